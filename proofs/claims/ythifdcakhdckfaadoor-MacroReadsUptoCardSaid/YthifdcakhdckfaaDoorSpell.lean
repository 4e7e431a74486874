/-
  Walk: token.Spell.
-/
import Derived.RangeFuncBox
import Derived.Test.YthifdcakhdckfaaDoorAll
import Derived.Test.YthifdcakhdckfaaDoorBStr
import Derived.Test.YthifdcakhdckfaaDoorSpellL
namespace Go.Proofs.YthifdcakhdckfaaDoor
open Go.RowKit Go.Proofs.YthifdcakhdckfaaDoorW.PrintWords
open PMacroWords (S62 k62 z62 rd_T62 k62_mk)
open Go.Lib (BuilderAt IsBuilder)
set_option linter.unusedVariables false
set_option linter.unusedSimpArgs false
attribute [local go_sem] Oper.semAt_some

/-- What holds between two rounds: the builder holds what has been spelt; the iterator's box stands. -/
structure SpI (w : World) (A : Option Addr) (c : Nat) (xs : List S62) (ps : List (Int × S62)) (W : World) : Prop where
  bld : IsBuilder 190 5 w.heap.size w.heap.size (Lib.byteCells (spellL (ps.map (·.2)))) W
  box : W.heap[w.heap.size + 1]? = some (.cells #[.slice A xs.length c] 38 (0, 0))
  below : Below w.heap.size w W
  pre : ps.map (·.2) <+: xs
theorem own_kept5 {W W' : World} {B n : Nat} {v : Value} {xs : List Value} {row : Option Nat} (h : W.ownsRow B 5 1 v n xs) (hg : W.grownBy W' row) (ne : ∀ (k : Nat) (cs : Array Value) (t : TypeId), W.heap[k]? = some (.cells cs t (0, 0)) → some k ≠ row) : W'.ownsRow B 5 1 v n xs := by
  refine World.ownsRow.kept h hg ?_
  rcases h.2 with ⟨rfl, _⟩ | ⟨g, cap, cur, rfl, hb, hg', _⟩
  · exact .inl rfl
  · exact .inr (fun e => ne g cur 5 hg' (by simpa [Value.ownBlock] using e))
theorem SpI.st {w : World} {A : Option Addr} {c : Nat} {xs : List S62} {ps : List (Int × S62)} {U V : World} (h : SpI w A c xs ps U) (hb : Below U.heap.size U V) : SpI w A c xs ps V := by
  refine ⟨?_, (hb.block _ (Array.getElem?_eq_some_iff.1 h.box).1).trans h.box, h.below.trans (hb.mono h.below.size), h.pre⟩
  have hg : U.grownBy V none := ⟨hb.os, hb.tape, hb.output, hb.size, fun k hk _ => hb.block k hk⟩
  rcases h.bld with ⟨h1, v, h2, h3, h4⟩ | ⟨h1, v, h2, h3, h4⟩
  · exact .inl ⟨h1, v, kept_at hg h2 (by simp), own_kept5 h3 hg (fun k cs t hk => by simp), h4⟩
  · exact .inr ⟨h1, v, kept_at hg h2 (by simp), own_kept5 h3 hg (fun k cs t hk => by simp), h4⟩
theorem pre_take {xs ys : List S62} (h : ys <+: xs) : ys = xs.take ys.length := List.prefix_iff_eq_take.1 h
theorem pre_new {xs : List S62} {pre : List (Int × S62)} {i : Int} {x : S62} (h : pre.map (·.2) <+: xs) (hx : xs[pre.length]? = some x) : (pre ++ [(i, x)]).map (·.2) <+: xs := by
  have h1 := pre_take h
  rw [List.length_map] at h1
  rw [List.map_append, h1]
  have : xs.take pre.length ++ List.map (fun p : Int × S62 => p.2) [(i, x)] = xs.take (pre.length + 1) := by rw [List.take_add_one, hx]; rfl
  rw [this]
  exact List.take_prefix _ _
theorem spell_new {xs : List S62} {pre : List (Int × S62)} {i : Int} {x : S62} (h : pre.map (·.2) <+: xs) (hx : xs[pre.length]? = some x) : spellL ((pre ++ [(i, x)]).map (·.2)) = spellL (pre.map (·.2)) ++ ((if pre.length = 0 then [] else sepT x) ++ bl x.f1) := by
  have h1 := pre_take h
  rw [List.length_map] at h1
  have hl := (List.getElem?_eq_some_iff.1 hx).1
  have h2 := spellL_take xs pre.length hl
  have hg : xs.getD pre.length z62 = x := by rw [List.getD_eq_getElem?_getD, hx]; rfl
  rw [hg] at h2
  have h3 : (pre ++ [(i, x)]).map (·.2) = xs.take (pre.length + 1) := by rw [List.map_append, h1, List.take_add_one, hx]; rfl
  rw [h3, h2, ← h1]
theorem spell_new_len {xs : List S62} {pre : List (Int × S62)} {i : Int} {x : S62} (h : pre.map (·.2) <+: xs) (hx : xs[pre.length]? = some x) : (spellL ((pre ++ [(i, x)]).map (·.2))).length ≤ (spellL xs).length := by
  have h1 := pre_take h
  rw [List.length_map] at h1
  have h3 : (pre ++ [(i, x)]).map (·.2) = xs.take (pre.length + 1) := by rw [List.map_append, h1, List.take_add_one, hx]; rfl
  rw [h3]
  exact spellL_take_len xs _
set_option maxRecDepth 100000 in
set_option maxHeartbeats 4000000 in
theorem spell_in (n : Nat) (hn4 : 4 ≤ n) (xs : List S62) (hn : xs.length < 4294967296) (hs : (spellL xs).length < 4294967281) (v : Value) (w : World) (h : TokAt w v xs) :
    CallsIn Fence.wide n Tryd.prog 62 #[v] w fun e w' => e = .returned (.string ⟨(spellL xs).toArray⟩) ∧ Below w.heap.size w w' := by
  obtain ⟨A, c, rfl, hc, hr⟩ := h
  have HR := Lib.hid hr
  clear hr
  refine callsIn_of_wp_marks Tryd.func62 rfl trivial ?_ rfl
  simp only [Tryd.ntmps62, List.size_toArray, List.length_cons, List.length_nil, Nat.reduceAdd, Nat.reduceSub, Array.replicate_succ, Array.replicate_zero, List.push_toArray, List.append_toArray, List.nil_append, List.cons_append]
  gi_wp2_with (fail)
  refine callW ((all_any A xs.length c _).mono ?_)
  rintro e w1 ⟨rfl, rfl⟩
  gi_wp2
  obtain ⟨W0, hW0⟩ : ∃ W0, (w.alloc (.cells #[.pointer none, .slice none 0 0] 190)).alloc (.cells #[.slice A xs.length c] 38) = W0 := ⟨_, rfl⟩
  have hsz : W0.heap.size = w.heap.size + 2 := by rw [← hW0]; simp
  have HL0 : SpI w A c xs [] W0 := by
    rw [← hW0]
    refine ⟨.inl ⟨Nat.le_refl _, .slice none 0 0, hold_old (World.alloc_heap_new w _), World.ownsRow_nil _ _ _ _, by simp [Value.ownBlock]⟩, hold_new (by simp), ((Below.refl _ w).alloc (Nat.le_refl _) _).alloc (by simp) _, by simp⟩
  try rw [hW0]
  clear hW0
  refine Rng.wpIn_rangeS (α := Int × S62) rfl (by omega) (gf := 175) (lb := #[.pointer (some ⟨w.heap.size + 1, 0, none⟩)]) rfl trivial (enters_of Tryd.func175 (by kernel_rfl) rfl)
    (encs := fun p => #[.int .i64 p.1, tokV p.2]) (St := fun U V => Below U.heap.size U V) (Kp := Below w.heap.size) (Can := fun pre p => p.1 = (pre.length : Int) ∧ xs[pre.length]? = some p.2) (Cont := fun _ => True) (S := fun ps _ => ps.map (·.2) = xs) (Sp := fun _ _ => True)
    ?seq ?keeps ?kt ?kb (fun _ => rfl) (fun _ _ _ _ h _ _ => h) (fun _ _ _ _ _ _ _ => trivial)
    (SpI w A c xs) (fun _ _ _ => False) ?own (fun _ _ _ _ _ h _ _ => h) ?st (fun _ _ _ _ h _ => h) HL0
    (fun p a' W => ∃ Bx, W0.heap.size ≤ Bx ∧ W.heap[Bx]? = some (.cells #[.int .i64 p.2.f0, .string p.2.f1, .string p.2.f2, .int .i64 p.2.f3, .bool p.2.f4, .bool p.2.f5] 62 (0, 0)) ∧ a' = { tmps := #[.slice A xs.length c, undef, .string ⟨#[]⟩, .pointer (some ⟨w.heap.size, 0, none⟩), .int .i64 p.1, .pointer (some ⟨Bx, 0, none⟩), .slice A xs.length c, .func (.func 175) #[] #[.pointer (some ⟨w.heap.size + 1, 0, none⟩)], .int .i64 p.1, tokV p.2, undef, undef, undef, undef, undef, undef, undef, undef, undef, undef, undef, undef, undef, undef, undef], defers := [] })
    ?ownax ?assign ?body ?done ?stop
  case seq =>
    intro l J Jx W hl hbl hJs hJxs hY hJ0
    refine all1_in (n - 1) l (w.heap.size + 1) w A c xs hn HR.out hc J Jx (fun s U V h1 h2 => hJs s U V h1 h2) ?_ W (HL0.below.trans (hbl.mono (by omega))) ((hbl.block _ (by omega)).trans HL0.box) hJ0
    intro pre p W1 h1 h2
    obtain ⟨fn, tmps, assign, body, hy, hR⟩ := hY pre p W1 h1 h2
    refine ⟨fn, tmps, assign, body, hy, hR.mono ?_⟩
    rintro e W' (⟨h3, h4, h5, _⟩ | ⟨h3, h4, _⟩)
    · exact .inl ⟨h3, h4, h5⟩
    · exact .inr ⟨h3, h4⟩
  case keeps => exact fun U V h => ⟨h.size, fun k o _ hk _ => (h.block k (Array.getElem?_eq_some_iff.1 hk).1).trans hk⟩
  case kt => exact fun h1 h2 => h1.trans h2
  case kb =>
    intro W l o o' hl _ _ _
    exact ⟨rfl, rfl, rfl, by simp, fun k hk => World.putObj_heap_other (by omega)⟩
  case own =>
    rintro ps W W' row h hg hr
    have ne : ∀ {k cs t}, W.heap[k]? = some (.cells cs t (0, 0)) → some k ≠ row := by
      intro k cs t hk e
      obtain ⟨o, ho, hc⟩ := (hr k e.symm).2
      rw [hk] at ho; cases ho; cases hc
    refine ⟨?_, kept_at hg h.box (ne h.box), h.below.grown hg h.below.size (fun k e => by have := (hr k e).1; omega), h.pre⟩
    rcases h.bld with ⟨h1, v, h2, h3, h4⟩ | ⟨h1, v, h2, h3, h4⟩
    · exact .inl ⟨h1, v, kept_at hg h2 (ne h2), own_kept5 h3 hg (fun k cs t hk => ne hk), h4⟩
    · exact .inr ⟨h1, v, kept_at hg h2 (ne h2), own_kept5 h3 hg (fun k cs t hk => ne hk), h4⟩
  case st => exact fun ps U V h hb => h.st hb
  case ownax =>
    rintro p a' _ W W' row ⟨Bx, h1, h2, h3⟩ hg hr
    refine ⟨Bx, h1, kept_at hg h2 (fun e => ?_), h3⟩
    obtain ⟨o, ho, hc⟩ := (hr _ e.symm).2
    rw [h2] at ho; cases ho; cases hc
  case assign =>
    intro l pre p W K hI hcan hK
    have hW := (Array.getElem?_eq_some_iff.1 hI.box).1
    clear hcan
    dsimp only [tokV] at hK ⊢
    gi_wp2
    have hBa : Below W.heap.size W (W.alloc (.cells #[.int .i64 p.2.f0, .string p.2.f1, .string p.2.f2, .int .i64 p.2.f3, .bool p.2.f4, .bool p.2.f5] 62)) := (Below.refl _ W).alloc (Nat.le_refl _) _
    exact hK _ _ ((KeepsOthers.alloc _ _).from _) (hBa.mono hI.below.size) (hI.st hBa) ⟨W.heap.size, by omega, World.alloc_heap_new _ _, rfl⟩
  case body =>
    rintro l pre p a' W hl hI ⟨Bx, hBx, hbx, rfl⟩ ⟨hp1, hp2⟩
    obtain ⟨pi, x⟩ := p
    dsimp only at hp1 hp2 hbx ⊢
    subst hp1
    have hW := (Array.getElem?_eq_some_iff.1 hI.box).1
    have x1 : W.cell? ⟨Bx, 1, none⟩ = some (.string x.f1) := by simp [World.cell?, hbx]
    have x4 : W.cell? ⟨Bx, 4, none⟩ = some (.bool x.f4) := by simp [World.cell?, hbx]
    have x5 : W.cell? ⟨Bx, 5, none⟩ = some (.bool x.f5) := by simp [World.cell?, hbx]
    have hnew := spell_new (i := (pre.length : Int)) hI.pre hp2
    have hlen := spell_new_len (i := (pre.length : Int)) hI.pre hp2
    have hpre := pre_new (i := (pre.length : Int)) hI.pre hp2
    have HN := Lib.hid hnew
    have HP := Lib.hid hpre
    have HI := Lib.hid hI
    have HX := Lib.hid hbx
    rw [hnew] at hlen
    simp only [List.length_append] at hlen
    have hbs : (bl x.f1).length = x.f1.size := bl_length _
    have hA : (spellL (pre.map (·.2))).length + x.f1.size < 4294967296 := by omega
    have hB : (spellL (pre.map (·.2))).length < 4294967296 := by omega
    have hD : ∀ q : UInt8, (spellL (pre.map (·.2)) ++ [q]).length + x.f1.size < 4294967296 := fun q => by rw [List.length_append, List.length_singleton]; omega
    clear hnew hpre hI hbx hp2
    by_cases h0 : pre.length = 0
    · have h0' : ((pre.length : Int) == 0) = true := by rw [h0]; rfl
      gi_wp2_with (fail)
      refine callR ((Bd.writeString_any w.heap.size w.heap.size _ x.f1 W HI.out.bld hA HI.out.below.size).mono ?_)
      rintro e w3 ⟨⟨v3, rfl⟩, hb3, hB3, hK3⟩
      gi_wp2
      refine ⟨hK3.1.from _, hB3, ⟨?_, hK3.2 _ _ _ HI.out.box (by decide) (by decide), HI.out.below.trans hB3, HP.out⟩, trivial⟩
      rw [HN.out, if_pos h0, List.nil_append]
      exact hb3
    · have h0' : ((pre.length : Int) == 0) = false := by rw [beq_eq_false_iff_ne]; omega
      cases h5 : x.f5 with
      | true =>
        rw [h5] at x5
        have H5 := Lib.hid h5
        clear h5
        gi_wp2_with (fail)
        refine callR ((Bd.writeByte_any w.heap.size w.heap.size _ 10 W HI.out.bld hB HI.out.below.size).mono ?_)
        rintro e w2 ⟨⟨v2, rfl⟩, hb2, hB2, hK2⟩
        have hbx2 := hK2.2 _ _ _ HX.out (by decide) (by decide)
        have hbox2 := hK2.2 _ _ _ HI.out.box (by decide) (by decide)
        have y1 : w2.cell? ⟨Bx, 1, none⟩ = some (.string x.f1) := by simp [World.cell?, hbx2]
        have hbel := HI.out.below.trans hB2
        clear x1 x4 x5
        gi_wp2_with (fail)
        refine callR ((Bd.writeString_any w.heap.size w.heap.size _ x.f1 w2 hb2 (hD _) hbel.size).mono ?_)
        rintro e w3 ⟨⟨v3, rfl⟩, hb3, hB3, hK3⟩
        gi_wp2
        refine ⟨(hK2.1.trans hK3.1).from _, hB2.trans hB3, ⟨?_, hK3.2 _ _ _ hbox2 (by decide) (by decide), hbel.trans hB3, HP.out⟩, trivial⟩
        rw [HN.out, if_neg h0, ← List.append_assoc]
        unfold sepT
        rw [H5.out]
        exact hb3
      | false =>
        rw [h5] at x5
        have H5 := Lib.hid h5
        clear h5
        cases h4 : x.f4 with
        | true =>
          rw [h4] at x4
          have H4 := Lib.hid h4
          clear h4
          gi_wp2_with (fail)
          refine callR ((Bd.writeByte_any w.heap.size w.heap.size _ 32 W HI.out.bld hB HI.out.below.size).mono ?_)
          rintro e w2 ⟨⟨v2, rfl⟩, hb2, hB2, hK2⟩
          have hbx2 := hK2.2 _ _ _ HX.out (by decide) (by decide)
          have hbox2 := hK2.2 _ _ _ HI.out.box (by decide) (by decide)
          have y1 : w2.cell? ⟨Bx, 1, none⟩ = some (.string x.f1) := by simp [World.cell?, hbx2]
          have hbel := HI.out.below.trans hB2
          clear x1 x4 x5
          gi_wp2_with (fail)
          refine callR ((Bd.writeString_any w.heap.size w.heap.size _ x.f1 w2 hb2 (hD _) hbel.size).mono ?_)
          rintro e w3 ⟨⟨v3, rfl⟩, hb3, hB3, hK3⟩
          gi_wp2
          refine ⟨(hK2.1.trans hK3.1).from _, hB2.trans hB3, ⟨?_, hK3.2 _ _ _ hbox2 (by decide) (by decide), hbel.trans hB3, HP.out⟩, trivial⟩
          rw [HN.out, if_neg h0, ← List.append_assoc]
          unfold sepT
          rw [H5.out, H4.out]
          exact hb3
        | false =>
          rw [h4] at x4
          have H4 := Lib.hid h4
          clear h4
          gi_wp2_with (fail)
          refine callR ((Bd.writeString_any w.heap.size w.heap.size _ x.f1 W HI.out.bld hA HI.out.below.size).mono ?_)
          rintro e w3 ⟨⟨v3, rfl⟩, hb3, hB3, hK3⟩
          gi_wp2
          refine ⟨hK3.1.from _, hB3, ⟨?_, hK3.2 _ _ _ HI.out.box (by decide) (by decide), HI.out.below.trans hB3, HP.out⟩, trivial⟩
          rw [HN.out, if_neg h0]
          unfold sepT
          rw [H5.out, H4.out]
          exact hb3
  case done =>
    rintro D ps W hD hps hI hK
    have hI' := hI.bld
    rw [hps] at hI'
    gi_wp2_with (fail)
    refine callW ((Bd.string_any w.heap.size w.heap.size (spellL xs) W hI' hI.below.size).mono ?_)
    rintro e w2 ⟨rfl, hB2, hK2⟩
    have hD2 := hK2.same D _ hK rfl
    have hfin := hI.below.trans hB2
    clear hI hI'
    gi_wp2
    refine ⟨by simp, .inl ⟨_, _, rfl, run_takeDeferred hD2, ?_⟩⟩
    refine ⟨.string ⟨(spellL xs).toArray⟩, ?_, rfl, hfin.trans (belowK_b (w := w) (Nat.le_refl _) _ D _ _ (by omega) hD2 rfl rfl)⟩
    simp [results, Tryd.f62, go_sem]
  case stop => exact fun D c pre W _ _ h _ => h.elim
theorem spell_any (xs : List S62) (hn : xs.length < 4294967296) (hs : (spellL xs).length < 4294967281) (v : Value) (w : World) (h : TokAt w v xs) :
    Calls Tryd.prog 62 #[v] w fun e w' => e = .returned (.string ⟨(spellL xs).toArray⟩) ∧ Below w.heap.size w w' := callsIn_wide.1 (spell_in 4 (Nat.le_refl _) xs hn hs v w h)
end Go.Proofs.YthifdcakhdckfaaDoor

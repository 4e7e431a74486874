/-
  Walk: the reference's params.
-/
import Derived.Deep.RegionHeldLaw
import Derived.Deep.AppendLies
import Derived.IntWalk
import Derived.Test.YthifdcakhdckfaaDoorMBox
import Derived.Test.YthifdcakhdckfaaDoorRefRight
namespace Go.Proofs.YthifdcakhdckfaaDoor
open Go.RowKit Go.Proofs.YthifdcakhdckfaaDoorW.PrintWords
open PMacroWords (S62 k62 z62 rd_T62 k62_mk)
set_option linter.unusedVariables false
set_option linter.unusedSimpArgs false
attribute [local go_sem] hidLoad

theorem parL_shut {t : S62} {r : List S62} (h : bl t.f1 = [41]) : parL (t :: r) = some ([], false, 1) := by
  simp only [parL]
  rw [if_pos (by rw [h]; rfl)]
theorem parL_open {t : S62} {r : List S62} (h : ¬ bl t.f1 = [41]) : parL (t :: r) = parGo (t :: r) [] := by
  simp only [parL]
  rw [if_neg (by rw [beq_iff_eq]; exact h)]
theorem parGo_step (xs : List S62) (ps : List ByteArray) (i : Nat) (h : i + 1 < xs.length) : parGo (xs.drop i) ps =
    (if bl (xs.getD i z62).f1 == dotsL && bl (xs.getD (i + 1) z62).f1 == [41] then some (ps, true, 2)
    else if (xs.getD i z62).f0 == 1 && bl (xs.getD (i + 1) z62).f1 == [41] then some (ps ++ [(xs.getD i z62).f1], false, 2)
    else if (xs.getD i z62).f0 == 1 && bl (xs.getD (i + 1) z62).f1 == [44] then (parGo (xs.drop (i + 2)) (ps ++ [(xs.getD i z62).f1])).map fun q => (q.1, q.2.1, q.2.2 + 2)
    else none) := by
  have h1 : xs.drop i = xs.getD i z62 :: xs.getD (i + 1) z62 :: xs.drop (i + 2) := by
    rw [List.drop_eq_getElem_cons (by omega : i < xs.length), List.drop_eq_getElem_cons (by omega : i + 1 < xs.length)]
    simp only [List.getD_eq_getElem?_getD, List.getElem?_eq_getElem (by omega : i < xs.length), List.getElem?_eq_getElem h, Option.getD_some]
  rw [h1, parGo]
theorem parGo_end (xs : List S62) (ps : List ByteArray) (i : Nat) (h : ¬ i + 1 < xs.length) : parGo (xs.drop i) ps = none := by
  by_cases hi : i < xs.length
  · rw [List.drop_eq_getElem_cons hi, List.drop_of_length_le (by omega)]; rfl
  · rw [List.drop_of_length_le (by omega)]; rfl
/-- So far, and what is still to come. -/
def ParAt (xs : List S62) (i : Nat) (ps : List ByteArray) : Prop := parGo xs [] = (parGo (xs.drop i) ps).map fun q => (q.1, q.2.1, q.2.2 + i)
theorem ParAt.start (xs : List S62) : ParAt xs 0 [] := by unfold ParAt; rw [List.drop_zero]; simp
theorem ParAt.dots {xs : List S62} {i : Nat} {ps : List ByteArray} (h : ParAt xs i ps) (hl : i + 1 < xs.length) (h1 : bl (xs.getD i z62).f1 = dotsL) (h2 : bl (xs.getD (i + 1) z62).f1 = [41]) : parGo xs [] = some (ps, true, i + 2) := by
  unfold ParAt at h
  rw [h, parGo_step xs ps i hl, h1, h2, if_pos (by rfl)]
  simp; omega
theorem ParAt.last {xs : List S62} {i : Nat} {ps : List ByteArray} (h : ParAt xs i ps) (hl : i + 1 < xs.length) (h0 : ¬ (bl (xs.getD i z62).f1 = dotsL ∧ bl (xs.getD (i + 1) z62).f1 = [41])) (h1 : (xs.getD i z62).f0 = 1) (h2 : bl (xs.getD (i + 1) z62).f1 = [41]) : parGo xs [] = some (ps ++ [(xs.getD i z62).f1], false, i + 2) := by
  unfold ParAt at h
  rw [h, parGo_step xs ps i hl, if_neg (by simp only [Bool.and_eq_true, beq_iff_eq]; exact h0), h1, h2, if_pos (by rfl)]
  simp; omega
theorem ParAt.more {xs : List S62} {i : Nat} {ps : List ByteArray} (h : ParAt xs i ps) (hl : i + 1 < xs.length) (h1 : (xs.getD i z62).f0 = 1) (h2 : bl (xs.getD (i + 1) z62).f1 = [44]) : ParAt xs (i + 2) (ps ++ [(xs.getD i z62).f1]) := by
  unfold ParAt at h ⊢
  rw [h, parGo_step xs ps i hl, h1, h2, if_neg (by simp), if_neg (by simp), if_pos (by rfl), Option.map_map]
  congr 1
  funext q
  simp; omega
theorem ParAt.bad {xs : List S62} {i : Nat} {ps : List ByteArray} (h : ParAt xs i ps) (hl : i + 1 < xs.length) (h0 : ¬ (bl (xs.getD i z62).f1 = dotsL ∧ bl (xs.getD (i + 1) z62).f1 = [41])) (h1 : ¬ ((xs.getD i z62).f0 = 1 ∧ (bl (xs.getD (i + 1) z62).f1 = [41] ∨ bl (xs.getD (i + 1) z62).f1 = [44]))) : parGo xs [] = none := by
  unfold ParAt at h
  rw [h, parGo_step xs ps i hl, if_neg (by simp only [Bool.and_eq_true, beq_iff_eq]; exact h0), if_neg (by simp only [Bool.and_eq_true, beq_iff_eq]; exact fun h => h1 ⟨h.1, .inl h.2⟩), if_neg (by simp only [Bool.and_eq_true, beq_iff_eq]; exact fun h => h1 ⟨h.1, .inr h.2⟩)]
  rfl
theorem ParAt.stop {xs : List S62} {i : Nat} {ps : List ByteArray} (h : ParAt xs i ps) (hl : ¬ i + 1 < xs.length) : parGo xs [] = none := by
  unfold ParAt at h
  rw [h, parGo_end xs ps i hl]
  rfl
/-- What a walk of params comes to. -/
def ParsEnd (w : World) (g : Nat) (nm : ByteArray) (fn : Bool) (vb : Value) (xs : List S62) (e : Ending) (w' : World) : Prop :=
  ∃ (k : Int) (v' : Value) (ps : List ByteArray) (more : Bool), e = .returned (.int .i64 k) ∧ MBox w' g nm fn v' more vb ∧ StrRow w.heap.size w' v' ps ∧ w.grownBy w' (some g) ∧
    (parL xs = none → k < 0) ∧ (∀ q, parL xs = some q → k = (q.2.2 : Int) ∧ ps = q.1 ∧ more = q.2.1)
theorem cell_new1 (w : World) (t : TypeId) (a : Value) : ∀ j u, [a][j]? = some u → (w.alloc (.cells #[a] t)).cell? ((⟨w.heap.size, 0, none⟩ : Addr).add j) = some u := by
  intro j u hj
  have hh := World.alloc_heap_new w (.cells #[a] t)
  rcases j with _ | j
  · simp at hj
    have : ((⟨w.heap.size, 0, none⟩ : Addr).add 0) = ⟨w.heap.size, 0, none⟩ := by simp [Addr.add]
    rw [this, ← hj]
    unfold World.cell?
    rw [hh]
    rfl
  · simp at hj
set_option maxRecDepth 100000 in
set_option maxHeartbeats 4000000 in
theorem refPars_any (xs : List S62) (hn : xs.length < 4294967296) (g : Nat) (nm : ByteArray) (fn : Bool) (v vb : Value) (hvb : ∀ k n, vb ≠ .int k n) (w : World) (hg : MBox w g nm fn (.slice none 0 0) false vb) (hx : TokAt w v xs) :
    Calls Tryd.prog 57 #[.pointer (some ⟨g, 0, none⟩), v] w fun e w' => ParsEnd w g nm fn vb xs e w' := by
  obtain ⟨i0, hi, hz0, hz1, hz2⟩ := info_parts info9s
  obtain ⟨A, c, rfl, hc, hr⟩ := hx
  have hx : TokAt w (.slice A xs.length c) xs := ⟨A, c, rfl, hc, hr⟩
  have hgl := hg.lt
  have HG := Lib.hid hg
  have HX := Lib.hid hx
  have HVB := Lib.hid hvb
  clear hr hg hx hvb
  go_enter Tryd.func57, Tryd.ntmps57
  by_cases h0 : xs.length = 0
  · have h0' : ¬ 0 < xs.length := by omega
    have h0'' : decide (0 < xs.length) = false := decide_eq_false h0'
    have HP := Lib.hid (show parL xs = parGo xs [] by rw [List.eq_nil_of_length_eq_zero h0]; rfl)
    clear h0
    go_wp2_with (fail)
    go_loopw [5] (fun v5 wr => ∃ (i : Nat) (ps : List ByteArray) (v' : Value), v5 = .int .i64 (i : Int) ∧ i ≤ xs.length ∧ ps.length ≤ i ∧ Hid (ParAt xs i ps) ∧ Hid (MBox wr g nm fn v' false vb) ∧ Hid (StrRow w.heap.size wr v' ps) ∧ Hid (w.grownBy wr (some g))) (fun v5 _ => match v5 with | .int _ i => xs.length - i.toNat | _ => 0)
    case atStart => exact ⟨0, [], _, rfl, by omega, by simp, Lib.hid (ParAt.start xs), HG, Lib.hid (StrRow.nil _ _), Lib.hid (World.grownBy.refl w _)⟩
    case round =>
      obtain ⟨i, ps, v', rfl, hi6, hpl, HPA, HBX, HRW, HGW⟩ := hrel
      by_cases hl1 : i + 1 < xs.length
      · exact absurd hl1 (by omega)
      · have hl1' : decide ((i : Int) + 1 < (xs.length : Int)) = false := by simp; omega
        have HN := Lib.hid (HPA.out.stop hl1)
        clear hl1
        go_wp2
        go_ret
        exact ⟨-1, _, ps, false, rfl, HBX.out, HRW.out, HGW.out, fun _ => by omega, fun q hq => by rw [HP.out, HN.out] at hq; cases hq⟩
  · obtain ⟨A', c', hA', hc', hr'⟩ := HX.out
    have hC : Kd.C k62 w A xs.length xs := by injection hA' with h1 _ _; rw [h1]; exact hr'
    clear hA' hc' hr'
    obtain ⟨ad0, x0, hA0, hx0, p0, p1, p2, p3, p4, p5⟩ := tok_cells hC (by omega : 0 < xs.length)
    cases hA0
    have r0 : w.cell? ad0 = some (.int .i64 x0.f0) := by simpa [Addr.add] using p0
    have r1 : w.cell? ⟨ad0.block, ad0.off + 1, none⟩ = some (.string x0.f1) := by simpa [Addr.add] using p1
    have h0' : 0 < xs.length := by omega
    have h0'' : decide (0 < xs.length) = true := decide_eq_true h0'
    have hcons : ∃ t r, xs = t :: r ∧ t = x0 := by
      cases hxs : xs with
      | nil => rw [hxs] at h0'; simp at h0'
      | cons t r => exact ⟨t, r, rfl, by rw [hxs] at hx0; exact hx0⟩
    have HC0 := Lib.hid hcons
    clear p0 p1 p2 p3 p4 p5 hx0 hC h0 hcons
    by_cases s0 : x0.f1.toList = [41]
    · have s0' : (x0.f1.toList == [41]) = true := by rw [s0]; rfl
      have HP := Lib.hid (show parL xs = some ([], false, 1) by obtain ⟨t, r, e1, e2⟩ := HC0.out; rw [e1, e2]; exact parL_shut (by rw [← toList_bl]; exact s0))
      clear s0
      go_wp2
      go_ret
      refine ⟨1, _, [], false, rfl, HG.out, StrRow.nil _ _, World.grownBy.refl w _, (fun h => by rw [HP.out] at h; cases h), fun q hq => ?_⟩
      rw [HP.out] at hq
      cases hq
      exact ⟨rfl, rfl, rfl⟩
    · have s0' : (x0.f1.toList == [41]) = false := by rw [beq_eq_false_iff_ne]; exact s0
      have HP := Lib.hid (show parL xs = parGo xs [] by obtain ⟨t, r, e1, e2⟩ := HC0.out; rw [e1, e2]; exact parL_open (by rw [← toList_bl]; exact s0))
      clear s0
      go_wp2_with (fail)
      go_loopw [5] (fun v5 wr => ∃ (i : Nat) (ps : List ByteArray) (v' : Value), v5 = .int .i64 (i : Int) ∧ i ≤ xs.length ∧ ps.length ≤ i ∧ Hid (ParAt xs i ps) ∧ Hid (MBox wr g nm fn v' false vb) ∧ Hid (StrRow w.heap.size wr v' ps) ∧ Hid (w.grownBy wr (some g))) (fun v5 _ => match v5 with | .int _ i => xs.length - i.toNat | _ => 0)
      case atStart => exact ⟨0, [], _, rfl, by omega, by simp, Lib.hid (ParAt.start xs), HG, Lib.hid (StrRow.nil _ _), Lib.hid (World.grownBy.refl w _)⟩
      case round =>
        obtain ⟨i, ps, v', rfl, hi6, hpl, HPA, HBX, HRW, HGW⟩ := hrel
        by_cases hl1 : i + 1 < xs.length
        · have hl1' : decide ((i : Int) + 1 < (xs.length : Int)) = true := by simp; omega
          have hl1'' : (i : Int) + 1 < (xs.length : Int) := by omega
          have hl0 : (i : Int) < (xs.length : Int) := by omega
          have hx8 := HX.out.turn (W' := wr) (HG.out.noInt (by simp) HVB.out) (fun b hb hne => HGW.out.block b hb (by intro e; injection e with e; exact hne e))
          obtain ⟨A0, c0, hA0, hc0, hr0⟩ := hx8
          have hC : Kd.C k62 wr (some ad0) xs.length xs := by injection hA0 with h1 _ _; rw [h1]; exact hr0
          clear hA0 hc0 hr0
          obtain ⟨ad, x, hA, hx1, a0, a1, a2, a3, a4, a5⟩ := tok_cells hC (by omega : i < xs.length)
          cases hA
          obtain ⟨ad2, y, hA2, hy1, y0, y1, y2, y3, y4, y5⟩ := tok_cells hC hl1
          cases hA2
          obtain ⟨A', cap, hv'⟩ := HRW.out.slice
          subst hv'
          have HX1 := Lib.hid hx1
          have HY1 := Lib.hid hy1
          have h9w : IntKind.i64.wrap ((i : Int) + 1) = (i : Int) + 1 := IntWalk.i64_in _ (by omega)
          have h9n : (0 : Int) ≤ (i : Int) + 1 := by omega
          have h9t : ((i : Int) + 1).toNat = i + 1 := by omega
          have c3 := HBX.out.c3
          have f3 := HBX.out.fz 3
          clear hC hx1 hy1 a2 a3 a4 a5 y2 y3 y4 y5
          by_cases hd : x.f1.toList = [46, 46, 46]
          · have hd' : (x.f1.toList == [46, 46, 46]) = true := by rw [hd]; rfl
            by_cases hy : y.f1.toList = [41]
            · have hy' : (y.f1.toList == [41]) = true := by rw [hy]; rfl
              have HQ := Lib.hid (HPA.out.dots hl1 (by rw [HX1.out, ← toList_bl, hd]; rfl) (by rw [HY1.out, ← toList_bl, hy]))
              clear hd hy
              go_wp2
              go_ret
              refine ⟨(i : Int) + 2, _, ps, true, rfl, HBX.out.s3 true, World.ownsRow.kept HRW.out (grown_set (World.grownBy.refl wr _) 3 _) (.inr (fun e => by have := (HRW.out.block g e).1; omega)), grown_set HGW.out 3 _, (fun h => by rw [HP.out, HQ.out] at h; cases h), fun q hq => ?_⟩
              rw [HP.out, HQ.out] at hq
              cases hq
              exact ⟨by push_cast; rfl, rfl, rfl⟩
            · have hy' : (y.f1.toList == [41]) = false := by rw [beq_eq_false_iff_ne]; exact hy
              have ND := Lib.hid (show ¬ (bl x.f1 = dotsL ∧ bl y.f1 = [41]) from fun h => hy (by rw [toList_bl]; exact h.2))
              have HNY := Lib.hid hy
              clear hd hy
              by_cases hk : x.f0 = 1
              · have hk' : (x.f0 != 1) = false := by simpa using hk
                have hk'' : (x.f0 == 1) = true := by simpa using hk
                have HK1 := Lib.hid hk
                clear hk
                go_wp2
                have b0' := HBX.out.fz 2
                have c2 := HBX.out.c2
                have d2 : ∀ o, (wr.alloc o).cell? ⟨g, 2, none⟩ = some (.slice A' ps.length cap) := fun o => oldC o c2
                have hrow' : ∀ o, World.ownsRow (wr.alloc o).drew w.heap.size 9 1 (.slice A' ps.length cap) ps.length (ps.map Value.string) := fun o => World.ownsRow.alloc HRW.out o
                have hsz' : ∀ o, (wr.alloc o).drew.heap.size = wr.heap.size + 1 := fun o => by simp
                have hbs' : ∀ o, w.heap.size ≤ (wr.alloc o).drew.heap.size := fun o => by rw [hsz']; have := HGW.out.size; omega
                have hb1 : ps.length + 1 ≤ maxLen := by simp only [maxLen]; omega
                have hb2 : (ps.length + 1) * 16 ≤ 140737488355328 := by omega
                obtain ⟨A3, c3', hA3, hc3', hr3⟩ := HX.out
                obtain ⟨ad3, x3, hA3', hx3, q0, q1, _, _, _, _⟩ := tok_cells hr3 (by omega : i < xs.length)
                have hA4 : A3 = some ad0 := by injection hA3 with h1 _ _; exact h1.symm
                rw [hA4] at hA3'
                cases hA3'
                have hlt0 := World.block_lt_of_cell? _ _ q0
                have hbne := cell_block_ne a0 (HBX.out.noInt (by simp) HVB.out)
                have KEEP := Lib.hid (show ∀ (o : Obj) (w5 : World), (wr.alloc o).drew.grownBy w5 (Value.slice A' ps.length cap).ownBlock → w5.cell? (ad0.add (i * 6)) = some (.int .i64 x.f0) ∧ w5.cell? ⟨(ad0.add (i * 6)).block, (ad0.add (i * 6)).off + 1, none⟩ = some (.string x.f1) from fun o w5 hg5 => ⟨keep_cell hlt0 HGW.out.size (fun r e => (HRW.out.block r e).1) hg5 a0, keep_cell (a := ⟨(ad0.add (i * 6)).block, (ad0.add (i * 6)).off + 1, none⟩) hlt0 HGW.out.size (fun r e => (HRW.out.block r e).1) hg5 a1⟩)
                have KEEP2 := Lib.hid (show ∀ (o : Obj) (w5 : World) (u : Value), (wr.alloc o).drew.grownBy w5 (Value.slice A' ps.length cap).ownBlock → (w5.setCell ⟨g, 2, none⟩ u).cell? (ad0.add (i * 6)) = some (.int .i64 x.f0) ∧ (w5.setCell ⟨g, 2, none⟩ u).cell? ⟨(ad0.add (i * 6)).block, (ad0.add (i * 6)).off + 1, none⟩ = some (.string x.f1) from fun o w5 u hg5 => ⟨keep_set hbne (KEEP.out o w5 hg5).1, keep_set (a := ⟨(ad0.add (i * 6)).block, (ad0.add (i * 6)).off + 1, none⟩) hbne (KEEP.out o w5 hg5).2⟩)
                obtain ⟨ad4, x4, hA4', hx4, q4, _, _, _, _, _⟩ := tok_cells hr3 hl1
                rw [hA4] at hA4'
                cases hA4'
                have hlt1 := World.block_lt_of_cell? _ _ q4
                have hbne1 := cell_block_ne y0 (HBX.out.noInt (by simp) HVB.out)
                have KEEPY := Lib.hid (show ∀ (o : Obj) (w5 : World) (u : Value), (wr.alloc o).drew.grownBy w5 (Value.slice A' ps.length cap).ownBlock → (w5.setCell ⟨g, 2, none⟩ u).cell? (ad0.add ((i + 1) * 6)) = some (.int .i64 y.f0) ∧ (w5.setCell ⟨g, 2, none⟩ u).cell? ⟨(ad0.add ((i + 1) * 6)).block, (ad0.add ((i + 1) * 6)).off + 1, none⟩ = some (.string y.f1) from fun o w5 u hg5 => ⟨keep_set hbne1 (keep_cell hlt1 HGW.out.size (fun r e => (HRW.out.block r e).1) hg5 y0), keep_set (a := ⟨(ad0.add ((i + 1) * 6)).block, (ad0.add ((i + 1) * 6)).off + 1, none⟩) hbne1 (keep_cell (a := ⟨(ad0.add ((i + 1) * 6)).block, (ad0.add ((i + 1) * 6)).off + 1, none⟩) hlt1 HGW.out.size (fun r e => (HRW.out.block r e).1) hg5 y1)⟩)
                clear hA3 hc3' hr3 hA4 hx3 hx4 q0 q1 q4 hlt0 hlt1 hbne hbne1
                rw [hidLoad_eq 44 (.tmp 52)]
                go_region_held_law (fun w' => w'.cell? (ad0.add (i * 6)) = some (.int .i64 x.f0) ∧ w'.cell? ⟨(ad0.add (i * 6)).block, (ad0.add (i * 6)).off + 1, none⟩ = some (.string x.f1)) (first | exact KEEP.out _ _ hgrow5 | exact KEEP2.out _ _ _ hgrow5 | go_keep)
                  ((refine step_append_lies _ rfl (.tmp 53) (.tmp 59) 44 rfl w.heap.size 9 i0 _ 1 16 Tryd.underlying44 hi hz0 hz1 hz2 rfl (by decide) (.slice A' ps.length cap) ps.length (ps.map Value.string) rfl (hrow' _) ⟨wr.heap.size, 0, none⟩ 1 1 [.string x.f1] rfl rfl (cell_new1 wr _ _) (by simp [Value.oneCell']) (Nat.le_refl 1) hb1 hb2 (hbs' _) (wr.heap.size + 1) (hsz' _) ?_; intro g1 cap1 w5 hown5 hgrow5 hor5 hlt5; have hbx5 := par_state HBX.out HRW.out hgl hgrow5; have e2' := hbx5.c2; have f2' := hbx5.fz 2))
                all_goals
                  have hfin := par_next HBX.out HRW.out hgl HGW.out hown5 hgrow5
                  have hky := KEEPY.out _ _ (.slice (some ⟨g1, 0, none⟩) (ps.length + 1) cap1) hgrow5
                  obtain ⟨W6, hW6⟩ : ∃ W6, w5.setCell ⟨g, 2, none⟩ (.slice (some ⟨g1, 0, none⟩) (ps.length + 1) cap1) = W6 := ⟨_, rfl⟩
                  rw [hW6] at hfin hky ⊢
                  obtain ⟨hb6, hr6, hg6⟩ := hfin
                  have hy60 := hky.1
                  have hy61 := hky.2
                  have HB6 := Lib.hid hb6
                  have HR6 := Lib.hid hr6
                  have HG6 := Lib.hid hg6
                  clear hW6 hown5 hgrow5 hbx5 e2' f2' hb6 hr6 hg6 hky b0' c2 d2 hrow' hsz' hbs' hb1 hb2 c3 f3 a0 a1 y0 y1 hor5 hlt5
                  by_cases hcm : y.f1.toList = [44]
                  · have hcm' : (y.f1.toList != [44]) = false := by rw [hcm]; rfl
                    have hcm2 : (y.f1.toList == [44]) = true := by rw [hcm]; rfl
                    have HPA2 := HPA.out.more hl1 (by rw [HX1.out]; exact HK1.out) (by rw [HY1.out, ← toList_bl]; exact hcm)
                    rw [HX1.out] at HPA2
                    have HPA2 := Lib.hid HPA2
                    clear hcm
                    go_wp2
                    go_roundw
                    case rel => exact ⟨i + 2, ps ++ [x.f1], _, rfl, hl1, by simp; omega, HPA2, HB6, HR6, HG6⟩
                    case measure => simp only []; omega
                  · have hcm' : (y.f1.toList != [44]) = true := by rw [bne_iff_ne]; exact hcm
                    have hcm2 : (y.f1.toList == [44]) = false := by rw [beq_eq_false_iff_ne]; exact hcm
                    have HN := Lib.hid (HPA.out.bad hl1 (by rw [HX1.out, HY1.out]; exact ND.out) (by rw [HY1.out, ← toList_bl]; rintro ⟨_, h | h⟩; exact HNY.out h; exact hcm h))
                    clear hcm
                    go_wp2
                    go_ret
                    exact ⟨-1, _, ps ++ [x.f1], false, rfl, HB6.out, HR6.out, HG6.out, fun _ => by omega, fun q hq => by rw [HP.out, HN.out] at hq; cases hq⟩
              · have hk' : (x.f0 != 1) = true := by simpa using hk
                have hk'' : (x.f0 == 1) = false := by simpa using hk
                have HN := Lib.hid (HPA.out.bad hl1 (by rw [HX1.out, HY1.out]; exact ND.out) (by rw [HX1.out]; exact fun h => hk h.1))
                clear hk
                go_wp2
                go_ret
                exact ⟨-1, _, ps, false, rfl, HBX.out, HRW.out, HGW.out, fun _ => by omega, fun q hq => by rw [HP.out, HN.out] at hq; cases hq⟩
          · have hd' : (x.f1.toList == [46, 46, 46]) = false := by rw [beq_eq_false_iff_ne]; exact hd
            have ND := Lib.hid (show ¬ (bl x.f1 = dotsL ∧ bl y.f1 = [41]) from fun h => hd (by rw [toList_bl]; exact h.1))
            clear hd
            by_cases hy : y.f1.toList = [41]
            · have hy' : (y.f1.toList == [41]) = true := by rw [hy]; rfl
              have HYY := Lib.hid hy
              clear hy
              by_cases hk : x.f0 = 1
              · have hk' : (x.f0 != 1) = false := by simpa using hk
                have hk'' : (x.f0 == 1) = true := by simpa using hk
                have HK1 := Lib.hid hk
                clear hk
                go_wp2
                have b0' := HBX.out.fz 2
                have c2 := HBX.out.c2
                have d2 : ∀ o, (wr.alloc o).cell? ⟨g, 2, none⟩ = some (.slice A' ps.length cap) := fun o => oldC o c2
                have hrow' : ∀ o, World.ownsRow (wr.alloc o).drew w.heap.size 9 1 (.slice A' ps.length cap) ps.length (ps.map Value.string) := fun o => World.ownsRow.alloc HRW.out o
                have hsz' : ∀ o, (wr.alloc o).drew.heap.size = wr.heap.size + 1 := fun o => by simp
                have hbs' : ∀ o, w.heap.size ≤ (wr.alloc o).drew.heap.size := fun o => by rw [hsz']; have := HGW.out.size; omega
                have hb1 : ps.length + 1 ≤ maxLen := by simp only [maxLen]; omega
                have hb2 : (ps.length + 1) * 16 ≤ 140737488355328 := by omega
                obtain ⟨A3, c3', hA3, hc3', hr3⟩ := HX.out
                obtain ⟨ad3, x3, hA3', hx3, q0, q1, _, _, _, _⟩ := tok_cells hr3 (by omega : i < xs.length)
                have hA4 : A3 = some ad0 := by injection hA3 with h1 _ _; exact h1.symm
                rw [hA4] at hA3'
                cases hA3'
                have hlt0 := World.block_lt_of_cell? _ _ q0
                have hbne := cell_block_ne a0 (HBX.out.noInt (by simp) HVB.out)
                have KEEP := Lib.hid (show ∀ (o : Obj) (w5 : World), (wr.alloc o).drew.grownBy w5 (Value.slice A' ps.length cap).ownBlock → w5.cell? (ad0.add (i * 6)) = some (.int .i64 x.f0) ∧ w5.cell? ⟨(ad0.add (i * 6)).block, (ad0.add (i * 6)).off + 1, none⟩ = some (.string x.f1) from fun o w5 hg5 => ⟨keep_cell hlt0 HGW.out.size (fun r e => (HRW.out.block r e).1) hg5 a0, keep_cell (a := ⟨(ad0.add (i * 6)).block, (ad0.add (i * 6)).off + 1, none⟩) hlt0 HGW.out.size (fun r e => (HRW.out.block r e).1) hg5 a1⟩)
                have KEEP2 := Lib.hid (show ∀ (o : Obj) (w5 : World) (u : Value), (wr.alloc o).drew.grownBy w5 (Value.slice A' ps.length cap).ownBlock → (w5.setCell ⟨g, 2, none⟩ u).cell? (ad0.add (i * 6)) = some (.int .i64 x.f0) ∧ (w5.setCell ⟨g, 2, none⟩ u).cell? ⟨(ad0.add (i * 6)).block, (ad0.add (i * 6)).off + 1, none⟩ = some (.string x.f1) from fun o w5 u hg5 => ⟨keep_set hbne (KEEP.out o w5 hg5).1, keep_set (a := ⟨(ad0.add (i * 6)).block, (ad0.add (i * 6)).off + 1, none⟩) hbne (KEEP.out o w5 hg5).2⟩)
                obtain ⟨ad4, x4, hA4', hx4, q4, _, _, _, _, _⟩ := tok_cells hr3 hl1
                rw [hA4] at hA4'
                cases hA4'
                have hlt1 := World.block_lt_of_cell? _ _ q4
                have hbne1 := cell_block_ne y0 (HBX.out.noInt (by simp) HVB.out)
                have KEEPY := Lib.hid (show ∀ (o : Obj) (w5 : World) (u : Value), (wr.alloc o).drew.grownBy w5 (Value.slice A' ps.length cap).ownBlock → (w5.setCell ⟨g, 2, none⟩ u).cell? (ad0.add ((i + 1) * 6)) = some (.int .i64 y.f0) ∧ (w5.setCell ⟨g, 2, none⟩ u).cell? ⟨(ad0.add ((i + 1) * 6)).block, (ad0.add ((i + 1) * 6)).off + 1, none⟩ = some (.string y.f1) from fun o w5 u hg5 => ⟨keep_set hbne1 (keep_cell hlt1 HGW.out.size (fun r e => (HRW.out.block r e).1) hg5 y0), keep_set (a := ⟨(ad0.add ((i + 1) * 6)).block, (ad0.add ((i + 1) * 6)).off + 1, none⟩) hbne1 (keep_cell (a := ⟨(ad0.add ((i + 1) * 6)).block, (ad0.add ((i + 1) * 6)).off + 1, none⟩) hlt1 HGW.out.size (fun r e => (HRW.out.block r e).1) hg5 y1)⟩)
                clear hA3 hc3' hr3 hA4 hx3 hx4 q0 q1 q4 hlt0 hlt1 hbne hbne1
                rw [hidLoad_eq 44 (.tmp 52)]
                go_region_held_law (fun w' => w'.cell? (ad0.add (i * 6)) = some (.int .i64 x.f0) ∧ w'.cell? ⟨(ad0.add (i * 6)).block, (ad0.add (i * 6)).off + 1, none⟩ = some (.string x.f1)) (first | exact KEEP.out _ _ hgrow5 | exact KEEP2.out _ _ _ hgrow5 | go_keep)
                  ((refine step_append_lies _ rfl (.tmp 53) (.tmp 59) 44 rfl w.heap.size 9 i0 _ 1 16 Tryd.underlying44 hi hz0 hz1 hz2 rfl (by decide) (.slice A' ps.length cap) ps.length (ps.map Value.string) rfl (hrow' _) ⟨wr.heap.size, 0, none⟩ 1 1 [.string x.f1] rfl rfl (cell_new1 wr _ _) (by simp [Value.oneCell']) (Nat.le_refl 1) hb1 hb2 (hbs' _) (wr.heap.size + 1) (hsz' _) ?_; intro g1 cap1 w5 hown5 hgrow5 hor5 hlt5; have hbx5 := par_state HBX.out HRW.out hgl hgrow5; have e2' := hbx5.c2; have f2' := hbx5.fz 2))
                all_goals
                  have hfin := par_next HBX.out HRW.out hgl HGW.out hown5 hgrow5
                  have hky := KEEPY.out _ _ (.slice (some ⟨g1, 0, none⟩) (ps.length + 1) cap1) hgrow5
                  obtain ⟨W6, hW6⟩ : ∃ W6, w5.setCell ⟨g, 2, none⟩ (.slice (some ⟨g1, 0, none⟩) (ps.length + 1) cap1) = W6 := ⟨_, rfl⟩
                  rw [hW6] at hfin hky ⊢
                  obtain ⟨hb6, hr6, hg6⟩ := hfin
                  have hy60 := hky.1
                  have hy61 := hky.2
                  have HB6 := Lib.hid hb6
                  have HR6 := Lib.hid hr6
                  have HG6 := Lib.hid hg6
                  clear hW6 hown5 hgrow5 hbx5 e2' f2' hb6 hr6 hg6 hky b0' c2 d2 hrow' hsz' hbs' hb1 hb2 c3 f3 a0 a1 y0 y1 hor5 hlt5
                  have HQ := Lib.hid (HPA.out.last hl1 (by rw [HX1.out, HY1.out]; exact ND.out) (by rw [HX1.out]; exact HK1.out) (by rw [HY1.out, ← toList_bl]; exact HYY.out))
                  rw [HX1.out] at HQ
                  go_wp2
                  go_ret
                  refine ⟨(i : Int) + 2, _, ps ++ [x.f1], false, rfl, HB6.out, HR6.out, HG6.out, (fun h => by rw [HP.out, HQ.out] at h; cases h), fun q hq => ?_⟩
                  rw [HP.out, HQ.out] at hq
                  cases hq
                  exact ⟨by push_cast; rfl, rfl, rfl⟩
              · have hk' : (x.f0 != 1) = true := by simpa using hk
                have hk'' : (x.f0 == 1) = false := by simpa using hk
                have HN := Lib.hid (HPA.out.bad hl1 (by rw [HX1.out, HY1.out]; exact ND.out) (by rw [HX1.out]; exact fun h => hk h.1))
                clear hk
                go_wp2
                go_ret
                exact ⟨-1, _, ps, false, rfl, HBX.out, HRW.out, HGW.out, fun _ => by omega, fun q hq => by rw [HP.out, HN.out] at hq; cases hq⟩
            · have hy' : (y.f1.toList == [41]) = false := by rw [beq_eq_false_iff_ne]; exact hy
              have HNY := Lib.hid hy
              clear hy
              by_cases hk : x.f0 = 1
              · have hk' : (x.f0 != 1) = false := by simpa using hk
                have hk'' : (x.f0 == 1) = true := by simpa using hk
                have HK1 := Lib.hid hk
                clear hk
                go_wp2
                have b0' := HBX.out.fz 2
                have c2 := HBX.out.c2
                have d2 : ∀ o, (wr.alloc o).cell? ⟨g, 2, none⟩ = some (.slice A' ps.length cap) := fun o => oldC o c2
                have hrow' : ∀ o, World.ownsRow (wr.alloc o).drew w.heap.size 9 1 (.slice A' ps.length cap) ps.length (ps.map Value.string) := fun o => World.ownsRow.alloc HRW.out o
                have hsz' : ∀ o, (wr.alloc o).drew.heap.size = wr.heap.size + 1 := fun o => by simp
                have hbs' : ∀ o, w.heap.size ≤ (wr.alloc o).drew.heap.size := fun o => by rw [hsz']; have := HGW.out.size; omega
                have hb1 : ps.length + 1 ≤ maxLen := by simp only [maxLen]; omega
                have hb2 : (ps.length + 1) * 16 ≤ 140737488355328 := by omega
                obtain ⟨A3, c3', hA3, hc3', hr3⟩ := HX.out
                obtain ⟨ad3, x3, hA3', hx3, q0, q1, _, _, _, _⟩ := tok_cells hr3 (by omega : i < xs.length)
                have hA4 : A3 = some ad0 := by injection hA3 with h1 _ _; exact h1.symm
                rw [hA4] at hA3'
                cases hA3'
                have hlt0 := World.block_lt_of_cell? _ _ q0
                have hbne := cell_block_ne a0 (HBX.out.noInt (by simp) HVB.out)
                have KEEP := Lib.hid (show ∀ (o : Obj) (w5 : World), (wr.alloc o).drew.grownBy w5 (Value.slice A' ps.length cap).ownBlock → w5.cell? (ad0.add (i * 6)) = some (.int .i64 x.f0) ∧ w5.cell? ⟨(ad0.add (i * 6)).block, (ad0.add (i * 6)).off + 1, none⟩ = some (.string x.f1) from fun o w5 hg5 => ⟨keep_cell hlt0 HGW.out.size (fun r e => (HRW.out.block r e).1) hg5 a0, keep_cell (a := ⟨(ad0.add (i * 6)).block, (ad0.add (i * 6)).off + 1, none⟩) hlt0 HGW.out.size (fun r e => (HRW.out.block r e).1) hg5 a1⟩)
                have KEEP2 := Lib.hid (show ∀ (o : Obj) (w5 : World) (u : Value), (wr.alloc o).drew.grownBy w5 (Value.slice A' ps.length cap).ownBlock → (w5.setCell ⟨g, 2, none⟩ u).cell? (ad0.add (i * 6)) = some (.int .i64 x.f0) ∧ (w5.setCell ⟨g, 2, none⟩ u).cell? ⟨(ad0.add (i * 6)).block, (ad0.add (i * 6)).off + 1, none⟩ = some (.string x.f1) from fun o w5 u hg5 => ⟨keep_set hbne (KEEP.out o w5 hg5).1, keep_set (a := ⟨(ad0.add (i * 6)).block, (ad0.add (i * 6)).off + 1, none⟩) hbne (KEEP.out o w5 hg5).2⟩)
                obtain ⟨ad4, x4, hA4', hx4, q4, _, _, _, _, _⟩ := tok_cells hr3 hl1
                rw [hA4] at hA4'
                cases hA4'
                have hlt1 := World.block_lt_of_cell? _ _ q4
                have hbne1 := cell_block_ne y0 (HBX.out.noInt (by simp) HVB.out)
                have KEEPY := Lib.hid (show ∀ (o : Obj) (w5 : World) (u : Value), (wr.alloc o).drew.grownBy w5 (Value.slice A' ps.length cap).ownBlock → (w5.setCell ⟨g, 2, none⟩ u).cell? (ad0.add ((i + 1) * 6)) = some (.int .i64 y.f0) ∧ (w5.setCell ⟨g, 2, none⟩ u).cell? ⟨(ad0.add ((i + 1) * 6)).block, (ad0.add ((i + 1) * 6)).off + 1, none⟩ = some (.string y.f1) from fun o w5 u hg5 => ⟨keep_set hbne1 (keep_cell hlt1 HGW.out.size (fun r e => (HRW.out.block r e).1) hg5 y0), keep_set (a := ⟨(ad0.add ((i + 1) * 6)).block, (ad0.add ((i + 1) * 6)).off + 1, none⟩) hbne1 (keep_cell (a := ⟨(ad0.add ((i + 1) * 6)).block, (ad0.add ((i + 1) * 6)).off + 1, none⟩) hlt1 HGW.out.size (fun r e => (HRW.out.block r e).1) hg5 y1)⟩)
                clear hA3 hc3' hr3 hA4 hx3 hx4 q0 q1 q4 hlt0 hlt1 hbne hbne1
                rw [hidLoad_eq 44 (.tmp 52)]
                go_region_held_law (fun w' => w'.cell? (ad0.add (i * 6)) = some (.int .i64 x.f0) ∧ w'.cell? ⟨(ad0.add (i * 6)).block, (ad0.add (i * 6)).off + 1, none⟩ = some (.string x.f1)) (first | exact KEEP.out _ _ hgrow5 | exact KEEP2.out _ _ _ hgrow5 | go_keep)
                  ((refine step_append_lies _ rfl (.tmp 53) (.tmp 59) 44 rfl w.heap.size 9 i0 _ 1 16 Tryd.underlying44 hi hz0 hz1 hz2 rfl (by decide) (.slice A' ps.length cap) ps.length (ps.map Value.string) rfl (hrow' _) ⟨wr.heap.size, 0, none⟩ 1 1 [.string x.f1] rfl rfl (cell_new1 wr _ _) (by simp [Value.oneCell']) (Nat.le_refl 1) hb1 hb2 (hbs' _) (wr.heap.size + 1) (hsz' _) ?_; intro g1 cap1 w5 hown5 hgrow5 hor5 hlt5; have hbx5 := par_state HBX.out HRW.out hgl hgrow5; have e2' := hbx5.c2; have f2' := hbx5.fz 2))
                all_goals
                  have hfin := par_next HBX.out HRW.out hgl HGW.out hown5 hgrow5
                  have hky := KEEPY.out _ _ (.slice (some ⟨g1, 0, none⟩) (ps.length + 1) cap1) hgrow5
                  obtain ⟨W6, hW6⟩ : ∃ W6, w5.setCell ⟨g, 2, none⟩ (.slice (some ⟨g1, 0, none⟩) (ps.length + 1) cap1) = W6 := ⟨_, rfl⟩
                  rw [hW6] at hfin hky ⊢
                  obtain ⟨hb6, hr6, hg6⟩ := hfin
                  have hy60 := hky.1
                  have hy61 := hky.2
                  have HB6 := Lib.hid hb6
                  have HR6 := Lib.hid hr6
                  have HG6 := Lib.hid hg6
                  clear hW6 hown5 hgrow5 hbx5 e2' f2' hb6 hr6 hg6 hky b0' c2 d2 hrow' hsz' hbs' hb1 hb2 c3 f3 a0 a1 y0 y1 hor5 hlt5
                  by_cases hcm : y.f1.toList = [44]
                  · have hcm' : (y.f1.toList != [44]) = false := by rw [hcm]; rfl
                    have hcm2 : (y.f1.toList == [44]) = true := by rw [hcm]; rfl
                    have HPA2 := HPA.out.more hl1 (by rw [HX1.out]; exact HK1.out) (by rw [HY1.out, ← toList_bl]; exact hcm)
                    rw [HX1.out] at HPA2
                    have HPA2 := Lib.hid HPA2
                    clear hcm
                    go_wp2
                    go_roundw
                    case rel => exact ⟨i + 2, ps ++ [x.f1], _, rfl, hl1, by simp; omega, HPA2, HB6, HR6, HG6⟩
                    case measure => simp only []; omega
                  · have hcm' : (y.f1.toList != [44]) = true := by rw [bne_iff_ne]; exact hcm
                    have hcm2 : (y.f1.toList == [44]) = false := by rw [beq_eq_false_iff_ne]; exact hcm
                    have HN := Lib.hid (HPA.out.bad hl1 (by rw [HX1.out, HY1.out]; exact ND.out) (by rw [HY1.out, ← toList_bl]; rintro ⟨_, h | h⟩; exact HNY.out h; exact hcm h))
                    clear hcm
                    go_wp2
                    go_ret
                    exact ⟨-1, _, ps ++ [x.f1], false, rfl, HB6.out, HR6.out, HG6.out, fun _ => by omega, fun q hq => by rw [HP.out, HN.out] at hq; cases hq⟩
              · have hk' : (x.f0 != 1) = true := by simpa using hk
                have hk'' : (x.f0 == 1) = false := by simpa using hk
                have HN := Lib.hid (HPA.out.bad hl1 (by rw [HX1.out, HY1.out]; exact ND.out) (by rw [HX1.out]; exact fun h => hk h.1))
                clear hk
                go_wp2
                go_ret
                exact ⟨-1, _, ps, false, rfl, HBX.out, HRW.out, HGW.out, fun _ => by omega, fun q hq => by rw [HP.out, HN.out] at hq; cases hq⟩
        · have hl1' : decide ((i : Int) + 1 < (xs.length : Int)) = false := by simp; omega
          have HN := Lib.hid (HPA.out.stop hl1)
          clear hl1
          go_wp2
          go_ret
          exact ⟨-1, _, ps, false, rfl, HBX.out, HRW.out, HGW.out, fun _ => by omega, fun q hq => by rw [HP.out, HN.out] at hq; cases hq⟩
end Go.Proofs.YthifdcakhdckfaaDoor

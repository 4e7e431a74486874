/-
  Walk: the reference's Bare.
  Walk: the reference's spelt.
-/
import Derived.Test.YthifdcakhdckfaaDoorTokL
import Derived.Test.YthifdcakhdckfaaDoorSpellL
namespace Go.Proofs.YthifdcakhdckfaaDoor
open Go.RowKit Go.Proofs.YthifdcakhdckfaaDoorW.PrintWords
open PMacroWords (S62 k62 z62 rd_T62 k62_mk)
set_option linter.unusedVariables false
set_option linter.unusedSimpArgs false

theorem cell_new6' (w : World) (t : TypeId) (k : Nat) (a b c d e f : Value) (hk : w.heap.size = k) : ∀ j u, [a, b, c, d, e, f][j]? = some u → (w.alloc (.cells #[a, b, c, d, e, f] t)).cell? ((⟨k, 0, none⟩ : Addr).add j) = some u := by
  subst hk
  exact cell_new6 w t a b c d e f
theorem bare_next {n₀ : Nat} {wr w1 : World} {v v' : Value} {xs : List S62} {i : Nat} {x t : S62} (h : TokRow n₀ wr v (bareL (xs.take i))) (hx : xs.getD i z62 = x) (hi : i < xs.length) (ht : bareT (decide (i = 0)) x = t) (ho : w1.ownsRow n₀ 62 6 v' ((bareL (xs.take i)).length + 1) (rowC (bareL (xs.take i)) ++ tokC t)) : TokRow n₀ w1 v' (bareL (xs.take (i + 1))) := by
  unfold TokRow
  rw [bareL_take xs i hi, hx, ht, rowC_snoc, List.length_append]
  exact ho
theorem bare_below {w wr w1 : World} {v : Value} {ys : List S62} {o o' : Obj} (h : TokRow w.heap.size wr v ys) (hb : Below w.heap.size w wr) (hg : ((wr.alloc o).alloc o').grownBy w1 v.ownBlock) : Below w.heap.size wr w1 :=
  (((Below.refl _ wr).alloc hb.size o).alloc (by have := hb.size; simp; omega) o').grown hg (by have := hb.size; simp; omega) (fun k e => (h.block k e).1)
set_option maxRecDepth 100000 in
set_option maxHeartbeats 4000000 in
theorem refBare_any (xs : List S62) (hn : xs.length < 4294967296) (v : Value) (w : World) (h : TokAt w v xs) :
    Calls Tryd.prog 58 #[v] w fun e w' => ∃ v', e = .returned v' ∧ TokAt w' v' (bareL xs) ∧ Below w.heap.size w w' := by
  obtain ⟨A, c, rfl, hc, hr⟩ := h
  obtain ⟨i0, hi, hz0, hz1, hz2⟩ := info_parts PMacroWords.info62
  have HR := Lib.hid hr
  clear hr
  go_enter Tryd.func58, Tryd.ntmps58
  go_wp2
  go_loopw [3, 4] (fun v3 v4 wr => ∃ (i : Nat), v4 = .int .i64 (i : Int) ∧ i ≤ xs.length ∧ Hid (TokRow w.heap.size wr v3 (bareL (xs.take i))) ∧ Hid (Below w.heap.size w wr)) (fun _ v4 _ => match v4 with | .int _ i => xs.length - i.toNat | _ => 0)
  case atStart => exact ⟨0, rfl, by omega, Lib.hid (World.ownsRow_nil _ _ _ _), Lib.hid (Below.refl _ _)⟩
  case round =>
    obtain ⟨i, rfl, hi6, HT, HB⟩ := hrel
    by_cases hlt : i < xs.length
    · have hlt' : decide ((i : Int) < (xs.length : Int)) = true := by simp; omega
      have hC := Kd.C_below HR.out HB.out
      obtain ⟨ad, hA, a0, a1, a2, a3, a4, a5⟩ := PMacroWords.at_T62 hC i (by omega) (by omega)
      subst hA
      rw [rdN] at a0 a1 a2 a3 a4 a5
      simp only [Int.toNat_natCast] at a0 a1 a2 a3 a4 a5
      clear hC
      obtain ⟨x, hx⟩ : ∃ x, xs.getD i z62 = x := ⟨_, rfl⟩
      rw [hx] at a0 a1 a2 a3 a4 a5
      have HX := Lib.hid hx
      clear hx
      obtain ⟨A3, c3, hv3⟩ := HT.out.slice
      subst hv3
      have hl3 : (bareL (xs.take i)).length = i := by rw [bareL_length, List.length_take]; omega
      have HL3 := Lib.hid hl3
      clear hl3
      have hb1 : (bareL (xs.take i)).length + 1 ≤ maxLen := by rw [HL3.out]; simp only [maxLen]; omega
      have hb2 : ((bareL (xs.take i)).length + 1) * 56 ≤ 140737488355328 := by rw [HL3.out]; omega
      have hb3 : ∀ o o', w.heap.size ≤ ((wr.alloc o).alloc o').heap.size := fun o o' => by have := HB.out.size; simp; omega
      cases h4 : x.f4 with
      | true =>
        rw [h4] at a4
        have H4 := Lib.hid h4
        clear h4
        by_cases hi0 : i = 0
        · have hi1 : decide (0 < i) = false := by simp; omega
          have HI0 := Lib.hid hi0
          clear hi0
          go_wp2_with (at_builtin; refine wpList_append_own _ rfl _ _ 38 rfl w.heap.size 62 i0 _ 6 56 Tryd.underlying38 hi hz0 hz1 hz2 rfl (by decide) _ _ _ rfl (World.ownsRow.alloc (World.ownsRow.alloc HT.out _) _) ⟨wr.heap.size + 1, 0, none⟩ 1 1 (tokC ⟨x.f0, x.f1, ⟨#[]⟩, 0, false, false⟩) rfl rfl (cell_new6' _ _ _ _ _ _ _ _ _ (World.size_alloc _ _)) (tokC_one _) hb1 hb2 (hb3 _ _) ?_; intro v' w1 hown' hgrow _)
          go_roundw
          case rel => exact ⟨i + 1, rfl, hlt, Lib.hid (bare_next HT.out HX.out hlt (by unfold bareT; rw [H4.out, HI0.out]; rfl) hown'), Lib.hid (HB.out.trans (bare_below HT.out HB.out hgrow))⟩
          case measure => simp only []; omega
        · have hi1 : decide (0 < i) = true := by simp; omega
          have HI0 := Lib.hid hi0
          clear hi0
          go_wp2_with (at_builtin; refine wpList_append_own _ rfl _ _ 38 rfl w.heap.size 62 i0 _ 6 56 Tryd.underlying38 hi hz0 hz1 hz2 rfl (by decide) _ _ _ rfl (World.ownsRow.alloc (World.ownsRow.alloc HT.out _) _) ⟨wr.heap.size + 1, 0, none⟩ 1 1 (tokC ⟨x.f0, x.f1, ⟨#[]⟩, 0, true, false⟩) rfl rfl (cell_new6' _ _ _ _ _ _ _ _ _ (World.size_alloc _ _)) (tokC_one _) hb1 hb2 (hb3 _ _) ?_; intro v' w1 hown' hgrow _)
          go_roundw
          case rel => exact ⟨i + 1, rfl, hlt, Lib.hid (bare_next HT.out HX.out hlt (by unfold bareT; rw [H4.out, decide_eq_false HI0.out]; rfl) hown'), Lib.hid (HB.out.trans (bare_below HT.out HB.out hgrow))⟩
          case measure => simp only []; omega
      | false =>
        rw [h4] at a4
        have H4 := Lib.hid h4
        clear h4
        go_wp2_with (at_builtin; refine wpList_append_own _ rfl _ _ 38 rfl w.heap.size 62 i0 _ 6 56 Tryd.underlying38 hi hz0 hz1 hz2 rfl (by decide) _ _ _ rfl (World.ownsRow.alloc (World.ownsRow.alloc HT.out _) _) ⟨wr.heap.size + 1, 0, none⟩ 1 1 (tokC ⟨x.f0, x.f1, ⟨#[]⟩, 0, false, false⟩) rfl rfl (cell_new6' _ _ _ _ _ _ _ _ _ (World.size_alloc _ _)) (tokC_one _) hb1 hb2 (hb3 _ _) ?_; intro v' w1 hown' hgrow _)
        go_roundw
        case rel => exact ⟨i + 1, rfl, hlt, Lib.hid (bare_next HT.out HX.out hlt (by unfold bareT; rw [H4.out]; rfl) hown'), Lib.hid (HB.out.trans (bare_below HT.out HB.out hgrow))⟩
        case measure => simp only []; omega
    · have hlt' : decide ((i : Int) < (xs.length : Int)) = false := by simp; omega
      have hi7 : i = xs.length := by omega
      go_wp2
      go_ret
      have h1 := HT.out
      rw [hi7, List.take_length] at h1
      exact ⟨_, rfl, h1.at, HB.out⟩
end Go.Proofs.YthifdcakhdckfaaDoor

namespace Go.Proofs.YthifdcakhdckfaaDoor
open Go.RowKit Go.Proofs.YthifdcakhdckfaaDoorW.PrintWords
open PMacroWords (S62 k62 z62 rd_T62 k62_mk)
set_option linter.unusedVariables false
set_option linter.unusedSimpArgs false

def ofTk (t : Lx.Tk) : S62 := ⟨t.kind, ⟨t.s.toArray⟩, ⟨#[]⟩, 0, t.space, t.first⟩
theorem bareT_of (b : Bool) (x : S62) : bareT b (ofTk (tk x)) = bareT b x := by
  unfold bareT ofTk tk
  simp only []
  congr 1
theorem bareL_of (xs : List S62) : bareL ((xs.map tk).map ofTk) = bareL xs := by
  cases xs with
  | nil => rfl
  | cons x r =>
    simp only [List.map_cons, bareL, bareT_of, List.map_map]
    congr 1
/-- The bare tokens of a line that lexes. -/
def bareLex (s : Lx.L) : List S62 := bareL ((Lx.lex s).2.map ofTk)
def speltL (xs : List S62) : Bool := decide (xs = bareL xs) && (((Lx.lex (spellL xs)).1 == 0) && decide (xs = bareLex (spellL xs)))
theorem lexGo_count : ∀ (f : Nat) (o sp fi : Bool) (s : Lx.L) (out : List Lx.Tk), out.length ≤ 20000 → (Lx.lexGo f o sp fi s out).2.length ≤ 20000 := by
  intro f
  induction f with
  | zero => intro o sp fi s out h; simp [Lx.lexGo]
  | succ f ih =>
    intro o sp fi s out h
    rw [Lx.lexGo]
    simp only []
    split
    · split
      · simp
      · exact h
    · split
      · simp
      · split
        · simp
        · exact ih _ _ _ _ _ (by rw [List.length_append, List.length_singleton]; omega)
theorem lex_count (s : Lx.L) : (Lx.lex s).2.length ≤ 20000 := lexGo_count _ _ _ _ _ _ (by simp)
set_option maxRecDepth 100000 in
set_option maxHeartbeats 4000000 in
theorem spelt_any (xs : List S62) (hn : xs.length < 4294967296) (hs : (spellL xs).length < 4294967281) (v : Value) (w : World) (h : TokAt w v xs) :
    Calls Tryd.prog 123 #[v] w fun e w' => e = .returned (.bool (speltL xs)) ∧ Below w.heap.size w w' := by
  have HV := Lib.hid h
  clear h
  go_enter Tryd.func123, Tryd.ntmps123
  go_wp2_with (fail)
  refine (refBare_any xs hn v w HV.out).mono ?_
  rintro e w1 ⟨v1, rfl, hT1, hB1⟩
  have HV1 := Lib.hid (HV.out.below hB1)
  have HT1 := Lib.hid hT1
  have HB1 := Lib.hid hB1
  clear hT1 hB1
  go_wp2_with (fail)
  refine (sameT_any xs _ hn v v1 w1 HV1.out HT1.out).mono ?_
  rintro e w2 ⟨rfl, hd⟩
  have HV2 := Lib.hid (HV1.out.below (drawn_below hd))
  have HB2 := Lib.hid (HB1.out.trans ((drawn_below hd).mono HB1.out.size))
  clear hd HV1 HT1 HB1
  by_cases h1 : xs = bareL xs
  · have h1' : decide (xs = bareL xs) = true := by simpa using h1
    rw [h1']
    have H1 := Lib.hid h1
    clear h1 h1'
    go_wp2_with (fail)
    refine (refSpell_any xs hn (by omega) v w2 HV2.out).mono ?_
    rintro e w3 ⟨rfl, hB3⟩
    have HV3 := Lib.hid (HV2.out.below hB3)
    have HB3 := Lib.hid (HB2.out.trans (hB3.mono HB2.out.size))
    clear hB3 HV2 HB2
    go_wp2_with (fail)
    refine (refLex_any w3.heap.size 1 ⟨(spellL xs).toArray⟩ (by rw [size_mk]; exact hs) 1 _ (World.alloc_heap_new w3 _)).mono ?_
    rw [blMk]
    rintro e w4 ⟨v4, at_, ys, rfl, hrow, hys, hrest, hB4⟩
    have hB34 : Below w3.heap.size w3 w4 := ((Below.refl _ w3).alloc (Nat.le_refl _) _).trans (hB4.mono (by simp))
    have HV4 := Lib.hid (HV3.out.below hB34)
    have HB4 := Lib.hid (HB3.out.trans (hB34.mono HB3.out.size))
    have HT4 := Lib.hid hrow.at
    have HY := Lib.hid hys
    clear hrow hys hrest hB4 hB34 HV3 HB3
    obtain ⟨code, hcode⟩ : ∃ code, (Lx.lex (spellL xs)).1 = code := ⟨_, rfl⟩
    rw [hcode]
    have HC := Lib.hid hcode
    clear hcode
    by_cases hc : code = 0
    · subst hc
      have hyn : ys.length ≤ 20000 := by have := lex_count (spellL xs); rw [HY.out, List.length_map] at this; exact this
      go_wp2_with (fail)
      refine (refBare_any ys (by omega) v4 w4 HT4.out).mono ?_
      rintro e w5 ⟨v5, rfl, hT5, hB5⟩
      have HV5 := Lib.hid (HV4.out.below hB5)
      have HT5 := Lib.hid hT5
      have HB5 := Lib.hid (HB4.out.trans (hB5.mono HB4.out.size))
      clear hT5 hB5 HV4 HB4 HT4
      go_wp2_with (fail)
      refine (sameT_any xs _ hn v v5 w5 HV5.out HT5.out).mono ?_
      rintro e w6 ⟨rfl, hd6⟩
      have HB6 := Lib.hid (HB5.out.trans ((drawn_below hd6).mono HB5.out.size))
      have hbe : bareL ys = bareLex (spellL xs) := by unfold bareLex; rw [HY.out, bareL_of]
      rw [hbe]
      clear hd6 hbe
      go_wp2
      go_ret
      refine ⟨?_, HB6.out⟩
      unfold speltL
      rw [HC.out, decide_eq_true H1.out]
      simp
    · have hc1 : (code == 0) = false := by simpa using hc
      go_wp2
      go_ret
      refine ⟨?_, HB4.out⟩
      unfold speltL
      rw [HC.out, hc1]
      simp
  · have h1' : decide (xs = bareL xs) = false := by simpa using h1
    rw [h1']
    clear h1
    go_wp2
    go_ret
    exact ⟨by unfold speltL; rw [h1']; rfl, HB2.out⟩
end Go.Proofs.YthifdcakhdckfaaDoor

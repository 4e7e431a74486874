/-
  The printed walks on macros (the reference's param and Equal, slices.Equal on strings) in plain words.
-/
import Derived.Test.YthifdcakhdckfaaDoorMacP
import Derived.Test.YthifdcakhdckfaaDoorPMacroWordsx6
namespace Go.Proofs.YthifdcakhdckfaaDoor
open Go.RowKit Go.Proofs.YthifdcakhdckfaaDoorW.PrintWords Go.Proofs.YthifdcakhdckfaaDoorW.PrintLast Go.Proofs.YthifdcakhdckfaaDoorW.PrintMore
open PMacroWords (S62 k62 z62 rd_T62 k62_mk)
set_option linter.unusedVariables false
set_option linter.unusedSimpArgs false

theorem rdS (ps : List ByteArray) (i : Nat) : rdOf ByteArray.empty ps (i : Int) = ps.getD i ByteArray.empty := by unfold rdOf; simp
theorem toList_eq {a b : ByteArray} : a.toList = b.toList ↔ a = b := by rw [toList_bl, toList_bl]; exact bl_inj
/-! ### param -/
theorem hasS_drop (ps : List ByteArray) (x : ByteArray) (i : Nat) (hi : i < ps.length) : hasS (ps.drop i) x = ((bl (ps.getD i ByteArray.empty) == bl x) || hasS (ps.drop (i + 1)) x) := by
  rw [List.drop_eq_getElem_cons hi, List.getD_eq_getElem?_getD, List.getElem?_eq_getElem hi]
  rfl
theorem param_l0 (m : MacV) (t : S62) (hn : m.params.length < 4294967296) : ∀ (n i k : Nat), i + n = m.params.length → n < k →
    ∃ r, PMacroWords.burinref03_param.l0 k i m.name m.func m.params m.more m.body t.f0 t.f1 t.f2 t.f3 t.f4 t.f5 = some r ∧ decide (r < 0) = !(t.f0 == 1 && (hasS (m.params.drop i) t.f1 || (m.more && bl t.f1 == restL))) := by
  intro n
  induction n with
  | zero =>
    intro i k hi hk
    obtain ⟨k, rfl⟩ : ∃ j, k = j + 1 := ⟨k - 1, by omega⟩
    simp only [PMacroWords.burinref03_param.l0]
    rw [if_neg (by omega), List.drop_of_length_le (by omega)]
    by_cases hm : m.more = true
    · rw [if_pos hm, hm]
      by_cases h1 : t.f0 = 1
      · rw [if_pos h1]
        by_cases h2 : t.f1.toList = ([95, 95, 86, 65, 95, 65, 82, 71, 83, 95, 95] : List UInt8)
        · rw [if_pos h2]
          refine ⟨_, rfl, ?_⟩
          rw [decide_eq_false (by omega)]
          have : bl t.f1 = restL := by rw [← toList_bl, h2]; rfl
          rw [h1, this]; simp
        · rw [if_neg h2]
          refine ⟨_, rfl, ?_⟩
          have : (bl t.f1 == restL) = false := by rw [beq_eq_false_iff_ne, ← toList_bl]; exact h2
          rw [this]; simp [hasS]
      · rw [if_neg h1]
        have : (t.f0 == 1) = false := by rw [beq_eq_false_iff_ne]; exact h1
        exact ⟨_, rfl, by rw [this]; simp⟩
    · rw [if_neg hm]
      have : m.more = false := by simpa using hm
      exact ⟨_, rfl, by rw [this]; simp [hasS]⟩
  | succ n ih =>
    intro i k hi hk
    obtain ⟨k, rfl⟩ : ∃ j, k = j + 1 := ⟨k - 1, by omega⟩
    obtain ⟨r, h1, h2⟩ := ih (i + 1) k (by omega) (by omega)
    simp only [PMacroWords.burinref03_param.l0]
    rw [if_pos (by omega), wrapN i (by omega), hasS_drop _ _ _ (by omega), rdS]
    by_cases h0 : t.f0 = 1
    · rw [if_pos h0, if_pos (by omega)]
      by_cases hq : t.f1.toList = (m.params.getD i ByteArray.empty).toList
      · rw [if_pos hq]
        refine ⟨_, rfl, ?_⟩
        rw [decide_eq_false (by omega), h0, ← toList_eq.1 hq]
        simp
      · rw [if_neg hq]
        refine ⟨r, h1, ?_⟩
        rw [h2]
        have : (bl (m.params.getD i ByteArray.empty) == bl t.f1) = false := by
          rw [beq_eq_false_iff_ne]; intro e; exact hq (by rw [toList_bl, toList_bl, e])
        rw [this, Bool.false_or]
    · rw [if_neg h0]
      refine ⟨r, h1, ?_⟩
      rw [h2]
      have : (t.f0 == 1) = false := by rw [beq_eq_false_iff_ne]; exact h0
      rw [this]; simp
theorem refParam_any (m : MacV) (t : S62) (vp vb : Value) (w : World) (h1 : StrAt w vp m.params) (h2 : TokAt w vb m.body) (hn : m.params.length < 4294967296) :
    Calls Tryd.prog 124 #[.agg #[.string m.name, .bool m.func, vp, .bool m.more, vb], .agg #[.int .i64 t.f0, .string t.f1, .string t.f2, .int .i64 t.f3, .bool t.f4, .bool t.f5]] w fun e w' => (∃ r : Int, e = .returned (.int .i64 r) ∧ decide (r < 0) = !refParamB m t) ∧ Below w.heap.size w w' := by
  obtain ⟨A, c, rfl, hc, hr⟩ := h1
  obtain ⟨B, d, rfl, hd, hq⟩ := h2
  obtain ⟨r, e1, e2⟩ := param_l0 m t hn m.params.length 0 (m.params.length + 1) (by omega) (by omega)
  refine (PMacroWords.burinref03_param.calls (m.params.length + 1) m.name m.func A c m.params m.more B d m.body t.f0 t.f1 t.f2 t.f3 t.f4 t.f5 r w hr hc hq hd e1).mono ?_
  rintro e w' ⟨rfl, hB⟩
  exact ⟨⟨r, rfl, by rw [e2, List.drop_zero]; rfl⟩, hB⟩

/-! ### equality of rows of strings -/
theorem drop_eq_stepS (xs ys : List ByteArray) (i : Nat) (h1 : i < xs.length) (h2 : i < ys.length) : xs.drop i = ys.drop i ↔ xs.getD i ByteArray.empty = ys.getD i ByteArray.empty ∧ xs.drop (i + 1) = ys.drop (i + 1) := by
  rw [List.drop_eq_getElem_cons h1, List.drop_eq_getElem_cons h2, List.getD_eq_getElem?_getD, List.getD_eq_getElem?_getD, List.getElem?_eq_getElem h1, List.getElem?_eq_getElem h2]
  simp only [Option.getD_some, List.cons.injEq]
theorem eqS_l0 (xs ys : List ByteArray) (hn : xs.length < 4294967296) (he : xs.length = ys.length) : ∀ (m i k : Nat), i + m = xs.length → m < k → PMacroWords.slices_Equal_string_string.l0 k xs ys (xs.length : Int) i = some (decide (xs.drop i = ys.drop i)) := by
  intro m
  induction m with
  | zero =>
    intro i k hi hk
    obtain ⟨k, rfl⟩ : ∃ j, k = j + 1 := ⟨k - 1, by omega⟩
    simp only [PMacroWords.slices_Equal_string_string.l0]
    rw [if_neg (by omega), List.drop_of_length_le (by omega), List.drop_of_length_le (by omega)]
    simp
  | succ m ih =>
    intro i k hi hk
    obtain ⟨k, rfl⟩ : ∃ j, k = j + 1 := ⟨k - 1, by omega⟩
    simp only [PMacroWords.slices_Equal_string_string.l0]
    rw [if_pos (by omega), if_pos (by omega), if_pos (by omega), if_pos (by omega), wrapN i (by omega), ih (i + 1) k (by omega) (by omega), rdS, rdS]
    by_cases hq : xs.getD i ByteArray.empty = ys.getD i ByteArray.empty
    · rw [if_pos (by rw [hq])]
      congr 1
      rw [decide_eq_decide, drop_eq_stepS xs ys i (by omega) (by omega)]
      simp only [hq, true_and]
    · rw [if_neg (fun h => hq (toList_eq.1 h))]
      congr 1
      symm
      rw [decide_eq_false_iff_not, drop_eq_stepS xs ys i (by omega) (by omega)]
      exact fun h => hq h.1
theorem equalS_any (xs ys : List ByteArray) (hn : xs.length < 4294967296) (v u : Value) (w : World) (h : StrAt w v xs) (h' : StrAt w u ys) :
    Calls Tryd.prog 68 #[v, u] w fun e w' => e = .returned (.bool (decide (xs = ys))) ∧ Drawn0 w w' := by
  obtain ⟨A, c, rfl, hc, hr⟩ := h
  obtain ⟨B, d, rfl, hd, hq⟩ := h'
  refine PMacroWords.slices_Equal_string_string.calls (xs.length + 1) A c xs B d ys _ w hr hc hq hd ?_
  unfold PMacroWords.slices_Equal_string_string.f
  by_cases he : xs.length = ys.length
  · rw [if_pos (by omega)]
    exact eqS_l0 xs ys hn he xs.length 0 (xs.length + 1) (by omega) (by omega)
  · rw [if_neg (by omega)]
    congr 1
    symm
    rw [decide_eq_false_iff_not]
    exact fun h => he (by rw [h])

/-! ### equality of macros -/
def eqMac (a b : MacV) : Bool := decide (a.name = b.name) && ((a.func == b.func) && ((a.more == b.more) && (decide (a.params = b.params) && decide (a.body = b.body))))
theorem eqMac_iff {a b : MacV} : eqMac a b = true ↔ a = b := by
  unfold eqMac
  simp only [Bool.and_eq_true, decide_eq_true_eq, beq_iff_eq]
  constructor
  · rintro ⟨h1, h2, h3, h4, h5⟩
    obtain ⟨a1, a2, a3, a4, a5⟩ := a
    obtain ⟨b1, b2, b3, b4, b5⟩ := b
    simp only at h1 h2 h3 h4 h5
    rw [h1, h2, h3, h4, h5]
  · rintro rfl
    exact ⟨rfl, rfl, rfl, rfl, rfl⟩
theorem equal_l0 (a b : MacV) (hn : a.params.length < 4294967296) (hb : a.body.length < 4294967296) (he : a.params.length = b.params.length) : ∀ (m i k : Nat), i + m = a.params.length → m + a.body.length + 1 < k →
    PMacroWords.burinref03_Equal.l0 k i a.name a.func a.params a.more a.body b.name b.func b.params b.more b.body = some (decide (a.params.drop i = b.params.drop i) && decide (a.body = b.body)) := by
  have hsame : ∀ k, a.body.length < k → PMacroWords.burinref02_Same.f k a.body b.body = some (decide (a.body = b.body)) := by
    intro k hk
    unfold PMacroWords.burinref02_Same.f
    by_cases he : a.body.length = b.body.length
    · rw [if_pos (by omega)]
      exact same_l0 a.body b.body hb he a.body.length 0 k (by omega) hk
    · rw [if_neg (by omega)]
      congr 1
      symm
      rw [decide_eq_false_iff_not]
      exact fun h => he (by rw [h])
  intro m
  induction m with
  | zero =>
    intro i k hi hk
    obtain ⟨k, rfl⟩ : ∃ j, k = j + 1 := ⟨k - 1, by omega⟩
    simp only [PMacroWords.burinref03_Equal.l0]
    rw [if_neg (by omega), List.drop_of_length_le (by omega), List.drop_of_length_le (by omega), hsame k (by omega)]
    simp
  | succ m ih =>
    intro i k hi hk
    obtain ⟨k, rfl⟩ : ∃ j, k = j + 1 := ⟨k - 1, by omega⟩
    simp only [PMacroWords.burinref03_Equal.l0]
    rw [if_pos (by omega), if_pos (by omega), if_pos (by omega), wrapN i (by omega), ih (i + 1) k (by omega) (by omega), rdS, rdS]
    by_cases hq : a.params.getD i ByteArray.empty = b.params.getD i ByteArray.empty
    · rw [if_pos (by rw [hq])]
      congr 2
      rw [decide_eq_decide, drop_eq_stepS _ _ i (by omega) (by omega)]
      simp only [hq, true_and]
    · rw [if_neg (fun h => hq (toList_eq.1 h))]
      congr 1
      symm
      rw [Bool.and_eq_false_iff]
      left
      rw [decide_eq_false_iff_not, drop_eq_stepS _ _ i (by omega) (by omega)]
      exact fun h => hq h.1
theorem equal_any (a b : MacV) (hn : a.params.length < 4294967296) (hb : a.body.length < 4294967296) (vp vb up ub : Value) (w : World) (h1 : StrAt w vp a.params) (h2 : TokAt w vb a.body) (h3 : StrAt w up b.params) (h4 : TokAt w ub b.body) :
    Calls Tryd.prog 20 #[.agg #[.string a.name, .bool a.func, vp, .bool a.more, vb], .agg #[.string b.name, .bool b.func, up, .bool b.more, ub]] w fun e w' => e = .returned (.bool (eqMac a b)) ∧ Below w.heap.size w w' := by
  obtain ⟨A, c, rfl, hc, hr⟩ := h1
  obtain ⟨B, d, rfl, hd, hq⟩ := h2
  obtain ⟨A', c', rfl, hc', hr'⟩ := h3
  obtain ⟨B', d', rfl, hd', hq'⟩ := h4
  refine PMacroWords.burinref03_Equal.calls (a.params.length + a.body.length + 3) a.name a.func A c a.params a.more B d a.body b.name b.func A' c' b.params b.more B' d' b.body _ w hr hc hq hd hr' hc' hq' hd' ?_
  have hj : ∀ k, PMacroWords.burinref03_Equal.j0 (k + 1) true a.name a.func a.params a.more a.body b.name b.func b.params b.more b.body = some false := by
    intro k; simp only [PMacroWords.burinref03_Equal.j0]; rfl
  unfold PMacroWords.burinref03_Equal.f eqMac
  by_cases e1 : a.name.toList = b.name.toList
  · rw [if_pos e1, decide_eq_true (toList_eq.1 e1), Bool.true_and]
    by_cases e2 : (a.func != b.func) = true
    · rw [if_pos e2, hj]
      have : (a.func == b.func) = false := by simpa [bne] using e2
      rw [this]; rfl
    · rw [if_neg e2]
      have : (a.func == b.func) = true := by simpa [bne] using e2
      rw [this, Bool.true_and]
      by_cases e3 : (a.more != b.more) = true
      · rw [if_pos e3, hj]
        have : (a.more == b.more) = false := by simpa [bne] using e3
        rw [this]; rfl
      · rw [if_neg e3]
        have : (a.more == b.more) = true := by simpa [bne] using e3
        rw [this, Bool.true_and]
        by_cases e4 : a.params.length = b.params.length
        · have h4 : ((a.params.length : Int) != (b.params.length : Int)) = false := by rw [e4]; simp
          rw [h4]
          simp only [PMacroWords.burinref03_Equal.j0, Bool.false_eq_true, if_false]
          exact equal_l0 a b hn hb e4 a.params.length 0 _ (by omega) (by omega)
        · have h4 : ((a.params.length : Int) != (b.params.length : Int)) = true := by rw [bne_iff_ne]; omega
          rw [h4, hj]
          congr 1
          symm
          rw [Bool.and_eq_false_iff]
          left
          rw [decide_eq_false_iff_not]
          exact fun h => e4 (by rw [h])
  · rw [if_neg e1, hj, decide_eq_false (fun h => e1 (by rw [h]))]
    rfl
end Go.Proofs.YthifdcakhdckfaaDoor

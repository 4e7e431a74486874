/-
  Rows of tokens that are read; the printed walks on them (bare, Equal, Same, the reference's Spell) in plain words.
-/
import Derived.Lib.LazyBuf
import Derived.Test.YthifdcakhdckfaaDoorNames
import Derived.Test.YthifdcakhdckfaaDoorPMacroWordsx1
import Derived.Test.YthifdcakhdckfaaDoorPMacroWordsx2
import Derived.Test.YthifdcakhdckfaaDoorPMacroWordsx5
namespace Go.Proofs.YthifdcakhdckfaaDoor
open Go.RowKit Go.Proofs.YthifdcakhdckfaaDoorW.PrintWords Go.Proofs.YthifdcakhdckfaaDoorW.PrintLast Go.Proofs.YthifdcakhdckfaaDoorW.PrintMore
open PMacroWords (S62 k62 z62 rd_T62 k62_mk)
set_option linter.unusedVariables false
set_option linter.unusedSimpArgs false

/-- A slice of tokens, as it is read. -/
def TokAt (W : World) (v : Value) (xs : List S62) : Prop := ∃ A c, v = .slice A xs.length c ∧ xs.length ≤ c ∧ Kd.C k62 W A xs.length xs
theorem TokAt.below {W W' : World} {v : Value} {xs : List S62} (h : TokAt W v xs) (hb : Below W.heap.size W W') : TokAt W' v xs := by
  obtain ⟨A, c, h1, h2, h3⟩ := h
  exact ⟨A, c, h1, h2, Kd.C_below h3 hb⟩
theorem TokAt.len {W : World} {v : Value} {xs : List S62} (h : TokAt W v xs) : xs.length ≤ 9223372036854775807 := by
  obtain ⟨A, c, h1, h2, h3⟩ := h
  exact h3.2.1
theorem TokAt.nil (W : World) (A : Option Addr) (c : Nat) : TokAt W (.slice A 0 c) [] := ⟨A, c, rfl, Nat.zero_le _, rfl, by simp, fun h => absurd h (by simp)⟩
theorem rowC_at (xs : List S62) (j : Nat) (x : S62) (h : xs[j]? = some x) (i : Nat) (hi : i < 6) : (rowC xs)[j * 6 + i]? = (tokC x)[i]? := by
  induction xs generalizing j with
  | nil => simp at h
  | cons y ys ih =>
    unfold rowC
    rw [List.flatMap_cons]
    cases j with
    | zero =>
      simp only [List.getElem?_cons_zero, Option.some.injEq] at h
      subst h
      rw [List.getElem?_append_left (by simp [tokC]; omega)]
      simp
    | succ j =>
      rw [List.getElem?_cons_succ] at h
      rw [List.getElem?_append_right (by simp [tokC]; omega)]
      have := ih j h
      unfold rowC at this
      rw [← this]
      congr 1
      simp [tokC]; omega
theorem TokRow.at {n₀ : Nat} {W : World} {v : Value} {xs : List S62} (h : TokRow n₀ W v xs) : TokAt W v xs := by
  rcases h.2 with ⟨rfl, h0⟩ | ⟨g, cap, cur, rfl, hb, hg, hn, hcap, hsz, htk⟩
  · obtain rfl : xs = [] := List.eq_nil_of_length_eq_zero h0
    exact TokAt.nil W none 0
  · refine ⟨_, cap, rfl, hn, rfl, by simp only [maxLen] at hcap; omega, fun _ => ⟨_, rfl, ?_⟩⟩
    intro j x hx
    have hj : j < xs.length := (List.getElem?_eq_some_iff.1 hx).1
    refine ⟨tokC x, rfl, k62_mk W x, ?_⟩
    intro i u hu
    have hi : i < 6 := (List.getElem?_eq_some_iff.1 hu).1
    have hadd : (⟨g, 0, none⟩ : Addr).add (j * k62.sz + i) = ⟨g, j * 6 + i, none⟩ := by
      unfold Addr.add
      split
      · rename_i h0
        have : j * 6 + i = 0 := h0
        rw [this]
      · simp; rfl
    rw [hadd]
    simp only [World.cell?, hg]
    have h1 : (cur.toList.take (xs.length * 6))[j * 6 + i]? = (rowC xs)[j * 6 + i]? := by rw [htk]
    rw [List.getElem?_take_of_lt (by omega), rowC_at xs j x hx i hi, hu] at h1
    simpa using h1
theorem TokAt.of_R {W : World} {base : Nat} {ok : Nat → Prop} {v : Value} {xs : List S62} (h : Kd.R k62 62 W base ok v xs) : TokAt W v xs := by
  obtain ⟨A, c, h1, h2, h3⟩ := OwnRow.reads h.2
  refine ⟨A, c, h1, h2, h3.1, h3.2.1, fun hn => ?_⟩
  obtain ⟨ad, e, hh⟩ := h3.2.2 hn
  refine ⟨ad, e, fun j p hp => ?_⟩
  obtain ⟨c', hl, hM, hc⟩ := hh j p hp
  exact ⟨c', hl, k62.K_of_M hM, hc⟩

/-! ### bare -/
def bareT (first : Bool) (t : S62) : S62 := ⟨t.f0, t.f1, ⟨#[]⟩, 0, t.f4 && !first, false⟩
def bareL : List S62 → List S62
  | [] => []
  | t :: r => bareT true t :: r.map (bareT false)
theorem bareL_length (xs : List S62) : (bareL xs).length = xs.length := by cases xs <;> simp [bareL]
theorem bareL_take (xs : List S62) (i : Nat) (hi : i < xs.length) : bareL (xs.take (i + 1)) = bareL (xs.take i) ++ [bareT (decide (i = 0)) (xs.getD i z62)] := by
  cases xs with
  | nil => simp at hi
  | cons t r =>
    cases i with
    | zero => simp [bareL]
    | succ i =>
      simp only [List.take_succ_cons, bareL, List.cons_append, List.cons.injEq, true_and, List.getD_cons_succ]
      rw [show decide (i + 1 = 0) = false by simp, List.length_cons] at *
      have hl : i < r.length := by simp at hi; omega
      have : r[i]? = some r[i] := List.getElem?_eq_getElem hl
      rw [List.take_add_one, List.getD_eq_getElem?_getD, this, List.map_append]
      simp only [Option.toList_some, List.map_cons, List.map_nil, Option.getD_some]
theorem rdN (xs : List S62) (i : Nat) : rd_T62 xs (i : Int) = xs.getD i z62 := by unfold rd_T62; simp
theorem bare_l0 (xs : List S62) (hn : xs.length < 4294967296) : ∀ (m i k : Nat), i + m = xs.length → m < k → PMacroWords.macro_bare.l0 k (bareL (xs.take i)) xs (xs.length : Int) i = some (bareL xs) := by
  intro m
  induction m with
  | zero =>
    intro i k hi hk
    obtain ⟨k, rfl⟩ : ∃ j, k = j + 1 := ⟨k - 1, by omega⟩
    simp only [PMacroWords.macro_bare.l0]
    rw [if_neg (by omega), List.take_of_length_le (by omega)]
  | succ m ih =>
    intro i k hi hk
    obtain ⟨k, rfl⟩ : ∃ j, k = j + 1 := ⟨k - 1, by omega⟩
    have h := ih (i + 1) k (by omega) (by omega)
    rw [bareL_take xs i (by omega)] at h
    have hl : (bareL (xs.take i)).length < 2513169434916 := by rw [bareL_length, List.length_take]; omega
    simp only [PMacroWords.macro_bare.l0]
    rw [if_pos (by omega), if_pos (by omega), if_pos (by omega), if_pos hl, if_pos hl, wrapN i (by omega), rdN]
    unfold bareT at h
    cases h4 : (xs.getD i z62).f4 with
    | true =>
      rw [h4, Bool.true_and] at h
      simp only [if_true]
      have : decide ((i : Int) > 0) = !decide (i = 0) := by by_cases hz : i = 0 <;> simp [hz]; omega
      rw [this]
      exact h
    | false =>
      rw [h4, Bool.false_and] at h
      simp only [Bool.false_eq_true, if_false]
      exact h
theorem bare_any (xs : List S62) (hn : xs.length < 4294967296) (v : Value) (w : World) (h : TokAt w v xs) :
    Calls Tryd.prog 56 #[v] w fun e w' => ∃ v', e = .returned v' ∧ TokAt w' v' (bareL xs) ∧ Below w.heap.size w w' := by
  obtain ⟨A, c, rfl, hc, hr⟩ := h
  have hf : PMacroWords.macro_bare.f (xs.length + 1) xs = some (bareL xs) := by
    have := bare_l0 xs hn xs.length 0 (xs.length + 1) (by omega) (by omega)
    unfold PMacroWords.macro_bare.f
    exact this
  refine (PMacroWords.macro_bare.calls (xs.length + 1) A c xs (bareL xs) w hr hc hf).mono ?_
  rintro e w' ⟨v', rfl, hR, hB⟩
  exact ⟨v', rfl, TokAt.of_R hR, hB⟩

/-! ### equality -/
theorem bl_inj {a b : ByteArray} : bl a = bl b ↔ a = b := by
  constructor
  · intro h
    cases a; cases b
    unfold bl at h
    congr 1
    exact Array.toList_inj.1 h
  · intro h; rw [h]
theorem S62_ext {a b : S62} : a = b ↔ a.f0 = b.f0 ∧ a.f1 = b.f1 ∧ a.f2 = b.f2 ∧ a.f3 = b.f3 ∧ a.f4 = b.f4 ∧ a.f5 = b.f5 := by
  cases a; cases b; simp
instance : DecidableEq S62 := fun a b => decidable_of_iff _ S62_ext.symm
theorem tokNe (a b : S62) : ((!(a.f0 == b.f0)) || ((!(a.f1.toList == b.f1.toList)) || ((!(a.f2.toList == b.f2.toList)) || ((!(a.f3 == b.f3)) || ((!(a.f4 == b.f4)) || (!(a.f5 == b.f5))))))) = true ↔ ¬ a = b := by
  rw [S62_ext]
  simp only [toList_bl, Bool.or_eq_true, Bool.not_eq_true', beq_eq_false_iff_ne, ne_eq, bl_inj]
  by_cases h0 : a.f0 = b.f0 <;> by_cases h1 : a.f1 = b.f1 <;> by_cases h2 : a.f2 = b.f2 <;> by_cases h3 : a.f3 = b.f3 <;> by_cases h4 : a.f4 = b.f4 <;> by_cases h5 : a.f5 = b.f5 <;> simp [h0, h1, h2, h3, h4, h5]
theorem drop_eq_step (xs ys : List S62) (i : Nat) (h1 : i < xs.length) (h2 : i < ys.length) : xs.drop i = ys.drop i ↔ xs.getD i z62 = ys.getD i z62 ∧ xs.drop (i + 1) = ys.drop (i + 1) := by
  rw [List.drop_eq_getElem_cons h1, List.drop_eq_getElem_cons h2, List.getD_eq_getElem?_getD, List.getD_eq_getElem?_getD, List.getElem?_eq_getElem h1, List.getElem?_eq_getElem h2]
  simp only [Option.getD_some, List.cons.injEq]
theorem eq69_l0 (xs ys : List S62) (hn : xs.length < 4294967296) (he : xs.length = ys.length) : ∀ (m i k : Nat), i + m = xs.length → m < k → PMacroWords.api_Tok_69.l0 k xs ys (xs.length : Int) i = some (decide (xs.drop i = ys.drop i)) := by
  intro m
  induction m with
  | zero =>
    intro i k hi hk
    obtain ⟨k, rfl⟩ : ∃ j, k = j + 1 := ⟨k - 1, by omega⟩
    simp only [PMacroWords.api_Tok_69.l0]
    rw [if_neg (by omega), List.drop_of_length_le (by omega), List.drop_of_length_le (by omega)]
    simp
  | succ m ih =>
    intro i k hi hk
    obtain ⟨k, rfl⟩ : ∃ j, k = j + 1 := ⟨k - 1, by omega⟩
    simp only [PMacroWords.api_Tok_69.l0]
    rw [if_pos (by omega), if_pos (by omega), if_pos (by omega), if_pos (by omega), wrapN i (by omega), ih (i + 1) k (by omega) (by omega), rdN, rdN]
    simp only [tokNe]
    by_cases hq : xs.getD i z62 = ys.getD i z62
    · rw [if_neg (by simpa using hq)]
      congr 1
      rw [decide_eq_decide, drop_eq_step xs ys i (by omega) (by omega)]
      simp only [hq, true_and]
    · rw [if_pos hq]
      congr 1
      symm
      rw [decide_eq_false_iff_not, drop_eq_step xs ys i (by omega) (by omega)]
      exact fun h => hq h.1
theorem same_l0 (xs ys : List S62) (hn : xs.length < 4294967296) (he : xs.length = ys.length) : ∀ (m i k : Nat), i + m = xs.length → m < k → PMacroWords.burinref02_Same.l0 k xs ys i = some (decide (xs.drop i = ys.drop i)) := by
  intro m
  induction m with
  | zero =>
    intro i k hi hk
    obtain ⟨k, rfl⟩ : ∃ j, k = j + 1 := ⟨k - 1, by omega⟩
    simp only [PMacroWords.burinref02_Same.l0]
    rw [if_neg (by omega), List.drop_of_length_le (by omega), List.drop_of_length_le (by omega)]
    simp
  | succ m ih =>
    intro i k hi hk
    obtain ⟨k, rfl⟩ : ∃ j, k = j + 1 := ⟨k - 1, by omega⟩
    simp only [PMacroWords.burinref02_Same.l0]
    rw [if_pos (by omega), if_pos (by omega), if_pos (by omega), wrapN i (by omega), ih (i + 1) k (by omega) (by omega), rdN, rdN]
    simp only [tokNe]
    by_cases hq : xs.getD i z62 = ys.getD i z62
    · rw [if_neg (by simpa using hq)]
      congr 1
      rw [decide_eq_decide, drop_eq_step xs ys i (by omega) (by omega)]
      simp only [hq, true_and]
    · rw [if_pos hq]
      congr 1
      symm
      rw [decide_eq_false_iff_not, drop_eq_step xs ys i (by omega) (by omega)]
      exact fun h => hq h.1
theorem drawn_below {w w' : World} (h : Drawn0 w w') : Below w.heap.size w w' := by
  obtain ⟨⟨n, rfl⟩⟩ := h
  exact ⟨rfl, rfl, rfl, Nat.le_refl _, fun _ _ => rfl⟩
theorem equalT_any (xs ys : List S62) (hn : xs.length < 4294967296) (v u : Value) (w : World) (h : TokAt w v xs) (h' : TokAt w u ys) :
    Calls Tryd.prog 69 #[v, u] w fun e w' => e = .returned (.bool (decide (xs = ys))) ∧ Drawn0 w w' := by
  obtain ⟨A, c, rfl, hc, hr⟩ := h
  obtain ⟨B, d, rfl, hd, hq⟩ := h'
  refine PMacroWords.api_Tok_69.calls (xs.length + 1) A c xs B d ys _ w hr hc hq hd ?_
  unfold PMacroWords.api_Tok_69.f
  by_cases he : xs.length = ys.length
  · rw [if_pos (by omega)]
    exact eq69_l0 xs ys hn he xs.length 0 (xs.length + 1) (by omega) (by omega)
  · rw [if_neg (by omega)]
    congr 1
    symm
    rw [decide_eq_false_iff_not]
    exact fun h => he (by rw [h])
theorem sameT_any (xs ys : List S62) (hn : xs.length < 4294967296) (v u : Value) (w : World) (h : TokAt w v xs) (h' : TokAt w u ys) :
    Calls Tryd.prog 59 #[v, u] w fun e w' => e = .returned (.bool (decide (xs = ys))) ∧ Drawn0 w w' := by
  obtain ⟨A, c, rfl, hc, hr⟩ := h
  obtain ⟨B, d, rfl, hd, hq⟩ := h'
  refine PMacroWords.burinref02_Same.calls (xs.length + 1) A c xs B d ys _ w hr hc hq hd ?_
  unfold PMacroWords.burinref02_Same.f
  by_cases he : xs.length = ys.length
  · rw [if_pos (by omega)]
    exact same_l0 xs ys hn he xs.length 0 (xs.length + 1) (by omega) (by omega)
  · rw [if_neg (by omega)]
    congr 1
    symm
    rw [decide_eq_false_iff_not]
    exact fun h => he (by rw [h])

end Go.Proofs.YthifdcakhdckfaaDoor

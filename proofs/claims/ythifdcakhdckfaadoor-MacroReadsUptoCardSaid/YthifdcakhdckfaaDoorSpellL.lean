/-
  Plain law: the reference's Spell.
-/
import Derived.Lib.LazyBuf
import Derived.Test.YthifdcakhdckfaaDoorTokL
namespace Go.Proofs.YthifdcakhdckfaaDoor
open Go.RowKit Go.Proofs.YthifdcakhdckfaaDoorW.PrintWords Go.Proofs.YthifdcakhdckfaaDoorW.PrintLast Go.Proofs.YthifdcakhdckfaaDoorW.PrintMore
open PMacroWords (S62 k62 z62 rd_T62 k62_mk)
set_option linter.unusedVariables false
set_option linter.unusedSimpArgs false
/-! ### spelling -/
def sepT (t : S62) : Lx.L := if t.f5 then [10] else if t.f4 then [32] else []
def spellL : List S62 → Lx.L
  | [] => []
  | t :: r => bl t.f1 ++ r.flatMap fun t => sepT t ++ bl t.f1
theorem spellL_take (xs : List S62) (i : Nat) (hi : i < xs.length) : spellL (xs.take (i + 1)) = spellL (xs.take i) ++ ((if i = 0 then [] else sepT (xs.getD i z62)) ++ bl (xs.getD i z62).f1) := by
  cases xs with
  | nil => simp at hi
  | cons t r =>
    cases i with
    | zero => simp [spellL]
    | succ i =>
      have hl : i < r.length := by simp at hi; omega
      have : r[i]? = some r[i] := List.getElem?_eq_getElem hl
      simp only [List.take_succ_cons, spellL, List.getD_cons_succ]
      rw [List.take_add_one, List.getD_eq_getElem?_getD, this, List.flatMap_append]
      simp only [Option.toList_some, List.flatMap_cons, List.flatMap_nil, Option.getD_some, List.append_nil, List.append_assoc]
      rw [if_neg (by omega)]
def numsOf (l : Lx.L) : List Int := l.map fun c => (c.toNat : Int)
theorem spellL_take_len (xs : List S62) (i : Nat) : (spellL (xs.take i)).length ≤ (spellL xs).length := by
  cases xs with
  | nil => simp
  | cons t r =>
    cases i with
    | zero => simp [spellL]
    | succ j =>
      simp only [List.take_succ_cons, spellL]
      have : r.flatMap (fun t => sepT t ++ bl t.f1) = (r.take j).flatMap (fun t => sepT t ++ bl t.f1) ++ (r.drop j).flatMap (fun t => sepT t ++ bl t.f1) := by rw [← List.flatMap_append, List.take_append_drop]
      rw [this]
      simp only [List.length_append]
      omega
theorem numsOf_append (a b : Lx.L) : numsOf (a ++ b) = numsOf a ++ numsOf b := by simp [numsOf]
theorem numsOf_length (a : Lx.L) : (numsOf a).length = a.length := by simp [numsOf]
theorem spell_l0 (xs : List S62) (hn : xs.length < 4294967296) (hs : (spellL xs).length < 4294967296) : ∀ (m i k : Nat), i + m = xs.length → 2 * m < k → PMacroWords.burinref02_Spell.l0 k xs (numsOf (spellL (xs.take i))) i = some (strOfNums (numsOf (spellL xs))) := by
  intro m
  induction m with
  | zero =>
    intro i k hi hk
    obtain ⟨k, rfl⟩ : ∃ j, k = j + 1 := ⟨k - 1, by omega⟩
    simp only [PMacroWords.burinref02_Spell.l0]
    rw [if_neg (by omega), List.take_of_length_le (by omega)]
  | succ m ih =>
    intro i k hi hk
    obtain ⟨k, rfl⟩ : ∃ j, k = j + 2 := ⟨k - 2, by omega⟩
    have h := ih (i + 1) k (by omega) (by omega)
    have hlen := spellL_take_len xs (i + 1)
    have hlt := spellL_take xs i (by omega)
    rw [hlt] at h hlen
    simp only [List.length_append] at hlen
    have hb : bytesOf (xs.getD i z62).f1 = numsOf (bl (xs.getD i z62).f1) := rfl
    have hbs : (bl (xs.getD i z62).f1).length = (xs.getD i z62).f1.size := bl_length _
    have c1 : ((i : Int) < (xs.length : Int)) := by omega
    have c2 : (0 ≤ (i : Int)) := by omega
    have hw : wrap64 ((i : Int) + 1) = ((i + 1 : Nat) : Int) := wrapN i (by omega)
    have hL : (spellL (xs.take i)).length + 1 + (xs.getD i z62).f1.size < 8589934592 := by omega
    clear hlen hlt hs hi hk ih
    obtain ⟨L, hLL⟩ : ∃ L, numsOf (spellL (xs.take i)) = L := ⟨_, rfl⟩
    have hl2 : (spellL (xs.take i)).length = L.length := by rw [← hLL, numsOf_length]
    rw [hl2] at hL
    rw [numsOf_append] at h
    rw [hLL] at h ⊢
    clear hl2 hLL
    obtain ⟨sz, hsz⟩ : ∃ sz, (xs.getD i z62).f1.size = sz := ⟨_, rfl⟩
    obtain ⟨B, hB⟩ : ∃ B : Nat, 140737488355328 = B := ⟨_, rfl⟩
    rw [hsz] at hL hbs
    have c3 : L.length < B := by omega
    have c5 : L.length + sz < B := by omega
    have c6 : ∀ c : Int, (L ++ [c]).length + sz < B := fun c => by rw [List.length_append]; show L.length + 1 + sz < B; omega
    simp only [PMacroWords.burinref02_Spell.l0, PMacroWords.burinref02_Spell.j1, rdN]
    rw [hB]
    clear hB hL hbs
    simp only [if_pos c1, if_pos c2, if_pos c3, Option.bind_some, hw, hb, hsz]
    clear hw hsz c1 c2 c3
    by_cases hi0 : i = 0
    · have c4 : ¬ ((i : Int) > 0) := fun hh => by rw [hi0] at hh; exact absurd hh (by decide)
      simp only [if_pos hi0, List.nil_append] at h
      simp only [if_neg c4, Bool.false_eq_true, if_false]
      rw [if_pos c5, h]
    · have c4 : ((i : Int) > 0) := by clear h c5 c6; omega
      simp only [if_neg hi0] at h
      simp only [if_pos c4]
      unfold sepT at h
      cases h5 : (xs.getD i z62).f5 with
      | true =>
        rw [h5] at h
        simp only [if_true] at h ⊢
        rw [if_pos (c6 10)]
        rw [numsOf_append, ← List.append_assoc] at h
        exact h
      | false =>
        rw [h5] at h
        simp only [Bool.false_eq_true, if_false] at h ⊢
        cases h4 : (xs.getD i z62).f4 with
        | true =>
          rw [h4] at h
          simp only [if_true] at h ⊢
          rw [if_pos (c6 32)]
          rw [numsOf_append, ← List.append_assoc] at h
          exact h
        | false =>
          rw [h4] at h
          simp only [Bool.false_eq_true, if_false, List.nil_append] at h ⊢
          rw [if_pos c5]
          exact h
theorem refSpell_any (xs : List S62) (hn : xs.length < 4294967296) (hs : (spellL xs).length < 4294967296) (v : Value) (w : World) (h : TokAt w v xs) :
    Calls Tryd.prog 63 #[v] w fun e w' => e = .returned (.string ⟨(spellL xs).toArray⟩) ∧ Below w.heap.size w w' := by
  obtain ⟨A, c, rfl, hc, hr⟩ := h
  refine PMacroWords.burinref02_Spell.calls (2 * xs.length + 1) A c xs _ w hr hc ?_
  unfold PMacroWords.burinref02_Spell.f
  have := spell_l0 xs hn hs xs.length 0 (2 * xs.length + 1) (by omega) (by omega)
  rw [show strOfNums (numsOf (spellL xs)) = ⟨(spellL xs).toArray⟩ from Lib.Lz.strOfNums_map _] at this
  exact this
end Go.Proofs.YthifdcakhdckfaaDoor

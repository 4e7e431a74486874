/-
  Rows of tokens cut at a place; what parsing comes to, as a value; the sizes of what comes of tokens.
-/
import Derived.Test.YthifdcakhdckfaaDoorRefPars
namespace Go.Proofs.YthifdcakhdckfaaDoor
open Go.RowKit Go.Proofs.YthifdcakhdckfaaDoorW.PrintWords
open PMacroWords (S62 k62 z62 rd_T62 k62_mk)
set_option linter.unusedVariables false
set_option linter.unusedSimpArgs false

/-! ### cutting -/
theorem elem38 : Tryd.prog.elem 38 = 62 := by kernel_rfl
theorem size62 (w : World) : (sizeOf 62).run Tryd.prog w = .ok 6 w := by kernel_rfl
theorem run_slice_tok (A : Option Addr) (len c : Nat) (k : Int) (h0 : 0 ≤ k) (h1 : k ≤ len) (w : World) : (Instr.slice 38 (.slice A len c) (some (.int .i64 k)) none none).run Tryd.prog w = .ok (sliced A k.toNat len c 6) w := by
  rw [run_slice_l w 38 A len c (by rw [elem38]; exact Tryd.underlying38) .i64 k h0 h1, elem38, size62]
  rfl
/-- The row from a place on. -/
theorem TokAt.cut {W : World} {A : Option Addr} {c : Nat} {xs : List S62} (h : TokAt W (.slice A xs.length c) xs) (k : Nat) (hk : k ≤ xs.length) : TokAt W (sliced A k xs.length c 6) (xs.drop k) := by
  obtain ⟨A', c', hA', hc', hr'⟩ := h
  injection hA' with e1 e2 e3
  subst e1; subst e3
  unfold sliced
  by_cases he : c = k
  · have hx : xs.drop k = [] := List.drop_of_length_le (by omega)
    rw [hx, if_pos he, show xs.length - k = 0 by omega]
    exact TokAt.nil W _ _
  · rw [if_neg he]
    by_cases hx0 : xs.length = k
    · have hx : xs.drop k = [] := List.drop_of_length_le (by omega)
      rw [hx, show xs.length - k = 0 by omega]
      exact TokAt.nil W _ _
    · obtain ⟨ad, rfl, hh⟩ := hr'.2.2 (by omega)
      refine ⟨some (ad.add (k * 6)), c - k, by rw [List.length_drop]; rfl, by rw [List.length_drop]; omega, rfl, by rw [List.length_drop]; have := hr'.2.1; omega, fun _ => ⟨_, rfl, ?_⟩⟩
      intro j p hp
      rw [List.getElem?_drop] at hp
      obtain ⟨c', hl, hK, hcell⟩ := hh (k + j) p hp
      refine ⟨c', hl, hK, fun i u hu => ?_⟩
      have := hcell i u hu
      have e : (ad.add (k * 6)).add (j * k62.sz + i) = ad.add ((k + j) * k62.sz + i) := by
        show (ad.add (k * 6)).add (j * 6 + i) = ad.add ((k + j) * 6 + i)
        rw [show (k + j) * 6 + i = k * 6 + (j * 6 + i) by omega]
        unfold Addr.add
        by_cases h1 : k * 6 = 0
        · rw [h1]; simp
        · by_cases h2 : j * 6 + i = 0
          · rw [h2]; simp
          · simp [h1, h2, Nat.add_assoc]; omega
      rw [e]
      exact this

/-! ### sizes -/
def tokSize (xs : List S62) : Nat := (xs.map fun t => t.f1.size + 1).sum
theorem tokSize_mem {xs : List S62} {t : S62} (h : t ∈ xs) : t.f1.size + 1 ≤ tokSize xs := by
  induction xs with
  | nil => simp at h
  | cons x r ih =>
    unfold tokSize at ih ⊢
    rw [List.map_cons, List.sum_cons]
    rcases List.mem_cons.1 h with rfl | h
    · omega
    · have := ih h; omega
theorem tokSize_length (xs : List S62) : xs.length ≤ tokSize xs := by
  induction xs with
  | nil => simp
  | cons x r ih => unfold tokSize at ih ⊢; rw [List.map_cons, List.sum_cons, List.length_cons]; omega
theorem tokSize_drop (xs : List S62) (n : Nat) : tokSize (xs.drop n) ≤ tokSize xs := by
  induction xs generalizing n with
  | nil => simp
  | cons x r ih =>
    cases n with
    | zero => simp
    | succ n => rw [List.drop_succ_cons]; have := ih n; unfold tokSize at this ⊢; rw [List.map_cons, List.sum_cons]; omega
theorem spell_bare_size (xs : List S62) : (spellL (bareL xs)).length ≤ tokSize xs := by
  cases xs with
  | nil => simp [bareL, spellL]
  | cons t r =>
    unfold tokSize
    simp only [bareL, spellL, List.length_append, List.map_cons, List.sum_cons]
    have h1 : (bl (bareT true t).f1).length = t.f1.size := bl_length _
    have h2 : ((r.map (bareT false)).flatMap fun t => sepT t ++ bl t.f1).length ≤ (r.map fun t => t.f1.size + 1).sum := by
      induction r with
      | nil => simp
      | cons x r ih =>
        rw [List.map_cons, List.flatMap_cons, List.length_append, List.length_append, List.map_cons, List.sum_cons]
        have h3 : (bl (bareT false x).f1).length = x.f1.size := bl_length _
        have h4 : (sepT (bareT false x)).length ≤ 1 := by unfold sepT; cases (bareT false x).f5 <;> cases (bareT false x).f4 <;> simp
        have := ih
        omega
    omega
theorem parGo_mem : ∀ (xs : List S62) (ps : List ByteArray) (q : List ByteArray × Bool × Nat), parGo xs ps = some q → ∀ p ∈ q.1, p ∈ ps ∨ ∃ t ∈ xs, p = t.f1
  | [], ps, q, h => by simp [parGo] at h
  | [_], ps, q, h => by simp [parGo] at h
  | t :: e :: r, ps, q, h => by
    intro p hp
    unfold parGo at h
    split at h
    · injection h with h; subst h; exact .inl hp
    · split at h
      · injection h with h; subst h
        rcases List.mem_append.1 hp with hp | hp
        · exact .inl hp
        · simp at hp; exact .inr ⟨t, by simp, hp⟩
      · split at h
        · obtain ⟨q', h1, h2⟩ := Option.map_eq_some_iff.1 h
          subst h2
          rcases parGo_mem r _ q' h1 p hp with hp | ⟨u, hu, e⟩
          · rcases List.mem_append.1 hp with hp | hp
            · exact .inl hp
            · simp at hp; exact .inr ⟨t, by simp, hp⟩
          · exact .inr ⟨u, by simp [hu], e⟩
        · cases h
theorem parL_fits {xs : List S62} {q : List ByteArray × Bool × Nat} (h : parL xs = some q) : q.2.2 ≤ xs.length ∧ q.1.length ≤ xs.length ∧ ∀ p ∈ q.1, ∃ t ∈ xs, p = t.f1 := by
  cases xs with
  | nil => simp [parL] at h
  | cons e r =>
    by_cases he : bl e.f1 = [41]
    · rw [parL_shut he] at h; cases h; simp
    · rw [parL_open he] at h
      have h1 := parGo_le _ _ _ h
      have h2 := parGo_mem _ _ _ h
      refine ⟨h1.1, by simpa using h1.2, fun p hp => ?_⟩
      rcases h2 p hp with h | h
      · simp at h
      · exact h
theorem rawL_fits {xs : List S62} {m : MacV} (hs : tokSize xs < 4294967281) (h : rawL xs = some m) : MacFits m := by
  have hl := tokSize_length xs
  have mk : ∀ (t : S62) (f : Bool) (ps : List ByteArray) (more : Bool) (ys : List S62), t ∈ xs → ps.length ≤ xs.length → (∀ p ∈ ps, ∃ t ∈ xs, p = t.f1) → tokSize ys ≤ tokSize xs → MacFits ⟨t.f1, f, ps, more, bareL ys⟩ := by
    intro t f ps more ys ht hp1 hp2 hy
    have hyl := tokSize_length ys
    refine ⟨?_, ?_, ?_, ?_, ?_⟩
    · have := tokSize_mem ht; show t.f1.size < _; omega
    · show ps.length < _; omega
    · show (bareL ys).length < _; rw [bareL_length]; omega
    · have := spell_bare_size ys; show (spellL (bareL ys)).length < _; omega
    · intro p hp
      obtain ⟨u, hu, rfl⟩ := hp2 p hp
      have := tokSize_mem hu; omega
  cases xs with
  | nil => simp [rawL] at h
  | cons t r =>
    simp only [rawL] at h
    by_cases h1 : (t.f0 == 1) = true
    · rw [if_pos h1] at h
      cases r with
      | nil =>
        simp only [Option.some.injEq] at h
        subst h
        exact mk t false [] false [] (by simp) (by simp) (by simp) (by simp [tokSize])
      | cons p q =>
        simp only at h
        by_cases h4 : p.f4 = true
        · rw [if_pos h4] at h
          cases h
          exact mk t false [] false (p :: q) (by simp) (by simp) (by simp) (tokSize_drop (t :: p :: q) 1)
        · rw [if_neg h4] at h
          by_cases h40 : (bl p.f1 == [40]) = true
          · rw [if_pos h40] at h
            obtain ⟨x, hx, rfl⟩ := Option.map_eq_some_iff.1 h
            obtain ⟨f1, f2, f3⟩ := parL_fits hx
            refine mk t true x.1 x.2.1 (q.drop x.2.2) (by simp) (by simp; omega) (fun p' hp' => ?_) ?_
            · obtain ⟨u, hu, e⟩ := f3 p' hp'
              exact ⟨u, by simp [hu], e⟩
            · exact Nat.le_trans (tokSize_drop q _) (tokSize_drop (t :: p :: q) 2)
          · rw [if_neg h40] at h; cases h
    · rw [if_neg h1] at h; cases h

theorem StrRow.below {n₀ : Nat} {W W' : World} {v : Value} {ps : List ByteArray} (h : StrRow n₀ W v ps) (hb : Below W.heap.size W W') : StrRow n₀ W' v ps :=
  own_move h (fun k hk => by obtain ⟨_, cs, hc⟩ := h.block k hk; exact hb.block k (Array.getElem?_eq_some_iff.1 hc).1)
/-! ### what Parse comes to -/
def zeroM : MacV := ⟨⟨#[]⟩, false, [], false, []⟩
def parseM (xs : List S62) : MacV := (parseL xs).getD zeroM
def parseE (xs : List S62) : Int := if (parseL xs).isSome then 0 else 30
/-- A macro's value, as it is read. -/
def MacAt (W : World) (v : Value) (m : MacV) : Prop := ∃ vp vb, v = .agg #[.string m.name, .bool m.func, vp, .bool m.more, vb] ∧ StrAt W vp m.params ∧ TokAt W vb m.body
theorem MacAt.below {W W' : World} {v : Value} {m : MacV} (h : MacAt W v m) (hb : Below W.heap.size W W') : MacAt W' v m := by
  obtain ⟨vp, vb, e, h1, h2⟩ := h
  exact ⟨vp, vb, e, h1.below hb, h2.below hb⟩
theorem MacAt.zero (W : World) : MacAt W (.agg #[.string ⟨#[]⟩, .bool false, .slice none 0 0, .bool false, .slice none 0 0]) zeroM :=
  ⟨_, _, rfl, (StrRow.nil 0 W).at, TokAt.nil W none 0⟩
def ParseEnd (w : World) (xs : List S62) (e : Ending) (w' : World) : Prop := ∃ vm, e = .returned (.tuple #[vm, .int .i64 (parseE xs)]) ∧ MacAt w' vm (parseM xs) ∧ Below w.heap.size w w'

def set5 (w : World) (g : Nat) (a b c d e : Value) : World := ((((w.setCell ⟨g, 0, none⟩ a).setCell ⟨g, 1, none⟩ b).setCell ⟨g, 2, none⟩ c).setCell ⟨g, 3, none⟩ d).setCell ⟨g, 4, none⟩ e
theorem set5_heap {w : World} {g : Nat} {a0 b0 c0 d0 e0 : Value} {t : TypeId} (h : w.heap[g]? = some (.cells #[a0, b0, c0, d0, e0] t (0, 0))) (a b c d e : Value) : (set5 w g a b c d e).heap[g]? = some (.cells #[a, b, c, d, e] t (0, 0)) := by
  unfold set5
  simp [World.setCell, Array.getElem?_modify, h]
theorem set5_below {w0 w : World} {n g : Nat} (h : Below n w0 w) (hn : n ≤ g) (a b c d e : Value) : Below n w0 (set5 w g a b c d e) :=
  ((((h.setCell (p := ⟨g, 0, none⟩) hn a).setCell (p := ⟨g, 1, none⟩) hn b).setCell (p := ⟨g, 2, none⟩) hn c).setCell (p := ⟨g, 3, none⟩) hn d).setCell (p := ⟨g, 4, none⟩) hn e
theorem set5_grown (w : World) (g : Nat) (a b c d e : Value) : w.grownBy (set5 w g a b c d e) (some g) :=
  grown_set (grown_set (grown_set (grown_set (grown_set (World.grownBy.refl w _) 0 _) 1 _) 2 _) 3 _) 4 _
theorem mac_results {fn : Func} {T : Array Value} {W : World} {g : Nat} {a b c d e x : Value} (hf : fn.results = #[.cell 2 46, .tmp 3]) (hh : W.heap[g]? = some (.cells #[a, b, c, d, e] 46 (0, 0)))
    (h2 : T.getD 2 undef = .pointer (some ⟨g, 0, none⟩)) (h3 : T.getD 3 undef = x) : (results fn T).run Tryd.prog W = .ok (.tuple #[.agg #[a, b, c, d, e], x]) W := by
  have c0 : W.cell? ⟨g, 0, none⟩ = some a := by simp [World.cell?, hh]
  have c1 : W.cell? ⟨g, 1, none⟩ = some b := by simp [World.cell?, hh]
  have c2 : W.cell? ⟨g, 2, none⟩ = some c := by simp [World.cell?, hh]
  have c3 : W.cell? ⟨g, 3, none⟩ = some d := by simp [World.cell?, hh]
  have c4 : W.cell? ⟨g, 4, none⟩ = some e := by simp [World.cell?, hh]
  simp only [Array.getD_eq_getD_getElem?] at h2 h3
  simp [results, hf, go_sem, h2, h3, c0, c1, c2, c3, c4]
end Go.Proofs.YthifdcakhdckfaaDoor

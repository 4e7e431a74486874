/-
  Plain facts on the lexer: the bounds on rounds do not matter.
-/
import Derived.Test.YthifdcakhdckfaaDoorTok2
namespace Go.Proofs.YthifdcakhdckfaaDoor.Lx

theorem behind_len : ∀ {s r : L}, behind s = some r → r.length + 2 ≤ s.length
  | [], r, h => by simp [behind] at h
  | c :: t, r, h => by
    unfold behind at h
    split at h
    · rename_i hc
      simp only [Bool.and_eq_true, decide_eq_true_eq] at hc
      injection h with h
      subst h
      have := hc.2
      simp only [List.length_drop, List.length_cons]
      omega
    · have := behind_len h
      simp only [List.length_cons]
      omega

theorem skip_nil (f : Nat) (o sp : Bool) : skip f o sp [] = (o, sp, []) := by cases f <;> simp [skip]

theorem skip_more : ∀ (f g : Nat) (o sp : Bool) (s : L), s.length < f → s.length < g → skip f o sp s = skip g o sp s
  | 0, _, _, _, _, h, _ => by omega
  | _ + 1, 0, _, _, _, _, h => by omega
  | f + 1, g + 1, o, sp, s, hf, hg => by
    unfold skip
    by_cases h0 : s = []
    · rw [if_pos h0, if_pos h0]
    have hl : 0 < s.length := List.length_pos_iff.2 h0
    rw [if_neg h0, if_neg h0]
    by_cases ho : o = true
    · rw [if_pos ho, if_pos ho]
      cases hb : behind s with
      | none => rfl
      | some r => have := behind_len hb; exact skip_more f g false true r (by omega) (by omega)
    rw [if_neg ho, if_neg ho]
    split
    · rfl
    split
    · exact skip_more f g true sp _ (by rw [List.length_drop]; omega) (by rw [List.length_drop]; omega)
    split
    · exact skip_more f g o true _ (by rw [List.length_drop]; omega) (by rw [List.length_drop]; omega)
    · rfl

theorem skipAll_nil (o sp : Bool) : skipAll o sp [] = (o, sp, []) := skip_nil _ _ _
theorem skipAll_open_none {s : L} (sp : Bool) (h0 : s ≠ []) (h : behind s = none) : skipAll true sp s = (true, true, []) := by
  unfold skipAll skip
  rw [if_neg h0, if_pos rfl, h]
theorem skipAll_open_some {s r : L} (sp : Bool) (h0 : s ≠ []) (h : behind s = some r) : skipAll true sp s = skipAll false true r := by
  have := behind_len h
  have e : skipAll true sp s = skip s.length false true r := by
    unfold skipAll
    rw [skip, if_neg h0, if_pos rfl, h]
  rw [e]
  exact skip_more _ _ _ _ _ (by omega) (by omega)
theorem skipAll_line {s : L} (sp : Bool) (h0 : s ≠ []) (h : pre [47, 47] s = true) : skipAll false sp s = (false, sp, []) := by
  unfold skipAll
  rw [skip, if_neg h0, if_neg (by simp), if_pos h]
theorem skipAll_begin {s : L} (sp : Bool) (h0 : s ≠ []) (h1 : pre [47, 47] s = false) (h : pre [47, 42] s = true) : skipAll false sp s = skipAll true sp (s.drop 2) := by
  have hl : 0 < s.length := List.length_pos_iff.2 h0
  have e : skipAll false sp s = skip s.length true sp (s.drop 2) := by
    unfold skipAll
    rw [skip, if_neg h0, if_neg (by simp), if_neg (by simp [h1]), if_pos h]
  rw [e]
  exact skip_more _ _ _ _ _ (by rw [List.length_drop]; omega) (by rw [List.length_drop]; omega)
theorem skipAll_blank {s : L} (sp : Bool) (h0 : s ≠ []) (h1 : pre [47, 47] s = false) (h2 : pre [47, 42] s = false) (h : isBlank (at_ s 0) = true) : skipAll false sp s = skipAll false true (s.drop 1) := by
  have hl : 0 < s.length := List.length_pos_iff.2 h0
  have e : skipAll false sp s = skip s.length false true (s.drop 1) := by
    unfold skipAll
    rw [skip, if_neg h0, if_neg (by simp), if_neg (by simp [h1]), if_neg (by simp [h2]), if_pos h]
  rw [e]
  exact skip_more _ _ _ _ _ (by rw [List.length_drop]; omega) (by rw [List.length_drop]; omega)
theorem skipAll_stop {s : L} (sp : Bool) (h0 : s ≠ []) (h1 : pre [47, 47] s = false) (h2 : pre [47, 42] s = false) (h : isBlank (at_ s 0) = false) : skipAll false sp s = (false, sp, s) := by
  unfold skipAll
  rw [skip, if_neg h0, if_neg (by simp), if_neg (by simp [h1]), if_neg (by simp [h2]), if_neg (by simp [h])]

/-- the token that stands next -/
def tokAt (o sp fi : Bool) (s : L) : Tk := ⟨(next (skipAll o sp s).2.2).1, (skipAll o sp s).2.2.take (next (skipAll o sp s).2.2).2, (skipAll o sp s).2.1, fi⟩
/-- so many tokens of a line have come, and this is where lexing is -/
inductive Run (s0 : L) : List Tk → Bool → Bool → Bool → L → Prop
  | nil : Run s0 [] false false true s0
  | snoc {pre : List Tk} {o sp fi : Bool} {s : L} (h : Run s0 pre o sp fi s) (h1 : (skipAll o sp s).2.2 ≠ []) (h2 : (next (skipAll o sp s).2.2).2 ≠ 0) :
      Run s0 (pre ++ [tokAt o sp fi s]) (skipAll o sp s).1 false false ((skipAll o sp s).2.2.drop (next (skipAll o sp s).2.2).2)

theorem skip_len : ∀ (f : Nat) (o sp : Bool) (s : L), (skip f o sp s).2.2.length ≤ s.length
  | 0, _, _, _ => by simp [skip]
  | f + 1, o, sp, s => by
    unfold skip
    split
    · simp
    split
    · cases hb : behind s with
      | none => simp
      | some r => have := behind_len hb; have := skip_len f false true r; simp only; omega
    split
    · simp
    split
    · have := skip_len f true sp (s.drop 2); rw [List.length_drop] at this; omega
    split
    · have := skip_len f o true (s.drop 1); rw [List.length_drop] at this; omega
    · exact Nat.le_refl _
theorem skipAll_len (o sp : Bool) (s : L) : (skipAll o sp s).2.2.length ≤ s.length := skip_len _ _ _ _

theorem lex_run {s0 : L} {pre : List Tk} {o sp fi : Bool} {s : L} (h : Run s0 pre o sp fi s) (hl : pre.length ≤ 20000) : ∃ f, s.length < f ∧ lex s0 = lexGo f o sp fi s pre := by
  induction h with
  | nil => exact ⟨s0.length + 1, by omega, rfl⟩
  | @snoc pre o sp fi s h h1 h2 ih =>
    rw [List.length_append, List.length_singleton] at hl
    obtain ⟨f, hf, e⟩ := ih (by omega)
    obtain ⟨f, rfl⟩ : ∃ g, f = g + 1 := ⟨f - 1, by omega⟩
    have hk := skipAll_len o sp s
    have hp : 0 < (skipAll o sp s).2.2.length := List.length_pos_iff.2 h1
    refine ⟨f, by rw [List.length_drop]; omega, ?_⟩
    rw [e, lexGo]
    simp only [if_neg h1, if_neg h2]
    rw [if_neg (by omega)]
    rfl
theorem lex_done {s0 : L} {pre : List Tk} {o sp fi : Bool} {s : L} (h : Run s0 pre o sp fi s) (hl : pre.length ≤ 20000) (h1 : (skipAll o sp s).2.2 = []) : lex s0 = if (skipAll o sp s).1 then (20, []) else (0, pre) := by
  obtain ⟨f, hf, e⟩ := lex_run h hl
  obtain ⟨f, rfl⟩ : ∃ g, f = g + 1 := ⟨f - 1, by omega⟩
  rw [e, lexGo]
  simp only [if_pos h1]
theorem lex_quote {s0 : L} {pre : List Tk} {o sp fi : Bool} {s : L} (h : Run s0 pre o sp fi s) (hl : pre.length ≤ 20000) (h1 : (skipAll o sp s).2.2 ≠ []) (h2 : (next (skipAll o sp s).2.2).2 = 0) : lex s0 = (21, []) := by
  obtain ⟨f, hf, e⟩ := lex_run h hl
  obtain ⟨f, rfl⟩ : ∃ g, f = g + 1 := ⟨f - 1, by omega⟩
  rw [e, lexGo]
  simp only [if_neg h1, if_pos h2]
theorem lex_many {s0 : L} {pre : List Tk} {o sp fi : Bool} {s : L} (h : Run s0 pre o sp fi s) (hl : pre.length = 20000) (h1 : (skipAll o sp s).2.2 ≠ []) (h2 : (next (skipAll o sp s).2.2).2 ≠ 0) : lex s0 = (22, []) := by
  obtain ⟨f, hf, e⟩ := lex_run h (by omega)
  obtain ⟨f, rfl⟩ : ∃ g, f = g + 1 := ⟨f - 1, by omega⟩
  rw [e, lexGo]
  simp only [if_neg h1, if_neg h2, if_pos hl]
theorem many_bound (n : Nat) (p : Nat → Bool) : many n p ≤ n := by
  have key : ∀ f i, cnt p f i ≤ i + f := by
    intro f
    induction f with
    | zero => intro i; exact Nat.le_refl _
    | succ f ih =>
      intro i
      unfold cnt
      split
      · have := ih (i + 1); omega
      · omega
  have := key n 0
  simpa [many] using this
theorem quo_bound (s : L) : ∀ f i, quoGo s f i ≤ s.length
  | 0, _ => Nat.zero_le _
  | f + 1, i => by
    unfold quoGo
    split
    · split
      · exact quo_bound s f _
      · split
        · omega
        · exact quo_bound s f _
    · exact Nat.zero_le _
theorem sign_bound (s : L) : signLen s ≤ s.length := by
  unfold signLen
  split
  · rename_i x hx
    have h := List.find?_some hx
    exact List.IsPrefix.length_le (List.isPrefixOf_iff_prefix.1 h)
  · exact Nat.zero_le _
theorem next_le (s : L) (h : s ≠ []) : (next s).2 ≤ s.length := by
  have hl : 0 < s.length := List.length_pos_iff.2 h
  unfold next
  simp only
  by_cases h1 : isLet (at_ s 0) = true
  · rw [if_pos h1]; exact many_bound _ _
  rw [if_neg h1]
  by_cases h2 : (isDig (at_ s 0) || at_ s 0 == 46 && decide (1 < s.length) && isDig (at_ s 1)) = true
  · rw [if_pos h2]; exact many_bound _ _
  rw [if_neg h2]
  by_cases h3 : (at_ s 0 == 34) = true
  · rw [if_pos h3]; exact quo_bound _ _ _
  rw [if_neg h3]
  by_cases h4 : (at_ s 0 == 39) = true
  · rw [if_pos h4]
    simp only
    split
    · exact Nat.zero_le _
    · exact quo_bound _ _ _
  rw [if_neg h4]
  split
  · exact hl
  · exact sign_bound s
end Go.Proofs.YthifdcakhdckfaaDoor.Lx

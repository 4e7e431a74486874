/-
  Plain law: the lexer from a place on, byte by byte (the reference's way through a line).
-/
import Derived.Test.YthifdcakhdckfaaDoorLxP
namespace Go.Proofs.YthifdcakhdckfaaDoor.Lx

theorem lexGo_skip {o o' sp sp' : Bool} {s s' : L} (fi : Bool) (out : List Tk) (f : Nat) (h : skipAll o sp s = skipAll o' sp' s') : lexGo f o sp fi s out = lexGo f o' sp' fi s' out := by
  cases f with
  | zero => rfl
  | succ f => simp only [lexGo, h]
theorem lexGo_more : ∀ (f g : Nat) (o sp fi : Bool) (s : L) (out : List Tk), s.length < f → s.length < g → lexGo f o sp fi s out = lexGo g o sp fi s out := by
  intro f
  induction f with
  | zero => intro g o sp fi s out h; omega
  | succ f ih =>
    intro g o sp fi s out h1 h2
    obtain ⟨g, rfl⟩ : ∃ j, g = j + 1 := ⟨g - 1, by omega⟩
    simp only [lexGo]
    by_cases he : (skipAll o sp s).2.2 = []
    · simp only [if_pos he]
    · simp only [if_neg he]
      by_cases hn : (next (skipAll o sp s).2.2).2 = 0
      · simp only [if_pos hn]
      · simp only [if_neg hn]
        have hk := skipAll_len o sp s
        have hp : 0 < (skipAll o sp s).2.2.length := List.length_pos_iff.2 he
        rw [ih g _ _ _ _ _ (by rw [List.length_drop]; omega) (by rw [List.length_drop]; omega)]
def lexFrom (o sp fi : Bool) (s : L) (out : List Tk) : Int × List Tk := lexGo (s.length + 1) o sp fi s out
theorem lex_from (s : L) : lex s = lexFrom false false true s [] := rfl
theorem lexFrom_skip {o o' sp sp' : Bool} {s s' : L} (fi : Bool) (out : List Tk) (h : skipAll o sp s = skipAll o' sp' s') (hl : s'.length ≤ s.length) : lexFrom o sp fi s out = lexFrom o' sp' fi s' out := by
  unfold lexFrom
  rw [lexGo_skip fi out _ h]
  exact lexGo_more _ _ _ _ _ _ _ (by omega) (by omega)
theorem lexFrom_nil (o sp fi : Bool) (out : List Tk) : lexFrom o sp fi [] out = if o then (20, []) else (0, out) := by
  unfold lexFrom
  simp only [List.length_nil, lexGo, skipAll_nil, if_true]
theorem at_cons0 (c : UInt8) (t : L) : at_ (c :: t) 0 = c := rfl
theorem at_cons1 (c : UInt8) (t : L) : at_ (c :: t) 1 = at_ t 0 := rfl
theorem behind_cons (c : UInt8) (t : L) : behind (c :: t) = if (c == 42 && at_ t 0 == 47 && decide (0 < t.length)) then some (t.drop 1) else behind t := by rw [behind]
theorem lexFrom_shut (sp fi : Bool) (s : L) (out : List Tk) (h1 : 1 < s.length) (h2 : at_ s 0 = 42) (h3 : at_ s 1 = 47) : lexFrom true sp fi s out = lexFrom false true fi (s.drop 2) out := by
  cases s with
  | nil => simp at h1
  | cons c t =>
    have hb : behind (c :: t) = some (t.drop 1) := by
      rw [behind_cons, if_pos]
      rw [at_cons0] at h2; rw [at_cons1] at h3
      simp only [List.length_cons] at h1
      rw [h2, h3]; simp; omega
    refine lexFrom_skip fi out ?_ (by rw [List.length_drop]; omega)
    rw [skipAll_open_some sp (by simp) hb]
    rfl
theorem lexFrom_in (sp fi : Bool) (s : L) (out : List Tk) (h0 : s ≠ []) (h : ¬ (1 < s.length ∧ at_ s 0 = 42 ∧ at_ s 1 = 47)) : lexFrom true sp fi s out = lexFrom true true fi (s.drop 1) out := by
  cases s with
  | nil => exact absurd rfl h0
  | cons c t =>
    have hb : behind (c :: t) = behind t := by
      rw [behind_cons, if_neg]
      intro hc
      simp only [Bool.and_eq_true, beq_iff_eq, decide_eq_true_eq] at hc
      refine h ⟨by simp only [List.length_cons]; omega, hc.1.1, hc.1.2⟩
    refine lexFrom_skip fi out ?_ (by rw [List.length_drop]; omega)
    show skipAll true sp (c :: t) = skipAll true true t
    cases hbt : behind t with
    | none =>
      rw [skipAll_open_none sp h0 (hb.trans hbt)]
      by_cases ht : t = []
      · subst ht; rw [skipAll_nil]
      · rw [skipAll_open_none true ht hbt]
    | some r =>
      rw [skipAll_open_some sp h0 (hb.trans hbt)]
      have ht : t ≠ [] := by rintro rfl; simp [behind] at hbt
      rw [skipAll_open_some true ht hbt]
theorem pre2 (a b : UInt8) (s : L) : pre [a, b] s = (decide (1 < s.length) && at_ s 0 == a && at_ s 1 == b) := by
  unfold pre
  match s with
  | [] => simp
  | [c] => simp [List.isPrefixOf]
  | c :: d :: t =>
    simp only [List.isPrefixOf, at_cons0, at_cons1, List.length_cons, Bool.and_true]
    have : decide (1 < t.length + 1 + 1) = true := by simp
    rw [this, Bool.true_and]
    congr 1
    · rw [Bool.eq_iff_iff, beq_iff_eq, beq_iff_eq]; exact ⟨Eq.symm, Eq.symm⟩
    · rw [Bool.eq_iff_iff, beq_iff_eq, beq_iff_eq]; exact ⟨Eq.symm, Eq.symm⟩
theorem lexFrom_line (sp fi : Bool) (s : L) (out : List Tk) (h0 : s ≠ []) (h : pre [47, 47] s = true) : lexFrom false sp fi s out = (0, out) := by
  unfold lexFrom
  simp only [lexGo, skipAll_line sp h0 h, if_true, Bool.false_eq_true, if_false]
theorem lexFrom_begin (sp fi : Bool) (s : L) (out : List Tk) (h0 : s ≠ []) (h1 : pre [47, 47] s = false) (h : pre [47, 42] s = true) : lexFrom false sp fi s out = lexFrom true sp fi (s.drop 2) out :=
  lexFrom_skip fi out (skipAll_begin sp h0 h1 h) (by rw [List.length_drop]; omega)
theorem blank_pre {s : L} (h : isBlank (at_ s 0) = true) (b : UInt8) : pre [47, b] s = false := by
  rw [pre2]
  cases he : (at_ s 0 == 47) with
  | false => simp
  | true => rw [beq_iff_eq.1 he] at h; exact absurd h (by decide)
theorem lexFrom_blank (sp fi : Bool) (s : L) (out : List Tk) (h0 : s ≠ []) (h : isBlank (at_ s 0) = true) : lexFrom false sp fi s out = lexFrom false true fi (s.drop 1) out :=
  lexFrom_skip fi out (skipAll_blank sp h0 (blank_pre h _) (blank_pre h _) h) (by rw [List.length_drop]; omega)
section
variable {sp fi : Bool} {s : L} {out : List Tk} (h0 : s ≠ []) (h1 : pre [47, 47] s = false) (h2 : pre [47, 42] s = false) (h : isBlank (at_ s 0) = false)
include h0 h1 h2 h
theorem lexFrom_quote (hn : (next s).2 = 0) : lexFrom false sp fi s out = (21, []) := by
  unfold lexFrom
  simp only [lexGo, skipAll_stop sp h0 h1 h2 h, if_neg h0, if_pos hn]
theorem lexFrom_many (hn : (next s).2 ≠ 0) (hl : out.length = 20000) : lexFrom false sp fi s out = (22, []) := by
  unfold lexFrom
  simp only [lexGo, skipAll_stop sp h0 h1 h2 h, if_neg h0, if_neg hn, if_pos hl]
theorem lexFrom_tok (hn : (next s).2 ≠ 0) (hl : out.length ≠ 20000) : lexFrom false sp fi s out = lexFrom false false false (s.drop (next s).2) (out ++ [⟨(next s).1, s.take (next s).2, sp, fi⟩]) := by
  have hp : 0 < s.length := List.length_pos_iff.2 h0
  have e : lexFrom false sp fi s out = lexGo s.length false false false (s.drop (next s).2) (out ++ [⟨(next s).1, s.take (next s).2, sp, fi⟩]) := by
    unfold lexFrom
    simp only [lexGo, skipAll_stop sp h0 h1 h2 h, if_neg h0, if_neg hn, if_neg hl]
  rw [e]
  exact lexGo_more _ _ _ _ _ _ _ (by rw [List.length_drop]; omega) (by omega)
end
end Go.Proofs.YthifdcakhdckfaaDoor.Lx

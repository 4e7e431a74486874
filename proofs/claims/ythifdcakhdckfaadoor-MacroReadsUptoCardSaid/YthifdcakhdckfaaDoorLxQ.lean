/-
  Plain facts on the lexer: which tokens come out; a name, a sign, a blank in front of more text; a text lexed behind others.
-/
import Derived.Test.YthifdcakhdckfaaDoorLexF
namespace Go.Proofs.YthifdcakhdckfaaDoor.Lx

/-! ### what goes on -/
theorem cnt_ge (p : Nat → Bool) : ∀ f i, i ≤ cnt p f i
  | 0, i => Nat.le_refl _
  | f + 1, i => by
    unfold cnt
    split
    · have := cnt_ge p f (i + 1); omega
    · exact Nat.le_refl _
theorem cnt_lt (p : Nat → Bool) : ∀ f i j, i ≤ j → j < cnt p f i → p j = true
  | 0, i, j, h1, h2 => by unfold cnt at h2; omega
  | f + 1, i, j, h1, h2 => by
    unfold cnt at h2
    by_cases hp : p i = true
    · rw [if_pos hp] at h2
      by_cases he : i = j
      · rw [← he]; exact hp
      · exact cnt_lt p f (i + 1) j (by omega) h2
    · rw [if_neg hp] at h2; omega
theorem many_lt {n : Nat} {p : Nat → Bool} {j : Nat} (h : j < many n p) : p j = true := cnt_lt p n 0 j (Nat.zero_le _) h
theorem cnt_eq (p : Nat → Bool) : ∀ f i k, i ≤ k → k ≤ i + f → (∀ j, i ≤ j → j < k → p j = true) → (k = i + f ∨ p k = false) → cnt p f i = k
  | 0, i, k, h1, h2, _, _ => by unfold cnt; omega
  | f + 1, i, k, h1, h2, h3, h4 => by
    unfold cnt
    by_cases he : i = k
    · subst he
      rcases h4 with h4 | h4
      · omega
      · rw [if_neg (by simp [h4])]
    · rw [if_pos (h3 i (Nat.le_refl _) (by omega))]
      exact cnt_eq p f (i + 1) k (by omega) (by omega) (fun j hj hk => h3 j (by omega) hk) (by rcases h4 with h4 | h4; exact .inl (by omega); exact .inr h4)
theorem many_eq {n k : Nat} {p : Nat → Bool} (h1 : k ≤ n) (h2 : ∀ j, j < k → p j = true) (h3 : k = n ∨ p k = false) : many n p = k :=
  cnt_eq p n 0 k (Nat.zero_le _) (by omega) (fun j _ h => h2 j h) (by rcases h3 with h | h; exact .inl (by omega); exact .inr h)

theorem at_take {s : L} {n i : Nat} (h : i < n) : at_ (s.take n) i = at_ s i := by
  unfold at_
  rw [List.getD_eq_getElem?_getD, List.getD_eq_getElem?_getD, List.getElem?_take_of_lt h]
theorem at_app_left {s r : L} {i : Nat} (h : i < s.length) : at_ (s ++ r) i = at_ s i := by
  unfold at_
  rw [List.getD_eq_getElem?_getD, List.getD_eq_getElem?_getD, List.getElem?_append_left h]
theorem at_app_right {s r : L} {i : Nat} (h : s.length ≤ i) : at_ (s ++ r) i = at_ r (i - s.length) := by
  unfold at_
  rw [List.getD_eq_getElem?_getD, List.getD_eq_getElem?_getD, List.getElem?_append_right h]

/-! ### which tokens come out -/
/-- A token of kind 1 is a name; another one does not begin with a letter. -/
structure Fine (t : Tk) : Prop where
  full : t.s ≠ []
  letter : t.kind = 1 ↔ isLet (at_ t.s 0) = true
  word : t.kind = 1 → ∀ i, i < t.s.length → isWrd (at_ t.s i) = true
theorem next_fine (s : L) (sp fi : Bool) (h0 : s ≠ []) (hn : (next s).2 ≠ 0) : Fine ⟨(next s).1, s.take (next s).2, sp, fi⟩ := by
  have hl : 0 < s.length := List.length_pos_iff.2 h0
  have ha : at_ (s.take (next s).2) 0 = at_ s 0 := at_take (by omega)
  have hk : (next s).1 = 1 ↔ isLet (at_ s 0) = true := by
    unfold next
    simp only
    by_cases h1 : isLet (at_ s 0) = true
    · rw [if_pos h1]; simp [h1]
    · rw [if_neg h1]
      constructor
      · intro h
        exfalso
        split at h
        · simp at h
        · split at h
          · simp at h
          · split at h
            · simp at h
            · split at h <;> simp at h
      · intro h; exact absurd h h1
  refine ⟨?_, ?_, ?_⟩
  · intro h
    have := congrArg List.length h
    simp only [List.length_take, List.length_nil] at this
    omega
  · show (next s).1 = 1 ↔ isLet (at_ (s.take (next s).2) 0) = true
    rw [ha]; exact hk
  · intro h1 i hi
    have h2 := hk.1 h1
    have h3 : (next s).2 = nameLen s := by unfold next; simp only; rw [if_pos h2]
    simp only [List.length_take] at hi
    have hi2 : i < (next s).2 := by omega
    show isWrd (at_ (s.take (next s).2) i) = true
    rw [at_take hi2]
    rw [h3] at hi2
    exact many_lt hi2
theorem lexGo_fine : ∀ (f : Nat) (o sp fi : Bool) (s : L) (out : List Tk), (∀ t ∈ out, Fine t) → ∀ t ∈ (lexGo f o sp fi s out).2, Fine t := by
  intro f
  induction f with
  | zero => intro o sp fi s out h t ht; simp [lexGo] at ht
  | succ f ih =>
    intro o sp fi s out h t ht
    rw [lexGo] at ht
    simp only at ht
    by_cases h1 : (skipAll o sp s).2.2 = []
    · rw [if_pos h1] at ht
      split at ht
      · simp at ht
      · exact h t ht
    · rw [if_neg h1] at ht
      by_cases h2 : (next (skipAll o sp s).2.2).2 = 0
      · rw [if_pos h2] at ht; simp at ht
      · rw [if_neg h2] at ht
        by_cases h3 : out.length = 20000
        · rw [if_pos h3] at ht; simp at ht
        · rw [if_neg h3] at ht
          refine ih _ _ _ _ _ ?_ t ht
          intro u hu
          rcases List.mem_append.1 hu with hu | hu
          · exact h u hu
          · simp only [List.mem_singleton] at hu
            subst hu
            exact next_fine _ _ _ h1 h2
theorem lex_fine (s : L) : ∀ t ∈ (lex s).2, Fine t := lexGo_fine _ _ _ _ _ _ (by simp)

/-! ### a text behind others -/
theorem lexGo_count20 : ∀ (f : Nat) (o sp fi : Bool) (s : L) (out : List Tk), out.length ≤ 20000 → (lexGo f o sp fi s out).2.length ≤ 20000 := by
  intro f
  induction f with
  | zero => intro o sp fi s out h; simp [lexGo]
  | succ f ih =>
    intro o sp fi s out h
    rw [lexGo]
    simp only []
    split
    · split
      · simp
      · exact h
    · split
      · simp
      · split
        · simp
        · exact ih _ _ _ _ _ (by rw [List.length_append, List.length_singleton]; omega)
theorem lexGo_acc : ∀ (f : Nat) (o sp fi : Bool) (s : L) (a r : List Tk), lexGo f o sp fi s a = (0, r) →
    ∃ ts, r = a ++ ts ∧ ∀ b : List Tk, b.length + ts.length ≤ 20000 → lexGo f o sp fi s b = (0, b ++ ts) := by
  intro f
  induction f with
  | zero => intro o sp fi s a r h; simp [lexGo] at h
  | succ f ih =>
    intro o sp fi s a r h
    rw [lexGo] at h
    simp only at h
    by_cases h1 : (skipAll o sp s).2.2 = []
    · rw [if_pos h1] at h
      by_cases ho : (skipAll o sp s).1 = true
      · rw [if_pos ho] at h; simp at h
      · rw [if_neg ho] at h
        injection h with _ h
        refine ⟨[], by simp [h], fun b _ => ?_⟩
        rw [lexGo]
        simp only
        rw [if_pos h1, if_neg ho, List.append_nil]
    · rw [if_neg h1] at h
      by_cases h2 : (next (skipAll o sp s).2.2).2 = 0
      · rw [if_pos h2] at h; simp at h
      · rw [if_neg h2] at h
        by_cases h3 : a.length = 20000
        · rw [if_pos h3] at h; simp at h
        · rw [if_neg h3] at h
          obtain ⟨ts, hr, hb⟩ := ih _ _ _ _ _ _ h
          refine ⟨_ :: ts, by rw [hr, List.append_assoc, List.singleton_append], fun b hlen => ?_⟩
          rw [List.length_cons] at hlen
          rw [lexGo]
          simp only
          rw [if_neg h1, if_neg h2, if_neg (by omega), hb _ (by rw [List.length_append, List.length_singleton]; omega), List.append_assoc, List.singleton_append]
theorem skip_sp : ∀ (f : Nat) (o sp sp' : Bool) (s : L), (skip f o sp s).1 = (skip f o sp' s).1 ∧ (skip f o sp s).2.2 = (skip f o sp' s).2.2
  | 0, _, _, _, _ => by simp [skip]
  | f + 1, o, sp, sp', s => by
    unfold skip
    by_cases h0 : s = []
    · rw [if_pos h0, if_pos h0]; exact ⟨rfl, rfl⟩
    rw [if_neg h0, if_neg h0]
    by_cases ho : o = true
    · rw [if_pos ho, if_pos ho]; exact ⟨rfl, rfl⟩
    rw [if_neg ho, if_neg ho]
    by_cases h1 : pre [47, 47] s = true
    · rw [if_pos h1, if_pos h1]; exact ⟨rfl, rfl⟩
    rw [if_neg h1, if_neg h1]
    by_cases h2 : pre [47, 42] s = true
    · rw [if_pos h2, if_pos h2]; exact skip_sp f true sp sp' _
    rw [if_neg h2, if_neg h2]
    by_cases h3 : isBlank (at_ s 0) = true
    · rw [if_pos h3, if_pos h3]; exact ⟨rfl, rfl⟩
    rw [if_neg h3, if_neg h3]; exact ⟨rfl, rfl⟩
/-- Two rows of tokens that are the same but for the marks of the first one. -/
def Alike : List Tk → List Tk → Prop
  | [], [] => True
  | a :: r, b :: q => a.kind = b.kind ∧ a.s = b.s ∧ r = q
  | _, _ => False
theorem Alike.length {a b : List Tk} (h : Alike a b) : a.length = b.length := by
  cases a <;> cases b <;> simp_all [Alike]
theorem lexGo_marks (f : Nat) (o sp fi sp' fi' : Bool) (s : L) (r : List Tk) (h : lexGo f o sp fi s [] = (0, r)) : ∃ q, lexGo f o sp' fi' s [] = (0, q) ∧ Alike r q ∧ ∀ t q', q = t :: q' → t.space = (skipAll o sp' s).2.1 := by
  cases f with
  | zero => simp [lexGo] at h
  | succ f =>
    rw [lexGo] at h
    simp only at h
    obtain ⟨e1, e2⟩ := skip_sp (s.length + 1) o sp sp' s
    change (skipAll o sp s).1 = (skipAll o sp' s).1 at e1
    change (skipAll o sp s).2.2 = (skipAll o sp' s).2.2 at e2
    by_cases h1 : (skipAll o sp s).2.2 = []
    · rw [if_pos h1] at h
      by_cases ho : (skipAll o sp s).1 = true
      · rw [if_pos ho] at h; simp at h
      · rw [if_neg ho] at h
        injection h with _ h
        refine ⟨[], ?_, by rw [← h]; trivial, by intro t q' e; cases e⟩
        rw [lexGo]
        simp only
        rw [← e2, ← e1, if_pos h1, if_neg ho]
    · rw [if_neg h1] at h
      by_cases h2 : (next (skipAll o sp s).2.2).2 = 0
      · rw [if_pos h2] at h; simp at h
      · rw [if_neg h2] at h
        rw [if_neg (by simp)] at h
        obtain ⟨ts, hr, hb⟩ := lexGo_acc _ _ _ _ _ _ _ h
        have hc : ts.length + 1 ≤ 20000 := by
          have := lexGo_count20 f (skipAll o sp s).1 false false ((skipAll o sp s).2.2.drop (next (skipAll o sp s).2.2).2) ([] ++ [⟨(next (skipAll o sp s).2.2).1, (skipAll o sp s).2.2.take (next (skipAll o sp s).2.2).2, (skipAll o sp s).2.1, fi⟩]) (by simp)
          rw [h] at this
          simp only [hr, List.length_append, List.nil_append, List.length_singleton] at this
          omega
        refine ⟨⟨(next (skipAll o sp s).2.2).1, (skipAll o sp s).2.2.take (next (skipAll o sp s).2.2).2, (skipAll o sp' s).2.1, fi'⟩ :: ts, ?_, by rw [hr]; exact ⟨rfl, rfl, rfl⟩, by intro t q' e; injection e with e _; rw [← e]⟩
        rw [lexGo]
        simp only
        rw [← e2, ← e1, if_neg h1, if_neg h2, if_neg (by simp)]
        rw [hb _ (by simp; omega)]
        rfl
theorem skip_true : ∀ (f : Nat) (o : Bool) (s : L), (skip f o true s).2.1 = true
  | 0, _, _ => by simp [skip]
  | f + 1, o, s => by
    unfold skip
    split
    · rfl
    split
    · cases behind s with
      | none => rfl
      | some r => exact skip_true f false r
    split
    · rfl
    split
    · exact skip_true f true _
    split
    · exact skip_true f o _
    · rfl

/-! ### a token ahead of more text -/
theorem all256 {p : UInt8 → Bool} (h : ∀ n : Fin 256, p (UInt8.ofNat n.val) = true) (c : UInt8) : p c = true := by
  have := h ⟨c.toNat, c.toNat_lt⟩
  simpa using this
theorem let_plain {c : UInt8} (h : isLet c = true) : isBlank c = false ∧ c ≠ 47 := by
  have := all256 (p := fun c => !isLet c || (!isBlank c && !(c == 47))) (by decide +kernel) c
  simp only [h, Bool.not_true, Bool.false_or, Bool.and_eq_true, Bool.not_eq_true', beq_eq_false_iff_ne] at this
  exact this
theorem pre_no {x r : L} (h0 : x ≠ []) (h : at_ x 0 ≠ 47) (b : UInt8) : pre [47, b] (x ++ r) = false := by
  have hl : 0 < x.length := List.length_pos_iff.2 h0
  rw [pre2, at_app_left hl]
  have : (at_ x 0 == 47) = false := by rw [beq_eq_false_iff_ne]; exact h
  rw [this]; simp
theorem lexFrom_step {x r : L} {k : Int} (sp fi : Bool) (out : List Tk) (hk : next (x ++ r) = (k, x.length)) (h0 : x ≠ []) (h47 : at_ x 0 ≠ 47) (hb : isBlank (at_ x 0) = false) (hl : out.length ≠ 20000) :
    lexFrom false sp fi (x ++ r) out = lexFrom false false false r (out ++ [⟨k, x, sp, fi⟩]) := by
  have hx : 0 < x.length := List.length_pos_iff.2 h0
  have hne : x ++ r ≠ [] := by simp [h0]
  rw [lexFrom_tok hne (pre_no h0 h47 _) (pre_no h0 h47 _) (by rw [at_app_left hx]; exact hb) (by rw [hk]; show x.length ≠ 0; omega) hl, hk]
  simp only [List.drop_left, List.take_left]
theorem name_next {x r : L} (h0 : x ≠ []) (h1 : isLet (at_ x 0) = true) (hw : ∀ i, i < x.length → isWrd (at_ x i) = true) (hr : r = [] ∨ isWrd (at_ r 0) = false) : next (x ++ r) = (1, x.length) := by
  have hx : 0 < x.length := List.length_pos_iff.2 h0
  have ha : at_ (x ++ r) 0 = at_ x 0 := at_app_left hx
  have hn : nameLen (x ++ r) = x.length := by
    refine many_eq (by simp) (fun j hj => by show isWrd (at_ (x ++ r) j) = true; rw [at_app_left hj]; exact hw j hj) ?_
    rcases hr with rfl | hr
    · left; simp
    · right; show isWrd (at_ (x ++ r) x.length) = false; rw [at_app_right (Nat.le_refl _), Nat.sub_self]; exact hr
  unfold next
  simp only
  rw [ha, if_pos h1, hn]
theorem next_open (r : L) : next ([40] ++ r) = (5, 1) := by
  simp [next, at_, isLet, isDig, signLen, signs, pre]
theorem next_shut (r : L) : next ([41] ++ r) = (5, 1) := by
  simp [next, at_, isLet, isDig, signLen, signs, pre]
theorem next_comma (r : L) : next ([44] ++ r) = (5, 1) := by
  simp [next, at_, isLet, isDig, signLen, signs, pre]
theorem next_dots (r : L) : next ([46, 46, 46] ++ r) = (5, 3) := by
  simp [next, at_, isLet, isDig, signLen, signs, pre]

/-- A token that stands ahead of a comma or a bracket. -/
structure Item (x : L) (k : Int) : Prop where
  full : x ≠ []
  slash : at_ x 0 ≠ 47
  blank : isBlank (at_ x 0) = false
  comma : ∀ r, next (x ++ ([44] ++ r)) = (k, x.length)
  shut : ∀ r, next (x ++ ([41] ++ r)) = (k, x.length)
theorem item_name {x : L} (h0 : x ≠ []) (h1 : isLet (at_ x 0) = true) (hw : ∀ i, i < x.length → isWrd (at_ x i) = true) : Item x 1 :=
  ⟨h0, (let_plain h1).2, (let_plain h1).1, fun r => name_next h0 h1 hw (.inr (by rfl)), fun r => name_next h0 h1 hw (.inr (by rfl))⟩
theorem item_dots : Item [46, 46, 46] 5 := ⟨by simp, by decide, by decide, fun r => next_dots _, fun r => next_dots _⟩

def joinL : List L → L
  | [] => []
  | [x] => x
  | x :: y :: r => x ++ ([44, 32] ++ joinL (y :: r))
def ptoks : List (L × Int) → Bool → List Tk
  | [], _ => []
  | [p], sp => [⟨p.2, p.1, sp, false⟩]
  | p :: y :: r, sp => ⟨p.2, p.1, sp, false⟩ :: ⟨5, [44], false, false⟩ :: ptoks (y :: r) true
theorem ptoks_len : ∀ (xs : List (L × Int)) (sp : Bool), (ptoks xs sp).length ≤ 2 * xs.length
  | [], _ => by simp [ptoks]
  | [_], _ => by simp [ptoks]
  | p :: y :: r, sp => by
    have := ptoks_len (y :: r) true
    simp only [ptoks, List.length_cons] at this ⊢
    omega
theorem lexFrom_join : ∀ (xs : List (L × Int)), xs ≠ [] → (∀ p ∈ xs, Item p.1 p.2) → ∀ (sp : Bool) (out : List Tk) (tail : L), out.length + 2 * xs.length ≤ 20000 →
    lexFrom false sp false (joinL (xs.map (·.1)) ++ ([41] ++ tail)) out = lexFrom false false false tail (out ++ (ptoks xs sp ++ [⟨5, [41], false, false⟩]))
  | [], h0, _, _, _, _, _ => absurd rfl h0
  | [p], _, hi, sp, out, tail, hl => by
    have h := hi p (by simp)
    simp only [List.length_cons, List.length_nil] at hl
    show lexFrom false sp false (p.1 ++ ([41] ++ tail)) out = _
    rw [lexFrom_step sp false out (h.shut tail) h.full h.slash h.blank (by omega)]
    rw [lexFrom_step false false _ (next_shut tail) (by simp) (by decide) (by decide) (by rw [List.length_append, List.length_singleton]; omega)]
    simp [ptoks]
  | p :: y :: r, _, hi, sp, out, tail, hl => by
    have h := hi p (by simp)
    simp only [List.length_cons] at hl
    show lexFrom false sp false ((p.1 ++ ([44, 32] ++ joinL ((y :: r).map (·.1)))) ++ ([41] ++ tail)) out = _
    have e : (p.1 ++ ([44, 32] ++ joinL ((y :: r).map (·.1)))) ++ ([41] ++ tail) = p.1 ++ ([44] ++ (32 :: (joinL ((y :: r).map (·.1)) ++ ([41] ++ tail)))) := by simp
    rw [e, lexFrom_step sp false out (h.comma _) h.full h.slash h.blank (by omega)]
    rw [lexFrom_step false false _ (next_comma _) (by simp) (by decide) (by decide) (by rw [List.length_append, List.length_singleton]; omega)]
    rw [lexFrom_blank false false (32 :: _) _ (by simp) (by rfl)]
    rw [List.drop_succ_cons, List.drop_zero]
    rw [lexFrom_join (y :: r) (by simp) (fun q hq => hi q (by simp at hq ⊢; exact .inr hq)) true _ tail (by simp only [List.length_append, List.length_cons, List.length_nil]; omega)]
    simp [ptoks]

/-- The text that shows a macro. -/
def showT (name : L) (func : Bool) (xs : List (L × Int)) (b : Bool) (body : L) : L := name ++ ((if func then [40] ++ (joinL (xs.map (·.1)) ++ [41]) else []) ++ (if b then [32] ++ body else []))
def ptoksB (xs : List (L × Int)) : List Tk := ⟨5, [40], false, false⟩ :: (ptoks xs false ++ [⟨5, [41], false, false⟩])
theorem lexFrom_body {body : L} {ts : List Tk} (hb : lex body = (0, ts)) (b : Bool) (hb0 : b = false → ts = []) (ht : ts.length ≤ 500) (out : List Tk) (ho : out.length ≤ 1000) :
    ∃ q, Alike ts q ∧ (∀ t q', q = t :: q' → t.space = true) ∧ lexFrom false false false (if b then [32] ++ body else []) out = (0, out ++ q) := by
  cases b with
  | false =>
    refine ⟨[], by rw [hb0 rfl]; trivial, (by intro t q' e; cases e), ?_⟩
    show lexFrom false false false [] out = _
    rw [lexFrom_nil, List.append_nil]
    rfl
  | true =>
    rw [lex_from] at hb
    obtain ⟨q, h1, h2, h3⟩ := lexGo_marks (body.length + 1) false false true true false body ts hb
    obtain ⟨q', e1, e2⟩ := lexGo_acc _ _ _ _ _ _ _ h1
    rw [List.nil_append] at e1
    subst e1
    refine ⟨q, h2, fun t q' e => (h3 t q' e).trans (skip_true _ _ _), ?_⟩
    show lexFrom false false false (32 :: body) out = _
    rw [lexFrom_blank false false (32 :: body) _ (by simp) (by rfl), List.drop_succ_cons, List.drop_zero]
    exact e2 out (by rw [← h2.length]; omega)
theorem lex_show {name body : L} {ts : List Tk} {func : Bool} {xs : List (L × Int)} {b : Bool} (h0 : name ≠ []) (h1 : isLet (at_ name 0) = true) (hw : ∀ i, i < name.length → isWrd (at_ name i) = true)
    (hx : ∀ p ∈ xs, Item p.1 p.2) (hxl : xs.length ≤ 17) (hb : lex body = (0, ts)) (hb0 : b = false → ts = []) (ht : ts.length ≤ 500) :
    ∃ q, Alike ts q ∧ (∀ t q', q = t :: q' → t.space = true) ∧ lex (showT name func xs b body) = (0, ⟨1, name, false, true⟩ :: ((if func then ptoksB xs else []) ++ q)) := by
  rw [lex_from]
  unfold showT
  cases func with
  | false =>
    obtain ⟨q, h2, h3, h4⟩ := lexFrom_body hb b hb0 ht [⟨1, name, false, true⟩] (by simp)
    refine ⟨q, h2, h3, ?_⟩
    show lexFrom false false true (name ++ ([] ++ _)) [] = _
    rw [List.nil_append, lexFrom_step false true [] (name_next h0 h1 hw (by cases b; exact .inl rfl; exact .inr (by rfl))) h0 (let_plain h1).2 (let_plain h1).1 (by simp), List.nil_append, h4]
    rfl
  | true =>
    by_cases hx0 : xs = []
    · subst hx0
      obtain ⟨q, h2, h3, h4⟩ := lexFrom_body hb b hb0 ht [⟨1, name, false, true⟩, ⟨5, [40], false, false⟩, ⟨5, [41], false, false⟩] (by simp)
      refine ⟨q, h2, h3, ?_⟩
      show lexFrom false false true (name ++ (([40] ++ ([] ++ [41])) ++ _)) [] = _
      rw [List.nil_append, List.append_assoc [40], lexFrom_step false true [] (name_next h0 h1 hw (.inr (by rfl))) h0 (let_plain h1).2 (let_plain h1).1 (by simp), List.nil_append]
      rw [lexFrom_step false false _ (next_open _) (by simp) (by decide) (by decide) (by simp)]
      rw [lexFrom_step false false _ (next_shut _) (by simp) (by decide) (by decide) (by simp)]
      show lexFrom false false false _ [⟨1, name, false, true⟩, ⟨5, [40], false, false⟩, ⟨5, [41], false, false⟩] = _
      rw [h4]
      rfl
    · have hpl := ptoks_len
      obtain ⟨q, h2, h3, h4⟩ := lexFrom_body hb b hb0 ht ([⟨1, name, false, true⟩, ⟨5, [40], false, false⟩] ++ (ptoks xs false ++ [⟨5, [41], false, false⟩])) (by
        have := hpl xs false
        simp only [List.length_append, List.length_cons, List.length_nil]; omega)
      refine ⟨q, h2, h3, ?_⟩
      show lexFrom false false true (name ++ (([40] ++ (joinL (xs.map (·.1)) ++ [41])) ++ _)) [] = _
      rw [List.append_assoc [40], lexFrom_step false true [] (name_next h0 h1 hw (.inr (by rfl))) h0 (let_plain h1).2 (let_plain h1).1 (by simp), List.nil_append]
      rw [lexFrom_step false false _ (next_open _) (by simp) (by decide) (by decide) (by simp)]
      rw [List.append_assoc (joinL _)]
      rw [lexFrom_join xs hx0 hx false _ _ (by simp only [List.length_append, List.length_cons, List.length_nil]; omega)]
      show lexFrom false false false _ ([⟨1, name, false, true⟩, ⟨5, [40], false, false⟩] ++ (ptoks xs false ++ [⟨5, [41], false, false⟩])) = _
      rw [h4]
      simp [ptoksB]
end Go.Proofs.YthifdcakhdckfaaDoor.Lx

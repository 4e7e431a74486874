/-
  Plain words: which macros are right (the program's way and the reference's), and that both say the same.
  Plain words: which macro tokens define; how a macro is shown; what is shown, lexed and parsed, is the same macro.
-/
import Derived.Test.YthifdcakhdckfaaDoorIsParam
import Derived.Test.YthifdcakhdckfaaDoorLxQ
namespace Go.Proofs.YthifdcakhdckfaaDoor
open Go.RowKit Go.Proofs.YthifdcakhdckfaaDoorW.PrintWords
open PMacroWords (S62 k62 z62 rd_T62 k62_mk)
set_option linter.unusedVariables false
set_option linter.unusedSimpArgs false

def definedL : Lx.L := [100, 101, 102, 105, 110, 101, 100]
/-- One token of a body: does it stand right? -/
def goodAt (m : MacV) (i : Nat) : Bool :=
  if bl (m.body.getD i z62).f1 == [35, 35] then !(decide (i = 0) || decide (i + 1 = m.body.length))
  else if bl (m.body.getD i z62).f1 == [35] then !(m.func && !isParamL m (i + 1))
  else if bl (m.body.getD i z62).f1 == restL then m.more else true
def isBodyL (m : MacV) : Bool :=
  decide (m.body.length ≤ 500) && decide (m.body = bareL m.body) && (((Lx.lex (spellL m.body)).1 == 0) && decide (m.body = bareLex (spellL m.body))) && (List.range m.body.length).all (goodAt m)
/-- The reference's param: is a token one of the parameters? -/
def refParamB (m : MacV) (t : S62) : Bool := t.f0 == 1 && (hasS m.params t.f1 || (m.more && bl t.f1 == restL))
def refGoodAt (m : MacV) (i : Nat) : Bool :=
  !(bl (m.body.getD i z62).f1 == restL && !m.more) && !(m.func && (bl (m.body.getD i z62).f1 == [35] && (decide (i + 1 = m.body.length) || !refParamB m (m.body.getD (i + 1) z62))))
def refEnds (m : MacV) : Bool := decide (0 < m.body.length) && (bl (m.body.getD 0 z62).f1 == [35, 35] || bl (m.body.getD (m.body.length - 1) z62).f1 == [35, 35])
def refBodyL (m : MacV) : Bool := decide (m.body.length ≤ 500) && (speltL m.body && (!refEnds m && (List.range m.body.length).all (refGoodAt m)))
/-- The parameters are names, no two alike. -/
def parAt (ps : List ByteArray) (i : Nat) : Bool := isNameL (bl (ps.getD i ⟨#[]⟩)) && !hasS (ps.take i) (ps.getD i ⟨#[]⟩)
def parsOk (ps : List ByteArray) : Bool := (List.range ps.length).all (parAt ps)
/-- All but the body. -/
def headL (m : MacV) : Bool := isNameL (bl m.name) && (!(bl m.name == definedL) && (decide (m.params.length ≤ 16) && ((m.func || (!m.more && decide (m.params.length = 0))) && parsOk m.params)))
def rightL (m : MacV) : Bool := headL m && isBodyL m
def refRightL (m : MacV) : Bool := headL m && refBodyL m

theorem name_fine {s : Lx.L} (h : nameOk s = true) : s ≠ [] ∧ Lx.isLet (Lx.at_ s 0) = true ∧ ∀ i, i < s.length → Lx.isWrd (Lx.at_ s i) = true := by
  unfold nameOk oneOk oneKind at h
  simp only [Bool.and_eq_true, beq_iff_eq] at h
  obtain ⟨⟨⟨h1, h2⟩, h3⟩, h4⟩ := h
  obtain ⟨t, ht⟩ : ∃ t, (Lx.lex s).2 = [t] := List.length_eq_one_iff.1 h2
  have hf := Lx.lex_fine s t (by rw [ht]; simp)
  rw [ht] at h3 h4
  simp only [List.getD_cons_zero] at h3 h4
  rw [← h3]
  exact ⟨hf.full, hf.letter.1 h4, hf.word h4⟩
theorem isName_ok {s : Lx.L} (h : isNameL s = true) : nameOk s = true := by
  unfold isNameL at h
  rw [Bool.and_eq_true] at h
  exact h.1
theorem rest_letter : Lx.isLet (Lx.at_ restL 0) = true := by decide
theorem bareL_get {xs : List S62} {i : Nat} {x : S62} (h : (bareL xs)[i]? = some x) : ∃ y ∈ xs, x.f0 = y.f0 ∧ x.f1 = y.f1 := by
  cases xs with
  | nil => simp [bareL] at h
  | cons t r =>
    unfold bareL at h
    cases i with
    | zero =>
      simp only [List.getElem?_cons_zero, Option.some.injEq] at h
      exact ⟨t, by simp, by rw [← h]; exact ⟨rfl, rfl⟩⟩
    | succ i =>
      rw [List.getElem?_cons_succ, List.getElem?_map] at h
      obtain ⟨y, hy, he⟩ := Option.map_eq_some_iff.1 h
      exact ⟨y, by simp [List.mem_of_getElem? hy], by rw [← he]; exact ⟨rfl, rfl⟩⟩
/-- A token of a spelt body whose text begins with a letter is a name. -/
theorem bareLex_kind {s : Lx.L} {i : Nat} {x : S62} (h : (bareLex s)[i]? = some x) (hl : Lx.isLet (Lx.at_ (bl x.f1) 0) = true) : x.f0 = 1 := by
  unfold bareLex at h
  obtain ⟨y, hy, e0, e1⟩ := bareL_get h
  obtain ⟨t, ht, rfl⟩ := List.mem_map.1 hy
  have hf := Lx.lex_fine s t ht
  rw [e0]
  refine hf.letter.2 ?_
  rw [e1] at hl
  exact hl
theorem bareLex_full {s : Lx.L} {i : Nat} {x : S62} (h : (bareLex s)[i]? = some x) : bl x.f1 ≠ [] := by
  unfold bareLex at h
  obtain ⟨y, hy, e0, e1⟩ := bareL_get h
  obtain ⟨t, ht, rfl⟩ := List.mem_map.1 hy
  rw [e1]
  exact (Lx.lex_fine s t ht).full
theorem parsOk_name {ps : List ByteArray} (h : parsOk ps = true) {x : ByteArray} (hx : x ∈ ps) : isNameL (bl x) = true := by
  unfold parsOk at h
  rw [List.all_eq_true] at h
  obtain ⟨i, hi, he⟩ := List.mem_iff_getElem.1 hx
  have := h i (List.mem_range.2 hi)
  unfold parAt at this
  rw [Bool.and_eq_true, List.getD_eq_getElem?_getD, List.getElem?_eq_getElem hi, Option.getD_some, he] at this
  exact this.1
theorem param_same {m : MacV} (hp : parsOk m.params = true) (hb : m.body = bareLex (spellL m.body)) (j : Nat) : isParamL m j = (decide (j < m.body.length) && refParamB m (m.body.getD j z62)) := by
  unfold isParamL refParamB
  by_cases hj : j < m.body.length
  · rw [decide_eq_true hj, Bool.true_and, Bool.true_and]
    obtain ⟨x, hx⟩ : ∃ x, m.body.getD j z62 = x := ⟨_, rfl⟩
    have hx2 : (bareLex (spellL m.body))[j]? = some x := by rw [← hb, ← hx, List.getD_eq_getElem?_getD, List.getElem?_eq_getElem hj, Option.getD_some]
    rw [hx]
    cases hq : (hasS m.params x.f1 || (m.more && bl x.f1 == restL)) with
    | false => rw [Bool.and_false]
    | true =>
      rw [Bool.and_true]
      symm
      rw [beq_iff_eq]
      refine bareLex_kind hx2 ?_
      rw [Bool.or_eq_true] at hq
      rcases hq with hq | hq
      · exact (name_fine (isName_ok (parsOk_name hp ((hasS_iff _ _).1 hq)))).2.1
      · rw [Bool.and_eq_true, beq_iff_eq] at hq
        rw [hq.2]; exact rest_letter
  · rw [decide_eq_false hj, Bool.false_and, Bool.false_and]
theorem body_same {m : MacV} (hp : parsOk m.params = true) : isBodyL m = refBodyL m := by
  have e : isBodyL m = (decide (m.body.length ≤ 500) && (speltL m.body && (List.range m.body.length).all (goodAt m))) := by
    unfold isBodyL speltL
    simp only [Bool.and_assoc]
  rw [e]
  unfold refBodyL
  congr 1
  cases hs : speltL m.body with
  | false => rfl
  | true =>
    rw [Bool.true_and, Bool.true_and]
    have hb : m.body = bareLex (spellL m.body) := by
      unfold speltL at hs
      simp only [Bool.and_eq_true, decide_eq_true_eq] at hs
      exact hs.2.2
    rw [Bool.eq_iff_iff, List.all_eq_true, Bool.and_eq_true, List.all_eq_true]
    have h1 : ((35 : UInt8) :: [35] == restL) = false := by decide
    have h2 : ([35] == restL) = false := by decide
    have key : ∀ i, i < m.body.length → (goodAt m i = true ↔ (refGoodAt m i = true ∧ ((i = 0 ∨ i + 1 = m.body.length) → ¬ bl (m.body.getD i z62).f1 = [35, 35]))) := by
      intro i hi
      unfold goodAt refGoodAt
      obtain ⟨s, hs⟩ : ∃ s, bl (m.body.getD i z62).f1 = s := ⟨_, rfl⟩
      rw [hs, param_same hp hb]
      by_cases a1 : s = [35, 35]
      · subst a1
        have b2 : (([35, 35] : Lx.L) == [35]) = false := by decide
        rw [if_pos (by decide), b2, show (([35, 35] : Lx.L) == restL) = false by decide]
        simp
      · have b1 : (s == [35, 35]) = false := by rw [beq_eq_false_iff_ne]; exact a1
        rw [b1]
        simp only [Bool.false_eq_true, if_false]
        by_cases a2 : s = [35]
        · subst a2
          rw [if_pos (by decide), h2]
          simp only [Bool.false_and, Bool.not_false, Bool.true_and, beq_self_eq_true]
          have : (decide (i + 1 < m.body.length)) = !decide (i + 1 = m.body.length) := by
            rw [← decide_not, decide_eq_decide]; omega
          rw [this]
          simp [a1]
        · have b2 : (s == [35]) = false := by rw [beq_eq_false_iff_ne]; exact a2
          rw [b2]
          simp only [Bool.false_eq_true, if_false, Bool.false_and, Bool.and_false, Bool.not_false, Bool.and_true]
          by_cases a3 : s = restL
          · subst a3
            simp [a1]
          · have b3 : (s == restL) = false := by rw [beq_eq_false_iff_ne]; exact a3
            rw [b3]
            simp [a1]
    have ends : (!refEnds m) = true ↔ ∀ i, i < m.body.length → (i = 0 ∨ i + 1 = m.body.length) → ¬ bl (m.body.getD i z62).f1 = [35, 35] := by
      unfold refEnds
      rw [Bool.not_eq_true', Bool.and_eq_false_iff, Bool.or_eq_false_iff, decide_eq_false_iff_not, beq_eq_false_iff_ne, beq_eq_false_iff_ne]
      constructor
      · rintro (h | ⟨h, h'⟩) i hi hc
        · omega
        · rcases hc with hc | hc
          · rw [hc]; exact h
          · rw [show i = m.body.length - 1 by omega]; exact h'
      · intro h
        by_cases h0 : 0 < m.body.length
        · exact .inr ⟨h 0 h0 (.inl rfl), h _ (by omega) (.inr (by omega))⟩
        · exact .inl h0
    constructor
    · intro h
      exact ⟨ends.2 fun i hi => ((key i hi).1 (h i (List.mem_range.2 hi))).2, fun i hi => ((key i (List.mem_range.1 hi)).1 (h i hi)).1⟩
    · rintro ⟨h, h'⟩ i hi
      exact (key i (List.mem_range.1 hi)).2 ⟨h' i hi, ends.1 h i (List.mem_range.1 hi)⟩
theorem right_same (m : MacV) : rightL m = refRightL m := by
  unfold rightL refRightL
  cases hh : headL m with
  | false => rfl
  | true =>
    rw [Bool.true_and, Bool.true_and]
    refine body_same ?_
    unfold headL at hh
    simp only [Bool.and_eq_true] at hh
    exact hh.2.2.2.2
end Go.Proofs.YthifdcakhdckfaaDoor

namespace Go.Proofs.YthifdcakhdckfaaDoor
open Go.RowKit Go.Proofs.YthifdcakhdckfaaDoorW.PrintWords
open PMacroWords (S62 k62 z62 rd_T62 k62_mk)
set_option linter.unusedVariables false
set_option linter.unusedSimpArgs false

def dotsL : Lx.L := [46, 46, 46]
/-- The parameters from a place on: those, whether there are more, how many tokens they take. -/
def parGo : List S62 → List ByteArray → Option (List ByteArray × Bool × Nat)
  | t :: e :: r, ps =>
    if bl t.f1 == dotsL && bl e.f1 == [41] then some (ps, true, 2)
    else if t.f0 == 1 && bl e.f1 == [41] then some (ps ++ [t.f1], false, 2)
    else if t.f0 == 1 && bl e.f1 == [44] then (parGo r (ps ++ [t.f1])).map fun q => (q.1, q.2.1, q.2.2 + 2)
    else none
  | _, _ => none
def parL : List S62 → Option (List ByteArray × Bool × Nat)
  | [] => none
  | e :: r => if bl e.f1 == [41] then some ([], false, 1) else parGo (e :: r) []
/-- A macro, but for whether it is right. -/
def rawL : List S62 → Option MacV
  | [] => none
  | t :: r => if t.f0 == 1 then
      (match r with
      | [] => some ⟨t.f1, false, [], false, []⟩
      | p :: q => if p.f4 then some ⟨t.f1, false, [], false, bareL (p :: q)⟩
        else if bl p.f1 == [40] then (parL q).map fun x => ⟨t.f1, true, x.1, x.2.1, bareL (q.drop x.2.2)⟩
        else none)
    else none
def parseL (xs : List S62) : Option MacV := (rawL xs).filter rightL

theorem mk_bl (s : ByteArray) : (⟨(bl s).toArray⟩ : ByteArray) = s := by
  unfold bl
  cases s
  simp
theorem parGo_le : ∀ (xs : List S62) (ps : List ByteArray) (q : List ByteArray × Bool × Nat), parGo xs ps = some q → q.2.2 ≤ xs.length ∧ q.1.length ≤ ps.length + xs.length
  | [], ps, q, h => by simp [parGo] at h
  | [_], ps, q, h => by simp [parGo] at h
  | t :: e :: r, ps, q, h => by
    unfold parGo at h
    split at h
    · injection h with h; subst h; simp
    · split at h
      · injection h with h; subst h; simp
      · split at h
        · obtain ⟨q', h1, h2⟩ := Option.map_eq_some_iff.1 h
          have := parGo_le r _ q' h1
          subst h2
          simp only [List.length_append, List.length_nil, List.length_cons] at this ⊢
          omega
        · cases h
theorem parGo_of : ∀ (xs : List S62) (ps : List ByteArray), parGo (xs.map fun x => ofTk (tk x)) ps = parGo xs ps
  | [], ps => rfl
  | [_], ps => rfl
  | t :: e :: r, ps => by
    have h1 : (ofTk (tk t)).f1 = t.f1 := mk_bl _
    have h2 : (ofTk (tk e)).f1 = e.f1 := mk_bl _
    have h3 : (ofTk (tk t)).f0 = t.f0 := rfl
    simp only [List.map_cons, parGo, h1, h2, h3, parGo_of r]
theorem parL_of (xs : List S62) : parL (xs.map fun x => ofTk (tk x)) = parL xs := by
  cases xs with
  | nil => rfl
  | cons e r =>
    have h2 : (ofTk (tk e)).f1 = e.f1 := mk_bl _
    have := parGo_of (e :: r) []
    rw [List.map_cons] at this
    simp only [List.map_cons, parL, h2, this]
theorem bareL_of' (xs : List S62) : bareL (xs.map fun x => ofTk (tk x)) = bareL xs := by
  have := bareL_of xs
  rw [List.map_map] at this
  exact this
theorem rawL_of (xs : List S62) : rawL (xs.map fun x => ofTk (tk x)) = rawL xs := by
  cases xs with
  | nil => rfl
  | cons t r =>
    have h1 : (ofTk (tk t)).f1 = t.f1 := mk_bl _
    have h3 : (ofTk (tk t)).f0 = t.f0 := rfl
    cases r with
    | nil => simp only [List.map_cons, List.map_nil, rawL, h1, h3]
    | cons p q =>
      have h2 : (ofTk (tk p)).f1 = p.f1 := mk_bl _
      have h4 : (ofTk (tk p)).f4 = p.f4 := rfl
      have h5 := bareL_of' (p :: q)
      rw [List.map_cons] at h5
      have h6 : ∀ n, bareL ((q.map fun x => ofTk (tk x)).drop n) = bareL (q.drop n) := fun n => by rw [← List.map_drop, bareL_of']
      simp only [List.map_cons, rawL, h1, h2, h3, h4, parL_of, h6, h5]
theorem parseL_of {xs : List S62} {ts : List Lx.Tk} (h : xs.map tk = ts) : parseL xs = parseL (ts.map ofTk) := by
  unfold parseL
  rw [← h, List.map_map, ← rawL_of xs]
  rfl
theorem parseL_right {xs : List S62} {m : MacV} (h : parseL xs = some m) : rightL m = true ∧ rawL xs = some m := by
  unfold parseL at h
  rw [Option.filter_eq_some_iff] at h
  exact ⟨h.2, h.1⟩

/-! ### showing -/
def items (m : MacV) : List (Lx.L × Int) := (m.params.map fun p => (bl p, 1)) ++ if m.more then [(dotsL, 5)] else []
def showL (m : MacV) : Lx.L := Lx.showT (bl m.name) m.func (items m) (decide (0 < m.body.length)) (spellL m.body)

theorem no_shut (k : Int) : ¬ ((k == 1 && bl (ofTk ⟨5, [44], false, false⟩).f1 == [41]) = true) := by
  intro h
  rw [Bool.and_eq_true] at h
  exact absurd h.2 (by decide)
theorem parGo_dots (sp : Bool) (rest : List Lx.Tk) (acc : List ByteArray) : parGo (((Lx.ptoks [(dotsL, 5)] sp ++ [(⟨5, [41], false, false⟩ : Lx.Tk)]) ++ rest).map ofTk) acc = some (acc, true, 2) := by
  simp only [Lx.ptoks, List.singleton_append, List.cons_append, List.nil_append, List.map_cons, parGo]
  rw [if_pos]
  rfl
theorem parGo_toks : ∀ (ps : List ByteArray) (more : Bool), (ps ≠ [] ∨ more = true) → (∀ p ∈ ps, Lx.isLet (Lx.at_ (bl p) 0) = true) → ∀ (sp : Bool) (rest : List Lx.Tk) (acc : List ByteArray),
    parGo (((Lx.ptoks ((ps.map fun p => (bl p, 1)) ++ if more then [(dotsL, 5)] else []) sp ++ [(⟨5, [41], false, false⟩ : Lx.Tk)]) ++ rest).map ofTk) acc = some (acc ++ ps, more, 2 * (ps.length + if more then 1 else 0))
  | [], more, h0, _, sp, rest, acc => by
    rcases h0 with h0 | rfl
    · exact absurd rfl h0
    · simp only [List.map_nil, List.nil_append, if_true, List.append_nil, List.length_nil]
      exact parGo_dots sp rest acc
  | [p], false, _, hl, sp, rest, acc => by
    have hp := hl p (by simp)
    have e1 : bl (ofTk ⟨1, bl p, sp, false⟩).f1 = bl p := rfl
    have hd : (bl p == dotsL) = false := by
      rw [beq_eq_false_iff_ne]; intro e; rw [e] at hp; exact absurd hp (by decide)
    have e2 : (ofTk ⟨1, bl p, sp, false⟩).f1 = p := mk_bl p
    simp only [List.map_cons, List.map_nil, Bool.false_eq_true, if_false, List.append_nil, Lx.ptoks, List.cons_append, List.nil_append, parGo, e1, hd, Bool.false_and, e2, List.length_singleton]
    rw [if_pos (by rfl)]
  | [p], true, _, hl, sp, rest, acc => by
    have hp := hl p (by simp)
    have e1 : bl (ofTk ⟨1, bl p, sp, false⟩).f1 = bl p := rfl
    have hd : (bl p == dotsL) = false := by
      rw [beq_eq_false_iff_ne]; intro e; rw [e] at hp; exact absurd hp (by decide)
    have e2 : (ofTk ⟨1, bl p, sp, false⟩).f1 = p := mk_bl p
    have h := parGo_dots true rest (acc ++ [p])
    simp only [List.map_cons, List.map_nil, if_true, List.cons_append, List.nil_append, Lx.ptoks, parGo, e1, hd, Bool.false_and, e2, List.length_singleton, Bool.false_eq_true, if_false] at h ⊢
    rw [if_neg (no_shut _), if_pos (by rfl), h]
    rfl
  | p :: y :: r, more, _, hl, sp, rest, acc => by
    have hp := hl p (by simp)
    have e1 : bl (ofTk ⟨1, bl p, sp, false⟩).f1 = bl p := rfl
    have hd : (bl p == dotsL) = false := by
      rw [beq_eq_false_iff_ne]; intro e; rw [e] at hp; exact absurd hp (by decide)
    have e2 : (ofTk ⟨1, bl p, sp, false⟩).f1 = p := mk_bl p
    have h := parGo_toks (y :: r) more (.inl (by simp)) (fun q hq => hl q (by simp at hq ⊢; exact .inr hq)) true rest (acc ++ [p])
    simp only [List.map_cons, List.cons_append] at h
    simp only [List.map_cons, List.cons_append, Lx.ptoks, parGo, e1, hd, Bool.false_and, e2, Bool.false_eq_true, if_false]
    rw [if_neg (no_shut _), if_pos (by rfl), h]
    simp only [Option.map_some, List.append_assoc, List.singleton_append, List.length_cons]
    congr 3
    omega
theorem alike_bare : ∀ {a b : List Lx.Tk}, Lx.Alike a b → bareL (a.map ofTk) = bareL (b.map ofTk)
  | [], [], _ => rfl
  | x :: r, y :: q, ⟨h1, h2, h3⟩ => by
    subst h3
    simp only [List.map_cons, bareL]
    congr 1
    unfold bareT ofTk
    simp only [h1, h2, Bool.not_true, Bool.and_false]
theorem mac_flat {m : MacV} (h1 : m.func = false) (h2 : m.params = []) (h3 : m.more = false) : m = ⟨m.name, false, [], false, m.body⟩ := by
  obtain ⟨a, b, c, d, e⟩ := m
  simp only at h1 h2 h3
  subst h1 h2 h3
  rfl
theorem mac_func {m : MacV} (h1 : m.func = true) : m = ⟨m.name, true, m.params, m.more, m.body⟩ := by
  obtain ⟨a, b, c, d, e⟩ := m
  simp only at h1
  subst h1
  rfl
/-- What is shown, lexed and parsed, is the same macro. -/
theorem show_back {m : MacV} (h : rightL m = true) : (Lx.lex (showL m)).1 = 0 ∧ parseL ((Lx.lex (showL m)).2.map ofTk) = some m := by
  obtain ⟨hh, hb⟩ := Bool.and_eq_true_iff.1 (show (headL m && isBodyL m) = true from h)
  have hh' := hh
  unfold headL at hh'
  simp only [Bool.and_eq_true, Bool.or_eq_true, decide_eq_true_eq, Bool.not_eq_true'] at hh'
  obtain ⟨hn, _, hpl, hfm, hpo⟩ := hh'
  have hb' := hb
  unfold isBodyL at hb'
  simp only [Bool.and_eq_true, decide_eq_true_eq, beq_iff_eq] at hb'
  obtain ⟨⟨⟨h500, hb1⟩, hb2, hb3⟩, _⟩ := hb'
  obtain ⟨n0, n1, n2⟩ := name_fine (isName_ok hn)
  have hpn : ∀ p ∈ m.params, bl p ≠ [] ∧ Lx.isLet (Lx.at_ (bl p) 0) = true ∧ ∀ i, i < (bl p).length → Lx.isWrd (Lx.at_ (bl p) i) = true := fun p hp => name_fine (isName_ok (parsOk_name hpo hp))
  have hit : ∀ p ∈ items m, Lx.Item p.1 p.2 := by
    intro p hp
    unfold items at hp
    rcases List.mem_append.1 hp with hp | hp
    · obtain ⟨x, hx, rfl⟩ := List.mem_map.1 hp
      obtain ⟨a, b, c⟩ := hpn x hx
      exact Lx.item_name a b c
    · split at hp
      · simp only [List.mem_singleton] at hp; subst hp; exact Lx.item_dots
      · simp at hp
  have hil : (items m).length ≤ 17 := by
    unfold items
    rw [List.length_append, List.length_map]
    split
    · simp only [List.length_singleton]; omega
    · simp only [List.length_nil]; omega
  have hlex : Lx.lex (spellL m.body) = (0, (Lx.lex (spellL m.body)).2) := by rw [← hb2]
  have hcount : (Lx.lex (spellL m.body)).2.length = m.body.length := by
    have := congrArg List.length hb3
    unfold bareLex at this
    rw [bareL_length, List.length_map] at this
    exact this.symm
  obtain ⟨q, hq1, hq2, hq3⟩ := Lx.lex_show (func := m.func) (b := decide (0 < m.body.length)) n0 n1 n2 hit hil hlex (fun h0 => List.eq_nil_of_length_eq_zero (by rw [hcount]; simpa using h0)) (by omega)
  have hbq : bareL (q.map ofTk) = m.body := by rw [← alike_bare hq1]; exact hb3.symm
  have hnm : (ofTk ⟨1, bl m.name, false, true⟩).f1 = m.name := mk_bl _
  unfold showL
  rw [hq3]
  refine ⟨rfl, ?_⟩
  unfold parseL
  have raw : rawL ((⟨1, bl m.name, false, true⟩ :: ((if m.func then Lx.ptoksB (items m) else []) ++ q)).map ofTk) = some m := by
    cases hf : m.func with
    | false =>
      rw [hf] at hfm
      rcases hfm with hfm | ⟨hm, hp0⟩
      · cases hfm
      have hp : m.params = [] := List.eq_nil_of_length_eq_zero hp0
      have hm0 : m = ⟨m.name, false, [], false, m.body⟩ := mac_flat hf hp hm
      simp only [Bool.false_eq_true, if_false, List.nil_append, List.map_cons, rawL]
      rw [if_pos (by rfl), hnm]
      cases q with
      | nil =>
        have : m.body = [] := by rw [← hbq]; rfl
        rw [this] at hm0
        simp only [List.map_nil]
        rw [← hm0]
      | cons t r =>
        have ht : (ofTk t).f4 = true := hq2 t r rfl
        simp only [List.map_cons]
        rw [if_pos ht]
        rw [List.map_cons] at hbq
        rw [hbq, ← hm0]
    | true =>
      have hm0 : m = ⟨m.name, true, m.params, m.more, m.body⟩ := mac_func hf
      simp only [if_true, Lx.ptoksB, List.cons_append, List.map_cons, rawL]
      rw [if_pos (by rfl), hnm, if_neg (by decide), if_pos (by rfl)]
      by_cases hi0 : m.params = [] ∧ m.more = false
      · obtain ⟨hp, hm⟩ := hi0
        have hitm : items m = [] := by unfold items; rw [hp, hm]; rfl
        rw [hitm]
        simp only [Lx.ptoks, List.nil_append, List.cons_append, List.map_cons, parL]
        rw [if_pos (by rfl)]
        simp only [Option.map_some, List.drop_succ_cons, List.drop_zero, hbq]
        rw [hp, hm] at hm0
        rw [← hm0]
      · have hne : m.params ≠ [] ∨ m.more = true := by
          by_cases hp : m.params = []
          · right
            cases hm : m.more with
            | true => rfl
            | false => exact absurd ⟨hp, hm⟩ hi0
          · exact .inl hp
        have hgo := parGo_toks m.params m.more hne (fun p hp => (hpn p hp).2.1) false q []
        have hpar : parL (((Lx.ptoks (items m) false ++ [(⟨5, [41], false, false⟩ : Lx.Tk)]) ++ q).map ofTk) = some (m.params, m.more, 2 * (m.params.length + if m.more then 1 else 0)) := by
          rw [List.nil_append] at hgo
          unfold items
          rw [← hgo]
          have hfirst : ∃ t r, Lx.ptoks ((m.params.map fun p => (bl p, (1 : Int))) ++ if m.more then [(dotsL, 5)] else []) false = t :: r ∧ t.s ≠ [41] := by
            cases hps : m.params with
            | nil =>
              rw [hps] at hne
              rcases hne with hne | hne
              · exact absurd rfl hne
              · rw [hne]; exact ⟨_, _, rfl, by decide⟩
            | cons p r =>
              have hp1 : (bl p) ≠ [41] := by
                have := (hpn p (by rw [hps]; simp)).2.1
                intro e; rw [e] at this; exact absurd this (by decide)
              cases hxr : (r.map fun p => (bl p, (1 : Int))) ++ (if m.more then [(dotsL, 5)] else []) with
              | nil => rw [List.map_cons, List.cons_append, hxr]; exact ⟨_, _, rfl, hp1⟩
              | cons y ys => rw [List.map_cons, List.cons_append, hxr]; exact ⟨_, _, rfl, hp1⟩
          obtain ⟨t, r, ht, hts⟩ := hfirst
          rw [ht]
          simp only [List.cons_append, List.map_cons, parL]
          have hts' : ¬ ((bl (ofTk t).f1 == [41]) = true) := fun e => hts (beq_iff_eq.1 e)
          rw [if_neg hts']
        rw [hpar]
        simp only [Option.map_some]
        have hdrop : ((((Lx.ptoks (items m) false ++ [(⟨5, [41], false, false⟩ : Lx.Tk)]) ++ q).map ofTk).drop (2 * (m.params.length + if m.more then 1 else 0))) = q.map ofTk := by
          have hlen : (Lx.ptoks (items m) false ++ [(⟨5, [41], false, false⟩ : Lx.Tk)]).length = 2 * (m.params.length + if m.more then 1 else 0) := by
            have h1 : ∀ (xs : List (Lx.L × Int)) (sp : Bool), xs ≠ [] → (Lx.ptoks xs sp).length + 1 = 2 * xs.length := by
              intro xs
              induction xs with
              | nil => intro sp h; exact absurd rfl h
              | cons p r ih =>
                intro sp _
                cases r with
                | nil => rfl
                | cons y r =>
                  have := ih true (by simp)
                  simp only [Lx.ptoks, List.length_cons] at this ⊢
                  omega
            have h2 : items m ≠ [] := by
              unfold items
              rcases hne with hne | hne
              · intro e; have := congrArg List.length e; simp at this; exact hne this.1
              · rw [hne]; simp
            rw [List.length_append, List.length_singleton, h1 _ false h2]
            unfold items
            rw [List.length_append, List.length_map]
            congr 2
            split <;> rfl
          rw [← hlen, List.map_append, ← List.length_map (f := ofTk), List.drop_left]
        rw [hdrop, hbq, ← hm0]
  rw [raw]
  simp [h]
end Go.Proofs.YthifdcakhdckfaaDoor

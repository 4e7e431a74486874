/-
  Walk: macro.params.
-/
import Derived.RangeFuncBox
import Derived.Scope
import Derived.Test.YthifdcakhdckfaaDoorListed
namespace Go.Proofs.YthifdcakhdckfaaDoor
open Go.RowKit Go.Proofs.YthifdcakhdckfaaDoorW.PrintWords
open PMacroWords (S62 k62 z62 rd_T62 k62_mk)
set_option linter.unusedVariables false
set_option linter.unusedSimpArgs false
attribute [local go_sem] Oper.semAt_some

/-! ### the parameters, pair by pair -/
def parP : List (S62 × ByteArray) → List ByteArray → Option (List ByteArray × Bool × Nat)
  | [], _ => none
  | p :: r, ps =>
    if bl p.1.f1 == dotsL && bl p.2 == [41] then some (ps, true, 2)
    else if p.1.f0 == 1 && bl p.2 == [41] then some (ps ++ [p.1.f1], false, 2)
    else if p.1.f0 == 1 && bl p.2 == [44] then (parP r (ps ++ [p.1.f1])).map fun q => (q.1, q.2.1, q.2.2 + 2)
    else none
theorem parP_pairs : ∀ (xs : List S62) (ps : List ByteArray), parGo xs ps = parP (pairsL xs) ps
  | [], ps => rfl
  | [_], ps => rfl
  | t :: e :: r, ps => by simp only [parGo, pairsL, parP, parP_pairs r]
/-- So far, and what is still to come. -/
def PAt (xs : List S62) (pre : List (S62 × ByteArray)) : Prop :=
  ∃ rest, pairsL xs = pre ++ rest ∧ (∀ p ∈ pre, p.1.f0 = 1) ∧ parGo xs [] = (parP rest (pre.map (·.1.f1))).map fun q => (q.1, q.2.1, q.2.2 + 2 * pre.length)
theorem PAt.start (xs : List S62) : PAt xs [] := ⟨pairsL xs, rfl, by simp, by rw [parP_pairs]; simp⟩
theorem PAt.next {xs : List S62} {pre : List (S62 × ByteArray)} {p : S62 × ByteArray} (h : PAt xs pre) (hp : (pairsL xs)[pre.length]? = some p) :
    ∃ rest, pairsL xs = pre ++ p :: rest ∧ (∀ p ∈ pre, p.1.f0 = 1) ∧ parGo xs [] = (parP (p :: rest) (pre.map (·.1.f1))).map fun q => (q.1, q.2.1, q.2.2 + 2 * pre.length) := by
  obtain ⟨rest, h1, h2, h3⟩ := h
  rw [h1, List.getElem?_append_right (Nat.le_refl _), Nat.sub_self] at hp
  cases rest with
  | nil => simp at hp
  | cons q r =>
    simp at hp
    subst hp
    exact ⟨r, h1, h2, h3⟩
theorem PAt.dots {xs : List S62} {pre : List (S62 × ByteArray)} {p : S62 × ByteArray} (h : PAt xs pre) (hp : (pairsL xs)[pre.length]? = some p) (h1 : bl p.1.f1 = dotsL) (h2 : bl p.2 = [41]) : parGo xs [] = some (pre.map (·.1.f1), true, 2 + 2 * pre.length) := by
  obtain ⟨rest, _, _, h3⟩ := h.next hp
  rw [h3, parP, h1, h2, if_pos (by rfl)]
  rfl
theorem PAt.last {xs : List S62} {pre : List (S62 × ByteArray)} {p : S62 × ByteArray} (h : PAt xs pre) (hp : (pairsL xs)[pre.length]? = some p) (h0 : ¬ (bl p.1.f1 = dotsL ∧ bl p.2 = [41])) (h1 : p.1.f0 = 1) (h2 : bl p.2 = [41]) : parGo xs [] = some ((pre ++ [p]).map (·.1.f1), false, 2 + 2 * pre.length) := by
  obtain ⟨rest, _, _, h3⟩ := h.next hp
  rw [h3, parP, if_neg (by simp only [Bool.and_eq_true, beq_iff_eq]; exact h0), h1, h2, if_pos (by rfl)]
  simp
theorem PAt.more {xs : List S62} {pre : List (S62 × ByteArray)} {p : S62 × ByteArray} (h : PAt xs pre) (hp : (pairsL xs)[pre.length]? = some p) (h1 : p.1.f0 = 1) (h2 : bl p.2 = [44]) : PAt xs (pre ++ [p]) := by
  obtain ⟨rest, e1, e2, h3⟩ := h.next hp
  refine ⟨rest, by rw [e1]; simp, ?_, ?_⟩
  · intro q hq
    rcases List.mem_append.1 hq with hq | hq
    · exact e2 q hq
    · simp at hq; rw [hq]; exact h1
  · rw [h3, parP, h1, h2, if_neg (by simp), if_neg (by simp), if_pos (by rfl), Option.map_map, List.map_append]
    congr 1
    funext q
    simp; omega
theorem PAt.bad {xs : List S62} {pre : List (S62 × ByteArray)} {p : S62 × ByteArray} (h : PAt xs pre) (hp : (pairsL xs)[pre.length]? = some p) (h0 : ¬ (bl p.1.f1 = dotsL ∧ bl p.2 = [41])) (h1 : ¬ (p.1.f0 = 1 ∧ (bl p.2 = [41] ∨ bl p.2 = [44]))) : parGo xs [] = none := by
  obtain ⟨rest, e1, e2, h3⟩ := h.next hp
  rw [h3, parP, if_neg (by simp only [Bool.and_eq_true, beq_iff_eq]; exact h0), if_neg (by simp only [Bool.and_eq_true, beq_iff_eq]; exact fun h => h1 ⟨h.1, .inl h.2⟩), if_neg (by simp only [Bool.and_eq_true, beq_iff_eq]; exact fun h => h1 ⟨h.1, .inr h.2⟩)]
  rfl
theorem pairs_last : ∀ (xs : List S62), ∃ r, pairsL xs = r ++ [(z62, ⟨#[]⟩)]
  | [] => ⟨[], rfl⟩
  | [_] => ⟨[], rfl⟩
  | t :: e :: r => by
    obtain ⟨q, hq⟩ := pairs_last r
    exact ⟨(t, e.f1) :: q, by rw [pairsL, hq]; rfl⟩
theorem PAt.never {xs : List S62} (h : PAt xs (pairsL xs)) : False := by
  obtain ⟨rest, e1, e2, _⟩ := h
  obtain ⟨r, hr⟩ := pairs_last xs
  have := e2 (z62, ⟨#[]⟩) (by rw [hr]; simp)
  simp [z62] at this
theorem pairs_len : ∀ (xs : List S62), (pairsL xs).length ≤ xs.length + 1
  | [] => by simp [pairsL]
  | [_] => by simp [pairsL]
  | t :: e :: r => by have := pairs_len r; simp [pairsL]; omega

/-! ### what holds between the rounds -/
structure ParI (w : World) (g : Nat) (nm : ByteArray) (fn : Bool) (vb : Value) (xs : List S62) (pre : List (S62 × ByteArray)) (W : World) : Prop where
  mac : ∃ v', MBox W g nm fn v' false vb ∧ StrRow w.heap.size W v' (pre.map (·.1.f1))
  bm : Boxed W w.heap.size 117 (.pointer (some ⟨g, 0, none⟩))
  bn : Boxed W (w.heap.size + 1) 3 (.int .i64 (2 * (pre.length : Int)))
  bg : Boxed W (w.heap.size + 2) 4 (.bool false)
  bx : HasBox (w.heap.size + 3) W
  at_ : PAt xs pre
  len : pre.length ≤ xs.length + 1
  grown : w.grownBy W (some g)
structure ParX (w : World) (g : Nat) (nm : ByteArray) (fn : Bool) (vb : Value) (xs : List S62) (W : World) : Prop where
  out : ∃ (v' : Value) (ps : List ByteArray) (more : Bool) (k : Int) (gd : Bool), MBox W g nm fn v' more vb ∧ StrRow w.heap.size W v' ps ∧ Boxed W (w.heap.size + 1) 3 (.int .i64 k) ∧ Boxed W (w.heap.size + 2) 4 (.bool gd) ∧
    ((gd = true ∧ ∃ kn : Nat, k = (kn : Int) ∧ parGo xs [] = some (ps, more, kn)) ∨ (gd = false ∧ parGo xs [] = none))
  grown : w.grownBy W (some g)
section
variable {w : World} {g : Nat} {nm : ByteArray} {fn : Bool} {vb : Value} {xs : List S62} {pre : List (S62 × ByteArray)} {W W' : World} {row : Option Nat}
theorem grown_after (h : w.grownBy W (some g)) (hg : W.grownBy W' row) (hr : ∀ r, row = some r → w.heap.size ≤ r ∨ r = g) : w.grownBy W' (some g) := by
  refine ⟨hg.os.trans h.os, hg.tape.trans h.tape, hg.output.trans h.output, Nat.le_trans h.size hg.size, fun k hk hne => ?_⟩
  refine (hg.block k (Nat.lt_of_lt_of_le hk h.size) (fun e => ?_)).trans (h.block k hk hne)
  rcases hr k e.symm with h1 | h1
  · omega
  · exact hne (by rw [h1])
theorem StrRow.kept' {n₀ : Nat} {v : Value} {ps : List ByteArray} (h : StrRow n₀ W v ps) (hg : W.grownBy W' row) (ne : ∀ (k : Nat) (cs : Array Value) (t : TypeId), W.heap[k]? = some (.cells cs t (0, 0)) → t = 9 → some k ≠ row) : StrRow n₀ W' v ps :=
  own_move h (fun k hk => by
    obtain ⟨_, cs, hc⟩ := h.block k hk
    exact hg.block k (Array.getElem?_eq_some_iff.1 hc).1 (ne k cs 9 hc rfl))
theorem ParI.kept (h : ParI w g nm fn vb xs pre W) (hgl : g < w.heap.size) (hg : W.grownBy W' row)
    (hr : ∀ r, row = some r → w.heap.size ≤ r ∧ ((∃ o : Obj, W.heap[r]? = some o ∧ o.isCells = false) ∨ (r = w.heap.size + 3 ∧ HasBox (w.heap.size + 3) W'))) : ParI w g nm fn vb xs pre W' := by
  have ne : ∀ {k cs t}, W.heap[k]? = some (.cells cs t (0, 0)) → k ≠ w.heap.size + 3 → some k ≠ row := by
    intro k cs t hk h3 e
    rcases (hr k e.symm).2 with ⟨o, ho, hc⟩ | ⟨e3, _⟩
    · rw [hk] at ho; cases ho; cases hc
    · exact h3 e3
  obtain ⟨v', hm, hs⟩ := h.mac
  obtain ⟨u, hu⟩ := h.bx
  refine ⟨⟨v', kept_at hg hm (ne hm (by omega)), hs.kept' hg (fun k cs t hk h9 => ne hk ?_)⟩, h.bm.kept hg (ne h.bm (by omega)), h.bn.kept hg (ne h.bn (by omega)), h.bg.kept hg (ne h.bg (by omega)), ?_, h.at_, h.len, grown_after h.grown hg (fun r e => .inl (hr r e).1)⟩
  · rintro rfl
    rw [hu] at hk
    injection hk with hk
    injection hk with _ h2
    rw [h9] at h2
    exact absurd h2 (by decide)
  · by_cases e : some (w.heap.size + 3) = row
    · rcases (hr _ e.symm).2 with ⟨o', ho, hc⟩ | ⟨_, h3⟩
      · rw [hu] at ho; cases ho; cases hc
      · exact h3
    · exact ⟨u, kept_at hg hu e⟩
theorem ParI.own (w : World) (g : Nat) (nm : ByteArray) (fn : Bool) (vb : Value) (xs : List S62) (hgl : g < w.heap.size) {B : Nat} (hB : w.heap.size ≤ B) : OwnFrom B (ParI w g nm fn vb xs) := fun pre W W' row h hg hr =>
  h.kept hgl hg (fun r e => ⟨by have := (hr r e).1; omega, .inl (hr r e).2⟩)
theorem ParI.st (h : ParI w g nm fn vb xs pre W) (hgl : g < w.heap.size) (hs : W.grownBy W' (some (w.heap.size + 3)) ∧ HasBox (w.heap.size + 3) W') : ParI w g nm fn vb xs pre W' :=
  h.kept hgl hs.1 (fun r e => ⟨by injection e with e; omega, .inr ⟨by injection e with e; exact e.symm, hs.2⟩⟩)
theorem ParX.kept (h : ParX w g nm fn vb xs W) (hgl : g < w.heap.size) (hg : W.grownBy W' row)
    (hr : ∀ r, row = some r → w.heap.size ≤ r ∧ ((∃ o : Obj, W.heap[r]? = some o ∧ o.isCells = false) ∨ (r = w.heap.size + 3 ∧ HasBox (w.heap.size + 3) W' ∧ HasBox (w.heap.size + 3) W))) : ParX w g nm fn vb xs W' := by
  have ne : ∀ {k cs t}, W.heap[k]? = some (.cells cs t (0, 0)) → t ≠ 38 → some k ≠ row := by
    intro k cs t hk h3 e
    rcases (hr k e.symm).2 with ⟨o, ho, hc⟩ | ⟨e3, _, u, hu⟩
    · rw [hk] at ho; cases ho; cases hc
    · rw [e3, hu] at hk
      injection hk with hk
      injection hk with _ h2
      exact h3 h2.symm
  obtain ⟨v', ps, more, k, gd, h1, h2, h3, h4, h5⟩ := h.out
  exact ⟨⟨v', ps, more, k, gd, kept_at hg h1 (ne h1 (by decide)), h2.kept' hg (fun k cs t hk h9 => ne hk (by rw [h9]; decide)), h3.kept hg (ne h3 (by decide)), h4.kept hg (ne h4 (by decide)), h5⟩, grown_after h.grown hg (fun r e => .inl (hr r e).1)⟩
theorem grown_putObj {D : Nat} {o o' : Obj} (h : w.grownBy W (some g)) (hD : w.heap.size ≤ D) (hd : W.heap[D]? = some o) : w.grownBy (W.putObj D o') (some g) :=
  ⟨h.os, h.tape, h.output, by simpa using h.size, fun k hk hne => (World.putObj_heap_other (by omega)).trans (h.block k hk hne)⟩
end

/-- Where a round has come to. -/
structure ParS (w : World) (g : Nat) (nm : ByteArray) (fn : Bool) (vb : Value) (W W' : World) (v' : Value) (ps : List ByteArray) (more : Bool) (k : Int) (gd : Bool) : Prop where
  mac : MBox W' g nm fn v' more vb
  row : StrRow w.heap.size W' v' ps
  bm : Boxed W' w.heap.size 117 (.pointer (some ⟨g, 0, none⟩))
  bn : Boxed W' (w.heap.size + 1) 3 (.int .i64 k)
  bg : Boxed W' (w.heap.size + 2) 4 (.bool gd)
  bx : HasBox (w.heap.size + 3) W'
  ko : KeepsOthers W W'
  kp : KeepP (w.heap.size + 3) w.heap.size g W W'
  grown : w.grownBy W' (some g)
theorem dec_text (s : ByteArray) (l : Lx.L) : (s.toList == l) = true ∨ (s.toList == l) = false := by cases (s.toList == l) <;> simp
section
variable {w : World} {g : Nat} {nm : ByteArray} {fn : Bool} {vb : Value} {xs : List S62} {pre : List (S62 × ByteArray)} {W W' : World} {v' : Value} {ps : List ByteArray} {more : Bool} {k : Int} {gd : Bool}
theorem ParI.start (h : ParI w g nm fn vb xs pre W) (hm : MBox W g nm fn v' false vb) (hr : StrRow w.heap.size W v' (pre.map (·.1.f1))) : ParS w g nm fn vb W W v' (pre.map (·.1.f1)) false (2 * (pre.length : Int)) false :=
  ⟨hm, hr, h.bm, h.bn, h.bg, h.bx, KeepsOthers.refl W, ⟨rfl, fun _ _ _ => rfl⟩, h.grown⟩
theorem ParS.kept (h : ParS w g nm fn vb W W' v' ps more k gd) {j i : Nat} {u : Value} (hj : j ≠ w.heap.size + 3) : KeepsOthers W (W'.setCell ⟨j, i, none⟩ u) ∧ ((w.heap.size ≤ j ∨ j = g) → KeepP (w.heap.size + 3) w.heap.size g W (W'.setCell ⟨j, i, none⟩ u)) ∧ ((w.heap.size ≤ j ∨ j = g) → w.grownBy (W'.setCell ⟨j, i, none⟩ u) (some g)) ∧ HasBox (w.heap.size + 3) (W'.setCell ⟨j, i, none⟩ u) := by
  have hG : W'.grownBy (W'.setCell ⟨j, i, none⟩ u) (some j) := grown_set (World.grownBy.refl W' _) i _
  obtain ⟨q, hq⟩ := h.bx
  refine ⟨h.ko.trans (KeepsOthers.setCell _ _ _), fun hh => ⟨(Below.heap_setCell _ ⟨j, i, none⟩ _ _ (by simp; omega)).trans h.kp.1, fun b hb hne => (Below.heap_setCell _ ⟨j, i, none⟩ _ _ (by simp; omega)).trans (h.kp.2 b hb hne)⟩, fun hh => grown_after h.grown hG (fun r e => by injection e with e; omega), q, (Below.heap_setCell _ ⟨j, i, none⟩ _ _ (by simp; omega)).trans hq⟩
theorem ParS.setN (h : ParS w g nm fn vb W W' v' ps more k gd) (hgl : g < w.heap.size) (k' : Int) : ParS w g nm fn vb W (W'.setCell ⟨w.heap.size + 1, 0, none⟩ (.int .i64 k')) v' ps more k' gd := by
  obtain ⟨h1, h2, h3, h4⟩ := h.kept (j := w.heap.size + 1) (i := 0) (u := .int .i64 k') (by omega)
  have hG : W'.grownBy (W'.setCell ⟨w.heap.size + 1, 0, none⟩ (.int .i64 k')) (some (w.heap.size + 1)) := grown_set (World.grownBy.refl W' _) 0 _
  exact ⟨kept_at hG h.mac (by simp; omega), h.row.kept' hG (fun k cs t hk h9 => by
    intro e; injection e with e; subst e
    have := h.bn; unfold Boxed at this; rw [this] at hk; injection hk with hk; injection hk with _ h2; rw [h9] at h2; exact absurd h2 (by decide)), h.bm.kept hG (by simp), h.bn.set _, h.bg.kept hG (by simp), h4, h1, h2 (by omega), h3 (by omega)⟩
theorem ParS.setG (h : ParS w g nm fn vb W W' v' ps more k gd) (hgl : g < w.heap.size) (b : Bool) : ParS w g nm fn vb W (W'.setCell ⟨w.heap.size + 2, 0, none⟩ (.bool b)) v' ps more k b := by
  obtain ⟨h1, h2, h3, h4⟩ := h.kept (j := w.heap.size + 2) (i := 0) (u := .bool b) (by omega)
  have hG : W'.grownBy (W'.setCell ⟨w.heap.size + 2, 0, none⟩ (.bool b)) (some (w.heap.size + 2)) := grown_set (World.grownBy.refl W' _) 0 _
  exact ⟨kept_at hG h.mac (by simp; omega), h.row.kept' hG (fun k cs t hk h9 => by
    intro e; injection e with e; subst e
    have := h.bg; unfold Boxed at this; rw [this] at hk; injection hk with hk; injection hk with _ h2; rw [h9] at h2; exact absurd h2 (by decide)), h.bm.kept hG (by simp), h.bn.kept hG (by simp), h.bg.set _, h4, h1, h2 (by omega), h3 (by omega)⟩
theorem ParS.setM (h : ParS w g nm fn vb W W' v' ps more k gd) (hgl : g < w.heap.size) (b : Bool) : ParS w g nm fn vb W (W'.setCell ⟨g, 3, none⟩ (.bool b)) v' ps b k gd := by
  obtain ⟨h1, h2, h3, h4⟩ := h.kept (j := g) (i := 3) (u := .bool b) (by omega)
  have hG : W'.grownBy (W'.setCell ⟨g, 3, none⟩ (.bool b)) (some g) := grown_set (World.grownBy.refl W' _) 3 _
  exact ⟨h.mac.s3 b, h.row.kept' hG (fun k cs t hk h9 => by
    intro e; injection e with e; subst e
    have := h.mac; unfold MBox at this; rw [this] at hk; injection hk with hk; injection hk with _ h2; rw [h9] at h2; exact absurd h2 (by decide)), h.bm.kept hG (by simp; omega), h.bn.kept hG (by simp; omega), h.bg.kept hG (by simp; omega), h4, h1, h2 (.inr rfl), h3 (.inr rfl)⟩
theorem ParS.app {A : Option Addr} {n cap g1 cap1 : Nat} {o : Obj} {x : ByteArray} {w5 : World} (h : ParS w g nm fn vb W W' (.slice A n cap) ps more k gd) (hgl : g < w.heap.size) (hn : n = ps.length)
    (hown : w5.ownsRow w.heap.size 9 1 (.slice (some ⟨g1, 0, none⟩) (n + 1) cap1) (n + 1) (ps.map Value.string ++ [.string x])) (hg : (W'.alloc o).drew.grownBy w5 (Value.slice A n cap).ownBlock) :
    (MBox w5 g nm fn (.slice A n cap) more vb ∧ Boxed w5 w.heap.size 117 (.pointer (some ⟨g, 0, none⟩))) ∧ ParS w g nm fn vb W (w5.setCell ⟨g, 2, none⟩ (.slice (some ⟨g1, 0, none⟩) (n + 1) cap1)) (.slice (some ⟨g1, 0, none⟩) (n + 1) cap1) (ps ++ [x]) more k gd := by
  have h1 : W'.grownBy w5 (Value.slice A n cap).ownBlock := ⟨hg.os, hg.tape, hg.output, by have := hg.size; simp at this; omega, fun k hk hne => (hg.block k (by simp; omega) hne).trans (Below.heap_alloc W' o k hk)⟩
  have nb : ∀ {k cs t}, W'.heap[k]? = some (.cells cs t (0, 0)) → t ≠ 9 → some k ≠ (Value.slice A n cap).ownBlock := by
    intro k cs t hk ht e
    obtain ⟨_, cs', hc⟩ := h.row.block k e.symm
    rw [hk] at hc; injection hc with hc; injection hc with _ h2; exact ht h2
  obtain ⟨q, hq⟩ := h.bx
  have ho : ∀ r, (Value.slice A n cap).ownBlock = some r → w.heap.size ≤ r := fun r e => (h.row.block r e).1
  have hm5 : MBox w5 g nm fn (.slice A n cap) more vb := kept_at h1 h.mac (nb h.mac (by decide))
  have hb5 : Boxed w5 w.heap.size 117 (.pointer (some ⟨g, 0, none⟩)) := h.bm.kept h1 (nb h.bm (by decide))
  have hn5 : Boxed w5 (w.heap.size + 1) 3 (.int .i64 k) := h.bn.kept h1 (nb h.bn (by decide))
  have hg5 : Boxed w5 (w.heap.size + 2) 4 (.bool gd) := h.bg.kept h1 (nb h.bg (by decide))
  have hx5 : w5.heap[w.heap.size + 3]? = some (.cells #[q] 38 (0, 0)) := kept_at h1 hq (nb hq (by decide))
  have hko : KeepsOthers W w5 := h.ko.trans (KeepsOthers.of_grownBy h1 fun j o ej hj => by
    obtain ⟨_, cs, hc⟩ := h.row.block j ej
    rw [hc] at hj; cases hj; rfl)
  have hkp : KeepP (w.heap.size + 3) w.heap.size g W w5 := ⟨(h1.block _ (Array.getElem?_eq_some_iff.1 hq).1 (nb hq (by decide))).trans h.kp.1, fun b hb hne => (h1.block b (Nat.lt_of_lt_of_le hb h.grown.size) (fun e => by have := ho b e.symm; omega)).trans (h.kp.2 b hb hne)⟩
  have hgr : w.grownBy w5 (some g) := grown_after h.grown h1 (fun r e => .inl (ho r e))
  have hG : w5.grownBy (w5.setCell ⟨g, 2, none⟩ (.slice (some ⟨g1, 0, none⟩) (n + 1) cap1)) (some g) := grown_set (World.grownBy.refl w5 _) 2 _
  have hlow : ∀ (b : Nat), b ≠ g → (w5.setCell ⟨g, 2, none⟩ (.slice (some ⟨g1, 0, none⟩) (n + 1) cap1)).heap[b]? = w5.heap[b]? := fun b hb => Below.heap_setCell _ _ _ _ (by simpa using hb)
  have hrow5 : StrRow w.heap.size w5 (.slice (some ⟨g1, 0, none⟩) (n + 1) cap1) (ps ++ [x]) := by
    unfold StrRow
    rw [List.map_append, List.length_append, ← hn]
    exact hown
  refine ⟨⟨hm5, hb5⟩, ⟨hm5.s2 _, hrow5.kept' hG (fun k cs t hk h9 => ?_), hb5.kept hG (by simp; omega), hn5.kept hG (by simp; omega), hg5.kept hG (by simp; omega), ⟨q, (hlow _ (by omega)).trans hx5⟩, hko.trans (KeepsOthers.setCell _ _ _), ⟨(hlow _ (by omega)).trans hkp.1, fun b hb hne => (hlow b hne).trans (hkp.2 b hb hne)⟩, grown_after hgr hG (fun r e => by injection e with e; exact .inr e.symm)⟩⟩
  · intro e; injection e with e; subst e
    unfold MBox at hm5; rw [hm5] at hk; injection hk with hk; injection hk with _ h2; rw [h9] at h2; exact absurd h2 (by decide)
theorem ParS.exit (h : ParS w g nm fn vb W W' v' ps more k gd) {B : Nat} {x : S62 × ByteArray} {l : List (S62 × ByteArray)} {a : Act} (ho : (gd = true ∧ ∃ kn : Nat, k = (kn : Int) ∧ parGo xs [] = some (ps, more, kn)) ∨ (gd = false ∧ parGo xs [] = none)) :
    Rng.postS B (KeepP (w.heap.size + 3) w.heap.size g) (fun _ => True) (ParI w g nm fn vb xs) (fun cd _ W => cd = .exit 0 ∧ ParX w g nm fn vb xs W ∧ HasBox (w.heap.size + 3) W) x l W (.exit 0) a W' :=
  ⟨h.ko.from _, h.kp, rfl, ⟨⟨v', ps, more, k, gd, h.mac, h.row, h.bn, h.bg, ho⟩, h.grown⟩, h.bx⟩
theorem ParS.go {p : S62 × ByteArray} (h : ParS w g nm fn vb W W' v' (pre.map (·.1.f1) ++ [p.1.f1]) false (2 * (pre.length : Int) + 2) false) {B : Nat} {a : Act} (hp : PAt xs (pre ++ [p])) (hl : (pre ++ [p]).length ≤ xs.length + 1) :
    Rng.postS B (KeepP (w.heap.size + 3) w.heap.size g) (fun _ => True) (ParI w g nm fn vb xs) (fun cd _ W => cd = .exit 0 ∧ ParX w g nm fn vb xs W ∧ HasBox (w.heap.size + 3) W) p (pre ++ [p]) W .normal a W' :=
  ⟨h.ko.from _, h.kp, ⟨⟨v', h.mac, by rw [List.map_append]; exact h.row⟩, h.bm, by have := h.bn; rw [show (2 * ((pre ++ [p]).length : Int)) = 2 * (pre.length : Int) + 2 by rw [List.length_append]; push_cast; simp; omega]; exact this, h.bg, h.bx, hp, hl, h.grown⟩, trivial⟩
end
set_option maxRecDepth 100000 in
set_option maxHeartbeats 8000000 in
theorem pars_in (n : Nat) (hn4 : 4 ≤ n) (xs : List S62) (hn : xs.length < 4294967290) (g : Nat) (nm : ByteArray) (fn : Bool) (v vb : Value) (hvb : ∀ k n, vb ≠ .int k n) (w : World) (hg : MBox w g nm fn (.slice none 0 0) false vb) (hx : TokAt w v xs) :
    CallsIn Fence.wide n Tryd.prog 55 #[.pointer (some ⟨g, 0, none⟩), v] w fun e w' => ParsEnd w g nm fn vb xs e w' := by
  obtain ⟨i0, hi, hz0, hz1, hz2⟩ := info_parts info9s
  obtain ⟨A, c, rfl, hc, hr⟩ := hx
  have hx : TokAt w (.slice A xs.length c) xs := ⟨A, c, rfl, hc, hr⟩
  have hgl := hg.lt
  have HG := Lib.hid hg
  have HX := Lib.hid hx
  have HVB := Lib.hid hvb
  clear hr hg hx hvb
  refine callsIn_of_wp_marks Tryd.func55 rfl trivial ?_ rfl
  simp only [Tryd.ntmps55, List.size_toArray, List.length_cons, List.length_nil, Nat.reduceAdd, Nat.reduceSub, Array.replicate_succ, Array.replicate_zero, List.push_toArray, List.append_toArray, List.nil_append, List.cons_append]
  by_cases h0 : xs.length = 0
  · have h0' : ¬ 0 < xs.length := by omega
    have h0'' : decide (0 < xs.length) = false := decide_eq_false h0'
    have HP := Lib.hid (show parL xs = parGo xs [] by rw [List.eq_nil_of_length_eq_zero h0]; rfl)
    clear h0
    gi_wp2_with (fail)
    refine inScope rfl ?_
    gi_wp2_with (fail)
    refine wpIn_label ?_
    gi_wp2_with (fail)
    refine callW ((listed_any _ xs.length c _).mono ?_)
    rintro e w1 ⟨rfl, rfl⟩
    gi_wp2_with (fail)
    obtain ⟨W0, hW0⟩ : ∃ W0, (((w.alloc (.cells #[.pointer (some ⟨g, 0, none⟩)] 117)).alloc (.cells #[.int .i64 0] 3)).alloc (.cells #[.bool false] 4)).alloc (.cells #[.slice A xs.length c] 38) = W0 := ⟨_, rfl⟩
    have hsz : W0.heap.size = w.heap.size + 4 := by rw [← hW0]; simp
    have hB0 : Below w.heap.size w W0 := by rw [← hW0]; exact ((((Below.refl _ w).alloc (Nat.le_refl _) _).alloc (by simp) _).alloc (by simp; omega) _).alloc (by simp; omega) _
    have HL0 : ParI w g nm fn vb xs [] W0 := by
      refine ⟨⟨_, HG.out.below hB0, StrRow.nil _ _⟩, ?_, ?_, ?_, ⟨.slice A xs.length c, ?_⟩, PAt.start xs, by simp, ⟨hB0.os, hB0.tape, hB0.output, hB0.size, fun k hk _ => hB0.block k hk⟩⟩
      · rw [← hW0]; exact hold_old (hold_old (hold_old (hold_new rfl)))
      · rw [← hW0]; exact hold_old (hold_old (hold_new (by simp)))
      · rw [← hW0]; exact hold_old (hold_new (by simp))
      · rw [← hW0]; exact hold_new (by simp)
    have hbx0 : W0.heap[w.heap.size + 3]? = some (.cells #[.slice A xs.length c] 38 (0, 0)) := by rw [← hW0]; exact hold_new (by simp)
    have htk0 : TokIn w.heap.size g W0 (.slice A xs.length c) xs := (TokIn.of HX.out (HG.out.noInt (by simp) HVB.out)).turn (fun b h1 _ => hB0.block b h1)
    rw [hW0]
    clear hW0
    refine Rng.wpIn_rangeS (α := S62 × ByteArray) rfl (by omega) (gf := 172) (lb := #[.pointer (some ⟨w.heap.size + 3, 0, none⟩)]) rfl trivial (enters_of Tryd.func172 (by kernel_rfl) rfl)
      (encs := fun p => #[tokV p.1, .string p.2]) (St := fun U V => U.grownBy V (some (w.heap.size + 3)) ∧ HasBox (w.heap.size + 3) V) (Kp := KeepP (w.heap.size + 3) w.heap.size g) (Can := fun pre p => (pairsL xs)[pre.length]? = some p) (Cont := fun _ => True) (S := fun ps _ => ps = pairsL xs) (Sp := fun _ _ => True)
      ?seq (fun U V h => KeepsFrom.of_grownBy h.1 (fun j e => by injection e with e; omega)) ?kt ?kb (fun _ => rfl) (fun _ _ _ _ h _ _ => h) (fun _ _ _ _ _ _ _ => trivial)
      (ParI w g nm fn vb xs) (fun cd _ W => cd = .exit 0 ∧ ParX w g nm fn vb xs W ∧ HasBox (w.heap.size + 3) W) (ParI.own w g nm fn vb xs hgl (by omega)) ?ownx (fun s U V h k => h.st hgl k) ?xst HL0
      (fun p a' W => ∃ Bx, W0.heap.size ≤ Bx ∧ W.heap[Bx]? = some (.cells #[.int .i64 p.1.f0, .string p.1.f1, .string p.1.f2, .int .i64 p.1.f3, .bool p.1.f4, .bool p.1.f5] 62 (0, 0)) ∧ a' = { tmps := #[.pointer (some ⟨g, 0, none⟩), .slice A xs.length c, .pointer (some ⟨w.heap.size, 0, none⟩), undef, .int .i64 0, .pointer (some ⟨w.heap.size + 1, 0, none⟩), .pointer (some ⟨w.heap.size + 1 + 1, 0, none⟩), .pointer (some ⟨Bx, 0, none⟩), .string p.2, .slice A xs.length c, .int .i64 (xs.length : Int), .bool false, .bool false, undef, undef, undef, undef, undef, .bool false, .slice A xs.length c, .func (.func 172) #[] #[.pointer (some ⟨w.heap.size + 1 + 1 + 1, 0, none⟩)], tokV p.1, .string p.2, undef, undef, undef, undef, undef, undef, undef, undef, undef, undef, undef, undef, undef, undef, undef, undef, undef, undef, undef, undef, undef, undef, undef, undef, undef, undef, undef, undef, undef, undef, undef, undef, undef, undef, undef, undef, undef, undef, undef, undef, undef], defers := [] })
      ?ownax ?assign ?body ?done ?stop
    case seq =>
      intro l J Jx W hl hbl hJs hJxs hY hJ0
      refine listed1_in (n - 1) l (w.heap.size + 3) w.heap.size g xs (by omega) J Jx (fun s U V h1 h2 h3 => hJs s U V h1 ⟨h2, h3⟩) ?_ (by omega) W _ (htk0.turn (fun b h1 _ => hbl.block b (by omega))) ((hbl.block _ (by omega)).trans hbx0) hJ0
      intro pre p W1 h1 h2
      obtain ⟨fn', tmps, assign, body, hy, hR⟩ := hY pre p W1 h1 h2
      refine ⟨fn', tmps, assign, body, hy, hR.mono ?_⟩
      rintro e W' (⟨h3, h4, h5, _⟩ | ⟨h3, h4, _⟩)
      · exact .inl ⟨h3, h4, h5⟩
      · exact .inr ⟨h3, h4⟩
    case kt => exact fun h1 h2 => ⟨h2.1.trans h1.1, fun b hb hne => (h2.2 b hb hne).trans (h1.2 b hb hne)⟩
    case kb =>
      intro W l o o' hl _ _ _
      exact ⟨World.putObj_heap_other (by omega), fun b hb _ => World.putObj_heap_other (by omega)⟩
    case ownx =>
      rintro cd pre W W' row ⟨h0, h1, u, h2⟩ hg hr
      have hne : some (w.heap.size + 3) ≠ row := fun e => by
        obtain ⟨o, ho, hc⟩ := (hr _ e.symm).2
        rw [h2] at ho; cases ho; cases hc
      exact ⟨h0, h1.kept hgl hg (fun r e => ⟨by have := (hr r e).1; omega, .inl (hr r e).2⟩), u, kept_at hg h2 hne⟩
    case xst =>
      rintro cd s U V ⟨h0, h1, h2⟩ ⟨hg, hs⟩
      exact ⟨h0, h1.kept hgl hg (fun r e => ⟨by injection e with e; omega, .inr ⟨by injection e with e; exact e.symm, hs, h2⟩⟩), hs⟩
    case ownax =>
      rintro p a' _ W W' row ⟨Bx, h1, h2, h3⟩ hg hr
      refine ⟨Bx, h1, kept_at hg h2 (fun e => ?_), h3⟩
      obtain ⟨o, ho, hc⟩ := (hr _ e.symm).2
      rw [h2] at ho; cases ho; cases hc
    case assign =>
      intro l pre p W K hI hcan hK
      have hW := (Array.getElem?_eq_some_iff.1 hI.bm).1
      have hgs := hI.grown.size
      obtain ⟨u, hu⟩ := hI.bx
      have hW3 := (Array.getElem?_eq_some_iff.1 hu).1
      clear hcan hu
      dsimp only [tokV] at hK ⊢
      gi_wp2
      have hGa : W.grownBy (W.alloc (.cells #[.int .i64 p.1.f0, .string p.1.f1, .string p.1.f2, .int .i64 p.1.f3, .bool p.1.f4, .bool p.1.f5] 62)) none := World.grownBy_alloc _ _ none
      exact hK _ _ ((KeepsOthers.alloc _ _).from _) ⟨Below.heap_alloc _ _ _ hW3, fun b hb _ => Below.heap_alloc _ _ _ (by omega)⟩ (hI.kept hgl hGa (fun r e => by cases e)) ⟨W.heap.size, by omega, World.alloc_heap_new _ _, rfl⟩
    case body =>
      rintro l pre p a' W hl hI ⟨Bx, hBx, hbx, rfl⟩ hcan
      obtain ⟨v', hmb, hsr⟩ := hI.mac
      obtain ⟨A', cap, hv'⟩ := hsr.slice
      rw [List.length_map] at hv'
      subst hv'
      have HPS := Lib.hid (hI.start hmb hsr)
      have HAT := Lib.hid hI.at_
      have HBXX := Lib.hid hbx
      have HCAN := Lib.hid hcan
      have hpl := hI.len
      have hpl2 : (pre ++ [p]).length ≤ xs.length + 1 := by
        have h1 := (List.getElem?_eq_some_iff.1 hcan).1
        have h2 := pairs_len xs
        rw [List.length_append, List.length_singleton]; omega
      have hbxne : Bx ≠ g := by omega
      have x0 : W.cell? ⟨Bx, 0, none⟩ = some (.int .i64 p.1.f0) := by simp [World.cell?, hbx]
      have x1 : W.cell? ⟨Bx, 1, none⟩ = some (.string p.1.f1) := by simp [World.cell?, hbx]
      have hW := (Array.getElem?_eq_some_iff.1 hbx).1
      have hn0 := HPS.out.bn.cell
      have hnf := HPS.out.bn.frozen
      have hg0 := HPS.out.bg.cell
      have hgf := HPS.out.bg.frozen
      have hm0 := HPS.out.bm.cell
      have hm2 := HPS.out.mac.c2
      have hm3 := HPS.out.mac.c3
      have hmf2 := HPS.out.mac.fz 2
      have hmf3 := HPS.out.mac.fz 3
      have hbn1 : Bx ≠ w.heap.size + 1 := by omega
      have hgn1 : g ≠ w.heap.size + 1 := by omega
      have hgn2 : g ≠ w.heap.size + 2 := by omega
      have HPS1 := Lib.hid (HPS.out.setN hgl (2 * (pre.length : Int) + 2))
      clear hI hmb hsr hcan hbx
      rcases dec_text p.1.f1 [46, 46, 46] with hd' | hd'
      · rcases dec_text p.2 [41] with hy' | hy'
        · have HQ := Lib.hid (HAT.out.dots HCAN.out (by rw [← toList_bl]; exact beq_iff_eq.1 hd') (by rw [← toList_bl]; exact beq_iff_eq.1 hy'))
          gi_wp2
          exact ((HPS1.out.setM hgl true).setG hgl true).exit (.inl ⟨rfl, 2 + 2 * pre.length, by push_cast; omega, HQ.out⟩)
        · have HND := Lib.hid (show ¬ (bl p.1.f1 = dotsL ∧ bl p.2 = [41]) from fun h => by rw [toList_bl, h.2] at hy'; simp at hy')
          rcases bool_or (p.1.f0 == 1) with hk' | hk'
          · have HN := Lib.hid (HAT.out.bad HCAN.out HND.out (fun h => by rw [h.1] at hk'; simp at hk'))
            gi_wp2
            exact HPS1.out.exit (.inr ⟨rfl, HN.out⟩)
          · rcases dec_text p.2 [44] with hy2 | hy2
            · have HP2 := Lib.hid (HAT.out.more HCAN.out (by simpa using hk') (by rw [← toList_bl]; exact beq_iff_eq.1 hy2))
              gi_wp2
              obtain ⟨W1, hW1⟩ : ∃ W1, W.setCell ⟨w.heap.size + 1, 0, none⟩ (.int .i64 (2 * (pre.length : Int) + 2)) = W1 := ⟨_, rfl⟩
              rw [hW1] at HPS1
              rw [hW1]
              have x11 : W1.cell? ⟨Bx, 1, none⟩ = some (.string p.1.f1) := by rw [← hW1]; exact keep_set hbn1 x1
              have m1 := HPS1.out.bm.cell
              have c2 := HPS1.out.mac.c2
              have HBXC := Lib.hid (show W1.heap[Bx]? = some (.cells #[.int .i64 p.1.f0, .string p.1.f1, .string p.1.f2, .int .i64 p.1.f3, .bool p.1.f4, .bool p.1.f5] 62 (0, 0)) by rw [← hW1]; exact (Below.heap_setCell _ ⟨w.heap.size + 1, 0, none⟩ _ _ (by simpa using hbn1)).trans HBXX.out)
              clear hW1 x0 x1 hn0 hnf hg0 hgf hm0 hm2 hm3 hmf2 hmf3
              have hW1s : Bx < W1.heap.size := World.block_lt_of_cell? _ _ x11
              have KA : ∀ o, (W1.drew.alloc o).cell? ⟨w.heap.size, 0, none⟩ = some (.pointer (some ⟨g, 0, none⟩)) ∧ (W1.drew.alloc o).cell? ⟨Bx, 1, none⟩ = some (.string p.1.f1) := fun o => ⟨oldC o m1, oldC o x11⟩
              have d2 : ∀ o, (W1.alloc o).cell? ⟨g, 2, none⟩ = some (.slice A' pre.length cap) := fun o => oldC o c2
              have hrow' : ∀ o, World.ownsRow (W1.alloc o).drew w.heap.size 9 1 (.slice A' pre.length cap) pre.length ((pre.map (·.1.f1)).map Value.string) := fun o => by
                have := HPS1.out.row
                unfold StrRow at this
                rw [List.length_map] at this
                exact World.ownsRow.alloc this o
              have hsz' : ∀ o, (W1.alloc o).drew.heap.size = W1.heap.size + 1 := fun o => by simp
              have hbs' : ∀ o, w.heap.size ≤ (W1.alloc o).drew.heap.size := fun o => by rw [hsz']; have := HPS1.out.grown.size; omega
              have hb1 : pre.length + 1 ≤ maxLen := by simp only [maxLen]; omega
              have hb2 : (pre.length + 1) * 16 ≤ 140737488355328 := by omega
              refine InRound.wpIn_region_held (r := some l) (S := fun w' => w'.cell? ⟨w.heap.size, 0, none⟩ = some (.pointer (some ⟨g, 0, none⟩)) ∧ w'.cell? ⟨Bx, 1, none⟩ = some (.string p.1.f1)) (by kernel_rfl) (by kernel_rfl) ⟨m1, x11⟩ (fun hHeld => ?_)
              refine wpAnyH_take (i := 0) (v := .pointer (some ⟨g, 0, none⟩)) rfl (by kernel_rfl) (by kernel_rfl) (by kernel_rfl) InRound.end_panic (Or.inl ⟨by rfl, ?h0⟩) hHeld ?_
              case h0 => (intro w hSw; (try dsimp only at hSw); go_simp)
              try simp only [Act.put, List.setIfInBounds_toArray, List.set_cons_zero, List.set_cons_succ]
              refine wpAnyH_take (i := 1) (v := .pointer (some ⟨g, 0, none⟩)) rfl (by kernel_rfl) (by kernel_rfl) (by kernel_rfl) InRound.end_panic (Or.inl ⟨by rfl, ?h1⟩) hHeld ?_
              case h1 => (intro w hSw; (try dsimp only at hSw); go_simp)
              try simp only [Act.put, List.setIfInBounds_toArray, List.set_cons_zero, List.set_cons_succ]
              refine wpAnyH_take (i := 2) (v := .pointer (some ⟨g, 0, none⟩)) rfl (by kernel_rfl) (by kernel_rfl) (by kernel_rfl) InRound.end_panic (Or.inl ⟨by rfl, ?h2⟩) hHeld ?_
              case h2 => (intro w hSw; (try dsimp only at hSw); go_simp)
              try simp only [Act.put, List.setIfInBounds_toArray, List.set_cons_zero, List.set_cons_succ]
              refine wpAnyH_take (i := 3) (v := .pointer (some ⟨g, 2, none⟩)) rfl (by kernel_rfl) (by kernel_rfl) (by kernel_rfl) InRound.end_panic (Or.inl ⟨by rfl, ?h3⟩) hHeld ?_
              case h3 => (intro w hSw; (try dsimp only at hSw); go_simp)
              try simp only [Act.put, List.setIfInBounds_toArray, List.set_cons_zero, List.set_cons_succ]
              refine wpAnyH_take (i := 5) (v := .pointer (some ⟨Bx, 1, none⟩)) rfl (by kernel_rfl) (by kernel_rfl) (by kernel_rfl) InRound.end_panic (Or.inl ⟨by rfl, ?h5⟩) hHeld ?_
              case h5 => (intro w hSw; (try dsimp only at hSw); go_simp)
              try simp only [Act.put, List.setIfInBounds_toArray, List.set_cons_zero, List.set_cons_succ]
              refine wpAnyH_take (i := 6) (v := .string p.1.f1) rfl (by kernel_rfl) (by kernel_rfl) (by kernel_rfl) InRound.end_panic (Or.inl ⟨by rfl, ?h6⟩) hHeld ?_
              case h6 => (intro w hSw; (try dsimp only at hSw); go_simp)
              try simp only [Act.put, List.setIfInBounds_toArray, List.set_cons_zero, List.set_cons_succ]
              refine wpAnyH_ready (rs := [4, 7]) (by kernel_rfl) (by simp) ?_
              refine AllReadyH.cons rfl (fun K hK => ?_) (AllReadyH.cons rfl (fun K hK => ?_) AllReadyH.nil)
              · go_simp
                refine hK.out _ _ hHeld (fun hHeld2 => ?_)
                clear hK K
                refine wpAnyH_ready (rs := [7]) (by kernel_rfl) (by simp) ?_
                refine AllReadyH.cons rfl (fun K hK => ?_) AllReadyH.nil
                go_simp
                refine hK.out _ _ (KA _) (fun hHeld3 => ?_)
                clear hK K
                refine wpAnyH_ready (rs := [8]) (by kernel_rfl) (by simp) ?_
                refine AllReadyH.cons rfl (fun K hK => ?_) AllReadyH.nil
                refine step_append_lies _ rfl (.tmp 52) (.tmp 55) 44 rfl w.heap.size 9 i0 _ 1 16 Tryd.underlying44 hi hz0 hz1 hz2 rfl (by decide) (.slice A' pre.length cap) pre.length ((pre.map (·.1.f1)).map Value.string) rfl (hrow' _) ⟨W1.heap.size, 0, none⟩ 1 1 [.string p.1.f1] rfl rfl (cell_new1 W1 _ _) (by simp [Value.oneCell']) (Nat.le_refl 1) hb1 hb2 (hbs' _) (W1.heap.size + 1) (hsz' _) ?_
                intro g1 cap1 w5 hown5 hgrow5 hor5 hlt5
                obtain ⟨⟨hm5, hb5⟩, hps6⟩ := HPS1.out.app (x := p.1.f1) hgl (by rw [List.length_map]) (by exact hown5) hgrow5
                have x15 : w5.cell? ⟨Bx, 1, none⟩ = some (.string p.1.f1) := by
                  have hbxo : some Bx ≠ (Value.slice A' pre.length cap).ownBlock := fun e => by
                    obtain ⟨_, cs, hcs⟩ := HPS1.out.row.block Bx e.symm
                    have h1 := HBXC.out
                    rw [hcs] at h1; injection h1 with h1; injection h1 with _ h2; exact absurd h2 (by decide)
                  refine (World.cell?_of_block ((hgrow5.block Bx (by simp; omega) hbxo).trans (Below.heap_alloc W1 _ Bx hW1s))).trans x11
                have e2' := hm5.c2
                have f2' := hm5.fz 2
                have m15 := hb5.cell
                refine hK.out _ _ ⟨m15, x15⟩ (fun hHeld4 => ?_)
                clear hK K
                refine wpAnyH_ready (rs := [9]) (by kernel_rfl) (by simp) ?_
                refine AllReadyH.cons rfl (fun K hK => ?_) AllReadyH.nil
                go_simp
                refine hK.out _ _ ⟨m15, x15⟩ (fun hHeld4 => ?_)
                clear hK K
                refine wpAnyH_ready (rs := [10]) (by kernel_rfl) (by simp) ?_
                refine AllReadyH.cons rfl (fun K hK => ?_) AllReadyH.nil
                go_simp
                refine hK.out _ _ ⟨m15, x15⟩ (fun hHeld4 => ?_)
                clear hK K
                refine wpAnyH_ready (rs := [11]) (by kernel_rfl) (by simp) ?_
                refine AllReadyH.cons rfl (fun K hK => ?_) AllReadyH.nil
                go_simp
                have HPS6 := Lib.hid hps6
                refine hK.out _ _ ⟨HPS6.out.bm.cell, keep_set hbxne x15⟩ (fun hHeld5 => ?_)
                clear hK K
                refine wpAnyH_done (by kernel_rfl) ?_ _
                refine ⟨rfl, ?_⟩
                obtain ⟨W6, hW6⟩ : ∃ W6, w5.setCell ⟨g, 2, none⟩ (.slice (some ⟨g1, 0, none⟩) (pre.length + 1) cap1) = W6 := ⟨_, rfl⟩
                rw [hW6] at HPS6
                rw [hW6]
                clear hW6 hHeld hHeld2 hHeld3 hHeld4 hHeld5 hps6 hm5 hb5 hown5 hgrow5 hor5 hlt5 x15 e2' f2' m15 m1 x11 c2 KA d2 hrow' hsz' hbs' hb1 hb2
                have hg6 := HPS6.out.bg.cell
                have hgf6 := HPS6.out.bg.frozen
                gi_wp2
                exact HPS6.out.go HP2.out hpl2
              · go_simp
                refine hK.out _ _ (KA _) (fun hHeld2 => ?_)
                clear hK K
                refine wpAnyH_ready (rs := [4]) (by kernel_rfl) (by simp) ?_
                refine AllReadyH.cons rfl (fun K hK => ?_) AllReadyH.nil
                go_simp
                refine hK.out _ _ (KA _) (fun hHeld3 => ?_)
                clear hK K
                refine wpAnyH_ready (rs := [8]) (by kernel_rfl) (by simp) ?_
                refine AllReadyH.cons rfl (fun K hK => ?_) AllReadyH.nil
                refine step_append_lies _ rfl (.tmp 52) (.tmp 55) 44 rfl w.heap.size 9 i0 _ 1 16 Tryd.underlying44 hi hz0 hz1 hz2 rfl (by decide) (.slice A' pre.length cap) pre.length ((pre.map (·.1.f1)).map Value.string) rfl (hrow' _) ⟨W1.heap.size, 0, none⟩ 1 1 [.string p.1.f1] rfl rfl (cell_new1 W1 _ _) (by simp [Value.oneCell']) (Nat.le_refl 1) hb1 hb2 (hbs' _) (W1.heap.size + 1) (hsz' _) ?_
                intro g1 cap1 w5 hown5 hgrow5 hor5 hlt5
                obtain ⟨⟨hm5, hb5⟩, hps6⟩ := HPS1.out.app (x := p.1.f1) hgl (by rw [List.length_map]) (by exact hown5) hgrow5
                have x15 : w5.cell? ⟨Bx, 1, none⟩ = some (.string p.1.f1) := by
                  have hbxo : some Bx ≠ (Value.slice A' pre.length cap).ownBlock := fun e => by
                    obtain ⟨_, cs, hcs⟩ := HPS1.out.row.block Bx e.symm
                    have h1 := HBXC.out
                    rw [hcs] at h1; injection h1 with h1; injection h1 with _ h2; exact absurd h2 (by decide)
                  refine (World.cell?_of_block ((hgrow5.block Bx (by simp; omega) hbxo).trans (Below.heap_alloc W1 _ Bx hW1s))).trans x11
                have e2' := hm5.c2
                have f2' := hm5.fz 2
                have m15 := hb5.cell
                refine hK.out _ _ ⟨m15, x15⟩ (fun hHeld4 => ?_)
                clear hK K
                refine wpAnyH_ready (rs := [9]) (by kernel_rfl) (by simp) ?_
                refine AllReadyH.cons rfl (fun K hK => ?_) AllReadyH.nil
                go_simp
                refine hK.out _ _ ⟨m15, x15⟩ (fun hHeld4 => ?_)
                clear hK K
                refine wpAnyH_ready (rs := [10]) (by kernel_rfl) (by simp) ?_
                refine AllReadyH.cons rfl (fun K hK => ?_) AllReadyH.nil
                go_simp
                refine hK.out _ _ ⟨m15, x15⟩ (fun hHeld4 => ?_)
                clear hK K
                refine wpAnyH_ready (rs := [11]) (by kernel_rfl) (by simp) ?_
                refine AllReadyH.cons rfl (fun K hK => ?_) AllReadyH.nil
                go_simp
                have HPS6 := Lib.hid hps6
                refine hK.out _ _ ⟨HPS6.out.bm.cell, keep_set hbxne x15⟩ (fun hHeld5 => ?_)
                clear hK K
                refine wpAnyH_done (by kernel_rfl) ?_ _
                refine ⟨rfl, ?_⟩
                obtain ⟨W6, hW6⟩ : ∃ W6, w5.setCell ⟨g, 2, none⟩ (.slice (some ⟨g1, 0, none⟩) (pre.length + 1) cap1) = W6 := ⟨_, rfl⟩
                rw [hW6] at HPS6
                rw [hW6]
                clear hW6 hHeld hHeld2 hHeld3 hHeld4 hHeld5 hps6 hm5 hb5 hown5 hgrow5 hor5 hlt5 x15 e2' f2' m15 m1 x11 c2 KA d2 hrow' hsz' hbs' hb1 hb2
                have hg6 := HPS6.out.bg.cell
                have hgf6 := HPS6.out.bg.frozen
                gi_wp2
                exact HPS6.out.go HP2.out hpl2
            · have HN := Lib.hid (HAT.out.bad HCAN.out HND.out (fun h => by
                rcases h.2 with h | h
                · rw [toList_bl, h] at hy'; simp at hy'
                · rw [toList_bl, h] at hy2; simp at hy2))
              gi_wp2
              exact HPS1.out.exit (.inr ⟨rfl, HN.out⟩)
      · have HND := Lib.hid (show ¬ (bl p.1.f1 = dotsL ∧ bl p.2 = [41]) from fun h => by rw [toList_bl, h.1] at hd'; exact absurd hd' (by decide))
        rcases dec_text p.2 [41] with hy' | hy'
        · have hy2 : (p.2.toList == [44]) = false := by rw [beq_iff_eq.1 hy']; rfl
          rcases bool_or (p.1.f0 == 1) with hk' | hk'
          · have HN := Lib.hid (HAT.out.bad HCAN.out HND.out (fun h => by rw [h.1] at hk'; simp at hk'))
            gi_wp2
            exact HPS1.out.exit (.inr ⟨rfl, HN.out⟩)
          · have HQ := Lib.hid (HAT.out.last HCAN.out HND.out (by simpa using hk') (by rw [← toList_bl]; exact beq_iff_eq.1 hy'))
            gi_wp2
            obtain ⟨W1, hW1⟩ : ∃ W1, W.setCell ⟨w.heap.size + 1, 0, none⟩ (.int .i64 (2 * (pre.length : Int) + 2)) = W1 := ⟨_, rfl⟩
            rw [hW1] at HPS1
            rw [hW1]
            have x11 : W1.cell? ⟨Bx, 1, none⟩ = some (.string p.1.f1) := by rw [← hW1]; exact keep_set hbn1 x1
            have m1 := HPS1.out.bm.cell
            have c2 := HPS1.out.mac.c2
            have HBXC := Lib.hid (show W1.heap[Bx]? = some (.cells #[.int .i64 p.1.f0, .string p.1.f1, .string p.1.f2, .int .i64 p.1.f3, .bool p.1.f4, .bool p.1.f5] 62 (0, 0)) by rw [← hW1]; exact (Below.heap_setCell _ ⟨w.heap.size + 1, 0, none⟩ _ _ (by simpa using hbn1)).trans HBXX.out)
            clear hW1 x0 x1 hn0 hnf hg0 hgf hm0 hm2 hm3 hmf2 hmf3
            have hW1s : Bx < W1.heap.size := World.block_lt_of_cell? _ _ x11
            have KA : ∀ o, (W1.drew.alloc o).cell? ⟨w.heap.size, 0, none⟩ = some (.pointer (some ⟨g, 0, none⟩)) ∧ (W1.drew.alloc o).cell? ⟨Bx, 1, none⟩ = some (.string p.1.f1) := fun o => ⟨oldC o m1, oldC o x11⟩
            have d2 : ∀ o, (W1.alloc o).cell? ⟨g, 2, none⟩ = some (.slice A' pre.length cap) := fun o => oldC o c2
            have hrow' : ∀ o, World.ownsRow (W1.alloc o).drew w.heap.size 9 1 (.slice A' pre.length cap) pre.length ((pre.map (·.1.f1)).map Value.string) := fun o => by
              have := HPS1.out.row
              unfold StrRow at this
              rw [List.length_map] at this
              exact World.ownsRow.alloc this o
            have hsz' : ∀ o, (W1.alloc o).drew.heap.size = W1.heap.size + 1 := fun o => by simp
            have hbs' : ∀ o, w.heap.size ≤ (W1.alloc o).drew.heap.size := fun o => by rw [hsz']; have := HPS1.out.grown.size; omega
            have hb1 : pre.length + 1 ≤ maxLen := by simp only [maxLen]; omega
            have hb2 : (pre.length + 1) * 16 ≤ 140737488355328 := by omega
            refine InRound.wpIn_region_held (r := some l) (S := fun w' => w'.cell? ⟨w.heap.size, 0, none⟩ = some (.pointer (some ⟨g, 0, none⟩)) ∧ w'.cell? ⟨Bx, 1, none⟩ = some (.string p.1.f1)) (by kernel_rfl) (by kernel_rfl) ⟨m1, x11⟩ (fun hHeld => ?_)
            refine wpAnyH_take (i := 0) (v := .pointer (some ⟨g, 0, none⟩)) rfl (by kernel_rfl) (by kernel_rfl) (by kernel_rfl) InRound.end_panic (Or.inl ⟨by rfl, ?h0⟩) hHeld ?_
            case h0 => (intro w hSw; (try dsimp only at hSw); go_simp)
            try simp only [Act.put, List.setIfInBounds_toArray, List.set_cons_zero, List.set_cons_succ]
            refine wpAnyH_take (i := 1) (v := .pointer (some ⟨g, 0, none⟩)) rfl (by kernel_rfl) (by kernel_rfl) (by kernel_rfl) InRound.end_panic (Or.inl ⟨by rfl, ?h1⟩) hHeld ?_
            case h1 => (intro w hSw; (try dsimp only at hSw); go_simp)
            try simp only [Act.put, List.setIfInBounds_toArray, List.set_cons_zero, List.set_cons_succ]
            refine wpAnyH_take (i := 2) (v := .pointer (some ⟨g, 0, none⟩)) rfl (by kernel_rfl) (by kernel_rfl) (by kernel_rfl) InRound.end_panic (Or.inl ⟨by rfl, ?h2⟩) hHeld ?_
            case h2 => (intro w hSw; (try dsimp only at hSw); go_simp)
            try simp only [Act.put, List.setIfInBounds_toArray, List.set_cons_zero, List.set_cons_succ]
            refine wpAnyH_take (i := 3) (v := .pointer (some ⟨g, 2, none⟩)) rfl (by kernel_rfl) (by kernel_rfl) (by kernel_rfl) InRound.end_panic (Or.inl ⟨by rfl, ?h3⟩) hHeld ?_
            case h3 => (intro w hSw; (try dsimp only at hSw); go_simp)
            try simp only [Act.put, List.setIfInBounds_toArray, List.set_cons_zero, List.set_cons_succ]
            refine wpAnyH_take (i := 5) (v := .pointer (some ⟨Bx, 1, none⟩)) rfl (by kernel_rfl) (by kernel_rfl) (by kernel_rfl) InRound.end_panic (Or.inl ⟨by rfl, ?h5⟩) hHeld ?_
            case h5 => (intro w hSw; (try dsimp only at hSw); go_simp)
            try simp only [Act.put, List.setIfInBounds_toArray, List.set_cons_zero, List.set_cons_succ]
            refine wpAnyH_take (i := 6) (v := .string p.1.f1) rfl (by kernel_rfl) (by kernel_rfl) (by kernel_rfl) InRound.end_panic (Or.inl ⟨by rfl, ?h6⟩) hHeld ?_
            case h6 => (intro w hSw; (try dsimp only at hSw); go_simp)
            try simp only [Act.put, List.setIfInBounds_toArray, List.set_cons_zero, List.set_cons_succ]
            refine wpAnyH_ready (rs := [4, 7]) (by kernel_rfl) (by simp) ?_
            refine AllReadyH.cons rfl (fun K hK => ?_) (AllReadyH.cons rfl (fun K hK => ?_) AllReadyH.nil)
            · go_simp
              refine hK.out _ _ hHeld (fun hHeld2 => ?_)
              clear hK K
              refine wpAnyH_ready (rs := [7]) (by kernel_rfl) (by simp) ?_
              refine AllReadyH.cons rfl (fun K hK => ?_) AllReadyH.nil
              go_simp
              refine hK.out _ _ (KA _) (fun hHeld3 => ?_)
              clear hK K
              refine wpAnyH_ready (rs := [8]) (by kernel_rfl) (by simp) ?_
              refine AllReadyH.cons rfl (fun K hK => ?_) AllReadyH.nil
              refine step_append_lies _ rfl (.tmp 52) (.tmp 55) 44 rfl w.heap.size 9 i0 _ 1 16 Tryd.underlying44 hi hz0 hz1 hz2 rfl (by decide) (.slice A' pre.length cap) pre.length ((pre.map (·.1.f1)).map Value.string) rfl (hrow' _) ⟨W1.heap.size, 0, none⟩ 1 1 [.string p.1.f1] rfl rfl (cell_new1 W1 _ _) (by simp [Value.oneCell']) (Nat.le_refl 1) hb1 hb2 (hbs' _) (W1.heap.size + 1) (hsz' _) ?_
              intro g1 cap1 w5 hown5 hgrow5 hor5 hlt5
              obtain ⟨⟨hm5, hb5⟩, hps6⟩ := HPS1.out.app (x := p.1.f1) hgl (by rw [List.length_map]) (by exact hown5) hgrow5
              have x15 : w5.cell? ⟨Bx, 1, none⟩ = some (.string p.1.f1) := by
                have hbxo : some Bx ≠ (Value.slice A' pre.length cap).ownBlock := fun e => by
                  obtain ⟨_, cs, hcs⟩ := HPS1.out.row.block Bx e.symm
                  have h1 := HBXC.out
                  rw [hcs] at h1; injection h1 with h1; injection h1 with _ h2; exact absurd h2 (by decide)
                refine (World.cell?_of_block ((hgrow5.block Bx (by simp; omega) hbxo).trans (Below.heap_alloc W1 _ Bx hW1s))).trans x11
              have e2' := hm5.c2
              have f2' := hm5.fz 2
              have m15 := hb5.cell
              refine hK.out _ _ ⟨m15, x15⟩ (fun hHeld4 => ?_)
              clear hK K
              refine wpAnyH_ready (rs := [9]) (by kernel_rfl) (by simp) ?_
              refine AllReadyH.cons rfl (fun K hK => ?_) AllReadyH.nil
              go_simp
              refine hK.out _ _ ⟨m15, x15⟩ (fun hHeld4 => ?_)
              clear hK K
              refine wpAnyH_ready (rs := [10]) (by kernel_rfl) (by simp) ?_
              refine AllReadyH.cons rfl (fun K hK => ?_) AllReadyH.nil
              go_simp
              refine hK.out _ _ ⟨m15, x15⟩ (fun hHeld4 => ?_)
              clear hK K
              refine wpAnyH_ready (rs := [11]) (by kernel_rfl) (by simp) ?_
              refine AllReadyH.cons rfl (fun K hK => ?_) AllReadyH.nil
              go_simp
              have HPS6 := Lib.hid hps6
              refine hK.out _ _ ⟨HPS6.out.bm.cell, keep_set hbxne x15⟩ (fun hHeld5 => ?_)
              clear hK K
              refine wpAnyH_done (by kernel_rfl) ?_ _
              refine ⟨rfl, ?_⟩
              obtain ⟨W6, hW6⟩ : ∃ W6, w5.setCell ⟨g, 2, none⟩ (.slice (some ⟨g1, 0, none⟩) (pre.length + 1) cap1) = W6 := ⟨_, rfl⟩
              rw [hW6] at HPS6
              rw [hW6]
              clear hW6 hHeld hHeld2 hHeld3 hHeld4 hHeld5 hps6 hm5 hb5 hown5 hgrow5 hor5 hlt5 x15 e2' f2' m15 m1 x11 c2 KA d2 hrow' hsz' hbs' hb1 hb2
              have hg6 := HPS6.out.bg.cell
              have hgf6 := HPS6.out.bg.frozen
              gi_wp2
              exact (HPS6.out.setG hgl true).exit (.inl ⟨rfl, 2 + 2 * pre.length, by push_cast; omega, by rw [HQ.out, List.map_append]; rfl⟩)
            · go_simp
              refine hK.out _ _ (KA _) (fun hHeld2 => ?_)
              clear hK K
              refine wpAnyH_ready (rs := [4]) (by kernel_rfl) (by simp) ?_
              refine AllReadyH.cons rfl (fun K hK => ?_) AllReadyH.nil
              go_simp
              refine hK.out _ _ (KA _) (fun hHeld3 => ?_)
              clear hK K
              refine wpAnyH_ready (rs := [8]) (by kernel_rfl) (by simp) ?_
              refine AllReadyH.cons rfl (fun K hK => ?_) AllReadyH.nil
              refine step_append_lies _ rfl (.tmp 52) (.tmp 55) 44 rfl w.heap.size 9 i0 _ 1 16 Tryd.underlying44 hi hz0 hz1 hz2 rfl (by decide) (.slice A' pre.length cap) pre.length ((pre.map (·.1.f1)).map Value.string) rfl (hrow' _) ⟨W1.heap.size, 0, none⟩ 1 1 [.string p.1.f1] rfl rfl (cell_new1 W1 _ _) (by simp [Value.oneCell']) (Nat.le_refl 1) hb1 hb2 (hbs' _) (W1.heap.size + 1) (hsz' _) ?_
              intro g1 cap1 w5 hown5 hgrow5 hor5 hlt5
              obtain ⟨⟨hm5, hb5⟩, hps6⟩ := HPS1.out.app (x := p.1.f1) hgl (by rw [List.length_map]) (by exact hown5) hgrow5
              have x15 : w5.cell? ⟨Bx, 1, none⟩ = some (.string p.1.f1) := by
                have hbxo : some Bx ≠ (Value.slice A' pre.length cap).ownBlock := fun e => by
                  obtain ⟨_, cs, hcs⟩ := HPS1.out.row.block Bx e.symm
                  have h1 := HBXC.out
                  rw [hcs] at h1; injection h1 with h1; injection h1 with _ h2; exact absurd h2 (by decide)
                refine (World.cell?_of_block ((hgrow5.block Bx (by simp; omega) hbxo).trans (Below.heap_alloc W1 _ Bx hW1s))).trans x11
              have e2' := hm5.c2
              have f2' := hm5.fz 2
              have m15 := hb5.cell
              refine hK.out _ _ ⟨m15, x15⟩ (fun hHeld4 => ?_)
              clear hK K
              refine wpAnyH_ready (rs := [9]) (by kernel_rfl) (by simp) ?_
              refine AllReadyH.cons rfl (fun K hK => ?_) AllReadyH.nil
              go_simp
              refine hK.out _ _ ⟨m15, x15⟩ (fun hHeld4 => ?_)
              clear hK K
              refine wpAnyH_ready (rs := [10]) (by kernel_rfl) (by simp) ?_
              refine AllReadyH.cons rfl (fun K hK => ?_) AllReadyH.nil
              go_simp
              refine hK.out _ _ ⟨m15, x15⟩ (fun hHeld4 => ?_)
              clear hK K
              refine wpAnyH_ready (rs := [11]) (by kernel_rfl) (by simp) ?_
              refine AllReadyH.cons rfl (fun K hK => ?_) AllReadyH.nil
              go_simp
              have HPS6 := Lib.hid hps6
              refine hK.out _ _ ⟨HPS6.out.bm.cell, keep_set hbxne x15⟩ (fun hHeld5 => ?_)
              clear hK K
              refine wpAnyH_done (by kernel_rfl) ?_ _
              refine ⟨rfl, ?_⟩
              obtain ⟨W6, hW6⟩ : ∃ W6, w5.setCell ⟨g, 2, none⟩ (.slice (some ⟨g1, 0, none⟩) (pre.length + 1) cap1) = W6 := ⟨_, rfl⟩
              rw [hW6] at HPS6
              rw [hW6]
              clear hW6 hHeld hHeld2 hHeld3 hHeld4 hHeld5 hps6 hm5 hb5 hown5 hgrow5 hor5 hlt5 x15 e2' f2' m15 m1 x11 c2 KA d2 hrow' hsz' hbs' hb1 hb2
              have hg6 := HPS6.out.bg.cell
              have hgf6 := HPS6.out.bg.frozen
              gi_wp2
              exact (HPS6.out.setG hgl true).exit (.inl ⟨rfl, 2 + 2 * pre.length, by push_cast; omega, by rw [HQ.out, List.map_append]; rfl⟩)
        · have hy3 := hy'
          rcases bool_or (p.1.f0 == 1) with hk' | hk'
          · have HN := Lib.hid (HAT.out.bad HCAN.out HND.out (fun h => by rw [h.1] at hk'; simp at hk'))
            gi_wp2
            exact HPS1.out.exit (.inr ⟨rfl, HN.out⟩)
          · rcases dec_text p.2 [44] with hy2 | hy2
            · have HP2 := Lib.hid (HAT.out.more HCAN.out (by simpa using hk') (by rw [← toList_bl]; exact beq_iff_eq.1 hy2))
              gi_wp2
              obtain ⟨W1, hW1⟩ : ∃ W1, W.setCell ⟨w.heap.size + 1, 0, none⟩ (.int .i64 (2 * (pre.length : Int) + 2)) = W1 := ⟨_, rfl⟩
              rw [hW1] at HPS1
              rw [hW1]
              have x11 : W1.cell? ⟨Bx, 1, none⟩ = some (.string p.1.f1) := by rw [← hW1]; exact keep_set hbn1 x1
              have m1 := HPS1.out.bm.cell
              have c2 := HPS1.out.mac.c2
              have HBXC := Lib.hid (show W1.heap[Bx]? = some (.cells #[.int .i64 p.1.f0, .string p.1.f1, .string p.1.f2, .int .i64 p.1.f3, .bool p.1.f4, .bool p.1.f5] 62 (0, 0)) by rw [← hW1]; exact (Below.heap_setCell _ ⟨w.heap.size + 1, 0, none⟩ _ _ (by simpa using hbn1)).trans HBXX.out)
              clear hW1 x0 x1 hn0 hnf hg0 hgf hm0 hm2 hm3 hmf2 hmf3
              have hW1s : Bx < W1.heap.size := World.block_lt_of_cell? _ _ x11
              have KA : ∀ o, (W1.drew.alloc o).cell? ⟨w.heap.size, 0, none⟩ = some (.pointer (some ⟨g, 0, none⟩)) ∧ (W1.drew.alloc o).cell? ⟨Bx, 1, none⟩ = some (.string p.1.f1) := fun o => ⟨oldC o m1, oldC o x11⟩
              have d2 : ∀ o, (W1.alloc o).cell? ⟨g, 2, none⟩ = some (.slice A' pre.length cap) := fun o => oldC o c2
              have hrow' : ∀ o, World.ownsRow (W1.alloc o).drew w.heap.size 9 1 (.slice A' pre.length cap) pre.length ((pre.map (·.1.f1)).map Value.string) := fun o => by
                have := HPS1.out.row
                unfold StrRow at this
                rw [List.length_map] at this
                exact World.ownsRow.alloc this o
              have hsz' : ∀ o, (W1.alloc o).drew.heap.size = W1.heap.size + 1 := fun o => by simp
              have hbs' : ∀ o, w.heap.size ≤ (W1.alloc o).drew.heap.size := fun o => by rw [hsz']; have := HPS1.out.grown.size; omega
              have hb1 : pre.length + 1 ≤ maxLen := by simp only [maxLen]; omega
              have hb2 : (pre.length + 1) * 16 ≤ 140737488355328 := by omega
              refine InRound.wpIn_region_held (r := some l) (S := fun w' => w'.cell? ⟨w.heap.size, 0, none⟩ = some (.pointer (some ⟨g, 0, none⟩)) ∧ w'.cell? ⟨Bx, 1, none⟩ = some (.string p.1.f1)) (by kernel_rfl) (by kernel_rfl) ⟨m1, x11⟩ (fun hHeld => ?_)
              refine wpAnyH_take (i := 0) (v := .pointer (some ⟨g, 0, none⟩)) rfl (by kernel_rfl) (by kernel_rfl) (by kernel_rfl) InRound.end_panic (Or.inl ⟨by rfl, ?h0⟩) hHeld ?_
              case h0 => (intro w hSw; (try dsimp only at hSw); go_simp)
              try simp only [Act.put, List.setIfInBounds_toArray, List.set_cons_zero, List.set_cons_succ]
              refine wpAnyH_take (i := 1) (v := .pointer (some ⟨g, 0, none⟩)) rfl (by kernel_rfl) (by kernel_rfl) (by kernel_rfl) InRound.end_panic (Or.inl ⟨by rfl, ?h1⟩) hHeld ?_
              case h1 => (intro w hSw; (try dsimp only at hSw); go_simp)
              try simp only [Act.put, List.setIfInBounds_toArray, List.set_cons_zero, List.set_cons_succ]
              refine wpAnyH_take (i := 2) (v := .pointer (some ⟨g, 0, none⟩)) rfl (by kernel_rfl) (by kernel_rfl) (by kernel_rfl) InRound.end_panic (Or.inl ⟨by rfl, ?h2⟩) hHeld ?_
              case h2 => (intro w hSw; (try dsimp only at hSw); go_simp)
              try simp only [Act.put, List.setIfInBounds_toArray, List.set_cons_zero, List.set_cons_succ]
              refine wpAnyH_take (i := 3) (v := .pointer (some ⟨g, 2, none⟩)) rfl (by kernel_rfl) (by kernel_rfl) (by kernel_rfl) InRound.end_panic (Or.inl ⟨by rfl, ?h3⟩) hHeld ?_
              case h3 => (intro w hSw; (try dsimp only at hSw); go_simp)
              try simp only [Act.put, List.setIfInBounds_toArray, List.set_cons_zero, List.set_cons_succ]
              refine wpAnyH_take (i := 5) (v := .pointer (some ⟨Bx, 1, none⟩)) rfl (by kernel_rfl) (by kernel_rfl) (by kernel_rfl) InRound.end_panic (Or.inl ⟨by rfl, ?h5⟩) hHeld ?_
              case h5 => (intro w hSw; (try dsimp only at hSw); go_simp)
              try simp only [Act.put, List.setIfInBounds_toArray, List.set_cons_zero, List.set_cons_succ]
              refine wpAnyH_take (i := 6) (v := .string p.1.f1) rfl (by kernel_rfl) (by kernel_rfl) (by kernel_rfl) InRound.end_panic (Or.inl ⟨by rfl, ?h6⟩) hHeld ?_
              case h6 => (intro w hSw; (try dsimp only at hSw); go_simp)
              try simp only [Act.put, List.setIfInBounds_toArray, List.set_cons_zero, List.set_cons_succ]
              refine wpAnyH_ready (rs := [4, 7]) (by kernel_rfl) (by simp) ?_
              refine AllReadyH.cons rfl (fun K hK => ?_) (AllReadyH.cons rfl (fun K hK => ?_) AllReadyH.nil)
              · go_simp
                refine hK.out _ _ hHeld (fun hHeld2 => ?_)
                clear hK K
                refine wpAnyH_ready (rs := [7]) (by kernel_rfl) (by simp) ?_
                refine AllReadyH.cons rfl (fun K hK => ?_) AllReadyH.nil
                go_simp
                refine hK.out _ _ (KA _) (fun hHeld3 => ?_)
                clear hK K
                refine wpAnyH_ready (rs := [8]) (by kernel_rfl) (by simp) ?_
                refine AllReadyH.cons rfl (fun K hK => ?_) AllReadyH.nil
                refine step_append_lies _ rfl (.tmp 52) (.tmp 55) 44 rfl w.heap.size 9 i0 _ 1 16 Tryd.underlying44 hi hz0 hz1 hz2 rfl (by decide) (.slice A' pre.length cap) pre.length ((pre.map (·.1.f1)).map Value.string) rfl (hrow' _) ⟨W1.heap.size, 0, none⟩ 1 1 [.string p.1.f1] rfl rfl (cell_new1 W1 _ _) (by simp [Value.oneCell']) (Nat.le_refl 1) hb1 hb2 (hbs' _) (W1.heap.size + 1) (hsz' _) ?_
                intro g1 cap1 w5 hown5 hgrow5 hor5 hlt5
                obtain ⟨⟨hm5, hb5⟩, hps6⟩ := HPS1.out.app (x := p.1.f1) hgl (by rw [List.length_map]) (by exact hown5) hgrow5
                have x15 : w5.cell? ⟨Bx, 1, none⟩ = some (.string p.1.f1) := by
                  have hbxo : some Bx ≠ (Value.slice A' pre.length cap).ownBlock := fun e => by
                    obtain ⟨_, cs, hcs⟩ := HPS1.out.row.block Bx e.symm
                    have h1 := HBXC.out
                    rw [hcs] at h1; injection h1 with h1; injection h1 with _ h2; exact absurd h2 (by decide)
                  refine (World.cell?_of_block ((hgrow5.block Bx (by simp; omega) hbxo).trans (Below.heap_alloc W1 _ Bx hW1s))).trans x11
                have e2' := hm5.c2
                have f2' := hm5.fz 2
                have m15 := hb5.cell
                refine hK.out _ _ ⟨m15, x15⟩ (fun hHeld4 => ?_)
                clear hK K
                refine wpAnyH_ready (rs := [9]) (by kernel_rfl) (by simp) ?_
                refine AllReadyH.cons rfl (fun K hK => ?_) AllReadyH.nil
                go_simp
                refine hK.out _ _ ⟨m15, x15⟩ (fun hHeld4 => ?_)
                clear hK K
                refine wpAnyH_ready (rs := [10]) (by kernel_rfl) (by simp) ?_
                refine AllReadyH.cons rfl (fun K hK => ?_) AllReadyH.nil
                go_simp
                refine hK.out _ _ ⟨m15, x15⟩ (fun hHeld4 => ?_)
                clear hK K
                refine wpAnyH_ready (rs := [11]) (by kernel_rfl) (by simp) ?_
                refine AllReadyH.cons rfl (fun K hK => ?_) AllReadyH.nil
                go_simp
                have HPS6 := Lib.hid hps6
                refine hK.out _ _ ⟨HPS6.out.bm.cell, keep_set hbxne x15⟩ (fun hHeld5 => ?_)
                clear hK K
                refine wpAnyH_done (by kernel_rfl) ?_ _
                refine ⟨rfl, ?_⟩
                obtain ⟨W6, hW6⟩ : ∃ W6, w5.setCell ⟨g, 2, none⟩ (.slice (some ⟨g1, 0, none⟩) (pre.length + 1) cap1) = W6 := ⟨_, rfl⟩
                rw [hW6] at HPS6
                rw [hW6]
                clear hW6 hHeld hHeld2 hHeld3 hHeld4 hHeld5 hps6 hm5 hb5 hown5 hgrow5 hor5 hlt5 x15 e2' f2' m15 m1 x11 c2 KA d2 hrow' hsz' hbs' hb1 hb2
                have hg6 := HPS6.out.bg.cell
                have hgf6 := HPS6.out.bg.frozen
                gi_wp2
                exact HPS6.out.go HP2.out hpl2
              · go_simp
                refine hK.out _ _ (KA _) (fun hHeld2 => ?_)
                clear hK K
                refine wpAnyH_ready (rs := [4]) (by kernel_rfl) (by simp) ?_
                refine AllReadyH.cons rfl (fun K hK => ?_) AllReadyH.nil
                go_simp
                refine hK.out _ _ (KA _) (fun hHeld3 => ?_)
                clear hK K
                refine wpAnyH_ready (rs := [8]) (by kernel_rfl) (by simp) ?_
                refine AllReadyH.cons rfl (fun K hK => ?_) AllReadyH.nil
                refine step_append_lies _ rfl (.tmp 52) (.tmp 55) 44 rfl w.heap.size 9 i0 _ 1 16 Tryd.underlying44 hi hz0 hz1 hz2 rfl (by decide) (.slice A' pre.length cap) pre.length ((pre.map (·.1.f1)).map Value.string) rfl (hrow' _) ⟨W1.heap.size, 0, none⟩ 1 1 [.string p.1.f1] rfl rfl (cell_new1 W1 _ _) (by simp [Value.oneCell']) (Nat.le_refl 1) hb1 hb2 (hbs' _) (W1.heap.size + 1) (hsz' _) ?_
                intro g1 cap1 w5 hown5 hgrow5 hor5 hlt5
                obtain ⟨⟨hm5, hb5⟩, hps6⟩ := HPS1.out.app (x := p.1.f1) hgl (by rw [List.length_map]) (by exact hown5) hgrow5
                have x15 : w5.cell? ⟨Bx, 1, none⟩ = some (.string p.1.f1) := by
                  have hbxo : some Bx ≠ (Value.slice A' pre.length cap).ownBlock := fun e => by
                    obtain ⟨_, cs, hcs⟩ := HPS1.out.row.block Bx e.symm
                    have h1 := HBXC.out
                    rw [hcs] at h1; injection h1 with h1; injection h1 with _ h2; exact absurd h2 (by decide)
                  refine (World.cell?_of_block ((hgrow5.block Bx (by simp; omega) hbxo).trans (Below.heap_alloc W1 _ Bx hW1s))).trans x11
                have e2' := hm5.c2
                have f2' := hm5.fz 2
                have m15 := hb5.cell
                refine hK.out _ _ ⟨m15, x15⟩ (fun hHeld4 => ?_)
                clear hK K
                refine wpAnyH_ready (rs := [9]) (by kernel_rfl) (by simp) ?_
                refine AllReadyH.cons rfl (fun K hK => ?_) AllReadyH.nil
                go_simp
                refine hK.out _ _ ⟨m15, x15⟩ (fun hHeld4 => ?_)
                clear hK K
                refine wpAnyH_ready (rs := [10]) (by kernel_rfl) (by simp) ?_
                refine AllReadyH.cons rfl (fun K hK => ?_) AllReadyH.nil
                go_simp
                refine hK.out _ _ ⟨m15, x15⟩ (fun hHeld4 => ?_)
                clear hK K
                refine wpAnyH_ready (rs := [11]) (by kernel_rfl) (by simp) ?_
                refine AllReadyH.cons rfl (fun K hK => ?_) AllReadyH.nil
                go_simp
                have HPS6 := Lib.hid hps6
                refine hK.out _ _ ⟨HPS6.out.bm.cell, keep_set hbxne x15⟩ (fun hHeld5 => ?_)
                clear hK K
                refine wpAnyH_done (by kernel_rfl) ?_ _
                refine ⟨rfl, ?_⟩
                obtain ⟨W6, hW6⟩ : ∃ W6, w5.setCell ⟨g, 2, none⟩ (.slice (some ⟨g1, 0, none⟩) (pre.length + 1) cap1) = W6 := ⟨_, rfl⟩
                rw [hW6] at HPS6
                rw [hW6]
                clear hW6 hHeld hHeld2 hHeld3 hHeld4 hHeld5 hps6 hm5 hb5 hown5 hgrow5 hor5 hlt5 x15 e2' f2' m15 m1 x11 c2 KA d2 hrow' hsz' hbs' hb1 hb2
                have hg6 := HPS6.out.bg.cell
                have hgf6 := HPS6.out.bg.frozen
                gi_wp2
                exact HPS6.out.go HP2.out hpl2
            · have HN := Lib.hid (HAT.out.bad HCAN.out HND.out (fun h => by
                rcases h.2 with h | h
                · rw [toList_bl, h] at hy'; simp at hy'
                · rw [toList_bl, h] at hy2; simp at hy2))
              gi_wp2
              exact HPS1.out.exit (.inr ⟨rfl, HN.out⟩)
    case done =>
      rintro D ps W hD hps hI hK
      rw [hps] at hI
      exact hI.at_.never.elim
    case stop =>
      rintro D cd pre W hD _ ⟨rfl, hX, _⟩ hK
      obtain ⟨v', ps, more, k, gd, h1, h2, h3, h4, h5⟩ := hX.out
      have hc3 := h3.cell
      have hc4 := h4.cell
      have hMB : MBox (W.putObj D (.deferred none)) g nm fn v' more vb := (World.putObj_heap_other (by omega)).trans h1
      rcases h5 with ⟨rfl, kn, rfl, hp⟩ | ⟨rfl, hp⟩
      · gi_wp2
        refine ⟨by simp, .inl ⟨_, _, rfl, run_takeDeferred hK, ?_⟩⟩
        refine ⟨.int .i64 (kn : Int), by simp [results, Tryd.f55, go_sem], (kn : Int), v', ps, more, rfl, hMB, ownsRow_putObj h2 _ hK rfl, grown_putObj hX.grown (by omega) hK, (fun h => by rw [HP.out, hp] at h; cases h), fun q hq => ?_⟩
        rw [HP.out, hp] at hq
        cases hq
        exact ⟨rfl, rfl, rfl⟩
      · gi_wp2
        refine ⟨by simp, .inl ⟨_, _, rfl, run_takeDeferred hK, ?_⟩⟩
        exact ⟨.int .i64 (-1), by simp [results, Tryd.f55, go_sem], -1, v', ps, more, rfl, hMB, ownsRow_putObj h2 _ hK rfl, grown_putObj hX.grown (by omega) hK, (fun _ => by omega), fun q hq => by rw [HP.out, hp] at hq; cases hq⟩
  · have hC : Kd.C k62 w A xs.length xs := by
      obtain ⟨A', c', hA', hc', hr'⟩ := HX.out
      injection hA' with h1 _ _
      rw [h1]; exact hr'
    obtain ⟨ad0, x0, hA0, hx0, p0, p1, p2, p3, p4, p5⟩ := tok_cells hC (by omega : 0 < xs.length)
    cases hA0
    have r0 : ∀ o, (w.alloc o).cell? ad0 = some (.int .i64 x0.f0) := fun o => oldC o (by simpa [Addr.add] using p0)
    have r1 : ∀ o, (w.alloc o).cell? ⟨ad0.block, ad0.off + 1, none⟩ = some (.string x0.f1) := fun o => oldC o (by simpa [Addr.add] using p1)
    have h0' : 0 < xs.length := by omega
    have h0'' : decide (0 < xs.length) = true := decide_eq_true h0'
    have hcons : ∃ t r, xs = t :: r ∧ t = x0 := by
      cases hxs : xs with
      | nil => rw [hxs] at h0'; simp at h0'
      | cons t r => exact ⟨t, r, rfl, by rw [hxs] at hx0; exact hx0⟩
    have HC0 := Lib.hid hcons
    clear p0 p1 p2 p3 p4 p5 hx0 hC h0 hcons
    rcases dec_text x0.f1 [41] with s0 | s0
    · have HP := Lib.hid (show parL xs = some ([], false, 1) by obtain ⟨t, r, e1, e2⟩ := HC0.out; rw [e1, e2]; exact parL_shut (by rw [← toList_bl]; exact beq_iff_eq.1 s0))
      gi_wp2_with (fail)
      refine inScope rfl ?_
      gi_wp2
      rw [Exit.noGoto_ret]
      have hBa := (Below.refl w.heap.size w).alloc (Nat.le_refl _) (.cells #[.pointer (some ⟨g, 0, none⟩)] 117)
      show bodyPostM _ _ _ _ _ _ _ _
      refine ⟨.int .i64 1, by simp [results, Tryd.f55, go_sem], 1, _, [], false, rfl, HG.out.below hBa, StrRow.nil _ _, ⟨hBa.os, hBa.tape, hBa.output, hBa.size, fun k hk _ => hBa.block k hk⟩, (fun h => by rw [HP.out] at h; cases h), fun q hq => ?_⟩
      rw [HP.out] at hq
      cases hq
      exact ⟨rfl, rfl, rfl⟩
    · have HP := Lib.hid (show parL xs = parGo xs [] by obtain ⟨t, r, e1, e2⟩ := HC0.out; rw [e1, e2]; exact parL_open (by rw [← toList_bl]; intro h; rw [h] at s0; simp at s0))
      gi_wp2_with (fail)
      refine inScope rfl ?_
      gi_wp2_with (fail)
      refine wpIn_label ?_
      gi_wp2_with (fail)
      clear s0 r0 r1
      refine callW ((listed_any _ xs.length c _).mono ?_)
      rintro e w1 ⟨rfl, rfl⟩
      gi_wp2_with (fail)
      obtain ⟨W0, hW0⟩ : ∃ W0, (((w.alloc (.cells #[.pointer (some ⟨g, 0, none⟩)] 117)).alloc (.cells #[.int .i64 0] 3)).alloc (.cells #[.bool false] 4)).alloc (.cells #[.slice (some ad0) xs.length c] 38) = W0 := ⟨_, rfl⟩
      have hsz : W0.heap.size = w.heap.size + 4 := by rw [← hW0]; simp
      have hB0 : Below w.heap.size w W0 := by rw [← hW0]; exact ((((Below.refl _ w).alloc (Nat.le_refl _) _).alloc (by simp) _).alloc (by simp; omega) _).alloc (by simp; omega) _
      have HL0 : ParI w g nm fn vb xs [] W0 := by
        refine ⟨⟨_, HG.out.below hB0, StrRow.nil _ _⟩, ?_, ?_, ?_, ⟨.slice (some ad0) xs.length c, ?_⟩, PAt.start xs, by simp, ⟨hB0.os, hB0.tape, hB0.output, hB0.size, fun k hk _ => hB0.block k hk⟩⟩
        · rw [← hW0]; exact hold_old (hold_old (hold_old (hold_new rfl)))
        · rw [← hW0]; exact hold_old (hold_old (hold_new (by simp)))
        · rw [← hW0]; exact hold_old (hold_new (by simp))
        · rw [← hW0]; exact hold_new (by simp)
      have hbx0 : W0.heap[w.heap.size + 3]? = some (.cells #[.slice (some ad0) xs.length c] 38 (0, 0)) := by rw [← hW0]; exact hold_new (by simp)
      have htk0 : TokIn w.heap.size g W0 (.slice (some ad0) xs.length c) xs := (TokIn.of HX.out (HG.out.noInt (by simp) HVB.out)).turn (fun b h1 _ => hB0.block b h1)
      rw [hW0]
      clear hW0
      refine Rng.wpIn_rangeS (α := S62 × ByteArray) rfl (by omega) (gf := 172) (lb := #[.pointer (some ⟨w.heap.size + 3, 0, none⟩)]) rfl trivial (enters_of Tryd.func172 (by kernel_rfl) rfl)
        (encs := fun p => #[tokV p.1, .string p.2]) (St := fun U V => U.grownBy V (some (w.heap.size + 3)) ∧ HasBox (w.heap.size + 3) V) (Kp := KeepP (w.heap.size + 3) w.heap.size g) (Can := fun pre p => (pairsL xs)[pre.length]? = some p) (Cont := fun _ => True) (S := fun ps _ => ps = pairsL xs) (Sp := fun _ _ => True)
        ?seq (fun U V h => KeepsFrom.of_grownBy h.1 (fun j e => by injection e with e; omega)) ?kt ?kb (fun _ => rfl) (fun _ _ _ _ h _ _ => h) (fun _ _ _ _ _ _ _ => trivial)
        (ParI w g nm fn vb xs) (fun cd _ W => cd = .exit 0 ∧ ParX w g nm fn vb xs W ∧ HasBox (w.heap.size + 3) W) (ParI.own w g nm fn vb xs hgl (by omega)) ?ownx (fun s U V h k => h.st hgl k) ?xst HL0
        (fun p a' W => ∃ Bx, W0.heap.size ≤ Bx ∧ W.heap[Bx]? = some (.cells #[.int .i64 p.1.f0, .string p.1.f1, .string p.1.f2, .int .i64 p.1.f3, .bool p.1.f4, .bool p.1.f5] 62 (0, 0)) ∧ a' = { tmps := #[.pointer (some ⟨g, 0, none⟩), .slice (some ad0) xs.length c, .pointer (some ⟨w.heap.size, 0, none⟩), undef, .int .i64 0, .pointer (some ⟨w.heap.size + 1, 0, none⟩), .pointer (some ⟨w.heap.size + 1 + 1, 0, none⟩), .pointer (some ⟨Bx, 0, none⟩), .string p.2, .slice (some ad0) xs.length c, .int .i64 (xs.length : Int), .bool true, .bool true, .slice (some ad0) xs.length c, .pointer (some ad0), .pointer (some ⟨ad0.block, ad0.off + 1, none⟩), .string x0.f1, .bool false, .bool false, .slice (some ad0) xs.length c, .func (.func 172) #[] #[.pointer (some ⟨w.heap.size + 1 + 1 + 1, 0, none⟩)], tokV p.1, .string p.2, undef, undef, undef, undef, undef, undef, undef, undef, undef, undef, undef, undef, undef, undef, undef, undef, undef, undef, undef, undef, undef, undef, undef, undef, undef, undef, undef, undef, undef, undef, undef, undef, undef, undef, undef, undef, undef, undef, undef, undef, undef], defers := [] })
        ?ownax ?assign ?body ?done ?stop
      case seq =>
        intro l J Jx W hl hbl hJs hJxs hY hJ0
        refine listed1_in (n - 1) l (w.heap.size + 3) w.heap.size g xs (by omega) J Jx (fun s U V h1 h2 h3 => hJs s U V h1 ⟨h2, h3⟩) ?_ (by omega) W _ (htk0.turn (fun b h1 _ => hbl.block b (by omega))) ((hbl.block _ (by omega)).trans hbx0) hJ0
        intro pre p W1 h1 h2
        obtain ⟨fn', tmps, assign, body, hy, hR⟩ := hY pre p W1 h1 h2
        refine ⟨fn', tmps, assign, body, hy, hR.mono ?_⟩
        rintro e W' (⟨h3, h4, h5, _⟩ | ⟨h3, h4, _⟩)
        · exact .inl ⟨h3, h4, h5⟩
        · exact .inr ⟨h3, h4⟩
      case kt => exact fun h1 h2 => ⟨h2.1.trans h1.1, fun b hb hne => (h2.2 b hb hne).trans (h1.2 b hb hne)⟩
      case kb =>
        intro W l o o' hl _ _ _
        exact ⟨World.putObj_heap_other (by omega), fun b hb _ => World.putObj_heap_other (by omega)⟩
      case ownx =>
        rintro cd pre W W' row ⟨h0, h1, u, h2⟩ hg hr
        have hne : some (w.heap.size + 3) ≠ row := fun e => by
          obtain ⟨o, ho, hc⟩ := (hr _ e.symm).2
          rw [h2] at ho; cases ho; cases hc
        exact ⟨h0, h1.kept hgl hg (fun r e => ⟨by have := (hr r e).1; omega, .inl (hr r e).2⟩), u, kept_at hg h2 hne⟩
      case xst =>
        rintro cd s U V ⟨h0, h1, h2⟩ ⟨hg, hs⟩
        exact ⟨h0, h1.kept hgl hg (fun r e => ⟨by injection e with e; omega, .inr ⟨by injection e with e; exact e.symm, hs, h2⟩⟩), hs⟩
      case ownax =>
        rintro p a' _ W W' row ⟨Bx, h1, h2, h3⟩ hg hr
        refine ⟨Bx, h1, kept_at hg h2 (fun e => ?_), h3⟩
        obtain ⟨o, ho, hc⟩ := (hr _ e.symm).2
        rw [h2] at ho; cases ho; cases hc
      case assign =>
        intro l pre p W K hI hcan hK
        have hW := (Array.getElem?_eq_some_iff.1 hI.bm).1
        have hgs := hI.grown.size
        obtain ⟨u, hu⟩ := hI.bx
        have hW3 := (Array.getElem?_eq_some_iff.1 hu).1
        clear hcan hu
        dsimp only [tokV] at hK ⊢
        gi_wp2
        have hGa : W.grownBy (W.alloc (.cells #[.int .i64 p.1.f0, .string p.1.f1, .string p.1.f2, .int .i64 p.1.f3, .bool p.1.f4, .bool p.1.f5] 62)) none := World.grownBy_alloc _ _ none
        exact hK _ _ ((KeepsOthers.alloc _ _).from _) ⟨Below.heap_alloc _ _ _ hW3, fun b hb _ => Below.heap_alloc _ _ _ (by omega)⟩ (hI.kept hgl hGa (fun r e => by cases e)) ⟨W.heap.size, by omega, World.alloc_heap_new _ _, rfl⟩
      case body =>
        rintro l pre p a' W hl hI ⟨Bx, hBx, hbx, rfl⟩ hcan
        obtain ⟨v', hmb, hsr⟩ := hI.mac
        obtain ⟨A', cap, hv'⟩ := hsr.slice
        rw [List.length_map] at hv'
        subst hv'
        have HPS := Lib.hid (hI.start hmb hsr)
        have HAT := Lib.hid hI.at_
        have HBXX := Lib.hid hbx
        have HCAN := Lib.hid hcan
        have hpl := hI.len
        have hpl2 : (pre ++ [p]).length ≤ xs.length + 1 := by
          have h1 := (List.getElem?_eq_some_iff.1 hcan).1
          have h2 := pairs_len xs
          rw [List.length_append, List.length_singleton]; omega
        have hbxne : Bx ≠ g := by omega
        have x0 : W.cell? ⟨Bx, 0, none⟩ = some (.int .i64 p.1.f0) := by simp [World.cell?, hbx]
        have x1 : W.cell? ⟨Bx, 1, none⟩ = some (.string p.1.f1) := by simp [World.cell?, hbx]
        have hW := (Array.getElem?_eq_some_iff.1 hbx).1
        have hn0 := HPS.out.bn.cell
        have hnf := HPS.out.bn.frozen
        have hg0 := HPS.out.bg.cell
        have hgf := HPS.out.bg.frozen
        have hm0 := HPS.out.bm.cell
        have hm2 := HPS.out.mac.c2
        have hm3 := HPS.out.mac.c3
        have hmf2 := HPS.out.mac.fz 2
        have hmf3 := HPS.out.mac.fz 3
        have hbn1 : Bx ≠ w.heap.size + 1 := by omega
        have hgn1 : g ≠ w.heap.size + 1 := by omega
        have hgn2 : g ≠ w.heap.size + 2 := by omega
        have HPS1 := Lib.hid (HPS.out.setN hgl (2 * (pre.length : Int) + 2))
        clear hI hmb hsr hcan hbx
        rcases dec_text p.1.f1 [46, 46, 46] with hd' | hd'
        · rcases dec_text p.2 [41] with hy' | hy'
          · have HQ := Lib.hid (HAT.out.dots HCAN.out (by rw [← toList_bl]; exact beq_iff_eq.1 hd') (by rw [← toList_bl]; exact beq_iff_eq.1 hy'))
            gi_wp2
            exact ((HPS1.out.setM hgl true).setG hgl true).exit (.inl ⟨rfl, 2 + 2 * pre.length, by push_cast; omega, HQ.out⟩)
          · have HND := Lib.hid (show ¬ (bl p.1.f1 = dotsL ∧ bl p.2 = [41]) from fun h => by rw [toList_bl, h.2] at hy'; simp at hy')
            rcases bool_or (p.1.f0 == 1) with hk' | hk'
            · have HN := Lib.hid (HAT.out.bad HCAN.out HND.out (fun h => by rw [h.1] at hk'; simp at hk'))
              gi_wp2
              exact HPS1.out.exit (.inr ⟨rfl, HN.out⟩)
            · rcases dec_text p.2 [44] with hy2 | hy2
              · have HP2 := Lib.hid (HAT.out.more HCAN.out (by simpa using hk') (by rw [← toList_bl]; exact beq_iff_eq.1 hy2))
                gi_wp2
                obtain ⟨W1, hW1⟩ : ∃ W1, W.setCell ⟨w.heap.size + 1, 0, none⟩ (.int .i64 (2 * (pre.length : Int) + 2)) = W1 := ⟨_, rfl⟩
                rw [hW1] at HPS1
                rw [hW1]
                have x11 : W1.cell? ⟨Bx, 1, none⟩ = some (.string p.1.f1) := by rw [← hW1]; exact keep_set hbn1 x1
                have m1 := HPS1.out.bm.cell
                have c2 := HPS1.out.mac.c2
                have HBXC := Lib.hid (show W1.heap[Bx]? = some (.cells #[.int .i64 p.1.f0, .string p.1.f1, .string p.1.f2, .int .i64 p.1.f3, .bool p.1.f4, .bool p.1.f5] 62 (0, 0)) by rw [← hW1]; exact (Below.heap_setCell _ ⟨w.heap.size + 1, 0, none⟩ _ _ (by simpa using hbn1)).trans HBXX.out)
                clear hW1 x0 x1 hn0 hnf hg0 hgf hm0 hm2 hm3 hmf2 hmf3
                have hW1s : Bx < W1.heap.size := World.block_lt_of_cell? _ _ x11
                have KA : ∀ o, (W1.drew.alloc o).cell? ⟨w.heap.size, 0, none⟩ = some (.pointer (some ⟨g, 0, none⟩)) ∧ (W1.drew.alloc o).cell? ⟨Bx, 1, none⟩ = some (.string p.1.f1) := fun o => ⟨oldC o m1, oldC o x11⟩
                have d2 : ∀ o, (W1.alloc o).cell? ⟨g, 2, none⟩ = some (.slice A' pre.length cap) := fun o => oldC o c2
                have hrow' : ∀ o, World.ownsRow (W1.alloc o).drew w.heap.size 9 1 (.slice A' pre.length cap) pre.length ((pre.map (·.1.f1)).map Value.string) := fun o => by
                  have := HPS1.out.row
                  unfold StrRow at this
                  rw [List.length_map] at this
                  exact World.ownsRow.alloc this o
                have hsz' : ∀ o, (W1.alloc o).drew.heap.size = W1.heap.size + 1 := fun o => by simp
                have hbs' : ∀ o, w.heap.size ≤ (W1.alloc o).drew.heap.size := fun o => by rw [hsz']; have := HPS1.out.grown.size; omega
                have hb1 : pre.length + 1 ≤ maxLen := by simp only [maxLen]; omega
                have hb2 : (pre.length + 1) * 16 ≤ 140737488355328 := by omega
                refine InRound.wpIn_region_held (r := some l) (S := fun w' => w'.cell? ⟨w.heap.size, 0, none⟩ = some (.pointer (some ⟨g, 0, none⟩)) ∧ w'.cell? ⟨Bx, 1, none⟩ = some (.string p.1.f1)) (by kernel_rfl) (by kernel_rfl) ⟨m1, x11⟩ (fun hHeld => ?_)
                refine wpAnyH_take (i := 0) (v := .pointer (some ⟨g, 0, none⟩)) rfl (by kernel_rfl) (by kernel_rfl) (by kernel_rfl) InRound.end_panic (Or.inl ⟨by rfl, ?h0⟩) hHeld ?_
                case h0 => (intro w hSw; (try dsimp only at hSw); go_simp)
                try simp only [Act.put, List.setIfInBounds_toArray, List.set_cons_zero, List.set_cons_succ]
                refine wpAnyH_take (i := 1) (v := .pointer (some ⟨g, 0, none⟩)) rfl (by kernel_rfl) (by kernel_rfl) (by kernel_rfl) InRound.end_panic (Or.inl ⟨by rfl, ?h1⟩) hHeld ?_
                case h1 => (intro w hSw; (try dsimp only at hSw); go_simp)
                try simp only [Act.put, List.setIfInBounds_toArray, List.set_cons_zero, List.set_cons_succ]
                refine wpAnyH_take (i := 2) (v := .pointer (some ⟨g, 0, none⟩)) rfl (by kernel_rfl) (by kernel_rfl) (by kernel_rfl) InRound.end_panic (Or.inl ⟨by rfl, ?h2⟩) hHeld ?_
                case h2 => (intro w hSw; (try dsimp only at hSw); go_simp)
                try simp only [Act.put, List.setIfInBounds_toArray, List.set_cons_zero, List.set_cons_succ]
                refine wpAnyH_take (i := 3) (v := .pointer (some ⟨g, 2, none⟩)) rfl (by kernel_rfl) (by kernel_rfl) (by kernel_rfl) InRound.end_panic (Or.inl ⟨by rfl, ?h3⟩) hHeld ?_
                case h3 => (intro w hSw; (try dsimp only at hSw); go_simp)
                try simp only [Act.put, List.setIfInBounds_toArray, List.set_cons_zero, List.set_cons_succ]
                refine wpAnyH_take (i := 5) (v := .pointer (some ⟨Bx, 1, none⟩)) rfl (by kernel_rfl) (by kernel_rfl) (by kernel_rfl) InRound.end_panic (Or.inl ⟨by rfl, ?h5⟩) hHeld ?_
                case h5 => (intro w hSw; (try dsimp only at hSw); go_simp)
                try simp only [Act.put, List.setIfInBounds_toArray, List.set_cons_zero, List.set_cons_succ]
                refine wpAnyH_take (i := 6) (v := .string p.1.f1) rfl (by kernel_rfl) (by kernel_rfl) (by kernel_rfl) InRound.end_panic (Or.inl ⟨by rfl, ?h6⟩) hHeld ?_
                case h6 => (intro w hSw; (try dsimp only at hSw); go_simp)
                try simp only [Act.put, List.setIfInBounds_toArray, List.set_cons_zero, List.set_cons_succ]
                refine wpAnyH_ready (rs := [4, 7]) (by kernel_rfl) (by simp) ?_
                refine AllReadyH.cons rfl (fun K hK => ?_) (AllReadyH.cons rfl (fun K hK => ?_) AllReadyH.nil)
                · go_simp
                  refine hK.out _ _ hHeld (fun hHeld2 => ?_)
                  clear hK K
                  refine wpAnyH_ready (rs := [7]) (by kernel_rfl) (by simp) ?_
                  refine AllReadyH.cons rfl (fun K hK => ?_) AllReadyH.nil
                  go_simp
                  refine hK.out _ _ (KA _) (fun hHeld3 => ?_)
                  clear hK K
                  refine wpAnyH_ready (rs := [8]) (by kernel_rfl) (by simp) ?_
                  refine AllReadyH.cons rfl (fun K hK => ?_) AllReadyH.nil
                  refine step_append_lies _ rfl (.tmp 52) (.tmp 55) 44 rfl w.heap.size 9 i0 _ 1 16 Tryd.underlying44 hi hz0 hz1 hz2 rfl (by decide) (.slice A' pre.length cap) pre.length ((pre.map (·.1.f1)).map Value.string) rfl (hrow' _) ⟨W1.heap.size, 0, none⟩ 1 1 [.string p.1.f1] rfl rfl (cell_new1 W1 _ _) (by simp [Value.oneCell']) (Nat.le_refl 1) hb1 hb2 (hbs' _) (W1.heap.size + 1) (hsz' _) ?_
                  intro g1 cap1 w5 hown5 hgrow5 hor5 hlt5
                  obtain ⟨⟨hm5, hb5⟩, hps6⟩ := HPS1.out.app (x := p.1.f1) hgl (by rw [List.length_map]) (by exact hown5) hgrow5
                  have x15 : w5.cell? ⟨Bx, 1, none⟩ = some (.string p.1.f1) := by
                    have hbxo : some Bx ≠ (Value.slice A' pre.length cap).ownBlock := fun e => by
                      obtain ⟨_, cs, hcs⟩ := HPS1.out.row.block Bx e.symm
                      have h1 := HBXC.out
                      rw [hcs] at h1; injection h1 with h1; injection h1 with _ h2; exact absurd h2 (by decide)
                    refine (World.cell?_of_block ((hgrow5.block Bx (by simp; omega) hbxo).trans (Below.heap_alloc W1 _ Bx hW1s))).trans x11
                  have e2' := hm5.c2
                  have f2' := hm5.fz 2
                  have m15 := hb5.cell
                  refine hK.out _ _ ⟨m15, x15⟩ (fun hHeld4 => ?_)
                  clear hK K
                  refine wpAnyH_ready (rs := [9]) (by kernel_rfl) (by simp) ?_
                  refine AllReadyH.cons rfl (fun K hK => ?_) AllReadyH.nil
                  go_simp
                  refine hK.out _ _ ⟨m15, x15⟩ (fun hHeld4 => ?_)
                  clear hK K
                  refine wpAnyH_ready (rs := [10]) (by kernel_rfl) (by simp) ?_
                  refine AllReadyH.cons rfl (fun K hK => ?_) AllReadyH.nil
                  go_simp
                  refine hK.out _ _ ⟨m15, x15⟩ (fun hHeld4 => ?_)
                  clear hK K
                  refine wpAnyH_ready (rs := [11]) (by kernel_rfl) (by simp) ?_
                  refine AllReadyH.cons rfl (fun K hK => ?_) AllReadyH.nil
                  go_simp
                  have HPS6 := Lib.hid hps6
                  refine hK.out _ _ ⟨HPS6.out.bm.cell, keep_set hbxne x15⟩ (fun hHeld5 => ?_)
                  clear hK K
                  refine wpAnyH_done (by kernel_rfl) ?_ _
                  refine ⟨rfl, ?_⟩
                  obtain ⟨W6, hW6⟩ : ∃ W6, w5.setCell ⟨g, 2, none⟩ (.slice (some ⟨g1, 0, none⟩) (pre.length + 1) cap1) = W6 := ⟨_, rfl⟩
                  rw [hW6] at HPS6
                  rw [hW6]
                  clear hW6 hHeld hHeld2 hHeld3 hHeld4 hHeld5 hps6 hm5 hb5 hown5 hgrow5 hor5 hlt5 x15 e2' f2' m15 m1 x11 c2 KA d2 hrow' hsz' hbs' hb1 hb2
                  have hg6 := HPS6.out.bg.cell
                  have hgf6 := HPS6.out.bg.frozen
                  gi_wp2
                  exact HPS6.out.go HP2.out hpl2
                · go_simp
                  refine hK.out _ _ (KA _) (fun hHeld2 => ?_)
                  clear hK K
                  refine wpAnyH_ready (rs := [4]) (by kernel_rfl) (by simp) ?_
                  refine AllReadyH.cons rfl (fun K hK => ?_) AllReadyH.nil
                  go_simp
                  refine hK.out _ _ (KA _) (fun hHeld3 => ?_)
                  clear hK K
                  refine wpAnyH_ready (rs := [8]) (by kernel_rfl) (by simp) ?_
                  refine AllReadyH.cons rfl (fun K hK => ?_) AllReadyH.nil
                  refine step_append_lies _ rfl (.tmp 52) (.tmp 55) 44 rfl w.heap.size 9 i0 _ 1 16 Tryd.underlying44 hi hz0 hz1 hz2 rfl (by decide) (.slice A' pre.length cap) pre.length ((pre.map (·.1.f1)).map Value.string) rfl (hrow' _) ⟨W1.heap.size, 0, none⟩ 1 1 [.string p.1.f1] rfl rfl (cell_new1 W1 _ _) (by simp [Value.oneCell']) (Nat.le_refl 1) hb1 hb2 (hbs' _) (W1.heap.size + 1) (hsz' _) ?_
                  intro g1 cap1 w5 hown5 hgrow5 hor5 hlt5
                  obtain ⟨⟨hm5, hb5⟩, hps6⟩ := HPS1.out.app (x := p.1.f1) hgl (by rw [List.length_map]) (by exact hown5) hgrow5
                  have x15 : w5.cell? ⟨Bx, 1, none⟩ = some (.string p.1.f1) := by
                    have hbxo : some Bx ≠ (Value.slice A' pre.length cap).ownBlock := fun e => by
                      obtain ⟨_, cs, hcs⟩ := HPS1.out.row.block Bx e.symm
                      have h1 := HBXC.out
                      rw [hcs] at h1; injection h1 with h1; injection h1 with _ h2; exact absurd h2 (by decide)
                    refine (World.cell?_of_block ((hgrow5.block Bx (by simp; omega) hbxo).trans (Below.heap_alloc W1 _ Bx hW1s))).trans x11
                  have e2' := hm5.c2
                  have f2' := hm5.fz 2
                  have m15 := hb5.cell
                  refine hK.out _ _ ⟨m15, x15⟩ (fun hHeld4 => ?_)
                  clear hK K
                  refine wpAnyH_ready (rs := [9]) (by kernel_rfl) (by simp) ?_
                  refine AllReadyH.cons rfl (fun K hK => ?_) AllReadyH.nil
                  go_simp
                  refine hK.out _ _ ⟨m15, x15⟩ (fun hHeld4 => ?_)
                  clear hK K
                  refine wpAnyH_ready (rs := [10]) (by kernel_rfl) (by simp) ?_
                  refine AllReadyH.cons rfl (fun K hK => ?_) AllReadyH.nil
                  go_simp
                  refine hK.out _ _ ⟨m15, x15⟩ (fun hHeld4 => ?_)
                  clear hK K
                  refine wpAnyH_ready (rs := [11]) (by kernel_rfl) (by simp) ?_
                  refine AllReadyH.cons rfl (fun K hK => ?_) AllReadyH.nil
                  go_simp
                  have HPS6 := Lib.hid hps6
                  refine hK.out _ _ ⟨HPS6.out.bm.cell, keep_set hbxne x15⟩ (fun hHeld5 => ?_)
                  clear hK K
                  refine wpAnyH_done (by kernel_rfl) ?_ _
                  refine ⟨rfl, ?_⟩
                  obtain ⟨W6, hW6⟩ : ∃ W6, w5.setCell ⟨g, 2, none⟩ (.slice (some ⟨g1, 0, none⟩) (pre.length + 1) cap1) = W6 := ⟨_, rfl⟩
                  rw [hW6] at HPS6
                  rw [hW6]
                  clear hW6 hHeld hHeld2 hHeld3 hHeld4 hHeld5 hps6 hm5 hb5 hown5 hgrow5 hor5 hlt5 x15 e2' f2' m15 m1 x11 c2 KA d2 hrow' hsz' hbs' hb1 hb2
                  have hg6 := HPS6.out.bg.cell
                  have hgf6 := HPS6.out.bg.frozen
                  gi_wp2
                  exact HPS6.out.go HP2.out hpl2
              · have HN := Lib.hid (HAT.out.bad HCAN.out HND.out (fun h => by
                  rcases h.2 with h | h
                  · rw [toList_bl, h] at hy'; simp at hy'
                  · rw [toList_bl, h] at hy2; simp at hy2))
                gi_wp2
                exact HPS1.out.exit (.inr ⟨rfl, HN.out⟩)
        · have HND := Lib.hid (show ¬ (bl p.1.f1 = dotsL ∧ bl p.2 = [41]) from fun h => by rw [toList_bl, h.1] at hd'; exact absurd hd' (by decide))
          rcases dec_text p.2 [41] with hy' | hy'
          · have hy2 : (p.2.toList == [44]) = false := by rw [beq_iff_eq.1 hy']; rfl
            rcases bool_or (p.1.f0 == 1) with hk' | hk'
            · have HN := Lib.hid (HAT.out.bad HCAN.out HND.out (fun h => by rw [h.1] at hk'; simp at hk'))
              gi_wp2
              exact HPS1.out.exit (.inr ⟨rfl, HN.out⟩)
            · have HQ := Lib.hid (HAT.out.last HCAN.out HND.out (by simpa using hk') (by rw [← toList_bl]; exact beq_iff_eq.1 hy'))
              gi_wp2
              obtain ⟨W1, hW1⟩ : ∃ W1, W.setCell ⟨w.heap.size + 1, 0, none⟩ (.int .i64 (2 * (pre.length : Int) + 2)) = W1 := ⟨_, rfl⟩
              rw [hW1] at HPS1
              rw [hW1]
              have x11 : W1.cell? ⟨Bx, 1, none⟩ = some (.string p.1.f1) := by rw [← hW1]; exact keep_set hbn1 x1
              have m1 := HPS1.out.bm.cell
              have c2 := HPS1.out.mac.c2
              have HBXC := Lib.hid (show W1.heap[Bx]? = some (.cells #[.int .i64 p.1.f0, .string p.1.f1, .string p.1.f2, .int .i64 p.1.f3, .bool p.1.f4, .bool p.1.f5] 62 (0, 0)) by rw [← hW1]; exact (Below.heap_setCell _ ⟨w.heap.size + 1, 0, none⟩ _ _ (by simpa using hbn1)).trans HBXX.out)
              clear hW1 x0 x1 hn0 hnf hg0 hgf hm0 hm2 hm3 hmf2 hmf3
              have hW1s : Bx < W1.heap.size := World.block_lt_of_cell? _ _ x11
              have KA : ∀ o, (W1.drew.alloc o).cell? ⟨w.heap.size, 0, none⟩ = some (.pointer (some ⟨g, 0, none⟩)) ∧ (W1.drew.alloc o).cell? ⟨Bx, 1, none⟩ = some (.string p.1.f1) := fun o => ⟨oldC o m1, oldC o x11⟩
              have d2 : ∀ o, (W1.alloc o).cell? ⟨g, 2, none⟩ = some (.slice A' pre.length cap) := fun o => oldC o c2
              have hrow' : ∀ o, World.ownsRow (W1.alloc o).drew w.heap.size 9 1 (.slice A' pre.length cap) pre.length ((pre.map (·.1.f1)).map Value.string) := fun o => by
                have := HPS1.out.row
                unfold StrRow at this
                rw [List.length_map] at this
                exact World.ownsRow.alloc this o
              have hsz' : ∀ o, (W1.alloc o).drew.heap.size = W1.heap.size + 1 := fun o => by simp
              have hbs' : ∀ o, w.heap.size ≤ (W1.alloc o).drew.heap.size := fun o => by rw [hsz']; have := HPS1.out.grown.size; omega
              have hb1 : pre.length + 1 ≤ maxLen := by simp only [maxLen]; omega
              have hb2 : (pre.length + 1) * 16 ≤ 140737488355328 := by omega
              refine InRound.wpIn_region_held (r := some l) (S := fun w' => w'.cell? ⟨w.heap.size, 0, none⟩ = some (.pointer (some ⟨g, 0, none⟩)) ∧ w'.cell? ⟨Bx, 1, none⟩ = some (.string p.1.f1)) (by kernel_rfl) (by kernel_rfl) ⟨m1, x11⟩ (fun hHeld => ?_)
              refine wpAnyH_take (i := 0) (v := .pointer (some ⟨g, 0, none⟩)) rfl (by kernel_rfl) (by kernel_rfl) (by kernel_rfl) InRound.end_panic (Or.inl ⟨by rfl, ?h0⟩) hHeld ?_
              case h0 => (intro w hSw; (try dsimp only at hSw); go_simp)
              try simp only [Act.put, List.setIfInBounds_toArray, List.set_cons_zero, List.set_cons_succ]
              refine wpAnyH_take (i := 1) (v := .pointer (some ⟨g, 0, none⟩)) rfl (by kernel_rfl) (by kernel_rfl) (by kernel_rfl) InRound.end_panic (Or.inl ⟨by rfl, ?h1⟩) hHeld ?_
              case h1 => (intro w hSw; (try dsimp only at hSw); go_simp)
              try simp only [Act.put, List.setIfInBounds_toArray, List.set_cons_zero, List.set_cons_succ]
              refine wpAnyH_take (i := 2) (v := .pointer (some ⟨g, 0, none⟩)) rfl (by kernel_rfl) (by kernel_rfl) (by kernel_rfl) InRound.end_panic (Or.inl ⟨by rfl, ?h2⟩) hHeld ?_
              case h2 => (intro w hSw; (try dsimp only at hSw); go_simp)
              try simp only [Act.put, List.setIfInBounds_toArray, List.set_cons_zero, List.set_cons_succ]
              refine wpAnyH_take (i := 3) (v := .pointer (some ⟨g, 2, none⟩)) rfl (by kernel_rfl) (by kernel_rfl) (by kernel_rfl) InRound.end_panic (Or.inl ⟨by rfl, ?h3⟩) hHeld ?_
              case h3 => (intro w hSw; (try dsimp only at hSw); go_simp)
              try simp only [Act.put, List.setIfInBounds_toArray, List.set_cons_zero, List.set_cons_succ]
              refine wpAnyH_take (i := 5) (v := .pointer (some ⟨Bx, 1, none⟩)) rfl (by kernel_rfl) (by kernel_rfl) (by kernel_rfl) InRound.end_panic (Or.inl ⟨by rfl, ?h5⟩) hHeld ?_
              case h5 => (intro w hSw; (try dsimp only at hSw); go_simp)
              try simp only [Act.put, List.setIfInBounds_toArray, List.set_cons_zero, List.set_cons_succ]
              refine wpAnyH_take (i := 6) (v := .string p.1.f1) rfl (by kernel_rfl) (by kernel_rfl) (by kernel_rfl) InRound.end_panic (Or.inl ⟨by rfl, ?h6⟩) hHeld ?_
              case h6 => (intro w hSw; (try dsimp only at hSw); go_simp)
              try simp only [Act.put, List.setIfInBounds_toArray, List.set_cons_zero, List.set_cons_succ]
              refine wpAnyH_ready (rs := [4, 7]) (by kernel_rfl) (by simp) ?_
              refine AllReadyH.cons rfl (fun K hK => ?_) (AllReadyH.cons rfl (fun K hK => ?_) AllReadyH.nil)
              · go_simp
                refine hK.out _ _ hHeld (fun hHeld2 => ?_)
                clear hK K
                refine wpAnyH_ready (rs := [7]) (by kernel_rfl) (by simp) ?_
                refine AllReadyH.cons rfl (fun K hK => ?_) AllReadyH.nil
                go_simp
                refine hK.out _ _ (KA _) (fun hHeld3 => ?_)
                clear hK K
                refine wpAnyH_ready (rs := [8]) (by kernel_rfl) (by simp) ?_
                refine AllReadyH.cons rfl (fun K hK => ?_) AllReadyH.nil
                refine step_append_lies _ rfl (.tmp 52) (.tmp 55) 44 rfl w.heap.size 9 i0 _ 1 16 Tryd.underlying44 hi hz0 hz1 hz2 rfl (by decide) (.slice A' pre.length cap) pre.length ((pre.map (·.1.f1)).map Value.string) rfl (hrow' _) ⟨W1.heap.size, 0, none⟩ 1 1 [.string p.1.f1] rfl rfl (cell_new1 W1 _ _) (by simp [Value.oneCell']) (Nat.le_refl 1) hb1 hb2 (hbs' _) (W1.heap.size + 1) (hsz' _) ?_
                intro g1 cap1 w5 hown5 hgrow5 hor5 hlt5
                obtain ⟨⟨hm5, hb5⟩, hps6⟩ := HPS1.out.app (x := p.1.f1) hgl (by rw [List.length_map]) (by exact hown5) hgrow5
                have x15 : w5.cell? ⟨Bx, 1, none⟩ = some (.string p.1.f1) := by
                  have hbxo : some Bx ≠ (Value.slice A' pre.length cap).ownBlock := fun e => by
                    obtain ⟨_, cs, hcs⟩ := HPS1.out.row.block Bx e.symm
                    have h1 := HBXC.out
                    rw [hcs] at h1; injection h1 with h1; injection h1 with _ h2; exact absurd h2 (by decide)
                  refine (World.cell?_of_block ((hgrow5.block Bx (by simp; omega) hbxo).trans (Below.heap_alloc W1 _ Bx hW1s))).trans x11
                have e2' := hm5.c2
                have f2' := hm5.fz 2
                have m15 := hb5.cell
                refine hK.out _ _ ⟨m15, x15⟩ (fun hHeld4 => ?_)
                clear hK K
                refine wpAnyH_ready (rs := [9]) (by kernel_rfl) (by simp) ?_
                refine AllReadyH.cons rfl (fun K hK => ?_) AllReadyH.nil
                go_simp
                refine hK.out _ _ ⟨m15, x15⟩ (fun hHeld4 => ?_)
                clear hK K
                refine wpAnyH_ready (rs := [10]) (by kernel_rfl) (by simp) ?_
                refine AllReadyH.cons rfl (fun K hK => ?_) AllReadyH.nil
                go_simp
                refine hK.out _ _ ⟨m15, x15⟩ (fun hHeld4 => ?_)
                clear hK K
                refine wpAnyH_ready (rs := [11]) (by kernel_rfl) (by simp) ?_
                refine AllReadyH.cons rfl (fun K hK => ?_) AllReadyH.nil
                go_simp
                have HPS6 := Lib.hid hps6
                refine hK.out _ _ ⟨HPS6.out.bm.cell, keep_set hbxne x15⟩ (fun hHeld5 => ?_)
                clear hK K
                refine wpAnyH_done (by kernel_rfl) ?_ _
                refine ⟨rfl, ?_⟩
                obtain ⟨W6, hW6⟩ : ∃ W6, w5.setCell ⟨g, 2, none⟩ (.slice (some ⟨g1, 0, none⟩) (pre.length + 1) cap1) = W6 := ⟨_, rfl⟩
                rw [hW6] at HPS6
                rw [hW6]
                clear hW6 hHeld hHeld2 hHeld3 hHeld4 hHeld5 hps6 hm5 hb5 hown5 hgrow5 hor5 hlt5 x15 e2' f2' m15 m1 x11 c2 KA d2 hrow' hsz' hbs' hb1 hb2
                have hg6 := HPS6.out.bg.cell
                have hgf6 := HPS6.out.bg.frozen
                gi_wp2
                exact (HPS6.out.setG hgl true).exit (.inl ⟨rfl, 2 + 2 * pre.length, by push_cast; omega, by rw [HQ.out, List.map_append]; rfl⟩)
              · go_simp
                refine hK.out _ _ (KA _) (fun hHeld2 => ?_)
                clear hK K
                refine wpAnyH_ready (rs := [4]) (by kernel_rfl) (by simp) ?_
                refine AllReadyH.cons rfl (fun K hK => ?_) AllReadyH.nil
                go_simp
                refine hK.out _ _ (KA _) (fun hHeld3 => ?_)
                clear hK K
                refine wpAnyH_ready (rs := [8]) (by kernel_rfl) (by simp) ?_
                refine AllReadyH.cons rfl (fun K hK => ?_) AllReadyH.nil
                refine step_append_lies _ rfl (.tmp 52) (.tmp 55) 44 rfl w.heap.size 9 i0 _ 1 16 Tryd.underlying44 hi hz0 hz1 hz2 rfl (by decide) (.slice A' pre.length cap) pre.length ((pre.map (·.1.f1)).map Value.string) rfl (hrow' _) ⟨W1.heap.size, 0, none⟩ 1 1 [.string p.1.f1] rfl rfl (cell_new1 W1 _ _) (by simp [Value.oneCell']) (Nat.le_refl 1) hb1 hb2 (hbs' _) (W1.heap.size + 1) (hsz' _) ?_
                intro g1 cap1 w5 hown5 hgrow5 hor5 hlt5
                obtain ⟨⟨hm5, hb5⟩, hps6⟩ := HPS1.out.app (x := p.1.f1) hgl (by rw [List.length_map]) (by exact hown5) hgrow5
                have x15 : w5.cell? ⟨Bx, 1, none⟩ = some (.string p.1.f1) := by
                  have hbxo : some Bx ≠ (Value.slice A' pre.length cap).ownBlock := fun e => by
                    obtain ⟨_, cs, hcs⟩ := HPS1.out.row.block Bx e.symm
                    have h1 := HBXC.out
                    rw [hcs] at h1; injection h1 with h1; injection h1 with _ h2; exact absurd h2 (by decide)
                  refine (World.cell?_of_block ((hgrow5.block Bx (by simp; omega) hbxo).trans (Below.heap_alloc W1 _ Bx hW1s))).trans x11
                have e2' := hm5.c2
                have f2' := hm5.fz 2
                have m15 := hb5.cell
                refine hK.out _ _ ⟨m15, x15⟩ (fun hHeld4 => ?_)
                clear hK K
                refine wpAnyH_ready (rs := [9]) (by kernel_rfl) (by simp) ?_
                refine AllReadyH.cons rfl (fun K hK => ?_) AllReadyH.nil
                go_simp
                refine hK.out _ _ ⟨m15, x15⟩ (fun hHeld4 => ?_)
                clear hK K
                refine wpAnyH_ready (rs := [10]) (by kernel_rfl) (by simp) ?_
                refine AllReadyH.cons rfl (fun K hK => ?_) AllReadyH.nil
                go_simp
                refine hK.out _ _ ⟨m15, x15⟩ (fun hHeld4 => ?_)
                clear hK K
                refine wpAnyH_ready (rs := [11]) (by kernel_rfl) (by simp) ?_
                refine AllReadyH.cons rfl (fun K hK => ?_) AllReadyH.nil
                go_simp
                have HPS6 := Lib.hid hps6
                refine hK.out _ _ ⟨HPS6.out.bm.cell, keep_set hbxne x15⟩ (fun hHeld5 => ?_)
                clear hK K
                refine wpAnyH_done (by kernel_rfl) ?_ _
                refine ⟨rfl, ?_⟩
                obtain ⟨W6, hW6⟩ : ∃ W6, w5.setCell ⟨g, 2, none⟩ (.slice (some ⟨g1, 0, none⟩) (pre.length + 1) cap1) = W6 := ⟨_, rfl⟩
                rw [hW6] at HPS6
                rw [hW6]
                clear hW6 hHeld hHeld2 hHeld3 hHeld4 hHeld5 hps6 hm5 hb5 hown5 hgrow5 hor5 hlt5 x15 e2' f2' m15 m1 x11 c2 KA d2 hrow' hsz' hbs' hb1 hb2
                have hg6 := HPS6.out.bg.cell
                have hgf6 := HPS6.out.bg.frozen
                gi_wp2
                exact (HPS6.out.setG hgl true).exit (.inl ⟨rfl, 2 + 2 * pre.length, by push_cast; omega, by rw [HQ.out, List.map_append]; rfl⟩)
          · have hy3 := hy'
            rcases bool_or (p.1.f0 == 1) with hk' | hk'
            · have HN := Lib.hid (HAT.out.bad HCAN.out HND.out (fun h => by rw [h.1] at hk'; simp at hk'))
              gi_wp2
              exact HPS1.out.exit (.inr ⟨rfl, HN.out⟩)
            · rcases dec_text p.2 [44] with hy2 | hy2
              · have HP2 := Lib.hid (HAT.out.more HCAN.out (by simpa using hk') (by rw [← toList_bl]; exact beq_iff_eq.1 hy2))
                gi_wp2
                obtain ⟨W1, hW1⟩ : ∃ W1, W.setCell ⟨w.heap.size + 1, 0, none⟩ (.int .i64 (2 * (pre.length : Int) + 2)) = W1 := ⟨_, rfl⟩
                rw [hW1] at HPS1
                rw [hW1]
                have x11 : W1.cell? ⟨Bx, 1, none⟩ = some (.string p.1.f1) := by rw [← hW1]; exact keep_set hbn1 x1
                have m1 := HPS1.out.bm.cell
                have c2 := HPS1.out.mac.c2
                have HBXC := Lib.hid (show W1.heap[Bx]? = some (.cells #[.int .i64 p.1.f0, .string p.1.f1, .string p.1.f2, .int .i64 p.1.f3, .bool p.1.f4, .bool p.1.f5] 62 (0, 0)) by rw [← hW1]; exact (Below.heap_setCell _ ⟨w.heap.size + 1, 0, none⟩ _ _ (by simpa using hbn1)).trans HBXX.out)
                clear hW1 x0 x1 hn0 hnf hg0 hgf hm0 hm2 hm3 hmf2 hmf3
                have hW1s : Bx < W1.heap.size := World.block_lt_of_cell? _ _ x11
                have KA : ∀ o, (W1.drew.alloc o).cell? ⟨w.heap.size, 0, none⟩ = some (.pointer (some ⟨g, 0, none⟩)) ∧ (W1.drew.alloc o).cell? ⟨Bx, 1, none⟩ = some (.string p.1.f1) := fun o => ⟨oldC o m1, oldC o x11⟩
                have d2 : ∀ o, (W1.alloc o).cell? ⟨g, 2, none⟩ = some (.slice A' pre.length cap) := fun o => oldC o c2
                have hrow' : ∀ o, World.ownsRow (W1.alloc o).drew w.heap.size 9 1 (.slice A' pre.length cap) pre.length ((pre.map (·.1.f1)).map Value.string) := fun o => by
                  have := HPS1.out.row
                  unfold StrRow at this
                  rw [List.length_map] at this
                  exact World.ownsRow.alloc this o
                have hsz' : ∀ o, (W1.alloc o).drew.heap.size = W1.heap.size + 1 := fun o => by simp
                have hbs' : ∀ o, w.heap.size ≤ (W1.alloc o).drew.heap.size := fun o => by rw [hsz']; have := HPS1.out.grown.size; omega
                have hb1 : pre.length + 1 ≤ maxLen := by simp only [maxLen]; omega
                have hb2 : (pre.length + 1) * 16 ≤ 140737488355328 := by omega
                refine InRound.wpIn_region_held (r := some l) (S := fun w' => w'.cell? ⟨w.heap.size, 0, none⟩ = some (.pointer (some ⟨g, 0, none⟩)) ∧ w'.cell? ⟨Bx, 1, none⟩ = some (.string p.1.f1)) (by kernel_rfl) (by kernel_rfl) ⟨m1, x11⟩ (fun hHeld => ?_)
                refine wpAnyH_take (i := 0) (v := .pointer (some ⟨g, 0, none⟩)) rfl (by kernel_rfl) (by kernel_rfl) (by kernel_rfl) InRound.end_panic (Or.inl ⟨by rfl, ?h0⟩) hHeld ?_
                case h0 => (intro w hSw; (try dsimp only at hSw); go_simp)
                try simp only [Act.put, List.setIfInBounds_toArray, List.set_cons_zero, List.set_cons_succ]
                refine wpAnyH_take (i := 1) (v := .pointer (some ⟨g, 0, none⟩)) rfl (by kernel_rfl) (by kernel_rfl) (by kernel_rfl) InRound.end_panic (Or.inl ⟨by rfl, ?h1⟩) hHeld ?_
                case h1 => (intro w hSw; (try dsimp only at hSw); go_simp)
                try simp only [Act.put, List.setIfInBounds_toArray, List.set_cons_zero, List.set_cons_succ]
                refine wpAnyH_take (i := 2) (v := .pointer (some ⟨g, 0, none⟩)) rfl (by kernel_rfl) (by kernel_rfl) (by kernel_rfl) InRound.end_panic (Or.inl ⟨by rfl, ?h2⟩) hHeld ?_
                case h2 => (intro w hSw; (try dsimp only at hSw); go_simp)
                try simp only [Act.put, List.setIfInBounds_toArray, List.set_cons_zero, List.set_cons_succ]
                refine wpAnyH_take (i := 3) (v := .pointer (some ⟨g, 2, none⟩)) rfl (by kernel_rfl) (by kernel_rfl) (by kernel_rfl) InRound.end_panic (Or.inl ⟨by rfl, ?h3⟩) hHeld ?_
                case h3 => (intro w hSw; (try dsimp only at hSw); go_simp)
                try simp only [Act.put, List.setIfInBounds_toArray, List.set_cons_zero, List.set_cons_succ]
                refine wpAnyH_take (i := 5) (v := .pointer (some ⟨Bx, 1, none⟩)) rfl (by kernel_rfl) (by kernel_rfl) (by kernel_rfl) InRound.end_panic (Or.inl ⟨by rfl, ?h5⟩) hHeld ?_
                case h5 => (intro w hSw; (try dsimp only at hSw); go_simp)
                try simp only [Act.put, List.setIfInBounds_toArray, List.set_cons_zero, List.set_cons_succ]
                refine wpAnyH_take (i := 6) (v := .string p.1.f1) rfl (by kernel_rfl) (by kernel_rfl) (by kernel_rfl) InRound.end_panic (Or.inl ⟨by rfl, ?h6⟩) hHeld ?_
                case h6 => (intro w hSw; (try dsimp only at hSw); go_simp)
                try simp only [Act.put, List.setIfInBounds_toArray, List.set_cons_zero, List.set_cons_succ]
                refine wpAnyH_ready (rs := [4, 7]) (by kernel_rfl) (by simp) ?_
                refine AllReadyH.cons rfl (fun K hK => ?_) (AllReadyH.cons rfl (fun K hK => ?_) AllReadyH.nil)
                · go_simp
                  refine hK.out _ _ hHeld (fun hHeld2 => ?_)
                  clear hK K
                  refine wpAnyH_ready (rs := [7]) (by kernel_rfl) (by simp) ?_
                  refine AllReadyH.cons rfl (fun K hK => ?_) AllReadyH.nil
                  go_simp
                  refine hK.out _ _ (KA _) (fun hHeld3 => ?_)
                  clear hK K
                  refine wpAnyH_ready (rs := [8]) (by kernel_rfl) (by simp) ?_
                  refine AllReadyH.cons rfl (fun K hK => ?_) AllReadyH.nil
                  refine step_append_lies _ rfl (.tmp 52) (.tmp 55) 44 rfl w.heap.size 9 i0 _ 1 16 Tryd.underlying44 hi hz0 hz1 hz2 rfl (by decide) (.slice A' pre.length cap) pre.length ((pre.map (·.1.f1)).map Value.string) rfl (hrow' _) ⟨W1.heap.size, 0, none⟩ 1 1 [.string p.1.f1] rfl rfl (cell_new1 W1 _ _) (by simp [Value.oneCell']) (Nat.le_refl 1) hb1 hb2 (hbs' _) (W1.heap.size + 1) (hsz' _) ?_
                  intro g1 cap1 w5 hown5 hgrow5 hor5 hlt5
                  obtain ⟨⟨hm5, hb5⟩, hps6⟩ := HPS1.out.app (x := p.1.f1) hgl (by rw [List.length_map]) (by exact hown5) hgrow5
                  have x15 : w5.cell? ⟨Bx, 1, none⟩ = some (.string p.1.f1) := by
                    have hbxo : some Bx ≠ (Value.slice A' pre.length cap).ownBlock := fun e => by
                      obtain ⟨_, cs, hcs⟩ := HPS1.out.row.block Bx e.symm
                      have h1 := HBXC.out
                      rw [hcs] at h1; injection h1 with h1; injection h1 with _ h2; exact absurd h2 (by decide)
                    refine (World.cell?_of_block ((hgrow5.block Bx (by simp; omega) hbxo).trans (Below.heap_alloc W1 _ Bx hW1s))).trans x11
                  have e2' := hm5.c2
                  have f2' := hm5.fz 2
                  have m15 := hb5.cell
                  refine hK.out _ _ ⟨m15, x15⟩ (fun hHeld4 => ?_)
                  clear hK K
                  refine wpAnyH_ready (rs := [9]) (by kernel_rfl) (by simp) ?_
                  refine AllReadyH.cons rfl (fun K hK => ?_) AllReadyH.nil
                  go_simp
                  refine hK.out _ _ ⟨m15, x15⟩ (fun hHeld4 => ?_)
                  clear hK K
                  refine wpAnyH_ready (rs := [10]) (by kernel_rfl) (by simp) ?_
                  refine AllReadyH.cons rfl (fun K hK => ?_) AllReadyH.nil
                  go_simp
                  refine hK.out _ _ ⟨m15, x15⟩ (fun hHeld4 => ?_)
                  clear hK K
                  refine wpAnyH_ready (rs := [11]) (by kernel_rfl) (by simp) ?_
                  refine AllReadyH.cons rfl (fun K hK => ?_) AllReadyH.nil
                  go_simp
                  have HPS6 := Lib.hid hps6
                  refine hK.out _ _ ⟨HPS6.out.bm.cell, keep_set hbxne x15⟩ (fun hHeld5 => ?_)
                  clear hK K
                  refine wpAnyH_done (by kernel_rfl) ?_ _
                  refine ⟨rfl, ?_⟩
                  obtain ⟨W6, hW6⟩ : ∃ W6, w5.setCell ⟨g, 2, none⟩ (.slice (some ⟨g1, 0, none⟩) (pre.length + 1) cap1) = W6 := ⟨_, rfl⟩
                  rw [hW6] at HPS6
                  rw [hW6]
                  clear hW6 hHeld hHeld2 hHeld3 hHeld4 hHeld5 hps6 hm5 hb5 hown5 hgrow5 hor5 hlt5 x15 e2' f2' m15 m1 x11 c2 KA d2 hrow' hsz' hbs' hb1 hb2
                  have hg6 := HPS6.out.bg.cell
                  have hgf6 := HPS6.out.bg.frozen
                  gi_wp2
                  exact HPS6.out.go HP2.out hpl2
                · go_simp
                  refine hK.out _ _ (KA _) (fun hHeld2 => ?_)
                  clear hK K
                  refine wpAnyH_ready (rs := [4]) (by kernel_rfl) (by simp) ?_
                  refine AllReadyH.cons rfl (fun K hK => ?_) AllReadyH.nil
                  go_simp
                  refine hK.out _ _ (KA _) (fun hHeld3 => ?_)
                  clear hK K
                  refine wpAnyH_ready (rs := [8]) (by kernel_rfl) (by simp) ?_
                  refine AllReadyH.cons rfl (fun K hK => ?_) AllReadyH.nil
                  refine step_append_lies _ rfl (.tmp 52) (.tmp 55) 44 rfl w.heap.size 9 i0 _ 1 16 Tryd.underlying44 hi hz0 hz1 hz2 rfl (by decide) (.slice A' pre.length cap) pre.length ((pre.map (·.1.f1)).map Value.string) rfl (hrow' _) ⟨W1.heap.size, 0, none⟩ 1 1 [.string p.1.f1] rfl rfl (cell_new1 W1 _ _) (by simp [Value.oneCell']) (Nat.le_refl 1) hb1 hb2 (hbs' _) (W1.heap.size + 1) (hsz' _) ?_
                  intro g1 cap1 w5 hown5 hgrow5 hor5 hlt5
                  obtain ⟨⟨hm5, hb5⟩, hps6⟩ := HPS1.out.app (x := p.1.f1) hgl (by rw [List.length_map]) (by exact hown5) hgrow5
                  have x15 : w5.cell? ⟨Bx, 1, none⟩ = some (.string p.1.f1) := by
                    have hbxo : some Bx ≠ (Value.slice A' pre.length cap).ownBlock := fun e => by
                      obtain ⟨_, cs, hcs⟩ := HPS1.out.row.block Bx e.symm
                      have h1 := HBXC.out
                      rw [hcs] at h1; injection h1 with h1; injection h1 with _ h2; exact absurd h2 (by decide)
                    refine (World.cell?_of_block ((hgrow5.block Bx (by simp; omega) hbxo).trans (Below.heap_alloc W1 _ Bx hW1s))).trans x11
                  have e2' := hm5.c2
                  have f2' := hm5.fz 2
                  have m15 := hb5.cell
                  refine hK.out _ _ ⟨m15, x15⟩ (fun hHeld4 => ?_)
                  clear hK K
                  refine wpAnyH_ready (rs := [9]) (by kernel_rfl) (by simp) ?_
                  refine AllReadyH.cons rfl (fun K hK => ?_) AllReadyH.nil
                  go_simp
                  refine hK.out _ _ ⟨m15, x15⟩ (fun hHeld4 => ?_)
                  clear hK K
                  refine wpAnyH_ready (rs := [10]) (by kernel_rfl) (by simp) ?_
                  refine AllReadyH.cons rfl (fun K hK => ?_) AllReadyH.nil
                  go_simp
                  refine hK.out _ _ ⟨m15, x15⟩ (fun hHeld4 => ?_)
                  clear hK K
                  refine wpAnyH_ready (rs := [11]) (by kernel_rfl) (by simp) ?_
                  refine AllReadyH.cons rfl (fun K hK => ?_) AllReadyH.nil
                  go_simp
                  have HPS6 := Lib.hid hps6
                  refine hK.out _ _ ⟨HPS6.out.bm.cell, keep_set hbxne x15⟩ (fun hHeld5 => ?_)
                  clear hK K
                  refine wpAnyH_done (by kernel_rfl) ?_ _
                  refine ⟨rfl, ?_⟩
                  obtain ⟨W6, hW6⟩ : ∃ W6, w5.setCell ⟨g, 2, none⟩ (.slice (some ⟨g1, 0, none⟩) (pre.length + 1) cap1) = W6 := ⟨_, rfl⟩
                  rw [hW6] at HPS6
                  rw [hW6]
                  clear hW6 hHeld hHeld2 hHeld3 hHeld4 hHeld5 hps6 hm5 hb5 hown5 hgrow5 hor5 hlt5 x15 e2' f2' m15 m1 x11 c2 KA d2 hrow' hsz' hbs' hb1 hb2
                  have hg6 := HPS6.out.bg.cell
                  have hgf6 := HPS6.out.bg.frozen
                  gi_wp2
                  exact HPS6.out.go HP2.out hpl2
              · have HN := Lib.hid (HAT.out.bad HCAN.out HND.out (fun h => by
                  rcases h.2 with h | h
                  · rw [toList_bl, h] at hy'; simp at hy'
                  · rw [toList_bl, h] at hy2; simp at hy2))
                gi_wp2
                exact HPS1.out.exit (.inr ⟨rfl, HN.out⟩)
      case done =>
        rintro D ps W hD hps hI hK
        rw [hps] at hI
        exact hI.at_.never.elim
      case stop =>
        rintro D cd pre W hD _ ⟨rfl, hX, _⟩ hK
        obtain ⟨v', ps, more, k, gd, h1, h2, h3, h4, h5⟩ := hX.out
        have hc3 := h3.cell
        have hc4 := h4.cell
        have hMB : MBox (W.putObj D (.deferred none)) g nm fn v' more vb := (World.putObj_heap_other (by omega)).trans h1
        rcases h5 with ⟨rfl, kn, rfl, hp⟩ | ⟨rfl, hp⟩
        · gi_wp2
          refine ⟨by simp, .inl ⟨_, _, rfl, run_takeDeferred hK, ?_⟩⟩
          refine ⟨.int .i64 (kn : Int), by simp [results, Tryd.f55, go_sem], (kn : Int), v', ps, more, rfl, hMB, ownsRow_putObj h2 _ hK rfl, grown_putObj hX.grown (by omega) hK, (fun h => by rw [HP.out, hp] at h; cases h), fun q hq => ?_⟩
          rw [HP.out, hp] at hq
          cases hq
          exact ⟨rfl, rfl, rfl⟩
        · gi_wp2
          refine ⟨by simp, .inl ⟨_, _, rfl, run_takeDeferred hK, ?_⟩⟩
          exact ⟨.int .i64 (-1), by simp [results, Tryd.f55, go_sem], -1, v', ps, more, rfl, hMB, ownsRow_putObj h2 _ hK rfl, grown_putObj hX.grown (by omega) hK, (fun _ => by omega), fun q hq => by rw [HP.out, hp] at hq; cases hq⟩
theorem pars_any (xs : List S62) (hn : xs.length < 4294967290) (g : Nat) (nm : ByteArray) (fn : Bool) (v vb : Value) (hvb : ∀ k n, vb ≠ .int k n) (w : World) (hg : MBox w g nm fn (.slice none 0 0) false vb) (hx : TokAt w v xs) :
    Calls Tryd.prog 55 #[.pointer (some ⟨g, 0, none⟩), v] w fun e w' => ParsEnd w g nm fn vb xs e w' := callsIn_wide.1 (pars_in 4 (Nat.le_refl _) xs hn g nm fn v vb hvb w hg hx)
end Go.Proofs.YthifdcakhdckfaaDoor

/-
  Walk: token.Lex at one line.
-/
import Derived.RangeFuncBox
import Derived.Scope
import Derived.Test.YthifdcakhdckfaaDoorToks
namespace Go.Proofs.YthifdcakhdckfaaDoor
open Go.RowKit
open PMacroWords (S62)
set_option linter.unusedVariables false
set_option linter.unusedSimpArgs false
attribute [local go_sem] Oper.semAt_some

theorem inScope {F : Fence} {n : Nat} {P : Program} {Q : Exit → Act → World → Prop} {a : Act} {w : World} {c : Code} (hF : F = Fence.wide) (h : c.wpIn F n P (Exit.noGoto Q) a w) : (Code.scope c).wpIn F n P Q a w := by
  subst hF
  exact wpIn_wide.2 (wp_scope_straight (wpIn_wide.1 h))

def tokC (x : S62) : List Value := [.int .i64 x.f0, .string x.f1, .string x.f2, .int .i64 x.f3, .bool x.f4, .bool x.f5]
def rowC (xs : List S62) : List Value := xs.flatMap tokC
/-- A slice of tokens that the call itself has made. -/
def TokRow (n₀ : Nat) (W : World) (v : Value) (xs : List S62) : Prop := W.ownsRow n₀ 62 6 v xs.length (rowC xs)
theorem oldC {w : World} {a : Addr} {u : Value} (o : Obj) (h : w.cell? a = some u) : (w.alloc o).cell? a = some u := (World.cell?_alloc_lt _ _ _ (World.block_lt_of_cell? _ _ h)).trans h
theorem rowC_len (xs : List S62) : (rowC xs).length = xs.length * 6 := by
  unfold rowC
  induction xs with
  | nil => rfl
  | cons x xs ih => rw [List.flatMap_cons, List.length_append, ih]; simp [tokC]; omega
theorem rowC_snoc (xs : List S62) (x : S62) : rowC (xs ++ [x]) = rowC xs ++ tokC x := by simp [rowC]
theorem TokRow.slice {n₀ : Nat} {W : World} {v : Value} {xs : List S62} (h : TokRow n₀ W v xs) : ∃ A cap, v = .slice A xs.length cap := by
  rcases h.2 with ⟨rfl, h0⟩ | ⟨g, cap, _, rfl, _⟩
  · exact ⟨none, 0, by rw [h0]⟩
  · exact ⟨_, cap, rfl⟩
theorem TokRow.block {n₀ : Nat} {W : World} {v : Value} {xs : List S62} (h : TokRow n₀ W v xs) : ∀ r, v.ownBlock = some r → n₀ ≤ r ∧ ∃ cs, W.heap[r]? = some (.cells cs 62 (0, 0)) := by
  intro r hr
  rcases h.2 with ⟨rfl, _⟩ | ⟨g, cap, cur, rfl, hb, hg, _⟩
  · simp [Value.ownBlock] at hr
  · obtain rfl : g = r := by simpa [Value.ownBlock] using hr
    exact ⟨hb, cur, hg⟩

/-- What holds between the rounds of Lex's loop over a line's tokens; h: the blocks there were at its entry. -/
structure LexI (w : World) (S : ByteArray) (line : Int) (pre : List S62) (W : World) : Prop where
  row : ∃ v, Boxed W w.heap.size 38 v ∧ TokRow w.heap.size W v pre
  err : Boxed W (w.heap.size + 1) 31 (.int .i64 0)
  at_ : Boxed W (w.heap.size + 2) 3 (.int .i64 0)
  lin : W.heap[w.heap.size + 4]? = some (.cells #[.int .i64 line, .string S] 42 (0, 0))
  b1 : Boxed W (w.heap.size + 5) 110 (.pointer (some ⟨w.heap.size + 3, 0, none⟩))
  b2 : W.heap[w.heap.size + 6]? = some (.cells #[.int .i64 line, .string S] 42 (0, 0))
  scan : HasScan (w.heap.size + 3) W
  len : pre.length ≤ 20000
  rest : ∀ x ∈ pre, x.f2 = ⟨#[]⟩ ∧ x.f3 = line
  below : Below w.heap.size w W
theorem kept_at {W W' : World} {row : Option Nat} {k : Nat} {o : Obj} (hg : W.grownBy W' row) (h : W.heap[k]? = some o) (hr : some k ≠ row) : W'.heap[k]? = some o :=
  (hg.block k (Array.getElem?_eq_some_iff.1 h).1 hr).trans h
theorem LexI.kept {w : World} {S : ByteArray} {line : Int} {pre : List S62} {W W' : World} {row : Option Nat} (h : LexI w S line pre W) (hg : W.grownBy W' row)
    (hr : ∀ r, row = some r → w.heap.size ≤ r ∧ ((∃ o : Obj, W.heap[r]? = some o ∧ o.isCells = false) ∨ (r = w.heap.size + 3 ∧ HasScan (w.heap.size + 3) W'))) : LexI w S line pre W' := by
  have ne : ∀ {k cs t}, W.heap[k]? = some (.cells cs t (0, 0)) → k ≠ w.heap.size + 3 → some k ≠ row := by
    intro k cs t hk h3 e
    rcases (hr k e.symm).2 with ⟨o, ho, hc⟩ | ⟨e3, _⟩
    · rw [hk] at ho; cases ho; cases hc
    · exact h3 e3
  obtain ⟨v, hv, hrow⟩ := h.row
  obtain ⟨o, fr, sp, fi, hs⟩ := h.scan
  refine ⟨⟨v, hv.kept hg (ne hv (by omega)), hrow.kept hg ?_⟩, h.err.kept hg (ne h.err (by omega)), h.at_.kept hg (ne h.at_ (by omega)), kept_at hg h.lin (ne h.lin (by omega)), h.b1.kept hg (ne h.b1 (by omega)), kept_at hg h.b2 (ne h.b2 (by omega)), ?_, h.len, h.rest, ?_⟩
  · rcases hrow.2 with ⟨rfl, _⟩ | ⟨g, cap, cur, rfl, hb, hg', _⟩
    · exact .inl rfl
    · refine .inr (fun e => ?_)
      refine ne hg' ?_ (by simpa [Value.ownBlock] using e)
      rintro rfl
      unfold ScanIs at hs
      rw [hg'] at hs
      cases hs
  · by_cases e : some (w.heap.size + 3) = row
    · rcases (hr _ e.symm).2 with ⟨o', ho, hc⟩ | ⟨_, h3⟩
      · unfold ScanIs at hs; rw [hs] at ho; cases ho; cases hc
      · exact h3
    · exact ⟨_, _, _, _, kept_at hg hs e⟩
  · exact h.below.grown hg h.below.size (fun k e => (hr k e).1)
theorem LexI.own (w : World) (S : ByteArray) (line : Int) {B : Nat} (hB : w.heap.size ≤ B) : OwnFrom B (LexI w S line) := fun pre W W' row h hg hr =>
  h.kept hg (fun r e => ⟨by have := (hr r e).1; omega, .inl (hr r e).2⟩)
theorem LexI.st {w : World} {S : ByteArray} {line : Int} {pre : List S62} {A B : World} (h : LexI w S line pre A) (hs : A.grownBy B (some (w.heap.size + 3)) ∧ HasScan (w.heap.size + 3) B) : LexI w S line pre B :=
  h.kept hs.1 (fun r e => ⟨by injection e with e; omega, .inr ⟨by injection e with e; exact e.symm, hs.2⟩⟩)
/-- What holds where the loop has been left by an error. -/
structure LexX (w : World) (S : ByteArray) (W : World) : Prop where
  err : ∃ e, (e = 21 ∨ e = 22) ∧ Lx.lex (bl S) = (e, []) ∧ Boxed W (w.heap.size + 1) 31 (.int .i64 e)
  at_ : ∃ i, Boxed W (w.heap.size + 2) 3 (.int .i64 i)
  scan : HasScan (w.heap.size + 3) W
  below : Below w.heap.size w W
theorem LexX.kept {w : World} {S : ByteArray} {W W' : World} {row : Option Nat} (h : LexX w S W) (hg : W.grownBy W' row)
    (hr : ∀ r, row = some r → w.heap.size ≤ r ∧ ((∃ o : Obj, W.heap[r]? = some o ∧ o.isCells = false) ∨ (r = w.heap.size + 3 ∧ HasScan (w.heap.size + 3) W'))) : LexX w S W' := by
  have ne : ∀ {k cs t}, W.heap[k]? = some (.cells cs t (0, 0)) → k ≠ w.heap.size + 3 → some k ≠ row := by
    intro k cs t hk h3 e
    rcases (hr k e.symm).2 with ⟨o, ho, hc⟩ | ⟨e3, _⟩
    · rw [hk] at ho; cases ho; cases hc
    · exact h3 e3
  obtain ⟨e, h1, h2, he⟩ := h.err
  obtain ⟨i, hi⟩ := h.at_
  obtain ⟨o, fr, sp, fi, hs⟩ := h.scan
  refine ⟨⟨e, h1, h2, he.kept hg (ne he (by omega))⟩, ⟨i, hi.kept hg (ne hi (by omega))⟩, ?_, h.below.grown hg h.below.size (fun k e => (hr k e).1)⟩
  by_cases e : some (w.heap.size + 3) = row
  · rcases (hr _ e.symm).2 with ⟨o', ho, hc⟩ | ⟨_, h3⟩
    · unfold ScanIs at hs; rw [hs] at ho; cases ho; cases hc
    · exact h3
  · exact ⟨_, _, _, _, kept_at hg hs e⟩

theorem hold_new {w : World} {k : Nat} {o : Obj} (e : k = w.heap.size) : (w.alloc o).heap[k]? = some o := by rw [e]; exact World.alloc_heap_new w o
theorem hold_old {w : World} {k : Nat} {o o' : Obj} (h : w.heap[k]? = some o) : (w.alloc o').heap[k]? = some o := (Below.heap_alloc _ _ _ (Array.getElem?_eq_some_iff.1 h).1).trans h
section
variable (w : World) (o0 o1 o2 o3 o4 o5 o6 : Obj)
theorem heap7_0 : (((((((w.alloc o0).alloc o1).alloc o2).alloc o3).alloc o4).alloc o5).alloc o6).heap[w.heap.size]? = some o0 := hold_old (hold_old (hold_old (hold_old (hold_old (hold_old (hold_new rfl))))))
theorem heap7_1 : (((((((w.alloc o0).alloc o1).alloc o2).alloc o3).alloc o4).alloc o5).alloc o6).heap[w.heap.size + 1]? = some o1 := hold_old (hold_old (hold_old (hold_old (hold_old (hold_new (by simp))))))
theorem heap7_2 : (((((((w.alloc o0).alloc o1).alloc o2).alloc o3).alloc o4).alloc o5).alloc o6).heap[w.heap.size + 2]? = some o2 := hold_old (hold_old (hold_old (hold_old (hold_new (by simp)))))
theorem heap7_3 : (((((((w.alloc o0).alloc o1).alloc o2).alloc o3).alloc o4).alloc o5).alloc o6).heap[w.heap.size + 3]? = some o3 := hold_old (hold_old (hold_old (hold_new (by simp))))
theorem heap7_4 : (((((((w.alloc o0).alloc o1).alloc o2).alloc o3).alloc o4).alloc o5).alloc o6).heap[w.heap.size + 4]? = some o4 := hold_old (hold_old (hold_new (by simp)))
theorem heap7_5 : (((((((w.alloc o0).alloc o1).alloc o2).alloc o3).alloc o4).alloc o5).alloc o6).heap[w.heap.size + 5]? = some o5 := hold_old (hold_new (by simp))
theorem heap7_6 : (((((((w.alloc o0).alloc o1).alloc o2).alloc o3).alloc o4).alloc o5).alloc o6).heap[w.heap.size + 6]? = some o6 := hold_new (by simp)
theorem below7 : Below w.heap.size w (((((((w.alloc o0).alloc o1).alloc o2).alloc o3).alloc o4).alloc o5).alloc o6) :=
  (((((((Below.refl _ w).alloc (Nat.le_refl _) _).alloc (by simp) _).alloc (by simp; omega) _).alloc (by simp; omega) _).alloc (by simp; omega) _).alloc (by simp; omega) _).alloc (by simp; omega) _
end

theorem cell_new6 (w : World) (t : TypeId) (a b c d e f : Value) : ∀ j u, [a, b, c, d, e, f][j]? = some u → (w.alloc (.cells #[a, b, c, d, e, f] t)).cell? ((⟨w.heap.size, 0, none⟩ : Addr).add j) = some u := by
  intro j u hj
  have hh := World.alloc_heap_new w (.cells #[a, b, c, d, e, f] t)
  have : ((⟨w.heap.size, 0, none⟩ : Addr).add j) = ⟨w.heap.size, j, none⟩ := by simp [Addr.add]; omega
  rw [this]
  simp only [World.cell?, hh]
  rcases j with _ | _ | _ | _ | _ | _ | j <;> simp at hj ⊢ <;> exact hj
def Parked (p : Prop) : Prop := p
theorem park {p : Prop} (h : Parked p) : p := h
theorem lexX_post {w W W0 : World} {S : ByteArray} {line e : Int} {pre pre' : List S62} {x : S62} (hI : LexI w S line pre W) (hsz : W0.heap.size = w.heap.size + 7) (h25 : 5 < w.heap.size) (he : e = 21 ∨ e = 22) (hl : Lx.lex (bl S) = (e, [])) (i : Int) (a : Act) :
    Rng.postS W0.heap.size (Keep5 (w.heap.size + 3) (w.heap.size + 5) (w.heap.size + 6)) Full (LexI w S line) (fun cd _ W => cd = .exit 0 ∧ LexX w S W) x pre' W (.exit 0) a
      ((W.setCell ⟨w.heap.size + 1, 0, none⟩ (.int .i64 e)).setCell ⟨w.heap.size + 1 + 1, 0, none⟩ (.int .i64 i)).drew := by
  have hW := (Array.getElem?_eq_some_iff.1 hI.b2).1
  have h2 : w.heap.size + 1 + 1 = w.heap.size + 2 := rfl
  have hk : ∀ k, k ≠ w.heap.size + 1 → k ≠ w.heap.size + 2 → ((W.setCell ⟨w.heap.size + 1, 0, none⟩ (.int .i64 e)).setCell ⟨w.heap.size + 1 + 1, 0, none⟩ (.int .i64 i)).drew.heap[k]? = W.heap[k]? := fun k h1 h2 =>
    (Below.heap_setCell _ _ _ k h2).trans (Below.heap_setCell _ _ _ k h1)
  have hs : ((W.setCell ⟨w.heap.size + 1, 0, none⟩ (.int .i64 e)).setCell ⟨w.heap.size + 1 + 1, 0, none⟩ (.int .i64 i)).drew.heap.size = W.heap.size := by simp [World.setCell, World.drew, World.drewN]
  have he1 : Boxed (W.setCell ⟨w.heap.size + 1, 0, none⟩ (.int .i64 e)) (w.heap.size + 2) 3 (.int .i64 0) := (Below.heap_setCell _ _ _ _ (by simp)).trans hI.at_
  refine ⟨((KeepsOthers.setCell _ _ _).from _).trans (((KeepsOthers.setCell _ _ _).from _).trans ⟨Nat.le_refl _, fun k o _ h _ => h⟩), ⟨by rw [hs]; exact Nat.le_refl _, fun k hk5 => hk k ?_ ?_⟩, rfl, ⟨⟨e, he, hl, ?_⟩, ⟨i, he1.set _⟩, ?_, ?_⟩⟩
  · omega
  · omega
  · exact (Below.heap_setCell _ _ _ _ (by simp)).trans (hI.err.set _)
  · obtain ⟨o, fr, sp, fi, h⟩ := hI.scan
    exact ⟨o, fr, sp, fi, (hk _ (by omega) (by omega)).trans h⟩
  · exact ((hI.below.setCell (p := ⟨w.heap.size + 1, 0, none⟩) (by simp) _).setCell (p := ⟨w.heap.size + 1 + 1, 0, none⟩) (by simp; omega) _).drew
theorem World.drew_hold {w : World} {k : Nat} {o : Obj} (h : w.heap[k]? = some o) : w.drew.heap[k]? = some o := h
theorem lexI_post {w W w1 W0 : World} {S : ByteArray} {line : Int} {pre : List S62} {x : S62} {A : Option Addr} {cap g' cap' : Nat} {o : Obj} (hI : LexI w S line pre W) (hm : ¬ pre.length = 20000) (hx : bl x.f1 ≠ []) (hx2 : x.f2 = ⟨#[]⟩) (hx3 : x.f3 = line) (hsz : W0.heap.size = w.heap.size + 7) (h25 : 5 < w.heap.size)
    (hrow : TokRow w.heap.size W (.slice A pre.length cap) pre) (hgrow : (W.alloc o).grownBy w1 (Value.slice A pre.length cap).ownBlock)
    (hv2 : Boxed (w1.setCell ⟨w.heap.size, 0, none⟩ (.slice (some ⟨g', 0, none⟩) (pre.length + 1) cap')) w.heap.size 38 (.slice (some ⟨g', 0, none⟩) (pre.length + 1) cap'))
    (hr2 : (w1.setCell ⟨w.heap.size, 0, none⟩ (.slice (some ⟨g', 0, none⟩) (pre.length + 1) cap')).ownsRow w.heap.size 62 6 (.slice (some ⟨g', 0, none⟩) (pre.length + 1) cap') (pre.length + 1) (rowC pre ++ tokC x))
    (hk2 : KeepsOthers W (w1.setCell ⟨w.heap.size, 0, none⟩ (.slice (some ⟨g', 0, none⟩) (pre.length + 1) cap'))) (hb2 : Below w.heap.size W (w1.setCell ⟨w.heap.size, 0, none⟩ (.slice (some ⟨g', 0, none⟩) (pre.length + 1) cap'))) (a : Act) :
    Rng.postS W0.heap.size (Keep5 (w.heap.size + 3) (w.heap.size + 5) (w.heap.size + 6)) Full (LexI w S line) (fun cd _ W => cd = .exit 0 ∧ LexX w S W) x (pre ++ [x]) W .normal a
      (w1.setCell ⟨w.heap.size, 0, none⟩ (.slice (some ⟨g', 0, none⟩) (pre.length + 1) cap')) := by
  have hW := (Array.getElem?_eq_some_iff.1 hI.b2).1
  have hk : ∀ k cs t, W.heap[k]? = some (.cells cs t (0, 0)) → t ≠ 62 → k ≠ w.heap.size → (w1.setCell ⟨w.heap.size, 0, none⟩ (.slice (some ⟨g', 0, none⟩) (pre.length + 1) cap')).heap[k]? = some (.cells cs t (0, 0)) := by
    intro k cs t hk ht hne
    refine (Below.heap_setCell _ _ _ k hne).trans (kept_at hgrow (hold_old hk) (fun e => ?_))
    obtain ⟨_, cs', hcs⟩ := hrow.block k e.symm
    rw [hk] at hcs
    injection hcs with hcs
    injection hcs with _ h2
    exact ht h2
  obtain ⟨o', fr, sp, fi, hs⟩ := hI.scan
  have h3 : ScanIs (w1.setCell ⟨w.heap.size, 0, none⟩ (.slice (some ⟨g', 0, none⟩) (pre.length + 1) cap')) (w.heap.size + 3) o' fr sp fi := hk _ _ _ hs (by decide) (by omega)
  have h5 := hk _ _ _ hI.b1 (by decide) (by omega)
  have h6 := hk _ _ _ hI.b2 (by decide) (by omega)
  refine ⟨hk2.from _, ⟨hk2.size, ?_⟩, ⟨⟨_, hv2, ?_⟩, hk _ _ _ hI.err (by decide) (by omega), hk _ _ _ hI.at_ (by decide) (by omega), hk _ _ _ hI.lin (by decide) (by omega), h5, h6, ⟨_, _, _, _, h3⟩, by have := hI.len; simp; omega, ?_, hI.below.trans hb2⟩, hx⟩
  · have hlow : ∀ k, k < w.heap.size → (w1.setCell ⟨w.heap.size, 0, none⟩ (.slice (some ⟨g', 0, none⟩) (pre.length + 1) cap')).heap[k]? = W.heap[k]? := hb2.block
    rintro k (rfl | rfl | rfl | rfl | rfl)
    · exact h3.trans hs.symm
    · exact h5.trans hI.b1.symm
    · exact h6.trans hI.b2.symm
    · exact hlow _ (by omega)
    · exact hlow _ (by omega)
  · unfold TokRow
    rw [rowC_snoc, List.length_append]
    exact hr2
  · intro y hy
    rcases List.mem_append.1 hy with h | h
    · exact hI.rest y h
    · simp at h; subst h; exact ⟨hx2, hx3⟩


set_option maxRecDepth 100000 in
set_option maxHeartbeats 4000000 in
theorem lex_in (n : Nat) (hn : 4 ≤ n) (b c : Nat) (S : ByteArray) (hS : S.size < 4294967281) (line : Int) (w : World)
    (hb : w.heap[b]? = some (.cells #[.int .i64 line, .string S] 42 (0, 0))) (hsig : SigIs w) (hmax : MaxIs w) (h25 : 5 < w.heap.size) :
    CallsIn Fence.wide n Tryd.prog 17 #[.slice (some ⟨b, 0, none⟩) 1 c] w fun e w' =>
      ∃ v at_ xs, e = .returned (.tuple #[v, .int .i64 (Lx.lex (bl S)).1, .int .i64 at_]) ∧ TokRow w.heap.size w' v xs ∧ (Lx.lex (bl S)).2 = xs.map tk ∧ (∀ x ∈ xs, x.f2 = ⟨#[]⟩ ∧ x.f3 = line) ∧ Below w.heap.size w w' := by
  have b0 : w.cell? ⟨b, 0, none⟩ = some (.int .i64 line) := by simp [World.cell?, hb]
  have b1 : w.cell? ⟨b, 1, none⟩ = some (.string S) := by simp [World.cell?, hb]
  obtain ⟨i0, hi, hz0, hz1, hz2⟩ := info_parts PMacroWords.info62
  refine callsIn_of_wp_marks Tryd.func17 rfl trivial ?_ rfl
  simp only [Tryd.ntmps17, List.size_toArray, List.length_cons, List.length_nil, Nat.reduceAdd, Nat.reduceSub, Array.replicate_succ, Array.replicate_zero, List.push_toArray, List.append_toArray, List.nil_append, List.cons_append]
  gi_wp2
  refine inScope rfl ?_
  gi_wp2
  refine wpIn_label ?_
  gi_wp2
  refine wpIn_loop_rounds 2 ?_
  rw [roundsIn_succ]
  have c0 : ∀ o1 o2 o3 o4, ((((w.alloc o1).alloc o2).alloc o3).alloc o4).cell? ⟨b, 0, none⟩ = some (.int .i64 line) := fun o1 o2 o3 o4 => oldC o4 (oldC o3 (oldC o2 (oldC o1 b0)))
  have c1 : ∀ o1 o2 o3 o4, ((((w.alloc o1).alloc o2).alloc o3).alloc o4).cell? ⟨b, 1, none⟩ = some (.string S) := fun o1 o2 o3 o4 => oldC o4 (oldC o3 (oldC o2 (oldC o1 b1)))
  gi_wp2_with (fail)
  refine callW ((toks_any _ S line _).mono ?_)
  rintro e w1 ⟨rfl, rfl⟩
  obtain ⟨W0, hW0⟩ : ∃ W0, ((((((w.alloc (.cells #[.slice none 0 0] 38)).alloc (.cells #[.int .i64 0] 31)).alloc (.cells #[.int .i64 0] 3)).alloc (.cells #[.bool false, .int .i64 0, .bool false, .bool false] 112)).alloc (.cells #[.int .i64 line, .string S] 42)).alloc (.cells #[.pointer (some ⟨w.heap.size + 1 + 1 + 1, 0, none⟩)] 110)).alloc (.cells #[.int .i64 line, .string S] 42) = W0 := ⟨_, rfl⟩
  have hsz : W0.heap.size = w.heap.size + 7 := by rw [← hW0]; simp
  have hsc0 : ScanIs W0 (w.heap.size + 3) false 0 false false := by rw [← hW0]; unfold ScanIs; exact heap7_3 w _ _ _ _ _ _ _
  have HL0 : LexI w S line [] W0 := by
    rw [← hW0]
    refine ⟨⟨_, heap7_0 w _ _ _ _ _ _ _, World.ownsRow_nil _ _ _ _⟩, heap7_1 w _ _ _ _ _ _ _, heap7_2 w _ _ _ _ _ _ _, heap7_4 w _ _ _ _ _ _ _, heap7_5 w _ _ _ _ _ _ _, heap7_6 w _ _ _ _ _ _ _, ⟨false, 0, false, false, heap7_3 w _ _ _ _ _ _ _⟩, by simp, by simp, ?_⟩
    exact below7 w _ _ _ _ _ _ _
  clear c0 c1
  gi_wp2
  refine Rng.wpIn_rangeS (α := S62) rfl (by omega) (gf := 110) (lb := #[.pointer (some ⟨w.heap.size + 5, 0, none⟩), .pointer (some ⟨w.heap.size + 6, 0, none⟩)]) rfl trivial (enters_of Tryd.func110 (by kernel_rfl) rfl)
    (encs := fun x => #[tokV x]) (St := fun A B => A.grownBy B (some (w.heap.size + 3)) ∧ HasScan (w.heap.size + 3) B) (Kp := Keep5 (w.heap.size + 3) (w.heap.size + 5) (w.heap.size + 6)) (Can := IsNext S line) (Cont := Full) (S := AllCame S (w.heap.size + 3)) (Sp := fun _ _ => True)
    ?seq (fun A B h => KeepsFrom.of_grownBy h.1 (fun j e => by injection e with e; omega)) ?kt ?kb (fun _ => rfl) ?owns (fun _ _ _ _ _ _ _ => trivial)
    (LexI w S line) (fun cd _ W => cd = .exit 0 ∧ LexX w S W) (LexI.own w S line (by omega)) ?ownx (fun s A B h k => h.st k) ?xst HL0
    (fun x a' W => ∃ Bx, W0.heap.size ≤ Bx ∧ W.heap[Bx]? = some (.cells #[.int .i64 x.f0, .string x.f1, .string x.f2, .int .i64 x.f3, .bool x.f4, .bool x.f5] 62 (0, 0)) ∧ a' = { tmps := #[.slice (some ⟨b, 0, none⟩) 1 c, undef, .slice none 0 0, .int .i64 0, .int .i64 0, .pointer (some ⟨w.heap.size, 0, none⟩), .pointer (some ⟨w.heap.size + 1, 0, none⟩), .pointer (some ⟨w.heap.size + 1 + 1, 0, none⟩), .pointer (some ⟨w.heap.size + 1 + 1 + 1, 0, none⟩), undef, .pointer (some ⟨w.heap.size + 1 + 1 + 1 + 1, 0, none⟩), .pointer (some ⟨Bx, 0, none⟩), .agg #[.bool false, .int .i64 0, .bool false, .bool false], .pointer (some ⟨w.heap.size + 1 + 1 + 1, 0, none⟩), .slice (some ⟨b, 0, none⟩) 1 c, .int .i64 1, .int .i64 0, .bool true, .pointer (some ⟨b, 0, none⟩), .agg #[.int .i64 line, .string S], .pointer (some ⟨w.heap.size + 1 + 1 + 1, 0, none⟩), .agg #[.int .i64 line, .string S], .func (.func 110) #[] #[.pointer (some ⟨w.heap.size + 1 + 1 + 1 + 1 + 1, 0, none⟩), .pointer (some ⟨w.heap.size + 1 + 1 + 1 + 1 + 1 + 1, 0, none⟩)], tokV x, undef, undef, undef, undef, undef, undef, undef, undef, undef, undef, undef, undef, undef, undef, undef, undef, undef, undef, undef, undef, undef, undef, undef, undef, undef, undef, undef, undef, undef, undef, undef, undef, undef, undef], defers := [] })
    ?ownax ?assign ?body ?done ?stop
  case seq =>
    intro l J Jx W hl hbl hJs hJxs hY hJ0
    have ho : ∀ {k : Nat} {o : Obj}, W0.heap[k]? = some o → W.heap[k]? = some o := fun h => (hbl.block _ (Array.getElem?_eq_some_iff.1 h).1).trans h
    have ho0 : ∀ {k : Nat} {o : Obj}, w.heap[k]? = some o → W.heap[k]? = some o := fun h => ho ((HL0.below.block _ (Array.getElem?_eq_some_iff.1 h).1).trans h)
    refine (toks1_in (n - 1) l (w.heap.size + 3) (w.heap.size + 5) (w.heap.size + 6) S hS line J Jx (fun s A B h1 h2 h3 => hJs s A B h1 ⟨h2, h3⟩) hY W 0 false false (ho hsc0)
      ⟨ho HL0.b1, ho HL0.b2, ?_, ?_⟩ (by omega) (by omega) (by omega) (by omega) hJ0)
    · obtain ⟨t, fr, hs⟩ := hsig
      exact ⟨t, fr, ho0 hs⟩
    · obtain ⟨m, hm⟩ := hmax
      exact ⟨m, (World.cell?_of_block ((hbl.block 5 (by omega)).trans (HL0.below.block 5 (by omega)))).trans hm⟩
  case kt => exact fun h1 h2 => ⟨Nat.le_trans h1.1 h2.1, fun k hk => (h2.2 k hk).trans (h1.2 k hk)⟩
  case kb =>
    intro W l o o' hl _ _ _
    exact ⟨by simp, fun k hk => World.putObj_heap_other (by omega)⟩
  case owns =>
    rintro xs W W' row ⟨o, sp, fi, s, fr, sp', h1, h2, h3⟩ hg hr
    exact ⟨o, sp, fi, s, fr, sp', h1, h2, kept_at hg h3 (fun e => by have := (hr _ e.symm).1; omega)⟩
  case ownx =>
    rintro cd pre W W' row ⟨h0, h1⟩ hg hr
    exact ⟨h0, h1.kept hg (fun r e => ⟨by have := (hr r e).1; omega, .inl (hr r e).2⟩)⟩
  case xst =>
    rintro cd s A B ⟨h0, h1⟩ ⟨hg, hs⟩
    exact ⟨h0, h1.kept hg (fun r e => ⟨by injection e with e; omega, .inr ⟨by injection e with e; exact e.symm, hs⟩⟩)⟩
  case ownax =>
    rintro x a' _ W W' row ⟨Bx, h1, h2, h3⟩ hg hr
    refine ⟨Bx, h1, kept_at hg h2 (fun e => ?_), h3⟩
    obtain ⟨o, ho, hc⟩ := (hr _ e.symm).2
    rw [h2] at ho; cases ho; cases hc
  case assign =>
    intro l pre x W K hI hcan hK
    have hW := (Array.getElem?_eq_some_iff.1 hI.b2).1
    dsimp only [tokV] at hK ⊢
    gi_wp2
    refine hK _ _ ((KeepsOthers.alloc _ _).from _) ⟨by simp, fun k hk => Below.heap_alloc _ _ _ (by omega)⟩ (hI.kept (World.grownBy_alloc _ _ none) (fun r e => by cases e)) ⟨W.heap.size, by omega, World.alloc_heap_new _ _, rfl⟩
  case body =>
    rintro l pre x a' W hl hI ⟨Bx, hBx, hbx, rfl⟩ hcan
    have hW := (Array.getElem?_eq_some_iff.1 hI.b2).1
    obtain ⟨v, hv, hrow⟩ := hI.row
    obtain ⟨A, cap, rfl⟩ := hrow.slice
    have x0 : W.cell? ⟨Bx, 0, none⟩ = some (.int .i64 x.f0) := by simp [World.cell?, hbx]
    have x1 : W.cell? ⟨Bx, 1, none⟩ = some (.string x.f1) := by simp [World.cell?, hbx]
    have x2 : W.cell? ⟨Bx, 2, none⟩ = some (.string x.f2) := by simp [World.cell?, hbx]
    have x3 : W.cell? ⟨Bx, 3, none⟩ = some (.int .i64 x.f3) := by simp [World.cell?, hbx]
    have x4 : W.cell? ⟨Bx, 4, none⟩ = some (.bool x.f4) := by simp [World.cell?, hbx]
    have x5 : W.cell? ⟨Bx, 5, none⟩ = some (.bool x.f5) := by simp [World.cell?, hbx]
    have l0 : W.cell? ⟨w.heap.size + 4, 0, none⟩ = some (.int .i64 line) := by simp [World.cell?, hI.lin]
    have hvc := hv.cell
    have hec := hI.err.cell
    have hef := hI.err.frozen
    have hac := hI.at_.cell
    have haf := hI.at_.frozen
    obtain ⟨o, sp, fi, s, hRun, hne, htk, hx2, hx3⟩ := hcan
    have HX2 := Lib.hid hx2
    have HX3 := Lib.hid hx3
    clear hx2 hx3
    have htl : bl x.f1 = (Lx.tokAt o sp fi s).s := by rw [← htk]; rfl
    by_cases hx : bl x.f1 = []
    · have he := empty_toList x.f1 hx
      have hlex : Lx.lex (bl S) = (21, []) := Lx.lex_quote hRun (by simpa using hI.len) hne (by
        have h1 : (Lx.skipAll o sp s).2.2.take (Lx.next (Lx.skipAll o sp s).2.2).2 = [] := by rw [← hx, htl]; rfl
        have h2 := Lx.next_le _ hne
        have h3 := congrArg List.length h1
        rw [List.length_take] at h3
        simp at h3
        rcases h3 with h3 | h3
        · exact h3
        · exact absurd h3 hne)
      gi_wp2
      gi_region <;> (gi_wp2; exact lexX_post hI hsz h25 (.inl rfl) hlex _ _)
    · have he := full_toList x.f1 hx
      have hnn : (Lx.next (Lx.skipAll o sp s).2.2).2 ≠ 0 := by
        intro e
        refine hx ?_
        rw [htl]
        show (Lx.skipAll o sp s).2.2.take (Lx.next (Lx.skipAll o sp s).2.2).2 = []
        rw [e, List.take_zero]
      by_cases hm : pre.length = 20000
      · have hm1 : ((pre.length : Int) == 20000) = true := by simp; omega
        have hm2 : decide ((pre.length : Int) = 20000) = true := by simp; omega
        have hlex : Lx.lex (bl S) = (22, []) := Lx.lex_many hRun (by simpa using hm) hne hnn
        gi_wp2
        gi_region <;> (gi_wp2; exact lexX_post hI hsz h25 (.inr rfl) hlex _ _)
      · have hm1 : ((pre.length : Int) == 20000) = false := by simp; omega
        have hm2 : decide ((pre.length : Int) = 20000) = false := by simp; omega
        have hpl := hI.len
        gi_wp2_with (gi_at_builtin; refine wpListIn_append_own _ rfl _ _ 38 rfl w.heap.size 62 i0 _ 6 56 Tryd.underlying38 hi hz0 hz1 hz2 rfl (by decide) _ _ _ rfl (World.ownsRow.alloc hrow _) ⟨W.heap.size, 0, none⟩ 1 1 (tokC x) rfl rfl (cell_new6 _ _ _ _ _ _ _ _) (by simp [tokC, Value.oneCell']) (by simp only [maxLen]; omega) (by omega) (by simp; omega) ?_; intro v' w1 hown' hgrow _; obtain ⟨g', cap', rfl⟩ := ownsRow_succ hown'; obtain ⟨hv1, hv2, hr2, hk2, hb2⟩ := hv.appended (by decide) hrow hI.below.size (Nat.le_refl _) hown' hgrow; have hc1 := hv1.cell; have hf1 := hv1.frozen)
        exact lexI_post hI hm hx HX2.out HX3.out hsz h25 hrow hgrow hv2 hr2 hk2 hb2 _
  case done =>
    rintro D xs W hD ⟨o, sp, fi, s, fr, sp', hRun, hsk, hsc⟩ hI hK
    obtain ⟨v, hv, hrow⟩ := hI.row
    have hlex := Lx.lex_done hRun (by simpa using hI.len) hsk
    have hW := (Array.getElem?_eq_some_iff.1 hI.b2).1
    have hec := hI.err.cell
    have hef := hI.err.frozen
    have hac := hI.at_.cell
    have haf := hI.at_.frozen
    have hvc := hv.cell
    have s0 := hsc.c0
    have s1 := hsc.c1
    have hBe : ∀ W', Below w.heap.size W W' → Below w.heap.size w W' := fun W' h => hI.below.trans h
    rcases hob : (Lx.skipAll o sp s).1 with _ | _
    · rw [hob] at hlex s0
      gi_wp2
      rw [roundsIn_succ]
      gi_wp2
      refine ⟨by simp, .inl ⟨_, _, rfl, run_takeDeferred hK, ?_⟩⟩
      refine ⟨.tuple #[v, .int .i64 0, .int .i64 0], ?_, v, 0, xs, by rw [hlex]; rfl, ownsRow_putObj hrow _ hK rfl, by rw [hlex]; rfl, hI.rest, hI.below.trans (belowK_b (w := w) (Nat.le_refl _) W D _ _ (by omega) hK rfl rfl)⟩
      simp [results, Tryd.f17, go_sem]
    · rw [hob] at hlex s0
      gi_wp2
      rw [roundsIn_succ]
      gi_wp2
      gi_region
      obtain ⟨W3, hW3⟩ : ∃ W3, ((W.setCell ⟨w.heap.size + 1, 0, none⟩ (.int .i64 20)).setCell ⟨w.heap.size + 1 + 1, 0, none⟩ (.int .i64 fr)).drew = W3 := ⟨_, rfl⟩
      have he1 : Boxed W3 (w.heap.size + 1) 31 (.int .i64 20) := by rw [← hW3]; exact (Below.heap_setCell _ _ _ _ (by simp)).trans (hI.err.set _)
      have ha1 : Boxed W3 (w.heap.size + 2) 3 (.int .i64 fr) := by
        rw [← hW3]; exact Boxed.set (v := .int .i64 0) _ (show Boxed _ (w.heap.size + 2) 3 _ from (Below.heap_setCell _ _ _ _ (by simp)).trans hI.at_)
      have hB3 : Below w.heap.size w W3 := by rw [← hW3]; exact ((hI.below.setCell (p := ⟨w.heap.size + 1, 0, none⟩) (by simp) _).setCell (p := ⟨w.heap.size + 1 + 1, 0, none⟩) (by simp; omega) _).drew
      have hK3 : W3.heap[D]? = some (.deferred (some [])) := by rw [← hW3]; exact (Below.heap_setCell _ _ _ _ (by simp; omega)).trans ((Below.heap_setCell _ _ _ _ (by simp; omega)).trans hK)
      have hec3 := he1.cell
      have hac3 := ha1.cell
      rw [hW3]
      clear hW3
      gi_wp2
      gi_region
      gi_wp2
      refine ⟨by simp, .inl ⟨_, _, rfl, run_takeDeferred (World.drew_hold hK3), ?_⟩⟩
      refine ⟨.tuple #[.slice none 0 0, .int .i64 20, .int .i64 fr], ?_, .slice none 0 0, fr, [], by rw [hlex]; rfl, World.ownsRow_nil _ _ _ _, by rw [hlex]; rfl, by simp, hB3.drew.trans (belowK_b (w := w) (Nat.le_refl _) _ D _ _ (by omega) (World.drew_hold hK3) rfl rfl)⟩
      simp [results, Tryd.f17, go_sem]
  case stop =>
    rintro D cd pre W hD _ ⟨rfl, hX⟩ hK
    obtain ⟨e, he, hlex, hb6⟩ := hX.err
    obtain ⟨i, hb7⟩ := hX.at_
    have hec := hb6.cell
    have hac := hb7.cell
    rcases he with rfl | rfl
    · gi_wp2
      gi_region
      gi_wp2
      refine ⟨by simp, .inl ⟨_, _, rfl, run_takeDeferred (World.drew_hold hK), ?_⟩⟩
      refine ⟨.tuple #[.slice none 0 0, .int .i64 21, .int .i64 i], ?_, .slice none 0 0, i, [], by rw [hlex], World.ownsRow_nil _ _ _ _, by rw [hlex]; rfl, by simp, hX.below.drew.trans (belowK_b (w := w) (Nat.le_refl _) _ D _ _ (by omega) (World.drew_hold hK) rfl rfl)⟩
      simp [results, Tryd.f17, go_sem]
    · gi_wp2
      gi_region
      gi_wp2
      refine ⟨by simp, .inl ⟨_, _, rfl, run_takeDeferred (World.drew_hold hK), ?_⟩⟩
      refine ⟨.tuple #[.slice none 0 0, .int .i64 22, .int .i64 i], ?_, .slice none 0 0, i, [], by rw [hlex], World.ownsRow_nil _ _ _ _, by rw [hlex]; rfl, by simp, hX.below.drew.trans (belowK_b (w := w) (Nat.le_refl _) _ D _ _ (by omega) (World.drew_hold hK) rfl rfl)⟩
      simp [results, Tryd.f17, go_sem]

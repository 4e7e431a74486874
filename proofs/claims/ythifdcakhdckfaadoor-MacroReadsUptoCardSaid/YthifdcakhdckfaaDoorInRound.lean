/-
  Two laws of regions that draw their order inside the round of a range over a function, or ahead of a call of its body: the laws outside of a round, carried over.
  Conditions: the region holds no 'defer'; for the first it does not let out.
-/
import Derived.RangeFuncCalls
import Derived.RangeFuncNested
import Derived.StillTail
import Derived.Deep.RegionHeld
import Derived.OrdersIn
import Derived.TacticsIn
namespace Go.Proofs.YthifdcakhdckfaaDoor.InRound
open Go Go.RowKit

/-- The fence without bounds, in a round or in none. -/
def Fr (r : Option Nat) : Fence := { Fence.wide with round := r }
theorem fr_none : Fr none = Fence.wide := rfl
theorem fr_some (l : Nat) : Fr (some l) = Fence.wide.inRound l := rfl
variable {P : Program} {n : Nat} {r : Option Nat} {ops : Array Oper} {md : Region.Mode}

theorem callsFr {f : FuncId} {args : Array Value} {w : World} {R : Ending → World → Prop} (h : Calls P f args w R) : CallsIn (Fr r) n P f args w R := (callsIn_wide (n := n)).2 h
theorem rowsFr {row : String} {args : Array Value} {w : World} {R : Value → World → Prop} (h : Rows P row args w R) : RowsIn (Fr r) n P row args w R :=
  fun c cs _ => let ⟨v, w', h1, s⟩ := h c cs; ⟨v, w', h1, stepsIn_wide.2 s⟩
theorem deepFr : (Fr r).depth.isSome = true → 1 ≤ n := fun h => by simp [Fr, Fence.wide] at h
theorem wpIn_of_wp {o : Oper} {a : Act} {w : World} {K : Act → World → Prop} {Q : Exit → Act → World → Prop} (hd : ∀ c, o.op ≠ .defer c) (h : o.wp P a w K Q) : o.wpIn (Fr r) n P a w K Q := by
  refine ⟨fun f _ => trivial, ?_⟩
  rw [Oper.semAt_eq _ _ _ hd]
  unfold Oper.wp at h
  generalize (execOp a.eval o).run P w = res at h ⊢
  cases res with
  | ok x w' =>
    cases x with
    | value v => exact h
    | skip => exact h
    | defer d => exact h
    | enter f args => exact ⟨deepFr, callsFr h⟩
    | row row args => exact ⟨deepFr, rowsFr h⟩
    | _ => exact False.elim h
  | halt x w' =>
    cases x <;> first | exact h | exact False.elim h
/-- The region holds no 'defer'. -/
def noDefer (ops : Array Oper) : Bool := ops.toList.all fun o => match o.op with | .defer _ => false | _ => true
theorem noDefer_spec (h : noDefer ops = true) {i : Nat} {o : Oper} (hi : ops[i]? = some o) : ∀ c, o.op ≠ .defer c := by
  intro c e
  unfold noDefer at h
  rw [List.all_eq_true] at h
  have hm : o ∈ ops.toList := by
    rw [← Array.getElem?_toList] at hi
    exact List.mem_of_getElem? hi
  have := h o hm
  rw [e] at this
  cases this
theorem wpOpIn_of {Q : Exit → Act → World → Prop} (hn : noDefer ops = true) (hL : ¬ LetsOut Q) {i : Nat} {K : Act → World → Prop} {a : Act} {w : World} (h : wpOp P ops Q i K a w) : wpOpIn (Fr r) n P ops Q i K a w := by
  unfold wpOp at h
  unfold wpOpIn
  cases ho : ops[i]? with
  | none => simp only [ho] at h ⊢; exact h
  | some o =>
    simp only [ho] at h ⊢
    by_cases hw : Region.wanted o (yielded ops a.tmps) = true
    · simp only [hw, if_true] at h ⊢
      rcases h with h | h
      · exact wpIn_of_wp (noDefer_spec hn ho) h
      · exact absurd h.2 hL
    · simp only [hw] at h ⊢
      exact ⟨fun f _ => trivial, h⟩
theorem wpAnyIn_of {Q : Exit → Act → World → Prop} (hn : noDefer ops = true) (hL : ¬ LetsOut Q) : ∀ (fuel : Nat) (listed : Array Bool) (a : Act) (w : World), wpAny P md ops Q fuel listed a w → wpAnyIn (Fr r) n P md ops Q fuel listed a w
  | 0, _, _, _, h => h
  | fuel + 1, _, _, _, h => ⟨h.1, fun i hi => wpOpIn_mono (fun a w => wpAnyIn_of hn hL fuel _ a w) (wpOpIn_of hn hL (h.2 i hi))⟩

/-- Only the end matters. -/
def End (Q : Exit → Act → World → Prop) : Exit → Act → World → Prop := fun e a w => e = .normal ∧ Q .normal a w
theorem end_out (Q : Exit → Act → World → Prop) : ¬ LetsOut (End Q) := by
  rintro ⟨a, w, h, _⟩
  cases h
theorem end_panic {Q : Exit → Act → World → Prop} {d : Option Tmp} {v : Value} : ∀ (c : List PanicEntry) (a : Act) (w : World), End Q (.panic c) (a.put d v) w → End Q (.panic c) a w := fun c a w h => by
  cases h.1
/-- The region inside a round: as outside of it, where it does not panic. -/
theorem wpIn_region_held {id : Nat} {Q : Exit → Act → World → Prop} {a : Act} {w : World} {S : World → Prop} (hm : P.follows .mixedOrders = true) (hn : noDefer ops = true) (hS : S w.drew)
    (h : S w.drew → wpAnyH P .any ops (End Q) S ops.size (Array.replicate ops.size false) a w.drew) : (Code.region id ops true).wpIn (Fr r) n P Q a w :=
  wpIn_mono (wpIn_region_any hm (wpAnyIn_of hn (end_out Q) _ _ _ _ (wpAny_of_held _ _ _ _ (h hS)))) (fun e a w h => by obtain ⟨rfl, h⟩ := h; exact h)

/-! ### reads ahead of one last operation -/
theorem wpIn_of_still {o : Oper} {a : Act} {w : World} {K : Act → Prop} {K' : Act → World → Prop} {Q' : Exit → Act → World → Prop} (hd : ∀ c, o.op ≠ .defer c) (h : ∀ a, K a → K' a w) (hh : o.still P a w K) : o.wpIn (Fr r) n P a w K' Q' :=
  wpIn_of_wp hd (Oper.wp_of_still h hh)
theorem wpOpIn_of_st {Q' : Exit → Act → World → Prop} (hn : noDefer ops = true) {i : Nat} {a : Act} {w : World} {K : Act → Prop} {K' : Act → World → Prop} (h : ∀ a, K a → K' a w) (hh : stOp P ops w i K a) : wpOpIn (Fr r) n P ops Q' i K' a w := by
  unfold stOp at hh
  unfold wpOpIn
  cases ho : ops[i]? with
  | none => simp only [ho] at hh ⊢; exact h _ hh
  | some o =>
    simp only [ho] at hh ⊢
    by_cases hw : Region.wanted o (yielded ops a.tmps) = true
    · simp only [hw, if_true] at hh ⊢; exact wpIn_of_still (noDefer_spec hn ho) h hh
    · simp only [hw] at hh ⊢; exact ⟨fun f _ => trivial, h _ hh⟩
theorem wpAnyIn_of_head {w : World} {m g : Nat} {L : Array Bool → Act → Prop} {Q' : Exit → Act → World → Prop} (hn : noDefer ops = true) (hL : ∀ listed a, L listed a → wpAnyIn (Fr r) n P md ops Q' g listed a w) :
    ∀ (f : Nat) (listed : Array Bool) (a : Act), wpAnyL P md ops w m L f listed a → wpAnyIn (Fr r) n P md ops Q' (f + g) listed a w
  | 0, listed, a, h => by rw [Nat.zero_add]; exact hL _ _ h
  | f + 1, listed, a, h => by
    rw [show f + 1 + g = (f + g) + 1 by omega]
    exact ⟨fun h0 => absurd h0 h.1, fun i hi => wpOpIn_of_st hn (fun a' h' => wpAnyIn_of_head hn hL f _ a' h') (h.2 i hi).2⟩
theorem wpAnyIn_of_seq {Q' : Exit → Act → World → Prop} : ∀ (l : List Oper) (k : Nat) (listed : Array Bool) (a : Act) (w : World), (∀ j, l[j]? = ops[k + j]?) →
    Region.seqB md ops l.length k listed = true → wpListIn (Fr r) n P ops Q' l a w → wpAnyIn (Fr r) n P md ops Q' l.length listed a w
  | [], _, _, _, _, _, hB, h => ⟨by simpa [Region.seqB] using hB, h⟩
  | o :: l, k, listed, a, w, hl, hB, h => by
    have h0 : ops[k]? = some o := by simpa using (hl 0).symm
    simp only [List.length_cons, Region.seqB, Bool.and_eq_true, decide_eq_true_eq] at hB
    refine ⟨fun h1 => (by rw [hB.1] at h1; cases h1), fun i hi => ?_⟩
    rw [hB.1] at hi
    have hik : i = k := by simpa using hi
    subst hik
    have hw : wpOpIn (Fr r) n P ops Q' i (wpListIn (Fr r) n P ops Q' l) a w := by unfold wpOpIn; simp only [h0]; exact h
    exact wpOpIn_mono (fun a' w' h' => wpAnyIn_of_seq l (i + 1) _ a' w' (fun j => by have := hl (j + 1); simpa [Nat.add_assoc, Nat.add_comm 1 j] using this) hB.2 h') hw
theorem wpIn_region_still_tail {id : Nat} {Q : Exit → Act → World → Prop} {a : Act} {w : World} {l : List Oper} (m : Nat) (hm : P.follows .mixedOrders = true) (hno : noDefer l.toArray = true) (hB : Region.lexTailB .any l.toArray m = true)
    (h : wpStill P l.toArray w.drew (fun a' => wpListIn (Fr r) n P l.toArray Q (l.drop m) a' w.drew) (l.take m) a) : (Code.region id l.toArray true).wpIn (Fr r) n P Q a w := by
  simp only [Region.lexTailB, Bool.and_eq_true, decide_eq_true_eq] at hB
  obtain ⟨⟨⟨⟨hsel, hn⟩, hs⟩, hc⟩, hlex⟩ := hB
  have hn' : m < l.length := by simpa using hn
  have htl : (l.take m).length = m := by simp; omega
  have hdl : (l.drop m).length = l.toArray.size - m := by simp
  have inv0 : HeadInv .any l.toArray m (Array.replicate l.toArray.size false) :=
    ⟨by simp, fun j oj _ hl => (by rw [getD_replicate_false] at hl; cases hl), fun t _ ht => getD_in (by simpa using ht) (getD_replicate_false _ _)⟩
  have H := wpAnyL_lex (md := .any) (g := l.toArray.size - m) hsel hs hc hn (l.take m) 0 _ a (fun j hj => by
    have hj' : j < m := by rw [htl] at hj; exact hj
    simp [hj']) (by simpa using htl) inv0 (by rw [htl]; exact hlex) h
  refine wpIn_region_any hm ?_
  have := wpAnyIn_of_head (r := r) (n := n) (Q' := Q) (g := l.toArray.size - m) hno (fun listed a' hL => by
    have := wpAnyIn_of_seq (md := .any) (Q' := Q) (l.drop m) m listed a' w.drew (fun j => by simp [List.getElem?_drop]) (by rw [hdl]; exact hL.1) hL.2
    rwa [hdl] at this) _ _ _ H
  rw [htl, show m + (l.toArray.size - m) = l.toArray.size by omega] at this
  exact this
end Go.Proofs.YthifdcakhdckfaaDoor.InRound

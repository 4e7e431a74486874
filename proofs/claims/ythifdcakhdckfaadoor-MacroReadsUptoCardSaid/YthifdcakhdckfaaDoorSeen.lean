/-
  A set of texts, kept as a map from strings to bools that the call makes: look-up and store.
-/
import Derived.Maps.Views
import Derived.Test.YthifdcakhdckfaaDoorMacP
namespace Go.Proofs.YthifdcakhdckfaaDoor
open Go.RowKit Go.Proofs.YthifdcakhdckfaaDoorW.PrintWords Go.Maps
open Go.WideMaps
open PMacroWords (S62 k62 z62 rd_T62 k62_mk)
set_option linter.unusedVariables false
set_option linter.unusedSimpArgs false

theorem strKey : Keyed Tryd.prog 9 := string_keyed Tryd.underlying9
/-- The map holds just these texts. -/
def SeenIs (W : World) (b : Nat) (keys : List ByteArray) : Prop :=
  ∃ n D, W.ownsMap (H := Unit) Tryd.prog 9 (plainElem Tryd.prog 4) b n D ∧ n ≤ keys.length ∧ IsMap D ∧ ∀ s : ByteArray, D.atKey (.string s.data.toList) (.lit (.bool false)) = .lit (.bool (hasS keys s))
theorem SeenIs.made (w : World) : SeenIs (w.alloc (.map #[] 0)) w.heap.size [] :=
  ⟨0, _, World.ownsMap_made w _ _ _, Nat.le_refl _, isMap_empty, fun s => rfl⟩
theorem SeenIs.below {W W' : World} {b : Nat} {keys : List ByteArray} (h : SeenIs W b keys) (hb : Below W.heap.size W W') : SeenIs W' b keys := by
  obtain ⟨n, D, h1, h2, h3, h4⟩ := h
  exact ⟨n, D, h1.kept (row := none) ⟨hb.os, hb.tape, hb.output, hb.size, fun k hk _ => hb.block k hk⟩ (by simp), h2, h3, h4⟩
theorem hasS_snoc (keys : List ByteArray) (s x : ByteArray) : hasS (keys ++ [s]) x = (hasS keys x || (bl s == bl x)) := by
  unfold hasS
  rw [List.any_append]
  simp
theorem plainElem_bool_inv {P : Program} {e : TypeId} (he : P.underlying e = some .bool) {v : Value} {d : DataW Unit} {ps : List MemPlace} (h : plainElem P e v = some (d, ps)) : ∃ c, v = .bool c ∧ d = .lit (.bool c) := by
  unfold plainElem at h
  rw [he] at h
  cases v <;> simp at h
  exact ⟨_, rfl, h.1.symm⟩
theorem zeroBool (w : World) : (zeroValue 4).run Tryd.prog w = .ok (.bool false) w := by kernel_rfl
theorem SeenIs.look {w : World} {b : Nat} {keys : List ByteArray} (h : SeenIs w b keys) (s : ByteArray) (hs : s.size ≤ maxLen) :
    (Instr.lookup 123 (.map (some b)) (.string s) false).run Tryd.prog w = .ok (.bool (hasS keys s)) w := by
  obtain ⟨n, D, h1, h2, h3, h4⟩ := h
  obtain ⟨v, ps, hrun, hv⟩ := h1.lookup strKey Tryd.underlying123 (zeroBool w) (plainElem_bool Tryd.underlying4 false) (keyOf_string_mk Tryd.underlying9 hs)
  obtain ⟨c, hcv, hc⟩ := plainElem_bool_inv Tryd.underlying4 hv
  have e : hasS keys s = c := by
    exact Lit.bool.inj (DataW.lit.inj ((h4 s).symm.trans hc))
  rw [e, ← hcv]
  exact hrun
theorem SeenIs.store {w : World} {b : Nat} {keys : List ByteArray} (h : SeenIs w b keys) (s : ByteArray) (hs : s.size ≤ maxLen) (hk : keys.length < 4294967296) :
    ∃ w', (Instr.mapUpdate 123 (.map (some b)) (.string s) (.bool true)).run Tryd.prog w = .ok () w' ∧ SeenIs w' b (keys ++ [s]) ∧ w.grownBy w' (some b) := by
  obtain ⟨n, D, h1, h2, h3, h4⟩ := h
  obtain ⟨w', hrun, h5, h6⟩ := h1.update strKey Tryd.underlying123 (by unfold maxLen; omega) (keyOf_string_mk Tryd.underlying9 hs) (plainElem_bool Tryd.underlying4 true)
  refine ⟨w', hrun, ⟨n + 1, _, h5, by simp; omega, h3.put _ _, fun x => ?_⟩, h6⟩
  rw [hasS_snoc]
  by_cases hx : x = s
  · subst hx
    rw [atKey_put_same h3 (by first | exact trivial | simp [WideAt.IsKeyLit])]
    simp
  · rw [atKey_put_other, h4]
    · have : (bl s == bl x) = false := by rw [beq_eq_false_iff_ne]; intro e; exact hx (bl_inj.1 e).symm
      rw [this, Bool.or_false]
    · intro e
      exact hx (bl_inj.1 (Lit.string.inj e))
end Go.Proofs.YthifdcakhdckfaaDoor

/-
  Walks: isName of both sides.
-/
import Derived.Test.YthifdcakhdckfaaDoorRefLex
namespace Go.Proofs.YthifdcakhdckfaaDoor
open Go.RowKit
open PMacroWords (S62)
set_option linter.unusedVariables false
set_option linter.unusedSimpArgs false

def restL : Lx.L := [95, 95, 86, 65, 95, 65, 82, 71, 83, 95, 95]
def nameOk (s : Lx.L) : Bool := oneOk s && (oneKind s == 1)
def isNameL (s : Lx.L) : Bool := nameOk s && !(s == restL)

set_option maxHeartbeats 1000000 in
theorem isName_any (S : ByteArray) (hS : S.size < 4294967281) (w : World) (hsig : SigIs w) (hmax : MaxIs w) (h25 : 5 < w.heap.size) :
    Calls Tryd.prog 64 #[.string S] w fun e w' => e = .returned (.bool (isNameL (bl S))) ∧ Below w.heap.size w w' := by
  go_enter Tryd.func64, Tryd.ntmps64
  go_wp2_with (fail)
  refine (one_any S hS w hsig hmax h25).mono ?_
  rintro e w1 ⟨t, rfl, ht, hB⟩
  obtain ⟨f0, f1, f2, f3, f4, f5⟩ := t
  dsimp only [tokV]
  have HT := Lib.hid ht
  have HB := Lib.hid hB
  clear ht hB hsig hmax
  cases hok : oneOk (bl S) with
  | false =>
    go_wp2
    go_ret
    exact ⟨by unfold isNameL nameOk; rw [hok]; rfl, HB.out.alloc HB.out.size _⟩
  | true =>
    have hk := HT.out hok
    dsimp only at hk
    subst hk
    by_cases hk1 : oneKind (bl S) = 1
    · have hk2 : (oneKind (bl S) == 1) = true := by simpa using hk1
      have HK := Lib.hid hk1
      clear hk1
      go_wp2
      go_ret
      refine ⟨?_, HB.out.alloc HB.out.size _⟩
      unfold isNameL nameOk
      rw [hok, hk2, toList_bl]
      rfl
    · have hk2 : (oneKind (bl S) == 1) = false := by simpa using hk1
      have HK := Lib.hid hk1
      clear hk1
      go_wp2
      go_ret
      refine ⟨?_, HB.out.alloc HB.out.size _⟩
      unfold isNameL nameOk
      rw [hok, hk2]
      rfl
set_option maxHeartbeats 1000000 in
theorem refIsName_any (S : ByteArray) (hS : S.size < 4294967281) (w : World) :
    Calls Tryd.prog 66 #[.string S] w fun e w' => e = .returned (.bool (nameOk (bl S))) ∧ Below w.heap.size w w' := by
  go_enter Tryd.func66, Tryd.ntmps66
  go_wp2_with (fail)
  refine (refOne_any S hS w).mono ?_
  rintro e w1 ⟨t, rfl, ht, hB⟩
  obtain ⟨f0, f1, f2, f3, f4, f5⟩ := t
  dsimp only [tokV]
  have HT := Lib.hid ht
  have HB := Lib.hid hB
  clear ht hB
  cases hok : oneOk (bl S) with
  | false =>
    go_wp2
    go_ret
    exact ⟨by unfold nameOk; rw [hok]; rfl, HB.out.alloc HB.out.size _⟩
  | true =>
    have hk := HT.out hok
    dsimp only at hk
    subst hk
    go_wp2
    go_ret
    refine ⟨?_, HB.out.alloc HB.out.size _⟩
    unfold nameOk
    rw [hok]
    rfl
end Go.Proofs.YthifdcakhdckfaaDoor

/-
  Walk: macro.isBody and its function.
-/
import Derived.BigQuiet
import Derived.Test.YthifdcakhdckfaaDoorMac
namespace Go.Proofs.YthifdcakhdckfaaDoor
open Go.RowKit Go.Proofs.YthifdcakhdckfaaDoorW.PrintWords
open PMacroWords (S62 k62 z62 rd_T62 k62_mk)
set_option linter.unusedVariables false
set_option linter.unusedSimpArgs false

structure MacV where
  name : ByteArray
  func : Bool
  params : List ByteArray
  more : Bool
  body : List S62
def isParamL (m : MacV) (i : Nat) : Bool := decide (i < m.body.length) && (hasS m.params (m.body.getD i z62).f1 || (m.more && bl (m.body.getD i z62).f1 == restL))
/-- The variable that holds a macro. -/
structure MacBox (W : World) (b : Nat) (m : MacV) (vp vb : Value) : Prop where
  box : W.heap[b]? = some (.cells #[.string m.name, .bool m.func, vp, .bool m.more, vb] 46 (0, 0))
  ps : StrAt W vp m.params
  bd : TokAt W vb m.body

theorem StrAt.drewN {w : World} {v : Value} {ps : List ByteArray} (h : StrAt w v ps) (n : Nat) : StrAt (w.drewN n) v ps := h.below ⟨rfl, rfl, rfl, Nat.le_refl _, fun _ _ => rfl⟩
set_option maxHeartbeats 4000000 in
theorem isParam_any (m : MacV) (b bn : Nat) (vp vb : Value) (i : Nat) (w : World) (h : MacBox w b m vp vb) (hn : w.cell? ⟨bn, 0, none⟩ = some (.int .i64 (m.body.length : Int))) (hp : m.params.length < 4294967296) (hb : m.body.length < 4294967296) :
    Calls Tryd.prog 120 #[.int .i64 (i : Int), .pointer (some ⟨bn, 0, none⟩), .pointer (some ⟨b, 0, none⟩)] w fun e w' => e = .returned (.bool (isParamL m i)) ∧ Drawn0 w w' := by
  have b2 : w.cell? ⟨b, 2, none⟩ = some vp := by simp [World.cell?, h.box]
  have b3 : w.cell? ⟨b, 3, none⟩ = some (.bool m.more) := by simp [World.cell?, h.box]
  have b4 : w.cell? ⟨b, 4, none⟩ = some vb := by simp [World.cell?, h.box]
  by_cases hlt : i < m.body.length
  · have hlt' : decide ((i : Int) < (m.body.length : Int)) = true := by simp; omega
    obtain ⟨A, c, rfl, hc, hr⟩ := h.bd
    obtain ⟨ad, hA, a0, a1, a2, a3, a4, a5⟩ := PMacroWords.at_T62 hr i (by omega) (by omega)
    subst hA
    rw [rdN] at a1
    simp only [Int.toNat_natCast] at a1
    clear a0 a2 a3 a4 a5 hr
    obtain ⟨x, hx⟩ : ∃ x, m.body.getD i z62 = x := ⟨_, rfl⟩
    rw [hx] at a1
    have HX := Lib.hid hx
    have HS := Lib.hid h.ps
    clear hx h
    cases hk : hasS m.params x.f1 with
    | true =>
      go_enter Tryd.func120, Tryd.ntmps120
      go_wp2
      go_quiet ((go_at_call 121; exact Calls.quiet_of_same ((containsS_any m.params hp x.f1 vp _ (StrAt.drewN HS.out _)).mono (fun e w' h => ⟨h.1.trans (by rw [hk]), h.2.symm⟩))))
      go_wp2
      go_ret
      exact ⟨by unfold isParamL; rw [decide_eq_true hlt, HX.out, hk]; rfl, ⟨⟨_, rfl⟩⟩⟩
    | false =>
      cases hm : m.more with
      | false =>
        rw [hm] at b3
        go_enter Tryd.func120, Tryd.ntmps120
        go_wp2
        go_quiet ((go_at_call 121; exact Calls.quiet_of_same ((containsS_any m.params hp x.f1 vp _ (StrAt.drewN HS.out _)).mono (fun e w' h => ⟨h.1.trans (by rw [hk]), h.2.symm⟩))))
        go_wp2
        go_ret
        exact ⟨by unfold isParamL; rw [decide_eq_true hlt, HX.out, hk]; rw [hm]; rfl, ⟨⟨_, rfl⟩⟩⟩
      | true =>
        rw [hm] at b3
        go_enter Tryd.func120, Tryd.ntmps120
        go_wp2
        go_quiet ((go_at_call 121; exact Calls.quiet_of_same ((containsS_any m.params hp x.f1 vp _ (StrAt.drewN HS.out _)).mono (fun e w' h => ⟨h.1.trans (by rw [hk]), h.2.symm⟩))))
        go_wp2
        go_ret
        exact ⟨by unfold isParamL; rw [decide_eq_true hlt, HX.out, hk]; rw [hm, toList_bl]; rfl, ⟨⟨_, rfl⟩⟩⟩
  · have hlt' : decide ((i : Int) < (m.body.length : Int)) = false := by simp; omega
    clear h
    go_enter Tryd.func120, Tryd.ntmps120
    go_wp2
    go_quiet (fail)
    go_wp2
    go_ret
    exact ⟨by unfold isParamL; rw [decide_eq_false hlt]; rfl, ⟨⟨_, rfl⟩⟩⟩
end Go.Proofs.YthifdcakhdckfaaDoor

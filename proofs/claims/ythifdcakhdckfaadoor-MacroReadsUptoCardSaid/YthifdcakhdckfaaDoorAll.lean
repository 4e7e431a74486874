/-
  Walk: slices.All over tokens: its iterator as a contract.
-/
import Derived.Test.YthifdcakhdckfaaDoorTokL
namespace Go.Proofs.YthifdcakhdckfaaDoor
open Go.RowKit Go.Proofs.YthifdcakhdckfaaDoorW.PrintWords
open PMacroWords (S62 k62 z62 rd_T62 k62_mk)
set_option linter.unusedVariables false
set_option linter.unusedSimpArgs false
attribute [local go_sem] Oper.semAt_some

theorem all_any (A : Option Addr) (m c : Nat) (w : World) : Calls Tryd.prog 117 #[.slice A m c] w fun e w' =>
      e = .returned (.func (.func 175) #[] #[.pointer (some ⟨w.heap.size, 0, none⟩)]) ∧ w' = w.alloc (.cells #[.slice A m c] 38) := by
  have hmf : ∀ (fn : Fn) (first cap : Array Value) (w : World), (Instr.makeFunc fn first cap).run Tryd.prog w = .ok (.func fn first cap) w := fun _ _ _ _ => rfl
  go_enter Tryd.func117, Tryd.ntmps117
  go_wp2
  go_ret
  exact ⟨rfl, rfl⟩
set_option maxRecDepth 100000 in
set_option maxHeartbeats 4000000 in
theorem all1_in (n l bx : Nat) (w0 : World) (A : Option Addr) (c : Nat) (xs : List S62) (hn : xs.length < 4294967296) (hC : Kd.C k62 w0 A xs.length xs) (hc : xs.length ≤ c) (J Jx : List (Int × S62) → World → Prop)
    (hJ : ∀ s U V, J s U → Below U.heap.size U V → J s V)
    (hY : ∀ (pre : List (Int × S62)) (p : Int × S62) W1, J pre W1 → (p.1 = (pre.length : Int) ∧ xs[pre.length]? = some p.2) → YieldAt Fence.wide (n - 1) Tryd.prog l #[.int .i64 p.1, tokV p.2] W1 fun e W' =>
      (e = .returned (.bool true) ∧ J (pre ++ [p]) W' ∧ Below w0.heap.size W1 W') ∨ (e = .returned (.bool false) ∧ Jx (pre ++ [p]) W'))
    (W : World) (hW : Below w0.heap.size w0 W) (hbx : W.heap[bx]? = some (.cells #[.slice A xs.length c] 38 (0, 0))) (h0 : J [] W) :
    CallsIn Fence.wide n Tryd.prog 175 #[.func (.yield l) #[] #[], .pointer (some ⟨bx, 0, none⟩)] W fun e W' => (∃ v, e = .returned v) ∧
      ((∃ ps : List (Int × S62), J ps W' ∧ ps.map (·.2) = xs) ∨ (∃ pre, Jx pre W' ∧ True)) := by
  have HJ := Lib.hid hJ
  have HY := Lib.hid hY
  have H0 := Lib.hid h0
  have HC := Lib.hid hC
  have HW := Lib.hid hW
  have b0 : W.cell? ⟨bx, 0, none⟩ = some (.slice A xs.length c) := by simp [World.cell?, hbx]
  clear hJ hY h0 hC hW
  refine callsIn_of_wp Tryd.func175 rfl trivial ?_ rfl
  simp only [Tryd.ntmps175, List.size_toArray, List.length_cons, List.length_nil, Nat.reduceAdd, Nat.reduceSub, Array.replicate_succ, Array.replicate_zero, List.push_toArray, List.append_toArray, List.nil_append, List.cons_append]
  gi_wp2
  gi_loopw [7] (fun v7 wr => ∃ (i : Nat) (ps : List (Int × S62)), v7 = .int .i64 (i : Int) ∧ i ≤ xs.length ∧ Hid (ps.length = i ∧ ps.map (·.2) = xs.take i) ∧ Hid (J ps wr) ∧ Hid (Below w0.heap.size w0 wr)) (fun v7 _ => match v7 with | .int _ i => xs.length - i.toNat | _ => 0)
  case atStart => exact ⟨0, [], rfl, by omega, Lib.hid ⟨rfl, by simp⟩, H0, HW⟩
  case round =>
    clear H0 HW hbx b0
    obtain ⟨i, ps, rfl, hi6, HP, HJ1, HB⟩ := hrel
    by_cases hlt : i < xs.length
    · have hlt' : decide ((i : Int) < (xs.length : Int)) = true := by simp; omega
      have hC := Kd.C_below HC.out HB.out
      obtain ⟨ad, hA, a0, a1, a2, a3, a4, a5⟩ := PMacroWords.at_T62 hC i (by omega) (by omega)
      subst hA
      rw [rdN] at a0 a1 a2 a3 a4 a5
      simp only [Int.toNat_natCast] at a0 a1 a2 a3 a4 a5
      clear hC
      obtain ⟨x, hx⟩ : ∃ x, xs.getD i z62 = x := ⟨_, rfl⟩
      rw [hx] at a0 a1 a2 a3 a4 a5
      have HX := Lib.hid hx
      clear hx
      have hBa : Below wr.heap.size wr (wr.alloc (.cells #[.int .i64 x.f0, .string x.f1, .string x.f2, .int .i64 x.f3, .bool x.f4, .bool x.f5] 62)) := (Below.refl _ wr).alloc (Nat.le_refl _) _
      have HB2 := Lib.hid (HB.out.trans (hBa.mono HB.out.size))
      obtain ⟨fn, tmps, assign, body, hy, hRd⟩ := HY.out ps ((i : Int), x) _ (HJ.out _ _ _ HJ1.out hBa) ⟨by rw [HP.out.1], by rw [HP.out.1, ← HX.out, List.getD_eq_getElem?_getD, List.getElem?_eq_getElem hlt]; rfl⟩
      have HRd := Lib.hid hRd
      dsimp only [tokV] at hy
      clear hRd HJ1 HB hBa
      gi_wp2
      refine ⟨deepW, HRd.out.mono ?_⟩
      rintro e W6 (⟨rfl, hJ6, hk6⟩ | ⟨rfl, hJx6⟩)
      · have HJ6 := Lib.hid hJ6
        have HB6 := Lib.hid (HB2.out.trans hk6)
        clear hy HRd hJ6 hk6 HB2 a0 a1 a2 a3 a4 a5
        gi_wp2
        go_roundw
        case rel =>
          refine ⟨i + 1, ps ++ [((i : Int), x)], rfl, hlt, Lib.hid ⟨by rw [List.length_append, HP.out.1]; rfl, ?_⟩, HJ6, HB6⟩
          rw [List.map_append, HP.out.2, List.take_add_one, List.getElem?_eq_getElem hlt]
          have : xs[i] = x := by rw [← HX.out, List.getD_eq_getElem?_getD, List.getElem?_eq_getElem hlt]; rfl
          rw [this]; rfl
        case measure => simp only []; omega
      · clear hy HRd HB2
        gi_wp2
        refine bodyPost_ret (results_none rfl _ _ _) rfl ?_
        exact ⟨⟨_, rfl⟩, .inr ⟨_, hJx6, trivial⟩⟩
    · have hlt' : decide ((i : Int) < (xs.length : Int)) = false := by simp; omega
      have hi7 : i = xs.length := by omega
      gi_wp2
      go_end0
      exact ⟨⟨_, rfl⟩, .inl ⟨ps, HJ1.out, by rw [HP.out.2, hi7, List.take_length]⟩⟩
end Go.Proofs.YthifdcakhdckfaaDoor

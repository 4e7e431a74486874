-- PRINTED BY print.sh 35421559b90ae4d0a3588c463048766b98c2df88dd9212a6774a882060cdf62d: not written by this session
import Derived.Test.YthifdcakhdckfaaDoorPMacroWordsx1
namespace Go.Proofs.YthifdcakhdckfaaDoor.PMacroWords
open Go.RowKit Go.Proofs.YthifdcakhdckfaaDoorW.PrintWords Go.Proofs.YthifdcakhdckfaaDoorW.PrintLast Go.Proofs.YthifdcakhdckfaaDoorW.PrintMore
attribute [local go_sem] max2_int min2_int max_two min_two max_three min_three max_four min_four   -- for this text's walks alone
set_option linter.unusedVariables false
set_option linter.unusedSimpArgs false

attribute [local go_sem high] eqA62
/-! ### burinref02_Same: function 59 -/
def burinref02_Same.l0 : Nat → List (S62) → List (S62) → Int → Option (Bool)
  | 0, _, _, _ => none
  | k + 1, x0, x1, x5 => if x5 < (x0.length : Int) then (if 0 ≤ x5 then (if x5 < (x1.length : Int) then (if (!(((rd_T62 x0 x5).f0) == ((rd_T62 x1 x5).f0)) || (!((((rd_T62 x0 x5).f1).toList) == (((rd_T62 x1 x5).f1).toList)) || (!((((rd_T62 x0 x5).f2).toList) == (((rd_T62 x1 x5).f2).toList)) || (!(((rd_T62 x0 x5).f3) == ((rd_T62 x1 x5).f3)) || (!(((rd_T62 x0 x5).f4) == ((rd_T62 x1 x5).f4)) || (!(((rd_T62 x0 x5).f5) == ((rd_T62 x1 x5).f5)))))))) = true then (some false) else (burinref02_Same.l0 k x0 x1 (wrap64 (x5 + 1)))) else (none)) else (none)) else (some true)
def burinref02_Same.f (k : Nat) (l0 : List (S62)) (l1 : List (S62)) : Option (Bool) := if (l0.length : Int) = (l1.length : Int) then (burinref02_Same.l0 k l0 l1 0) else (some false)
theorem burinref02_Same.mono_l : ∀ k, (∀ y0 y1 y2, LeO (burinref02_Same.l0 k y0 y1 y2) (burinref02_Same.l0 (k + 1) y0 y1 y2))
  | 0 => fun _ _ _ r h => by simp [burinref02_Same.l0] at h
  | k + 1 => by
    have ih0 := burinref02_Same.mono_l k
    · intro y0 y1 y2
      unfold burinref02_Same.l0
      repeat' first
      | (with_reducible exact ih0 _ _ _)
      | (with_reducible exact LeO.refl _)
      | (with_reducible exact LeO.none _)
      | (with_reducible refine LeO.ite ?_ ?_)
      | (with_reducible refine LeO.bind ?_ (fun _ => ?_))
      | exact ih0 _ _ _
      | exact LeO.none _
      | refine LeO.ite ?_ ?_
      | refine LeO.bind ?_ (fun _ => ?_)
theorem burinref02_Same.mono : ∀ a0 a1 k, LeO (burinref02_Same.f k a0 a1) (burinref02_Same.f (k + 1) a0 a1) := by
  intro a0 a1 k
  have ih0 := burinref02_Same.mono_l k
  unfold burinref02_Same.f
  repeat' first
      | (with_reducible exact ih0 _ _ _)
      | (with_reducible exact LeO.refl _)
      | (with_reducible exact LeO.none _)
      | (with_reducible refine LeO.ite ?_ ?_)
      | (with_reducible refine LeO.bind ?_ (fun _ => ?_))
      | exact ih0 _ _ _
      | exact LeO.none _
      | refine LeO.ite ?_ ?_
      | refine LeO.bind ?_ (fun _ => ?_)
set_option maxHeartbeats 8000000 in
set_option maxRecDepth 100000 in
theorem burinref02_Same.calls (k : Nat) (A0 : Option Addr) (c0 : Nat) (l0 : List (S62)) (A1 : Option Addr) (c1 : Nat) (l1 : List (S62)) (r : Bool) (w : World) (hr0 : Kd.C k62 w A0 l0.length l0) (hc0 : l0.length ≤ c0) (hr1 : Kd.C k62 w A1 l1.length l1) (hc1 : l1.length ≤ c1) (h : burinref02_Same.f k l0 l1 = some r) :
    Calls Tryd.prog 59 #[.slice A0 l0.length c0, .slice A1 l1.length c1] w fun e w' => e = .returned (.bool r) ∧ Drawn0 w w' := by
  have hu62 := Tryd.underlying62
  have HR0 := Aside0.mk hr0
  have HC0 := Aside0.mk hc0
  clear hr0 hc0
  have HR1 := Aside0.mk hr1
  have HC1 := Aside0.mk hc1
  clear hr1 hc1
  have H : (if (l0.length : Int) = (l1.length : Int) then (burinref02_Same.l0 k l0 l1 0) else (some false)) = some r := h
  clear h
  by_cases c3 : (l0.length : Int) = (l1.length : Int)
  · rw [if_pos c3] at H
    have c3b0 : ((l0.length : Int) == (l1.length : Int)) = true := beq_iff_eq.mpr c3
    have c3b1 : ((l0.length : Int) != (l1.length : Int)) = false := bne_eq_false_iff_eq.mpr c3
    have c3b2 : (l0.length == l1.length) = true := by first | simpa using c3 | (simp at c3 ⊢; omega)
    clear c3
    have H' := Aside0.mk H
    clear H
    go_enter Tryd.func59, Tryd.ntmps59
    go_wp2
    repeat (go_quiet (fail); try go_wp2)
    go_loopg [5] k (fun kq v5 w' => ∃ (x5_1 : Int), v5 = .int .i64 x5_1 ∧ Aside0 (burinref02_Same.l0 kq l0 l1 x5_1 = some r) ∧ Aside0 (kq ≤ k) ∧ Drawn0 w w')
    case atStart => exact ⟨(0), (by first | rfl | (simp; done) | (simp [*]; done)), H', ⟨Nat.le_refl _⟩, by repeat (first | exact Drawn0.refl _ | apply Drawn0.step)⟩
    case round =>
      clear H'
      try clear c1
      try clear p2
      try clear c3
      try clear c3b0
      try clear c3b1
      try clear c3b2
      obtain ⟨x5_1, rfl, HA, HK1, ⟨m1, rfl⟩⟩ := hrel
      cases gk with
      | zero => exact absurd HA.out (by simp [burinref02_Same.l0])
      | succ k1 =>
        have H := HA.out
        clear HA
        simp only [burinref02_Same.l0] at H
        by_cases c4 : x5_1 < (l0.length : Int)
        · rw [if_pos c4] at H
          have c4b0 : decide (x5_1 < (l0.length : Int)) = true := decide_eq_true c4
          clear c4
          by_cases c5 : 0 ≤ x5_1
          · rw [if_pos c5] at H
            have c5b0 : decide (0 ≤ x5_1) = true := decide_eq_true c5
            clear c5
            by_cases c6 : x5_1 < (l1.length : Int)
            · rw [if_pos c6] at H
              have c6b0 : decide (x5_1 < (l1.length : Int)) = true := decide_eq_true c6
              clear c6
              by_cases c7 : (!(((rd_T62 l0 x5_1).f0) == ((rd_T62 l1 x5_1).f0)) || (!((((rd_T62 l0 x5_1).f1).toList) == (((rd_T62 l1 x5_1).f1).toList)) || (!((((rd_T62 l0 x5_1).f2).toList) == (((rd_T62 l1 x5_1).f2).toList)) || (!(((rd_T62 l0 x5_1).f3) == ((rd_T62 l1 x5_1).f3)) || (!(((rd_T62 l0 x5_1).f4) == ((rd_T62 l1 x5_1).f4)) || (!(((rd_T62 l0 x5_1).f5) == ((rd_T62 l1 x5_1).f5)))))))) = true
              · rw [if_pos c7] at H
                have c7b0 : (!(((rd_T62 l0 x5_1).f0) == ((rd_T62 l1 x5_1).f0)) || (!((((rd_T62 l0 x5_1).f1).toList) == (((rd_T62 l1 x5_1).f1).toList)) || (!((((rd_T62 l0 x5_1).f2).toList) == (((rd_T62 l1 x5_1).f2).toList)) || (!(((rd_T62 l0 x5_1).f3) == ((rd_T62 l1 x5_1).f3)) || (!(((rd_T62 l0 x5_1).f4) == ((rd_T62 l1 x5_1).f4)) || (!(((rd_T62 l0 x5_1).f5) == ((rd_T62 l1 x5_1).f5)))))))) = true := c7
                clear c7
                obtain rfl := Option.some.inj H
                have p166 : 0 ≤ (x5_1 : Int) := of_decide_eq_true (by first | (with_reducible assumption) | assumption)
                have q166 : x5_1 < (l0.length : Int) := of_decide_eq_true (by first | (with_reducible assumption) | assumption)
                obtain ⟨ad166, e166, hx166_0, hx166_1, hx166_2, hx166_3, hx166_4, hx166_5⟩ := at_T62 HR0.out x5_1 p166 q166
                cases e166
                replace p166 := eq_true p166
                replace q166 := eq_true q166
                have p167 : 0 ≤ (x5_1 : Int) := of_decide_eq_true (by first | (with_reducible assumption) | assumption)
                have q167 : x5_1 < (l1.length : Int) := of_decide_eq_true (by first | (with_reducible assumption) | assumption)
                obtain ⟨ad167, e167, hx167_0, hx167_1, hx167_2, hx167_3, hx167_4, hx167_5⟩ := at_T62 HR1.out x5_1 p167 q167
                cases e167
                replace p167 := eq_true p167
                replace q167 := eq_true q167
                go_wp2
                repeat (go_quiet (fail); try go_wp2)
                go_ret
                exact ⟨by first | rfl | (simp; done) | (simp [*]; done), by repeat (first | exact Drawn0.refl _ | apply Drawn0.step)⟩
              · rw [if_neg c7] at H
                have c7b0 : (!(((rd_T62 l0 x5_1).f0) == ((rd_T62 l1 x5_1).f0)) || (!((((rd_T62 l0 x5_1).f1).toList) == (((rd_T62 l1 x5_1).f1).toList)) || (!((((rd_T62 l0 x5_1).f2).toList) == (((rd_T62 l1 x5_1).f2).toList)) || (!(((rd_T62 l0 x5_1).f3) == ((rd_T62 l1 x5_1).f3)) || (!(((rd_T62 l0 x5_1).f4) == ((rd_T62 l1 x5_1).f4)) || (!(((rd_T62 l0 x5_1).f5) == ((rd_T62 l1 x5_1).f5)))))))) = false := by simpa using c7
                clear c7
                have H' := Aside0.mk H
                clear H
                have p166 : 0 ≤ (x5_1 : Int) := of_decide_eq_true (by first | (with_reducible assumption) | assumption)
                have q166 : x5_1 < (l0.length : Int) := of_decide_eq_true (by first | (with_reducible assumption) | assumption)
                obtain ⟨ad166, e166, hx166_0, hx166_1, hx166_2, hx166_3, hx166_4, hx166_5⟩ := at_T62 HR0.out x5_1 p166 q166
                cases e166
                replace p166 := eq_true p166
                replace q166 := eq_true q166
                have p167 : 0 ≤ (x5_1 : Int) := of_decide_eq_true (by first | (with_reducible assumption) | assumption)
                have q167 : x5_1 < (l1.length : Int) := of_decide_eq_true (by first | (with_reducible assumption) | assumption)
                obtain ⟨ad167, e167, hx167_0, hx167_1, hx167_2, hx167_3, hx167_4, hx167_5⟩ := at_T62 HR1.out x5_1 p167 q167
                cases e167
                replace p167 := eq_true p167
                replace q167 := eq_true q167
                go_wp2
                repeat (go_quiet (fail); try go_wp2)
                go_roundg k1
                case measure => have := HK1.out; omega
                case rel => exact ⟨(wrap64 (x5_1 + 1)), (by first | rfl | (simp; done) | (simp [*]; done)), H', ⟨by have := HK1.out; omega⟩, by repeat (first | exact Drawn0.refl _ | apply Drawn0.step)⟩
            · rw [if_neg c6] at H
              exact absurd H (by simp)
          · rw [if_neg c5] at H
            exact absurd H (by simp)
        · rw [if_neg c4] at H
          have c4b0 : decide (x5_1 < (l0.length : Int)) = false := decide_eq_false c4
          clear c4
          obtain rfl := Option.some.inj H
          go_wp2
          repeat (go_quiet (fail); try go_wp2)
          go_ret
          exact ⟨by first | rfl | (simp; done) | (simp [*]; done), by repeat (first | exact Drawn0.refl _ | apply Drawn0.step)⟩
  · rw [if_neg c3] at H
    have c3b0 : ((l0.length : Int) == (l1.length : Int)) = false := beq_eq_false_iff_ne.mpr c3
    have c3b1 : ((l0.length : Int) != (l1.length : Int)) = true := bne_iff_ne.mpr c3
    have c3b2 : (l0.length == l1.length) = false := by first | simpa using c3 | (simp at c3 ⊢; omega)
    obtain rfl := Option.some.inj H
    go_enter Tryd.func59, Tryd.ntmps59
    go_wp2
    repeat (go_quiet (fail); try go_wp2)
    go_ret
    exact ⟨by first | rfl | (simp; done) | (simp [*]; done), by repeat (first | exact Drawn0.refl _ | apply Drawn0.step)⟩

/-! ### burinref02_Spell: function 63 -/
mutual
def burinref02_Spell.l0 : Nat → List (S62) → List Int → Int → Option (ByteArray)
  | 0, _, _, _ => none
  | k + 1, x0, x3, x4 => if x4 < (x0.length : Int) then (if x4 > 0 then (if 0 ≤ x4 then (burinref02_Spell.j1 k x0 x3 x4 ((rd_T62 x0 x4).f5)) else (none)) else (burinref02_Spell.j1 k x0 x3 x4 false)) else (some (strOfNums x3))
def burinref02_Spell.j1 : Nat → List (S62) → List Int → Int → Bool → Option (ByteArray)
  | 0, _, _, _, _ => none
  | k + 1, x0, x3, x4, x19 => if x19 = true then (if x3.length < 140737488355328 then ((some (x3 ++ [10] : List Int)).bind fun y169 => (if 0 ≤ x4 then (if x4 < (x0.length : Int) then (if y169.length + ((rd_T62 x0 x4).f1).size < 140737488355328 then (burinref02_Spell.l0 k x0 (y169 ++ bytesOf ((rd_T62 x0 x4).f1)) (wrap64 (x4 + 1))) else (none)) else (none)) else (none))) else (none)) else (if x4 > 0 then (if 0 ≤ x4 then (if x4 < (x0.length : Int) then (if (rd_T62 x0 x4).f4 = true then (if x3.length < 140737488355328 then ((some (x3 ++ [32] : List Int)).bind fun y177 => (if y177.length + ((rd_T62 x0 x4).f1).size < 140737488355328 then (burinref02_Spell.l0 k x0 (y177 ++ bytesOf ((rd_T62 x0 x4).f1)) (wrap64 (x4 + 1))) else (none))) else (none)) else (if x3.length + ((rd_T62 x0 x4).f1).size < 140737488355328 then (burinref02_Spell.l0 k x0 (x3 ++ bytesOf ((rd_T62 x0 x4).f1)) (wrap64 (x4 + 1))) else (none))) else (none)) else (none)) else (if 0 ≤ x4 then (if x4 < (x0.length : Int) then (if x3.length + ((rd_T62 x0 x4).f1).size < 140737488355328 then (burinref02_Spell.l0 k x0 (x3 ++ bytesOf ((rd_T62 x0 x4).f1)) (wrap64 (x4 + 1))) else (none)) else (none)) else (none)))
end
def burinref02_Spell.f (k : Nat) (l0 : List (S62)) : Option (ByteArray) := burinref02_Spell.l0 k l0 ([] : List Int) 0
theorem burinref02_Spell.mono_l : ∀ k, (∀ y0 y1 y2, LeO (burinref02_Spell.l0 k y0 y1 y2) (burinref02_Spell.l0 (k + 1) y0 y1 y2)) ∧ (∀ y0 y1 y2 y3, LeO (burinref02_Spell.j1 k y0 y1 y2 y3) (burinref02_Spell.j1 (k + 1) y0 y1 y2 y3))
  | 0 => ⟨fun _ _ _ r h => by simp [burinref02_Spell.l0] at h, fun _ _ _ _ r h => by simp [burinref02_Spell.j1] at h⟩
  | k + 1 => by
    obtain ⟨ih0, ih1⟩ := burinref02_Spell.mono_l k
    refine ⟨?_, ?_⟩
    · intro y0 y1 y2
      unfold burinref02_Spell.l0
      repeat' first
      | (with_reducible exact ih0 _ _ _)
      | (with_reducible exact ih1 _ _ _ _)
      | (with_reducible exact LeO.refl _)
      | (with_reducible exact LeO.none _)
      | (with_reducible refine LeO.ite ?_ ?_)
      | (with_reducible refine LeO.bind ?_ (fun _ => ?_))
      | exact ih0 _ _ _
      | exact ih1 _ _ _ _
      | exact LeO.none _
      | refine LeO.ite ?_ ?_
      | refine LeO.bind ?_ (fun _ => ?_)
    · intro y0 y1 y2 y3
      unfold burinref02_Spell.j1
      repeat' first
      | (with_reducible exact ih0 _ _ _)
      | (with_reducible exact ih1 _ _ _ _)
      | (with_reducible exact LeO.refl _)
      | (with_reducible exact LeO.none _)
      | (with_reducible refine LeO.ite ?_ ?_)
      | (with_reducible refine LeO.bind ?_ (fun _ => ?_))
      | exact ih0 _ _ _
      | exact ih1 _ _ _ _
      | exact LeO.none _
      | refine LeO.ite ?_ ?_
      | refine LeO.bind ?_ (fun _ => ?_)
theorem burinref02_Spell.mono : ∀ a0 k, LeO (burinref02_Spell.f k a0) (burinref02_Spell.f (k + 1) a0) := by
  intro a0 k
  obtain ⟨ih0, ih1⟩ := burinref02_Spell.mono_l k
  unfold burinref02_Spell.f
  repeat' first
      | (with_reducible exact ih0 _ _ _)
      | (with_reducible exact ih1 _ _ _ _)
      | (with_reducible exact LeO.refl _)
      | (with_reducible exact LeO.none _)
      | (with_reducible refine LeO.ite ?_ ?_)
      | (with_reducible refine LeO.bind ?_ (fun _ => ?_))
      | exact ih0 _ _ _
      | exact ih1 _ _ _ _
      | exact LeO.none _
      | refine LeO.ite ?_ ?_
      | refine LeO.bind ?_ (fun _ => ?_)
set_option maxHeartbeats 8000000 in
set_option maxRecDepth 100000 in
theorem burinref02_Spell.calls (k : Nat) (A0 : Option Addr) (c0 : Nat) (l0 : List (S62)) (r : ByteArray) (w : World) (hr0 : Kd.C k62 w A0 l0.length l0) (hc0 : l0.length ≤ c0) (h : burinref02_Spell.f k l0 = some r) :
    Calls Tryd.prog 63 #[.slice A0 l0.length c0] w fun e w' => e = .returned (.string r) ∧ Below w.heap.size w w' := by
  have HR0 := Aside0.mk hr0
  have HC0 := Aside0.mk hc0
  clear hr0 hc0
  have HB := Aside0.mk (Below.refl w.heap.size w)
  have H : (burinref02_Spell.l0 k l0 ([] : List Int) 0) = some r := h
  clear h
  have H' := Aside0.mk H
  clear H
  go_enter Tryd.func63, Tryd.ntmps63
  go_wp2
  go_loopg [3, 4] k (fun kq v3 v4 w' => ∃ (x3_1 : List Int) (x4_1 : Int), v4 = .int .i64 x4_1 ∧ Aside0 (burinref02_Spell.l0 kq l0 x3_1 x4_1 = some r) ∧ Aside0 (kq ≤ k) ∧ Aside0 (Kd.R (Kd.int .u8) 5 w' w.heap.size (fun _ => True) v3 x3_1) ∧ Aside0 (Below w.heap.size w w'))
  case atStart => exact ⟨(([] : List Int)), (0), (by first | rfl | (simp; done) | (simp [*]; done)), H', ⟨Nat.le_refl _⟩, ⟨by first | exact Kd.R_nil _ _ _ _ _ | exact Kd.N_nil _ _ _ _ _ | exact Kd.V_nil _ _ _ _ _ | exact Kd.Q_nil _ _ _ _ _ | exact Kd.S_nil _ _ _ _ _⟩, ⟨by repeat (first | (with_reducible first | exact HB.out | apply below_alloc | apply pw_below_drewN | apply below_drew1) | exact HB.out)⟩⟩
  case round =>
    clear H'
    obtain ⟨x3_1, x4_1, rfl, HA, HK1, HO_3, HB⟩ := hrel
    cases gk with
    | zero => exact absurd HA.out (by simp [burinref02_Spell.l0])
    | succ k1 =>
      have H := HA.out
      clear HA
      simp only [burinref02_Spell.l0] at H
      by_cases c2 : x4_1 < (l0.length : Int)
      · rw [if_pos c2] at H
        have c2b0 : decide (x4_1 < (l0.length : Int)) = true := decide_eq_true c2
        clear c2
        have HC3 := Aside0.mk H
        clear H
        go_upto_region 5 with (fail)
        go_cut [19] (fun v19 wc => ∃ (kq : Nat) (x19_2 : Bool), v19 = .bool x19_2 ∧ Aside0 (burinref02_Spell.j1 kq l0 x3_1 x4_1 x19_2 = some r) ∧ Aside0 (kq ≤ k1) ∧ Aside0 (Kd.R (Kd.int .u8) 5 wc w.heap.size (fun _ => True) u3 x3_1) ∧ Aside0 (Below w.heap.size w wc))
        case first =>
          have H := HC3.out
          clear HC3
          by_cases c4 : x4_1 > 0
          · rw [if_pos c4] at H
            have c4b0 : decide (0 < x4_1) = true := decide_eq_true c4
            clear c4
            (first | rw [c4b0] | (simp only [i64_w, i32_w]; rw [c4b0]) | skip)
            by_cases c5 : 0 ≤ x4_1
            · rw [if_pos c5] at H
              have c5b0 : decide (0 ≤ x4_1) = true := decide_eq_true c5
              clear c5
              have H' := Aside0.mk H
              clear H
              have p168 : 0 ≤ (x4_1 : Int) := of_decide_eq_true (by first | (with_reducible assumption) | assumption)
              have q168 : x4_1 < (l0.length : Int) := of_decide_eq_true (by first | (with_reducible assumption) | assumption)
              obtain ⟨ad168, e168, hx168_0, hx168_1, hx168_2, hx168_3, hx168_4, hx168_5⟩ := at_T62 HR0.out x4_1 p168 q168
              cases e168
              replace hx168_0 := (HB.out.cell (World.block_lt_of_cell? w _ hx168_0)).trans hx168_0
              replace hx168_1 := (HB.out.cell (World.block_lt_of_cell? w _ hx168_1)).trans hx168_1
              replace hx168_2 := (HB.out.cell (World.block_lt_of_cell? w _ hx168_2)).trans hx168_2
              replace hx168_3 := (HB.out.cell (World.block_lt_of_cell? w _ hx168_3)).trans hx168_3
              replace hx168_4 := (HB.out.cell (World.block_lt_of_cell? w _ hx168_4)).trans hx168_4
              replace hx168_5 := (HB.out.cell (World.block_lt_of_cell? w _ hx168_5)).trans hx168_5
              replace p168 := eq_true p168
              replace q168 := eq_true q168
              go_wp2
              go_meet
              case rel => exact ⟨_, ((rd_T62 l0 x4_1).f5), (by first | rfl | (simp; done) | (simp [*]; done)), H', ⟨by have := HK1.out; first | omega | exact Nat.le_refl _⟩, ⟨by (with_reducible repeat (first | apply Kd.R_alloc | apply Kd.R_drewN | apply Kd.R_drew)); exact HO_3.out⟩, ⟨by repeat (first | (with_reducible first | exact HB.out | apply below_alloc | apply pw_below_drewN | apply below_drew1) | exact HB.out)⟩⟩
            · rw [if_neg c5] at H
              exact absurd H (by simp)
          · rw [if_neg c4] at H
            have c4b0 : decide (0 < x4_1) = false := decide_eq_false c4
            clear c4
            (first | rw [c4b0] | (simp only [i64_w, i32_w]; rw [c4b0]) | skip)
            have H' := Aside0.mk H
            clear H
            go_wp2
            go_meet
            case rel => exact ⟨_, (false), (by first | rfl | (simp; done) | (simp [*]; done)), H', ⟨by have := HK1.out; first | omega | exact Nat.le_refl _⟩, ⟨by (with_reducible repeat (first | apply Kd.R_alloc | apply Kd.R_drewN | apply Kd.R_drew)); exact HO_3.out⟩, ⟨by repeat (first | (with_reducible first | exact HB.out | apply below_alloc | apply pw_below_drewN | apply below_drew1) | exact HB.out)⟩⟩
        case rest =>
          clear HC3
          try clear p1
          try clear q1
          try clear hx1
          try clear c2
          try clear c2b0
          try clear p2
          try clear c4
          try clear c4b0
          try clear c5
          try clear c5b0
          try clear hx168_0
          try clear hx168_1
          try clear hx168_2
          try clear hx168_3
          try clear hx168_4
          try clear hx168_5
          try clear p168
          try clear q168
          obtain ⟨kq, x19_2, rfl, HA, HJ2, HO_3, HB⟩ := hcut
          cases kq with
          | zero => exact absurd HA.out (by simp [burinref02_Spell.j1])
          | succ kj2 =>
            have H := HA.out
            clear HA
            simp only [burinref02_Spell.j1] at H
            by_cases c6 : x19_2 = true
            · subst c6
              have H1 : (if x3_1.length < 140737488355328 then ((some (x3_1 ++ [10] : List Int)).bind fun y169 => (if 0 ≤ x4_1 then (if x4_1 < (l0.length : Int) then (if y169.length + ((rd_T62 l0 x4_1).f1).size < 140737488355328 then (burinref02_Spell.l0 kj2 l0 (y169 ++ bytesOf ((rd_T62 l0 x4_1).f1)) (wrap64 (x4_1 + 1))) else (none)) else (none)) else (none))) else (none)) = some r := by rw [if_pos rfl] at H; exact H
              clear H
              have H := H1
              clear H1
              by_cases c7 : x3_1.length < 140737488355328
              · rw [if_pos c7] at H
                have LMc7 := Aside0.mk c7
                clear c7
                obtain ⟨y169, hy169⟩ : ∃ y_ : List Int, y_ = (x3_1 ++ [10]) := ⟨_, rfl⟩
                replace H : (if 0 ≤ x4_1 then (if x4_1 < (l0.length : Int) then (if y169.length + ((rd_T62 l0 x4_1).f1).size < 140737488355328 then (burinref02_Spell.l0 kj2 l0 (y169 ++ bytesOf ((rd_T62 l0 x4_1).f1)) (wrap64 (x4_1 + 1))) else (none)) else (none)) else (none)) = some r := by first | (rw [hy169]; with_reducible exact H) | (have H2_ := (Option.bind_some _ _).symm.trans H; rw [hy169]; with_reducible exact H2_) | (have H2_ := (Option.bind_some _ _).symm.trans H; with_reducible exact H2_) | with_reducible exact H | (rw [hy169]; exact H) | exact H
                have Ny169 := Aside0.mk hy169
                clear hy169
                by_cases c8 : 0 ≤ x4_1
                · rw [if_pos c8] at H
                  have c8b0 : decide (0 ≤ x4_1) = true := decide_eq_true c8
                  clear c8
                  by_cases c9 : x4_1 < (l0.length : Int)
                  · rw [if_pos c9] at H
                    have c9b0 : decide (x4_1 < (l0.length : Int)) = true := decide_eq_true c9
                    clear c9
                    by_cases c10 : y169.length + ((rd_T62 l0 x4_1).f1).size < 140737488355328
                    · rw [if_pos c10] at H
                      have LMc10 := Aside0.mk c10
                      clear c10
                      obtain ⟨y173, hy173⟩ : ∃ y_ : List Int, y_ = (y169 ++ bytesOf ((rd_T62 l0 x4_1).f1)) := ⟨_, rfl⟩
                      replace H : (burinref02_Spell.l0 kj2 l0 y173 (wrap64 (x4_1 + 1))) = some r := by first | (rw [hy173]; with_reducible exact H) | (have H2_ := (Option.bind_some _ _).symm.trans H; rw [hy173]; with_reducible exact H2_) | (have H2_ := (Option.bind_some _ _).symm.trans H; with_reducible exact H2_) | with_reducible exact H | (rw [hy173]; exact H) | exact H
                      have Ny173 := Aside0.mk hy173
                      clear hy173
                      have H' := Aside0.mk H
                      clear H
                      go_wp2_with (first | ((with_reducible refine gate_builtin (b := .append) (xs := #[.tmp 20, .tmp 21]) rfl ?_); at_builtin; refine Kd.R_append (Kd.int .u8) (w0 := w) w.heap.size rfl (.tmp 20) (.tmp 21) 60 5 (.int .u8 0) 1 rfl Tryd.underlying60 info5 rfl (by decide) (by omega) u3 x3_1 10 [.int .u8 10] (fun _ => True) (fun _ => False) rfl rfl ?aP (fun _ hk => hk.elim) ?aF ?aO ?aB ?aS ?aL ?_; (case aP => exact rfl); (case aB => exact (by repeat (first | (with_reducible first | exact HB.out | apply below_alloc | apply pw_below_drewN | apply below_drew1) | exact HB.out))); (case aF => exact (fun _ _ => trivial)); (case aO => exact (by (with_reducible repeat (first | apply Kd.R_alloc | apply Kd.R_drewN | apply Kd.R_drew)); exact HO_3.out)); (case aS => exact (below_size (by repeat (first | (with_reducible first | exact HB.out | apply below_alloc | apply pw_below_drewN | apply below_drew1) | exact HB.out)))); (case aL => have := LMc7.out; omega); intro v170 w11 ho hb hg hat; rw [← Ny169.out] at ho; have n0_ := Aside0.mk (hb); have n1_ := Aside0.mk (ho); clear HB; clear HO_3; have HB := n0_; have HO171 := n1_; clear n0_ n1_; clear ho hb hg hat; have p172 : 0 ≤ (x4_1 : Int) := of_decide_eq_true (by first | (with_reducible assumption) | assumption); have q172 : x4_1 < (l0.length : Int) := of_decide_eq_true (by first | (with_reducible assumption) | assumption); obtain ⟨ad172, e172, hx172_0, hx172_1, hx172_2, hx172_3, hx172_4, hx172_5⟩ := at_T62 HR0.out x4_1 p172 q172; cases e172; replace hx172_0 := (HB.out.cell (World.block_lt_of_cell? w _ hx172_0)).trans hx172_0; replace hx172_1 := (HB.out.cell (World.block_lt_of_cell? w _ hx172_1)).trans hx172_1; replace hx172_2 := (HB.out.cell (World.block_lt_of_cell? w _ hx172_2)).trans hx172_2; replace hx172_3 := (HB.out.cell (World.block_lt_of_cell? w _ hx172_3)).trans hx172_3; replace hx172_4 := (HB.out.cell (World.block_lt_of_cell? w _ hx172_4)).trans hx172_4; replace hx172_5 := (HB.out.cell (World.block_lt_of_cell? w _ hx172_5)).trans hx172_5; replace p172 := eq_true p172; replace q172 := eq_true q172) | (at_builtin; refine print_append_str (w0 := w) w.heap.size rfl (.tmp 35) _ 60 9 5 rfl Tryd.underlying60 Tryd.underlying9 info5 v170 y169 ((rd_T62 l0 x4_1).f1) rfl rfl ?aO ?aB ?aS ?aL ?_; (case aB => exact (by repeat (first | (with_reducible first | exact HB.out | apply below_alloc | apply pw_below_drewN | apply below_drew1) | exact HB.out))); (case aO => exact (Kd.own_of_R (by (with_reducible repeat (first | apply Kd.R_alloc | apply Kd.R_drewN | apply Kd.R_drew)); exact HO171.out))); (case aS => exact (below_size (by repeat (first | (with_reducible first | exact HB.out | apply below_alloc | apply pw_below_drewN | apply below_drew1) | exact HB.out)))); (case aL => have := LMc10.out; omega); intro v174 w12 ho0 hb hg; have ho := Kd.R_of_own (h1 := fun _ => rfl) (ok := fun _ => True) ho0 (fun _ _ => trivial); clear ho0; have hat := True.intro; rw [← Ny173.out] at ho; change Kd.R (Kd.int .u8) 5 w12 w.heap.size (fun _ => True) v174 y173 at ho; have n0_ := Aside0.mk (hb); have n1_ := Aside0.mk (ho); clear HB; clear HO171; have HB := n0_; have HO175 := n1_; clear n0_ n1_; clear ho hb hg hat))
                      go_roundg kj2
                      case measure => have := HK1.out; have := HJ2.out; omega
                      case rel => exact ⟨(y173), (wrap64 (x4_1 + 1)), (by first | rfl | (simp; done) | (simp [*]; done)), H', ⟨by have := HK1.out; have := HJ2.out; omega⟩, ⟨by (with_reducible repeat (first | apply Kd.R_alloc | apply Kd.R_drewN | apply Kd.R_drew)); exact HO175.out⟩, ⟨by repeat (first | (with_reducible first | exact HB.out | apply below_alloc | apply pw_below_drewN | apply below_drew1) | exact HB.out)⟩⟩
                    · rw [if_neg c10] at H
                      exact absurd H (by simp)
                  · rw [if_neg c9] at H
                    exact absurd H (by simp)
                · rw [if_neg c8] at H
                  exact absurd H (by simp)
              · rw [if_neg c7] at H
                exact absurd H (by simp)
            · replace c6 := Bool.eq_false_iff.mpr c6
              subst c6
              have H1 : (if x4_1 > 0 then (if 0 ≤ x4_1 then (if x4_1 < (l0.length : Int) then (if (rd_T62 l0 x4_1).f4 = true then (if x3_1.length < 140737488355328 then ((some (x3_1 ++ [32] : List Int)).bind fun y177 => (if y177.length + ((rd_T62 l0 x4_1).f1).size < 140737488355328 then (burinref02_Spell.l0 kj2 l0 (y177 ++ bytesOf ((rd_T62 l0 x4_1).f1)) (wrap64 (x4_1 + 1))) else (none))) else (none)) else (if x3_1.length + ((rd_T62 l0 x4_1).f1).size < 140737488355328 then (burinref02_Spell.l0 kj2 l0 (x3_1 ++ bytesOf ((rd_T62 l0 x4_1).f1)) (wrap64 (x4_1 + 1))) else (none))) else (none)) else (none)) else (if 0 ≤ x4_1 then (if x4_1 < (l0.length : Int) then (if x3_1.length + ((rd_T62 l0 x4_1).f1).size < 140737488355328 then (burinref02_Spell.l0 kj2 l0 (x3_1 ++ bytesOf ((rd_T62 l0 x4_1).f1)) (wrap64 (x4_1 + 1))) else (none)) else (none)) else (none))) = some r := by rw [if_neg (show ¬ (false = true) by decide)] at H; exact H
              clear H
              have H := H1
              clear H1
              by_cases c13 : x4_1 > 0
              · rw [if_pos c13] at H
                have c13b0 : decide (0 < x4_1) = true := decide_eq_true c13
                clear c13
                by_cases c14 : 0 ≤ x4_1
                · rw [if_pos c14] at H
                  have c14b0 : decide (0 ≤ x4_1) = true := decide_eq_true c14
                  clear c14
                  by_cases c15 : x4_1 < (l0.length : Int)
                  · rw [if_pos c15] at H
                    have c15b0 : decide (x4_1 < (l0.length : Int)) = true := decide_eq_true c15
                    clear c15
                    obtain ⟨bq16, hbq16⟩ : ∃ b_ : Bool, b_ = ((rd_T62 l0 x4_1).f4) := ⟨_, rfl⟩
                    replace H : (if bq16 = true then (if x3_1.length < 140737488355328 then ((some (x3_1 ++ [32] : List Int)).bind fun y177 => (if y177.length + ((rd_T62 l0 x4_1).f1).size < 140737488355328 then (burinref02_Spell.l0 kj2 l0 (y177 ++ bytesOf ((rd_T62 l0 x4_1).f1)) (wrap64 (x4_1 + 1))) else (none))) else (none)) else (if x3_1.length + ((rd_T62 l0 x4_1).f1).size < 140737488355328 then (burinref02_Spell.l0 kj2 l0 (x3_1 ++ bytesOf ((rd_T62 l0 x4_1).f1)) (wrap64 (x4_1 + 1))) else (none))) = some r := by rw [← hbq16] at H; exact H
                    have Nbq16 := Aside0.mk hbq16
                    clear hbq16
                    by_cases c17 : bq16 = true
                    · subst c17
                      have H1 : (if x3_1.length < 140737488355328 then ((some (x3_1 ++ [32] : List Int)).bind fun y177 => (if y177.length + ((rd_T62 l0 x4_1).f1).size < 140737488355328 then (burinref02_Spell.l0 kj2 l0 (y177 ++ bytesOf ((rd_T62 l0 x4_1).f1)) (wrap64 (x4_1 + 1))) else (none))) else (none)) = some r := by rw [if_pos rfl] at H; exact H
                      clear H
                      have H := H1
                      clear H1
                      by_cases c18 : x3_1.length < 140737488355328
                      · rw [if_pos c18] at H
                        have LMc18 := Aside0.mk c18
                        clear c18
                        obtain ⟨y177, hy177⟩ : ∃ y_ : List Int, y_ = (x3_1 ++ [32]) := ⟨_, rfl⟩
                        replace H : (if y177.length + ((rd_T62 l0 x4_1).f1).size < 140737488355328 then (burinref02_Spell.l0 kj2 l0 (y177 ++ bytesOf ((rd_T62 l0 x4_1).f1)) (wrap64 (x4_1 + 1))) else (none)) = some r := by first | (rw [hy177]; with_reducible exact H) | (have H2_ := (Option.bind_some _ _).symm.trans H; rw [hy177]; with_reducible exact H2_) | (have H2_ := (Option.bind_some _ _).symm.trans H; with_reducible exact H2_) | with_reducible exact H | (rw [hy177]; exact H) | exact H
                        have Ny177 := Aside0.mk hy177
                        clear hy177
                        by_cases c19 : y177.length + ((rd_T62 l0 x4_1).f1).size < 140737488355328
                        · rw [if_pos c19] at H
                          have LMc19 := Aside0.mk c19
                          clear c19
                          obtain ⟨y181, hy181⟩ : ∃ y_ : List Int, y_ = (y177 ++ bytesOf ((rd_T62 l0 x4_1).f1)) := ⟨_, rfl⟩
                          replace H : (burinref02_Spell.l0 kj2 l0 y181 (wrap64 (x4_1 + 1))) = some r := by first | (rw [hy181]; with_reducible exact H) | (have H2_ := (Option.bind_some _ _).symm.trans H; rw [hy181]; with_reducible exact H2_) | (have H2_ := (Option.bind_some _ _).symm.trans H; with_reducible exact H2_) | with_reducible exact H | (rw [hy181]; exact H) | exact H
                          have Ny181 := Aside0.mk hy181
                          clear hy181
                          have H' := Aside0.mk H
                          clear H
                          have p176 : 0 ≤ (x4_1 : Int) := of_decide_eq_true (by first | (with_reducible assumption) | assumption)
                          have q176 : x4_1 < (l0.length : Int) := of_decide_eq_true (by first | (with_reducible assumption) | assumption)
                          obtain ⟨ad176, e176, hx176_0, hx176_1, hx176_2, hx176_3, hx176_4, hx176_5⟩ := at_T62 HR0.out x4_1 p176 q176
                          (try rw [← Nbq16.out] at hx176_4)
                          (try rw [← Nbq16.out] at hx176_5)
                          cases e176
                          replace hx176_0 := (HB.out.cell (World.block_lt_of_cell? w _ hx176_0)).trans hx176_0
                          replace hx176_1 := (HB.out.cell (World.block_lt_of_cell? w _ hx176_1)).trans hx176_1
                          replace hx176_2 := (HB.out.cell (World.block_lt_of_cell? w _ hx176_2)).trans hx176_2
                          replace hx176_3 := (HB.out.cell (World.block_lt_of_cell? w _ hx176_3)).trans hx176_3
                          replace hx176_4 := (HB.out.cell (World.block_lt_of_cell? w _ hx176_4)).trans hx176_4
                          replace hx176_5 := (HB.out.cell (World.block_lt_of_cell? w _ hx176_5)).trans hx176_5
                          replace p176 := eq_true p176
                          replace q176 := eq_true q176
                          go_wp2_with (first | ((with_reducible refine gate_builtin (b := .append) (xs := #[.tmp 32, .tmp 33]) rfl ?_); at_builtin; refine Kd.R_append (Kd.int .u8) (w0 := w) w.heap.size rfl (.tmp 32) (.tmp 33) 60 5 (.int .u8 0) 1 rfl Tryd.underlying60 info5 rfl (by decide) (by omega) u3 x3_1 32 [.int .u8 32] (fun _ => True) (fun _ => False) rfl rfl ?aP (fun _ hk => hk.elim) ?aF ?aO ?aB ?aS ?aL ?_; (case aP => exact rfl); (case aB => exact (by repeat (first | (with_reducible first | exact HB.out | apply below_alloc | apply pw_below_drewN | apply below_drew1) | exact HB.out))); (case aF => exact (fun _ _ => trivial)); (case aO => exact (by (with_reducible repeat (first | apply Kd.R_alloc | apply Kd.R_drewN | apply Kd.R_drew)); exact HO_3.out)); (case aS => exact (below_size (by repeat (first | (with_reducible first | exact HB.out | apply below_alloc | apply pw_below_drewN | apply below_drew1) | exact HB.out)))); (case aL => have := LMc18.out; omega); intro v178 w20 ho hb hg hat; rw [← Ny177.out] at ho; have n0_ := Aside0.mk (hb); have n1_ := Aside0.mk (ho); clear HB; clear HO_3; have HB := n0_; have HO179 := n1_; clear n0_ n1_; clear ho hb hg hat; have p180 : 0 ≤ (x4_1 : Int) := of_decide_eq_true (by first | (with_reducible assumption) | assumption); have q180 : x4_1 < (l0.length : Int) := of_decide_eq_true (by first | (with_reducible assumption) | assumption); obtain ⟨ad180, e180, hx180_0, hx180_1, hx180_2, hx180_3, hx180_4, hx180_5⟩ := at_T62 HR0.out x4_1 p180 q180; (try rw [← Nbq16.out] at hx180_4); (try rw [← Nbq16.out] at hx180_5); obtain rfl : ad176 = ad180 := (by injection e180); replace hx180_0 := (HB.out.cell (World.block_lt_of_cell? w _ hx180_0)).trans hx180_0; replace hx180_1 := (HB.out.cell (World.block_lt_of_cell? w _ hx180_1)).trans hx180_1; replace hx180_2 := (HB.out.cell (World.block_lt_of_cell? w _ hx180_2)).trans hx180_2; replace hx180_3 := (HB.out.cell (World.block_lt_of_cell? w _ hx180_3)).trans hx180_3; replace hx180_4 := (HB.out.cell (World.block_lt_of_cell? w _ hx180_4)).trans hx180_4; replace hx180_5 := (HB.out.cell (World.block_lt_of_cell? w _ hx180_5)).trans hx180_5; replace p180 := eq_true p180; replace q180 := eq_true q180) | (at_builtin; refine print_append_str (w0 := w) w.heap.size rfl (.tmp 35) _ 60 9 5 rfl Tryd.underlying60 Tryd.underlying9 info5 v178 y177 ((rd_T62 l0 x4_1).f1) rfl rfl ?aO ?aB ?aS ?aL ?_; (case aB => exact (by repeat (first | (with_reducible first | exact HB.out | apply below_alloc | apply pw_below_drewN | apply below_drew1) | exact HB.out))); (case aO => exact (Kd.own_of_R (by (with_reducible repeat (first | apply Kd.R_alloc | apply Kd.R_drewN | apply Kd.R_drew)); exact HO179.out))); (case aS => exact (below_size (by repeat (first | (with_reducible first | exact HB.out | apply below_alloc | apply pw_below_drewN | apply below_drew1) | exact HB.out)))); (case aL => have := LMc19.out; omega); intro v182 w21 ho0 hb hg; have ho := Kd.R_of_own (h1 := fun _ => rfl) (ok := fun _ => True) ho0 (fun _ _ => trivial); clear ho0; have hat := True.intro; rw [← Ny181.out] at ho; change Kd.R (Kd.int .u8) 5 w21 w.heap.size (fun _ => True) v182 y181 at ho; have n0_ := Aside0.mk (hb); have n1_ := Aside0.mk (ho); clear HB; clear HO179; have HB := n0_; have HO183 := n1_; clear n0_ n1_; clear ho hb hg hat))
                          go_roundg kj2
                          case measure => have := HK1.out; have := HJ2.out; omega
                          case rel => exact ⟨(y181), (wrap64 (x4_1 + 1)), (by first | rfl | (simp; done) | (simp [*]; done)), H', ⟨by have := HK1.out; have := HJ2.out; omega⟩, ⟨by (with_reducible repeat (first | apply Kd.R_alloc | apply Kd.R_drewN | apply Kd.R_drew)); exact HO183.out⟩, ⟨by repeat (first | (with_reducible first | exact HB.out | apply below_alloc | apply pw_below_drewN | apply below_drew1) | exact HB.out)⟩⟩
                        · rw [if_neg c19] at H
                          exact absurd H (by simp)
                      · rw [if_neg c18] at H
                        exact absurd H (by simp)
                    · replace c17 := Bool.eq_false_iff.mpr c17
                      subst c17
                      have H1 : (if x3_1.length + ((rd_T62 l0 x4_1).f1).size < 140737488355328 then (burinref02_Spell.l0 kj2 l0 (x3_1 ++ bytesOf ((rd_T62 l0 x4_1).f1)) (wrap64 (x4_1 + 1))) else (none)) = some r := by rw [if_neg (show ¬ (false = true) by decide)] at H; exact H
                      clear H
                      have H := H1
                      clear H1
                      by_cases c22 : x3_1.length + ((rd_T62 l0 x4_1).f1).size < 140737488355328
                      · rw [if_pos c22] at H
                        have LMc22 := Aside0.mk c22
                        clear c22
                        obtain ⟨y185, hy185⟩ : ∃ y_ : List Int, y_ = (x3_1 ++ bytesOf ((rd_T62 l0 x4_1).f1)) := ⟨_, rfl⟩
                        replace H : (burinref02_Spell.l0 kj2 l0 y185 (wrap64 (x4_1 + 1))) = some r := by first | (rw [hy185]; with_reducible exact H) | (have H2_ := (Option.bind_some _ _).symm.trans H; rw [hy185]; with_reducible exact H2_) | (have H2_ := (Option.bind_some _ _).symm.trans H; with_reducible exact H2_) | with_reducible exact H | (rw [hy185]; exact H) | exact H
                        have Ny185 := Aside0.mk hy185
                        clear hy185
                        have H' := Aside0.mk H
                        clear H
                        have p176 : 0 ≤ (x4_1 : Int) := of_decide_eq_true (by first | (with_reducible assumption) | assumption)
                        have q176 : x4_1 < (l0.length : Int) := of_decide_eq_true (by first | (with_reducible assumption) | assumption)
                        obtain ⟨ad176, e176, hx176_0, hx176_1, hx176_2, hx176_3, hx176_4, hx176_5⟩ := at_T62 HR0.out x4_1 p176 q176
                        (try rw [← Nbq16.out] at hx176_4)
                        (try rw [← Nbq16.out] at hx176_5)
                        cases e176
                        replace hx176_0 := (HB.out.cell (World.block_lt_of_cell? w _ hx176_0)).trans hx176_0
                        replace hx176_1 := (HB.out.cell (World.block_lt_of_cell? w _ hx176_1)).trans hx176_1
                        replace hx176_2 := (HB.out.cell (World.block_lt_of_cell? w _ hx176_2)).trans hx176_2
                        replace hx176_3 := (HB.out.cell (World.block_lt_of_cell? w _ hx176_3)).trans hx176_3
                        replace hx176_4 := (HB.out.cell (World.block_lt_of_cell? w _ hx176_4)).trans hx176_4
                        replace hx176_5 := (HB.out.cell (World.block_lt_of_cell? w _ hx176_5)).trans hx176_5
                        replace p176 := eq_true p176
                        replace q176 := eq_true q176
                        have p184 : 0 ≤ (x4_1 : Int) := of_decide_eq_true (by first | (with_reducible assumption) | assumption)
                        have q184 : x4_1 < (l0.length : Int) := of_decide_eq_true (by first | (with_reducible assumption) | assumption)
                        obtain ⟨ad184, e184, hx184_0, hx184_1, hx184_2, hx184_3, hx184_4, hx184_5⟩ := at_T62 HR0.out x4_1 p184 q184
                        (try rw [← Nbq16.out] at hx184_4)
                        (try rw [← Nbq16.out] at hx184_5)
                        obtain rfl : ad176 = ad184 := (by injection e184)
                        replace hx184_0 := (HB.out.cell (World.block_lt_of_cell? w _ hx184_0)).trans hx184_0
                        replace hx184_1 := (HB.out.cell (World.block_lt_of_cell? w _ hx184_1)).trans hx184_1
                        replace hx184_2 := (HB.out.cell (World.block_lt_of_cell? w _ hx184_2)).trans hx184_2
                        replace hx184_3 := (HB.out.cell (World.block_lt_of_cell? w _ hx184_3)).trans hx184_3
                        replace hx184_4 := (HB.out.cell (World.block_lt_of_cell? w _ hx184_4)).trans hx184_4
                        replace hx184_5 := (HB.out.cell (World.block_lt_of_cell? w _ hx184_5)).trans hx184_5
                        replace p184 := eq_true p184
                        replace q184 := eq_true q184
                        go_wp2_with (first | (at_builtin; refine print_append_str (w0 := w) w.heap.size rfl (.tmp 35) _ 60 9 5 rfl Tryd.underlying60 Tryd.underlying9 info5 u3 x3_1 ((rd_T62 l0 x4_1).f1) rfl rfl ?aO ?aB ?aS ?aL ?_; (case aB => exact (by repeat (first | (with_reducible first | exact HB.out | apply below_alloc | apply pw_below_drewN | apply below_drew1) | exact HB.out))); (case aO => exact (Kd.own_of_R (by (with_reducible repeat (first | apply Kd.R_alloc | apply Kd.R_drewN | apply Kd.R_drew)); exact HO_3.out))); (case aS => exact (below_size (by repeat (first | (with_reducible first | exact HB.out | apply below_alloc | apply pw_below_drewN | apply below_drew1) | exact HB.out)))); (case aL => have := LMc22.out; omega); intro v186 w23 ho0 hb hg; have ho := Kd.R_of_own (h1 := fun _ => rfl) (ok := fun _ => True) ho0 (fun _ _ => trivial); clear ho0; have hat := True.intro; rw [← Ny185.out] at ho; change Kd.R (Kd.int .u8) 5 w23 w.heap.size (fun _ => True) v186 y185 at ho; have n0_ := Aside0.mk (hb); have n1_ := Aside0.mk (ho); clear HB; clear HO_3; have HB := n0_; have HO187 := n1_; clear n0_ n1_; clear ho hb hg hat))
                        go_roundg kj2
                        case measure => have := HK1.out; have := HJ2.out; omega
                        case rel => exact ⟨(y185), (wrap64 (x4_1 + 1)), (by first | rfl | (simp; done) | (simp [*]; done)), H', ⟨by have := HK1.out; have := HJ2.out; omega⟩, ⟨by (with_reducible repeat (first | apply Kd.R_alloc | apply Kd.R_drewN | apply Kd.R_drew)); exact HO187.out⟩, ⟨by repeat (first | (with_reducible first | exact HB.out | apply below_alloc | apply pw_below_drewN | apply below_drew1) | exact HB.out)⟩⟩
                      · rw [if_neg c22] at H
                        exact absurd H (by simp)
                  · rw [if_neg c15] at H
                    exact absurd H (by simp)
                · rw [if_neg c14] at H
                  exact absurd H (by simp)
              · rw [if_neg c13] at H
                have c13b0 : decide (0 < x4_1) = false := decide_eq_false c13
                clear c13
                by_cases c24 : 0 ≤ x4_1
                · rw [if_pos c24] at H
                  have c24b0 : decide (0 ≤ x4_1) = true := decide_eq_true c24
                  clear c24
                  by_cases c25 : x4_1 < (l0.length : Int)
                  · rw [if_pos c25] at H
                    have c25b0 : decide (x4_1 < (l0.length : Int)) = true := decide_eq_true c25
                    clear c25
                    by_cases c26 : x3_1.length + ((rd_T62 l0 x4_1).f1).size < 140737488355328
                    · rw [if_pos c26] at H
                      have LMc26 := Aside0.mk c26
                      clear c26
                      obtain ⟨y189, hy189⟩ : ∃ y_ : List Int, y_ = (x3_1 ++ bytesOf ((rd_T62 l0 x4_1).f1)) := ⟨_, rfl⟩
                      replace H : (burinref02_Spell.l0 kj2 l0 y189 (wrap64 (x4_1 + 1))) = some r := by first | (rw [hy189]; with_reducible exact H) | (have H2_ := (Option.bind_some _ _).symm.trans H; rw [hy189]; with_reducible exact H2_) | (have H2_ := (Option.bind_some _ _).symm.trans H; with_reducible exact H2_) | with_reducible exact H | (rw [hy189]; exact H) | exact H
                      have Ny189 := Aside0.mk hy189
                      clear hy189
                      have H' := Aside0.mk H
                      clear H
                      have p188 : 0 ≤ (x4_1 : Int) := of_decide_eq_true (by first | (with_reducible assumption) | assumption)
                      have q188 : x4_1 < (l0.length : Int) := of_decide_eq_true (by first | (with_reducible assumption) | assumption)
                      obtain ⟨ad188, e188, hx188_0, hx188_1, hx188_2, hx188_3, hx188_4, hx188_5⟩ := at_T62 HR0.out x4_1 p188 q188
                      cases e188
                      replace hx188_0 := (HB.out.cell (World.block_lt_of_cell? w _ hx188_0)).trans hx188_0
                      replace hx188_1 := (HB.out.cell (World.block_lt_of_cell? w _ hx188_1)).trans hx188_1
                      replace hx188_2 := (HB.out.cell (World.block_lt_of_cell? w _ hx188_2)).trans hx188_2
                      replace hx188_3 := (HB.out.cell (World.block_lt_of_cell? w _ hx188_3)).trans hx188_3
                      replace hx188_4 := (HB.out.cell (World.block_lt_of_cell? w _ hx188_4)).trans hx188_4
                      replace hx188_5 := (HB.out.cell (World.block_lt_of_cell? w _ hx188_5)).trans hx188_5
                      replace p188 := eq_true p188
                      replace q188 := eq_true q188
                      go_wp2_with (first | (at_builtin; refine print_append_str (w0 := w) w.heap.size rfl (.tmp 35) _ 60 9 5 rfl Tryd.underlying60 Tryd.underlying9 info5 u3 x3_1 ((rd_T62 l0 x4_1).f1) rfl rfl ?aO ?aB ?aS ?aL ?_; (case aB => exact (by repeat (first | (with_reducible first | exact HB.out | apply below_alloc | apply pw_below_drewN | apply below_drew1) | exact HB.out))); (case aO => exact (Kd.own_of_R (by (with_reducible repeat (first | apply Kd.R_alloc | apply Kd.R_drewN | apply Kd.R_drew)); exact HO_3.out))); (case aS => exact (below_size (by repeat (first | (with_reducible first | exact HB.out | apply below_alloc | apply pw_below_drewN | apply below_drew1) | exact HB.out)))); (case aL => have := LMc26.out; omega); intro v190 w27 ho0 hb hg; have ho := Kd.R_of_own (h1 := fun _ => rfl) (ok := fun _ => True) ho0 (fun _ _ => trivial); clear ho0; have hat := True.intro; rw [← Ny189.out] at ho; change Kd.R (Kd.int .u8) 5 w27 w.heap.size (fun _ => True) v190 y189 at ho; have n0_ := Aside0.mk (hb); have n1_ := Aside0.mk (ho); clear HB; clear HO_3; have HB := n0_; have HO191 := n1_; clear n0_ n1_; clear ho hb hg hat))
                      go_roundg kj2
                      case measure => have := HK1.out; have := HJ2.out; omega
                      case rel => exact ⟨(y189), (wrap64 (x4_1 + 1)), (by first | rfl | (simp; done) | (simp [*]; done)), H', ⟨by have := HK1.out; have := HJ2.out; omega⟩, ⟨by (with_reducible repeat (first | apply Kd.R_alloc | apply Kd.R_drewN | apply Kd.R_drew)); exact HO191.out⟩, ⟨by repeat (first | (with_reducible first | exact HB.out | apply below_alloc | apply pw_below_drewN | apply below_drew1) | exact HB.out)⟩⟩
                    · rw [if_neg c26] at H
                      exact absurd H (by simp)
                  · rw [if_neg c25] at H
                    exact absurd H (by simp)
                · rw [if_neg c24] at H
                  exact absurd H (by simp)
      · rw [if_neg c2] at H
        have c2b0 : decide (x4_1 < (l0.length : Int)) = false := decide_eq_false c2
        clear c2
        obtain rfl := Option.some.inj H
        have hcv28 := own_string (P := Tryd.prog) Tryd.underlying60 Tryd.underlying5 Tryd.underlying9 (Kd.own_of_R HO_3.out)
        go_wp2
        go_ret
        exact ⟨by first | rfl | (simp [errW_none, errW_some] <;> rfl) | (simp [*, errW_none, errW_some] <;> rfl), by repeat (first | (with_reducible first | exact HB.out | apply below_alloc | apply pw_below_drewN | apply below_drew1) | exact HB.out)⟩

-- NOT PRINTED: function 123 (burinref03_spelt)

/-! ### burinref03_param: function 124 -/
def burinref03_param.l0 : Nat → Int → ByteArray → Bool → List ByteArray → Bool → List (S62) → Int → ByteArray → ByteArray → Int → Bool → Bool → Option (Int)
  | 0, _, _, _, _, _, _, _, _, _, _, _, _ => none
  | k + 1, x5, x201000, x201001, x201002, x201003, x201004, x202000, x202001, x202002, x202003, x202004, x202005 => if x5 < (x201002.length : Int) then (if x202000 = 1 then (if 0 ≤ x5 then (if x202001.toList = (rdOf ByteArray.empty x201002 x5).toList then (some x5) else (burinref03_param.l0 k (wrap64 (x5 + 1)) x201000 x201001 x201002 x201003 x201004 x202000 x202001 x202002 x202003 x202004 x202005)) else (none)) else (burinref03_param.l0 k (wrap64 (x5 + 1)) x201000 x201001 x201002 x201003 x201004 x202000 x202001 x202002 x202003 x202004 x202005)) else (if x201003 = true then (if x202000 = 1 then (if x202001.toList = ([95, 95, 86, 65, 95, 65, 82, 71, 83, 95, 95] : List UInt8) then (some (x201002.length : Int)) else (some (-1))) else (some (-1))) else (some (-1)))
def burinref03_param.f (k : Nat) (a0_0 : ByteArray) (a0_1 : Bool) (l0_2 : List ByteArray) (a0_3 : Bool) (l0_4 : List (S62)) (a1_0 : Int) (a1_1 : ByteArray) (a1_2 : ByteArray) (a1_3 : Int) (a1_4 : Bool) (a1_5 : Bool) : Option (Int) := burinref03_param.l0 k 0 a0_0 a0_1 l0_2 a0_3 l0_4 a1_0 a1_1 a1_2 a1_3 a1_4 a1_5
theorem burinref03_param.mono_l : ∀ k, (∀ y0 y1 y2 y3 y4 y5 y6 y7 y8 y9 y10 y11, LeO (burinref03_param.l0 k y0 y1 y2 y3 y4 y5 y6 y7 y8 y9 y10 y11) (burinref03_param.l0 (k + 1) y0 y1 y2 y3 y4 y5 y6 y7 y8 y9 y10 y11))
  | 0 => fun _ _ _ _ _ _ _ _ _ _ _ _ r h => by simp [burinref03_param.l0] at h
  | k + 1 => by
    have ih0 := burinref03_param.mono_l k
    · intro y0 y1 y2 y3 y4 y5 y6 y7 y8 y9 y10 y11
      unfold burinref03_param.l0
      repeat' first
      | (with_reducible exact ih0 _ _ _ _ _ _ _ _ _ _ _ _)
      | (with_reducible exact LeO.refl _)
      | (with_reducible exact LeO.none _)
      | (with_reducible refine LeO.ite ?_ ?_)
      | (with_reducible refine LeO.bind ?_ (fun _ => ?_))
      | exact ih0 _ _ _ _ _ _ _ _ _ _ _ _
      | exact LeO.none _
      | refine LeO.ite ?_ ?_
      | refine LeO.bind ?_ (fun _ => ?_)
theorem burinref03_param.mono : ∀ a0 a1 a2 a3 a4 a5 a6 a7 a8 a9 a10 k, LeO (burinref03_param.f k a0 a1 a2 a3 a4 a5 a6 a7 a8 a9 a10) (burinref03_param.f (k + 1) a0 a1 a2 a3 a4 a5 a6 a7 a8 a9 a10) := by
  intro a0 a1 a2 a3 a4 a5 a6 a7 a8 a9 a10 k
  have ih0 := burinref03_param.mono_l k
  unfold burinref03_param.f
  repeat' first
      | (with_reducible exact ih0 _ _ _ _ _ _ _ _ _ _ _ _)
      | (with_reducible exact LeO.refl _)
      | (with_reducible exact LeO.none _)
      | (with_reducible refine LeO.ite ?_ ?_)
      | (with_reducible refine LeO.bind ?_ (fun _ => ?_))
      | exact ih0 _ _ _ _ _ _ _ _ _ _ _ _
      | exact LeO.none _
      | refine LeO.ite ?_ ?_
      | refine LeO.bind ?_ (fun _ => ?_)
set_option maxHeartbeats 8000000 in
set_option maxRecDepth 100000 in
theorem burinref03_param.calls (k : Nat) (a0_0 : ByteArray) (a0_1 : Bool) (A0_2 : Option Addr) (c0_2 : Nat) (l0_2 : List ByteArray) (a0_3 : Bool) (A0_4 : Option Addr) (c0_4 : Nat) (l0_4 : List (S62)) (a1_0 : Int) (a1_1 : ByteArray) (a1_2 : ByteArray) (a1_3 : Int) (a1_4 : Bool) (a1_5 : Bool) (r : Int) (w : World) (hr0_2 : Kd.C Kd.string w A0_2 l0_2.length l0_2) (hc0_2 : l0_2.length ≤ c0_2) (hr0_4 : Kd.C k62 w A0_4 l0_4.length l0_4) (hc0_4 : l0_4.length ≤ c0_4) (h : burinref03_param.f k a0_0 a0_1 l0_2 a0_3 l0_4 a1_0 a1_1 a1_2 a1_3 a1_4 a1_5 = some r) :
    Calls Tryd.prog 124 #[.agg #[.string a0_0, .bool a0_1, .slice A0_2 l0_2.length c0_2, .bool a0_3, .slice A0_4 l0_4.length c0_4], .agg #[.int .i64 a1_0, .string a1_1, .string a1_2, .int .i64 a1_3, .bool a1_4, .bool a1_5]] w fun e w' => e = .returned (.int .i64 r) ∧ Below w.heap.size w w' := by
  have hu46 := Tryd.underlying46
  have hu62 := Tryd.underlying62
  have HR0_2 := Aside0.mk hr0_2
  have HC0_2 := Aside0.mk hc0_2
  clear hr0_2 hc0_2
  have HR0_4 := Aside0.mk hr0_4
  have HC0_4 := Aside0.mk hc0_4
  clear hr0_4 hc0_4
  have HB := Aside0.mk (Below.refl w.heap.size w)
  have H : (burinref03_param.l0 k 0 a0_0 a0_1 l0_2 a0_3 l0_4 a1_0 a1_1 a1_2 a1_3 a1_4 a1_5) = some r := h
  clear h
  have H' := Aside0.mk H
  clear H
  go_enter Tryd.func124, Tryd.ntmps124
  go_wp2_with (first | ((with_reducible refine gate_dst (N := 2) rfl ?_); refine box_event ?hg (N := 2) ?hd (cs := #[.string a0_0, .bool a0_1, .slice A0_2 l0_2.length c0_2, .bool a0_3, .slice A0_4 l0_4.length c0_4]) (t := 46) ?hr ?_; (case hd => rfl); (case hg => rfl); (case hr => first | (go_simp; done) | (go_simp; rfl)); intro gb200 hg w3 hbox hb; have n0_ := Aside0.mk (below_step (by repeat (first | (with_reducible first | exact HB.out | apply below_alloc | apply pw_below_drewN | apply below_drew1) | exact HB.out)) hb); have n1_ := Aside0.mk (hbox); have n2_ := Aside0.mk ((by rw [hg]; exact (below_size (by repeat (first | (with_reducible first | exact HB.out | apply below_alloc | apply pw_below_drewN | apply below_drew1) | exact HB.out))) : w.heap.size ≤ gb200)); have n3_ := Aside0.mk ((by rw [hg]; exact (below_size (by repeat (first | (with_reducible first | exact HB.out | apply below_alloc | apply pw_below_drewN | apply below_drew1) | exact HB.out))) : w.heap.size ≤ gb200)); clear HB; have HB := n0_; have BK200 := n1_; have GW200 := n2_; have GE200 := n3_; clear n0_ n1_ n2_ n3_; clear hb hbox hg) | ((with_reducible refine gate_dst (N := 3) rfl ?_); refine box_event ?hg (N := 3) ?hd (cs := #[.int .i64 a1_0, .string a1_1, .string a1_2, .int .i64 a1_3, .bool a1_4, .bool a1_5]) (t := 62) ?hr ?_; (case hd => rfl); (case hg => rfl); (case hr => first | (go_simp; done) | (go_simp; rfl)); intro gb201 hg w4 hbox hb; have n0_ := Aside0.mk (blk_below (g := gb200) (o := .cells #[.string a0_0, .bool a0_1, .slice A0_2 l0_2.length c0_2, .bool a0_3, .slice A0_4 l0_4.length c0_4] 46 (0, 0)) (by (with_reducible repeat (first | refine blk_drewN ?_ _ | refine blk_drew ?_ | refine blk_alloc ?_ _)); exact BK200.out) hb); have n1_ := Aside0.mk (below_step (by repeat (first | (with_reducible first | exact HB.out | apply below_alloc | apply pw_below_drewN | apply below_drew1 | refine below_set ?_ GE200.out) | exact HB.out)) hb); have n2_ := Aside0.mk (hbox); have n3_ := Aside0.mk ((by rw [hg]; exact (below_size (by repeat (first | (with_reducible first | exact HB.out | apply below_alloc | apply pw_below_drewN | apply below_drew1 | refine below_set ?_ GE200.out) | exact HB.out))) : w.heap.size ≤ gb201)); have n4_ := Aside0.mk ((by rw [hg]; exact (below_size (by repeat (first | (with_reducible first | exact HB.out | apply below_alloc | apply pw_below_drewN | apply below_drew1 | refine below_set ?_ GE200.out) | exact HB.out))) : w.heap.size ≤ gb201)); have n5_ := Aside0.mk ((by rw [hg]; exact Nat.ne_of_lt (blk_lt (g := gb200) (o := .cells #[.string a0_0, .bool a0_1, .slice A0_2 l0_2.length c0_2, .bool a0_3, .slice A0_4 l0_4.length c0_4] 46 (0, 0)) (by (with_reducible repeat (first | refine blk_drewN ?_ _ | refine blk_drew ?_ | refine blk_alloc ?_ _)); exact BK200.out)) : gb200 ≠ gb201)); have n6_ := Aside0.mk ((by rw [hg]; exact Nat.ne_of_gt (blk_lt (g := gb200) (o := .cells #[.string a0_0, .bool a0_1, .slice A0_2 l0_2.length c0_2, .bool a0_3, .slice A0_4 l0_4.length c0_4] 46 (0, 0)) (by (with_reducible repeat (first | refine blk_drewN ?_ _ | refine blk_drew ?_ | refine blk_alloc ?_ _)); exact BK200.out)) : gb201 ≠ gb200)); clear BK200; clear HB; have BK200 := n0_; have HB := n1_; have BK201 := n2_; have GW201 := n3_; have GE201 := n4_; have NB200_201 := n5_; have NB201_200 := n6_; clear n0_ n1_ n2_ n3_ n4_ n5_ n6_; clear hb hbox hg))
  repeat (go_quiet (first | ((with_reducible refine gate_dst (N := 2) rfl ?_); refine box_event ?hg (N := 2) ?hd (cs := #[.string a0_0, .bool a0_1, .slice A0_2 l0_2.length c0_2, .bool a0_3, .slice A0_4 l0_4.length c0_4]) (t := 46) ?hr ?_; (case hd => rfl); (case hg => rfl); (case hr => first | (go_simp; done) | (go_simp; rfl)); intro gb200 hg w3 hbox hb; have n0_ := Aside0.mk (below_step (by repeat (first | (with_reducible first | exact HB.out | apply below_alloc | apply pw_below_drewN | apply below_drew1) | exact HB.out)) hb); have n1_ := Aside0.mk (hbox); have n2_ := Aside0.mk ((by rw [hg]; exact (below_size (by repeat (first | (with_reducible first | exact HB.out | apply below_alloc | apply pw_below_drewN | apply below_drew1) | exact HB.out))) : w.heap.size ≤ gb200)); have n3_ := Aside0.mk ((by rw [hg]; exact (below_size (by repeat (first | (with_reducible first | exact HB.out | apply below_alloc | apply pw_below_drewN | apply below_drew1) | exact HB.out))) : w.heap.size ≤ gb200)); clear HB; have HB := n0_; have BK200 := n1_; have GW200 := n2_; have GE200 := n3_; clear n0_ n1_ n2_ n3_; clear hb hbox hg) | ((with_reducible refine gate_dst (N := 3) rfl ?_); refine box_event ?hg (N := 3) ?hd (cs := #[.int .i64 a1_0, .string a1_1, .string a1_2, .int .i64 a1_3, .bool a1_4, .bool a1_5]) (t := 62) ?hr ?_; (case hd => rfl); (case hg => rfl); (case hr => first | (go_simp; done) | (go_simp; rfl)); intro gb201 hg w4 hbox hb; have n0_ := Aside0.mk (blk_below (g := gb200) (o := .cells #[.string a0_0, .bool a0_1, .slice A0_2 l0_2.length c0_2, .bool a0_3, .slice A0_4 l0_4.length c0_4] 46 (0, 0)) (by (with_reducible repeat (first | refine blk_drewN ?_ _ | refine blk_drew ?_ | refine blk_alloc ?_ _)); exact BK200.out) hb); have n1_ := Aside0.mk (below_step (by repeat (first | (with_reducible first | exact HB.out | apply below_alloc | apply pw_below_drewN | apply below_drew1 | refine below_set ?_ GE200.out) | exact HB.out)) hb); have n2_ := Aside0.mk (hbox); have n3_ := Aside0.mk ((by rw [hg]; exact (below_size (by repeat (first | (with_reducible first | exact HB.out | apply below_alloc | apply pw_below_drewN | apply below_drew1 | refine below_set ?_ GE200.out) | exact HB.out))) : w.heap.size ≤ gb201)); have n4_ := Aside0.mk ((by rw [hg]; exact (below_size (by repeat (first | (with_reducible first | exact HB.out | apply below_alloc | apply pw_below_drewN | apply below_drew1 | refine below_set ?_ GE200.out) | exact HB.out))) : w.heap.size ≤ gb201)); have n5_ := Aside0.mk ((by rw [hg]; exact Nat.ne_of_lt (blk_lt (g := gb200) (o := .cells #[.string a0_0, .bool a0_1, .slice A0_2 l0_2.length c0_2, .bool a0_3, .slice A0_4 l0_4.length c0_4] 46 (0, 0)) (by (with_reducible repeat (first | refine blk_drewN ?_ _ | refine blk_drew ?_ | refine blk_alloc ?_ _)); exact BK200.out)) : gb200 ≠ gb201)); have n6_ := Aside0.mk ((by rw [hg]; exact Nat.ne_of_gt (blk_lt (g := gb200) (o := .cells #[.string a0_0, .bool a0_1, .slice A0_2 l0_2.length c0_2, .bool a0_3, .slice A0_4 l0_4.length c0_4] 46 (0, 0)) (by (with_reducible repeat (first | refine blk_drewN ?_ _ | refine blk_drew ?_ | refine blk_alloc ?_ _)); exact BK200.out)) : gb201 ≠ gb200)); clear BK200; clear HB; have BK200 := n0_; have HB := n1_; have BK201 := n2_; have GW201 := n3_; have GE201 := n4_; have NB200_201 := n5_; have NB201_200 := n6_; clear n0_ n1_ n2_ n3_ n4_ n5_ n6_; clear hb hbox hg)); try go_wp2_with (first | ((with_reducible refine gate_dst (N := 2) rfl ?_); refine box_event ?hg (N := 2) ?hd (cs := #[.string a0_0, .bool a0_1, .slice A0_2 l0_2.length c0_2, .bool a0_3, .slice A0_4 l0_4.length c0_4]) (t := 46) ?hr ?_; (case hd => rfl); (case hg => rfl); (case hr => first | (go_simp; done) | (go_simp; rfl)); intro gb200 hg w3 hbox hb; have n0_ := Aside0.mk (below_step (by repeat (first | (with_reducible first | exact HB.out | apply below_alloc | apply pw_below_drewN | apply below_drew1) | exact HB.out)) hb); have n1_ := Aside0.mk (hbox); have n2_ := Aside0.mk ((by rw [hg]; exact (below_size (by repeat (first | (with_reducible first | exact HB.out | apply below_alloc | apply pw_below_drewN | apply below_drew1) | exact HB.out))) : w.heap.size ≤ gb200)); have n3_ := Aside0.mk ((by rw [hg]; exact (below_size (by repeat (first | (with_reducible first | exact HB.out | apply below_alloc | apply pw_below_drewN | apply below_drew1) | exact HB.out))) : w.heap.size ≤ gb200)); clear HB; have HB := n0_; have BK200 := n1_; have GW200 := n2_; have GE200 := n3_; clear n0_ n1_ n2_ n3_; clear hb hbox hg) | ((with_reducible refine gate_dst (N := 3) rfl ?_); refine box_event ?hg (N := 3) ?hd (cs := #[.int .i64 a1_0, .string a1_1, .string a1_2, .int .i64 a1_3, .bool a1_4, .bool a1_5]) (t := 62) ?hr ?_; (case hd => rfl); (case hg => rfl); (case hr => first | (go_simp; done) | (go_simp; rfl)); intro gb201 hg w4 hbox hb; have n0_ := Aside0.mk (blk_below (g := gb200) (o := .cells #[.string a0_0, .bool a0_1, .slice A0_2 l0_2.length c0_2, .bool a0_3, .slice A0_4 l0_4.length c0_4] 46 (0, 0)) (by (with_reducible repeat (first | refine blk_drewN ?_ _ | refine blk_drew ?_ | refine blk_alloc ?_ _)); exact BK200.out) hb); have n1_ := Aside0.mk (below_step (by repeat (first | (with_reducible first | exact HB.out | apply below_alloc | apply pw_below_drewN | apply below_drew1 | refine below_set ?_ GE200.out) | exact HB.out)) hb); have n2_ := Aside0.mk (hbox); have n3_ := Aside0.mk ((by rw [hg]; exact (below_size (by repeat (first | (with_reducible first | exact HB.out | apply below_alloc | apply pw_below_drewN | apply below_drew1 | refine below_set ?_ GE200.out) | exact HB.out))) : w.heap.size ≤ gb201)); have n4_ := Aside0.mk ((by rw [hg]; exact (below_size (by repeat (first | (with_reducible first | exact HB.out | apply below_alloc | apply pw_below_drewN | apply below_drew1 | refine below_set ?_ GE200.out) | exact HB.out))) : w.heap.size ≤ gb201)); have n5_ := Aside0.mk ((by rw [hg]; exact Nat.ne_of_lt (blk_lt (g := gb200) (o := .cells #[.string a0_0, .bool a0_1, .slice A0_2 l0_2.length c0_2, .bool a0_3, .slice A0_4 l0_4.length c0_4] 46 (0, 0)) (by (with_reducible repeat (first | refine blk_drewN ?_ _ | refine blk_drew ?_ | refine blk_alloc ?_ _)); exact BK200.out)) : gb200 ≠ gb201)); have n6_ := Aside0.mk ((by rw [hg]; exact Nat.ne_of_gt (blk_lt (g := gb200) (o := .cells #[.string a0_0, .bool a0_1, .slice A0_2 l0_2.length c0_2, .bool a0_3, .slice A0_4 l0_4.length c0_4] 46 (0, 0)) (by (with_reducible repeat (first | refine blk_drewN ?_ _ | refine blk_drew ?_ | refine blk_alloc ?_ _)); exact BK200.out)) : gb201 ≠ gb200)); clear BK200; clear HB; have BK200 := n0_; have HB := n1_; have BK201 := n2_; have GW201 := n3_; have GE201 := n4_; have NB200_201 := n5_; have NB201_200 := n6_; clear n0_ n1_ n2_ n3_ n4_ n5_ n6_; clear hb hbox hg)))
  go_loopg [5] k (fun kq v5 w' => ∃ (x5_1 : Int), v5 = .int .i64 x5_1 ∧ Aside0 (burinref03_param.l0 kq x5_1 a0_0 a0_1 l0_2 a0_3 l0_4 a1_0 a1_1 a1_2 a1_3 a1_4 a1_5 = some r) ∧ Aside0 (kq ≤ k) ∧ Aside0 (w'.heap[gb200]? = some (.cells #[.string a0_0, .bool a0_1, (.slice A0_2 l0_2.length c0_2), .bool a0_3, (.slice A0_4 l0_4.length c0_4)] 46 (0, 0))) ∧ Aside0 (w'.heap[gb201]? = some (.cells #[.int .i64 a1_0, .string a1_1, .string a1_2, .int .i64 a1_3, .bool a1_4, .bool a1_5] 62 (0, 0))) ∧ Aside0 (Below w.heap.size w w'))
  case atStart => exact ⟨(0), (by first | rfl | (simp; done) | (simp [*]; done)), H', ⟨Nat.le_refl _⟩, ⟨by (with_reducible repeat (first | refine blk_drewN ?_ _ | refine blk_drew ?_ | refine blk_alloc ?_ _)); exact BK200.out⟩, ⟨by (with_reducible repeat (first | refine blk_drewN ?_ _ | refine blk_drew ?_ | refine blk_alloc ?_ _)); exact BK201.out⟩, ⟨by repeat (first | (with_reducible first | exact HB.out | apply below_alloc | apply pw_below_drewN | apply below_drew1 | refine below_set ?_ GE200.out | refine below_set ?_ GE201.out) | exact HB.out)⟩⟩
  case round =>
    clear H'
    try clear c1
    try clear p2
    obtain ⟨x5_1, rfl, HA, HK1, BK200, BK201, HB⟩ := hrel
    cases gk with
    | zero => exact absurd HA.out (by simp [burinref03_param.l0])
    | succ k1 =>
      have H := HA.out
      clear HA
      simp only [burinref03_param.l0] at H
      by_cases c5 : x5_1 < (l0_2.length : Int)
      · rw [if_pos c5] at H
        have c5b0 : decide (x5_1 < (l0_2.length : Int)) = true := decide_eq_true c5
        clear c5
        by_cases c6 : a1_0 = 1
        · rw [if_pos c6] at H
          have c6b0 : (a1_0 == 1) = true := beq_iff_eq.mpr c6
          have c6b1 : (a1_0 != 1) = false := bne_eq_false_iff_eq.mpr c6
          clear c6
          by_cases c7 : 0 ≤ x5_1
          · rw [if_pos c7] at H
            have c7b0 : decide (0 ≤ x5_1) = true := decide_eq_true c7
            clear c7
            by_cases c8 : a1_1.toList = (rdOf ByteArray.empty l0_2 x5_1).toList
            · rw [if_pos c8] at H
              have c8b0 : (a1_1.toList == (rdOf ByteArray.empty l0_2 x5_1).toList) = true := beq_iff_eq.mpr c8
              have c8b1 : (a1_1.toList != (rdOf ByteArray.empty l0_2 x5_1).toList) = false := bne_eq_false_iff_eq.mpr c8
              clear c8
              obtain rfl := Option.some.inj H
              have hnb9 := NB200_201.out
              have hnc9 := NB201_200.out
              have hcz10_0 : wr.cell? ⟨gb200, 0, none⟩ = some (.string a0_0) := (blk_cell BK200.out 0).trans rfl
              have hcz10_1 : wr.cell? ⟨gb200, 1, none⟩ = some (.bool a0_1) := (blk_cell BK200.out 1).trans rfl
              have hcz10_2 : wr.cell? ⟨gb200, 2, none⟩ = some (.slice A0_2 l0_2.length c0_2) := (blk_cell BK200.out 2).trans rfl
              have hcz10_3 : wr.cell? ⟨gb200, 3, none⟩ = some (.bool a0_3) := (blk_cell BK200.out 3).trans rfl
              have hcz10_4 : wr.cell? ⟨gb200, 4, none⟩ = some (.slice A0_4 l0_4.length c0_4) := (blk_cell BK200.out 4).trans rfl
              have hfz10_0 := blk_frozen BK200.out 0
              have hfz10_1 := blk_frozen BK200.out 1
              have hfz10_2 := blk_frozen BK200.out 2
              have hfz10_3 := blk_frozen BK200.out 3
              have hfz10_4 := blk_frozen BK200.out 4
              have hcz11_0 : wr.cell? ⟨gb201, 0, none⟩ = some (.int .i64 a1_0) := (blk_cell BK201.out 0).trans rfl
              have hcz11_1 : wr.cell? ⟨gb201, 1, none⟩ = some (.string a1_1) := (blk_cell BK201.out 1).trans rfl
              have hcz11_2 : wr.cell? ⟨gb201, 2, none⟩ = some (.string a1_2) := (blk_cell BK201.out 2).trans rfl
              have hcz11_3 : wr.cell? ⟨gb201, 3, none⟩ = some (.int .i64 a1_3) := (blk_cell BK201.out 3).trans rfl
              have hcz11_4 : wr.cell? ⟨gb201, 4, none⟩ = some (.bool a1_4) := (blk_cell BK201.out 4).trans rfl
              have hcz11_5 : wr.cell? ⟨gb201, 5, none⟩ = some (.bool a1_5) := (blk_cell BK201.out 5).trans rfl
              have hfz11_0 := blk_frozen BK201.out 0
              have hfz11_1 := blk_frozen BK201.out 1
              have hfz11_2 := blk_frozen BK201.out 2
              have hfz11_3 := blk_frozen BK201.out 3
              have hfz11_4 := blk_frozen BK201.out 4
              have hfz11_5 := blk_frozen BK201.out 5
              have p202 : 0 ≤ (x5_1 : Int) := of_decide_eq_true (by first | (with_reducible assumption) | assumption)
              have q202 : x5_1 < (l0_2.length : Int) := of_decide_eq_true (by first | (with_reducible assumption) | assumption)
              obtain ⟨ad202, e202, hx202_0⟩ := Kd.at_string HR0_2.out x5_1 p202 q202
              cases e202
              replace hx202_0 := (HB.out.cell (World.block_lt_of_cell? w _ hx202_0)).trans hx202_0
              replace p202 := eq_true p202
              replace q202 := eq_true q202
              go_wp2
              repeat (go_quiet (fail); try go_wp2)
              go_ret
              exact ⟨by first | rfl | (simp [errW_none, errW_some] <;> rfl) | (simp [*, errW_none, errW_some] <;> rfl), by repeat (first | (with_reducible first | exact HB.out | apply below_alloc | apply pw_below_drewN | apply below_drew1 | refine below_set ?_ GE200.out | refine below_set ?_ GE201.out) | exact HB.out)⟩
            · rw [if_neg c8] at H
              have c8b0 : (a1_1.toList == (rdOf ByteArray.empty l0_2 x5_1).toList) = false := beq_eq_false_iff_ne.mpr c8
              have c8b1 : (a1_1.toList != (rdOf ByteArray.empty l0_2 x5_1).toList) = true := bne_iff_ne.mpr c8
              have H' := Aside0.mk H
              clear H
              have hnb12 := NB200_201.out
              have hnc12 := NB201_200.out
              have hcz13_0 : wr.cell? ⟨gb200, 0, none⟩ = some (.string a0_0) := (blk_cell BK200.out 0).trans rfl
              have hcz13_1 : wr.cell? ⟨gb200, 1, none⟩ = some (.bool a0_1) := (blk_cell BK200.out 1).trans rfl
              have hcz13_2 : wr.cell? ⟨gb200, 2, none⟩ = some (.slice A0_2 l0_2.length c0_2) := (blk_cell BK200.out 2).trans rfl
              have hcz13_3 : wr.cell? ⟨gb200, 3, none⟩ = some (.bool a0_3) := (blk_cell BK200.out 3).trans rfl
              have hcz13_4 : wr.cell? ⟨gb200, 4, none⟩ = some (.slice A0_4 l0_4.length c0_4) := (blk_cell BK200.out 4).trans rfl
              have hfz13_0 := blk_frozen BK200.out 0
              have hfz13_1 := blk_frozen BK200.out 1
              have hfz13_2 := blk_frozen BK200.out 2
              have hfz13_3 := blk_frozen BK200.out 3
              have hfz13_4 := blk_frozen BK200.out 4
              have hcz14_0 : wr.cell? ⟨gb201, 0, none⟩ = some (.int .i64 a1_0) := (blk_cell BK201.out 0).trans rfl
              have hcz14_1 : wr.cell? ⟨gb201, 1, none⟩ = some (.string a1_1) := (blk_cell BK201.out 1).trans rfl
              have hcz14_2 : wr.cell? ⟨gb201, 2, none⟩ = some (.string a1_2) := (blk_cell BK201.out 2).trans rfl
              have hcz14_3 : wr.cell? ⟨gb201, 3, none⟩ = some (.int .i64 a1_3) := (blk_cell BK201.out 3).trans rfl
              have hcz14_4 : wr.cell? ⟨gb201, 4, none⟩ = some (.bool a1_4) := (blk_cell BK201.out 4).trans rfl
              have hcz14_5 : wr.cell? ⟨gb201, 5, none⟩ = some (.bool a1_5) := (blk_cell BK201.out 5).trans rfl
              have hfz14_0 := blk_frozen BK201.out 0
              have hfz14_1 := blk_frozen BK201.out 1
              have hfz14_2 := blk_frozen BK201.out 2
              have hfz14_3 := blk_frozen BK201.out 3
              have hfz14_4 := blk_frozen BK201.out 4
              have hfz14_5 := blk_frozen BK201.out 5
              have p202 : 0 ≤ (x5_1 : Int) := of_decide_eq_true (by first | (with_reducible assumption) | assumption)
              have q202 : x5_1 < (l0_2.length : Int) := of_decide_eq_true (by first | (with_reducible assumption) | assumption)
              obtain ⟨ad202, e202, hx202_0⟩ := Kd.at_string HR0_2.out x5_1 p202 q202
              cases e202
              replace hx202_0 := (HB.out.cell (World.block_lt_of_cell? w _ hx202_0)).trans hx202_0
              replace p202 := eq_true p202
              replace q202 := eq_true q202
              go_wp2
              repeat (go_quiet (fail); try go_wp2)
              go_roundg k1
              case measure => have := HK1.out; omega
              case rel => exact ⟨(wrap64 (x5_1 + 1)), (by first | rfl | (simp; done) | (simp [*]; done)), H', ⟨by have := HK1.out; omega⟩, ⟨by (with_reducible repeat (first | refine blk_drewN ?_ _ | refine blk_drew ?_ | refine blk_alloc ?_ _)); exact BK200.out⟩, ⟨by (with_reducible repeat (first | refine blk_drewN ?_ _ | refine blk_drew ?_ | refine blk_alloc ?_ _)); exact BK201.out⟩, ⟨by repeat (first | (with_reducible first | exact HB.out | apply below_alloc | apply pw_below_drewN | apply below_drew1 | refine below_set ?_ GE200.out | refine below_set ?_ GE201.out) | exact HB.out)⟩⟩
          · rw [if_neg c7] at H
            exact absurd H (by simp)
        · rw [if_neg c6] at H
          have c6b0 : (a1_0 == 1) = false := beq_eq_false_iff_ne.mpr c6
          have c6b1 : (a1_0 != 1) = true := bne_iff_ne.mpr c6
          have H' := Aside0.mk H
          clear H
          have hnb15 := NB200_201.out
          have hnc15 := NB201_200.out
          have hcz16_0 : wr.cell? ⟨gb200, 0, none⟩ = some (.string a0_0) := (blk_cell BK200.out 0).trans rfl
          have hcz16_1 : wr.cell? ⟨gb200, 1, none⟩ = some (.bool a0_1) := (blk_cell BK200.out 1).trans rfl
          have hcz16_2 : wr.cell? ⟨gb200, 2, none⟩ = some (.slice A0_2 l0_2.length c0_2) := (blk_cell BK200.out 2).trans rfl
          have hcz16_3 : wr.cell? ⟨gb200, 3, none⟩ = some (.bool a0_3) := (blk_cell BK200.out 3).trans rfl
          have hcz16_4 : wr.cell? ⟨gb200, 4, none⟩ = some (.slice A0_4 l0_4.length c0_4) := (blk_cell BK200.out 4).trans rfl
          have hfz16_0 := blk_frozen BK200.out 0
          have hfz16_1 := blk_frozen BK200.out 1
          have hfz16_2 := blk_frozen BK200.out 2
          have hfz16_3 := blk_frozen BK200.out 3
          have hfz16_4 := blk_frozen BK200.out 4
          have hcz17_0 : wr.cell? ⟨gb201, 0, none⟩ = some (.int .i64 a1_0) := (blk_cell BK201.out 0).trans rfl
          have hcz17_1 : wr.cell? ⟨gb201, 1, none⟩ = some (.string a1_1) := (blk_cell BK201.out 1).trans rfl
          have hcz17_2 : wr.cell? ⟨gb201, 2, none⟩ = some (.string a1_2) := (blk_cell BK201.out 2).trans rfl
          have hcz17_3 : wr.cell? ⟨gb201, 3, none⟩ = some (.int .i64 a1_3) := (blk_cell BK201.out 3).trans rfl
          have hcz17_4 : wr.cell? ⟨gb201, 4, none⟩ = some (.bool a1_4) := (blk_cell BK201.out 4).trans rfl
          have hcz17_5 : wr.cell? ⟨gb201, 5, none⟩ = some (.bool a1_5) := (blk_cell BK201.out 5).trans rfl
          have hfz17_0 := blk_frozen BK201.out 0
          have hfz17_1 := blk_frozen BK201.out 1
          have hfz17_2 := blk_frozen BK201.out 2
          have hfz17_3 := blk_frozen BK201.out 3
          have hfz17_4 := blk_frozen BK201.out 4
          have hfz17_5 := blk_frozen BK201.out 5
          go_wp2
          repeat (go_quiet (fail); try go_wp2)
          go_roundg k1
          case measure => have := HK1.out; omega
          case rel => exact ⟨(wrap64 (x5_1 + 1)), (by first | rfl | (simp; done) | (simp [*]; done)), H', ⟨by have := HK1.out; omega⟩, ⟨by (with_reducible repeat (first | refine blk_drewN ?_ _ | refine blk_drew ?_ | refine blk_alloc ?_ _)); exact BK200.out⟩, ⟨by (with_reducible repeat (first | refine blk_drewN ?_ _ | refine blk_drew ?_ | refine blk_alloc ?_ _)); exact BK201.out⟩, ⟨by repeat (first | (with_reducible first | exact HB.out | apply below_alloc | apply pw_below_drewN | apply below_drew1 | refine below_set ?_ GE200.out | refine below_set ?_ GE201.out) | exact HB.out)⟩⟩
      · rw [if_neg c5] at H
        have c5b0 : decide (x5_1 < (l0_2.length : Int)) = false := decide_eq_false c5
        clear c5
        by_cases c18 : a0_3 = true
        · subst c18
          have H1 : (if a1_0 = 1 then (if a1_1.toList = ([95, 95, 86, 65, 95, 65, 82, 71, 83, 95, 95] : List UInt8) then (some (l0_2.length : Int)) else (some (-1))) else (some (-1))) = some r := by rw [if_pos rfl] at H; exact H
          clear H
          have H := H1
          clear H1
          by_cases c19 : a1_0 = 1
          · rw [if_pos c19] at H
            have c19b0 : (a1_0 == 1) = true := beq_iff_eq.mpr c19
            have c19b1 : (a1_0 != 1) = false := bne_eq_false_iff_eq.mpr c19
            clear c19
            by_cases c20 : a1_1.toList = ([95, 95, 86, 65, 95, 65, 82, 71, 83, 95, 95] : List UInt8)
            · rw [if_pos c20] at H
              have c20b0 : (a1_1.toList == ([95, 95, 86, 65, 95, 65, 82, 71, 83, 95, 95] : List UInt8)) = true := beq_iff_eq.mpr c20
              have c20b1 : (a1_1.toList != ([95, 95, 86, 65, 95, 65, 82, 71, 83, 95, 95] : List UInt8)) = false := bne_eq_false_iff_eq.mpr c20
              clear c20
              obtain rfl := Option.some.inj H
              have hnb21 := NB200_201.out
              have hnc21 := NB201_200.out
              have hcz22_0 : wr.cell? ⟨gb200, 0, none⟩ = some (.string a0_0) := (blk_cell BK200.out 0).trans rfl
              have hcz22_1 : wr.cell? ⟨gb200, 1, none⟩ = some (.bool a0_1) := (blk_cell BK200.out 1).trans rfl
              have hcz22_2 : wr.cell? ⟨gb200, 2, none⟩ = some (.slice A0_2 l0_2.length c0_2) := (blk_cell BK200.out 2).trans rfl
              have hcz22_3 : wr.cell? ⟨gb200, 3, none⟩ = some (.bool true) := (blk_cell BK200.out 3).trans rfl
              have hcz22_4 : wr.cell? ⟨gb200, 4, none⟩ = some (.slice A0_4 l0_4.length c0_4) := (blk_cell BK200.out 4).trans rfl
              have hfz22_0 := blk_frozen BK200.out 0
              have hfz22_1 := blk_frozen BK200.out 1
              have hfz22_2 := blk_frozen BK200.out 2
              have hfz22_3 := blk_frozen BK200.out 3
              have hfz22_4 := blk_frozen BK200.out 4
              have hcz23_0 : wr.cell? ⟨gb201, 0, none⟩ = some (.int .i64 a1_0) := (blk_cell BK201.out 0).trans rfl
              have hcz23_1 : wr.cell? ⟨gb201, 1, none⟩ = some (.string a1_1) := (blk_cell BK201.out 1).trans rfl
              have hcz23_2 : wr.cell? ⟨gb201, 2, none⟩ = some (.string a1_2) := (blk_cell BK201.out 2).trans rfl
              have hcz23_3 : wr.cell? ⟨gb201, 3, none⟩ = some (.int .i64 a1_3) := (blk_cell BK201.out 3).trans rfl
              have hcz23_4 : wr.cell? ⟨gb201, 4, none⟩ = some (.bool a1_4) := (blk_cell BK201.out 4).trans rfl
              have hcz23_5 : wr.cell? ⟨gb201, 5, none⟩ = some (.bool a1_5) := (blk_cell BK201.out 5).trans rfl
              have hfz23_0 := blk_frozen BK201.out 0
              have hfz23_1 := blk_frozen BK201.out 1
              have hfz23_2 := blk_frozen BK201.out 2
              have hfz23_3 := blk_frozen BK201.out 3
              have hfz23_4 := blk_frozen BK201.out 4
              have hfz23_5 := blk_frozen BK201.out 5
              go_wp2
              repeat (go_quiet (fail); try go_wp2)
              go_ret
              exact ⟨by first | rfl | (simp [errW_none, errW_some] <;> rfl) | (simp [*, errW_none, errW_some] <;> rfl), by repeat (first | (with_reducible first | exact HB.out | apply below_alloc | apply pw_below_drewN | apply below_drew1 | refine below_set ?_ GE200.out | refine below_set ?_ GE201.out) | exact HB.out)⟩
            · rw [if_neg c20] at H
              have c20b0 : (a1_1.toList == ([95, 95, 86, 65, 95, 65, 82, 71, 83, 95, 95] : List UInt8)) = false := beq_eq_false_iff_ne.mpr c20
              have c20b1 : (a1_1.toList != ([95, 95, 86, 65, 95, 65, 82, 71, 83, 95, 95] : List UInt8)) = true := bne_iff_ne.mpr c20
              obtain rfl := Option.some.inj H
              have hnb24 := NB200_201.out
              have hnc24 := NB201_200.out
              have hcz25_0 : wr.cell? ⟨gb200, 0, none⟩ = some (.string a0_0) := (blk_cell BK200.out 0).trans rfl
              have hcz25_1 : wr.cell? ⟨gb200, 1, none⟩ = some (.bool a0_1) := (blk_cell BK200.out 1).trans rfl
              have hcz25_2 : wr.cell? ⟨gb200, 2, none⟩ = some (.slice A0_2 l0_2.length c0_2) := (blk_cell BK200.out 2).trans rfl
              have hcz25_3 : wr.cell? ⟨gb200, 3, none⟩ = some (.bool true) := (blk_cell BK200.out 3).trans rfl
              have hcz25_4 : wr.cell? ⟨gb200, 4, none⟩ = some (.slice A0_4 l0_4.length c0_4) := (blk_cell BK200.out 4).trans rfl
              have hfz25_0 := blk_frozen BK200.out 0
              have hfz25_1 := blk_frozen BK200.out 1
              have hfz25_2 := blk_frozen BK200.out 2
              have hfz25_3 := blk_frozen BK200.out 3
              have hfz25_4 := blk_frozen BK200.out 4
              have hcz26_0 : wr.cell? ⟨gb201, 0, none⟩ = some (.int .i64 a1_0) := (blk_cell BK201.out 0).trans rfl
              have hcz26_1 : wr.cell? ⟨gb201, 1, none⟩ = some (.string a1_1) := (blk_cell BK201.out 1).trans rfl
              have hcz26_2 : wr.cell? ⟨gb201, 2, none⟩ = some (.string a1_2) := (blk_cell BK201.out 2).trans rfl
              have hcz26_3 : wr.cell? ⟨gb201, 3, none⟩ = some (.int .i64 a1_3) := (blk_cell BK201.out 3).trans rfl
              have hcz26_4 : wr.cell? ⟨gb201, 4, none⟩ = some (.bool a1_4) := (blk_cell BK201.out 4).trans rfl
              have hcz26_5 : wr.cell? ⟨gb201, 5, none⟩ = some (.bool a1_5) := (blk_cell BK201.out 5).trans rfl
              have hfz26_0 := blk_frozen BK201.out 0
              have hfz26_1 := blk_frozen BK201.out 1
              have hfz26_2 := blk_frozen BK201.out 2
              have hfz26_3 := blk_frozen BK201.out 3
              have hfz26_4 := blk_frozen BK201.out 4
              have hfz26_5 := blk_frozen BK201.out 5
              go_wp2
              repeat (go_quiet (fail); try go_wp2)
              go_ret
              exact ⟨by first | rfl | (simp [errW_none, errW_some] <;> rfl) | (simp [*, errW_none, errW_some] <;> rfl), by repeat (first | (with_reducible first | exact HB.out | apply below_alloc | apply pw_below_drewN | apply below_drew1 | refine below_set ?_ GE200.out | refine below_set ?_ GE201.out) | exact HB.out)⟩
          · rw [if_neg c19] at H
            have c19b0 : (a1_0 == 1) = false := beq_eq_false_iff_ne.mpr c19
            have c19b1 : (a1_0 != 1) = true := bne_iff_ne.mpr c19
            obtain rfl := Option.some.inj H
            have hnb27 := NB200_201.out
            have hnc27 := NB201_200.out
            have hcz28_0 : wr.cell? ⟨gb200, 0, none⟩ = some (.string a0_0) := (blk_cell BK200.out 0).trans rfl
            have hcz28_1 : wr.cell? ⟨gb200, 1, none⟩ = some (.bool a0_1) := (blk_cell BK200.out 1).trans rfl
            have hcz28_2 : wr.cell? ⟨gb200, 2, none⟩ = some (.slice A0_2 l0_2.length c0_2) := (blk_cell BK200.out 2).trans rfl
            have hcz28_3 : wr.cell? ⟨gb200, 3, none⟩ = some (.bool true) := (blk_cell BK200.out 3).trans rfl
            have hcz28_4 : wr.cell? ⟨gb200, 4, none⟩ = some (.slice A0_4 l0_4.length c0_4) := (blk_cell BK200.out 4).trans rfl
            have hfz28_0 := blk_frozen BK200.out 0
            have hfz28_1 := blk_frozen BK200.out 1
            have hfz28_2 := blk_frozen BK200.out 2
            have hfz28_3 := blk_frozen BK200.out 3
            have hfz28_4 := blk_frozen BK200.out 4
            have hcz29_0 : wr.cell? ⟨gb201, 0, none⟩ = some (.int .i64 a1_0) := (blk_cell BK201.out 0).trans rfl
            have hcz29_1 : wr.cell? ⟨gb201, 1, none⟩ = some (.string a1_1) := (blk_cell BK201.out 1).trans rfl
            have hcz29_2 : wr.cell? ⟨gb201, 2, none⟩ = some (.string a1_2) := (blk_cell BK201.out 2).trans rfl
            have hcz29_3 : wr.cell? ⟨gb201, 3, none⟩ = some (.int .i64 a1_3) := (blk_cell BK201.out 3).trans rfl
            have hcz29_4 : wr.cell? ⟨gb201, 4, none⟩ = some (.bool a1_4) := (blk_cell BK201.out 4).trans rfl
            have hcz29_5 : wr.cell? ⟨gb201, 5, none⟩ = some (.bool a1_5) := (blk_cell BK201.out 5).trans rfl
            have hfz29_0 := blk_frozen BK201.out 0
            have hfz29_1 := blk_frozen BK201.out 1
            have hfz29_2 := blk_frozen BK201.out 2
            have hfz29_3 := blk_frozen BK201.out 3
            have hfz29_4 := blk_frozen BK201.out 4
            have hfz29_5 := blk_frozen BK201.out 5
            go_wp2
            repeat (go_quiet (fail); try go_wp2)
            go_ret
            exact ⟨by first | rfl | (simp [errW_none, errW_some] <;> rfl) | (simp [*, errW_none, errW_some] <;> rfl), by repeat (first | (with_reducible first | exact HB.out | apply below_alloc | apply pw_below_drewN | apply below_drew1 | refine below_set ?_ GE200.out | refine below_set ?_ GE201.out) | exact HB.out)⟩
        · replace c18 := Bool.eq_false_iff.mpr c18
          subst c18
          have H1 : (some (-1)) = some r := by rw [if_neg (show ¬ (false = true) by decide)] at H; exact H
          clear H
          have H := H1
          clear H1
          obtain rfl := Option.some.inj H
          have hnb30 := NB200_201.out
          have hnc30 := NB201_200.out
          have hcz31_0 : wr.cell? ⟨gb200, 0, none⟩ = some (.string a0_0) := (blk_cell BK200.out 0).trans rfl
          have hcz31_1 : wr.cell? ⟨gb200, 1, none⟩ = some (.bool a0_1) := (blk_cell BK200.out 1).trans rfl
          have hcz31_2 : wr.cell? ⟨gb200, 2, none⟩ = some (.slice A0_2 l0_2.length c0_2) := (blk_cell BK200.out 2).trans rfl
          have hcz31_3 : wr.cell? ⟨gb200, 3, none⟩ = some (.bool false) := (blk_cell BK200.out 3).trans rfl
          have hcz31_4 : wr.cell? ⟨gb200, 4, none⟩ = some (.slice A0_4 l0_4.length c0_4) := (blk_cell BK200.out 4).trans rfl
          have hfz31_0 := blk_frozen BK200.out 0
          have hfz31_1 := blk_frozen BK200.out 1
          have hfz31_2 := blk_frozen BK200.out 2
          have hfz31_3 := blk_frozen BK200.out 3
          have hfz31_4 := blk_frozen BK200.out 4
          go_wp2
          repeat (go_quiet (fail); try go_wp2)
          go_ret
          exact ⟨by first | rfl | (simp [errW_none, errW_some] <;> rfl) | (simp [*, errW_none, errW_some] <;> rfl), by repeat (first | (with_reducible first | exact HB.out | apply below_alloc | apply pw_below_drewN | apply below_drew1 | refine below_set ?_ GE200.out | refine below_set ?_ GE201.out) | exact HB.out)⟩

-- NOT PRINTED: function 67 (burinref03_body)

-- NOT PRINTED: function 24 (burinref03_Right)

-- NOT PRINTED: function 22 (burinref03_Show)

end Go.Proofs.YthifdcakhdckfaaDoor.PMacroWords

/-
  Walk: the kind and the length of the token that begins a text (token.next).
  Conditions: the text is not empty; the signs' table lies in its variable as its initialiser lays it.
-/
import Derived.Test.YthifdcakhdckfaaDoorTok2
import Derived.LaidEql
namespace Go.Proofs.YthifdcakhdckfaaDoor
open Go.RowKit
set_option linter.unusedVariables false
set_option linter.unusedSimpArgs false

def sigVals : Array Value := (Lx.signs.map fun x => Value.string ⟨x.toArray⟩).toArray
def SigIs (w : World) : Prop := ∃ t fr, w.heap[2]? = some (.cells sigVals t fr)
theorem info9 : (Tryd.prog.info? 9).map (fun i => i.size) = some 1 := by kernel_rfl
theorem sig_len : Lx.signs.length = 48 := by decide
theorem sig_index (k : Nat) (hk : k < 48) (w : World) : (Instr.index 248 (.agg sigVals) (.int .i64 (k : Int))).run Tryd.prog w = .ok (.string ⟨(Lx.signs.getD k []).toArray⟩) w := by
  have hu := Tryd.underlying248
  have hc : sigVals[k]? = some (.string ⟨(Lx.signs.getD k []).toArray⟩) := by
    unfold sigVals
    rw [List.getElem?_toArray, List.getElem?_map, List.getD_eq_getElem?_getD, List.getElem?_eq_getElem (by rw [sig_len]; omega)]
    rfl
  obtain ⟨i9, hi9, hs9⟩ := Option.map_eq_some_iff.1 info9
  simp [Instr.index, asIntOf, run_underlying hu, sizeOf, typeInfo, hi9, hs9, part, isAgg, run_underlying Tryd.underlying9, hc, go_sem]
  intro h
  omega

theorem find_miss {p : Lx.L → Bool} {k : Nat} (hk : k < 48) (h : p (Lx.signs.getD k []) = false) (hf : Lx.signs.find? p = (Lx.signs.drop k).find? p) : Lx.signs.find? p = (Lx.signs.drop (k + 1)).find? p := by
  rw [hf, List.drop_eq_getElem_cons (by rw [sig_len]; exact hk), List.find?_cons]
  rw [List.getD_eq_getElem?_getD, List.getElem?_eq_getElem (by rw [sig_len]; exact hk)] at h
  simp only [Option.getD_some] at h
  rw [h]
theorem find_hit {p : Lx.L → Bool} {k : Nat} (hk : k < 48) (h : p (Lx.signs.getD k []) = true) (hf : Lx.signs.find? p = (Lx.signs.drop k).find? p) : Lx.signs.find? p = some (Lx.signs.getD k []) := by
  rw [hf, List.drop_eq_getElem_cons (by rw [sig_len]; exact hk), List.find?_cons]
  rw [List.getD_eq_getElem?_getD, List.getElem?_eq_getElem (by rw [sig_len]; exact hk)] at h ⊢
  simp only [Option.getD_some] at h
  rw [h]
  rfl
theorem sig_pos (k : Nat) (hk : k < 48) : 0 < (Lx.signs.getD k []).length := by
  have h : ∀ k : Fin 48, 0 < (Lx.signs.getD k.val []).length := by decide
  exact h ⟨k, hk⟩
theorem signLen_hit {s : Lx.L} {k : Nat} (hk : k < 48) (h : Lx.signs.find? (fun x => Lx.pre x s) = some (Lx.signs.getD k [])) : Lx.signLen s = (Lx.signs.getD k []).length := by
  unfold Lx.signLen
  rw [h]
theorem signLen_miss {s : Lx.L} (h : Lx.signs.find? (fun x => Lx.pre x s) = (Lx.signs.drop 48).find? (fun x => Lx.pre x s)) : Lx.signLen s = 0 := by
  unfold Lx.signLen
  rw [h, List.drop_eq_nil_of_le (by rw [sig_len]; omega)]
  rfl
def kOf (n : Nat) : Int := if n = 0 then 6 else 5
def lOf (n : Nat) : Nat := if n = 0 then 1 else n
theorem size_arr (l : Lx.L) : (⟨l.toArray⟩ : ByteArray).size = l.length := by show l.toArray.size = _; simp
theorem bl_mk (l : Lx.L) : bl ⟨l.toArray⟩ = l := by unfold bl; simp

set_option maxHeartbeats 1000000 in
theorem next_let (s : ByteArray) (hs : s.size ≤ 9223372036854775800) (h0 : 0 < s.size) (w : World) (hg : SigIs w) (hl : Lx.isLet s[0] = true) :
    Calls Tryd.prog 112 #[.string s] w fun e w' => e = .returned (.tuple #[.int .i64 1, .int .i64 (Lx.nameLen (bl s) : Nat)]) ∧ Below w.heap.size w w' := by
  have HL := Lib.hid hl
  clear hl
  have hm := many_any s (by omega) 167 #[.pointer (some ⟨w.heap.size, 0, none⟩)] (w.alloc (.cells #[.string s] 9)) (fun i => Lx.isWrd (Lx.at_ (bl s) i)) (fun i hi => next1_any s _ _ (World.cell?_alloc_at _ _ _ _ rfl) i hi) (enters_of Tryd.func167 (by kernel_rfl) rfl)
  rw [show Lx.many s.size (fun i => Lx.isWrd (Lx.at_ (bl s) i)) = Lx.nameLen (bl s) by rw [Lx.nameLen, bl_length]] at hm
  have HM := Lib.hid hm
  clear hm
  go_enter Tryd.func112, Tryd.ntmps112
  go_wp2_with (first | (go_at_call 165; refine (isLetter_any _ _).mono ?_; rintro e w' ⟨rfl, rfl⟩; rw [HL.out]) | (refine HM.out.mono ?_; rintro e w' ⟨rfl, rfl⟩))
  go_ret2
  exact ⟨rfl, (Below.refl _ _).alloc (Nat.le_refl _) _⟩

set_option maxHeartbeats 1000000 in
theorem next_dig (s : ByteArray) (hs : s.size ≤ 9223372036854775800) (h0 : 0 < s.size) (w : World) (hg : SigIs w) (hl : Lx.isLet s[0] = false) (hd : Lx.isDig s[0] = true) :
    Calls Tryd.prog 112 #[.string s] w fun e w' => e = .returned (.tuple #[.int .i64 2, .int .i64 (Lx.numLen (bl s) : Nat)]) ∧ Below w.heap.size w w' := by
  have HL := Lib.hid hl
  clear hl
  have HD := Lib.hid hd
  clear hd
  have hm := numeric_any s (by omega) (w.alloc (.cells #[.string s] 9))
  have HM := Lib.hid hm
  clear hm
  go_enter Tryd.func112, Tryd.ntmps112
  go_wp2_with (first | (go_at_call 165; refine (isLetter_any _ _).mono ?_; rintro e w' ⟨rfl, rfl⟩; rw [HL.out]) | (go_at_call 169; refine (isDigit_any _ _).mono ?_; rintro e w' ⟨rfl, rfl⟩; rw [HD.out]) | (refine HM.out.mono ?_; rintro e w' ⟨rfl, rfl⟩))
  go_ret2
  exact ⟨rfl, ((Below.refl _ _).alloc (Nat.le_refl _) _).alloc (by simp) _⟩

set_option maxHeartbeats 1000000 in
theorem next_dot (s : ByteArray) (hs : s.size ≤ 9223372036854775800) (h0 : 0 < s.size) (w : World) (hg : SigIs w) (hl : Lx.isLet s[0] = false) (hd : Lx.isDig s[0] = false) (h46 : ((s[0].toNat : Int) == 46) = true) (h1 : 1 < s.size) (hd1 : Lx.isDig s[1] = true) :
    Calls Tryd.prog 112 #[.string s] w fun e w' => e = .returned (.tuple #[.int .i64 2, .int .i64 (Lx.numLen (bl s) : Nat)]) ∧ Below w.heap.size w w' := by
  have HL := Lib.hid hl
  clear hl
  have HD := Lib.hid hd
  clear hd
  have HD1 := Lib.hid hd1
  clear hd1
  have hm := numeric_any s (by omega) (w.alloc (.cells #[.string s] 9))
  have HM := Lib.hid hm
  clear hm
  go_enter Tryd.func112, Tryd.ntmps112
  go_wp2_with (first | (go_at_call 165; refine (isLetter_any _ _).mono ?_; rintro e w' ⟨rfl, rfl⟩; rw [HL.out]) | (go_at_call 169; refine (isDigit_any _ _).mono ?_; rintro e w' ⟨rfl, rfl⟩; first | rw [HD.out] | rw [HD1.out]) | (refine HM.out.mono ?_; rintro e w' ⟨rfl, rfl⟩))
  go_ret2
  exact ⟨rfl, ((Below.refl _ _).alloc (Nat.le_refl _) _).alloc (by simp) _⟩

set_option maxHeartbeats 1000000 in
theorem next_text (s : ByteArray) (hs : s.size ≤ 9223372036854775800) (h0 : 0 < s.size) (w : World) (hg : SigIs w) (hl : Lx.isLet s[0] = false) (hd : Lx.isDig s[0] = false) (h46 : ((s[0].toNat : Int) == 46) = false) (h34 : ((s[0].toNat : Int) == 34) = true) :
    Calls Tryd.prog 112 #[.string s] w fun e w' => e = .returned (.tuple #[.int .i64 4, .int .i64 (Lx.quoLen (bl s) : Nat)]) ∧ Below w.heap.size w w' := by
  have HL := Lib.hid hl
  clear hl
  have HD := Lib.hid hd
  clear hd
  have hm := quoted_any s hs h0 (w.alloc (.cells #[.string s] 9))
  have HM := Lib.hid hm
  clear hm
  go_enter Tryd.func112, Tryd.ntmps112
  go_wp2_with (first | (go_at_call 165; refine (isLetter_any _ _).mono ?_; rintro e w' ⟨rfl, rfl⟩; rw [HL.out]) | (go_at_call 169; refine (isDigit_any _ _).mono ?_; rintro e w' ⟨rfl, rfl⟩; rw [HD.out]) | (refine HM.out.mono ?_; rintro e w' ⟨rfl, rfl⟩))
  go_ret2
  exact ⟨rfl, (Below.refl _ _).alloc (Nat.le_refl _) _⟩

set_option maxHeartbeats 1000000 in
theorem next_char2 (s : ByteArray) (hs : s.size ≤ 9223372036854775800) (h0 : 0 < s.size) (w : World) (hg : SigIs w) (hl : Lx.isLet s[0] = false) (hd : Lx.isDig s[0] = false) (h46 : ((s[0].toNat : Int) == 46) = false) (h34 : ((s[0].toNat : Int) == 34) = false) (h39 : ((s[0].toNat : Int) == 39) = true) (hq : (((Lx.quoLen (bl s) : Nat) : Int) == 2) = true) :
    Calls Tryd.prog 112 #[.string s] w fun e w' => e = .returned (.tuple #[.int .i64 3, .int .i64 (0 : Nat)]) ∧ Below w.heap.size w w' := by
  have HL := Lib.hid hl
  clear hl
  have HD := Lib.hid hd
  clear hd
  have hm := quoted_any s hs h0 (w.alloc (.cells #[.string s] 9))
  have HM := Lib.hid hm
  clear hm
  go_enter Tryd.func112, Tryd.ntmps112
  go_wp2_with (first | (go_at_call 165; refine (isLetter_any _ _).mono ?_; rintro e w' ⟨rfl, rfl⟩; rw [HL.out]) | (go_at_call 169; refine (isDigit_any _ _).mono ?_; rintro e w' ⟨rfl, rfl⟩; rw [HD.out]) | (refine HM.out.mono ?_; rintro e w' ⟨rfl, rfl⟩))
  go_ret2
  exact ⟨rfl, (Below.refl _ _).alloc (Nat.le_refl _) _⟩

set_option maxHeartbeats 1000000 in
theorem next_char (s : ByteArray) (hs : s.size ≤ 9223372036854775800) (h0 : 0 < s.size) (w : World) (hg : SigIs w) (hl : Lx.isLet s[0] = false) (hd : Lx.isDig s[0] = false) (h46 : ((s[0].toNat : Int) == 46) = false) (h34 : ((s[0].toNat : Int) == 34) = false) (h39 : ((s[0].toNat : Int) == 39) = true) (hq : (((Lx.quoLen (bl s) : Nat) : Int) == 2) = false) :
    Calls Tryd.prog 112 #[.string s] w fun e w' => e = .returned (.tuple #[.int .i64 3, .int .i64 (Lx.quoLen (bl s) : Nat)]) ∧ Below w.heap.size w w' := by
  have HL := Lib.hid hl
  clear hl
  have HD := Lib.hid hd
  clear hd
  have hm := quoted_any s hs h0 (w.alloc (.cells #[.string s] 9))
  have HM := Lib.hid hm
  clear hm
  go_enter Tryd.func112, Tryd.ntmps112
  go_wp2_with (first | (go_at_call 165; refine (isLetter_any _ _).mono ?_; rintro e w' ⟨rfl, rfl⟩; rw [HL.out]) | (go_at_call 169; refine (isDigit_any _ _).mono ?_; rintro e w' ⟨rfl, rfl⟩; rw [HD.out]) | (refine HM.out.mono ?_; rintro e w' ⟨rfl, rfl⟩))
  go_ret2
  exact ⟨rfl, (Below.refl _ _).alloc (Nat.le_refl _) _⟩

set_option maxHeartbeats 1000000 in
theorem next_sign (s : ByteArray) (hs : s.size ≤ 9223372036854775800) (h0 : 0 < s.size) (w : World) (hg : SigIs w) (hl : Lx.isLet s[0] = false) (hd : Lx.isDig s[0] = false) (h46 : ((s[0].toNat : Int) == 46) = false) (h34 : ((s[0].toNat : Int) == 34) = false) (h39 : ((s[0].toNat : Int) == 39) = false) :
    Calls Tryd.prog 112 #[.string s] w fun e w' => e = .returned (.tuple #[.int .i64 (kOf (Lx.signLen (bl s))), .int .i64 (lOf (Lx.signLen (bl s)) : Nat)]) ∧ Below w.heap.size w w' := by
  have HL := Lib.hid hl
  clear hl
  have HD := Lib.hid hd
  clear hd
  have HD1 := HD
  obtain ⟨tt, fr, hg2⟩ := hg
  have hg3 : (w.alloc (.cells #[.string s] 9)).heap[2]? = some (.cells sigVals tt fr) := (Below.heap_alloc _ _ _ (Array.getElem?_eq_some_iff.1 hg2).1).trans hg2
  have HG := Lib.hid hg3
  have hx := fun w k hk => sig_index k hk w
  have HX := Lib.hid hx
  clear hg2 hg3 hx
  go_enter Tryd.func112, Tryd.ntmps112
  go_wp2_with (first | (go_at_call 165; refine (isLetter_any _ _).mono ?_; rintro e w' ⟨rfl, rfl⟩; rw [HL.out]) | (go_at_call 169; refine (isDigit_any _ _).mono ?_; rintro e w' ⟨rfl, rfl⟩; first | rw [HD.out] | rw [HD1.out]) | (refine wpList_load_row rfl 248 _ rfl 2 rfl tt _ fr _ HG.out Tryd.underlying248 rfl (by kernel_rfl) ?_))
  go_loopw [7, 49] (fun _ i wr => ∃ k : Nat, k ≤ 48 ∧ i = .int .i64 k ∧ Hid (Lx.signs.find? (fun x => Lx.pre x (bl s)) = (Lx.signs.drop k).find? (fun x => Lx.pre x (bl s))) ∧ Hid (wr = w.alloc (.cells #[.string s] 9))) (fun _ i _ => 48 - (intOf i).toNat)
  case atStart => exact ⟨0, by omega, rfl, rfl, rfl⟩
  case round =>
    obtain ⟨k, hk, rfl, hf, hw⟩ := hrel
    obtain rfl := hw.out
    clear hw
    by_cases hlt : k < 48
    · obtain ⟨x, hxe⟩ : ∃ x, x = Lx.signs.getD k [] := ⟨_, rfl⟩
      have hi : ∀ w, (Instr.index 248 (.agg sigVals) (.int .i64 (k : Int))).run Tryd.prog w = .ok (.string ⟨x.toArray⟩) w := fun w => by rw [hxe]; exact HX.out w k hlt
      have HS := Lib.hid (size_arr x)
      have HE := Lib.hid hxe
      clear hxe
      cases hp : Lx.pre x (bl s) with
      | true =>
        have HP := Lib.hid hp
        have HF := Lib.hid (find_hit hlt (by rw [← HE.out]; exact hp) hf.out)
        clear hp hf
        go_wp2_with (go_at_call 163; refine (HasPrefix_any _ _ _).mono ?_; rintro e w' ⟨rfl, rfl⟩; rw [bl_mk, HP.out])
        go_ret2
        have hp := sig_pos k hlt
        exact ⟨by rw [signLen_hit hlt HF.out, kOf, lOf, if_neg (by omega), if_neg (by omega), ← HE.out]; rfl, (Below.refl _ _).alloc (Nat.le_refl _) _⟩
      | false =>
        have HP := Lib.hid hp
        have HF := Lib.hid (find_miss hlt (by rw [← HE.out]; exact hp) hf.out)
        clear hp hf
        go_wp2_with (go_at_call 163; refine (HasPrefix_any _ _ _).mono ?_; rintro e w' ⟨rfl, rfl⟩; rw [bl_mk, HP.out])
        go_roundw
        case rel => exact ⟨k + 1, by omega, by go_num, HF, trivial⟩
        case measure => simp [intOf]; omega
    · have HF := Lib.hid (signLen_miss (show Lx.signs.find? (fun x => Lx.pre x (bl s)) = (Lx.signs.drop 48).find? (fun x => Lx.pre x (bl s)) by rw [show 48 = k by omega]; exact hf.out))
      clear hf
      go_wp2
      go_ret2
      exact ⟨by rw [HF.out]; rfl, (Below.refl _ _).alloc (Nat.le_refl _) _⟩

set_option maxHeartbeats 1000000 in
theorem next_signa (s : ByteArray) (hs : s.size ≤ 9223372036854775800) (h0 : 0 < s.size) (w : World) (hg : SigIs w) (hl : Lx.isLet s[0] = false) (hd : Lx.isDig s[0] = false) (h46 : ((s[0].toNat : Int) == 46) = true) (h1 : s.size ≤ 1) (h34 : ((s[0].toNat : Int) == 34) = false) (h39 : ((s[0].toNat : Int) == 39) = false) :
    Calls Tryd.prog 112 #[.string s] w fun e w' => e = .returned (.tuple #[.int .i64 (kOf (Lx.signLen (bl s))), .int .i64 (lOf (Lx.signLen (bl s)) : Nat)]) ∧ Below w.heap.size w w' := by
  have HL := Lib.hid hl
  clear hl
  have HD := Lib.hid hd
  clear hd
  have HD1 := HD
  obtain ⟨tt, fr, hg2⟩ := hg
  have hg3 : (w.alloc (.cells #[.string s] 9)).heap[2]? = some (.cells sigVals tt fr) := (Below.heap_alloc _ _ _ (Array.getElem?_eq_some_iff.1 hg2).1).trans hg2
  have HG := Lib.hid hg3
  have hx := fun w k hk => sig_index k hk w
  have HX := Lib.hid hx
  clear hg2 hg3 hx
  go_enter Tryd.func112, Tryd.ntmps112
  go_wp2_with (first | (go_at_call 165; refine (isLetter_any _ _).mono ?_; rintro e w' ⟨rfl, rfl⟩; rw [HL.out]) | (go_at_call 169; refine (isDigit_any _ _).mono ?_; rintro e w' ⟨rfl, rfl⟩; first | rw [HD.out] | rw [HD1.out]) | (refine wpList_load_row rfl 248 _ rfl 2 rfl tt _ fr _ HG.out Tryd.underlying248 rfl (by kernel_rfl) ?_))
  go_loopw [7, 49] (fun _ i wr => ∃ k : Nat, k ≤ 48 ∧ i = .int .i64 k ∧ Hid (Lx.signs.find? (fun x => Lx.pre x (bl s)) = (Lx.signs.drop k).find? (fun x => Lx.pre x (bl s))) ∧ Hid (wr = w.alloc (.cells #[.string s] 9))) (fun _ i _ => 48 - (intOf i).toNat)
  case atStart => exact ⟨0, by omega, rfl, rfl, rfl⟩
  case round =>
    obtain ⟨k, hk, rfl, hf, hw⟩ := hrel
    obtain rfl := hw.out
    clear hw
    by_cases hlt : k < 48
    · obtain ⟨x, hxe⟩ : ∃ x, x = Lx.signs.getD k [] := ⟨_, rfl⟩
      have hi : ∀ w, (Instr.index 248 (.agg sigVals) (.int .i64 (k : Int))).run Tryd.prog w = .ok (.string ⟨x.toArray⟩) w := fun w => by rw [hxe]; exact HX.out w k hlt
      have HS := Lib.hid (size_arr x)
      have HE := Lib.hid hxe
      clear hxe
      cases hp : Lx.pre x (bl s) with
      | true =>
        have HP := Lib.hid hp
        have HF := Lib.hid (find_hit hlt (by rw [← HE.out]; exact hp) hf.out)
        clear hp hf
        go_wp2_with (go_at_call 163; refine (HasPrefix_any _ _ _).mono ?_; rintro e w' ⟨rfl, rfl⟩; rw [bl_mk, HP.out])
        go_ret2
        have hp := sig_pos k hlt
        exact ⟨by rw [signLen_hit hlt HF.out, kOf, lOf, if_neg (by omega), if_neg (by omega), ← HE.out]; rfl, (Below.refl _ _).alloc (Nat.le_refl _) _⟩
      | false =>
        have HP := Lib.hid hp
        have HF := Lib.hid (find_miss hlt (by rw [← HE.out]; exact hp) hf.out)
        clear hp hf
        go_wp2_with (go_at_call 163; refine (HasPrefix_any _ _ _).mono ?_; rintro e w' ⟨rfl, rfl⟩; rw [bl_mk, HP.out])
        go_roundw
        case rel => exact ⟨k + 1, by omega, by go_num, HF, trivial⟩
        case measure => simp [intOf]; omega
    · have HF := Lib.hid (signLen_miss (show Lx.signs.find? (fun x => Lx.pre x (bl s)) = (Lx.signs.drop 48).find? (fun x => Lx.pre x (bl s)) by rw [show 48 = k by omega]; exact hf.out))
      clear hf
      go_wp2
      go_ret2
      exact ⟨by rw [HF.out]; rfl, (Below.refl _ _).alloc (Nat.le_refl _) _⟩

set_option maxHeartbeats 1000000 in
theorem next_signb (s : ByteArray) (hs : s.size ≤ 9223372036854775800) (h0 : 0 < s.size) (w : World) (hg : SigIs w) (hl : Lx.isLet s[0] = false) (hd : Lx.isDig s[0] = false) (h46 : ((s[0].toNat : Int) == 46) = true) (h1 : 1 < s.size) (hd1 : Lx.isDig s[1] = false) (h34 : ((s[0].toNat : Int) == 34) = false) (h39 : ((s[0].toNat : Int) == 39) = false) :
    Calls Tryd.prog 112 #[.string s] w fun e w' => e = .returned (.tuple #[.int .i64 (kOf (Lx.signLen (bl s))), .int .i64 (lOf (Lx.signLen (bl s)) : Nat)]) ∧ Below w.heap.size w w' := by
  have HL := Lib.hid hl
  clear hl
  have HD := Lib.hid hd
  clear hd
  have HD1 := Lib.hid hd1
  clear hd1
  obtain ⟨tt, fr, hg2⟩ := hg
  have hg3 : (w.alloc (.cells #[.string s] 9)).heap[2]? = some (.cells sigVals tt fr) := (Below.heap_alloc _ _ _ (Array.getElem?_eq_some_iff.1 hg2).1).trans hg2
  have HG := Lib.hid hg3
  have hx := fun w k hk => sig_index k hk w
  have HX := Lib.hid hx
  clear hg2 hg3 hx
  go_enter Tryd.func112, Tryd.ntmps112
  go_wp2_with (first | (go_at_call 165; refine (isLetter_any _ _).mono ?_; rintro e w' ⟨rfl, rfl⟩; rw [HL.out]) | (go_at_call 169; refine (isDigit_any _ _).mono ?_; rintro e w' ⟨rfl, rfl⟩; first | rw [HD.out] | rw [HD1.out]) | (refine wpList_load_row rfl 248 _ rfl 2 rfl tt _ fr _ HG.out Tryd.underlying248 rfl (by kernel_rfl) ?_))
  go_loopw [7, 49] (fun _ i wr => ∃ k : Nat, k ≤ 48 ∧ i = .int .i64 k ∧ Hid (Lx.signs.find? (fun x => Lx.pre x (bl s)) = (Lx.signs.drop k).find? (fun x => Lx.pre x (bl s))) ∧ Hid (wr = w.alloc (.cells #[.string s] 9))) (fun _ i _ => 48 - (intOf i).toNat)
  case atStart => exact ⟨0, by omega, rfl, rfl, rfl⟩
  case round =>
    obtain ⟨k, hk, rfl, hf, hw⟩ := hrel
    obtain rfl := hw.out
    clear hw
    by_cases hlt : k < 48
    · obtain ⟨x, hxe⟩ : ∃ x, x = Lx.signs.getD k [] := ⟨_, rfl⟩
      have hi : ∀ w, (Instr.index 248 (.agg sigVals) (.int .i64 (k : Int))).run Tryd.prog w = .ok (.string ⟨x.toArray⟩) w := fun w => by rw [hxe]; exact HX.out w k hlt
      have HS := Lib.hid (size_arr x)
      have HE := Lib.hid hxe
      clear hxe
      cases hp : Lx.pre x (bl s) with
      | true =>
        have HP := Lib.hid hp
        have HF := Lib.hid (find_hit hlt (by rw [← HE.out]; exact hp) hf.out)
        clear hp hf
        go_wp2_with (go_at_call 163; refine (HasPrefix_any _ _ _).mono ?_; rintro e w' ⟨rfl, rfl⟩; rw [bl_mk, HP.out])
        go_ret2
        have hp := sig_pos k hlt
        exact ⟨by rw [signLen_hit hlt HF.out, kOf, lOf, if_neg (by omega), if_neg (by omega), ← HE.out]; rfl, (Below.refl _ _).alloc (Nat.le_refl _) _⟩
      | false =>
        have HP := Lib.hid hp
        have HF := Lib.hid (find_miss hlt (by rw [← HE.out]; exact hp) hf.out)
        clear hp hf
        go_wp2_with (go_at_call 163; refine (HasPrefix_any _ _ _).mono ?_; rintro e w' ⟨rfl, rfl⟩; rw [bl_mk, HP.out])
        go_roundw
        case rel => exact ⟨k + 1, by omega, by go_num, HF, trivial⟩
        case measure => simp [intOf]; omega
    · have HF := Lib.hid (signLen_miss (show Lx.signs.find? (fun x => Lx.pre x (bl s)) = (Lx.signs.drop 48).find? (fun x => Lx.pre x (bl s)) by rw [show 48 = k by omega]; exact hf.out))
      clear hf
      go_wp2
      go_ret2
      exact ⟨by rw [HF.out]; rfl, (Below.refl _ _).alloc (Nat.le_refl _) _⟩

theorem next_any (s : ByteArray) (hs : s.size ≤ 9223372036854775800) (h0 : 0 < s.size) (w : World) (hg : SigIs w) :
    Calls Tryd.prog 112 #[.string s] w fun e w' => e = .returned (.tuple #[.int .i64 (Lx.next (bl s)).1, .int .i64 ((Lx.next (bl s)).2 : Nat)]) ∧ Below w.heap.size w w' := by
  have b0 := bl_at s 0 h0
  have e46 := eqB s[0] 46
  have e34 := eqB s[0] 34
  have e39 := eqB s[0] 39
  have hsig : (if Lx.signLen (bl s) = 0 then ((6 : Int), 1) else (5, Lx.signLen (bl s))) = (kOf (Lx.signLen (bl s)), lOf (Lx.signLen (bl s))) := by unfold kOf lOf; split <;> rfl
  unfold Lx.next
  rw [hsig]
  simp only [← b0]
  by_cases hl : Lx.isLet s[0] = true
  · rw [if_pos hl]; exact next_let s hs h0 w hg hl
  rw [if_neg hl]
  have hl : Lx.isLet s[0] = false := by simpa using hl
  by_cases hd : Lx.isDig s[0] = true
  · rw [hd, Bool.true_or, if_pos rfl]; exact next_dig s hs h0 w hg hl hd
  have hd : Lx.isDig s[0] = false := by simpa using hd
  rw [hd, Bool.false_or]
  by_cases h46 : s[0] = 46
  · have g46 : ((s[0].toNat : Int) == 46) = true := e46.trans (by rw [h46]; rfl)
    have g34 : ((s[0].toNat : Int) == 34) = false := e34.trans (by rw [h46]; rfl)
    have g39 : ((s[0].toNat : Int) == 39) = false := e39.trans (by rw [h46]; rfl)
    have k34 : (s[0] == 34) = false := by rw [h46]; rfl
    have k39 : (s[0] == 39) = false := by rw [h46]; rfl
    have k46 : (s[0] == 46) = true := by rw [h46]; rfl
    rw [k34, k39, k46]
    by_cases h1 : 1 < s.size
    · have b1 := bl_at s 1 h1
      rw [← b1]
      by_cases hd1 : Lx.isDig s[1] = true
      · rw [if_pos (by simp [bl_length, h1, hd1])]
        exact next_dot s hs h0 w hg hl hd g46 h1 hd1
      · have hd1 : Lx.isDig s[1] = false := by simpa using hd1
        rw [hd1]
        simp only [Bool.and_false, Bool.false_eq_true, if_false]
        exact next_signb s hs h0 w hg hl hd g46 h1 hd1 g34 g39
    · rw [show decide (1 < (bl s).length) = false by rw [bl_length]; simpa using h1]
      simp only [Bool.and_false, Bool.false_and, Bool.false_eq_true, if_false]
      exact next_signa s hs h0 w hg hl hd g46 (by omega) g34 g39
  · have g46 : ((s[0].toNat : Int) == 46) = false := e46.trans (beq_eq_false_iff_ne.2 h46)
    rw [show (s[0] == 46) = false from beq_eq_false_iff_ne.2 h46]
    simp only [Bool.false_and, Bool.false_eq_true, if_false]
    by_cases h34 : s[0] = 34
    · rw [show (s[0] == 34) = true from beq_iff_eq.2 h34, if_pos rfl]
      exact next_text s hs h0 w hg hl hd g46 (e34.trans (beq_iff_eq.2 h34))
    · have g34 : ((s[0].toNat : Int) == 34) = false := e34.trans (beq_eq_false_iff_ne.2 h34)
      rw [show (s[0] == 34) = false from beq_eq_false_iff_ne.2 h34]
      simp only [Bool.false_eq_true, if_false]
      by_cases h39 : s[0] = 39
      · rw [show (s[0] == 39) = true from beq_iff_eq.2 h39, if_pos rfl]
        have g39 := e39.trans (beq_iff_eq.2 h39)
        by_cases hq : Lx.quoLen (bl s) = 2
        · rw [if_pos hq]
          exact next_char2 s hs h0 w hg hl hd g46 g34 g39 (by rw [hq]; rfl)
        · rw [if_neg hq]
          exact next_char s hs h0 w hg hl hd g46 g34 g39 (beq_eq_false_iff_ne.2 (by omega))
      · rw [show (s[0] == 39) = false from beq_eq_false_iff_ne.2 h39]
        simp only [Bool.false_eq_true, if_false]
        exact next_sign s hs h0 w hg hl hd g46 g34 (e39.trans (beq_eq_false_iff_ne.2 h39))

end Go.Proofs.YthifdcakhdckfaaDoor

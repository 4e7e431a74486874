/-
  Walk: blanks and comments taken off a line ((*scan).skip), the scan's state in a block of its own.
  Conditions: the text is shorter than 4294967281 bytes; the library's variable MaxLen holds a number.
-/
import Derived.Test.YthifdcakhdckfaaDoorTok2
import Derived.Test.YthifdcakhdckfaaDoorLxP
import Derived.RegionTactic
import Derived.BigRegion
namespace Go.Proofs.YthifdcakhdckfaaDoor
open Go.RowKit
set_option linter.unusedVariables false
set_option linter.unusedSimpArgs false

theorem cut_behind (l : Lx.L) : (Lx.behind l = none ∧ Lib.index l [42, 47] = -1) ∨ (∃ r, Lx.behind l = some r ∧ 0 ≤ Lib.index l [42, 47] ∧ r = l.drop ((Lib.index l [42, 47]).toNat + 2)) := by
  induction l with
  | nil => exact .inl ⟨rfl, rfl⟩
  | cons c t ih =>
    have hp : ([42, 47] : List UInt8).isPrefixOf (c :: t) = (c == 42 && Lx.at_ t 0 == 47 && decide (0 < t.length)) := by
      cases t with
      | nil => simp [List.isPrefixOf, Lx.at_]
      | cons d u => simp [List.isPrefixOf, Lx.at_, BEq.comm]
    unfold Lx.behind Lib.index
    rw [hp]
    by_cases hc : (c == 42 && Lx.at_ t 0 == 47 && decide (0 < t.length)) = true
    · rw [if_pos hc, if_pos hc]
      exact .inr ⟨_, rfl, by decide, by simp⟩
    · rw [if_neg hc, if_neg hc]
      rcases ih with ⟨h1, h2⟩ | ⟨r, h1, h2, h3⟩
      · exact .inl ⟨h1, by rw [h2]; rfl⟩
      · refine .inr ⟨r, h1, ?_, ?_⟩
        · rw [if_neg (by simp; omega)]; omega
        · rw [if_neg (by simp; omega), h3, show (Lib.index t [42, 47] + 1).toNat + 2 = ((Lib.index t [42, 47]).toNat + 2) + 1 by omega]
          rfl
theorem cut_none {l : Lx.L} (h : Lx.behind l = none) : (Lib.cut l [42, 47]).2.1 = [] ∧ (Lib.cut l [42, 47]).2.2 = false := by
  rcases cut_behind l with ⟨_, h2⟩ | ⟨r, h1, _⟩
  · unfold Lib.cut; rw [h2]; exact ⟨rfl, rfl⟩
  · rw [h] at h1; cases h1
theorem cut_some {l r : Lx.L} (h : Lx.behind l = some r) : (Lib.cut l [42, 47]).2.1 = r ∧ (Lib.cut l [42, 47]).2.2 = true := by
  rcases cut_behind l with ⟨h1, _⟩ | ⟨r', h1, h2, h3⟩
  · rw [h] at h1; cases h1
  · rw [h] at h1
    injection h1 with h1
    unfold Lib.cut
    rw [if_pos h2]
    exact ⟨by rw [h1, h3]; rfl, rfl⟩

def strLen : Value → Nat | .string s => s.size | _ => 0
def ScanIs (w : World) (g : Nat) (o : Bool) (fr : Int) (sp fi : Bool) : Prop := w.heap[g]? = some (.cells #[.bool o, .int .i64 fr, .bool sp, .bool fi] 112 (0, 0))
def MaxIs (w : World) : Prop := ∃ m, w.cell? ⟨5, 0, none⟩ = some (.int .i64 m)
section
variable {w : World} {g : Nat} {o : Bool} {fr : Int} {sp fi : Bool}
theorem ScanIs.c0 (h : ScanIs w g o fr sp fi) : w.cell? ⟨g, 0, none⟩ = some (.bool o) := by unfold ScanIs at h; simp [World.cell?, h]
theorem ScanIs.c1 (h : ScanIs w g o fr sp fi) : w.cell? ⟨g, 1, none⟩ = some (.int .i64 fr) := by unfold ScanIs at h; simp [World.cell?, h]
theorem ScanIs.c2 (h : ScanIs w g o fr sp fi) : w.cell? ⟨g, 2, none⟩ = some (.bool sp) := by unfold ScanIs at h; simp [World.cell?, h]
theorem ScanIs.c3 (h : ScanIs w g o fr sp fi) : w.cell? ⟨g, 3, none⟩ = some (.bool fi) := by unfold ScanIs at h; simp [World.cell?, h]
theorem ScanIs.fz (h : ScanIs w g o fr sp fi) (i : Nat) : w.frozen? ⟨g, i, none⟩ = false := by unfold ScanIs at h; simp [World.frozen?, h]
theorem ScanIs.s0 (h : ScanIs w g o fr sp fi) (b : Bool) : ScanIs (w.setCell ⟨g, 0, none⟩ (.bool b)) g b fr sp fi := by unfold ScanIs at h ⊢; simp [World.setCell, Array.getElem?_modify, h]
theorem ScanIs.s1 (h : ScanIs w g o fr sp fi) (b : Int) : ScanIs (w.setCell ⟨g, 1, none⟩ (.int .i64 b)) g o b sp fi := by unfold ScanIs at h ⊢; simp [World.setCell, Array.getElem?_modify, h]
theorem ScanIs.s2 (h : ScanIs w g o fr sp fi) (b : Bool) : ScanIs (w.setCell ⟨g, 2, none⟩ (.bool b)) g o fr b fi := by unfold ScanIs at h ⊢; simp [World.setCell, Array.getElem?_modify, h]
theorem ScanIs.s3 (h : ScanIs w g o fr sp fi) (b : Bool) : ScanIs (w.setCell ⟨g, 3, none⟩ (.bool b)) g o fr sp b := by unfold ScanIs at h ⊢; simp [World.setCell, Array.getElem?_modify, h]
theorem ScanIs.drewN (h : ScanIs w g o fr sp fi) (n : Nat) : ScanIs (w.drewN n) g o fr sp fi := h
theorem ScanIs.drew (h : ScanIs w g o fr sp fi) : ScanIs w.drew g o fr sp fi := h
theorem ScanIs.lt (h : ScanIs w g o fr sp fi) : g < w.heap.size := (Array.getElem?_eq_some_iff.1 h).1
end
theorem grown_set {a w : World} {g : Nat} (h : a.grownBy w (some g)) (i : Nat) (u : Value) : a.grownBy (w.setCell ⟨g, i, none⟩ u) (some g) :=
  ⟨h.os, h.tape, h.output, by simpa [World.setCell] using h.size, fun k hk hne => (Below.heap_setCell w ⟨g, i, none⟩ u k (fun e => hne (by rw [e]))).trans (h.block k hk hne)⟩
theorem grown_drew {a w : World} {row : Option Nat} (h : a.grownBy w row) : a.grownBy w.drew row := ⟨h.os, h.tape, h.output, h.size, h.block⟩
theorem grown_drewN {a w : World} {row : Option Nat} (h : a.grownBy w row) (n : Nat) : a.grownBy (w.drewN n) row := ⟨h.os, h.tape, h.output, h.size, h.block⟩
theorem MaxIs.grown {a w : World} {g : Nat} (hm : MaxIs a) (h : a.grownBy w (some g)) (hg : g ≠ 5) : MaxIs w := by
  obtain ⟨m, hm⟩ := hm
  refine ⟨m, (World.cell?_of_block (h.block 5 (World.block_lt_of_cell? a _ hm) (fun e => hg (by injection e with e; exact e.symm)))).trans hm⟩
theorem empty_toList (r : ByteArray) (h : bl r = []) : r.toList.isEmpty = true := by rw [ByteArray.toList_eq]; unfold bl at h; rw [h]; rfl
theorem full_toList (r : ByteArray) (h : bl r ≠ []) : r.toList.isEmpty = false := by
  rw [ByteArray.toList_eq]
  unfold bl at h
  cases e : r.data.toList with
  | nil => exact absurd e h
  | cons a t => rfl
theorem size_mk (l : Lx.L) : (⟨l.toArray⟩ : ByteArray).size = l.length := by show l.toArray.size = _; simp
theorem size_nil : (⟨#[]⟩ : ByteArray).size = 0 := rfl
theorem blMk (l : Lx.L) : bl ⟨l.toArray⟩ = l := by unfold bl; simp
theorem blankB (c : UInt8) : decide (0 ≤ Lib.indexByte [32, 9, 11, 12] c) = Lx.isBlank c := by
  have := byteAll (p := fun c => (decide (0 ≤ Lib.indexByte [32, 9, 11, 12] c)) == Lx.isBlank c) (by decide +kernel) c
  simpa using this
theorem bl_drop (s : ByteArray) (a : Nat) : bl (s.extract a s.size) = (bl s).drop a := Lib.extract_to_end s a

theorem Cut_any (s : ByteArray) (w : World) (hs : s.size < 4294967281) (hm : MaxIs w) :
    Calls Tryd.prog 162 #[.string s, .string ⟨#[42, 47]⟩] w fun e w' => e = .returned (.tuple #[.string ⟨(Lib.cut (bl s) [42, 47]).1.toArray⟩, .string ⟨(Lib.cut (bl s) [42, 47]).2.1.toArray⟩, .bool (Lib.cut (bl s) [42, 47]).2.2]) ∧ ∃ n, w' = w.drewN n := by
  obtain ⟨m, hm⟩ := hm
  exact Tryd.strings_Cut s ⟨#[42, 47]⟩ m w hs hm

set_option maxHeartbeats 2000000 in
theorem skip_any (s : ByteArray) (hs : s.size < 4294967281) (g : Nat) (o : Bool) (fr : Int) (sp fi : Bool) (line : Int) (w : World) (hx : ScanIs w g o fr sp fi) (hm : MaxIs w) (hg5 : g ≠ 5) :
    Calls Tryd.prog 111 #[.pointer (some ⟨g, 0, none⟩), .string s, .int .i64 line] w fun e w' => ∃ fr' r, e = .returned (.string r) ∧ bl r = (Lx.skipAll o sp (bl s)).2.2 ∧ r.size ≤ s.size ∧ ScanIs w' g (Lx.skipAll o sp (bl s)).1 fr' (Lx.skipAll o sp (bl s)).2.1 fi ∧ w.grownBy w' (some g) := by
  have HM := Lib.hid hm
  clear hm
  go_enter Tryd.func111, Tryd.ntmps111
  go_wp2
  go_loopw [1] (fun v wr => ∃ (r : ByteArray) (o' sp' : Bool) (fr' : Int), v = .string r ∧ r.size ≤ s.size ∧ Hid (ScanIs wr g o' fr' sp' fi) ∧ Hid (w.grownBy wr (some g)) ∧ Hid (Lx.skipAll o sp (bl s) = Lx.skipAll o' sp' (bl r))) (fun v _ => strLen v)
  case atStart => exact ⟨s, o, sp, fr, rfl, Nat.le_refl _, hx, World.grownBy.refl w _, rfl⟩
  case round =>
    obtain ⟨r, o', sp', fr', rfl, hr, hS, hG, hE⟩ := hrel
    have hlen := bl_length r
    by_cases hr0 : bl r = []
    · have he := empty_toList r hr0
      have HQ := Lib.hid (hE.out.trans (by rw [hr0, Lx.skipAll_nil]))
      have hz : r.size = 0 := by rw [← hlen, hr0]; rfl
      clear hr0 hE hlen hz
      go_wp2
      go_ret
      exact ⟨fr', _, rfl, by rw [HQ.out]; rfl, by rw [size_nil]; omega, by rw [HQ.out]; exact hS, hG⟩
    have he := full_toList r hr0
    have hp : 0 < r.size := by rw [← hlen]; exact List.length_pos_iff.2 hr0
    have hc0 := hS.out.c0
    have hc1 := hS.out.c1
    have hc2 := hS.out.c2
    have hf0 := hS.out.fz 0
    have hf1 := hS.out.fz 1
    have hf2 := hS.out.fz 2
    have HM1 := Lib.hid (HM.out.grown hG.out hg5)
    have HR0 := Lib.hid hr0
    clear hr0 hlen
    cases o' with
    | true =>
      cases hb : Lx.behind (bl r) with
      | none =>
        have HQ := Lib.hid (hE.out.trans (Lx.skipAll_open_none sp' HR0.out hb))
        obtain ⟨k1, k2⟩ := cut_none hb
        have K1 := Lib.hid k1
        have K2 := Lib.hid k2
        clear hb k1 k2 hE
        go_wp2_with (go_at_call 162; refine (Cut_any _ _ (by omega) HM1.out).mono ?_; rintro e w' ⟨rfl, n, rfl⟩; rw [K1.out, K2.out])
        go_roundw
        case rel => exact ⟨_, _, _, _, rfl, by rw [size_nil]; omega, ((hS.out.drewN n).s2 true), grown_set (grown_drewN hG.out n) 2 _, HQ.out.trans (by rw [show bl ⟨#[]⟩ = [] from rfl, Lx.skipAll_nil])⟩
        case measure => show (⟨#[]⟩ : ByteArray).size < r.size; rw [size_nil]; exact hp
      | some q =>
        have HQ := Lib.hid (hE.out.trans (Lx.skipAll_open_some sp' HR0.out hb))
        have hql := Lx.behind_len hb
        rw [bl_length] at hql
        obtain ⟨k1, k2⟩ := cut_some hb
        have K1 := Lib.hid k1
        have K2 := Lib.hid k2
        clear hb k1 k2 hE
        go_wp2_with (go_at_call 162; refine (Cut_any _ _ (by omega) HM1.out).mono ?_; rintro e w' ⟨rfl, n, rfl⟩; rw [K1.out, K2.out])
        go_roundw
        case rel => exact ⟨_, _, _, _, rfl, by rw [size_mk]; omega, ((hS.out.drewN n).s2 true).s0 false, grown_set (grown_set (grown_drewN hG.out n) 2 _) 0 _, HQ.out.trans (by rw [blMk])⟩
        case measure => show (⟨q.toArray⟩ : ByteArray).size < r.size; rw [size_mk]; omega
    | false =>
      have r0 := bl_at r 0 hp
      cases h1 : Lx.pre [47, 47] (bl r) with
      | true =>
        have HQ := Lib.hid (hE.out.trans (Lx.skipAll_line sp' HR0.out h1))
        have H1 := Lib.hid h1
        clear h1 hE r0
        go_wp2_with (go_at_call 163; refine (HasPrefix_any _ _ _).mono ?_; rintro e w' ⟨rfl, rfl⟩; first | rw [show bl ⟨#[47, 47]⟩ = [47, 47] from rfl, H1.out])
        go_ret
        exact ⟨fr', _, rfl, by rw [HQ.out]; rfl, by rw [size_nil]; omega, by rw [HQ.out]; exact hS, hG⟩
      | false =>
        have H1 := Lib.hid h1
        cases h2 : Lx.pre [47, 42] (bl r) with
        | true =>
          have HQ := Lib.hid (hE.out.trans (Lx.skipAll_begin sp' HR0.out h1 h2))
          have H2 := Lib.hid h2
          have hsz2 : 2 ≤ r.size := by
            have := List.IsPrefix.length_le (List.isPrefixOf_iff_prefix.1 h2)
            rw [bl_length] at this
            simpa using this
          clear h1 h2 hE r0
          go_wp2_with (go_at_call 163; refine (HasPrefix_any _ _ _).mono ?_; rintro e w' ⟨rfl, rfl⟩; first | rw [show bl ⟨#[47, 47]⟩ = [47, 47] from rfl, H1.out] | rw [show bl ⟨#[47, 42]⟩ = [47, 42] from rfl, H2.out])
          go_region
          go_wp2
          go_roundw
          case rel => exact ⟨_, _, _, _, rfl, by rw [← bl_length, bl_drop, List.length_drop, bl_length]; omega, ((hS.out.s0 true).s1 line).drew, grown_drew (grown_set (grown_set hG.out 0 _) 1 _), HQ.out.trans (by rw [bl_drop])⟩
          case measure => show (r.extract 2 r.size).size < r.size; rw [← bl_length, bl_drop, List.length_drop, bl_length]; omega
        | false =>
          have H2 := Lib.hid h2
          cases h3 : Lx.isBlank r[0] with
          | true =>
            have HQ := Lib.hid (hE.out.trans (Lx.skipAll_blank sp' HR0.out h1 h2 (by rw [← r0]; exact h3)))
            have h3' := h3
            rw [← blankB] at h3'
            have h3i : 0 ≤ Lib.indexByte [32, 9, 11, 12] r[0] := of_decide_eq_true h3'
            clear h1 h2 h3 h3' hE r0
            go_wp2_with (first | (go_at_call 163; refine (HasPrefix_any _ _ _).mono ?_; rintro e w' ⟨rfl, rfl⟩; first | rw [show bl ⟨#[47, 47]⟩ = [47, 47] from rfl, H1.out] | rw [show bl ⟨#[47, 42]⟩ = [47, 42] from rfl, H2.out]) | (go_at_call 164; refine (IndexByte_any _ _ _).mono ?_; rintro e w' ⟨rfl, rfl⟩))
            go_region
            go_wp2
            go_roundw
            case rel => exact ⟨_, _, _, _, rfl, by rw [← bl_length, bl_drop, List.length_drop, bl_length]; omega, (hS.out.s2 true).drew, grown_drew (grown_set hG.out 2 _), HQ.out.trans (by rw [bl_drop])⟩
            case measure => show (r.extract 1 r.size).size < r.size; rw [← bl_length, bl_drop, List.length_drop, bl_length]; omega
          | false =>
            have HQ := Lib.hid (hE.out.trans (Lx.skipAll_stop sp' HR0.out h1 h2 (by rw [← r0]; exact h3)))
            have h3' := h3
            rw [← blankB] at h3'
            have h3i : Lib.indexByte [32, 9, 11, 12] r[0] < 0 := Int.not_le.1 (of_decide_eq_false h3')
            clear h1 h2 h3 h3' hE r0
            go_wp2_with (first | (go_at_call 163; refine (HasPrefix_any _ _ _).mono ?_; rintro e w' ⟨rfl, rfl⟩; first | rw [show bl ⟨#[47, 47]⟩ = [47, 47] from rfl, H1.out] | rw [show bl ⟨#[47, 42]⟩ = [47, 42] from rfl, H2.out]) | (go_at_call 164; refine (IndexByte_any _ _ _).mono ?_; rintro e w' ⟨rfl, rfl⟩))
            go_ret
            exact ⟨fr', _, rfl, by rw [HQ.out], hr, by rw [HQ.out]; exact hS, hG⟩
end Go.Proofs.YthifdcakhdckfaaDoor

/-
  Walk: the iterator over a line's tokens ((*scan).toks and its function), as a contract of a range over a function.
  Conditions: no comment is open as the line begins; the line is shorter than 4294967281 bytes.
-/
import Derived.RangeFuncNested
import Derived.RangeFuncBound
import Derived.RangeFuncCalls
import Derived.RangeFuncLeaves
import Derived.Shelf.Abstract
import Derived.Shelf.RegionOpen
import Derived.WalkKit
import Derived.OwnWalkIn
import Derived.TacticsInMore
import Derived.LoopNIn
import Derived.LoopIn
import Derived.Test.YthifdcakhdckfaaDoorRng
import Derived.Test.YthifdcakhdckfaaDoorNext
import Derived.Test.YthifdcakhdckfaaDoorSkip
import Derived.Test.YthifdcakhdckfaaDoorPMacroWordsx1
namespace Go.Proofs.YthifdcakhdckfaaDoor
open Go.RowKit
open PMacroWords (S62)
set_option linter.unusedVariables false
set_option linter.unusedSimpArgs false
attribute [local go_sem] Oper.semAt_some

theorem bl_take (s : ByteArray) (k : Nat) : bl (s.extract 0 k) = (bl s).take k := by
  unfold bl
  rw [Lib.extract_data]
  simp
theorem callW {P : Program} {n f : Nat} {args : Array Value} {w : World} {R : Ending → World → Prop} (h : Calls P f args w R) :
    Fence.wide.fn f ∧ (Fence.wide.depth.isSome = true → 1 ≤ n) ∧ CallsIn Fence.wide (n - 1) P f args w R := ⟨trivial, fun h => by simp [Fence.wide] at h, callsIn_wide.2 h⟩
theorem deepW {n : Nat} : Fence.wide.depth.isSome = true → 1 ≤ n := fun h => by simp [Fence.wide] at h
theorem callR {P : Program} {n f l : Nat} {args : Array Value} {w : World} {R : Ending → World → Prop} (h : Calls P f args w R) :
    (Fence.wide.inRound l).fn f ∧ ((Fence.wide.inRound l).depth.isSome = true → 1 ≤ n) ∧ CallsIn (Fence.wide.inRound l) (n - 1) P f args w R := ⟨trivial, fun h => by simp [Fence.wide] at h, CallsIn.inRound l (callsIn_wide.2 h)⟩

def tk (x : S62) : Lx.Tk := ⟨x.f0, bl x.f1, x.f4, x.f5⟩
def tokV (x : S62) : Value := .agg #[.int .i64 x.f0, .string x.f1, .string x.f2, .int .i64 x.f3, .bool x.f4, .bool x.f5]

/-- What a round keeps: the scan, the two boxes, the two variables. -/
def Keep5 (g b1 b2 : Nat) (W W' : World) : Prop := W.heap.size ≤ W'.heap.size ∧ ∀ k, (k = g ∨ k = b1 ∨ k = b2 ∨ k = 2 ∨ k = 5) → W'.heap[k]? = W.heap[k]?

/-- The token that is next after those that have come. -/
def IsNext (S : ByteArray) (line : Int) (pre : List S62) (x : S62) : Prop :=
  ∃ o sp fi s, Lx.Run (bl S) (pre.map tk) o sp fi s ∧ (Lx.skipAll o sp s).2.2 ≠ [] ∧ tk x = Lx.tokAt o sp fi s ∧ x.f2 = ⟨#[]⟩ ∧ x.f3 = line
def Full (x : S62) : Prop := bl x.f1 ≠ []
def AllCame (S : ByteArray) (g : Nat) (xs : List S62) (W : World) : Prop :=
  ∃ o sp fi s fr sp', Lx.Run (bl S) (xs.map tk) o sp fi s ∧ (Lx.skipAll o sp s).2.2 = [] ∧ ScanIs W g (Lx.skipAll o sp s).1 fr sp' fi

/-- What the iterator reads between two rounds. -/
structure It (g b1 b2 : Nat) (S : ByteArray) (line : Int) (W : World) : Prop where
  b1 : W.heap[b1]? = some (.cells #[.pointer (some ⟨g, 0, none⟩)] 110 (0, 0))
  b2 : W.heap[b2]? = some (.cells #[.int .i64 line, .string S] 42 (0, 0))
  sig : SigIs W
  max : MaxIs W
section
variable {g b1 b2 : Nat} {S : ByteArray} {line : Int} {W W' : World}
theorem It.c1 (h : It g b1 b2 S line W) : W.cell? ⟨b1, 0, none⟩ = some (.pointer (some ⟨g, 0, none⟩)) := by simp [World.cell?, h.b1]
theorem It.c20 (h : It g b1 b2 S line W) : W.cell? ⟨b2, 0, none⟩ = some (.int .i64 line) := by simp [World.cell?, h.b2]
theorem It.c21 (h : It g b1 b2 S line W) : W.cell? ⟨b2, 1, none⟩ = some (.string S) := by simp [World.cell?, h.b2]
theorem It.keep (h : It g b1 b2 S line W) (hk : Keep5 g b1 b2 W W') : It g b1 b2 S line W' := by
  refine ⟨(hk.2 _ (.inr (.inl rfl))).trans h.b1, (hk.2 _ (.inr (.inr (.inl rfl)))).trans h.b2, ?_, ?_⟩
  · obtain ⟨t, fr, hs⟩ := h.sig
    exact ⟨t, fr, (hk.2 _ (.inr (.inr (.inr (.inl rfl))))).trans hs⟩
  · obtain ⟨m, hm⟩ := h.max
    exact ⟨m, (World.cell?_of_block (hk.2 5 (.inr (.inr (.inr (.inr rfl)))))).trans hm⟩
theorem It.grown (h : It g b1 b2 S line W) (hg : W.grownBy W' (some g)) (n1 : g ≠ b1) (n2 : g ≠ b2) (n3 : g ≠ 2) (n4 : g ≠ 5) : It g b1 b2 S line W' := by
  have lt : ∀ {k o}, W.heap[k]? = some o → k < W.heap.size := fun h => (Array.getElem?_eq_some_iff.1 h).1
  refine ⟨(hg.block _ (lt h.b1) (fun e => n1 (by injection e with e; exact e.symm))).trans h.b1, (hg.block _ (lt h.b2) (fun e => n2 (by injection e with e; exact e.symm))).trans h.b2, ?_, h.max.grown hg n4⟩
  obtain ⟨t, fr, hs⟩ := h.sig
  exact ⟨t, fr, (hg.block _ (lt hs) (fun e => n3 (by injection e with e; exact e.symm))).trans hs⟩
def HasScan (g : Nat) (W : World) : Prop := ∃ o fr sp fi, ScanIs W g o fr sp fi
theorem ScanIs.has {o : Bool} {fr : Int} {sp fi : Bool} (h : ScanIs W g o fr sp fi) : HasScan g W := ⟨_, _, _, _, h⟩
theorem grown_below {row : Option Nat} (h : Below W.heap.size W W') : W.grownBy W' row := ⟨h.os, h.tape, h.output, h.size, fun k hk _ => h.block k hk⟩
theorem ScanIs.below {o : Bool} {fr : Int} {sp fi : Bool} (h : ScanIs W g o fr sp fi) (hb : Below W.heap.size W W') : ScanIs W' g o fr sp fi := (hb.block g h.lt).trans h
theorem ScanIs.keep {o : Bool} {fr : Int} {sp fi : Bool} (h : ScanIs W g o fr sp fi) (hk : Keep5 g b1 b2 W W') : ScanIs W' g o fr sp fi := (hk.2 g (.inl rfl)).trans h
end

theorem toks_any (g : Nat) (S : ByteArray) (line : Int) (w : World) :
    Calls Tryd.prog 54 #[.pointer (some ⟨g, 0, none⟩), .agg #[.int .i64 line, .string S]] w fun e w' =>
      e = .returned (.func (.func 110) #[] #[.pointer (some ⟨w.heap.size, 0, none⟩), .pointer (some ⟨w.heap.size + 1, 0, none⟩)]) ∧ w' = (w.alloc (.cells #[.pointer (some ⟨g, 0, none⟩)] 110)).alloc (.cells #[.int .i64 line, .string S] 42) := by
  have hmf : ∀ (fn : Fn) (first cap : Array Value) (w : World), (Instr.makeFunc fn first cap).run Tryd.prog w = .ok (.func fn first cap) w := fun _ _ _ _ => rfl
  go_enter Tryd.func54, Tryd.ntmps54
  go_wp2
  go_ret
  exact ⟨rfl, rfl⟩

set_option maxRecDepth 100000 in
set_option maxHeartbeats 4000000 in
theorem toks1_in (n : Nat) (l g b1 b2 : Nat) (S : ByteArray) (hS : S.size < 4294967281) (line : Int) (J Jx : List S62 → World → Prop)
    (hJ : ∀ s A B, J s A → A.grownBy B (some g) → HasScan g B → J s B)
    (hY : ∀ pre x W1, J pre W1 → IsNext S line pre x → YieldAt Fence.wide (n - 1) Tryd.prog l #[tokV x] W1 fun e W' =>
      (e = .returned (.bool true) ∧ J (pre ++ [x]) W' ∧ Keep5 g b1 b2 W1 W' ∧ Full x) ∨ (e = .returned (.bool false) ∧ Jx (pre ++ [x]) W' ∧ Keep5 g b1 b2 W1 W'))
    (W : World) (fr : Int) (sp fi : Bool) (hx : ScanIs W g false fr sp fi) (hit : It g b1 b2 S line W)
    (hg2 : g ≠ 2) (hg5 : g ≠ 5) (hgb1 : g ≠ b1) (hgb2 : g ≠ b2) (h0 : J [] W) :
    CallsIn Fence.wide n Tryd.prog 110 #[.func (.yield l) #[] #[], .pointer (some ⟨b1, 0, none⟩), .pointer (some ⟨b2, 0, none⟩)] W fun e W' => (∃ v, e = .returned v) ∧
      ((∃ xs, J xs W' ∧ AllCame S g xs W') ∨ (∃ pre, Jx pre W' ∧ True)) := by
  have HJ := Lib.hid hJ
  have HY := Lib.hid hY
  have HX := Lib.hid hx
  have HI := Lib.hid hit
  have H0 := Lib.hid h0
  have hgb1' := hgb1.symm
  have hgb2' := hgb2.symm
  clear hJ hY hx hit h0
  have c1 := HI.out.c1
  have c20 := HI.out.c20
  have c21 := HI.out.c21
  have s0 := HX.out.c0
  have s2 := HX.out.c2
  have s3 := HX.out.c3
  have f2 := HX.out.fz 2
  have f3 := HX.out.fz 3
  refine callsIn_of_wp Tryd.func110 rfl trivial ?_ rfl
  simp only [Tryd.ntmps110, List.size_toArray, List.length_cons, List.length_nil, Nat.reduceAdd, Nat.reduceSub, Array.replicate_succ, Array.replicate_zero, List.push_toArray, List.append_toArray, List.nil_append, List.cons_append]
  gi_wp2
  gi_region
  obtain ⟨W2, hW2⟩ : ∃ W2, ((W.setCell ⟨g, 3, none⟩ (.bool true)).setCell ⟨g, 2, none⟩ (.bool false)).drew = W2 := ⟨_, rfl⟩
  have hG : W.grownBy W2 (some g) := by rw [← hW2]; exact grown_drew (grown_set (grown_set (World.grownBy.refl W _) 3 _) 2 _)
  have HX2 := Lib.hid (show ScanIs W2 g false fr false true by rw [← hW2]; exact ((HX.out.s3 true).s2 false).drew)
  have HI2 := Lib.hid (HI.out.grown hG hgb1 hgb2 hg2 hg5)
  have H02 := Lib.hid (HJ.out _ _ _ H0.out hG HX2.out.has)
  rw [hW2]
  clear hW2 hG c1 c20 c21 s0 s2 s3 f2 f3 HX HI H0
  have c1 := HI2.out.c1
  have c20 := HI2.out.c20
  have c21 := HI2.out.c21
  gi_wp2_with (fail)
  refine callW ((skip_any S hS g false fr false true line W2 HX2.out HI2.out.max hg5).mono ?_)
  rintro e w3 ⟨fr0, ra, rfl, hr, hrs, hX3, hG3⟩
  have HX3 := Lib.hid hX3
  have HR := Lib.hid hr
  have HI3 := Lib.hid (HI2.out.grown hG3 hgb1 hgb2 hg2 hg5)
  have H03 := Lib.hid (HJ.out _ _ _ H02.out hG3 HX3.out.has)
  clear hX3 hr hG3 c1 c20 c21 HX2 HI2 H02
  gi_wp2
  gi_loopw [4] (fun v wr => ∃ (pre : List S62) (o sp fi : Bool) (s : Lx.L) (fr : Int) (r : ByteArray), v = .string r ∧ r.size ≤ S.size ∧ Hid (Lx.Run (bl S) (pre.map tk) o sp fi s) ∧ Hid (bl r = (Lx.skipAll o sp s).2.2) ∧ Hid (ScanIs wr g (Lx.skipAll o sp s).1 fr (Lx.skipAll o sp s).2.1 fi) ∧ Hid (It g b1 b2 S line wr) ∧ Hid (J pre wr)) (fun v _ => strLen v)
  case atStart => exact ⟨[], false, false, true, bl S, fr0, ra, rfl, hrs, Lx.Run.nil, HR, HX3, HI3, H03⟩
  case round =>
    clear HX3 HR HI3 H03 hrs
    obtain ⟨pre, o, sp, fi, s, fr3, r, rfl, hrs, HRun, HR, HX3, HI3, H03⟩ := hrel
    have hlen := bl_length r
    by_cases hr0 : bl r = []
    · have he := empty_toList r hr0
      have HE := Lib.hid hr0
      clear hr0 hlen
      gi_wp2
      go_end0
      exact ⟨⟨_, rfl⟩, .inl ⟨pre, H03, o, sp, fi, s, fr3, _, HRun, by rw [← HR.out]; exact HE, HX3⟩⟩
    · have he := full_toList r hr0
      have hp : 0 < r.size := by rw [← hlen]; exact List.length_pos_iff.2 hr0
      have HE := Lib.hid hr0
      clear hr0 hlen
      gi_wp2_with (fail)
      refine callW ((next_any r (by omega) hp wr HI3.out.sig).mono ?_)
      rintro e w4 ⟨rfl, hB4⟩
      have HX4 := Lib.hid (HX3.out.below hB4)
      have HI4 := Lib.hid (HI3.out.grown (grown_below hB4) hgb1 hgb2 hg2 hg5)
      have H04 := Lib.hid (HJ.out _ _ _ H03.out (grown_below hB4) HX4.out.has)
      have hn := Lx.next_le (bl r) HE.out
      rw [bl_length] at hn
      clear hB4 HX3 HI3 H03
      have c1 := HI4.out.c1
      have c20 := HI4.out.c20
      have s2 := HX4.out.c2
      have s3 := HX4.out.c3
      have d1 : ∀ o, (w4.alloc o).cell? ⟨b1, 0, none⟩ = some (.pointer (some ⟨g, 0, none⟩)) := fun o => (World.cell?_alloc_lt _ _ _ (World.block_lt_of_cell? _ _ c1)).trans c1
      have d20 : ∀ o, (w4.alloc o).cell? ⟨b2, 0, none⟩ = some (.int .i64 line) := fun o => (World.cell?_alloc_lt _ _ _ (World.block_lt_of_cell? _ _ c20)).trans c20
      have t2 := fun o => (World.cell?_alloc_lt w4 o _ (World.block_lt_of_cell? _ _ s2)).trans s2
      have t3 := fun o => (World.cell?_alloc_lt w4 o _ (World.block_lt_of_cell? _ _ s3)).trans s3
      gi_wp2
      gi_region
      have hBa : Below w4.heap.size w4 (w4.alloc (.cells #[.int .i64 (Lx.next (bl r)).1, .string (r.extract 0 (Lx.next (bl r)).2), .string ⟨#[]⟩, .int .i64 line, .bool (Lx.skipAll o sp s).2.1, .bool fi] 62)).drew := ((Below.refl _ w4).alloc (Nat.le_refl _) _).drew
      have HX5 := Lib.hid (HX4.out.below hBa)
      have HI5 := Lib.hid (HI4.out.grown (grown_below hBa) hgb1 hgb2 hg2 hg5)
      have hnext : IsNext S line pre ⟨(Lx.next (bl r)).1, r.extract 0 (Lx.next (bl r)).2, ⟨#[]⟩, line, (Lx.skipAll o sp s).2.1, fi⟩ := by
        refine ⟨o, sp, fi, s, HRun.out, by rw [← HR.out]; exact HE.out, ?_, rfl, rfl⟩
        unfold Lx.tokAt tk
        rw [← HR.out]
        simp only [bl_take]
      obtain ⟨fn, tmps, assign, body, hy, hRd⟩ := HY.out pre _ _ (HJ.out _ _ _ H04.out (grown_below hBa) HX5.out.has) hnext
      have HRd := Lib.hid hRd
      dsimp only [tokV] at hy
      clear hRd HX4 HI4 H04 c1 c20 s2 s3 d1 d20 t2 t3 hBa
      gi_wp2
      refine ⟨deepW, HRd.out.mono ?_⟩
      rintro e W6 (⟨rfl, hJ6, hk6, hfull⟩ | ⟨rfl, hJx6, _⟩)
      · have HX6 := Lib.hid (HX5.out.keep hk6)
        have HI6 := Lib.hid (HI5.out.keep hk6)
        have H06 := Lib.hid hJ6
        have HF := Lib.hid hfull
        clear hy HRd HX5 HI5 hnext hJ6 hk6 hfull
        have c1 := HI6.out.c1
        have c20 := HI6.out.c20
        have s0 := HX6.out.c0
        have s2 := HX6.out.c2
        have s3 := HX6.out.c3
        have f2 := HX6.out.fz 2
        have f3 := HX6.out.fz 3
        gi_wp2
        gi_region
        obtain ⟨W7, hW7⟩ : ∃ W7, ((W6.setCell ⟨g, 3, none⟩ (.bool false)).setCell ⟨g, 2, none⟩ (.bool false)).drew = W7 := ⟨_, rfl⟩
        have hG : W6.grownBy W7 (some g) := by rw [← hW7]; exact grown_drew (grown_set (grown_set (World.grownBy.refl W6 _) 3 _) 2 _)
        have HX7 := Lib.hid (show ScanIs W7 g (Lx.skipAll o sp s).1 fr3 false false by rw [← hW7]; exact ((HX6.out.s3 false).s2 false).drew)
        have HI7 := Lib.hid (HI6.out.grown hG hgb1 hgb2 hg2 hg5)
        have H07 := Lib.hid (HJ.out _ _ _ H06.out hG HX7.out.has)
        have hn0 : (Lx.next (bl r)).2 ≠ 0 := by
          intro e
          have := HF.out
          unfold Full at this
          simp only [bl_take, e, List.take_zero, ne_eq, not_true_eq_false] at this
        have hx1 : (r.extract (Lx.next (bl r)).2 r.size).size = r.size - (Lx.next (bl r)).2 := by rw [← bl_length, bl_drop, List.length_drop, bl_length]
        have HN0 := Lib.hid hn0
        have HX1 := Lib.hid hx1
        rw [hW7]
        clear hW7 hG c1 c20 s0 s2 s3 f2 f3 HX6 HI6 H06 hn0 hx1
        have c1 := HI7.out.c1
        have c20 := HI7.out.c20
        gi_wp2_with (fail)
        refine callW ((skip_any _ (by rw [HX1.out]; omega) g _ fr3 false false line W7 HX7.out HI7.out.max hg5).mono ?_)
        rintro e w8 ⟨fr8, rb, rfl, hr8, hrs8, hX8, hG8⟩
        have HX8 := Lib.hid hX8
        have HR8 := Lib.hid hr8
        have HI8 := Lib.hid (HI7.out.grown hG8 hgb1 hgb2 hg2 hg5)
        have H08 := Lib.hid (HJ.out _ _ _ H07.out hG8 HX8.out.has)
        rw [HX1.out] at hrs8
        clear hX8 hr8 hG8 c1 c20 HX7 HI7 H07
        gi_wp2
        go_roundw
        case rel =>
          refine ⟨pre ++ [_], (Lx.skipAll o sp s).1, false, false, (Lx.skipAll o sp s).2.2.drop (Lx.next (Lx.skipAll o sp s).2.2).2, fr8, rb, rfl, by omega, ?_, ?_, ?_, HI8, H08⟩
          · have := Lx.Run.snoc HRun.out (by rw [← HR.out]; exact HE.out) (by rw [← HR.out]; exact HN0.out)
            rw [List.map_append]
            have e : Lx.tokAt o sp fi s = tk ⟨(Lx.next (bl r)).1, r.extract 0 (Lx.next (bl r)).2, ⟨#[]⟩, line, (Lx.skipAll o sp s).2.1, fi⟩ := by
              unfold Lx.tokAt tk
              rw [← HR.out]
              simp only [bl_take]
            rw [e] at this
            exact this
          · rw [← HR.out, ← bl_drop]; exact HR8.out
          · rw [← HR.out, ← bl_drop]; exact HX8.out
        case measure =>
          have := HN0.out
          show rb.size < r.size
          omega
      · clear hy HRd HX5 HI5
        gi_wp2
        refine bodyPost_ret (results_none rfl _ _ _) rfl ?_
        exact ⟨⟨_, rfl⟩, .inr ⟨_, hJx6, trivial⟩⟩
end Go.Proofs.YthifdcakhdckfaaDoor

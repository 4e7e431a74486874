/-
  Walks: strings.Builder's copyCheck, WriteByte, WriteString (after the library's own walks of them, at this dump's copyCheck).
  Walk: strings.Builder's String, and what it keeps.
-/
import Derived.Lib.Builder
import Derived.Lib.AppendStr
import Derived.OwnWalk
import Derived.RangeFuncBox
import Derived.KernelRfl
import Derived.Test.YthifdcakhdckfaaDoorShelf
import Derived.Test.YthifdcakhdckfaaDoorSkip
namespace Go.Proofs.YthifdcakhdckfaaDoor.Bd
open Go.RowKit
set_option linter.unusedVariables false
set_option linter.unusedSimpArgs false
open Go.Lib (BuilderAt IsBuilder)

def Parked (p : Prop) : Prop := p
theorem park {p : Prop} (h : Parked p) : p := h
theorem hold_old' {w : World} {k : Nat} {o o' : Obj} (h : w.heap[k]? = some o) : (w.alloc o').heap[k]? = some o := (Below.heap_alloc _ _ _ (Array.getElem?_eq_some_iff.1 h).1).trans h
theorem info190 : (Tryd.prog.info? 190).map (fun i => i.size) = some 2 := by kernel_rfl
theorem lies190 : liesAt Tryd.prog Tryd.prog.depth 190 (2 / Tryd.prog.cellsOf 190) 0 190 1 = true := by kernel_rfl
theorem under188 : Tryd.prog.underlying 188 = some (.pointer 190) := by kernel_rfl
theorem under284 : Tryd.prog.underlying 284 = some .unsafePointer := by kernel_rfl
theorem under60 : Tryd.prog.underlying 60 = some (.slice 5) := by kernel_rfl
theorem under9 : Tryd.prog.underlying 9 = some .string := by kernel_rfl

set_option maxRecDepth 100000 in
set_option maxHeartbeats 1000000 in
theorem copyCheck_used (b : Nat) (w : World) (h0 : w.cell? ⟨b, 0, none⟩ = some (.pointer (some ⟨b, 0, none⟩))) :
    Calls Tryd.prog 173 #[.pointer (some ⟨b, 0, none⟩)] w fun e w' => e = .returned (.tuple #[]) ∧ w' = w := by
  obtain ⟨j, hj, _⟩ := Option.map_eq_some_iff.1 info190
  go_enter Tryd.func173, Tryd.ntmps173
  go_wp2
  rw [Lib.run_neq_ptr_same w _ under188 hj]
  go_wp2
  go_end0
  exact ⟨rfl, rfl⟩
set_option maxRecDepth 100000 in
set_option maxHeartbeats 1000000 in
theorem copyCheck_fresh (b : Nat) (w : World) (h0 : w.cell? ⟨b, 0, none⟩ = some (.pointer none)) (hsh : w.shape? b = some (190, 2)) (hfz : w.frozen? ⟨b, 0, none⟩ = false) :
    Calls Tryd.prog 173 #[.pointer (some ⟨b, 0, none⟩)] w fun e w' => e = .returned (.tuple #[]) ∧ w' = w.setCell ⟨b, 0, none⟩ (.pointer (some ⟨b, 0, none⟩)) := by
  obtain ⟨j, hj, hjs⟩ := Option.map_eq_some_iff.1 info190
  go_enter Tryd.func173, Tryd.ntmps173
  go_wp2
  rw [Lib.run_to_unsafe w ⟨b, 0, none⟩ under188 under284 hj (by rw [hjs]; decide) hsh (Nat.zero_lt_succ 1)]
  simp only [Result.andThen]
  rw [Oper.upon_value]
  go_wp2
  rw [run_callFunc_extern Tryd.func214 (by kernel_rfl) (by kernel_rfl) (by kernel_rfl) (e := Extern.AbiNoEscape.same) (by kernel_rfl)]
  rw [Lib.run_noEscape]
  simp only [Result.andThen]
  rw [Oper.upon_value]
  go_wp2
  rw [Lib.run_from_unsafe w ⟨b, 0, none⟩ under284 under188 hj hsh lies190]
  simp only [Result.andThen]
  rw [Oper.upon_value]
  go_wp2
  go_end0
  exact ⟨rfl, rfl⟩
/-- What a writing method keeps: whatever is no cells; every block of cells but builders and bytes. -/
def KeptW (w w' : World) : Prop := KeepsOthers w w' ∧ ∀ (k : Nat) (cs : Array Value) (t : TypeId), w.heap[k]? = some (Obj.cells cs t (0, 0)) → t ≠ 190 → t ≠ 5 → w'.heap[k]? = some (Obj.cells cs t (0, 0))
theorem KeptW.refl (w : World) : KeptW w w := ⟨KeepsOthers.refl w, fun _ _ _ h _ _ => h⟩
theorem KeptW.trans {a b c : World} (h : KeptW a b) (k : KeptW b c) : KeptW a c := ⟨h.1.trans k.1, fun i cs t hi h1 h2 => k.2 i cs t (h.2 i cs t hi h1 h2) h1 h2⟩
theorem KeptW.set {w : World} {b : Nat} {cs : Array Value} {t : TypeId} (hb : w.heap[b]? = some (.cells cs t (0, 0))) (ht : t = 190 ∨ t = 5) (i : Nat) (u : Value) : KeptW w (w.setCell ⟨b, i, none⟩ u) :=
  ⟨KeepsOthers.setCell _ _ _, fun k cs' t' hk h1 h2 => (Below.heap_setCell _ _ _ _ (fun e => by
    subst e
    rw [hb] at hk
    injection hk with hk
    injection hk with _ hk
    rcases ht with rfl | rfl
    · exact h1 hk.symm
    · exact h2 hk.symm)).trans hk⟩
theorem KeptW.alloc (w : World) (o : Obj) : KeptW w (w.alloc o) := ⟨KeepsOthers.alloc w o, fun _ _ _ h _ _ => hold_old' h⟩
theorem KeptW.grown {w w' : World} {B n : Nat} {v : Value} {xs : List Value} (ho : w.ownsRow B 5 1 v n xs) (hg : w.grownBy w' v.ownBlock) : KeptW w w' := by
  have hr : ∀ k, v.ownBlock = some k → ∃ cs, w.heap[k]? = some (.cells cs 5 (0, 0)) := by
    intro k hk
    rcases ho.2 with ⟨rfl, _⟩ | ⟨g, cap, cur, rfl, _, hgb, _⟩
    · simp [Value.ownBlock] at hk
    · obtain rfl : g = k := by simpa [Value.ownBlock] using hk
      exact ⟨cur, hgb⟩
  refine ⟨KeepsOthers.of_grownBy hg fun j o ej hj => ?_, fun k cs t hk h1 h2 => (hg.block k (Array.getElem?_eq_some_iff.1 hk).1 (fun e => ?_)).trans hk⟩
  · obtain ⟨cs, hc⟩ := hr j ej
    rw [hc] at hj; cases hj; rfl
  · obtain ⟨cs', hc⟩ := hr k e.symm
    rw [hk] at hc
    injection hc with hc
    injection hc with _ hc
    exact h2 hc
theorem copyCheck_any (B b : Nat) (bs : List Value) (w : World) (h : IsBuilder 190 5 B b bs w) :
    Calls Tryd.prog 173 #[.pointer (some ⟨b, 0, none⟩)] w fun e w' => e = .returned (.tuple #[]) ∧ BuilderAt 190 5 B b (.pointer (some ⟨b, 0, none⟩)) bs w' ∧ Below B w w' ∧ KeptW w w' := by
  rcases h with h | h
  · refine (copyCheck_fresh b w h.cell0 h.shape h.frozen0).mono ?_
    rintro e w' ⟨rfl, rfl⟩
    obtain ⟨v, hv, _⟩ := h.2
    exact ⟨rfl, h.used _, (Below.refl B w).setCell (p := ⟨b, 0, none⟩) h.1 _, KeptW.set hv (.inl rfl) 0 _⟩
  · refine (copyCheck_used b w h.cell0).mono ?_
    rintro e w' ⟨rfl, rfl⟩
    exact ⟨rfl, h, Below.refl B _, KeptW.refl _⟩

theorem infoByte : (Tryd.prog.info? 5).map (fun i => (i.zero, i.size, i.bytes)) = some (some (.int .u8 0), 1, 1) := by kernel_rfl
/-- What both writing methods owe behind the append. -/
theorem written {B b g n cap : Nat} {ao : Option Addr} {v : Value} {bs news : List Value} {w1 w2 : World} (hB : B ≤ b) (hbk : w1.heap[b]? = some (.cells #[.pointer (some ⟨b, 0, none⟩), v] 190 (0, 0))) (hown : w1.ownsRow B 5 1 v bs.length bs) (hne : v.ownBlock ≠ some b) (hBw : B ≤ w1.heap.size)
    {v' : Value} (hg : w1.grownBy w2 v.ownBlock) (hown' : w2.ownsRow B 5 1 v' (bs ++ news).length (bs ++ news)) :
    w2.heap[b]? = some (.cells #[.pointer (some ⟨b, 0, none⟩), v] 190 (0, 0)) ∧ BuilderAt 190 5 B b (.pointer (some ⟨b, 0, none⟩)) (bs ++ news) (w2.setCell ⟨b, 1, none⟩ v') ∧ Below B w1 (w2.setCell ⟨b, 1, none⟩ v') ∧ KeptW w1 (w2.setCell ⟨b, 1, none⟩ v') := by
  have hb2 : w2.heap[b]? = some (.cells #[.pointer (some ⟨b, 0, none⟩), v] 190 (0, 0)) := (hg.block b (Array.getElem?_eq_some_iff.1 hbk).1 (fun e => hne e.symm)).trans hbk
  exact ⟨hb2, Lib.BuilderAt.put hB hb2 hown' (by decide), ((Below.refl B w1).grown hg hBw (fun k hk => (hown.lt k hk).1)).setCell (p := ⟨b, 1, none⟩) hB _, (KeptW.grown hown hg).trans (KeptW.set hb2 (.inl rfl) 1 _)⟩

set_option maxRecDepth 100000 in
set_option maxHeartbeats 2000000 in
theorem writeByte_any (B b : Nat) (l : List UInt8) (c : UInt8) (w : World) (h : IsBuilder 190 5 B b (Lib.byteCells l) w) (hl : l.length < 4294967296) (hBw : B ≤ w.heap.size) :
    Calls Tryd.prog 118 #[.pointer (some ⟨b, 0, none⟩), .int .u8 (c.toNat : Int)] w fun e w' => (∃ v, e = .returned v) ∧ IsBuilder 190 5 B b (Lib.byteCells (l ++ [c])) w' ∧ Below B w w' ∧ KeptW w w' := by
  obtain ⟨i0, hi, hz0, hz1, hz2⟩ := info_parts infoByte
  go_enter Tryd.func118, Tryd.ntmps118
  go_wp2_with (fail)
  refine (copyCheck_any B b _ w h).mono ?_
  rintro e w1 ⟨rfl, ⟨hB, v, hbk, hown, hne⟩, hb1, hk1⟩
  have c0 : w1.cell? ⟨b, 0, none⟩ = some (.pointer (some ⟨b, 0, none⟩)) := by simp [World.cell?, hbk]
  have c1 : w1.cell? ⟨b, 1, none⟩ = some v := by simp [World.cell?, hbk]
  have hB1 : B ≤ w1.heap.size := Nat.le_trans hBw hb1.size
  have hlen : (Lib.byteCells l).length = l.length := Lib.byteCells_length l
  have n1 : (Lib.byteCells l).length + 1 ≤ maxLen := by rw [hlen]; simp only [maxLen]; omega
  have n2 : ((Lib.byteCells l).length + 1) * 1 ≤ 140737488355328 := by rw [hlen]; omega
  go_wp2_with (at_builtin; refine wpList_append_own _ rfl _ _ 60 rfl B 5 i0 _ 1 1 under60 hi hz0 hz1 hz2 rfl (by decide) _ _ _ rfl (World.ownsRow.alloc hown _) ⟨w1.heap.size, 0, none⟩ 1 1 [.int .u8 (c.toNat : Int)] rfl rfl (cell_one_new _ _ _) (by simp [Value.oneCell']) n1 n2 (by simp; omega) ?_; intro v' w2 hown' hgrow _; refine park ?_)
  have hown1 := World.ownsRow.alloc hown (.cells #[.int .u8 (c.toNat : Int)] 5)
  obtain ⟨hb2, hA, hBl, hK⟩ := written (g := 0) (n := 0) (cap := 0) (ao := none) (w1 := w1.alloc (.cells #[.int .u8 (c.toNat : Int)] 5)) (news := [.int .u8 (c.toNat : Int)]) hB (hold_old' hbk) hown1 hne (by simp; omega) hgrow (by rw [List.length_append]; exact hown')
  have d0 : w2.cell? ⟨b, 0, none⟩ = some (.pointer (some ⟨b, 0, none⟩)) := by simp [World.cell?, hb2]
  have d1 : w2.cell? ⟨b, 1, none⟩ = some v := by simp [World.cell?, hb2]
  have f1 : w2.frozen? ⟨b, 1, none⟩ = false := by simp [World.frozen?, hb2]
  obtain ⟨g, cap, rfl⟩ := ownsRow_succ hown'
  unfold Parked
  rw [hlen] at hA hBl hK
  go_wp2
  go_ret
  refine ⟨⟨_, rfl⟩, ?_, hb1.trans (((Below.refl B w1).alloc hB1 _).trans hBl), hk1.trans ((KeptW.alloc _ _).trans hK)⟩
  have e : Lib.byteCells (l ++ [c]) = Lib.byteCells l ++ [.int .u8 (c.toNat : Int)] := by simp [Lib.byteCells]
  rw [e]
  exact .inr hA

set_option maxRecDepth 100000 in
set_option maxHeartbeats 2000000 in
theorem writeString_any (B b : Nat) (l : List UInt8) (s : ByteArray) (w : World) (h : IsBuilder 190 5 B b (Lib.byteCells l) w) (hl : l.length + s.size < 4294967296) (hBw : B ≤ w.heap.size) :
    Calls Tryd.prog 115 #[.pointer (some ⟨b, 0, none⟩), .string s] w fun e w' => (∃ v, e = .returned v) ∧ IsBuilder 190 5 B b (Lib.byteCells (l ++ bl s)) w' ∧ Below B w w' ∧ KeptW w w' := by
  obtain ⟨i0, hi, hz0, hz1, hz2⟩ := info_parts infoByte
  go_enter Tryd.func115, Tryd.ntmps115
  go_wp2_with (fail)
  refine (copyCheck_any B b _ w h).mono ?_
  rintro e w1 ⟨rfl, ⟨hB, v, hbk, hown, hne⟩, hb1, hk1⟩
  have c0 : w1.cell? ⟨b, 0, none⟩ = some (.pointer (some ⟨b, 0, none⟩)) := by simp [World.cell?, hbk]
  have c1 : w1.cell? ⟨b, 1, none⟩ = some v := by simp [World.cell?, hbk]
  have hB1 : B ≤ w1.heap.size := Nat.le_trans hBw hb1.size
  have hlen : (Lib.byteCells l).length = l.length := Lib.byteCells_length l
  have n1 : (Lib.byteCells l).length + s.size ≤ maxLen := by rw [hlen]; simp only [maxLen]; omega
  have n2 : (Lib.byteCells l).length + s.size ≤ 140737488355328 := by rw [hlen]; omega
  go_wp2_with (at_builtin; refine Lib.wpList_append_own_string _ rfl _ _ 60 9 rfl B 5 i0 under60 under9 hi hz0 hz1 hz2 _ _ _ rfl hown s rfl n1 n2 hB1 ?_; intro v' w2 hown' hgrow _; refine park ?_)
  obtain ⟨hb2, hA, hBl, hK⟩ := written (g := 0) (n := 0) (cap := 0) (ao := none) (news := Lib.strCells s) hB hbk hown hne hB1 hgrow (by rw [List.length_append, Lib.strCells_length]; exact hown')
  have d0 : w2.cell? ⟨b, 0, none⟩ = some (.pointer (some ⟨b, 0, none⟩)) := by simp [World.cell?, hb2]
  have d1 : w2.cell? ⟨b, 1, none⟩ = some v := by simp [World.cell?, hb2]
  have f1 : w2.frozen? ⟨b, 1, none⟩ = false := by simp [World.frozen?, hb2]
  obtain ⟨ao, n', cap, rfl⟩ : ∃ ao n' cap, v' = .slice ao n' cap := by
    rcases hown'.2 with ⟨hv, _⟩ | ⟨g, cap, cur, hv, _⟩
    · exact ⟨none, 0, 0, hv⟩
    · exact ⟨_, _, _, hv⟩
  unfold Parked
  go_wp2
  go_ret2
  refine ⟨⟨_, rfl⟩, ?_, hb1.trans hBl, hk1.trans hK⟩
  have e : Lib.byteCells (l ++ bl s) = Lib.byteCells l ++ Lib.strCells s := by simp [Lib.byteCells, Lib.strCells, bl]
  rw [e]
  exact .inr hA
end Go.Proofs.YthifdcakhdckfaaDoor.Bd

namespace Go.Proofs.YthifdcakhdckfaaDoor.Bd
open Go.RowKit
set_option linter.unusedVariables false
set_option linter.unusedSimpArgs false
open Go.Lib (BuilderAt IsBuilder)

theorem under250 : Tryd.prog.underlying 250 = some (.pointer 5) := by kernel_rfl
theorem cells5 : Tryd.prog.cellsOf 5 = 1 := by kernel_rfl
theorem keeps_drew (w : World) : KeepsOthers w w.drew := ⟨Nat.le_refl _, fun _ _ h _ => h⟩
theorem keeps_freeze {w : World} {g : Nat} {cur : Array Value} {t : TypeId} {fr : Nat × Nat} (hg : w.heap[g]? = some (.cells cur t fr)) (n : Nat) : KeepsOthers w (w.freeze ⟨g, 0, none⟩ n) := by
  have hne : ∀ k, k ≠ g → (w.freeze ⟨g, 0, none⟩ n).heap[k]? = w.heap[k]? := fun k hk => by
    unfold World.freeze
    split
    · rfl
    · simp [Array.getElem?_modify, Ne.symm hk]
  refine ⟨?_, fun k o hk ho => ?_⟩
  · unfold World.freeze
    split
    · exact Nat.le_refl _
    · simp
  · rw [hne k (fun e => by subst e; rw [hg] at hk; cases hk; cases ho)]
    exact hk
set_option maxRecDepth 100000 in
set_option maxHeartbeats 2000000 in
theorem string_full (B b : Nat) (l : List UInt8) (w : World) (h : IsBuilder 190 5 B b (Lib.byteCells l) w) (h0 : l ≠ []) :
    Calls Tryd.prog 116 #[.pointer (some ⟨b, 0, none⟩)] w fun e w' => e = .returned (.string ⟨l.toArray⟩) ∧ Below B w w' ∧ KeepsOthers w w' := by
  obtain ⟨p, hB, v, hbk, hown, hne⟩ : ∃ p, BuilderAt 190 5 B b p (Lib.byteCells l) w := h.elim (fun h => ⟨_, h⟩) (fun h => ⟨_, h⟩)
  have hl0 : l.length ≠ 0 := fun e => h0 (List.eq_nil_of_length_eq_zero e)
  have hbl := Lib.byteCells_length l
  rw [hbl] at hown
  rcases hown.2 with ⟨_, hz⟩ | ⟨g, cap, cur, rfl, hbg, hg, hnc, hcm, hcs, htake⟩
  · exact absurd hz hl0
  have c1 : w.cell? ⟨b, 1, none⟩ = some (.slice (some ⟨g, 0, none⟩) l.length cap) := by simp [World.cell?, hbk]
  have hSD : (Builtin.unsafeSliceData_ #[60] 250 #[.slice (some ⟨g, 0, none⟩) l.length cap]).run Tryd.prog w.drew = .ok (.pointer (some ⟨g, 0, none⟩)) w.drew := Lib.run_unsafeSliceData_row _ _ _ _ _ _ (by omega)
  have hUS : (Builtin.unsafeString_ #[250, 3] 9 #[.pointer (some ⟨g, 0, none⟩), .int .i64 l.length]).run Tryd.prog w.drew = .ok (.string ⟨l.toArray⟩) (w.drew.freeze ⟨g, 0, none⟩ l.length) := by
    have hg' : w.drew.heap[g]? = some (.cells cur 5 (0, 0)) := hg
    refine Lib.run_unsafeString_row w.drew 250 3 9 5 under250 cells5 g cur.size (by simp [World.shape?, hg']) l h0 (by omega) (by simp only [maxLen] at hcm; omega) ?_
    intro j x hx
    exact hown.cells (g := g) rfl j (.int .u8 x.toNat) (by simp [Lib.byteCells, hx])
  clear hown
  have mixed : Tryd.prog.follows .mixedOrders = true := by kernel_rfl
  go_enter Tryd.func116, Tryd.ntmps116
  go_wp2
  go_region_o
  all_goals
    go_wp2
    go_ret
    exact ⟨rfl, Lib.below_freeze (Below.drew (Below.refl B w)) (p := ⟨g, 0, none⟩) hbg _, (keeps_drew w).trans (keeps_freeze (w := w.drew) hg _)⟩

set_option maxRecDepth 100000 in
set_option maxHeartbeats 2000000 in
theorem string_nil (B b : Nat) (p : Value) (w : World) (hbk : w.heap[b]? = some (.cells #[p, .slice none 0 0] 190 (0, 0))) :
    Calls Tryd.prog 116 #[.pointer (some ⟨b, 0, none⟩)] w fun e w' => e = .returned (.string ⟨#[]⟩) ∧ Below B w w' ∧ KeepsOthers w w' := by
  have c1 : w.cell? ⟨b, 1, none⟩ = some (.slice none 0 0) := by simp [World.cell?, hbk]
  have hSD : (Builtin.unsafeSliceData_ #[60] 250 #[.slice none 0 0]).run Tryd.prog w.drew = .ok (.pointer none) w.drew := rfl
  have hUS : (Builtin.unsafeString_ #[250, 3] 9 #[.pointer none, .int .i64 0]).run Tryd.prog w.drew = .ok (.string .empty) w.drew := Lib.run_unsafeString_none w.drew _ _ _ none
  have mixed : Tryd.prog.follows .mixedOrders = true := by kernel_rfl
  go_enter Tryd.func116, Tryd.ntmps116
  go_wp2
  go_region_o
  all_goals
    go_wp2
    go_ret
    exact ⟨rfl, Below.drew (Below.refl B w), keeps_drew w⟩
set_option maxRecDepth 100000 in
set_option maxHeartbeats 2000000 in
theorem string_zero (B b g : Nat) (p : Value) (cur : Array Value) (w : World) (hBw : B ≤ w.heap.size) (hbk : w.heap[b]? = some (.cells #[p, .slice (some ⟨g, 0, none⟩) 0 0] 190 (0, 0))) (hg : w.heap[g]? = some (.cells cur 5 (0, 0))) :
    Calls Tryd.prog 116 #[.pointer (some ⟨b, 0, none⟩)] w fun e w' => e = .returned (.string ⟨#[]⟩) ∧ Below B w w' ∧ KeepsOthers w w' := by
  have c1 : w.cell? ⟨b, 1, none⟩ = some (.slice (some ⟨g, 0, none⟩) 0 0) := by simp [World.cell?, hbk]
  have hg' : w.drew.heap[g]? = some (.cells cur 5 (0, 0)) := hg
  have hSD : (Builtin.unsafeSliceData_ #[60] 250 #[.slice (some ⟨g, 0, none⟩) 0 0]).run Tryd.prog w.drew = .ok (.pointer (some ⟨w.drew.heap.size, 0, none⟩)) (w.drew.alloc (.view ⟨g, 0, none⟩ 5)) :=
    Lib.run_unsafeSliceData_zero w.drew _ _ 5 under250 ⟨g, 0, none⟩ 0 (5, cur.size) (by simp [World.shape?, hg'])
  have d1 : ∀ o, (w.alloc o).cell? ⟨b, 1, none⟩ = some (.slice (some ⟨g, 0, none⟩) 0 0) := fun o => (World.cell?_alloc_lt _ _ _ (World.block_lt_of_cell? _ _ c1)).trans c1
  have hUS : ∀ W q, (Builtin.unsafeString_ #[250, 3] 9 #[.pointer q, .int .i64 0]).run Tryd.prog W = .ok (.string .empty) W := fun W q => Lib.run_unsafeString_none W _ _ _ q
  have mixed : Tryd.prog.follows .mixedOrders = true := by kernel_rfl
  go_enter Tryd.func116, Tryd.ntmps116
  go_wp2
  go_region_o
  all_goals
    go_wp2
    go_ret
    exact ⟨rfl, ((Below.refl B w).alloc hBw _).drew, (KeepsOthers.alloc w _).trans (keeps_drew _)⟩

set_option maxRecDepth 100000 in
set_option maxHeartbeats 2000000 in
theorem string_room (B b g cap : Nat) (p : Value) (w : World) (hcap : 0 < cap) (hbk : w.heap[b]? = some (.cells #[p, .slice (some ⟨g, 0, none⟩) 0 cap] 190 (0, 0))) :
    Calls Tryd.prog 116 #[.pointer (some ⟨b, 0, none⟩)] w fun e w' => e = .returned (.string ⟨#[]⟩) ∧ Below B w w' ∧ KeepsOthers w w' := by
  have c1 : w.cell? ⟨b, 1, none⟩ = some (.slice (some ⟨g, 0, none⟩) 0 cap) := by simp [World.cell?, hbk]
  have hSD : (Builtin.unsafeSliceData_ #[60] 250 #[.slice (some ⟨g, 0, none⟩) 0 cap]).run Tryd.prog w.drew = .ok (.pointer (some ⟨g, 0, none⟩)) w.drew := Lib.run_unsafeSliceData_row _ _ _ _ _ _ (by omega)
  have hUS : ∀ W q, (Builtin.unsafeString_ #[250, 3] 9 #[.pointer q, .int .i64 0]).run Tryd.prog W = .ok (.string .empty) W := fun W q => Lib.run_unsafeString_none W _ _ _ q
  have mixed : Tryd.prog.follows .mixedOrders = true := by kernel_rfl
  go_enter Tryd.func116, Tryd.ntmps116
  go_wp2
  go_region_o
  all_goals
    go_wp2
    go_ret
    exact ⟨rfl, Below.drew (Below.refl B w), keeps_drew w⟩
theorem string_any (B b : Nat) (l : List UInt8) (w : World) (h : IsBuilder 190 5 B b (Lib.byteCells l) w) (hBw : B ≤ w.heap.size) :
    Calls Tryd.prog 116 #[.pointer (some ⟨b, 0, none⟩)] w fun e w' => e = .returned (.string ⟨l.toArray⟩) ∧ Below B w w' ∧ KeepsOthers w w' := by
  by_cases h0 : l = []
  · subst h0
    obtain ⟨p, hB, v, hbk, hown, hne⟩ : ∃ p, BuilderAt 190 5 B b p (Lib.byteCells []) w := h.elim (fun h => ⟨_, h⟩) (fun h => ⟨_, h⟩)
    rcases hown.2 with ⟨rfl, _⟩ | ⟨g, cap, cur, rfl, hbg, hg, _⟩
    · exact string_nil B b p w hbk
    · by_cases hc : cap = 0
      · subst hc
        exact string_zero B b g p cur w hBw hbk hg
      · exact string_room B b g cap p w (by omega) hbk
  · exact string_full B b l w h h0
end Go.Proofs.YthifdcakhdckfaaDoor.Bd

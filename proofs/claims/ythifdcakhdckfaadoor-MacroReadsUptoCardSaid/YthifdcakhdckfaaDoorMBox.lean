/-
  A macro in memory that is filled in field by field; its row of parameters; rows of tokens that are read meanwhile.
-/
import Derived.Test.YthifdcakhdckfaaDoorMacP
import Derived.Test.YthifdcakhdckfaaDoorRefLine
namespace Go.Proofs.YthifdcakhdckfaaDoor
open Go.RowKit Go.Proofs.YthifdcakhdckfaaDoorW.PrintWords
open PMacroWords (S62 k62 z62 rd_T62 k62_mk)
set_option linter.unusedVariables false
set_option linter.unusedSimpArgs false

/-- A macro in memory, by its fields. -/
def MBox (W : World) (g : Nat) (nm : ByteArray) (fn : Bool) (v : Value) (more : Bool) (vb : Value) : Prop := W.heap[g]? = some (.cells #[.string nm, .bool fn, v, .bool more, vb] 46 (0, 0))
section
variable {W : World} {g : Nat} {nm : ByteArray} {fn more : Bool} {v vb : Value}
theorem MBox.c0 (h : MBox W g nm fn v more vb) : W.cell? ⟨g, 0, none⟩ = some (.string nm) := by unfold MBox at h; simp [World.cell?, h]
theorem MBox.c1 (h : MBox W g nm fn v more vb) : W.cell? ⟨g, 1, none⟩ = some (.bool fn) := by unfold MBox at h; simp [World.cell?, h]
theorem MBox.c2 (h : MBox W g nm fn v more vb) : W.cell? ⟨g, 2, none⟩ = some v := by unfold MBox at h; simp [World.cell?, h]
theorem MBox.c3 (h : MBox W g nm fn v more vb) : W.cell? ⟨g, 3, none⟩ = some (.bool more) := by unfold MBox at h; simp [World.cell?, h]
theorem MBox.c4 (h : MBox W g nm fn v more vb) : W.cell? ⟨g, 4, none⟩ = some vb := by unfold MBox at h; simp [World.cell?, h]
theorem MBox.fz (h : MBox W g nm fn v more vb) (i : Nat) : W.frozen? ⟨g, i, none⟩ = false := by unfold MBox at h; simp [World.frozen?, h]
theorem MBox.s1 (h : MBox W g nm fn v more vb) (b : Bool) : MBox (W.setCell ⟨g, 1, none⟩ (.bool b)) g nm b v more vb := by unfold MBox at h ⊢; simp [World.setCell, Array.getElem?_modify, h]
theorem MBox.s2 (h : MBox W g nm fn v more vb) (u : Value) : MBox (W.setCell ⟨g, 2, none⟩ u) g nm fn u more vb := by unfold MBox at h ⊢; simp [World.setCell, Array.getElem?_modify, h]
theorem MBox.s3 (h : MBox W g nm fn v more vb) (b : Bool) : MBox (W.setCell ⟨g, 3, none⟩ (.bool b)) g nm fn v b vb := by unfold MBox at h ⊢; simp [World.setCell, Array.getElem?_modify, h]
theorem MBox.s4 (h : MBox W g nm fn v more vb) (u : Value) : MBox (W.setCell ⟨g, 4, none⟩ u) g nm fn v more u := by unfold MBox at h ⊢; simp [World.setCell, Array.getElem?_modify, h]
theorem MBox.lt (h : MBox W g nm fn v more vb) : g < W.heap.size := (Array.getElem?_eq_some_iff.1 h).1
theorem MBox.noInt (h : MBox W g nm fn v more vb) (hv : ∀ k n, v ≠ .int k n) (hvb : ∀ k n, vb ≠ .int k n) (o : Nat) (k : IntKind) (n : Int) : W.cell? ⟨g, o, none⟩ ≠ some (.int k n) := by
  unfold MBox at h
  intro e
  simp only [World.cell?, h] at e
  rcases o with _ | _ | _ | _ | _ | o <;> simp at e
  · exact hv k n e
  · exact hvb k n e
end
theorem addr_add (ad : Addr) (k : Nat) : ad.add k = ⟨ad.block, ad.off + k, none⟩ ∨ (k = 0 ∧ ad.add k = ad) := by
  unfold Addr.add
  split
  · rename_i h; exact .inr ⟨h, rfl⟩
  · exact .inl rfl
/-- Tokens that are read stay while a block is written in which no number lies. -/
theorem TokAt.turn {W W' : World} {g : Nat} {v : Value} {xs : List S62} (h : TokAt W v xs) (hn : ∀ (o : Nat) (k : IntKind) (n : Int), W.cell? ⟨g, o, none⟩ ≠ some (.int k n)) (hk : ∀ b, b < W.heap.size → b ≠ g → W'.heap[b]? = W.heap[b]?) : TokAt W' v xs := by
  obtain ⟨A, c, rfl, hc, hr⟩ := h
  refine ⟨A, c, rfl, hc, hr.1, hr.2.1, fun h0 => ?_⟩
  obtain ⟨ad, rfl, hh⟩ := hr.2.2 h0
  refine ⟨ad, rfl, fun j p hp => ?_⟩
  obtain ⟨c', hl, hK, hcell⟩ := hh j p hp
  have hc' := PMacroWords.k62_open hK
  refine ⟨c', hl, by rw [hc']; exact k62_mk W' p, fun i u hu => ?_⟩
  have h1 := hcell i u hu
  have hz := hcell 0 (.int .i64 p.f0) (by rw [hc']; rfl)
  have hb : (ad.add (j * k62.sz + i)).block = ad.block ∧ (ad.add (j * k62.sz + 0)).block = ad.block := by
    constructor
    · rcases addr_add ad (j * k62.sz + i) with e | ⟨_, e⟩ <;> rw [e]
    · rcases addr_add ad (j * k62.sz + 0) with e | ⟨_, e⟩ <;> rw [e]
  have hlt := World.block_lt_of_cell? _ _ h1
  rw [hb.1] at hlt
  have hne : ad.block ≠ g := by
    intro e
    have hz' := hz
    simp only [World.cell?, hb.2, e] at hz'
    refine hn (ad.add (j * k62.sz + 0)).off .i64 p.f0 ?_
    simp only [World.cell?]
    revert hz'
    cases W.heap[g]? with
    | none => exact fun h => h
    | some o =>
      cases o with
      | cells c e f =>
        intro h
        by_cases hs : (ad.add (j * k62.sz + 0)).spot.isSome = true
        · simp only [hs, if_true] at h; cases h
        · have h2 : (ad.add (j * k62.sz)).spot = none ∧ c[(ad.add (j * k62.sz)).off]? = some (Value.int IntKind.i64 p.f0) := by simpa [hs] using h
          simpa using h2.2
      | _ => exact fun h => h
  rw [← h1]
  simp only [World.cell?, hb.1]
  rw [hk _ hlt hne]

/-- A row of strings that the call itself has made. -/
def StrRow (n₀ : Nat) (W : World) (v : Value) (ps : List ByteArray) : Prop := W.ownsRow n₀ 9 1 v ps.length (ps.map Value.string)
theorem StrRow.slice {n₀ : Nat} {W : World} {v : Value} {ps : List ByteArray} (h : StrRow n₀ W v ps) : ∃ A cap, v = .slice A ps.length cap := by
  rcases h.2 with ⟨rfl, h0⟩ | ⟨g, cap, _, rfl, _⟩
  · exact ⟨none, 0, by rw [h0]⟩
  · exact ⟨_, cap, rfl⟩
theorem StrRow.block {n₀ : Nat} {W : World} {v : Value} {ps : List ByteArray} (h : StrRow n₀ W v ps) : ∀ r, v.ownBlock = some r → n₀ ≤ r ∧ ∃ cs, W.heap[r]? = some (.cells cs 9 (0, 0)) := by
  intro r hr
  rcases h.2 with ⟨rfl, _⟩ | ⟨g, cap, cur, rfl, hb, hg, _⟩
  · simp [Value.ownBlock] at hr
  · obtain rfl : g = r := by simpa [Value.ownBlock] using hr
    exact ⟨hb, cur, hg⟩
theorem StrRow.nil (n₀ : Nat) (W : World) : StrRow n₀ W (.slice none 0 0) [] := World.ownsRow_nil _ _ _ _
theorem StrRow.at {n₀ : Nat} {W : World} {v : Value} {ps : List ByteArray} (h : StrRow n₀ W v ps) : StrAt W v ps := by
  rcases h.2 with ⟨rfl, h0⟩ | ⟨g, cap, cur, rfl, hb, hg, hn, hcap, hsz, htk⟩
  · obtain rfl : ps = [] := List.eq_nil_of_length_eq_zero h0
    exact ⟨none, 0, rfl, Nat.le_refl _, rfl, by simp, fun h => absurd h (by simp)⟩
  · refine ⟨_, cap, rfl, hn, rfl, by simp only [maxLen] at hcap; omega, fun _ => ⟨_, rfl, ?_⟩⟩
    intro j x hx
    have hj : j < ps.length := (List.getElem?_eq_some_iff.1 hx).1
    refine ⟨[.string x], rfl, rfl, ?_⟩
    intro i u hu
    have hi : i = 0 := by have := (List.getElem?_eq_some_iff.1 hu).1; simp at this; exact this
    subst hi
    have hadd : (⟨g, 0, none⟩ : Addr).add (j * Kd.string.sz + 0) = ⟨g, j, none⟩ := by
      show (⟨g, 0, none⟩ : Addr).add (j * 1 + 0) = _
      rw [Nat.mul_one, Nat.add_zero]
      rcases addr_add ⟨g, 0, none⟩ j with e | ⟨e0, e⟩
      · rw [e]; simp
      · rw [e, e0]
    rw [hadd]
    simp only [World.cell?, hg]
    have h1 : (cur.toList.take (ps.length * 1))[j]? = (ps.map Value.string)[j]? := by rw [htk]
    rw [List.getElem?_take_of_lt (by omega), List.getElem?_map, hx] at h1
    simp at hu h1
    rw [← hu]
    simpa using h1
theorem MBox.below {W W' : World} {g : Nat} {nm : ByteArray} {fn more : Bool} {v vb : Value} (h : MBox W g nm fn v more vb) (hb : Below W.heap.size W W') : MBox W' g nm fn v more vb := (hb.block _ h.lt).trans h
theorem info9s : (Tryd.prog.info? 9).map (fun i => (i.zero, i.size, i.bytes)) = some (some (.string ⟨#[]⟩), 1, 16) := by kernel_rfl

/-- What an append to the parameters leaves. -/
theorem par_state {w w4 w5 : World} {g : Nat} {A : Option Addr} {cap : Nat} {o : Obj} {ps : List ByteArray} {nm : ByteArray} {fn more : Bool} {vb : Value} (hbx : MBox w4 g nm fn (.slice A ps.length cap) more vb) (hrow : StrRow w.heap.size w4 (.slice A ps.length cap) ps) (hgl : g < w.heap.size)
    (hg : (w4.alloc o).drew.grownBy w5 (Value.slice A ps.length cap).ownBlock) : MBox w5 g nm fn (.slice A ps.length cap) more vb :=
  kept_at hg (show (w4.alloc o).drew.heap[g]? = _ from hold_old hbx) (fun e => by have := (hrow.block g e.symm).1; omega)
theorem par_next {w w4 w5 : World} {g : Nat} {A : Option Addr} {cap g1 cap1 : Nat} {o : Obj} {ps : List ByteArray} {x : ByteArray} {nm : ByteArray} {fn more : Bool} {vb : Value} (hbx : MBox w4 g nm fn (.slice A ps.length cap) more vb) (hrow : StrRow w.heap.size w4 (.slice A ps.length cap) ps) (hgl : g < w.heap.size)
    (hgw : w.grownBy w4 (some g)) (hown : w5.ownsRow w.heap.size 9 1 (.slice (some ⟨g1, 0, none⟩) (ps.length + 1) cap1) (ps.length + 1) (ps.map Value.string ++ [.string x])) (hg : (w4.alloc o).drew.grownBy w5 (Value.slice A ps.length cap).ownBlock) :
    MBox (w5.setCell ⟨g, 2, none⟩ (.slice (some ⟨g1, 0, none⟩) (ps.length + 1) cap1)) g nm fn (.slice (some ⟨g1, 0, none⟩) (ps.length + 1) cap1) more vb ∧
      StrRow w.heap.size (w5.setCell ⟨g, 2, none⟩ (.slice (some ⟨g1, 0, none⟩) (ps.length + 1) cap1)) (.slice (some ⟨g1, 0, none⟩) (ps.length + 1) cap1) (ps ++ [x]) ∧
      w.grownBy (w5.setCell ⟨g, 2, none⟩ (.slice (some ⟨g1, 0, none⟩) (ps.length + 1) cap1)) (some g) := by
  have hbx5 := par_state hbx hrow hgl hg
  have hG : w5.grownBy (w5.setCell ⟨g, 2, none⟩ (.slice (some ⟨g1, 0, none⟩) (ps.length + 1) cap1)) (some g) := grown_set (World.grownBy.refl w5 _) 2 _
  refine ⟨hbx5.s2 _, ?_, ?_⟩
  · unfold StrRow
    rw [List.map_append, List.length_append]
    refine World.ownsRow.kept hown hG (.inr (fun e => ?_))
    have hb : w.heap.size ≤ g1 := by
      rcases hown.2 with ⟨h, _⟩ | ⟨g', cap', cur, h, hb, _⟩
      · cases h
      · injection h with h _ _; injection h with h; injection h with h _ _; omega
    have : g1 = g := by simpa [Value.ownBlock] using e
    omega
  · have h1 : w4.grownBy w5 (Value.slice A ps.length cap).ownBlock := ⟨hg.os, hg.tape, hg.output, by have := hg.size; simp at this; omega, fun k hk hne => (hg.block k (by simp; omega) hne).trans (Below.heap_alloc w4 o k hk)⟩
    refine ⟨hG.os.trans (h1.os.trans hgw.os), hG.tape.trans (h1.tape.trans hgw.tape), hG.output.trans (h1.output.trans hgw.output), Nat.le_trans hgw.size (Nat.le_trans h1.size hG.size), fun k hk hne => ?_⟩
    have hk4 := Nat.lt_of_lt_of_le hk hgw.size
    refine (hG.block k (Nat.lt_of_lt_of_le hk4 h1.size) hne).trans ((h1.block k hk4 (fun e => ?_)).trans (hgw.block k hk hne))
    have := (hrow.block k e.symm).1
    omega
theorem cell_block_ne {W : World} {g : Nat} {a : Addr} {k : IntKind} {n : Int} (h : W.cell? a = some (.int k n)) (hn : ∀ (o : Nat) (k : IntKind) (n : Int), W.cell? ⟨g, o, none⟩ ≠ some (.int k n)) : a.block ≠ g := by
  intro e
  refine hn a.off k n ?_
  revert h
  simp only [World.cell?, e]
  cases W.heap[g]? with
  | none => exact fun h => h
  | some o =>
    cases o with
    | cells c e f =>
      intro h
      by_cases hs : a.spot.isSome = true
      · simp only [hs, if_true] at h; cases h
      · simpa [hs] using h
    | _ => exact fun h => h
theorem keep_cell {w wr w5 : World} {o : Obj} {own : Option Nat} {a : Addr} {u : Value} (hlt : a.block < w.heap.size) (hb : w.heap.size ≤ wr.heap.size) (hrow : ∀ r, own = some r → w.heap.size ≤ r) (hg : (wr.alloc o).drew.grownBy w5 own) (h : wr.cell? a = some u) : w5.cell? a = some u := by
  have h1 : w5.heap[a.block]? = wr.heap[a.block]? := (hg.block _ (by simp; omega) (fun e => by have := hrow _ e.symm; omega)).trans (Below.heap_alloc wr o _ (by omega))
  rw [World.cell?_of_block h1]
  exact h
theorem keep_set {w5 : World} {g i : Nat} {v : Value} {a : Addr} {u : Value} (hne : a.block ≠ g) (h : w5.cell? a = some u) : (w5.setCell ⟨g, i, none⟩ v).cell? a = some u := by
  rw [World.cell?_of_block (Below.heap_setCell w5 ⟨g, i, none⟩ v a.block hne)]
  exact h
end Go.Proofs.YthifdcakhdckfaaDoor

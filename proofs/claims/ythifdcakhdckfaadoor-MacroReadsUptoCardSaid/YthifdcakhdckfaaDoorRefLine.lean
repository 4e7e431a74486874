/-
  Walk: the reference's lexer of a line (burinref02 line, Lex, One).
-/
import Derived.Deep.RegionHeldLaw
import Derived.Deep.AppendLies
import Derived.Test.YthifdcakhdckfaaDoorLex
import Derived.Test.YthifdcakhdckfaaDoorLexF
import Derived.Test.YthifdcakhdckfaaDoorRef4P
namespace Go.Proofs.YthifdcakhdckfaaDoor
open Go.RowKit Go.Proofs.YthifdcakhdckfaaDoorW.PrintWords
open PMacroWords (S62)
set_option linter.unusedVariables false
set_option linter.unusedSimpArgs false

def RefIs (w : World) (g : Nat) (v : Value) (sp fi o : Bool) (fr : Int) : Prop := w.heap[g]? = some (.cells #[v, .bool sp, .bool fi, .bool o, .int .i64 fr] 289 (0, 0))
section
variable {w : World} {g : Nat} {v : Value} {sp fi o : Bool} {fr : Int}
theorem RefIs.c0 (h : RefIs w g v sp fi o fr) : w.cell? ⟨g, 0, none⟩ = some v := by unfold RefIs at h; simp [World.cell?, h]
theorem RefIs.c1 (h : RefIs w g v sp fi o fr) : w.cell? ⟨g, 1, none⟩ = some (.bool sp) := by unfold RefIs at h; simp [World.cell?, h]
theorem RefIs.c2 (h : RefIs w g v sp fi o fr) : w.cell? ⟨g, 2, none⟩ = some (.bool fi) := by unfold RefIs at h; simp [World.cell?, h]
theorem RefIs.c3 (h : RefIs w g v sp fi o fr) : w.cell? ⟨g, 3, none⟩ = some (.bool o) := by unfold RefIs at h; simp [World.cell?, h]
theorem RefIs.c4 (h : RefIs w g v sp fi o fr) : w.cell? ⟨g, 4, none⟩ = some (.int .i64 fr) := by unfold RefIs at h; simp [World.cell?, h]
theorem RefIs.fz (h : RefIs w g v sp fi o fr) (i : Nat) : w.frozen? ⟨g, i, none⟩ = false := by unfold RefIs at h; simp [World.frozen?, h]
theorem RefIs.s0 (h : RefIs w g v sp fi o fr) (b : Value) : RefIs (w.setCell ⟨g, 0, none⟩ b) g b sp fi o fr := by unfold RefIs at h ⊢; simp [World.setCell, Array.getElem?_modify, h]
theorem RefIs.s1 (h : RefIs w g v sp fi o fr) (b : Bool) : RefIs (w.setCell ⟨g, 1, none⟩ (.bool b)) g v b fi o fr := by unfold RefIs at h ⊢; simp [World.setCell, Array.getElem?_modify, h]
theorem RefIs.s2 (h : RefIs w g v sp fi o fr) (b : Bool) : RefIs (w.setCell ⟨g, 2, none⟩ (.bool b)) g v sp b o fr := by unfold RefIs at h ⊢; simp [World.setCell, Array.getElem?_modify, h]
theorem RefIs.s3 (h : RefIs w g v sp fi o fr) (b : Bool) : RefIs (w.setCell ⟨g, 3, none⟩ (.bool b)) g v sp fi b fr := by unfold RefIs at h ⊢; simp [World.setCell, Array.getElem?_modify, h]
theorem RefIs.s4 (h : RefIs w g v sp fi o fr) (b : Int) : RefIs (w.setCell ⟨g, 4, none⟩ (.int .i64 b)) g v sp fi o b := by unfold RefIs at h ⊢; simp [World.setCell, Array.getElem?_modify, h]
theorem RefIs.drew (h : RefIs w g v sp fi o fr) : RefIs w.drew g v sp fi o fr := h
theorem RefIs.lt (h : RefIs w g v sp fi o fr) : g < w.heap.size := (Array.getElem?_eq_some_iff.1 h).1
end

/-- What the reference's line keeps: n₀ the blocks there were at its entry (the box of its line lies there). -/
structure RefI (w : World) (g : Nat) (S : ByteArray) (line : Int) (pre : List S62) (o sp fi : Bool) (r : Lx.L) (wr : World) : Prop where
  lex : Lx.lex (bl S) = Lx.lexFrom o sp fi r (pre.map tk)
  st : ∃ v fr, RefIs wr g v sp fi o fr ∧ TokRow w.heap.size wr v pre
  box : wr.heap[w.heap.size]? = some (.cells #[.int .i64 line, .string S] 42 (0, 0))
  grown : w.grownBy wr (some g)
  len : pre.length ≤ 20000
  rest : ∀ x ∈ pre, x.f2 = ⟨#[]⟩ ∧ x.f3 = line
theorem TokRow.setOther {n₀ : Nat} {W : World} {v : Value} {xs : List S62} (h : TokRow n₀ W v xs) {g : Nat} (hg : g < n₀) (i : Nat) (u : Value) : TokRow n₀ (W.setCell ⟨g, i, none⟩ u) v xs := by
  refine World.ownsRow.kept h (grown_set (World.grownBy.refl W _) i u) ?_
  rcases h.2 with ⟨rfl, _⟩ | ⟨g', cap, cur, rfl, hb, _⟩
  · exact .inl rfl
  · refine .inr (fun e => ?_)
    have : g' = g := by simpa [Value.ownBlock] using e
    omega
/-- A step that turns the state alone. -/
theorem RefI.turn {w : World} {g : Nat} {S : ByteArray} {line : Int} {pre : List S62} {o sp fi o' sp' fi' : Bool} {r r' : Lx.L} {wr wr' : World} (h : RefI w g S line pre o sp fi r wr) (hgl : g < w.heap.size)
    (hg : wr.grownBy wr' (some g)) (hs : ∀ v fr, RefIs wr g v sp fi o fr → ∃ fr', RefIs wr' g v sp' fi' o' fr') (hl : Lx.lexFrom o sp fi r (pre.map tk) = Lx.lexFrom o' sp' fi' r' (pre.map tk)) : RefI w g S line pre o' sp' fi' r' wr' := by
  obtain ⟨v, fr, h1, h2⟩ := h.st
  obtain ⟨fr', h3⟩ := hs v fr h1
  refine ⟨h.lex.trans hl, ⟨v, fr', h3, World.ownsRow.kept h2 hg ?_⟩, kept_at hg h.box (fun e => by injection e with e; omega), ?_, h.len, h.rest⟩
  · rcases h2.2 with ⟨rfl, _⟩ | ⟨g', cap, cur, rfl, hb, _⟩
    · exact .inl rfl
    · refine .inr (fun e => ?_)
      have : g' = g := by simpa [Value.ownBlock] using e
      omega
  · exact ⟨hg.os.trans h.grown.os, hg.tape.trans h.grown.tape, hg.output.trans h.grown.output, Nat.le_trans h.grown.size hg.size, fun k hk hne => (hg.block k (Nat.lt_of_lt_of_le hk h.grown.size) hne).trans (h.grown.block k hk hne)⟩

theorem blank_any (c : UInt8) (w : World) : Calls Tryd.prog 237 #[.int .u8 (c.toNat : Int)] w fun e w' => e = .returned (.bool (Lx.isBlank c)) ∧ Drawn0 w w' :=
  PMacroWords.burinref02_blank.calls _ _ w (blank_is c)
theorem first_any (s : ByteArray) (hs : s.size < 4294967290) (h0 : 0 < s.size) (w : World) :
    Calls Tryd.prog 238 #[.string s] w fun e w' => e = .returned (.tuple #[.int .i64 (Lx.next (bl s)).1, .int .i64 ((Lx.next (bl s)).2 : Nat)]) ∧ Below w.heap.size w w' :=
  PMacroWords.burinref02_first.calls (4 * s.size + 200) s _ _ w (first_is s hs h0 _ (Nat.le_refl _))
theorem grown_alloc {a w : World} {row : Option Nat} (h : a.grownBy w row) (o : Obj) : a.grownBy (w.alloc o) row :=
  ⟨h.os, h.tape, h.output, by have := h.size; simp; omega, fun k hk hne => (Below.heap_alloc w o k (Nat.lt_of_lt_of_le hk h.size)).trans (h.block k hk hne)⟩
theorem at_drop (l : Lx.L) (i j : Nat) : Lx.at_ (l.drop i) j = Lx.at_ l (i + j) := by
  unfold Lx.at_
  rw [List.getD_eq_getElem?_getD, List.getD_eq_getElem?_getD, List.getElem?_drop]
theorem drop_more (l : Lx.L) (i j : Nat) : (l.drop i).drop j = l.drop (i + j) := by rw [List.drop_drop]
theorem drawn_grown {w w' : World} (h : Drawn0 w w') (g : Nat) : w.grownBy w' (some g) := by
  obtain ⟨⟨n, rfl⟩⟩ := h
  exact ⟨rfl, rfl, rfl, Nat.le_refl _, fun _ _ _ => rfl⟩
theorem RefIs.drawn {w w' : World} {g : Nat} {v : Value} {sp fi o : Bool} {fr : Int} (h : RefIs w g v sp fi o fr) (hd : Drawn0 w w') : RefIs w' g v sp fi o fr := by
  obtain ⟨⟨n, rfl⟩⟩ := hd
  exact h
theorem tok_state {w w4 w5 : World} {g : Nat} {A : Option Addr} {n cap : Nat} {o : Obj} {pre : List S62} {sp fi op : Bool} {fr : Int} (hst : RefIs w4 g (.slice A n cap) sp fi op fr) (hrow : TokRow w.heap.size w4 (.slice A n cap) pre) (hgl : g < w.heap.size) (hg : (w4.alloc o).drew.grownBy w5 (Value.slice A n cap).ownBlock) : RefIs w5 g (.slice A n cap) sp fi op fr := by
  refine kept_at hg (World.drew_hold (hold_old hst)) (fun e => ?_)
  have := (hrow.block g e.symm).1
  omega
theorem tok_box {w w4 w5 : World} {A : Option Addr} {n cap k : Nat} {o : Obj} {pre : List S62} {cs : Array Value} (hbx : w4.heap[k]? = some (.cells cs 42 (0, 0))) (hrow : TokRow w.heap.size w4 (.slice A n cap) pre) (hg : (w4.alloc o).drew.grownBy w5 (Value.slice A n cap).ownBlock) : w5.heap[k]? = some (.cells cs 42 (0, 0)) := by
  refine kept_at hg (World.drew_hold (hold_old hbx)) (fun e => ?_)
  obtain ⟨_, cs', h⟩ := hrow.block k e.symm
  rw [hbx] at h
  injection h with h
  injection h with _ h2
  exact absurd h2 (by decide)
theorem tok_keep {w5 : World} {g h : Nat} {v : Value} {sp fi op : Bool} {fr line : Int} {S : ByteArray} (hst : RefIs w5 g v sp fi op fr) (hbx : w5.heap[h]? = some (.cells #[.int .i64 line, .string S] 42 (0, 0))) :
    w5.cell? ⟨g, 1, none⟩ = some (.bool sp) ∧ w5.cell? ⟨g, 2, none⟩ = some (.bool fi) ∧ w5.cell? ⟨h, 0, none⟩ = some (.int .i64 line) := ⟨hst.c1, hst.c2, by simp [World.cell?, hbx]⟩
theorem tok_keep2 {w5 : World} {g h : Nat} {v : Value} {sp fi op : Bool} {fr line : Int} {S : ByteArray} (hst : RefIs w5 g v sp fi op fr) (hbx : w5.heap[h]? = some (.cells #[.int .i64 line, .string S] 42 (0, 0))) (hgl : g < h) (u : Value) :
    (w5.setCell ⟨g, 0, none⟩ u).cell? ⟨g, 1, none⟩ = some (.bool sp) ∧ (w5.setCell ⟨g, 0, none⟩ u).cell? ⟨g, 2, none⟩ = some (.bool fi) ∧ (w5.setCell ⟨g, 0, none⟩ u).cell? ⟨h, 0, none⟩ = some (.int .i64 line) :=
  tok_keep (hst.s0 u) ((Below.heap_setCell _ _ _ _ (by simp; omega)).trans hbx)
theorem tokC_one (x : S62) : ∀ u ∈ tokC x, u.oneCell' = true := by simp [tokC, Value.oneCell']
/-- A load that the region's walk shall not try to take ahead of the rest. -/
def hidLoad (t : TypeId) (x : Operand) : Op := .load t x
theorem hidLoad_eq (t : TypeId) (x : Operand) : Op.load t x = hidLoad t x := rfl
attribute [local go_sem] hidLoad
theorem tok_next {w w4 w5 : World} {g : Nat} {S : ByteArray} {line : Int} {pre : List S62} {x : S62} {sp fi : Bool} {r r' : Lx.L} {A : Option Addr} {cap g1 cap1 : Nat} {o : Obj} {fr : Int} (HI : RefI w g S line pre false sp fi r w4) (hm : ¬ pre.length = 20000)
    (hst : RefIs w4 g (.slice A pre.length cap) sp fi false fr) (hrow : TokRow w.heap.size w4 (.slice A pre.length cap) pre) (hgl : g < w.heap.size)
    (hown : w5.ownsRow w.heap.size 62 6 (.slice (some ⟨g1, 0, none⟩) (pre.length + 1) cap1) (pre.length + 1) (rowC pre ++ tokC x)) (hg : (w4.alloc o).drew.grownBy w5 (Value.slice A pre.length cap).ownBlock) (hx2 : x.f2 = ⟨#[]⟩) (hx3 : x.f3 = line)
    (hl : Lx.lexFrom false sp fi r (pre.map tk) = Lx.lexFrom false false false r' (pre.map tk ++ [tk x])) :
    RefI w g S line (pre ++ [x]) false false false r' (((w5.setCell ⟨g, 0, none⟩ (.slice (some ⟨g1, 0, none⟩) (pre.length + 1) cap1)).setCell ⟨g, 1, none⟩ (.bool false)).setCell ⟨g, 2, none⟩ (.bool false)) := by
  have hst5 := tok_state hst hrow hgl hg
  have hbx5 := tok_box HI.box hrow hg
  have hG : w5.grownBy (((w5.setCell ⟨g, 0, none⟩ (.slice (some ⟨g1, 0, none⟩) (pre.length + 1) cap1)).setCell ⟨g, 1, none⟩ (.bool false)).setCell ⟨g, 2, none⟩ (.bool false)) (some g) := grown_set (grown_set (grown_set (World.grownBy.refl w5 _) 0 _) 1 _) 2 _
  refine ⟨?_, ⟨_, fr, ((hst5.s0 _).s1 false).s2 false, ?_⟩, kept_at hG hbx5 (fun e => by injection e with e; omega), ?_, by have := HI.len; simp; omega, ?_⟩
  · rw [HI.lex, hl, List.map_append]; rfl
  · unfold TokRow
    rw [rowC_snoc, List.length_append]
    refine World.ownsRow.kept hown hG (.inr (fun e => ?_))
    have hb : w.heap.size ≤ g1 := by
      rcases hown.2 with ⟨h, _⟩ | ⟨g', cap', cur, h, hb, _⟩
      · cases h
      · injection h with h _ _; injection h with h; injection h with h _ _; omega
    have : g1 = g := by simpa [Value.ownBlock] using e
    omega
  · have h1 : w4.grownBy w5 (Value.slice A pre.length cap).ownBlock := ⟨hg.os, hg.tape, hg.output, by have := hg.size; simp at this; omega, fun k hk hne => (hg.block k (by simp; omega) hne).trans (Below.heap_alloc w4 o k hk)⟩
    refine ⟨hG.os.trans (h1.os.trans HI.grown.os), hG.tape.trans (h1.tape.trans HI.grown.tape), hG.output.trans (h1.output.trans HI.grown.output), Nat.le_trans HI.grown.size (Nat.le_trans h1.size hG.size), fun k hk hne => ?_⟩
    have hk4 := Nat.lt_of_lt_of_le hk HI.grown.size
    refine (hG.block k (Nat.lt_of_lt_of_le hk4 h1.size) hne).trans ((h1.block k hk4 (fun e => ?_)).trans (HI.grown.block k hk hne))
    have := (hrow.block k e.symm).1
    omega
  · intro y hy
    rcases List.mem_append.1 hy with h | h
    · exact HI.rest y h
    · simp at h; subst h; exact ⟨hx2, hx3⟩
set_option maxRecDepth 100000 in
set_option maxHeartbeats 4000000 in
theorem line_any (S : ByteArray) (hS : S.size < 4294967281) (g : Nat) (line fr0 : Int) (sp0 fi0 : Bool) (w : World) (hg : RefIs w g (.slice none 0 0) sp0 fi0 false fr0) :
    Calls Tryd.prog 216 #[.pointer (some ⟨g, 0, none⟩), .agg #[.int .i64 line, .string S]] w fun e w' => ∃ code v sp fi o fr xs, e = .returned (.int .i64 code) ∧ RefIs w' g v sp fi o fr ∧ TokRow w.heap.size w' v xs ∧
      ((code = 0 ∧ Lx.lex (bl S) = if o then (20, []) else (0, xs.map tk)) ∨ ((code = 21 ∨ code = 22) ∧ Lx.lex (bl S) = (code, []))) ∧ (∀ x ∈ xs, x.f2 = ⟨#[]⟩ ∧ x.f3 = line) ∧ w.grownBy w' (some g) := by
  have hgl := hg.lt
  obtain ⟨i0, hi, hz0, hz1, hz2⟩ := info_parts PMacroWords.info62
  have hga : ∀ o, RefIs (w.alloc o) g (.slice none 0 0) sp0 fi0 false fr0 := fun o => hold_old hg
  have hg1 := hga (.cells #[.int .i64 line, .string S] 42)
  have c1 := hg.c1
  have c2 := hg.c2
  have c3 := hg.c3
  have f1 := hg.fz 1
  have f2 := hg.fz 2
  go_enter Tryd.func216, Tryd.ntmps216
  go_wp2
  obtain ⟨W1, hW1⟩ : ∃ W1, ((w.setCell ⟨g, 2, none⟩ (.bool true)).setCell ⟨g, 1, none⟩ (.bool false)).alloc (.cells #[.int .i64 line, .string S] 42) = W1 := ⟨_, rfl⟩
  have HI1 : RefI w g S line [] false false true (bl S) W1 := by
    have hr : RefIs W1 g (.slice none 0 0) false true false fr0 := by rw [← hW1]; exact hold_old ((hg.s2 true).s1 false)
    have hgr : w.grownBy W1 (some g) := by rw [← hW1]; exact grown_alloc (grown_set (grown_set (World.grownBy.refl w _) 2 _) 1 _) _
    refine ⟨rfl, ⟨_, fr0, hr, World.ownsRow_nil _ _ _ _⟩, ?_, hgr, by simp, by simp⟩
    rw [← hW1]
    exact hold_new (by simp [World.setCell])
  rw [hW1]
  clear hW1 hga f1 f2 c1 c2 c3 hg hg1
  go_loopw [6] (fun v6 wr => ∃ (i : Nat) (pre : List S62) (o sp fi : Bool), v6 = .int .i64 (i : Int) ∧ i ≤ S.size ∧ Hid (RefI w g S line pre o sp fi ((bl S).drop i) wr)) (fun v6 _ => match v6 with | .int _ i => S.size - i.toNat | _ => 0)
  case atStart => exact ⟨0, [], false, false, true, rfl, by omega, Lib.hid HI1⟩
  case round =>
    clear HI1
    obtain ⟨i, pre, o, sp, fi, rfl, hi6, HI⟩ := hrel
    by_cases hlt : i < S.size
    · have hlt' : decide ((i : Int) < (S.size : Int)) = true := by simp; omega
      have hrl : ((bl S).drop i).length = S.size - i := by rw [List.length_drop, bl_length]
      have hr0 : (bl S).drop i ≠ [] := by intro e; rw [e] at hrl; simp at hrl; omega
      have ha0 : Lx.at_ ((bl S).drop i) 0 = S[i] := by rw [bl_at S i hlt]; exact at_drop _ _ _
      have hcn := eqB S[i]
      obtain ⟨v, fr, hst, hrow⟩ := HI.out.st
      have c0 := hst.c0
      have c1 := hst.c1
      have c2 := hst.c2
      have c3 := hst.c3
      have c4 := hst.c4
      have f0 := hst.fz 0
      have f1 := hst.fz 1
      have f2 := hst.fz 2
      have f3 := hst.fz 3
      have f4 := hst.fz 4
      cases o with
      | true =>
        by_cases h42 : S[i] = 42
        · have h42' : ((S[i].toNat : Int) == 42) = true := by rw [h42]; rfl
          by_cases hs : i + 1 < S.size
          · have ha1 : Lx.at_ ((bl S).drop i) 1 = S[i + 1] := by rw [bl_at S (i + 1) hs]; exact at_drop _ _ _
            have hs' : decide ((i : Int) + 1 < (S.size : Int)) = true := by simp; omega
            by_cases h47 : S[i + 1] = 47
            · have h47' : ((S[i + 1].toNat : Int) == 47) = true := by rw [h47]; rfl
              go_wp2
              go_roundw
              case rel => exact ⟨i + 2, pre, false, true, fi, by congr 1, by omega, Lib.hid (HI.out.turn hgl (grown_set (grown_set (World.grownBy.refl _ _) 3 _) 1 _) (fun v fr h => ⟨fr, (h.s3 false).s1 true⟩) (by rw [← drop_more]; exact Lx.lexFrom_shut sp fi _ _ (by rw [hrl]; omega) (by rw [ha0, h42]) (by rw [ha1, h47])))⟩
              case measure => simp only []; omega
            · have h47' : ((S[i + 1].toNat : Int) == 47) = false := by rw [show (47 : Int) = ((47 : UInt8).toNat : Int) from rfl, eqB]; simpa using h47
              go_wp2
              go_roundw
              case rel => exact ⟨i + 1, pre, true, true, fi, by congr 1, by omega, Lib.hid (HI.out.turn hgl (grown_set (World.grownBy.refl _ _) 1 _) (fun v fr h => ⟨fr, h.s1 true⟩) (by rw [← drop_more]; exact Lx.lexFrom_in sp fi _ _ hr0 (by rw [ha0, hrl]; rw [ha1]; exact fun hh => h47 hh.2.2)))⟩
              case measure => simp only []; omega
          · have hs' : decide ((i : Int) + 1 < (S.size : Int)) = false := by simp; omega
            go_wp2
            go_roundw
            case rel => exact ⟨i + 1, pre, true, true, fi, by congr 1, by omega, Lib.hid (HI.out.turn hgl (grown_set (World.grownBy.refl _ _) 1 _) (fun v fr h => ⟨fr, h.s1 true⟩) (by rw [← drop_more]; exact Lx.lexFrom_in sp fi _ _ hr0 (by rw [ha0, hrl]; exact fun hh => absurd hh.1 (by omega))))⟩
            case measure => simp only []; omega
        · have h42' : ((S[i].toNat : Int) == 42) = false := by rw [show (42 : Int) = ((42 : UInt8).toNat : Int) from rfl, eqB]; simpa using h42
          by_cases hs : i + 1 < S.size
          · have hs' : decide ((i : Int) + 1 < (S.size : Int)) = true := by simp; omega
            go_wp2
            go_roundw
            case rel => exact ⟨i + 1, pre, true, true, fi, by congr 1, by omega, Lib.hid (HI.out.turn hgl (grown_set (World.grownBy.refl _ _) 1 _) (fun v fr h => ⟨fr, h.s1 true⟩) (by rw [← drop_more]; exact Lx.lexFrom_in sp fi _ _ hr0 (by rw [ha0, hrl]; exact fun hh => h42 hh.2.1)))⟩
            case measure => simp only []; omega
          · have hs' : decide ((i : Int) + 1 < (S.size : Int)) = false := by simp; omega
            go_wp2
            go_roundw
            case rel => exact ⟨i + 1, pre, true, true, fi, by congr 1, by omega, Lib.hid (HI.out.turn hgl (grown_set (World.grownBy.refl _ _) 1 _) (fun v fr h => ⟨fr, h.s1 true⟩) (by rw [← drop_more]; exact Lx.lexFrom_in sp fi _ _ hr0 (by rw [ha0, hrl]; exact fun hh => absurd hh.1 (by omega))))⟩
            case measure => simp only []; omega
      | false =>
        go_wp2_with (fail)
        refine (blank_any (S[i]) _).mono ?_
        rintro e w3 ⟨rfl, hd3⟩
        have HI3 := Lib.hid (HI.out.turn hgl (drawn_grown hd3 g) (fun v fr h => ⟨fr, RefIs.drawn h hd3⟩) rfl)
        clear hd3 HI hst hrow c0 c1 c2 c3 c4 f0 f1 f2 f3 f4
        obtain ⟨v, fr, hst, hrow⟩ := HI3.out.st
        have c0 := hst.c0
        have c1 := hst.c1
        have c2 := hst.c2
        have c3 := hst.c3
        have c4 := hst.c4
        have f0 := hst.fz 0
        have f1 := hst.fz 1
        have f2 := hst.fz 2
        have f3 := hst.fz 3
        have f4 := hst.fz 4
        by_cases hb : Lx.isBlank S[i] = true
        · rw [hb]
          go_wp2
          go_roundw
          case rel => exact ⟨i + 1, pre, false, true, fi, by congr 1, by omega, Lib.hid (HI3.out.turn hgl (grown_set (World.grownBy.refl _ _) 1 _) (fun v fr h => ⟨fr, h.s1 true⟩) (by rw [← drop_more]; exact Lx.lexFrom_blank sp fi _ _ hr0 (by rw [ha0, hb])))⟩
          case measure => simp only []; omega
        · have hb' : Lx.isBlank S[i] = false := by simpa using hb
          rw [hb']
          have H3 : (∃ hs : i + 1 < S.size, decide ((i : Int) + 1 < (S.size : Int)) = true ∧ ((S[i].toNat : Int) == 47) = true ∧ ((S[i + 1].toNat : Int) == 47) = true ∧ S[i] = 47 ∧ S[i + 1] = 47) ∨
              (∃ hs : i + 1 < S.size, decide ((i : Int) + 1 < (S.size : Int)) = true ∧ ((S[i].toNat : Int) == 47) = true ∧ ((S[i + 1].toNat : Int) == 47) = false ∧ ((S[i + 1].toNat : Int) == 42) = true ∧ S[i] = 47 ∧ S[i + 1] = 42) ∨
              ((Lx.pre [47, 47] ((bl S).drop i) = false ∧ Lx.pre [47, 42] ((bl S).drop i) = false) ∧ (decide ((i : Int) + 1 < (S.size : Int)) = false ∨ (decide ((i : Int) + 1 < (S.size : Int)) = true ∧ ((S[i].toNat : Int) == 47) = false) ∨
                (∃ hs : i + 1 < S.size, decide ((i : Int) + 1 < (S.size : Int)) = true ∧ ((S[i].toNat : Int) == 47) = true ∧ ((S[i + 1].toNat : Int) == 47) = false ∧ ((S[i + 1].toNat : Int) == 42) = false))) := by
            by_cases hs : i + 1 < S.size
            · have ha1 : Lx.at_ ((bl S).drop i) 1 = S[i + 1] := by rw [bl_at S (i + 1) hs]; exact at_drop _ _ _
              have hs' : decide ((i : Int) + 1 < (S.size : Int)) = true := by simp; omega
              have e1 := eqB S[i] 47
              have e2 := eqB S[i + 1] 47
              have e3 := eqB S[i + 1] 42
              simp only [Lx.pre2, ha0, ha1, show ((47 : Int)) = ((47 : UInt8).toNat : Int) from rfl, show ((42 : Int)) = ((42 : UInt8).toNat : Int) from rfl, e1, e2, e3]
              by_cases h1 : S[i] = 47
              · by_cases h2 : S[i + 1] = 47
                · exact .inl ⟨hs, hs', by simpa using h1, by simpa using h2, h1, h2⟩
                · by_cases h3 : S[i + 1] = 42
                  · exact .inr (.inl ⟨hs, hs', by simpa using h1, by simpa using h2, by simpa using h3, h1, h3⟩)
                  · exact .inr (.inr ⟨⟨by simp [h2], by simp [h3]⟩, .inr (.inr ⟨hs, hs', by simpa using h1, by simpa using h2, by simpa using h3⟩)⟩)
              · exact .inr (.inr ⟨⟨by simp [h1], by simp [h1]⟩, .inr (.inl ⟨hs', by simpa using h1⟩)⟩)
            · have hs' : decide ((i : Int) + 1 < (S.size : Int)) = false := by simp; omega
              refine .inr (.inr ⟨⟨?_, ?_⟩, .inl hs'⟩) <;> rw [Lx.pre2, hrl] <;> (have : decide (1 < S.size - i) = false := by simp; omega) <;> rw [this] <;> rfl
          rcases H3 with ⟨hs, h1, h2, h3, h4, h5⟩ | ⟨hs, h1, h2, h3, h4, h5, h6⟩ | ⟨⟨hp1, hp2⟩, H3⟩
          · have ha1 : Lx.at_ ((bl S).drop i) 1 = S[i + 1] := by rw [bl_at S (i + 1) hs]; exact at_drop _ _ _
            have hlx := HI3.out.lex.trans (Lx.lexFrom_line sp fi _ _ hr0 (by rw [Lx.pre2, ha0, ha1, h4, h5, hrl]; simp; omega))
            have HLX := Lib.hid hlx
            have h45 := Lib.hid (And.intro h4 h5)
            clear hlx h4 h5
            go_wp2
            go_ret
            exact ⟨0, v, sp, fi, false, fr, pre, rfl, hst, hrow, .inl ⟨rfl, HLX.out⟩, HI3.out.rest, HI3.out.grown⟩
          · have ha1 : Lx.at_ ((bl S).drop i) 1 = S[i + 1] := by rw [bl_at S (i + 1) hs]; exact at_drop _ _ _
            have hlx := Lx.lexFrom_begin sp fi ((bl S).drop i) (pre.map tk) hr0 (by rw [Lx.pre2, ha0, ha1, h5, h6]; simp) (by rw [Lx.pre2, ha0, ha1, h5, h6, hrl]; simp; omega)
            have HLX := Lib.hid hlx
            have hbx := HI3.out.box
            have l0 : w3.cell? ⟨w.heap.size, 0, none⟩ = some (.int .i64 line) := by simp [World.cell?, hbx]
            clear hlx h5 h6
            go_wp2
            go_roundw
            case rel => exact ⟨i + 2, pre, true, sp, fi, by congr 1, by omega, Lib.hid (HI3.out.turn hgl (grown_set (grown_set (World.grownBy.refl _ _) 3 _) 4 _) (fun v fr h => ⟨line, (h.s3 true).s4 line⟩) (by rw [← drop_more]; exact HLX.out))⟩
            case measure => simp only []; omega
          · have HP := Lib.hid (And.intro hp1 hp2)
            have hrs : (S.extract i S.size).size = S.size - i := by rw [← bl_length, bl_drop, hrl]
            have HRS := Lib.hid hrs
            clear hp1 hp2 hrs
            rcases H3 with h1 | ⟨h1, h2⟩ | ⟨hs, h1, h2, h3, h4⟩
            all_goals
              go_wp2_with (fail)
              refine (first_any (S.extract i S.size) (by rw [HRS.out]; omega) (by rw [HRS.out]; omega) _).mono ?_
              rw [bl_drop]
              rintro e w4 ⟨rfl, hB4⟩
              have HI4 := Lib.hid (HI3.out.turn hgl (grown_below hB4) (fun v fr h => ⟨fr, (hB4.block g h.lt).trans h⟩) rfl)
              clear hB4 HI3 hst hrow c0 c1 c2 c3 c4 f0 f1 f2 f3 f4
              obtain ⟨v, fr, hst, hrow⟩ := HI4.out.st
              have c0 := hst.c0
              have c1 := hst.c1
              have c2 := hst.c2
              have c3 := hst.c3
              have c4 := hst.c4
              have f0 := hst.fz 0
              have f1 := hst.fz 1
              have f2 := hst.fz 2
              have f3 := hst.fz 3
              have f4 := hst.fz 4
              obtain ⟨nn, hnn⟩ : ∃ nn, (Lx.next ((bl S).drop i)).2 = nn := ⟨_, rfl⟩
              obtain ⟨kk, hkk⟩ : ∃ kk, (Lx.next ((bl S).drop i)).1 = kk := ⟨_, rfl⟩
              have hnl := Lx.next_le _ hr0
              rw [hnn, hrl] at hnl
              rw [hnn, hkk]
              by_cases hn0 : nn = 0
              · subst hn0
                have HLX := Lib.hid (HI4.out.lex.trans (Lx.lexFrom_quote hr0 HP.out.1 HP.out.2 (by rw [ha0, hb']) hnn))
                go_wp2
                go_ret
                exact ⟨21, v, sp, fi, false, fr, pre, rfl, hst, hrow, .inr ⟨.inl rfl, HLX.out⟩, HI4.out.rest, HI4.out.grown⟩
              · have hn0' : ((nn : Int) == 0) = false := by simpa using hn0
                obtain ⟨A, cap, rfl⟩ := hrow.slice
                by_cases hm : pre.length = 20000
                · have hm' : decide ((pre.length : Int) ≥ 20000) = true := by simp; omega
                  have HLX := Lib.hid (HI4.out.lex.trans (Lx.lexFrom_many hr0 HP.out.1 HP.out.2 (by rw [ha0, hb']) (by rw [hnn]; exact hn0) (by simpa using hm)))
                  go_wp2
                  go_ret
                  exact ⟨22, _, sp, fi, false, fr, pre, rfl, hst, hrow, .inr ⟨.inr rfl, HLX.out⟩, HI4.out.rest, HI4.out.grown⟩
                · have hpl := HI4.out.len
                  have hm' : decide ((pre.length : Int) ≥ 20000) = false := by simp; omega
                  have HLX := Lib.hid (Lx.lexFrom_tok (fi := fi) (sp := sp) (out := pre.map tk) hr0 HP.out.1 HP.out.2 (by rw [ha0, hb']) (by rw [hnn]; exact hn0) (by simpa using hm))
                  have hbx := HI4.out.box
                  have l0 : w4.cell? ⟨w.heap.size, 0, none⟩ = some (.int .i64 line) := by simp [World.cell?, hbx]
                  obtain ⟨m, hmm⟩ : ∃ m, i + nn = m := ⟨_, rfl⟩
                  have hwr : IntKind.i64.wrap ((i : Int) + (nn : Int)) = (m : Int) := by simp only [IntKind.wrap, IntKind.bits, IntKind.signed]; simp; omega
                  have hmS : m ≤ S.size := by omega
                  have him : i ≤ m := by omega
                  go_wp2
                  have d0 : ∀ o, (w4.alloc o).cell? ⟨g, 0, none⟩ = some (.slice A pre.length cap) := fun o => oldC o c0
                  have hrow' : ∀ o, World.ownsRow (w4.alloc o).drew w.heap.size 62 6 (.slice A pre.length cap) pre.length (rowC pre) := fun o => World.ownsRow.alloc hrow o
                  have hsz' : ∀ o, (w4.alloc o).drew.heap.size = w4.heap.size + 1 := fun o => by simp
                  have hbs' : ∀ o, w.heap.size ≤ (w4.alloc o).drew.heap.size := fun o => by rw [hsz']; have := HI4.out.grown.size; omega
                  have hb1 : pre.length + 1 ≤ maxLen := by simp only [maxLen]; omega
                  have hb2 : (pre.length + 1) * 56 ≤ 140737488355328 := by omega
                  rw [hidLoad_eq 38 (.tmp 131)]
                  go_region_held_law (fun w' => w'.cell? ⟨g, 1, none⟩ = some (.bool sp) ∧ w'.cell? ⟨g, 2, none⟩ = some (.bool fi) ∧ w'.cell? ⟨w.heap.size, 0, none⟩ = some (.int .i64 line)) (first | exact tok_keep hst5 hbx5 | exact tok_keep2 hst5 hbx5 hgl _ | go_keep)
                    ((refine step_append_lies _ rfl (.tmp 132) (.tmp 151) 38 rfl w.heap.size 62 i0 _ 6 56 Tryd.underlying38 hi hz0 hz1 hz2 rfl (by decide) (.slice A pre.length cap) pre.length (rowC pre) rfl (hrow' _) ⟨w4.heap.size, 0, none⟩ 1 1 (tokC ⟨kk, S.extract i m, ⟨#[]⟩, line, sp, fi⟩) rfl rfl (cell_new6 w4 _ _ _ _ _ _ _) (tokC_one _) (Nat.le_refl 1) hb1 hb2 (hbs' _) (w4.heap.size + 1) (hsz' _) ?_; intro g1 cap1 w5 hown5 hgrow5 hor5 hlt5; have hst5 := tok_state hst hrow hgl hgrow5; have hbx5 := tok_box HI4.out.box hrow hgrow5; have c0' := hst5.c0; have f0' := hst5.fz 0))
                  all_goals
                    have hfin := tok_next (line := line) HI4.out hm hst hrow hgl hown5 hgrow5 rfl rfl (r' := (bl S).drop m) (by rw [HLX.out, hnn, hkk, drop_more, hmm]; unfold tk; rw [bl_extract, List.drop_take, show m - i = nn by omega])
                    obtain ⟨W6, hW6⟩ : ∃ W6, w5.setCell ⟨g, 0, none⟩ (.slice (some ⟨g1, 0, none⟩) (pre.length + 1) cap1) = W6 := ⟨_, rfl⟩
                    have hst6 : RefIs W6 g (.slice (some ⟨g1, 0, none⟩) (pre.length + 1) cap1) sp fi false fr := by rw [← hW6]; exact hst5.s0 _
                    rw [hW6] at hfin ⊢
                    clear hW6 hown5 hgrow5 hst5 hbx5 c0' f0' hst hrow c0 c1 c2 c3 c4 f0 f1 f2 f3 f4
                    have c1 := hst6.c1
                    have c2 := hst6.c2
                    have f1 := hst6.fz 1
                    have f2 := hst6.fz 2
                    have HF := Lib.hid hfin
                    clear hfin
                    go_wp2
                    go_roundw
                    case rel => exact ⟨m, _, false, false, false, by first | rfl | (congr 1; omega), hmS, HF⟩
                    case measure => simp only []; omega
    · have hlt' : decide ((i : Int) < (S.size : Int)) = false := by simp; omega
      have hi7 : i = S.size := by omega
      go_wp2
      go_ret
      obtain ⟨v, fr, h1, h2⟩ := HI.out.st
      refine ⟨0, v, sp, fi, o, fr, pre, rfl, h1, h2, .inl ⟨rfl, ?_⟩, HI.out.rest, HI.out.grown⟩
      have hl := HI.out.lex
      rw [hi7, List.drop_eq_nil_of_le (by rw [bl_length]; exact Nat.le_refl _), Lx.lexFrom_nil] at hl
      exact hl
end Go.Proofs.YthifdcakhdckfaaDoor

/-
  A macro's value, as it is read; slices.Contains and Equal on strings in plain words.
-/
import Derived.Test.YthifdcakhdckfaaDoorSpell
import Derived.Test.YthifdcakhdckfaaDoorSpelt
namespace Go.Proofs.YthifdcakhdckfaaDoor
open Go.RowKit Go.Proofs.YthifdcakhdckfaaDoorW.PrintWords
open PMacroWords (S62 k62 z62 rd_T62 k62_mk)
set_option linter.unusedVariables false
set_option linter.unusedSimpArgs false

/-- A slice of strings, as it is read. -/
def StrAt (W : World) (v : Value) (ps : List ByteArray) : Prop := ∃ A c, v = .slice A ps.length c ∧ ps.length ≤ c ∧ Kd.C Kd.string W A ps.length ps
theorem StrAt.below {W W' : World} {v : Value} {ps : List ByteArray} (h : StrAt W v ps) (hb : Below W.heap.size W W') : StrAt W' v ps := by
  obtain ⟨A, c, h1, h2, h3⟩ := h
  exact ⟨A, c, h1, h2, Kd.C_below h3 hb⟩
theorem StrAt.cells {W : World} {A : Option Addr} {ps : List ByteArray} (h : Kd.C Kd.string W A ps.length ps) (hn : 0 < ps.length) : ∃ ad, A = some ad ∧ ∀ j x, ps[j]? = some x → W.cell? (ad.add j) = some (.string x) := by
  obtain ⟨ad, e, hh⟩ := h.2.2 hn
  refine ⟨ad, e, fun j x hx => ?_⟩
  obtain ⟨c', hl, hK, hc⟩ := hh j x hx
  obtain rfl : c' = [.string x] := hK
  have := hc 0 _ rfl
  rw [show j * Kd.string.sz + 0 = j from by show j * 1 + 0 = j; omega] at this
  exact this

set_option maxHeartbeats 2000000 in
theorem indexS_any (ps : List ByteArray) (hn : ps.length < 4294967296) (x : ByteArray) (v : Value) (w : World) (h : StrAt w v ps) :
    Calls Tryd.prog 176 #[v, .string x] w fun e w' => ∃ k : Int, e = .returned (.int .i64 k) ∧ (0 ≤ k ↔ x ∈ ps) ∧ w = w' := by
  obtain ⟨A, c, rfl, hc, hr⟩ := h
  have HR := Lib.hid hr
  clear hr
  go_enter Tryd.func176, Tryd.ntmps176
  go_wp2
  go_loopw [8] (fun v8 wr => ∃ (i : Nat), v8 = .int .i64 (i : Int) ∧ i ≤ ps.length ∧ Hid (x ∉ ps.take i) ∧ w = wr) (fun v8 _ => match v8 with | .int _ i => ps.length - i.toNat | _ => 0)
  case atStart => exact ⟨0, rfl, by omega, Lib.hid (by simp), rfl⟩
  case round =>
    obtain ⟨i, rfl, hi6, HN, rfl⟩ := hrel
    by_cases hlt : i < ps.length
    · have hlt' : decide ((i : Int) < (ps.length : Int)) = true := by simp; omega
      obtain ⟨ad, hA, hcell⟩ := StrAt.cells HR.out (by omega)
      subst hA
      have hi := hcell i _ (List.getElem?_eq_getElem hlt)
      clear hcell
      obtain ⟨y, hy⟩ : ∃ y, ps[i] = y := ⟨_, rfl⟩
      rw [hy] at hi
      have HY := Lib.hid hy
      clear hy
      by_cases hq : x.toList = y.toList
      · have hq' : (x.toList == y.toList) = true := by rw [beq_iff_eq]; exact hq
        have HQ := Lib.hid hq
        clear hq
        go_wp2
        go_ret
        refine ⟨(i : Int), rfl, ⟨fun _ => ?_, fun _ => by omega⟩, rfl⟩
        have : x = y := bl_inj.1 (by rw [← toList_bl, ← toList_bl]; exact HQ.out)
        rw [this, ← HY.out]
        exact List.getElem_mem hlt
      · have hq' : (x.toList == y.toList) = false := by simpa using hq
        have HQ := Lib.hid hq
        clear hq
        go_wp2
        go_roundw
        case rel =>
          refine ⟨i + 1, rfl, hlt, Lib.hid ?_, trivial⟩
          rw [List.take_add_one, List.getElem?_eq_getElem hlt, HY.out]
          intro hm
          rcases List.mem_append.1 hm with h | h
          · exact HN.out h
          · simp at h; exact HQ.out (by rw [h])
        case measure => simp only []; omega
    · have hlt' : decide ((i : Int) < (ps.length : Int)) = false := by simp; omega
      have hi7 : i = ps.length := by omega
      go_wp2
      go_ret
      refine ⟨-1, rfl, ⟨fun h => absurd h (by decide), fun h => ?_⟩, rfl⟩
      have := HN.out
      rw [hi7, List.take_length] at this
      exact absurd h this
/-- Is a text among texts? -/
def hasS (ps : List ByteArray) (x : ByteArray) : Bool := ps.any fun y => bl y == bl x
theorem hasS_iff (ps : List ByteArray) (x : ByteArray) : hasS ps x = true ↔ x ∈ ps := by
  unfold hasS
  rw [List.any_eq_true]
  constructor
  · rintro ⟨y, hy, he⟩
    rw [← bl_inj.1 (beq_iff_eq.1 he)]
    exact hy
  · intro h
    exact ⟨x, h, by simp⟩
theorem containsS_any (ps : List ByteArray) (hn : ps.length < 4294967296) (x : ByteArray) (v : Value) (w : World) (h : StrAt w v ps) :
    Calls Tryd.prog 121 #[v, .string x] w fun e w' => e = .returned (.bool (hasS ps x)) ∧ w = w' := by
  go_enter Tryd.func121, Tryd.ntmps121
  go_wp2_with (fail)
  refine (indexS_any ps hn x v w h).mono ?_
  rintro e w' ⟨k, rfl, hk, rfl⟩
  have hk' : decide (0 ≤ k) = hasS ps x := by rw [Bool.eq_iff_iff, decide_eq_true_eq, hasS_iff]; exact hk
  clear hk h
  go_wp2
  go_ret
  exact ⟨by rw [← hk']; rfl, rfl⟩
end Go.Proofs.YthifdcakhdckfaaDoor

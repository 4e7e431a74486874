/-
  Rows of strings, cloned and joined; texts put together; what showing comes to.
  Walk: macro.Show.
-/
import Derived.Test.YthifdcakhdckfaaDoorParseW
import Derived.Test.YthifdcakhdckfaaDoorSpell
import Derived.Test.YthifdcakhdckfaaDoorShelf2
import Derived.Laws.Concat
namespace Go.Proofs.YthifdcakhdckfaaDoor
open Go.RowKit Go.Proofs.YthifdcakhdckfaaDoorW.PrintWords
open PMacroWords (S62 k62 z62 rd_T62 k62_mk)
set_option linter.unusedVariables false
set_option linter.unusedSimpArgs false

/-! ### texts -/
def tx (l : Lx.L) : ByteArray := ⟨l.toArray⟩
theorem tx_bl (s : ByteArray) : tx (bl s) = s := mk_bl s
theorem bl_tx (l : Lx.L) : bl (tx l) = l := by simp [bl, tx]
theorem bl_cat (a b : ByteArray) : bl (a ++ b) = bl a ++ bl b := by simp [bl]
theorem text_is {a : ByteArray} {l : Lx.L} (h : bl a = l) : a = tx l := by rw [← h, tx_bl]
theorem join_is : ∀ (xs : List Lx.L), Lib.join xs [44, 32] = Lx.joinL xs
  | [] => rfl
  | [x] => by rw [Lib.join_one]; rfl
  | x :: y :: r => by
    have := join_is (y :: r)
    unfold Lib.join at this ⊢
    show _ = x ++ ([44, 32] ++ Lx.joinL (y :: r))
    rw [← this]
    simp [List.intercalate, List.intersperse]
theorem joinL_size (n : Nat) : ∀ (xs : List Lx.L), (∀ x ∈ xs, x.length ≤ n) → (Lx.joinL xs).length ≤ xs.length * (n + 2)
  | [], _ => by simp [Lx.joinL]
  | [x], h => by
    have := h x (by simp)
    simp only [Lx.joinL, List.length_cons, List.length_nil]
    omega
  | x :: y :: r, h => by
    have h1 := h x (by simp)
    have h2 := joinL_size n (y :: r) (fun z hz => h z (by simp [hz]))
    simp only [Lx.joinL, List.length_append, List.length_cons, List.length_nil] at h2 ⊢
    rw [Nat.add_mul (r.length + 1) 1 (n + 2)]
    omega

theorem bl_arr (a : Array UInt8) : bl ⟨a⟩ = a.toList := rfl
theorem cat_ok (a b : ByteArray) (h : (bl a).length + (bl b).length ≤ 9223372036854775807) : ∀ W, (Op.stringOp .add a b).run Tryd.prog W = .ok (.string (a ++ b)) W := fun W => run_string_add_sum W a b (by rw [bl_length, bl_length] at h; exact h)
theorem ret_show {a b : ByteArray} {k l : Int} (h : a = b) (h2 : k = l) : Ending.returned (.tuple #[.string a, .int .i64 k]) = Ending.returned (.tuple #[.string b, .int .i64 l]) := by rw [h, h2]

theorem dots_sz {ps : List ByteArray} (h : ∀ p ∈ ps, p.size < 4294967281) : ∀ p ∈ ps ++ [(⟨#[46, 46, 46]⟩ : ByteArray)], p.size ≤ 4294967296 := by
  intro p hp
  rcases List.mem_append.1 hp with hp | hp
  · have := h p hp; omega
  · rw [List.mem_singleton.1 hp]; decide

theorem dots_map (ps : List ByteArray) : (ps ++ [(⟨#[46, 46, 46]⟩ : ByteArray)]).map bl = ps.map bl ++ [[46, 46, 46]] := by rw [List.map_append]; rfl

theorem joinL_snoc : ∀ (xs : List Lx.L) (x : Lx.L), xs ≠ [] → Lx.joinL (xs ++ [x]) = Lx.joinL xs ++ ([44, 32] ++ x)
  | [], x, h => absurd rfl h
  | [a], x, _ => rfl
  | a :: b :: r, x, _ => by
    have := joinL_snoc (b :: r) x (by simp)
    show a ++ ([44, 32] ++ Lx.joinL ((b :: r) ++ [x])) = (a ++ ([44, 32] ++ Lx.joinL (b :: r))) ++ ([44, 32] ++ x)
    rw [this]
    simp
theorem joinL_take {ps : List ByteArray} {i : Nat} {y : ByteArray} (hi : i < ps.length) (hy : ps.getD i ⟨#[]⟩ = y) : Lx.joinL ((ps.take (i + 1)).map bl) = Lx.joinL ((ps.take i).map bl) ++ ((if i = 0 then [] else [44, 32]) ++ bl y) := by
  have h1 : ps.take (i + 1) = ps.take i ++ [y] := by
    rw [List.take_add_one, List.getElem?_eq_getElem hi]
    rw [List.getD_eq_getElem?_getD, List.getElem?_eq_getElem hi] at hy
    rw [← hy]; rfl
  rw [h1, List.map_append]
  by_cases h0 : i = 0
  · subst h0; simp [Lx.joinL]
  · rw [if_neg h0]
    exact joinL_snoc _ _ (by
      intro h
      have := congrArg List.length h
      rw [List.length_map, List.length_take] at this
      simp only [List.length_nil] at this
      omega)
theorem joinL_dots {ps : List ByteArray} : Lx.joinL (ps.map bl ++ [dotsL]) = Lx.joinL (ps.map bl) ++ ((if ps.length = 0 then [] else [44, 32]) ++ dotsL) := by
  by_cases h0 : ps.length = 0
  · rw [List.eq_nil_of_length_eq_zero h0]; simp [Lx.joinL]
  · rw [if_neg h0]
    exact joinL_snoc _ _ (by intro h; have := congrArg List.length h; rw [List.length_map] at this; exact h0 this)
/-- The head of a macro, shown as far as its parameters before the i-th. -/
theorem head_size {m : MacV} {S : ByteArray} {i : Nat} (hn : m.name.size < 4294967281) (hps : ∀ p ∈ m.params, p.size < 4294967281) (hl : m.params.length ≤ 16) (h : bl S = bl m.name ++ ([40] ++ Lx.joinL ((m.params.take i).map bl))) : (bl S).length ≤ 80000000000 := by
  have h1 := joinL_size 4294967296 ((m.params.take i).map bl) (by
    intro x hx
    obtain ⟨p, hp, rfl⟩ := List.mem_map.1 hx
    rw [bl_length]
    have := hps p (List.mem_of_mem_take hp)
    omega)
  have h2 : ((m.params.take i).map bl).length * (4294967296 + 2) ≤ 16 * (4294967296 + 2) := Nat.mul_le_mul_right _ (by rw [List.length_map, List.length_take]; omega)
  rw [h]
  simp only [List.length_append, bl_length, List.length_cons, List.length_nil]
  omega

/-! ### rows of strings -/
theorem StrAt.spot {w : World} {A : Option Addr} {c : Nat} {ps : List ByteArray} (h : StrAt w (.slice A ps.length c) ps) (h0 : 0 < ps.length) : ∃ bk o, A = some ⟨bk, o, none⟩ ∧ bk < w.heap.size ∧ ∀ j x, ps[j]? = some x → w.cell? ⟨bk, o + j, none⟩ = some (.string x) := by
  obtain ⟨A', c', e, hc, hr⟩ := h
  injection e with e1 e2 e3
  subst e1
  obtain ⟨ad, rfl, hh⟩ := StrAt.cells hr h0
  obtain ⟨bk, o, sp⟩ := ad
  have h1 := hh 0 ps[0] (by simp)
  have hsp : sp = none := by
    cases sp with
    | none => rfl
    | some s =>
      exfalso
      simp only [Addr.add, if_true, World.cell?] at h1
      split at h1
      · simp at h1
      · cases h1
  subst hsp
  refine ⟨bk, o, rfl, World.block_lt_of_cell? _ _ (show w.cell? ⟨bk, o, none⟩ = _ by simpa [Addr.add] using h1), fun j x hx => ?_⟩
  have := hh j x hx
  rcases addr_add ⟨bk, o, none⟩ j with e | ⟨e0, e⟩
  · rw [e] at this; exact this
  · rw [e] at this; rw [e0]; exact this
theorem cloneS_any (ps : List ByteArray) (hn : ps.length ≤ 4294967296) (v : Value) (w : World) (h : StrAt w v ps) :
    Calls Tryd.prog 60 #[v] w fun e w' => ∃ v', e = .returned v' ∧ StrRow w.heap.size w' v' ps ∧ Below w.heap.size w w' := by
  obtain ⟨A, c, rfl, hc, hr⟩ := h
  cases A with
  | none =>
    have h0 : ps = [] := by
      cases ps with
      | nil => rfl
      | cons p r =>
        obtain ⟨ad, e, _⟩ := StrAt.cells hr (by simp)
        cases e
    subst h0
    refine (Tryd.slices_Clone_string_nil _ c w).mono ?_
    rintro e w' ⟨rfl, rfl⟩
    exact ⟨_, rfl, StrRow.nil _ _, Below.refl _ _⟩
  | some ad =>
    by_cases h0 : ps.length = 0
    · have h1 : ps = [] := List.eq_nil_of_length_eq_zero h0
      subst h1
      refine (Tryd.slices_Clone_string_zero ad c w).mono ?_
      rintro e w' ⟨v', rfl, h1, _, h2⟩
      exact ⟨v', rfl, h1, h2⟩
    · obtain ⟨bk, o, e, hb, hh⟩ := StrAt.spot (A := some ad) (c := c) ⟨_, c, rfl, hc, hr⟩ (by omega : 0 < ps.length)
      cases e
      refine (Tryd.slices_Clone_string bk o ps.length c ps w (Nat.le_refl _) (by omega) (fun j hj => ?_)).mono ?_
      · exact hh j _ (by rw [List.getElem?_eq_getElem hj, List.getD_eq_getElem?_getD, List.getElem?_eq_getElem hj]; rfl)
      · rintro e w' ⟨v', rfl, h1, _, h2⟩
        rw [List.take_length] at h1
        exact ⟨v', rfl, h1, h2⟩
theorem joinS_any (ps : List ByteArray) (hn : ps.length ≤ 4096) (hps : ∀ p ∈ ps, p.size ≤ 4294967296) (v : Value) (w : World) (h : StrAt w v ps) :
    Calls Tryd.prog 61 #[v, .string ⟨#[44, 32]⟩] w fun e w' => e = .returned (.string (tx (Lx.joinL (ps.map bl)))) ∧ Below w.heap.size w w' := by
  obtain ⟨A, c, rfl, hc, hr⟩ := h
  by_cases h0 : ps.length = 0
  · have h1 : ps = [] := List.eq_nil_of_length_eq_zero h0
    subst h1
    refine (Tryd.strings_Join_none A c ⟨#[44, 32]⟩ w).mono ?_
    rintro e w' ⟨rfl, rfl⟩
    exact ⟨rfl, Below.refl _ _⟩
  · obtain ⟨bk, o, e, hb, hh⟩ := StrAt.spot (A := A) (c := c) ⟨_, c, rfl, hc, hr⟩ (by omega : 0 < ps.length)
    cases e
    have hj : Lib.join (ps.map (·.data.toList)) (⟨#[44, 32]⟩ : ByteArray).data.toList = Lx.joinL (ps.map bl) := join_is _
    have hz := joinL_size 4294967296 (ps.map bl) (fun x hx => by
      obtain ⟨p, hp, rfl⟩ := List.mem_map.1 hx
      rw [bl_length]; exact hps p hp)
    rw [List.length_map] at hz
    have hz2 : ps.length * (4294967296 + 2) ≤ 4096 * (4294967296 + 2) := Nat.mul_le_mul_right _ hn
    refine (Tryd.strings_Join bk o c ps ⟨#[44, 32]⟩ w hh hb (by omega) hc (by rw [hj]; omega)).mono ?_
    rintro e w' ⟨rfl, hB⟩
    rw [hj]
    exact ⟨rfl, hB⟩

/-! ### what showing comes to -/
def showS (m : MacV) : ByteArray := if rightL m then tx (showL m) else ⟨#[]⟩
def showE (m : MacV) : Int := if rightL m then 0 else 2
theorem right_head {m : MacV} (h : rightL m = true) : m.params.length ≤ 16 ∧ m.body.length ≤ 500 := by
  unfold rightL headL isBodyL at h
  simp only [Bool.and_eq_true, decide_eq_true_eq] at h
  exact ⟨h.1.2.2.1, h.2.1.1.1⟩
theorem items_map (m : MacV) : (items m).map (·.1) = m.params.map bl ++ if m.more then [dotsL] else [] := by
  unfold items
  rw [List.map_append, List.map_map]
  cases m.more <;> rfl
theorem showL_is (m : MacV) : showL m = bl m.name ++ ((if m.func then [40] ++ (Lx.joinL (m.params.map bl ++ if m.more then [dotsL] else []) ++ [41]) else []) ++ (if 0 < m.body.length then [32] ++ spellL m.body else [])) := by
  unfold showL Lx.showT
  rw [items_map]
  by_cases h : 0 < m.body.length <;> simp [h]
end Go.Proofs.YthifdcakhdckfaaDoor

namespace Go.Proofs.YthifdcakhdckfaaDoor
open Go.RowKit Go.Proofs.YthifdcakhdckfaaDoorW.PrintWords
open PMacroWords (S62 k62 z62 rd_T62 k62_mk)
set_option linter.unusedVariables false
set_option linter.unusedSimpArgs false

set_option maxRecDepth 100000 in
set_option maxHeartbeats 4000000 in
theorem show_any (m : MacV) (hm : MacFits m) (v : Value) (w : World) (h : MacAt w v m) (hsig : SigIs w) (hmax : MaxIs w) (h25 : 5 < w.heap.size) :
    Calls Tryd.prog 21 #[v] w fun e w' => e = .returned (.tuple #[.string (showS m), .int .i64 (showE m)]) ∧ Below w.heap.size w w' := by
  obtain ⟨vp, vb, rfl, hp, hb⟩ := h
  obtain ⟨A, c, rfl, hc, hr⟩ := hb
  have hb : TokAt w (.slice A m.body.length c) m.body := ⟨A, c, rfl, hc, hr⟩
  clear hr
  obtain ⟨i0, hi, hz0, hz1, hz2⟩ := info_parts info9s
  go_enter Tryd.func21, Tryd.ntmps21
  go_wp2_with (fail)
  obtain ⟨W0, hW0⟩ : ∃ W0, w.alloc (.cells #[.string m.name, .bool m.func, vp, .bool m.more, .slice A m.body.length c] 46) = W0 := ⟨_, rfl⟩
  have hB0 : Below w.heap.size w W0 := by rw [← hW0]; exact (Below.refl _ w).alloc (Nat.le_refl _) _
  have HZ0 := Lib.hid (show W0.heap[w.heap.size]? = some (.cells #[.string m.name, .bool m.func, vp, .bool m.more, .slice A m.body.length c] 46 (0, 0)) by rw [← hW0]; exact World.alloc_heap_new w _)
  have HB0 := Lib.hid hB0
  have HP0 := Lib.hid (hp.below hB0)
  have HT0 := Lib.hid (hb.below hB0)
  have HM := Lib.hid hm
  have hsz : W0.heap.size = w.heap.size + 1 := by rw [← hW0]; simp
  rw [hW0]
  clear hW0 hp hb hm
  refine (right_any m HM.out vp _ W0 HP0.out HT0.out (sig_below hsig hB0) (max_below hmax hB0 h25) (by omega)).mono ?_
  clear hsig hmax hB0
  rintro e w1 ⟨rfl, hB1⟩
  have HZ1 := Lib.hid ((hB1.block _ (Array.getElem?_eq_some_iff.1 HZ0.out).1).trans HZ0.out)
  have HP1 := Lib.hid (HP0.out.below hB1)
  have HT1 := Lib.hid (HT0.out.below hB1)
  have hs1 : w.heap.size < w1.heap.size := by have := hB1.size; omega
  have HB1 := Lib.hid (HB0.out.trans (hB1.mono HB0.out.size))
  clear hB1 HZ0 HB0 HP0 HT0 hsz
  have HS := Lib.hid (show showS m = if rightL m then tx (showL m) else ⟨#[]⟩ from rfl)
  have HE := Lib.hid (show showE m = if rightL m then 0 else 2 from rfl)
  rcases bool_or (rightL m) with hrt | hrt
  · have HS2 := Lib.hid (show showS m = ⟨#[]⟩ by rw [HS.out, hrt]; rfl)
    have HE2 := Lib.hid (show showE m = 2 by rw [HE.out, hrt]; rfl)
    rw [hrt]
    clear hrt
    go_wp2
    go_ret2
    exact ⟨ret_show HS2.out.symm HE2.out.symm, HB1.out⟩
  · have HS2 := Lib.hid (show showS m = tx (showL m) by rw [HS.out, hrt]; rfl)
    have HE2 := Lib.hid (show showE m = 0 by rw [HE.out, hrt]; rfl)
    obtain ⟨hlp, hlb⟩ := right_head hrt
    rw [hrt]
    clear hrt
    have b0 : w1.cell? ⟨w.heap.size, 0, none⟩ = some (.string m.name) := by simp [World.cell?, HZ1.out]
    have b2 : w1.cell? ⟨w.heap.size, 2, none⟩ = some vp := by simp [World.cell?, HZ1.out]
    have HSL := Lib.hid (showL_is m)
    have hnm := HM.out.nm
    have hsp := HM.out.sp
    have hcS := cat_ok ⟨#[32]⟩ ⟨(spellL m.body).toArray⟩ (by simp [bl_arr]; omega)
    rcases bool_or m.func with hf | hf
    · have HF := Lib.hid hf
      have b1 : w1.cell? ⟨w.heap.size, 1, none⟩ = some (.bool false) := by simp [World.cell?, HZ1.out, hf]
      clear hf
      have z4 : w1.cell? ⟨w.heap.size, 4, none⟩ = some (.slice A m.body.length c) := by simp [World.cell?, HZ1.out]
      by_cases hb0 : 0 < m.body.length
      · have hb0' : decide (0 < m.body.length) = true := decide_eq_true hb0
        have HB0 := Lib.hid hb0
        have hcT := cat_ok (m.name) (⟨#[32]⟩ ++ ⟨(spellL m.body).toArray⟩) (by simp only [bl_cat, bl_arr, bl_tx, List.length_append, bl_length, List.length_cons, List.length_nil, List.toList_toArray]; omega)
        clear hb0
        go_wp2_with (fail)
        refine (spell_any m.body HM.out.nb HM.out.sp _ w1 HT1.out).mono ?_
        rintro e w9 ⟨rfl, hB9⟩
        have HB9 := Lib.hid (HB1.out.trans (hB9.mono HB1.out.size))
        clear hB9
        go_wp2
        go_ret2
        refine ⟨ret_show ?_ HE2.out.symm, HB9.out⟩
        rw [HS2.out]
        refine text_is ?_
        rw [HSL.out, if_pos HB0.out]
        simp [bl_cat, bl_arr, bl_tx, dotsL, HF.out]
      · have hb0' : decide (0 < m.body.length) = false := decide_eq_false hb0
        have HB0 := Lib.hid hb0
        clear hb0
        go_wp2
        go_ret2
        refine ⟨ret_show ?_ HE2.out.symm, HB1.out⟩
        rw [HS2.out]
        refine text_is ?_
        rw [HSL.out, if_neg HB0.out]
        simp [bl_cat, bl_arr, bl_tx, dotsL, HF.out]
    · have HF := Lib.hid hf
      have b1 : w1.cell? ⟨w.heap.size, 1, none⟩ = some (.bool true) := by simp [World.cell?, HZ1.out, hf]
      clear hf
      go_wp2_with (fail)
      refine (cloneS_any m.params (by omega) vp w1 HP1.out).mono ?_
      rintro e w2 ⟨v2, rfl, hR2, hB2⟩
      have HZ2 := Lib.hid ((hB2.block _ hs1).trans HZ1.out)
      have HT2 := Lib.hid (HT1.out.below hB2)
      have HB2 := Lib.hid (HB1.out.trans (hB2.mono HB1.out.size))
      have hs2 : w.heap.size < w2.heap.size := by have := hB2.size; omega
      have HR2 := Lib.hid hR2
      obtain ⟨A2, c2, e2⟩ := hR2.slice
      subst e2
      have hB2s := hB2.size
      have hR2' : w2.ownsRow w1.heap.size 9 1 (.slice A2 m.params.length c2) m.params.length (m.params.map Value.string) := hR2
      have HB12 := Lib.hid hB2
      clear hB2 hR2 HZ1 HB1 b0 b1 b2
      rcases bool_or m.more with hf | hf
      · have HMO := Lib.hid hf
        have b3 : w2.cell? ⟨w.heap.size, 3, none⟩ = some (.bool false) := by simp [World.cell?, HZ2.out, hf]
        clear hf
        have hJ := joinL_size 4294967296 ((m.params).map bl) (by intro x hx; obtain ⟨p, hp, rfl⟩ := List.mem_map.1 hx; rw [bl_length]; have := HM.out.ps p hp; omega)
        rw [List.length_map] at hJ
        have hlL : (m.params).length ≤ 17 := (by omega)
        have hJ2 : (m.params).length * (4294967296 + 2) ≤ 17 * (4294967296 + 2) := Nat.mul_le_mul_right _ hlL
        have hcJ := cat_ok ⟨#[40]⟩ (tx (Lx.joinL ((m.params).map bl))) (by simp only [bl_cat, bl_arr, bl_tx, List.length_append, bl_length, List.length_cons, List.length_nil, List.toList_toArray]; omega)
        have hcK := cat_ok (⟨#[40]⟩ ++ (tx (Lx.joinL ((m.params).map bl)))) ⟨#[41]⟩ (by simp only [bl_cat, bl_arr, bl_tx, List.length_append, bl_length, List.length_cons, List.length_nil, List.toList_toArray]; omega)
        have hcL := cat_ok m.name ((⟨#[40]⟩ ++ (tx (Lx.joinL ((m.params).map bl)))) ++ ⟨#[41]⟩) (by simp only [bl_cat, bl_arr, bl_tx, List.length_append, bl_length, List.length_cons, List.length_nil, List.toList_toArray]; omega)
        go_wp2_with (fail)
        refine (joinS_any (m.params) (by omega) (by intro p hp; have := HM.out.ps p hp; omega) _ w2 HR2.out.at).mono ?_
        rintro e w3 ⟨rfl, hB3⟩
        have HZ3 := Lib.hid ((hB3.block _ hs2).trans HZ2.out)
        have HT3 := Lib.hid (HT2.out.below hB3)
        have HB3 := Lib.hid (HB2.out.trans (hB3.mono HB2.out.size))
        clear hB3 HZ2 HT2 HB2 b3
        have z4 : w3.cell? ⟨w.heap.size, 4, none⟩ = some (.slice A m.body.length c) := by simp [World.cell?, HZ3.out]
        by_cases hb0 : 0 < m.body.length
        · have hb0' : decide (0 < m.body.length) = true := decide_eq_true hb0
          have HB0 := Lib.hid hb0
          have hcT := cat_ok (m.name ++ ((⟨#[40]⟩ ++ (tx (Lx.joinL ((m.params).map bl)))) ++ ⟨#[41]⟩)) (⟨#[32]⟩ ++ ⟨(spellL m.body).toArray⟩) (by simp only [bl_cat, bl_arr, bl_tx, List.length_append, bl_length, List.length_cons, List.length_nil, List.toList_toArray]; omega)
          clear hb0
          go_wp2_with (fail)
          refine (spell_any m.body HM.out.nb HM.out.sp _ w3 HT3.out).mono ?_
          rintro e w9 ⟨rfl, hB9⟩
          have HB9 := Lib.hid (HB3.out.trans (hB9.mono HB3.out.size))
          clear hB9
          go_wp2
          go_ret2
          refine ⟨ret_show ?_ HE2.out.symm, HB9.out⟩
          rw [HS2.out]
          refine text_is ?_
          rw [HSL.out, if_pos HB0.out]
          simp [bl_cat, bl_arr, bl_tx, dotsL, HMO.out, HF.out]
        · have hb0' : decide (0 < m.body.length) = false := decide_eq_false hb0
          have HB0 := Lib.hid hb0
          clear hb0
          go_wp2
          go_ret2
          refine ⟨ret_show ?_ HE2.out.symm, HB3.out⟩
          rw [HS2.out]
          refine text_is ?_
          rw [HSL.out, if_neg HB0.out]
          simp [bl_cat, bl_arr, bl_tx, dotsL, HMO.out, HF.out]
      · have HMO := Lib.hid hf
        have b3 : w2.cell? ⟨w.heap.size, 3, none⟩ = some (.bool true) := by simp [World.cell?, HZ2.out, hf]
        clear hf
        have hrow := World.ownsRow.alloc hR2' (.cells #[.string ⟨#[46, 46, 46]⟩] 9)
        have hb1 : m.params.length + 1 ≤ maxLen := by simp only [maxLen]; omega
        have hb2 : (m.params.length + 1) * 16 ≤ 140737488355328 := by omega
        have hbs : w1.heap.size ≤ (w2.alloc (.cells #[.string ⟨#[46, 46, 46]⟩] 9)).heap.size := by simp; omega
        have hsz : (w2.alloc (.cells #[.string ⟨#[46, 46, 46]⟩] 9)).heap.size = w2.heap.size + 1 := by simp
        obtain ⟨L, hL⟩ : ∃ L, m.params ++ [(⟨#[46, 46, 46]⟩ : ByteArray)] = L := ⟨_, rfl⟩
        have HL := Lib.hid hL
        clear hL
        have hJ := joinL_size 4294967296 ((L).map bl) (by intro x hx; obtain ⟨p, hp, rfl⟩ := List.mem_map.1 hx; rw [bl_length]; rw [← HL.out] at hp; exact dots_sz HM.out.ps p hp)
        rw [List.length_map] at hJ
        have hlL : (L).length ≤ 17 := (by rw [← HL.out]; simp; omega)
        have hJ2 : (L).length * (4294967296 + 2) ≤ 17 * (4294967296 + 2) := Nat.mul_le_mul_right _ hlL
        have hcJ := cat_ok ⟨#[40]⟩ (tx (Lx.joinL ((L).map bl))) (by simp only [bl_cat, bl_arr, bl_tx, List.length_append, bl_length, List.length_cons, List.length_nil, List.toList_toArray]; omega)
        have hcK := cat_ok (⟨#[40]⟩ ++ (tx (Lx.joinL ((L).map bl)))) ⟨#[41]⟩ (by simp only [bl_cat, bl_arr, bl_tx, List.length_append, bl_length, List.length_cons, List.length_nil, List.toList_toArray]; omega)
        have hcL := cat_ok m.name ((⟨#[40]⟩ ++ (tx (Lx.joinL ((L).map bl)))) ++ ⟨#[41]⟩) (by simp only [bl_cat, bl_arr, bl_tx, List.length_append, bl_length, List.length_cons, List.length_nil, List.toList_toArray]; omega)
        go_wp2_with (at_builtin; refine wpList_append_lies _ rfl (.tmp 18) (.tmp 19) 44 rfl w1.heap.size 9 i0 _ 1 16 Tryd.underlying44 hi hz0 hz1 hz2 rfl (by decide) (.slice A2 m.params.length c2) m.params.length (m.params.map Value.string) rfl hrow ⟨w2.heap.size, 0, none⟩ 1 1 [.string ⟨#[46, 46, 46]⟩] rfl rfl (cell_new1 w2 _ _) (by simp [Value.oneCell']) (Nat.le_refl 1) hb1 hb2 hbs (w2.heap.size + 1) hsz ?_; intro g1 cap1 w5 hown5 hgrow5 hor5 hlt5)
        have hR5 : StrRow w1.heap.size w5 (.slice (some ⟨g1, 0, none⟩) (m.params.length + 1) cap1) L := by
          unfold StrRow
          rw [← HL.out]
          rw [List.map_append, List.length_append]
          exact hown5
        have hg5 : w2.grownBy w5 (Value.slice A2 m.params.length c2).ownBlock := ⟨hgrow5.os, hgrow5.tape, hgrow5.output, by have := hgrow5.size; simp at this; omega, fun k hk hne => (hgrow5.block k (by simp; omega) hne).trans (Below.heap_alloc w2 _ k hk)⟩
        have hne5 : ∀ b, b < w1.heap.size → some b ≠ (Value.slice A2 m.params.length c2).ownBlock := fun b hb e => by have := (HR2.out.block b e.symm).1; omega
        have hB5 : Below w1.heap.size w2 w5 := ⟨hg5.os, hg5.tape, hg5.output, by have := hg5.size; omega, fun k hk => hg5.block k (by omega) (hne5 k hk)⟩
        have HR5 := Lib.hid hR5
        have HZ5 := Lib.hid ((hB5.block _ hs1).trans HZ2.out)
        have HB5 := Lib.hid (HB2.out.trans (hB5.mono (by omega)))
        have HT5 := Lib.hid (HT1.out.below (HB12.out.trans hB5))
        have hs5 : w.heap.size < w5.heap.size := by have := hg5.size; omega
        clear hown5 hgrow5 hor5 hlt5 hR5 hg5 hne5 hB5 HR2 HZ2 HB2 HT2 hrow hb1 hb2 hbs hsz b3 hR2'
        refine (joinS_any (L) (by omega) (by intro p hp; rw [← HL.out] at hp; exact dots_sz HM.out.ps p hp) _ w5 HR5.out.at).mono ?_
        rintro e w3 ⟨rfl, hB3⟩
        have HZ3 := Lib.hid ((hB3.block _ hs5).trans HZ5.out)
        have HT3 := Lib.hid (HT5.out.below hB3)
        have HB3 := Lib.hid (HB5.out.trans (hB3.mono HB5.out.size))
        clear hB3 HZ5 HT5 HB5
        have z4 : w3.cell? ⟨w.heap.size, 4, none⟩ = some (.slice A m.body.length c) := by simp [World.cell?, HZ3.out]
        by_cases hb0 : 0 < m.body.length
        · have hb0' : decide (0 < m.body.length) = true := decide_eq_true hb0
          have HB0 := Lib.hid hb0
          have hcT := cat_ok (m.name ++ ((⟨#[40]⟩ ++ (tx (Lx.joinL ((L).map bl)))) ++ ⟨#[41]⟩)) (⟨#[32]⟩ ++ ⟨(spellL m.body).toArray⟩) (by simp only [bl_cat, bl_arr, bl_tx, List.length_append, bl_length, List.length_cons, List.length_nil, List.toList_toArray]; omega)
          clear hb0
          go_wp2_with (fail)
          refine (spell_any m.body HM.out.nb HM.out.sp _ w3 HT3.out).mono ?_
          rintro e w9 ⟨rfl, hB9⟩
          have HB9 := Lib.hid (HB3.out.trans (hB9.mono HB3.out.size))
          clear hB9
          go_wp2
          go_ret2
          refine ⟨ret_show ?_ HE2.out.symm, HB9.out⟩
          rw [HS2.out]
          refine text_is ?_
          rw [HSL.out, if_pos HB0.out]
          rw [HF.out, HMO.out, bl_cat, bl_cat, bl_cat, bl_cat, bl_cat, bl_tx, ← HL.out, dots_map]
          simp [bl_arr]
          rfl
        · have hb0' : decide (0 < m.body.length) = false := decide_eq_false hb0
          have HB0 := Lib.hid hb0
          clear hb0
          go_wp2
          go_ret2
          refine ⟨ret_show ?_ HE2.out.symm, HB3.out⟩
          rw [HS2.out]
          refine text_is ?_
          rw [HSL.out, if_neg HB0.out]
          rw [HF.out, HMO.out, bl_cat, bl_cat, bl_cat, bl_tx, ← HL.out, dots_map]
          simp [bl_arr]
          rfl
end Go.Proofs.YthifdcakhdckfaaDoor

/-
  The tokens of a text, together, are no longer than the text; the walk of the laws' lexed.
  Walk: the laws' shown.
  Walk: the law MacroReads.
-/
import Derived.Test.YthifdcakhdckfaaDoorShowW
import Derived.Test.YthifdcakhdckfaaDoorRefParse
namespace Go.Proofs.YthifdcakhdckfaaDoor
open Go.RowKit Go.Proofs.YthifdcakhdckfaaDoorW.PrintWords
open PMacroWords (S62 k62 z62 rd_T62 k62_mk)
set_option linter.unusedVariables false
set_option linter.unusedSimpArgs false

namespace Lx
theorem lexGo_sum : ∀ (f : Nat) (o sp fi : Bool) (s : L) (out : List Tk), ((lexGo f o sp fi s out).2.map fun t => t.s.length + 1).sum ≤ (out.map fun t => t.s.length + 1).sum + 2 * s.length := by
  intro f
  induction f with
  | zero => intro o sp fi s out; simp [lexGo]
  | succ f ih =>
    intro o sp fi s out
    rw [lexGo]
    have hsuf : (skipAll o sp s).2.2 <:+ s := skip_suffix _ _ _ _
    have hle := hsuf.length_le
    simp only []
    generalize skipAll o sp s = q at hle hsuf ⊢
    split
    · split
      · simp
      · simp
    · split
      · simp
      · split
        · simp
        · rename_i h0 hn _
          have h1 := ih q.1 false false (q.2.2.drop (next q.2.2).2) (out ++ [⟨(next q.2.2).1, q.2.2.take (next q.2.2).2, q.2.1, fi⟩])
          refine Nat.le_trans h1 ?_
          rw [List.map_append, List.sum_append, List.length_drop]
          simp only [List.map_cons, List.map_nil, List.sum_cons, List.sum_nil, List.length_take]
          have h2 : 0 < (next q.2.2).2 := Nat.pos_of_ne_zero hn
          have h3 : 0 < q.2.2.length := List.length_pos_iff.2 h0
          omega
end Lx
theorem lex_size {S : ByteArray} {xs : List S62} (h : (Lx.lex (bl S)).2 = xs.map tk) : tokSize xs ≤ 2 * S.size := by
  have h1 := Lx.lexGo_sum ((bl S).length + 1) false false true (bl S) []
  have h2 : ((Lx.lex (bl S)).2.map fun t => t.s.length + 1).sum = tokSize xs := by
    rw [h, List.map_map]
    unfold tokSize
    exact congrArg List.sum (List.map_congr_left fun x _ => by show (bl x.f1).length + 1 = _; rw [bl_length])
  have h3 : (Lx.lex (bl S)) = Lx.lexGo ((bl S).length + 1) false false true (bl S) [] := rfl
  rw [← h3, h2] at h1
  rw [bl_length] at h1
  simpa using h1
set_option maxRecDepth 100000 in
set_option maxHeartbeats 4000000 in
theorem lexed_any (S : ByteArray) (hS : S.size < 4294967281) (w : World) (hsig : SigIs w) (hmax : MaxIs w) (h25 : 5 < w.heap.size) :
    Calls Tryd.prog 27 #[.string S] w fun e w' => ∃ v xs, e = .returned v ∧ TokAt w' v xs ∧ (Lx.lex (bl S)).2 = xs.map tk ∧ Below w.heap.size w w' := by
  go_enter Tryd.func27, Tryd.ntmps27
  go_wp2_with (fail)
  have hB0 : Below w.heap.size w (w.alloc (.cells #[.int .i64 1, .string S] 42)) := (Below.refl _ w).alloc (Nat.le_refl _) _
  have HB0 := Lib.hid hB0
  refine (lex_any w.heap.size 1 S hS 1 _ (World.alloc_heap_new w _) (sig_below hsig hB0) (max_below hmax hB0 h25) (by simp; omega)).mono ?_
  clear hsig hmax hB0
  rintro e w1 ⟨v, at_, xs, rfl, hrow, hxs, hrest, hB1⟩
  have HT := Lib.hid hrow.at
  have HB1 := Lib.hid (HB0.out.trans (hB1.mono HB0.out.size))
  have HX := Lib.hid hxs
  clear hrow hxs hrest hB1
  go_wp2
  go_ret
  exact ⟨v, xs, rfl, HT.out, HX.out, HB1.out⟩
end Go.Proofs.YthifdcakhdckfaaDoor

namespace Go.Proofs.YthifdcakhdckfaaDoor
open Go.RowKit Go.Proofs.YthifdcakhdckfaaDoorW.PrintWords
open PMacroWords (S62 k62 z62 rd_T62 k62_mk)
set_option linter.unusedVariables false
set_option linter.unusedSimpArgs false

def shownT : ByteArray := ⟨#[70, 40, 97, 44, 98, 41, 32, 32, 97, 32, 35, 35, 32, 98]⟩
set_option maxRecDepth 100000 in
theorem shown_facts : (parseL ((Lx.lex (bl shownT)).2.map ofTk)).map (fun m => (m.func, m.params.length, showL m)) = some (true, 2, [70, 40, 97, 44, 32, 98, 41, 32, 97, 32, 35, 35, 32, 98]) := by decide +kernel
set_option maxRecDepth 100000 in
theorem shown_not : parseL ((Lx.lex (bl ⟨#[88, 43, 49]⟩)).2.map ofTk) = none := Option.isSome_eq_false_iff.1 (by decide +kernel) |> Option.isNone_iff_eq_none.1
theorem shown_m {xs : List S62} (h : (Lx.lex (bl shownT)).2 = xs.map tk) : ∃ m, parseL xs = some m ∧ m.func = true ∧ m.params.length = 2 ∧ showS m = ⟨#[70, 40, 97, 44, 32, 98, 41, 32, 97, 32, 35, 35, 32, 98]⟩ ∧ showE m = 0 := by
  have h1 := parseL_of h.symm
  have h2 := shown_facts
  rw [← h1] at h2
  cases hp : parseL xs with
  | none => rw [hp] at h2; simp at h2
  | some m =>
    rw [hp] at h2
    simp only [Option.map_some, Option.some.injEq, Prod.mk.injEq] at h2
    have hr := (parseL_right hp).1
    exact ⟨m, rfl, h2.1, h2.2.1, by unfold showS; rw [if_pos hr, h2.2.2]; rfl, by unfold showE; rw [if_pos hr]⟩
theorem shown_n {xs : List S62} (h : (Lx.lex (bl ⟨#[88, 43, 49]⟩)).2 = xs.map tk) : parseL xs = none := by rw [parseL_of h.symm]; exact shown_not
theorem parse_fits {xs : List S62} (hs : tokSize xs < 4294967281) : MacFits (parseM xs) := by
  unfold parseM
  cases hp : parseL xs with
  | none => exact ⟨by decide, by decide, by decide, by decide, by intro p hp; cases hp⟩
  | some m => exact rawL_fits hs (parseL_right hp).2
theorem MacAt.parts {W : World} {v : Value} {m : MacV} (h : MacAt W v m) : ∃ A c B d, v = .agg #[.string m.name, .bool m.func, .slice A m.params.length c, .bool m.more, .slice B m.body.length d] ∧ MacAt W (.agg #[.string m.name, .bool m.func, .slice A m.params.length c, .bool m.more, .slice B m.body.length d]) m := by
  obtain ⟨vp, vb, rfl, ⟨A, c, rfl, hc, hr⟩, ⟨B, d, rfl, hd, hr'⟩⟩ := h
  exact ⟨A, c, B, d, rfl, _, _, rfl, ⟨A, c, rfl, hc, hr⟩, ⟨B, d, rfl, hd, hr'⟩⟩
theorem equalM_any (a b : MacV) (ha : MacFits a) (v u : Value) (w : World) (h : MacAt w v a) (h' : MacAt w u b) :
    Calls Tryd.prog 20 #[v, u] w fun e w' => e = .returned (.bool (eqMac a b)) ∧ Below w.heap.size w w' := by
  obtain ⟨vp, vb, rfl, h1, h2⟩ := h
  obtain ⟨up, ub, rfl, h3, h4⟩ := h'
  exact equal_any a b ha.np ha.nb vp vb up ub w h1 h2 h3 h4
set_option maxRecDepth 100000 in
set_option maxHeartbeats 4000000 in
theorem shown_any (w : World) (hsig : SigIs w) (hmax : MaxIs w) (h25 : 5 < w.heap.size) :
    Calls Tryd.prog 16 #[] w fun e w' => e = .returned (.bool true) ∧ Below w.heap.size w w' := by
  go_enter Tryd.func16, Tryd.ntmps16
  go_wp2_with (fail)
  refine (lexed_any shownT (by decide) w hsig hmax h25).mono ?_
  rintro e w1 ⟨v, xs, rfl, hT, hX, hB1⟩
  have HB1 := Lib.hid hB1
  have hs := lex_size hX
  have hs' : tokSize xs < 4294967281 := Nat.lt_of_le_of_lt hs (by decide)
  obtain ⟨m, hm, hf, hp2, hsh, hse⟩ := shown_m hX
  have H1 := Lib.hid (sig_below hsig hB1)
  have H2 := Lib.hid (max_below hmax hB1 h25)
  have hsz1 := hB1.size
  clear hs hX hB1 hsig hmax
  go_wp2_with (fail)
  refine (parse_any xs hs' v w1 hT H1.out H2.out (by omega)).mono ?_
  rintro e w2 ⟨vm, rfl, hM, hB2⟩
  have hE0 : parseE xs = 0 := by unfold parseE; rw [hm]; rfl
  have hM0 : parseM xs = m := by unfold parseM; rw [hm]; rfl
  have hfit := parse_fits hs'
  rw [hM0] at hM hfit
  rw [hE0]
  obtain ⟨vp, vb, hvm, hpp, hbb⟩ := hM
  subst hvm
  obtain ⟨A, c, rfl, hc, hr⟩ := hpp
  obtain ⟨B, d, rfl, hd, hr'⟩ := hbb
  have HM2 := Lib.hid (show MacAt w2 (.agg #[.string m.name, .bool m.func, .slice A m.params.length c, .bool m.more, .slice B m.body.length d]) m from ⟨_, _, rfl, ⟨A, c, rfl, hc, hr⟩, ⟨B, d, rfl, hd, hr'⟩⟩)
  have H3 := Lib.hid (sig_below H1.out hB2)
  have H4 := Lib.hid (max_below H2.out hB2 (by omega))
  have hsz2 := hB2.size
  have HB2 := Lib.hid (HB1.out.trans (hB2.mono hsz1))
  have HF := Lib.hid hfit
  have HFU := Lib.hid hf
  have HP2 := Lib.hid hp2
  have HSH := Lib.hid hsh
  have HSE := Lib.hid hse
  clear hB2 hr hr' hfit hT hs' hm hE0 hM0 H1 H2 HB1 hf hp2 hsh hse
  go_wp2_with (fail)
  obtain ⟨W3, hW3⟩ : ∃ W3, w2.alloc (.cells #[.string m.name, .bool m.func, .slice A m.params.length c, .bool m.more, .slice B m.body.length d] 46) = W3 := ⟨_, rfl⟩
  have hB3 : Below w2.heap.size w2 W3 := by rw [← hW3]; exact (Below.refl _ _).alloc (Nat.le_refl _) _
  have HZ3 := Lib.hid (show W3.heap[w2.heap.size]? = some (.cells #[.string m.name, .bool m.func, .slice A m.params.length c, .bool m.more, .slice B m.body.length d] 46 (0, 0)) by rw [← hW3]; exact World.alloc_heap_new w2 _)
  have hsz3 : W3.heap.size = w2.heap.size + 1 := by rw [← hW3]; simp
  rw [hW3]
  have H5 := Lib.hid (sig_below H3.out hB3)
  have H6 := Lib.hid (max_below H4.out hB3 (by omega))
  have HM3 := Lib.hid (HM2.out.below hB3)
  have HB3 := Lib.hid (HB2.out.trans (hB3.mono (by have := HB2.out.size; omega)))
  clear hW3 hB3 H3 H4 HM2 HB2
  refine (show_any m HF.out _ W3 HM3.out H5.out H6.out (by omega)).mono ?_
  rintro e w4 ⟨rfl, hB4⟩
  rw [HSH.out, HSE.out]
  have H7 := Lib.hid (sig_below H5.out hB4)
  have H8 := Lib.hid (max_below H6.out hB4 (by omega))
  have HZ4 := Lib.hid ((hB4.block _ (Array.getElem?_eq_some_iff.1 HZ3.out).1).trans HZ3.out)
  have HB4 := Lib.hid (HB3.out.trans (hB4.mono (by have := HB3.out.size; omega)))
  have hsz4 := hB4.size
  clear hB4 H5 H6 HZ3 HB3 HM3
  go_wp2_with (fail)
  refine (lexed_any ⟨#[88, 43, 49]⟩ (by decide) w4 H7.out H8.out (by omega)).mono ?_
  rintro e w5 ⟨v5, ys, rfl, hT, hX, hB5⟩
  have hs := lex_size hX
  have hs' : tokSize ys < 4294967281 := Nat.lt_of_le_of_lt hs (by decide)
  have hnone := shown_n hX
  have H9 := Lib.hid (sig_below H7.out hB5)
  have H10 := Lib.hid (max_below H8.out hB5 (by omega))
  have HZ5 := Lib.hid ((hB5.block _ (Array.getElem?_eq_some_iff.1 HZ4.out).1).trans HZ4.out)
  have HB5 := Lib.hid (HB4.out.trans (hB5.mono (by have := HB4.out.size; omega)))
  have hsz5 := hB5.size
  clear hs hX hB5 H7 H8 HZ4 HB4
  go_wp2_with (fail)
  refine (parse_any ys hs' v5 w5 hT H9.out H10.out (by omega)).mono ?_
  rintro e w6 ⟨vm, rfl, hM, hB6⟩
  have hE0 : parseE ys = 30 := by unfold parseE; rw [hnone]; rfl
  rw [hE0]
  obtain ⟨vp, vb, hvm, hpp, hbb⟩ := hM
  subst hvm
  obtain ⟨A', c', rfl, hc', hr⟩ := hpp
  obtain ⟨B', d', rfl, hd', hr'⟩ := hbb
  have HZ6 := Lib.hid ((hB6.block _ (Array.getElem?_eq_some_iff.1 HZ5.out).1).trans HZ5.out)
  have HB6 := Lib.hid (HB5.out.trans (hB6.mono (by have := HB5.out.size; omega)))
  clear hr hr' hT hE0 hnone hB6 HZ5 HB5 H9 H10
  have g1 : ∀ o, (w6.alloc o).cell? ⟨w2.heap.size, 1, none⟩ = some (.bool true) := fun o => oldC o (by rw [← HFU.out]; simp [World.cell?, HZ6.out])
  have g2 : ∀ o, (w6.alloc o).cell? ⟨w2.heap.size, 2, none⟩ = some (.slice A m.params.length c) := fun o => oldC o (by simp [World.cell?, HZ6.out])
  have hp2' := HP2.out
  go_wp2
  go_ret
  refine ⟨?_, (HB6.out.alloc HB6.out.size _)⟩
  rfl
end Go.Proofs.YthifdcakhdckfaaDoor

namespace Go.Proofs.YthifdcakhdckfaaDoor
open Go.RowKit Go.Proofs.YthifdcakhdckfaaDoorW.PrintWords
open PMacroWords (S62 k62 z62 rd_T62 k62_mk)
set_option linter.unusedVariables false
set_option linter.unusedSimpArgs false

theorem box5 {W : World} {b : Nat} {a0 a1 a2 a3 a4 : Value} (h : W.heap[b]? = some (.cells #[a0, a1, a2, a3, a4] 46 (0, 0))) : W.cell? ⟨b, 0, none⟩ = some a0 ∧ W.cell? ⟨b, 1, none⟩ = some a1 ∧ W.cell? ⟨b, 2, none⟩ = some a2 ∧ W.cell? ⟨b, 3, none⟩ = some a3 ∧ W.cell? ⟨b, 4, none⟩ = some a4 := by
  simp [World.cell?, h]
theorem box5o {W : World} {b : Nat} {a0 a1 a2 a3 a4 : Value} (h : W.heap[b]? = some (.cells #[a0, a1, a2, a3, a4] 46 (0, 0))) : (∀ o, (W.alloc o).cell? ⟨b, 0, none⟩ = some a0) ∧ (∀ o, (W.alloc o).cell? ⟨b, 1, none⟩ = some a1) ∧ (∀ o, (W.alloc o).cell? ⟨b, 2, none⟩ = some a2) ∧ (∀ o, (W.alloc o).cell? ⟨b, 3, none⟩ = some a3) ∧ (∀ o, (W.alloc o).cell? ⟨b, 4, none⟩ = some a4) := by
  obtain ⟨h0, h1, h2, h3, h4⟩ := box5 h
  exact ⟨fun o => oldC o h0, fun o => oldC o h1, fun o => oldC o h2, fun o => oldC o h3, fun o => oldC o h4⟩
theorem eqMac_self (m : MacV) : eqMac m m = true := eqMac_iff.2 rfl
set_option maxRecDepth 100000 in
set_option maxHeartbeats 4000000 in
theorem reads_any (S : ByteArray) (hS : S.size ≤ 1048576) (w : World) (hsig : SigIs w) (hmax : MaxIs w) (h25 : 5 < w.heap.size) :
    Calls Tryd.prog 4 #[.string S] w fun e w' => e = .returned (.bool true) ∧ Below w.heap.size w w' := by
  go_enter Tryd.func4, Tryd.ntmps4
  go_wp2_with (fail)
  refine (shown_any w hsig hmax h25).mono ?_
  rintro e w1 ⟨rfl, hB1⟩
  have hB2 := (Below.refl w1.heap.size w1).alloc (Nat.le_refl _) (.cells #[.int .i64 1, .string S] 42)
  have H1 := Lib.hid (sig_below (sig_below hsig hB1) hB2)
  have H2 := Lib.hid (max_below (max_below hmax hB1 h25) hB2 (by have := hB1.size; omega))
  have hsz1 := hB1.size
  have HB1 := Lib.hid (hB1.trans (hB2.mono hB1.size))
  clear hB1 hB2 hsig hmax
  go_wp2_with (fail)
  refine (lex_any w1.heap.size 1 S (by omega) 1 _ (World.alloc_heap_new w1 _) H1.out H2.out (by simp; omega)).mono ?_
  rintro e w2 ⟨v, at_, xs, rfl, hrow, hxs, hrest, hB2⟩
  have HT2 := Lib.hid hrow.at
  have HB2 := Lib.hid (HB1.out.trans (hB2.mono HB1.out.size))
  have hs := lex_size hxs
  have hs' : tokSize xs < 4294967281 := by omega
  have H3 := Lib.hid (sig_below H1.out hB2)
  have H4 := Lib.hid (max_below H2.out hB2 (by simp; omega))
  have hsz2 := hB2.size
  simp at hsz2
  clear hrow hxs hrest hB2 H1 H2 HB1 hs
  generalize (Lx.lex (bl S)).1 = er
  rcases bool_or (er != 0) with he | he
  case inr =>
    go_wp2
    go_ret
    exact ⟨rfl, HB2.out⟩
  go_wp2_with (fail)
  refine (parse_any xs hs' v w2 HT2.out H3.out H4.out (by omega)).mono ?_
  rintro e w3 ⟨vm, rfl, hM, hB3⟩
  obtain ⟨A, c, B, d, rfl, hM'⟩ := hM.parts
  have HM3 := Lib.hid hM'
  have HT3 := Lib.hid (HT2.out.below hB3)
  have HB3 := Lib.hid (HB2.out.trans (hB3.mono HB2.out.size))
  have hsz3 := hB3.size
  have HF := Lib.hid (parse_fits hs')
  clear hB3 hM hM' HB2 HT2 H3 H4
  generalize hmm : parseM xs = m at HM3 HF
  have HMM := Lib.hid hmm
  generalize hee : parseE xs = k
  have HEE := Lib.hid hee
  clear hmm hee
  go_wp2_with (fail)
  obtain ⟨W3, hW3⟩ : ∃ W3, w3.alloc (.cells #[.string m.name, .bool m.func, .slice A m.params.length c, .bool m.more, .slice B m.body.length d] 46) = W3 := ⟨_, rfl⟩
  have hB4 : Below w3.heap.size w3 W3 := by rw [← hW3]; exact (Below.refl _ _).alloc (Nat.le_refl _) _
  have HZ4 := Lib.hid (show W3.heap[w3.heap.size]? = some (.cells #[.string m.name, .bool m.func, .slice A m.params.length c, .bool m.more, .slice B m.body.length d] 46 (0, 0)) by rw [← hW3]; exact World.alloc_heap_new w3 _)
  rw [hW3]
  have HT4 := Lib.hid (HT3.out.below hB4)
  have HM4 := Lib.hid (HM3.out.below hB4)
  have HB4 := Lib.hid (HB3.out.trans (hB4.mono HB3.out.size))
  clear hW3 hB4 HT3 HM3 HB3
  refine (refParse_any xs hs' v W3 HT4.out).mono ?_
  rintro e w5 ⟨vm, rfl, hM, hB5⟩
  obtain ⟨A', c', B', d', rfl, hM'⟩ := hM.parts
  rw [HMM.out] at hM'
  rw [HMM.out, HEE.out]
  have HN5 := Lib.hid hM'
  have HZ5 := Lib.hid ((hB5.block _ (Array.getElem?_eq_some_iff.1 HZ4.out).1).trans HZ4.out)
  have HM5 := Lib.hid (HM4.out.below hB5)
  have HB5 := Lib.hid (HB4.out.trans (hB5.mono HB4.out.size))
  have hlt : w3.heap.size < w5.heap.size := (Array.getElem?_eq_some_iff.1 HZ5.out).1
  clear hM hM' hB5 HZ4 HM4 HB4 HT4
  obtain ⟨g0, g1, g2, g3, g4⟩ := box5o HZ5.out
  have hBx := fun o => (Below.refl w5.heap.size w5).alloc (Nat.le_refl _) o
  have HBX := Lib.hid hBx
  clear hBx
  go_wp2_with (fail)
  refine (equalM_any m m HF.out _ _ _ (HM5.out.below (HBX.out _)) (HN5.out.below (HBX.out _))).mono ?_
  rintro e w7 ⟨rfl, hB7⟩
  have HB7 := Lib.hid (HB5.out.trans (((HBX.out _).trans (hB7.mono (HBX.out _).size)).mono HB5.out.size))
  clear hB7 HB5 HM5 HN5
  rw [eqMac_self]
  go_wp2
  go_ret
  exact ⟨by simp, HB7.out⟩
end Go.Proofs.YthifdcakhdckfaaDoor

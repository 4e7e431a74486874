/-
  Walk: macro.isBody, the test of a macro's body.
-/
import Derived.Deep.RegionHeldLaw
import Derived.Test.YthifdcakhdckfaaDoorMacP
namespace Go.Proofs.YthifdcakhdckfaaDoor
open Go.RowKit Go.Proofs.YthifdcakhdckfaaDoorW.PrintWords
open PMacroWords (S62 k62 z62 rd_T62 k62_mk)
set_option linter.unusedVariables false
set_option linter.unusedSimpArgs false

theorem MacBox.below {W W' : World} {b : Nat} {m : MacV} {vp vb : Value} (h : MacBox W b m vp vb) (hb : Below W.heap.size W W') : MacBox W' b m vp vb := ⟨(hb.block _ (Array.getElem?_eq_some_iff.1 h.box).1).trans h.box, h.ps.below hb, h.bd.below hb⟩
theorem isBodyL_bad {m : MacV} {i : Nat} (hi : i < m.body.length) (h : goodAt m i = false) : isBodyL m = false := by
  unfold isBodyL
  have : (List.range m.body.length).all (goodAt m) = false := by
    rw [List.all_eq_false]
    exact ⟨i, List.mem_range.2 hi, by rw [h]; simp⟩
  rw [this, Bool.and_false]
theorem upto_succ {p : Nat → Bool} {i : Nat} (h : ∀ j, j < i → p j = true) (hi : p i = true) : ∀ j, j < i + 1 → p j = true := by
  intro j hj
  by_cases e : j = i
  · rw [e]; exact hi
  · exact h j (by omega)
theorem isParam_any' (m : MacV) (b bn : Nat) (vp vb : Value) (i : Nat) (k : Int) (w : World) (h : MacBox w b m vp vb) (hn : w.cell? ⟨bn, 0, none⟩ = some (.int .i64 (m.body.length : Int))) (hp : m.params.length < 4294967296) (hb : m.body.length < 4294967296) (hk : k = (i : Int)) :
    Calls Tryd.prog 120 #[.int .i64 k, .pointer (some ⟨bn, 0, none⟩), .pointer (some ⟨b, 0, none⟩)] w fun e w' => e = .returned (.bool (isParamL m i)) ∧ Drawn0 w w' := by
  subst hk
  exact isParam_any m b bn vp vb i w h hn hp hb
set_option maxRecDepth 100000 in
set_option maxHeartbeats 4000000 in
theorem isBody_any (m : MacV) (vp vb : Value) (w : World) (h1 : StrAt w vp m.params) (h2 : TokAt w vb m.body) (hp : m.params.length < 4294967296) (hb : m.body.length < 4294967296) (hs : (spellL m.body).length < 4294967281) (hsig : SigIs w) (hmax : MaxIs w) (h25 : 5 < w.heap.size) :
    Calls Tryd.prog 65 #[.agg #[.string m.name, .bool m.func, vp, .bool m.more, vb]] w fun e w' => e = .returned (.bool (isBodyL m)) ∧ Below w.heap.size w w' := by
  obtain ⟨A, c, rfl, hc, hr⟩ := h2
  have h2 : TokAt w (.slice A m.body.length c) m.body := ⟨A, c, rfl, hc, hr⟩
  go_enter Tryd.func65, Tryd.ntmps65
  go_wp2
  obtain ⟨W0, hW0⟩ : ∃ W0, (w.alloc (.cells #[.string m.name, .bool m.func, vp, .bool m.more, .slice A m.body.length c] 46)).alloc (.cells #[.int .i64 (m.body.length : Int)] 3) = W0 := ⟨_, rfl⟩
  have hB0 : Below w.heap.size w W0 := by rw [← hW0]; exact ((Below.refl _ w).alloc (Nat.le_refl _) _).alloc (by simp) _
  have hsz : W0.heap.size = w.heap.size + 2 := by rw [← hW0]; simp
  have hbox : MacBox W0 w.heap.size m vp (.slice A m.body.length c) := by
    refine ⟨?_, h1.below hB0, h2.below hB0⟩
    rw [← hW0]; exact hold_old (World.alloc_heap_new w _)
  have hbn : W0.heap[w.heap.size + 1]? = some (.cells #[.int .i64 (m.body.length : Int)] 3 (0, 0)) := by rw [← hW0]; exact hold_new (by simp)
  rw [hW0]
  clear hW0 hr h1 h2
  have n0 : W0.cell? ⟨w.heap.size + 1, 0, none⟩ = some (.int .i64 (m.body.length : Int)) := by simp [World.cell?, hbn]
  have b4 : W0.cell? ⟨w.heap.size, 4, none⟩ = some (.slice A m.body.length c) := by simp [World.cell?, hbox.box]
  have HX := Lib.hid hbox
  have HN := Lib.hid hbn
  have H1 := Lib.hid hsig
  have H2 := Lib.hid hmax
  have H3 := Lib.hid hB0
  clear hbox hbn hsig hmax hB0
  by_cases h500 : m.body.length ≤ 500
  · have h500' : decide ((m.body.length : Int) > 500) = false := by simp; omega
    have h500'' : decide ((500 : Int) < (m.body.length : Int)) = false := by simp; omega
    cases hq : decide (m.body = bareL m.body) with
    | false =>
      go_region_held_law (fun w' => w'.cell? ⟨w.heap.size + 1, 0, none⟩ = some (.int .i64 (m.body.length : Int)) ∧ w'.cell? ⟨w.heap.size, 4, none⟩ = some (.slice A m.body.length c)) (first | exact hkeep | go_keep)
        (first
          | (go_at_call 56; refine (bare_any m.body hb _ _ (HX.out.bd.below (Below.drew (Below.refl _ W0)))).mono ?_; rintro e w2 ⟨v2, rfl, hT2, hB2⟩; have hkeep : w2.cell? ⟨w.heap.size + 1, 0, none⟩ = some (.int .i64 (m.body.length : Int)) ∧ w2.cell? ⟨w.heap.size, 4, none⟩ = some (.slice A m.body.length c) := ⟨(hB2.cell (p := ⟨w.heap.size + 1, 0, none⟩) (World.block_lt_of_cell? _ _ n0)).trans n0, (hB2.cell (p := ⟨w.heap.size, 4, none⟩) (World.block_lt_of_cell? _ _ b4)).trans b4⟩)
          | (go_at_call 69; refine (equalT_any m.body _ hb _ _ _ ((HX.out.bd.below (Below.drew (Below.refl _ W0))).below hB2) hT2).mono ?_; rintro e w3 ⟨rfl, hd3⟩; rw [hq]; have hB3 := hB2.trans ((drawn_below hd3).mono hB2.size); have hkeep : w3.cell? ⟨w.heap.size + 1, 0, none⟩ = some (.int .i64 (m.body.length : Int)) ∧ w3.cell? ⟨w.heap.size, 4, none⟩ = some (.slice A m.body.length c) := ⟨(hB3.cell (p := ⟨w.heap.size + 1, 0, none⟩) (World.block_lt_of_cell? _ _ n0)).trans n0, (hB3.cell (p := ⟨w.heap.size, 4, none⟩) (World.block_lt_of_cell? _ _ b4)).trans b4⟩))
      have hB03 := H3.out.trans ((show Below W0.heap.size W0 w3 from ((Below.refl _ W0).drew).trans hB3).mono H3.out.size)
      have HX3 := Lib.hid (HX.out.below (((Below.refl _ W0).drew).trans hB3))
      have HN3 := Lib.hid ((hB3.block _ (Array.getElem?_eq_some_iff.1 HN.out).1).trans HN.out)
      have HB3 := Lib.hid hB03
      go_wp2
      go_ret
      exact ⟨by unfold isBodyL; rw [hq]; simp, HB3.out⟩
    | true =>
      go_region_held_law (fun w' => w'.cell? ⟨w.heap.size + 1, 0, none⟩ = some (.int .i64 (m.body.length : Int)) ∧ w'.cell? ⟨w.heap.size, 4, none⟩ = some (.slice A m.body.length c)) (first | exact hkeep | go_keep)
        (first
          | (go_at_call 56; refine (bare_any m.body hb _ _ (HX.out.bd.below (Below.drew (Below.refl _ W0)))).mono ?_; rintro e w2 ⟨v2, rfl, hT2, hB2⟩; have hkeep : w2.cell? ⟨w.heap.size + 1, 0, none⟩ = some (.int .i64 (m.body.length : Int)) ∧ w2.cell? ⟨w.heap.size, 4, none⟩ = some (.slice A m.body.length c) := ⟨(hB2.cell (p := ⟨w.heap.size + 1, 0, none⟩) (World.block_lt_of_cell? _ _ n0)).trans n0, (hB2.cell (p := ⟨w.heap.size, 4, none⟩) (World.block_lt_of_cell? _ _ b4)).trans b4⟩)
          | (go_at_call 69; refine (equalT_any m.body _ hb _ _ _ ((HX.out.bd.below (Below.drew (Below.refl _ W0))).below hB2) hT2).mono ?_; rintro e w3 ⟨rfl, hd3⟩; rw [hq]; have hB3 := hB2.trans ((drawn_below hd3).mono hB2.size); have hkeep : w3.cell? ⟨w.heap.size + 1, 0, none⟩ = some (.int .i64 (m.body.length : Int)) ∧ w3.cell? ⟨w.heap.size, 4, none⟩ = some (.slice A m.body.length c) := ⟨(hB3.cell (p := ⟨w.heap.size + 1, 0, none⟩) (World.block_lt_of_cell? _ _ n0)).trans n0, (hB3.cell (p := ⟨w.heap.size, 4, none⟩) (World.block_lt_of_cell? _ _ b4)).trans b4⟩))
      have hB03 := H3.out.trans ((show Below W0.heap.size W0 w3 from ((Below.refl _ W0).drew).trans hB3).mono H3.out.size)
      have HX3 := Lib.hid (HX.out.below (((Below.refl _ W0).drew).trans hB3))
      have HN3 := Lib.hid ((hB3.block _ (Array.getElem?_eq_some_iff.1 HN.out).1).trans HN.out)
      have HB3 := Lib.hid hB03
      have HQ := Lib.hid hq
      clear hq
      go_wp2_with (fail)
      refine (spell_any m.body hb hs _ w3 HX3.out.bd).mono ?_
      rintro e w4 ⟨rfl, hB4⟩
      have HX4 := Lib.hid (HX3.out.below hB4)
      have HN4 := Lib.hid ((hB4.block _ (Array.getElem?_eq_some_iff.1 HN3.out).1).trans HN3.out)
      have HB4 := Lib.hid (HB3.out.trans (hB4.mono HB3.out.size))
      clear hB4
      go_wp2_with (fail)
      have hB40 : Below w4.heap.size w4 (w4.alloc (.cells #[.int .i64 1, .string ⟨(spellL m.body).toArray⟩] 42)) := (Below.refl _ w4).alloc (Nat.le_refl _) _
      have hB4w : Below w.heap.size w (w4.alloc (.cells #[.int .i64 1, .string ⟨(spellL m.body).toArray⟩] 42)) := HB4.out.trans (hB40.mono HB4.out.size)
      refine (lex_any w4.heap.size 1 ⟨(spellL m.body).toArray⟩ (by rw [size_mk]; exact hs) 1 _ (World.alloc_heap_new w4 _) (sig_below H1.out hB4w) (max_below H2.out hB4w h25) (by have := hB4w.size; omega)).mono ?_
      rw [blMk]
      rintro e w5 ⟨v5, at5, ys, rfl, hrow, hys, hrest, hB5⟩
      have hB45 : Below w4.heap.size w4 w5 := hB40.trans (hB5.mono (by simp))
      have HX5 := Lib.hid (HX4.out.below hB45)
      have HN5 := Lib.hid ((hB45.block _ (Array.getElem?_eq_some_iff.1 HN4.out).1).trans HN4.out)
      have HB5 := Lib.hid (HB4.out.trans (hB45.mono HB4.out.size))
      have HT5 := Lib.hid hrow.at
      have HY := Lib.hid hys
      have hyn : ys.length ≤ 20000 := by have := lex_count (spellL m.body); rw [hys, List.length_map] at this; exact this
      clear hrow hys hrest hB5 hB45 hB40 hB4w
      obtain ⟨code, hcode⟩ : ∃ code, (Lx.lex (spellL m.body)).1 = code := ⟨_, rfl⟩
      rw [hcode]
      have HC := Lib.hid hcode
      clear hcode
      have b45 : w5.cell? ⟨w.heap.size, 4, none⟩ = some (.slice A m.body.length c) := by simp [World.cell?, HX5.out.box]
      go_wp2
      by_cases hc0 : code = 0
      · subst hc0
        cases hq2 : decide (m.body = bareL ys) with
        | false =>
          go_region_held_law (fun w' => w'.cell? ⟨w.heap.size, 4, none⟩ = some (.slice A m.body.length c)) (first | exact hkeep | go_keep)
            (first
              | (go_at_call 56; refine (bare_any ys (by omega) v5 _ (HT5.out.below (Below.drew (Below.refl _ w5)))).mono ?_; rintro e w6 ⟨v6, rfl, hT6, hB6⟩; have hkeep : w6.cell? ⟨w.heap.size, 4, none⟩ = some (.slice A m.body.length c) := (hB6.cell (p := ⟨w.heap.size, 4, none⟩) (World.block_lt_of_cell? _ _ b45)).trans b45)
              | (go_at_call 69; refine (equalT_any m.body _ hb _ _ _ ((HX5.out.bd.below (Below.drew (Below.refl _ w5))).below hB6) hT6).mono ?_; rintro e w7 ⟨rfl, hd7⟩; rw [hq2]; have hB7 := hB6.trans ((drawn_below hd7).mono hB6.size); have hkeep : w7.cell? ⟨w.heap.size, 4, none⟩ = some (.slice A m.body.length c) := (hB7.cell (p := ⟨w.heap.size, 4, none⟩) (World.block_lt_of_cell? _ _ b45)).trans b45))
          have hB57 : Below w5.heap.size w5 w7 := ((Below.refl _ w5).drew).trans hB7
          have HX7 := Lib.hid (HX5.out.below hB57)
          have HN7 := Lib.hid ((hB57.block _ (Array.getElem?_eq_some_iff.1 HN5.out).1).trans HN5.out)
          have HB7 := Lib.hid (HB5.out.trans (hB57.mono HB5.out.size))
          have hbe : bareL ys = bareLex (spellL m.body) := by unfold bareLex; rw [HY.out, bareL_of]
          go_wp2
          go_ret
          refine ⟨?_, HB7.out⟩
          rw [hbe] at hq2
          unfold isBodyL
          rw [hq2]
          simp
        | true =>
          go_region_held_law (fun w' => w'.cell? ⟨w.heap.size, 4, none⟩ = some (.slice A m.body.length c)) (first | exact hkeep | go_keep)
            (first
              | (go_at_call 56; refine (bare_any ys (by omega) v5 _ (HT5.out.below (Below.drew (Below.refl _ w5)))).mono ?_; rintro e w6 ⟨v6, rfl, hT6, hB6⟩; have hkeep : w6.cell? ⟨w.heap.size, 4, none⟩ = some (.slice A m.body.length c) := (hB6.cell (p := ⟨w.heap.size, 4, none⟩) (World.block_lt_of_cell? _ _ b45)).trans b45)
              | (go_at_call 69; refine (equalT_any m.body _ hb _ _ _ ((HX5.out.bd.below (Below.drew (Below.refl _ w5))).below hB6) hT6).mono ?_; rintro e w7 ⟨rfl, hd7⟩; rw [hq2]; have hB7 := hB6.trans ((drawn_below hd7).mono hB6.size); have hkeep : w7.cell? ⟨w.heap.size, 4, none⟩ = some (.slice A m.body.length c) := (hB7.cell (p := ⟨w.heap.size, 4, none⟩) (World.block_lt_of_cell? _ _ b45)).trans b45))
          have hB57 : Below w5.heap.size w5 w7 := ((Below.refl _ w5).drew).trans hB7
          have HX7 := Lib.hid (HX5.out.below hB57)
          have HN7 := Lib.hid ((hB57.block _ (Array.getElem?_eq_some_iff.1 HN5.out).1).trans HN5.out)
          have HB7 := Lib.hid (HB5.out.trans (hB57.mono HB5.out.size))
          have hbe : bareL ys = bareLex (spellL m.body) := by unfold bareLex; rw [HY.out, bareL_of]
          go_wp2_with (fail)
          go_loopw [48] (fun v48 wr => ∃ (i : Nat), v48 = .int .i64 (i : Int) ∧ i ≤ m.body.length ∧ Hid (∀ j, j < i → goodAt m j = true) ∧ Hid (Below w7.heap.size w7 wr)) (fun v48 _ => match v48 with | .int _ i => m.body.length - i.toNat | _ => 0)
          case atStart => exact ⟨0, rfl, by omega, Lib.hid (by omega), Lib.hid (Below.refl _ _)⟩
          case round =>
            obtain ⟨i, rfl, hi6, HG, HR⟩ := hrel
            by_cases hlt : i < m.body.length
            · have hlt' : decide ((i : Int) < (m.body.length : Int)) = true := by simp; omega
              have HX8 := Lib.hid (HX7.out.below HR.out)
              obtain ⟨A', c', hA', hc', hr'⟩ := HX8.out.bd
              have hC : Kd.C k62 wr A m.body.length m.body := by injection hA' with h1 _ _; rw [h1]; exact hr'
              clear hA' hc' hr'
              obtain ⟨ad, hA, a0, a1, a2, a3, a4, a5⟩ := PMacroWords.at_T62 hC i (by omega) (by omega)
              subst hA
              rw [rdN] at a0 a1 a2 a3 a4 a5
              simp only [Int.toNat_natCast] at a0 a1 a2 a3 a4 a5
              clear hC
              obtain ⟨x, hx⟩ : ∃ x, m.body.getD i z62 = x := ⟨_, rfl⟩
              rw [hx] at a0 a1 a2 a3 a4 a5
              have HXx := Lib.hid hx
              clear hx
              have hgd : ∀ j, m.body.getD i z62 = x → j = i → goodAt m j = (if bl x.f1 == [35, 35] then !(decide (i = 0) || decide (i + 1 = m.body.length)) else if bl x.f1 == [35] then !(m.func && !isParamL m (i + 1)) else if bl x.f1 == restL then m.more else true) := by
                intro j h e; subst e; unfold goodAt; rw [h]
              have HGD := Lib.hid (hgd i HXx.out rfl)
              clear hgd
              have n8 : ∀ o, (wr.alloc o).cell? ⟨w.heap.size + 1, 0, none⟩ = some (.int .i64 (m.body.length : Int)) := fun o => oldC o (by simp [World.cell?, (HR.out.block _ (Array.getElem?_eq_some_iff.1 HN7.out).1).trans HN7.out])
              have b81 : ∀ o, (wr.alloc o).cell? ⟨w.heap.size, 1, none⟩ = some (.bool m.func) := fun o => oldC o (by simp [World.cell?, HX8.out.box])
              have b83 : ∀ o, (wr.alloc o).cell? ⟨w.heap.size, 3, none⟩ = some (.bool m.more) := fun o => oldC o (by simp [World.cell?, HX8.out.box])
              have HBa : ∀ o, Hid (Below w.heap.size w (wr.alloc o)) := fun o => Lib.hid ((HB7.out.trans (HR.out.mono HB7.out.size)).alloc (HB7.out.trans (HR.out.mono HB7.out.size)).size o)
              have HRa : ∀ o, Hid (Below w7.heap.size w7 (wr.alloc o)) := fun o => Lib.hid (HR.out.alloc HR.out.size o)
              clear hq2
              by_cases s1 : x.f1.toList = [35, 35]
              · have s1' : (x.f1.toList == [35, 35]) = true := by rw [s1]; rfl
                have hg1 : goodAt m i = !(decide (i = 0) || decide (i + 1 = m.body.length)) := by rw [HGD.out, if_pos (by rw [← toList_bl]; exact s1')]
                have HG1 := Lib.hid hg1
                clear hg1 s1
                by_cases h0 : i = 0
                · have h0' : ((i : Int) == 0) = true := by rw [h0]; rfl
                  have hbad := isBodyL_bad hlt (by rw [HG1.out, decide_eq_true h0]; rfl)
                  have HBAD := Lib.hid hbad
                  clear h0 hbad
                  go_wp2
                  go_ret
                  exact ⟨by rw [HBAD.out]; rfl, (HBa _).out⟩
                · have h0' : ((i : Int) == 0) = false := by rw [beq_eq_false_iff_ne]; omega
                  by_cases h9 : i + 1 = m.body.length
                  · have h9' : ((i : Int) == (m.body.length : Int) - 1) = true := by rw [beq_iff_eq]; omega
                    have hbad := isBodyL_bad hlt (by rw [HG1.out, decide_eq_true h9, Bool.or_true]; rfl)
                    have HBAD := Lib.hid hbad
                    have H0 := Lib.hid h0
                    have H9 := Lib.hid h9
                    clear h0 hbad h9
                    go_wp2
                    go_ret
                    exact ⟨by rw [HBAD.out]; rfl, (HBa _).out⟩
                  · have h9' : ((i : Int) == (m.body.length : Int) - 1) = false := by rw [beq_eq_false_iff_ne]; omega
                    have hok : goodAt m i = true := by rw [HG1.out, decide_eq_false h0, decide_eq_false h9]; rfl
                    have HOK := Lib.hid hok
                    have H0 := Lib.hid h0
                    have H9 := Lib.hid h9
                    clear h0 hok h9
                    go_wp2
                    go_roundw
                    case rel => exact ⟨i + 1, rfl, hlt, Lib.hid (upto_succ HG.out HOK.out), HRa _⟩
                    case measure => simp only []; omega
              · have s1' : (x.f1.toList == [35, 35]) = false := by rw [beq_eq_false_iff_ne]; exact s1
                have hg1 : goodAt m i = if bl x.f1 == [35] then !(m.func && !isParamL m (i + 1)) else if bl x.f1 == restL then m.more else true := by rw [HGD.out, if_neg (by rw [← toList_bl, s1']; simp)]
                have HG1 := Lib.hid hg1
                have HS1 := Lib.hid s1
                clear hg1 s1
                by_cases s2 : x.f1.toList = [35]
                · have s2' : (x.f1.toList == [35]) = true := by rw [s2]; rfl
                  have hg2 : goodAt m i = !(m.func && !isParamL m (i + 1)) := by rw [HG1.out, if_pos (by rw [← toList_bl]; exact s2')]
                  have HG2 := Lib.hid hg2
                  clear hg2 s2
                  cases hf : m.func with
                  | false =>
                    have hok : goodAt m i = true := by rw [HG2.out, hf]; rfl
                    have HOK := Lib.hid hok
                    rw [hf] at b81
                    have HF := Lib.hid hf
                    clear hok hf
                    go_wp2
                    go_roundw
                    case rel => exact ⟨i + 1, rfl, hlt, Lib.hid (upto_succ HG.out HOK.out), HRa _⟩
                    case measure => simp only []; omega
                  | true =>
                    rw [hf] at b81
                    have hgp : goodAt m i = isParamL m (i + 1) := by rw [HG2.out, hf]; simp
                    have HGP := Lib.hid hgp
                    have HF := Lib.hid hf
                    clear hgp hf
                    go_wp2_with (fail)
                    refine (isParam_any' m w.heap.size (w.heap.size + 1) vp _ (i + 1) _ _ (HX8.out.below ((Below.refl _ wr).alloc (Nat.le_refl _) _)) (n8 _) hp hb (by push_cast; rfl)).mono ?_
                    rintro e w9 ⟨rfl, hd9⟩
                    have HB9 := Lib.hid ((HBa _).out.trans ((drawn_below hd9).mono (HBa _).out.size))
                    have HR9 := Lib.hid ((HRa _).out.trans ((drawn_below hd9).mono (HRa _).out.size))
                    clear hd9
                    cases hpp : isParamL m (i + 1) with
                    | false =>
                      have hbad := isBodyL_bad hlt (by rw [HGP.out, hpp])
                      have HBAD := Lib.hid hbad
                      clear hbad hpp
                      go_wp2
                      go_ret
                      exact ⟨by rw [HBAD.out]; rfl, HB9.out⟩
                    | true =>
                      have hok : goodAt m i = true := by rw [HGP.out, hpp]
                      have HOK := Lib.hid hok
                      clear hok hpp
                      go_wp2
                      go_roundw
                      case rel => exact ⟨i + 1, rfl, hlt, Lib.hid (upto_succ HG.out HOK.out), HR9⟩
                      case measure => simp only []; omega
                · have s2' : (x.f1.toList == [35]) = false := by rw [beq_eq_false_iff_ne]; exact s2
                  have hg2 : goodAt m i = if bl x.f1 == restL then m.more else true := by rw [HG1.out, if_neg (by rw [← toList_bl, s2']; simp)]
                  have HG2 := Lib.hid hg2
                  have HS2 := Lib.hid s2
                  clear hg2 s2
                  by_cases s3 : x.f1.toList = [95, 95, 86, 65, 95, 65, 82, 71, 83, 95, 95]
                  · have s3' : (x.f1.toList == [95, 95, 86, 65, 95, 65, 82, 71, 83, 95, 95]) = true := by rw [s3]; rfl
                    have hg3 : goodAt m i = m.more := by rw [HG2.out, if_pos (by rw [← toList_bl]; exact s3')]
                    have HG3 := Lib.hid hg3
                    clear hg3 s3
                    cases hf : m.more with
                    | false =>
                      rw [hf] at b83
                      have hbad := isBodyL_bad hlt (by rw [HG3.out, hf])
                      have HBAD := Lib.hid hbad
                      clear hbad hf
                      go_wp2
                      go_ret
                      exact ⟨by rw [HBAD.out]; rfl, (HBa _).out⟩
                    | true =>
                      rw [hf] at b83
                      have hok : goodAt m i = true := by rw [HG3.out, hf]
                      have HOK := Lib.hid hok
                      clear hok hf
                      go_wp2
                      go_roundw
                      case rel => exact ⟨i + 1, rfl, hlt, Lib.hid (upto_succ HG.out HOK.out), HRa _⟩
                      case measure => simp only []; omega
                  · have s3' : (x.f1.toList == [95, 95, 86, 65, 95, 65, 82, 71, 83, 95, 95]) = false := by rw [beq_eq_false_iff_ne]; exact s3
                    have hok : goodAt m i = true := by rw [HG2.out, if_neg (by rw [← toList_bl]; show ¬ (x.f1.toList == [95, 95, 86, 65, 95, 65, 82, 71, 83, 95, 95]) = true; rw [s3']; simp)]
                    have HOK := Lib.hid hok
                    have HS3 := Lib.hid s3
                    clear hok s3
                    go_wp2
                    go_roundw
                    case rel => exact ⟨i + 1, rfl, hlt, Lib.hid (upto_succ HG.out HOK.out), HRa _⟩
                    case measure => simp only []; omega
            · have hlt' : decide ((i : Int) < (m.body.length : Int)) = false := by simp; omega
              have hi7 : i = m.body.length := by omega
              have hgood : isBodyL m = true := by
                rw [hbe] at hq2
                unfold isBodyL
                rw [HQ.out, HC.out, hq2, decide_eq_true h500]
                simp only [Bool.true_and, beq_self_eq_true, Bool.and_true]
                rw [List.all_eq_true]
                intro j hj
                exact HG.out j (by rw [List.mem_range] at hj; omega)
              have HGOOD := Lib.hid hgood
              clear hgood hi7 hq2
              go_wp2
              go_ret
              exact ⟨by rw [HGOOD.out]; rfl, HB7.out.trans (HR.out.mono HB7.out.size)⟩
      · have hc1 : (code == 0) = false := by simpa using hc0
        have hc2 : (code != 0) = true := by simpa using hc0
        have HC0 := Lib.hid hc0
        clear hc0
        go_quiet (fail)
        go_wp2
        go_ret
        refine ⟨?_, HB5.out.trans ⟨rfl, rfl, rfl, Nat.le_refl _, fun _ _ => rfl⟩⟩
        unfold isBodyL
        rw [HC.out, hc1]
        simp
  · have h500' : decide ((m.body.length : Int) > 500) = true := by simp; omega
    have h500'' : decide ((500 : Int) < (m.body.length : Int)) = true := by simp; omega
    go_quiet (fail)
    go_wp2
    go_ret
    exact ⟨by unfold isBodyL; rw [decide_eq_false h500]; rfl, H3.out.trans ⟨rfl, rfl, rfl, Nat.le_refl _, fun _ _ => rfl⟩⟩
end Go.Proofs.YthifdcakhdckfaaDoor

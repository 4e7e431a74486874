/-
  Walk: the reference's body, the test of a macro's body.
-/
import Derived.Deep.RegionHeldLaw
import Derived.IntWalk
import Derived.Test.YthifdcakhdckfaaDoorPrmL
import Derived.Test.YthifdcakhdckfaaDoorRight
namespace Go.Proofs.YthifdcakhdckfaaDoor
open Go.RowKit Go.Proofs.YthifdcakhdckfaaDoorW.PrintWords
open PMacroWords (S62 k62 z62 rd_T62 k62_mk)
set_option linter.unusedVariables false
set_option linter.unusedSimpArgs false

theorem refParam_any' (m : MacV) (f : Bool) (t : S62) (vp vb : Value) (w : World) (h1 : StrAt w vp m.params) (h2 : TokAt w vb m.body) (hn : m.params.length < 4294967296) :
    Calls Tryd.prog 124 #[.agg #[.string m.name, .bool f, vp, .bool m.more, vb], .agg #[.int .i64 t.f0, .string t.f1, .string t.f2, .int .i64 t.f3, .bool t.f4, .bool t.f5]] w fun e w' => (∃ r : Int, e = .returned (.int .i64 r) ∧ decide (r < 0) = !refParamB m t) ∧ Below w.heap.size w w' :=
  refParam_any ⟨m.name, f, m.params, m.more, m.body⟩ t vp vb w h1 h2 hn
theorem bool_or (b : Bool) : b = false ∨ b = true := by cases b <;> simp
theorem refBody_bad {m : MacV} {i : Nat} (hi : i < m.body.length) (h : refGoodAt m i = false) : refBodyL m = false := by
  unfold refBodyL
  have : (List.range m.body.length).all (refGoodAt m) = false := by
    rw [List.all_eq_false]
    exact ⟨i, List.mem_range.2 hi, by rw [h]; simp⟩
  rw [this]
  simp
theorem tok_cells {W : World} {A : Option Addr} {xs : List S62} (h : Kd.C k62 W A xs.length xs) {i : Nat} (hi : i < xs.length) : ∃ ad x, A = some ad ∧ xs.getD i z62 = x ∧ W.cell? (ad.add (i * 6)) = some (.int .i64 x.f0) ∧ W.cell? ⟨(ad.add (i * 6)).block, (ad.add (i * 6)).off + 1, none⟩ = some (.string x.f1) ∧ W.cell? ⟨(ad.add (i * 6)).block, (ad.add (i * 6)).off + 2, none⟩ = some (.string x.f2) ∧ W.cell? ⟨(ad.add (i * 6)).block, (ad.add (i * 6)).off + 3, none⟩ = some (.int .i64 x.f3) ∧ W.cell? ⟨(ad.add (i * 6)).block, (ad.add (i * 6)).off + 4, none⟩ = some (.bool x.f4) ∧ W.cell? ⟨(ad.add (i * 6)).block, (ad.add (i * 6)).off + 5, none⟩ = some (.bool x.f5) := by
  obtain ⟨ad, hA, a0, a1, a2, a3, a4, a5⟩ := PMacroWords.at_T62 h i (by omega) (by omega)
  rw [rdN] at a0 a1 a2 a3 a4 a5
  simp only [Int.toNat_natCast] at a0 a1 a2 a3 a4 a5
  exact ⟨ad, _, hA, rfl, a0, a1, a2, a3, a4, a5⟩
set_option maxRecDepth 100000 in
set_option maxHeartbeats 4000000 in
theorem refBody_any (m : MacV) (hm : MacFits m) (vp vb : Value) (w : World) (h1 : StrAt w vp m.params) (h2 : TokAt w vb m.body) :
    Calls Tryd.prog 67 #[.agg #[.string m.name, .bool m.func, vp, .bool m.more, vb]] w fun e w' => e = .returned (.bool (refBodyL m)) ∧ Below w.heap.size w w' := by
  obtain ⟨hnm, hnp, hnb, hsp, hps⟩ := hm
  obtain ⟨A, c, rfl, hc, hr⟩ := h2
  have h2 : TokAt w (.slice A m.body.length c) m.body := ⟨A, c, rfl, hc, hr⟩
  clear hr
  go_enter Tryd.func67, Tryd.ntmps67
  by_cases h500 : m.body.length ≤ 500
  · have h500' : decide ((500 : Int) < (m.body.length : Int)) = false := by simp; omega
    have h500'' : decide ((m.body.length : Int) > 500) = false := by simp; omega
    go_wp2_with (fail)
    obtain ⟨W0, hW0⟩ : ∃ W0, w.alloc (.cells #[.string m.name, .bool m.func, vp, .bool m.more, .slice A m.body.length c] 46) = W0 := ⟨_, rfl⟩
    have hB0 : Below w.heap.size w W0 := by rw [← hW0]; exact (Below.refl _ w).alloc (Nat.le_refl _) _
    have hbox : MacBox W0 w.heap.size m vp (.slice A m.body.length c) := by
      refine ⟨?_, h1.below hB0, h2.below hB0⟩
      rw [← hW0]; exact World.alloc_heap_new w _
    rw [hW0]
    have HX := Lib.hid hbox
    have HB := Lib.hid hB0
    have H500 := Lib.hid h500
    clear hW0 hbox hB0 h1 h2 h500
    refine (spelt_any m.body hnb hsp _ W0 HX.out.bd).mono ?_
    rintro e w1 ⟨rfl, hB1⟩
    have HX1 := Lib.hid (HX.out.below hB1)
    have HB1 := Lib.hid (HB.out.trans (hB1.mono HB.out.size))
    clear hB1 HX HB
    cases hsp2 : speltL m.body with
    | false =>
      have HR := Lib.hid (show refBodyL m = false by unfold refBodyL; rw [hsp2]; simp)
      clear hsp2
      go_wp2
      go_ret
      exact ⟨by rw [HR.out]; rfl, HB1.out⟩
    | true =>
      have HSP := Lib.hid hsp2
      clear hsp2
      by_cases h0 : m.body.length = 0
      · have h0' : ¬ 0 < m.body.length := by omega
        have h0'' : decide (0 < m.body.length) = false := decide_eq_false h0'
        have HENDS := Lib.hid (show refEnds m = false by unfold refEnds; rw [h0'']; rfl)
        clear h0
        go_wp2_with (fail)
        go_loopw [5] (fun v5 wr => ∃ (i : Nat), v5 = .int .i64 (i : Int) ∧ i ≤ m.body.length ∧ Hid (∀ j, j < i → refGoodAt m j = true) ∧ Hid (Below w1.heap.size w1 wr)) (fun v5 _ => match v5 with | .int _ i => m.body.length - i.toNat | _ => 0)
        case atStart => exact ⟨0, rfl, by omega, Lib.hid (by omega), Lib.hid (Below.refl _ _)⟩
        case round =>
          obtain ⟨i, rfl, hi6, HG, HR⟩ := hrel
          by_cases hlt : i < m.body.length
          · exact absurd hlt (by omega)
          · have hlt' : decide ((i : Int) < (m.body.length : Int)) = false := by simp; omega
            have hgood : refBodyL m = true := by
              unfold refBodyL
              rw [HSP.out, decide_eq_true H500.out, HENDS.out]
              simp only [Bool.true_and, Bool.not_false]
              rw [List.all_eq_true]
              intro j hj
              exact HG.out j (by rw [List.mem_range] at hj; omega)
            have HGOOD := Lib.hid hgood
            clear hgood
            go_wp2
            go_ret
            exact ⟨by rw [HGOOD.out]; rfl, HB1.out.trans (HR.out.mono HB1.out.size)⟩
      · obtain ⟨ad0, x0, hA0, hx0, p0, p1, p2, p3, p4, p5⟩ := tok_cells (i := 0) (show Kd.C k62 w1 A m.body.length m.body by obtain ⟨A', c', hA', hc', hr'⟩ := HX1.out.bd; injection hA' with e1 _ _; rw [e1]; exact hr') (by omega)
        obtain ⟨ad9, x9, hA9, hx9, q0, q1, q2, q3, q4, q5⟩ := tok_cells (i := m.body.length - 1) (show Kd.C k62 w1 A m.body.length m.body by obtain ⟨A', c', hA', hc', hr'⟩ := HX1.out.bd; injection hA' with e1 _ _; rw [e1]; exact hr') (by omega)
        obtain rfl : ad0 = ad9 := by rw [hA0] at hA9; injection hA9
        subst hA0
        have h0' : 0 < m.body.length := by omega
        have h0'' : decide (0 < m.body.length) = true := decide_eq_true h0'
        have HX0 := Lib.hid hx0
        have HX9 := Lib.hid hx9
        have r0 : w1.cell? ad0 = some (.int .i64 x0.f0) := by simpa [Addr.add] using p0
        have r1 : w1.cell? ⟨ad0.block, ad0.off + 1, none⟩ = some (.string x0.f1) := by simpa [Addr.add] using p1
        clear hx0 hx9 p0 p1 p2 p3 p4 p5 q2 q3 q4 q5 h0 hA9
        by_cases s0 : x0.f1.toList = [35, 35]
        · have s0' : (x0.f1.toList == [35, 35]) = true := by rw [s0]; rfl
          have HR := Lib.hid (show refBodyL m = false by unfold refBodyL refEnds; rw [HX0.out, ← toList_bl, s0, decide_eq_true h0']; simp)
          clear s0
          go_wp2
          go_ret
          exact ⟨by rw [HR.out]; rfl, HB1.out⟩
        · have s0' : (x0.f1.toList == [35, 35]) = false := by rw [beq_eq_false_iff_ne]; exact s0
          have HS0 := Lib.hid s0
          clear s0
          by_cases s9 : x9.f1.toList = [35, 35]
          · have s9' : (x9.f1.toList == [35, 35]) = true := by rw [s9]; rfl
            have HR := Lib.hid (show refBodyL m = false by unfold refBodyL refEnds; rw [HX9.out, ← toList_bl (s := x9.f1), s9, decide_eq_true h0']; simp)
            clear s9
            go_wp2
            go_ret
            exact ⟨by rw [HR.out]; rfl, HB1.out⟩
          · have s9' : (x9.f1.toList == [35, 35]) = false := by rw [beq_eq_false_iff_ne]; exact s9
            have HENDS := Lib.hid (show refEnds m = false by unfold refEnds; rw [HX0.out, HX9.out, ← toList_bl, ← toList_bl, s0', s9']; simp)
            clear s9
            go_wp2_with (fail)
            go_loopw [5] (fun v5 wr => ∃ (i : Nat), v5 = .int .i64 (i : Int) ∧ i ≤ m.body.length ∧ Hid (∀ j, j < i → refGoodAt m j = true) ∧ Hid (Below w1.heap.size w1 wr)) (fun v5 _ => match v5 with | .int _ i => m.body.length - i.toNat | _ => 0)
            case atStart => exact ⟨0, rfl, by omega, Lib.hid (by omega), Lib.hid (Below.refl _ _)⟩
            case round =>
              obtain ⟨i, rfl, hi6, HG, HR⟩ := hrel
              by_cases hlt : i < m.body.length
              · have hlt' : decide ((i : Int) < (m.body.length : Int)) = true := by simp; omega
                have HX8 := Lib.hid (HX1.out.below HR.out)
                obtain ⟨A', c', hA', hc', hr'⟩ := HX8.out.bd
                have hC : Kd.C k62 wr (some ad0) m.body.length m.body := by injection hA' with h1 _ _; rw [h1]; exact hr'
                clear hA' hc' hr'
                have b4 : wr.cell? ⟨w.heap.size, 4, none⟩ = some (.slice (some ad0) m.body.length c) := by simp [World.cell?, HX8.out.box]
                obtain ⟨ad, x, hA, hx, a0, a1, a2, a3, a4, a5⟩ := tok_cells hC hlt
                cases hA
                have HC8 := Lib.hid hC
                have HXx := Lib.hid hx
                have hgd : refGoodAt m i = (!(bl x.f1 == restL && !m.more) && !(m.func && (bl x.f1 == [35] && (decide (i + 1 = m.body.length) || !refParamB m (m.body.getD (i + 1) z62))))) := by unfold refGoodAt; rw [hx]
                have HGD := Lib.hid hgd
                clear hC hx hgd a2 a3 a4 a5
                have b0 : wr.cell? ⟨w.heap.size, 0, none⟩ = some (.string m.name) := by simp [World.cell?, HX8.out.box]
                have b1 : wr.cell? ⟨w.heap.size, 1, none⟩ = some (.bool m.func) := by simp [World.cell?, HX8.out.box]
                have b2 : wr.cell? ⟨w.heap.size, 2, none⟩ = some vp := by simp [World.cell?, HX8.out.box]
                have b3 : wr.cell? ⟨w.heap.size, 3, none⟩ = some (.bool m.more) := by simp [World.cell?, HX8.out.box]
                have HBw : Hid (Below w.heap.size w wr) := Lib.hid (HB1.out.trans (HR.out.mono HB1.out.size))
                by_cases s3 : x.f1.toList = [95, 95, 86, 65, 95, 65, 82, 71, 83, 95, 95]
                · have s3' : (x.f1.toList == [95, 95, 86, 65, 95, 65, 82, 71, 83, 95, 95]) = true := by rw [s3]; rfl
                  have s2' : (x.f1.toList == [35]) = false := by rw [s3]; rfl
                  have hb3 : bl x.f1 = restL := by rw [← toList_bl, s3]; rfl
                  rcases bool_or m.more with hmo | hmo
                  · rw [hmo] at b3
                    have HBAD := Lib.hid (refBody_bad hlt (by rw [HGD.out, hmo, hb3]; rfl))
                    clear hmo hb3 s3
                    go_wp2
                    go_ret
                    exact ⟨by rw [HBAD.out]; rfl, HBw.out⟩
                  · rw [hmo] at b3
                    have hok : refGoodAt m i = true := by rw [HGD.out, hmo, hb3]; cases m.func <;> rfl
                    have HOK := Lib.hid hok
                    clear hmo hb3 s3 hok
                    go_wp2
                    rcases bool_or m.func with hf | hf
                    · rw [hf] at b1
                      have HF := Lib.hid hf
                      clear hf
                      go_quiet (fail)
                      go_wp2
                      go_roundw
                      case rel => exact ⟨i + 1, rfl, hlt, Lib.hid (upto_succ HG.out HOK.out), Lib.hid (HR.out.trans ⟨rfl, rfl, rfl, Nat.le_refl _, fun _ _ => rfl⟩)⟩
                      case measure => simp only []; omega
                    · rw [hf] at b1
                      have HF := Lib.hid hf
                      clear hf
                      go_quiet (fail)
                      go_wp2
                      go_roundw
                      case rel => exact ⟨i + 1, rfl, hlt, Lib.hid (upto_succ HG.out HOK.out), Lib.hid (HR.out.trans ⟨rfl, rfl, rfl, Nat.le_refl _, fun _ _ => rfl⟩)⟩
                      case measure => simp only []; omega
                · have s3' : (x.f1.toList == [95, 95, 86, 65, 95, 65, 82, 71, 83, 95, 95]) = false := by rw [beq_eq_false_iff_ne]; exact s3
                  have hg3 : refGoodAt m i = !(m.func && (bl x.f1 == [35] && (decide (i + 1 = m.body.length) || !refParamB m (m.body.getD (i + 1) z62)))) := by
                    rw [HGD.out]
                    have : (bl x.f1 == restL) = false := by rw [beq_eq_false_iff_ne, ← toList_bl]; exact s3
                    rw [this]; rfl
                  have HG3 := Lib.hid hg3
                  clear s3 hg3
                  go_wp2
                  rcases bool_or m.func with hf | hf
                  · rw [hf] at b1
                    have hok : refGoodAt m i = true := by rw [HG3.out, hf]; rfl
                    have HOK := Lib.hid hok
                    clear hf hok
                    go_quiet (fail)
                    go_wp2
                    go_roundw
                    case rel => exact ⟨i + 1, rfl, hlt, Lib.hid (upto_succ HG.out HOK.out), Lib.hid (HR.out.trans ⟨rfl, rfl, rfl, Nat.le_refl _, fun _ _ => rfl⟩)⟩
                    case measure => simp only []; omega
                  · rw [hf] at b1
                    have hg4 : refGoodAt m i = !(bl x.f1 == [35] && (decide (i + 1 = m.body.length) || !refParamB m (m.body.getD (i + 1) z62))) := by rw [HG3.out, hf]; rfl
                    have HG4 := Lib.hid hg4
                    have HF := Lib.hid hf
                    clear hg4 hf
                    by_cases s2 : x.f1.toList = [35]
                    · have s2' : (x.f1.toList == [35]) = true := by rw [s2]; rfl
                      have hg5 : refGoodAt m i = !(decide (i + 1 = m.body.length) || !refParamB m (m.body.getD (i + 1) z62)) := by rw [HG4.out, ← toList_bl, s2']; rfl
                      have HG5 := Lib.hid hg5
                      clear hg5 s2
                      by_cases h9 : i + 1 = m.body.length
                      · have h9' : ((i : Int) + 1 == (m.body.length : Int)) = true := by rw [beq_iff_eq]; omega
                        have h9w : IntKind.i64.wrap ((i : Int) + 1) = (i : Int) + 1 := IntWalk.i64_in _ (by omega)
                        have HBAD := Lib.hid (refBody_bad hlt (by rw [HG5.out, decide_eq_true h9]; rfl))
                        clear h9
                        go_quiet (fail)
                        go_wp2
                        go_ret
                        exact ⟨by rw [HBAD.out]; rfl, HBw.out.trans ⟨rfl, rfl, rfl, Nat.le_refl _, fun _ _ => rfl⟩⟩
                      · have h9' : ((i : Int) + 1 == (m.body.length : Int)) = false := by rw [beq_eq_false_iff_ne]; omega
                        have hg6 : refGoodAt m i = refParamB m (m.body.getD (i + 1) z62) := by rw [HG5.out, decide_eq_false h9]; simp
                        have HG6 := Lib.hid hg6
                        have hlt2 : (i : Int) + 1 < (m.body.length : Int) := by omega
                        obtain ⟨ad2, y, hA2, hy, y0, y1, y2, y3, y4, y5⟩ := tok_cells (i := i + 1) HC8.out (by omega)
                        cases hA2
                        have HY := Lib.hid hy
                        clear hg6 h9 hy
                        have h9w : IntKind.i64.wrap ((i : Int) + 1) = (i : Int) + 1 := IntWalk.i64_in _ (by omega)
                        have h9n : (0 : Int) ≤ (i : Int) + 1 := by omega
                        have h9t : ((i : Int) + 1).toNat = i + 1 := by omega
                        have kp : ∀ (w2 : World), Below wr.drew.heap.size wr.drew w2 → (w2.cell? ⟨w.heap.size, 0, none⟩ = some (.string m.name) ∧ w2.cell? ⟨w.heap.size, 1, none⟩ = some (.bool true) ∧ w2.cell? ⟨w.heap.size, 2, none⟩ = some vp ∧ w2.cell? ⟨w.heap.size, 3, none⟩ = some (.bool m.more) ∧ w2.cell? ⟨w.heap.size, 4, none⟩ = some (.slice (some ad0) m.body.length c) ∧ w2.cell? (ad0.add (i * 6)) = some (.int .i64 x.f0) ∧ w2.cell? ⟨(ad0.add (i * 6)).block, (ad0.add (i * 6)).off + 1, none⟩ = some (.string x.f1) ∧ w2.cell? (ad0.add ((i + 1) * 6)) = some (.int .i64 y.f0) ∧ w2.cell? ⟨(ad0.add ((i + 1) * 6)).block, (ad0.add ((i + 1) * 6)).off + 1, none⟩ = some (.string y.f1) ∧ w2.cell? ⟨(ad0.add ((i + 1) * 6)).block, (ad0.add ((i + 1) * 6)).off + 2, none⟩ = some (.string y.f2) ∧ w2.cell? ⟨(ad0.add ((i + 1) * 6)).block, (ad0.add ((i + 1) * 6)).off + 3, none⟩ = some (.int .i64 y.f3) ∧ w2.cell? ⟨(ad0.add ((i + 1) * 6)).block, (ad0.add ((i + 1) * 6)).off + 4, none⟩ = some (.bool y.f4) ∧ w2.cell? ⟨(ad0.add ((i + 1) * 6)).block, (ad0.add ((i + 1) * 6)).off + 5, none⟩ = some (.bool y.f5)) := fun w2 hB => ⟨(hB.cell (World.block_lt_of_cell? _ _ b0)).trans b0, (hB.cell (World.block_lt_of_cell? _ _ b1)).trans b1, (hB.cell (World.block_lt_of_cell? _ _ b2)).trans b2, (hB.cell (World.block_lt_of_cell? _ _ b3)).trans b3, (hB.cell (World.block_lt_of_cell? _ _ b4)).trans b4, (hB.cell (World.block_lt_of_cell? _ _ a0)).trans a0, (hB.cell (World.block_lt_of_cell? _ _ a1)).trans a1, (hB.cell (World.block_lt_of_cell? _ _ y0)).trans y0, (hB.cell (World.block_lt_of_cell? _ _ y1)).trans y1, (hB.cell (World.block_lt_of_cell? _ _ y2)).trans y2, (hB.cell (World.block_lt_of_cell? _ _ y3)).trans y3, (hB.cell (World.block_lt_of_cell? _ _ y4)).trans y4, (hB.cell (World.block_lt_of_cell? _ _ y5)).trans y5⟩
                        have KP := Lib.hid kp
                        have HPw := Lib.hid (HX8.out.ps.below (Below.drew (Below.refl _ wr)))
                        have HTw := Lib.hid (HX8.out.bd.below (Below.drew (Below.refl _ wr)))
                        clear kp
                        go_region_held_law (fun w' => w'.cell? ⟨w.heap.size, 0, none⟩ = some (.string m.name) ∧ w'.cell? ⟨w.heap.size, 1, none⟩ = some (.bool true) ∧ w'.cell? ⟨w.heap.size, 2, none⟩ = some vp ∧ w'.cell? ⟨w.heap.size, 3, none⟩ = some (.bool m.more) ∧ w'.cell? ⟨w.heap.size, 4, none⟩ = some (.slice (some ad0) m.body.length c) ∧ w'.cell? (ad0.add (i * 6)) = some (.int .i64 x.f0) ∧ w'.cell? ⟨(ad0.add (i * 6)).block, (ad0.add (i * 6)).off + 1, none⟩ = some (.string x.f1) ∧ w'.cell? (ad0.add ((i + 1) * 6)) = some (.int .i64 y.f0) ∧ w'.cell? ⟨(ad0.add ((i + 1) * 6)).block, (ad0.add ((i + 1) * 6)).off + 1, none⟩ = some (.string y.f1) ∧ w'.cell? ⟨(ad0.add ((i + 1) * 6)).block, (ad0.add ((i + 1) * 6)).off + 2, none⟩ = some (.string y.f2) ∧ w'.cell? ⟨(ad0.add ((i + 1) * 6)).block, (ad0.add ((i + 1) * 6)).off + 3, none⟩ = some (.int .i64 y.f3) ∧ w'.cell? ⟨(ad0.add ((i + 1) * 6)).block, (ad0.add ((i + 1) * 6)).off + 4, none⟩ = some (.bool y.f4) ∧ w'.cell? ⟨(ad0.add ((i + 1) * 6)).block, (ad0.add ((i + 1) * 6)).off + 5, none⟩ = some (.bool y.f5)) (first | exact hkeep | go_keep)
                          (first | (go_at_call 124; refine (refParam_any' m true y vp _ _ HPw.out HTw.out hnp).mono ?_; rintro e w9 ⟨⟨r, rfl, hr⟩, hB9⟩; have hkeep := KP.out w9 hB9; have HB9 := Lib.hid hB9; have HRR := Lib.hid hr; clear hB9 hr))
                        have HBf := Lib.hid (HBw.out.trans ((show Below wr.heap.size wr w9 from ((Below.refl _ wr).drew).trans HB9.out).mono HBw.out.size))
                        have HRf := Lib.hid (HR.out.trans ((show Below wr.heap.size wr w9 from ((Below.refl _ wr).drew).trans HB9.out).mono HR.out.size))
                        rcases bool_or (refParamB m y) with hq | hq
                        · have hr0 : decide (r < 0) = true := by rw [HRR.out, hq]; rfl
                          have hr1 : r < 0 := by simpa using hr0
                          have HBAD := Lib.hid (refBody_bad hlt (by rw [HG6.out, HY.out, hq]))
                          clear hq
                          go_wp2
                          go_ret
                          exact ⟨by rw [HBAD.out]; rfl, HBf.out⟩
                        · have hr0 : decide (r < 0) = false := by rw [HRR.out, hq]; rfl
                          have hr1 : ¬ r < 0 := by simpa using hr0
                          have hok : refGoodAt m i = true := by rw [HG6.out, HY.out, hq]
                          have HOK := Lib.hid hok
                          clear hq hok
                          go_wp2
                          go_roundw
                          case rel => exact ⟨i + 1, rfl, hlt, Lib.hid (upto_succ HG.out HOK.out), HRf⟩
                          case measure => simp only []; omega
                    · have s2' : (x.f1.toList == [35]) = false := by rw [beq_eq_false_iff_ne]; exact s2
                      have hok : refGoodAt m i = true := by rw [HG4.out, ← toList_bl, s2']; rfl
                      have HOK := Lib.hid hok
                      clear s2 hok
                      go_quiet (fail)
                      go_wp2
                      go_roundw
                      case rel => exact ⟨i + 1, rfl, hlt, Lib.hid (upto_succ HG.out HOK.out), Lib.hid (HR.out.trans ⟨rfl, rfl, rfl, Nat.le_refl _, fun _ _ => rfl⟩)⟩
                      case measure => simp only []; omega
              · have hlt' : decide ((i : Int) < (m.body.length : Int)) = false := by simp; omega
                have hgood : refBodyL m = true := by
                  unfold refBodyL
                  rw [HSP.out, decide_eq_true H500.out, HENDS.out]
                  simp only [Bool.true_and, Bool.not_false]
                  rw [List.all_eq_true]
                  intro j hj
                  exact HG.out j (by rw [List.mem_range] at hj; omega)
                have HGOOD := Lib.hid hgood
                clear hgood
                go_wp2
                go_ret
                exact ⟨by rw [HGOOD.out]; rfl, HB1.out.trans (HR.out.mono HB1.out.size)⟩
  · have h500' : decide ((500 : Int) < (m.body.length : Int)) = true := by simp; omega
    have h500'' : decide ((m.body.length : Int) > 500) = true := by simp; omega
    have HR := Lib.hid (show refBodyL m = false by unfold refBodyL; rw [decide_eq_false h500]; rfl)
    clear h500
    go_wp2
    go_ret
    exact ⟨by rw [HR.out]; rfl, (Below.refl _ w).alloc (Nat.le_refl _) _⟩
end Go.Proofs.YthifdcakhdckfaaDoor

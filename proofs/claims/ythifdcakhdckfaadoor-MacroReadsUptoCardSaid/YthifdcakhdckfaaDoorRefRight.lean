/-
  Walk: the reference's Right.
-/
import Derived.Test.YthifdcakhdckfaaDoorRefBody
namespace Go.Proofs.YthifdcakhdckfaaDoor
open Go.RowKit Go.Proofs.YthifdcakhdckfaaDoorW.PrintWords
open PMacroWords (S62 k62 z62 rd_T62 k62_mk)
set_option linter.unusedVariables false
set_option linter.unusedSimpArgs false

theorem refRight_bad_par {m : MacV} {i : Nat} (hi : i < m.params.length) (h : parAt m.params i = false) : refRightL m = false := by
  rw [← right_same]; exact right_bad_par hi h
theorem str_cells {W : World} {A : Option Addr} {n c : Nat} {ps : List ByteArray} (h : StrAt W (.slice A n c) ps) (hn : 0 < ps.length) : ∃ ad, A = some ad ∧ ∀ j, j < ps.length → W.cell? (ad.add j) = some (.string (ps.getD j ⟨#[]⟩)) := by
  obtain ⟨A', c', hA', hc', hr'⟩ := h
  injection hA' with h1 _ _
  subst h1
  obtain ⟨ad, hA, hcell⟩ := StrAt.cells hr' hn
  exact ⟨ad, hA, fun j hj => hcell j _ (by rw [List.getD_eq_getElem?_getD, List.getElem?_eq_getElem hj]; rfl)⟩
theorem hasS_take {ps : List ByteArray} {x : ByteArray} {i : Nat} (hi : i ≤ ps.length) : hasS (ps.take i) x = true ↔ ∃ k, k < i ∧ ps.getD k ⟨#[]⟩ = x := by
  rw [hasS_iff]
  constructor
  · intro h
    obtain ⟨k, hk, he⟩ := List.mem_iff_getElem.1 h
    rw [List.length_take] at hk
    refine ⟨k, by omega, ?_⟩
    rw [List.getElem_take] at he
    rw [List.getD_eq_getElem?_getD, List.getElem?_eq_getElem (by omega), Option.getD_some, he]
  · rintro ⟨k, hk, he⟩
    rw [← he, List.getD_eq_getElem?_getD, List.getElem?_eq_getElem (by omega), Option.getD_some]
    exact List.mem_iff_getElem.2 ⟨k, by rw [List.length_take]; omega, by rw [List.getElem_take]⟩
set_option maxRecDepth 100000 in
set_option maxHeartbeats 4000000 in
theorem refRight_any (m : MacV) (hm : MacFits m) (vp vb : Value) (w : World) (h1 : StrAt w vp m.params) (h2 : TokAt w vb m.body) :
    Calls Tryd.prog 24 #[.agg #[.string m.name, .bool m.func, vp, .bool m.more, vb]] w fun e w' => e = .returned (.bool (refRightL m)) ∧ Below w.heap.size w w' := by
  have HM := Lib.hid hm
  obtain ⟨hnm, hnp, hnb, hsp, hps⟩ := hm
  obtain ⟨A, c, rfl, hc, hr⟩ := h1
  have h1 : StrAt w (.slice A m.params.length c) m.params := ⟨A, c, rfl, hc, hr⟩
  clear hr
  go_enter Tryd.func24, Tryd.ntmps24
  go_wp2_with (fail)
  obtain ⟨W0, hW0⟩ : ∃ W0, w.alloc (.cells #[.string m.name, .bool m.func, .slice A m.params.length c, .bool m.more, vb] 46) = W0 := ⟨_, rfl⟩
  have hB0 : Below w.heap.size w W0 := by rw [← hW0]; exact (Below.refl _ w).alloc (Nat.le_refl _) _
  have hbox : MacBox W0 w.heap.size m (.slice A m.params.length c) vb := by
    refine ⟨?_, h1.below hB0, h2.below hB0⟩
    rw [← hW0]; exact World.alloc_heap_new w _
  rw [hW0]
  have HX := Lib.hid hbox
  have HB0 := Lib.hid hB0
  have HPS := Lib.hid hps
  clear hW0 hbox hB0 h1 h2 hps hsp
  refine (refIsName_any m.name hnm W0).mono ?_
  rintro e w1 ⟨rfl, hB1⟩
  have HX1 := Lib.hid (HX.out.below hB1)
  have HB1 := Lib.hid (HB0.out.trans (hB1.mono HB0.out.size))
  clear hB1 HX HB0
  have b0 : w1.cell? ⟨w.heap.size, 0, none⟩ = some (.string m.name) := by simp [World.cell?, HX1.out.box]
  have b1 : w1.cell? ⟨w.heap.size, 1, none⟩ = some (.bool m.func) := by simp [World.cell?, HX1.out.box]
  have b2 : w1.cell? ⟨w.heap.size, 2, none⟩ = some (.slice A m.params.length c) := by simp [World.cell?, HX1.out.box]
  have b3 : w1.cell? ⟨w.heap.size, 3, none⟩ = some (.bool m.more) := by simp [World.cell?, HX1.out.box]
  rcases bool_or (nameOk (bl m.name)) with hn | hn
  · have HR := Lib.hid (show refRightL m = false by unfold refRightL headL isNameL; rw [hn]; rfl)
    rw [hn]
    clear hn
    go_wp2
    go_ret
    exact ⟨by rw [HR.out]; rfl, HB1.out⟩
  · have HN := Lib.hid hn
    rw [hn]
    clear hn
    rcases bool_or (m.name.toList == [100, 101, 102, 105, 110, 101, 100]) with hd | hd
    · have HD := Lib.hid hd
      rcases bool_or (m.name.toList == [95, 95, 86, 65, 95, 65, 82, 71, 83, 95, 95]) with ht | ht
      · have HT := Lib.hid ht
        have HNL := Lib.hid (show isNameL (bl m.name) = true by unfold isNameL restL; rw [HN.out, ← toList_bl, ht]; rfl)
        have bad : (m.func = false ∧ (m.more = true ∨ ¬ m.params.length = 0)) → refRightL m = false := by
          rintro ⟨e1, e2⟩
          unfold refRightL headL
          rw [e1]
          rcases e2 with e2 | e2
          · rw [e2]; simp
          · rw [decide_eq_false e2]; simp
        have BAD := Lib.hid bad
        clear bad
        by_cases h0 : m.params.length = 0
        · have h0' : ¬ 0 < m.params.length := by omega
          have h0'' : decide (0 < m.params.length) = false := decide_eq_false h0'
          have h16 : m.params.length ≤ 16 := by omega
          have h16' : decide ((16 : Int) < (m.params.length : Int)) = false := by simp; omega
          have h16'' : decide ((m.params.length : Int) > 16) = false := by simp; omega
          have H16 := Lib.hid h16
          rcases bool_or m.func with hf | hf
          · rw [hf] at b1
            rcases bool_or m.more with hmo | hmo
            · rw [hmo] at b3
              have HOK := Lib.hid (show (m.func || (!m.more && decide (m.params.length = 0))) = true by rw [hf, hmo, decide_eq_true h0]; rfl)
              clear hf hmo h16 h0
              go_wp2_with (fail)
              go_loopw [4] (fun v4 wr => ∃ (i : Nat), v4 = .int .i64 (i : Int) ∧ i ≤ m.params.length ∧ Hid (∀ j, j < i → parAt m.params j = true) ∧ Hid (Below w.heap.size w wr) ∧ Hid (MacBox wr w.heap.size m (.slice A m.params.length c) vb)) (fun v4 _ => match v4 with | .int _ i => m.params.length - i.toNat | _ => 0)
              case atStart => exact ⟨0, rfl, by omega, Lib.hid (by omega), HB1, HX1⟩
              case round =>
                clear b0 b1 b2 b3 hd ht h0' h0'' h16' h16''
                obtain ⟨i, rfl, hi6, HG, HB, HX8⟩ := hrel
                have b0 : wr.cell? ⟨w.heap.size, 0, none⟩ = some (.string m.name) := by simp [World.cell?, HX8.out.box]
                have b1 : wr.cell? ⟨w.heap.size, 1, none⟩ = some (.bool m.func) := by simp [World.cell?, HX8.out.box]
                have b2 : wr.cell? ⟨w.heap.size, 2, none⟩ = some (.slice A m.params.length c) := by simp [World.cell?, HX8.out.box]
                have b3 : wr.cell? ⟨w.heap.size, 3, none⟩ = some (.bool m.more) := by simp [World.cell?, HX8.out.box]
                have b4 : wr.cell? ⟨w.heap.size, 4, none⟩ = some vb := by simp [World.cell?, HX8.out.box]
                by_cases hlt : i < m.params.length
                · have hlt' : decide ((i : Int) < (m.params.length : Int)) = true := by simp; omega
                  obtain ⟨ad, hA, hcell⟩ := str_cells HX8.out.ps (by omega)
                  cases hA
                  have hi := hcell i hlt
                  clear hcell
                  obtain ⟨y, hy⟩ : ∃ y, m.params.getD i ⟨#[]⟩ = y := ⟨_, rfl⟩
                  rw [hy] at hi
                  have hys : y.size < 4294967281 := HPS.out y (by rw [← hy, List.getD_eq_getElem?_getD, List.getElem?_eq_getElem hlt]; exact List.getElem_mem hlt)
                  have HGY := Lib.hid hy
                  clear hy
                  go_wp2_with (fail)
                  refine (refIsName_any y hys wr).mono ?_
                  rintro e w9 ⟨rfl, hB9⟩
                  have HX9 := Lib.hid (HX8.out.below hB9)
                  have HB9 := Lib.hid (HB.out.trans (hB9.mono HB.out.size))
                  have hi9 : w9.cell? (ad.add i) = some (.string y) := (hB9.cell (World.block_lt_of_cell? _ _ hi)).trans hi
                  have b29 : w9.cell? ⟨w.heap.size, 2, none⟩ = some (.slice (some ad) m.params.length c) := by simp [World.cell?, HX9.out.box]
                  clear hB9 HX8 HB hi b0 b1 b2 b3 b4
                  rcases bool_or (nameOk (bl y)) with hny | hny
                  · have HR := Lib.hid (refRight_bad_par hlt (by unfold parAt isNameL; rw [HGY.out, hny]; rfl))
                    rw [hny]
                    clear hny
                    go_wp2
                    go_ret
                    exact ⟨by rw [HR.out]; rfl, HB9.out⟩
                  · rw [hny]
                    have HNY := Lib.hid hny
                    clear hny
                    rcases bool_or (y.toList == [95, 95, 86, 65, 95, 65, 82, 71, 83, 95, 95]) with hyt | hyt
                    · have HYL := Lib.hid (show isNameL (bl y) = true by unfold isNameL restL; rw [HNY.out, ← toList_bl, hyt]; rfl)
                      go_wp2_with (fail)
                      clear hyt hi9 b29
                      obtain ⟨wo, rfl⟩ : ∃ wo : World, wo = wr := ⟨_, rfl⟩
                      go_loopw [6] (fun v6 wr => ∃ (k : Nat), v6 = .int .i64 (k : Int) ∧ k ≤ i ∧ Hid (∀ j, j < k → ¬ m.params.getD j ⟨#[]⟩ = y) ∧ Hid (Below w9.heap.size w9 wr)) (fun v6 _ => match v6 with | .int _ k => i - k.toNat | _ => 0)
                      case atStart => exact ⟨0, rfl, by omega, Lib.hid (by omega), Lib.hid (Below.refl _ _)⟩
                      case round =>
                        obtain ⟨k, rfl, hk6, HK, HB2⟩ := hrel
                        by_cases hkl : k < i
                        · have hkl' : decide ((k : Int) < (i : Int)) = true := by simp; omega
                          have HX2 := Lib.hid (HX9.out.below HB2.out)
                          obtain ⟨ad', hA', hcell⟩ := str_cells HX2.out.ps (by omega)
                          cases hA'
                          have hci := hcell i hlt
                          have hck := hcell k (by omega)
                          rw [HGY.out] at hci
                          clear hcell
                          obtain ⟨z, hz⟩ : ∃ z, m.params.getD k ⟨#[]⟩ = z := ⟨_, rfl⟩
                          rw [hz] at hck
                          have HZ := Lib.hid hz
                          clear hz
                          have c2 : wr.cell? ⟨w.heap.size, 2, none⟩ = some (.slice (some ad) m.params.length c) := by simp [World.cell?, HX2.out.box]
                          have hkl2 : decide ((k : Int) < (m.params.length : Int)) = true := by simp; omega
                          have hkl3 : (k : Int) < (m.params.length : Int) := by omega
                          have hkl4 : (i : Int) < (m.params.length : Int) := by omega
                          have HBf := Lib.hid (HB9.out.trans (HB2.out.mono HB9.out.size))
                          rcases bool_or (z.toList == y.toList) with hzy | hzy
                          · have HZY := Lib.hid hzy
                            go_wp2
                            go_quiet (fail)
                            go_wp2
                            go_roundw
                            case rel =>
                              refine ⟨k + 1, rfl, hkl, Lib.hid ?_, Lib.hid (HB2.out.trans ⟨rfl, rfl, rfl, Nat.le_refl _, fun _ _ => rfl⟩)⟩
                              intro j hj e
                              by_cases hjk : j = k
                              · rw [hjk, HZ.out] at e
                                have := HZY.out
                                rw [e] at this
                                simp at this
                              · exact HK.out j (by omega) e
                            case measure => simp only []; omega
                          · have hbadp : parAt m.params i = false := by
                              have he : z = y := toList_eq.1 (beq_iff_eq.1 hzy)
                              unfold parAt
                              rw [HGY.out, (hasS_take (by omega)).2 ⟨k, hkl, by rw [HZ.out, he]⟩]
                              simp
                            have HR := Lib.hid (refRight_bad_par hlt hbadp)
                            clear hbadp
                            go_wp2
                            go_quiet (fail)
                            go_wp2
                            go_ret
                            exact ⟨by rw [HR.out]; rfl, HBf.out.trans ⟨rfl, rfl, rfl, Nat.le_refl _, fun _ _ => rfl⟩⟩
                        · have hkl' : decide ((k : Int) < (i : Int)) = false := by simp; omega
                          have hok : parAt m.params i = true := by
                            unfold parAt
                            rw [HGY.out, HYL.out]
                            have : hasS (m.params.take i) y = false := by
                              rw [← Bool.not_eq_true, hasS_take (by omega)]
                              rintro ⟨j, hj, e⟩
                              exact HK.out j (by omega) e
                            rw [this]; rfl
                          have HOKI := Lib.hid hok
                          have HXf := Lib.hid (HX9.out.below HB2.out)
                          have HBf := Lib.hid (HB9.out.trans (HB2.out.mono HB9.out.size))
                          clear hok
                          go_wp2
                          go_roundw
                          case rel => exact ⟨i + 1, rfl, hlt, Lib.hid (upto_succ HG.out HOKI.out), HBf, HXf⟩
                          case measure => simp only []; omega
                    · have HR := Lib.hid (refRight_bad_par hlt (by unfold parAt isNameL restL; rw [HGY.out, ← toList_bl, hyt]; simp))
                      go_wp2
                      go_ret
                      exact ⟨by rw [HR.out]; rfl, HB9.out⟩
                · have hlt' : decide ((i : Int) < (m.params.length : Int)) = false := by simp; omega
                  have hgood : parsOk m.params = true := by
                    unfold parsOk
                    rw [List.all_eq_true]
                    intro j hj
                    exact HG.out j (by rw [List.mem_range] at hj; omega)
                  have hR : refRightL m = refBodyL m := by unfold refRightL headL definedL; rw [HNL.out, ← toList_bl, HD.out, decide_eq_true H16.out, HOK.out, hgood]; rfl
                  have HR := Lib.hid hR
                  clear hgood hR
                  go_wp2_with (fail)
                  refine (refBody_any m HM.out _ vb wr HX8.out.ps HX8.out.bd).mono ?_
                  rintro e w11 ⟨rfl, hB11⟩
                  have HB11 := Lib.hid (HB.out.trans (hB11.mono HB.out.size))
                  clear hB11
                  go_wp2
                  go_ret
                  exact ⟨by rw [HR.out]; rfl, HB11.out⟩
            · rw [hmo] at b3
              have HR := Lib.hid (BAD.out ⟨hf, .inl hmo⟩)
              clear hf hmo h16 h0
              go_wp2
              go_ret
              exact ⟨by rw [HR.out]; rfl, HB1.out⟩
          · rw [hf] at b1
            have HOK := Lib.hid (show (m.func || (!m.more && decide (m.params.length = 0))) = true by rw [hf]; rfl)
            clear hf h16 h0
            go_wp2_with (fail)
            go_loopw [4] (fun v4 wr => ∃ (i : Nat), v4 = .int .i64 (i : Int) ∧ i ≤ m.params.length ∧ Hid (∀ j, j < i → parAt m.params j = true) ∧ Hid (Below w.heap.size w wr) ∧ Hid (MacBox wr w.heap.size m (.slice A m.params.length c) vb)) (fun v4 _ => match v4 with | .int _ i => m.params.length - i.toNat | _ => 0)
            case atStart => exact ⟨0, rfl, by omega, Lib.hid (by omega), HB1, HX1⟩
            case round =>
              clear b0 b1 b2 b3 hd ht h0' h0'' h16' h16''
              obtain ⟨i, rfl, hi6, HG, HB, HX8⟩ := hrel
              have b0 : wr.cell? ⟨w.heap.size, 0, none⟩ = some (.string m.name) := by simp [World.cell?, HX8.out.box]
              have b1 : wr.cell? ⟨w.heap.size, 1, none⟩ = some (.bool m.func) := by simp [World.cell?, HX8.out.box]
              have b2 : wr.cell? ⟨w.heap.size, 2, none⟩ = some (.slice A m.params.length c) := by simp [World.cell?, HX8.out.box]
              have b3 : wr.cell? ⟨w.heap.size, 3, none⟩ = some (.bool m.more) := by simp [World.cell?, HX8.out.box]
              have b4 : wr.cell? ⟨w.heap.size, 4, none⟩ = some vb := by simp [World.cell?, HX8.out.box]
              by_cases hlt : i < m.params.length
              · have hlt' : decide ((i : Int) < (m.params.length : Int)) = true := by simp; omega
                obtain ⟨ad, hA, hcell⟩ := str_cells HX8.out.ps (by omega)
                cases hA
                have hi := hcell i hlt
                clear hcell
                obtain ⟨y, hy⟩ : ∃ y, m.params.getD i ⟨#[]⟩ = y := ⟨_, rfl⟩
                rw [hy] at hi
                have hys : y.size < 4294967281 := HPS.out y (by rw [← hy, List.getD_eq_getElem?_getD, List.getElem?_eq_getElem hlt]; exact List.getElem_mem hlt)
                have HGY := Lib.hid hy
                clear hy
                go_wp2_with (fail)
                refine (refIsName_any y hys wr).mono ?_
                rintro e w9 ⟨rfl, hB9⟩
                have HX9 := Lib.hid (HX8.out.below hB9)
                have HB9 := Lib.hid (HB.out.trans (hB9.mono HB.out.size))
                have hi9 : w9.cell? (ad.add i) = some (.string y) := (hB9.cell (World.block_lt_of_cell? _ _ hi)).trans hi
                have b29 : w9.cell? ⟨w.heap.size, 2, none⟩ = some (.slice (some ad) m.params.length c) := by simp [World.cell?, HX9.out.box]
                clear hB9 HX8 HB hi b0 b1 b2 b3 b4
                rcases bool_or (nameOk (bl y)) with hny | hny
                · have HR := Lib.hid (refRight_bad_par hlt (by unfold parAt isNameL; rw [HGY.out, hny]; rfl))
                  rw [hny]
                  clear hny
                  go_wp2
                  go_ret
                  exact ⟨by rw [HR.out]; rfl, HB9.out⟩
                · rw [hny]
                  have HNY := Lib.hid hny
                  clear hny
                  rcases bool_or (y.toList == [95, 95, 86, 65, 95, 65, 82, 71, 83, 95, 95]) with hyt | hyt
                  · have HYL := Lib.hid (show isNameL (bl y) = true by unfold isNameL restL; rw [HNY.out, ← toList_bl, hyt]; rfl)
                    go_wp2_with (fail)
                    clear hyt hi9 b29
                    obtain ⟨wo, rfl⟩ : ∃ wo : World, wo = wr := ⟨_, rfl⟩
                    go_loopw [6] (fun v6 wr => ∃ (k : Nat), v6 = .int .i64 (k : Int) ∧ k ≤ i ∧ Hid (∀ j, j < k → ¬ m.params.getD j ⟨#[]⟩ = y) ∧ Hid (Below w9.heap.size w9 wr)) (fun v6 _ => match v6 with | .int _ k => i - k.toNat | _ => 0)
                    case atStart => exact ⟨0, rfl, by omega, Lib.hid (by omega), Lib.hid (Below.refl _ _)⟩
                    case round =>
                      obtain ⟨k, rfl, hk6, HK, HB2⟩ := hrel
                      by_cases hkl : k < i
                      · have hkl' : decide ((k : Int) < (i : Int)) = true := by simp; omega
                        have HX2 := Lib.hid (HX9.out.below HB2.out)
                        obtain ⟨ad', hA', hcell⟩ := str_cells HX2.out.ps (by omega)
                        cases hA'
                        have hci := hcell i hlt
                        have hck := hcell k (by omega)
                        rw [HGY.out] at hci
                        clear hcell
                        obtain ⟨z, hz⟩ : ∃ z, m.params.getD k ⟨#[]⟩ = z := ⟨_, rfl⟩
                        rw [hz] at hck
                        have HZ := Lib.hid hz
                        clear hz
                        have c2 : wr.cell? ⟨w.heap.size, 2, none⟩ = some (.slice (some ad) m.params.length c) := by simp [World.cell?, HX2.out.box]
                        have hkl2 : decide ((k : Int) < (m.params.length : Int)) = true := by simp; omega
                        have hkl3 : (k : Int) < (m.params.length : Int) := by omega
                        have hkl4 : (i : Int) < (m.params.length : Int) := by omega
                        have HBf := Lib.hid (HB9.out.trans (HB2.out.mono HB9.out.size))
                        rcases bool_or (z.toList == y.toList) with hzy | hzy
                        · have HZY := Lib.hid hzy
                          go_wp2
                          go_quiet (fail)
                          go_wp2
                          go_roundw
                          case rel =>
                            refine ⟨k + 1, rfl, hkl, Lib.hid ?_, Lib.hid (HB2.out.trans ⟨rfl, rfl, rfl, Nat.le_refl _, fun _ _ => rfl⟩)⟩
                            intro j hj e
                            by_cases hjk : j = k
                            · rw [hjk, HZ.out] at e
                              have := HZY.out
                              rw [e] at this
                              simp at this
                            · exact HK.out j (by omega) e
                          case measure => simp only []; omega
                        · have hbadp : parAt m.params i = false := by
                            have he : z = y := toList_eq.1 (beq_iff_eq.1 hzy)
                            unfold parAt
                            rw [HGY.out, (hasS_take (by omega)).2 ⟨k, hkl, by rw [HZ.out, he]⟩]
                            simp
                          have HR := Lib.hid (refRight_bad_par hlt hbadp)
                          clear hbadp
                          go_wp2
                          go_quiet (fail)
                          go_wp2
                          go_ret
                          exact ⟨by rw [HR.out]; rfl, HBf.out.trans ⟨rfl, rfl, rfl, Nat.le_refl _, fun _ _ => rfl⟩⟩
                      · have hkl' : decide ((k : Int) < (i : Int)) = false := by simp; omega
                        have hok : parAt m.params i = true := by
                          unfold parAt
                          rw [HGY.out, HYL.out]
                          have : hasS (m.params.take i) y = false := by
                            rw [← Bool.not_eq_true, hasS_take (by omega)]
                            rintro ⟨j, hj, e⟩
                            exact HK.out j (by omega) e
                          rw [this]; rfl
                        have HOKI := Lib.hid hok
                        have HXf := Lib.hid (HX9.out.below HB2.out)
                        have HBf := Lib.hid (HB9.out.trans (HB2.out.mono HB9.out.size))
                        clear hok
                        go_wp2
                        go_roundw
                        case rel => exact ⟨i + 1, rfl, hlt, Lib.hid (upto_succ HG.out HOKI.out), HBf, HXf⟩
                        case measure => simp only []; omega
                  · have HR := Lib.hid (refRight_bad_par hlt (by unfold parAt isNameL restL; rw [HGY.out, ← toList_bl, hyt]; simp))
                    go_wp2
                    go_ret
                    exact ⟨by rw [HR.out]; rfl, HB9.out⟩
              · have hlt' : decide ((i : Int) < (m.params.length : Int)) = false := by simp; omega
                have hgood : parsOk m.params = true := by
                  unfold parsOk
                  rw [List.all_eq_true]
                  intro j hj
                  exact HG.out j (by rw [List.mem_range] at hj; omega)
                have hR : refRightL m = refBodyL m := by unfold refRightL headL definedL; rw [HNL.out, ← toList_bl, HD.out, decide_eq_true H16.out, HOK.out, hgood]; rfl
                have HR := Lib.hid hR
                clear hgood hR
                go_wp2_with (fail)
                refine (refBody_any m HM.out _ vb wr HX8.out.ps HX8.out.bd).mono ?_
                rintro e w11 ⟨rfl, hB11⟩
                have HB11 := Lib.hid (HB.out.trans (hB11.mono HB.out.size))
                clear hB11
                go_wp2
                go_ret
                exact ⟨by rw [HR.out]; rfl, HB11.out⟩
        · have h0' : 0 < m.params.length := by omega
          have h0'' : decide (0 < m.params.length) = true := decide_eq_true h0'
          rcases bool_or m.func with hf | hf
          · rw [hf] at b1
            have HR := Lib.hid (BAD.out ⟨hf, .inr h0⟩)
            clear hf h0
            go_wp2
            go_ret
            exact ⟨by rw [HR.out]; rfl, HB1.out⟩
          · rw [hf] at b1
            have HOK := Lib.hid (show (m.func || (!m.more && decide (m.params.length = 0))) = true by rw [hf]; rfl)
            clear hf h0
            by_cases h16 : m.params.length ≤ 16
            · have h16' : decide ((16 : Int) < (m.params.length : Int)) = false := by simp; omega
              have h16'' : decide ((m.params.length : Int) > 16) = false := by simp; omega
              have H16 := Lib.hid h16
              clear h16
              go_wp2_with (fail)
              go_loopw [4] (fun v4 wr => ∃ (i : Nat), v4 = .int .i64 (i : Int) ∧ i ≤ m.params.length ∧ Hid (∀ j, j < i → parAt m.params j = true) ∧ Hid (Below w.heap.size w wr) ∧ Hid (MacBox wr w.heap.size m (.slice A m.params.length c) vb)) (fun v4 _ => match v4 with | .int _ i => m.params.length - i.toNat | _ => 0)
              case atStart => exact ⟨0, rfl, by omega, Lib.hid (by omega), HB1, HX1⟩
              case round =>
                clear b0 b1 b2 b3 hd ht h0' h0'' h16' h16''
                obtain ⟨i, rfl, hi6, HG, HB, HX8⟩ := hrel
                have b0 : wr.cell? ⟨w.heap.size, 0, none⟩ = some (.string m.name) := by simp [World.cell?, HX8.out.box]
                have b1 : wr.cell? ⟨w.heap.size, 1, none⟩ = some (.bool m.func) := by simp [World.cell?, HX8.out.box]
                have b2 : wr.cell? ⟨w.heap.size, 2, none⟩ = some (.slice A m.params.length c) := by simp [World.cell?, HX8.out.box]
                have b3 : wr.cell? ⟨w.heap.size, 3, none⟩ = some (.bool m.more) := by simp [World.cell?, HX8.out.box]
                have b4 : wr.cell? ⟨w.heap.size, 4, none⟩ = some vb := by simp [World.cell?, HX8.out.box]
                by_cases hlt : i < m.params.length
                · have hlt' : decide ((i : Int) < (m.params.length : Int)) = true := by simp; omega
                  obtain ⟨ad, hA, hcell⟩ := str_cells HX8.out.ps (by omega)
                  cases hA
                  have hi := hcell i hlt
                  clear hcell
                  obtain ⟨y, hy⟩ : ∃ y, m.params.getD i ⟨#[]⟩ = y := ⟨_, rfl⟩
                  rw [hy] at hi
                  have hys : y.size < 4294967281 := HPS.out y (by rw [← hy, List.getD_eq_getElem?_getD, List.getElem?_eq_getElem hlt]; exact List.getElem_mem hlt)
                  have HGY := Lib.hid hy
                  clear hy
                  go_wp2_with (fail)
                  refine (refIsName_any y hys wr).mono ?_
                  rintro e w9 ⟨rfl, hB9⟩
                  have HX9 := Lib.hid (HX8.out.below hB9)
                  have HB9 := Lib.hid (HB.out.trans (hB9.mono HB.out.size))
                  have hi9 : w9.cell? (ad.add i) = some (.string y) := (hB9.cell (World.block_lt_of_cell? _ _ hi)).trans hi
                  have b29 : w9.cell? ⟨w.heap.size, 2, none⟩ = some (.slice (some ad) m.params.length c) := by simp [World.cell?, HX9.out.box]
                  clear hB9 HX8 HB hi b0 b1 b2 b3 b4
                  rcases bool_or (nameOk (bl y)) with hny | hny
                  · have HR := Lib.hid (refRight_bad_par hlt (by unfold parAt isNameL; rw [HGY.out, hny]; rfl))
                    rw [hny]
                    clear hny
                    go_wp2
                    go_ret
                    exact ⟨by rw [HR.out]; rfl, HB9.out⟩
                  · rw [hny]
                    have HNY := Lib.hid hny
                    clear hny
                    rcases bool_or (y.toList == [95, 95, 86, 65, 95, 65, 82, 71, 83, 95, 95]) with hyt | hyt
                    · have HYL := Lib.hid (show isNameL (bl y) = true by unfold isNameL restL; rw [HNY.out, ← toList_bl, hyt]; rfl)
                      go_wp2_with (fail)
                      clear hyt hi9 b29
                      obtain ⟨wo, rfl⟩ : ∃ wo : World, wo = wr := ⟨_, rfl⟩
                      go_loopw [6] (fun v6 wr => ∃ (k : Nat), v6 = .int .i64 (k : Int) ∧ k ≤ i ∧ Hid (∀ j, j < k → ¬ m.params.getD j ⟨#[]⟩ = y) ∧ Hid (Below w9.heap.size w9 wr)) (fun v6 _ => match v6 with | .int _ k => i - k.toNat | _ => 0)
                      case atStart => exact ⟨0, rfl, by omega, Lib.hid (by omega), Lib.hid (Below.refl _ _)⟩
                      case round =>
                        obtain ⟨k, rfl, hk6, HK, HB2⟩ := hrel
                        by_cases hkl : k < i
                        · have hkl' : decide ((k : Int) < (i : Int)) = true := by simp; omega
                          have HX2 := Lib.hid (HX9.out.below HB2.out)
                          obtain ⟨ad', hA', hcell⟩ := str_cells HX2.out.ps (by omega)
                          cases hA'
                          have hci := hcell i hlt
                          have hck := hcell k (by omega)
                          rw [HGY.out] at hci
                          clear hcell
                          obtain ⟨z, hz⟩ : ∃ z, m.params.getD k ⟨#[]⟩ = z := ⟨_, rfl⟩
                          rw [hz] at hck
                          have HZ := Lib.hid hz
                          clear hz
                          have c2 : wr.cell? ⟨w.heap.size, 2, none⟩ = some (.slice (some ad) m.params.length c) := by simp [World.cell?, HX2.out.box]
                          have hkl2 : decide ((k : Int) < (m.params.length : Int)) = true := by simp; omega
                          have hkl3 : (k : Int) < (m.params.length : Int) := by omega
                          have hkl4 : (i : Int) < (m.params.length : Int) := by omega
                          have HBf := Lib.hid (HB9.out.trans (HB2.out.mono HB9.out.size))
                          rcases bool_or (z.toList == y.toList) with hzy | hzy
                          · have HZY := Lib.hid hzy
                            go_wp2
                            go_quiet (fail)
                            go_wp2
                            go_roundw
                            case rel =>
                              refine ⟨k + 1, rfl, hkl, Lib.hid ?_, Lib.hid (HB2.out.trans ⟨rfl, rfl, rfl, Nat.le_refl _, fun _ _ => rfl⟩)⟩
                              intro j hj e
                              by_cases hjk : j = k
                              · rw [hjk, HZ.out] at e
                                have := HZY.out
                                rw [e] at this
                                simp at this
                              · exact HK.out j (by omega) e
                            case measure => simp only []; omega
                          · have hbadp : parAt m.params i = false := by
                              have he : z = y := toList_eq.1 (beq_iff_eq.1 hzy)
                              unfold parAt
                              rw [HGY.out, (hasS_take (by omega)).2 ⟨k, hkl, by rw [HZ.out, he]⟩]
                              simp
                            have HR := Lib.hid (refRight_bad_par hlt hbadp)
                            clear hbadp
                            go_wp2
                            go_quiet (fail)
                            go_wp2
                            go_ret
                            exact ⟨by rw [HR.out]; rfl, HBf.out.trans ⟨rfl, rfl, rfl, Nat.le_refl _, fun _ _ => rfl⟩⟩
                        · have hkl' : decide ((k : Int) < (i : Int)) = false := by simp; omega
                          have hok : parAt m.params i = true := by
                            unfold parAt
                            rw [HGY.out, HYL.out]
                            have : hasS (m.params.take i) y = false := by
                              rw [← Bool.not_eq_true, hasS_take (by omega)]
                              rintro ⟨j, hj, e⟩
                              exact HK.out j (by omega) e
                            rw [this]; rfl
                          have HOKI := Lib.hid hok
                          have HXf := Lib.hid (HX9.out.below HB2.out)
                          have HBf := Lib.hid (HB9.out.trans (HB2.out.mono HB9.out.size))
                          clear hok
                          go_wp2
                          go_roundw
                          case rel => exact ⟨i + 1, rfl, hlt, Lib.hid (upto_succ HG.out HOKI.out), HBf, HXf⟩
                          case measure => simp only []; omega
                    · have HR := Lib.hid (refRight_bad_par hlt (by unfold parAt isNameL restL; rw [HGY.out, ← toList_bl, hyt]; simp))
                      go_wp2
                      go_ret
                      exact ⟨by rw [HR.out]; rfl, HB9.out⟩
                · have hlt' : decide ((i : Int) < (m.params.length : Int)) = false := by simp; omega
                  have hgood : parsOk m.params = true := by
                    unfold parsOk
                    rw [List.all_eq_true]
                    intro j hj
                    exact HG.out j (by rw [List.mem_range] at hj; omega)
                  have hR : refRightL m = refBodyL m := by unfold refRightL headL definedL; rw [HNL.out, ← toList_bl, HD.out, decide_eq_true H16.out, HOK.out, hgood]; rfl
                  have HR := Lib.hid hR
                  clear hgood hR
                  go_wp2_with (fail)
                  refine (refBody_any m HM.out _ vb wr HX8.out.ps HX8.out.bd).mono ?_
                  rintro e w11 ⟨rfl, hB11⟩
                  have HB11 := Lib.hid (HB.out.trans (hB11.mono HB.out.size))
                  clear hB11
                  go_wp2
                  go_ret
                  exact ⟨by rw [HR.out]; rfl, HB11.out⟩
            · have h16' : decide ((16 : Int) < (m.params.length : Int)) = true := by simp; omega
              have h16'' : decide ((m.params.length : Int) > 16) = true := by simp; omega
              have HR := Lib.hid (show refRightL m = false by unfold refRightL headL; rw [decide_eq_false h16]; simp)
              clear h16
              go_wp2
              go_ret
              exact ⟨by rw [HR.out]; rfl, HB1.out⟩
      · have HR := Lib.hid (show refRightL m = false by unfold refRightL headL isNameL restL; rw [HN.out, ← toList_bl, ht]; rfl)
        go_wp2
        go_ret
        exact ⟨by rw [HR.out]; rfl, HB1.out⟩
    · have HR := Lib.hid (show refRightL m = false by unfold refRightL headL definedL; rw [← toList_bl, hd]; simp)
      go_wp2
      go_ret
      exact ⟨by rw [HR.out]; rfl, HB1.out⟩
end Go.Proofs.YthifdcakhdckfaaDoor

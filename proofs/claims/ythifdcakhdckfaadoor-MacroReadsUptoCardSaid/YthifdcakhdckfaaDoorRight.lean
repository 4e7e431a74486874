/-
  Walk: macro.Right.
-/
import Derived.Test.YthifdcakhdckfaaDoorIsBody
import Derived.Test.YthifdcakhdckfaaDoorSeen
namespace Go.Proofs.YthifdcakhdckfaaDoor
open Go.RowKit Go.Proofs.YthifdcakhdckfaaDoorW.PrintWords
open PMacroWords (S62 k62 z62 rd_T62 k62_mk)
set_option linter.unusedVariables false
set_option linter.unusedSimpArgs false

theorem headL_bad_name {m : MacV} (h : isNameL (bl m.name) = false) : rightL m = false := by unfold rightL headL; rw [h]; rfl
theorem right_bad_par {m : MacV} {i : Nat} (hi : i < m.params.length) (h : parAt m.params i = false) : rightL m = false := by
  have : parsOk m.params = false := by
    unfold parsOk
    rw [List.all_eq_false]
    exact ⟨i, List.mem_range.2 hi, by rw [h]; simp⟩
  unfold rightL headL
  rw [this]
  simp
/-- What Right and all that call it ask of a macro. -/
structure MacFits (m : MacV) : Prop where
  nm : m.name.size < 4294967281
  np : m.params.length < 4294967296
  nb : m.body.length < 4294967296
  sp : (spellL m.body).length < 4294967281
  ps : ∀ p ∈ m.params, p.size < 4294967281
set_option maxRecDepth 100000 in
set_option maxHeartbeats 4000000 in
theorem right_any (m : MacV) (hm : MacFits m) (vp vb : Value) (w : World) (h1 : StrAt w vp m.params) (h2 : TokAt w vb m.body) (hsig : SigIs w) (hmax : MaxIs w) (h25 : 5 < w.heap.size) :
    Calls Tryd.prog 23 #[.agg #[.string m.name, .bool m.func, vp, .bool m.more, vb]] w fun e w' => e = .returned (.bool (rightL m)) ∧ Below w.heap.size w w' := by
  have hmm := @run_makeMap Tryd.prog
  obtain ⟨hnm, hnp, hnb, hsp, hps⟩ := hm
  obtain ⟨A, c, rfl, hc, hr⟩ := h1
  have h1 : StrAt w (.slice A m.params.length c) m.params := ⟨A, c, rfl, hc, hr⟩
  clear hr
  go_enter Tryd.func23, Tryd.ntmps23
  go_wp2_with (fail)
  obtain ⟨W0, hW0⟩ : ∃ W0, w.alloc (.cells #[.string m.name, .bool m.func, .slice A m.params.length c, .bool m.more, vb] 46) = W0 := ⟨_, rfl⟩
  have hB0 : Below w.heap.size w W0 := by rw [← hW0]; exact (Below.refl _ w).alloc (Nat.le_refl _) _
  have hbox : MacBox W0 w.heap.size m (.slice A m.params.length c) vb := by
    refine ⟨?_, h1.below hB0, h2.below hB0⟩
    rw [← hW0]; exact World.alloc_heap_new w _
  rw [hW0]
  have HX := Lib.hid hbox
  have HB0 := Lib.hid hB0
  have H1 := Lib.hid hsig
  have H2 := Lib.hid hmax
  have HPS := Lib.hid hps
  have HS := Lib.hid h1
  have HT := Lib.hid h2
  clear hW0 hbox hB0 hsig hmax h1 h2 hps
  refine (isName_any m.name hnm W0 (sig_below H1.out HB0.out) (max_below H2.out HB0.out h25) (by have := HB0.out.size; omega)).mono ?_
  rintro e w1 ⟨rfl, hB1⟩
  have HX1 := Lib.hid (HX.out.below hB1)
  have HB1 := Lib.hid (HB0.out.trans (hB1.mono HB0.out.size))
  clear hB1 HX HB0
  have b0 : w1.cell? ⟨w.heap.size, 0, none⟩ = some (.string m.name) := by simp [World.cell?, HX1.out.box]
  have b1 : w1.cell? ⟨w.heap.size, 1, none⟩ = some (.bool m.func) := by simp [World.cell?, HX1.out.box]
  have b2 : w1.cell? ⟨w.heap.size, 2, none⟩ = some (.slice A m.params.length c) := by simp [World.cell?, HX1.out.box]
  have b3 : w1.cell? ⟨w.heap.size, 3, none⟩ = some (.bool m.more) := by simp [World.cell?, HX1.out.box]
  cases hn : isNameL (bl m.name) with
  | false =>
    have HR := Lib.hid (headL_bad_name hn)
    clear hn
    go_wp2
    go_ret
    exact ⟨by rw [HR.out]; rfl, HB1.out⟩
  | true =>
    have HN := Lib.hid hn
    clear hn
    cases hd : (m.name.toList == [100, 101, 102, 105, 110, 101, 100]) with
    | true =>
      have hR : rightL m = false := by unfold rightL headL definedL; rw [HN.out, ← toList_bl, hd]; rfl
      have HR := Lib.hid hR
      clear hR
      go_wp2
      go_ret
      exact ⟨by rw [HR.out]; rfl, HB1.out⟩
    | false =>
      have HD := Lib.hid hd
      by_cases h16 : m.params.length ≤ 16
      · have h16' : decide ((16 : Int) < (m.params.length : Int)) = false := by simp; omega
        have h16'' : decide ((m.params.length : Int) > 16) = false := by simp; omega
        have H16 := Lib.hid h16
        have bad : (m.func = false ∧ (m.more = true ∨ ¬ m.params.length = 0)) → rightL m = false := by
          rintro ⟨e1, e2⟩
          unfold rightL headL
          rw [e1]
          rcases e2 with e2 | e2
          · rw [e2]; simp
          · rw [decide_eq_false e2]; simp
        have BAD := Lib.hid bad
        clear bad
        have hcase : (m.func = false ∧ m.more = true) ∨ (m.func = false ∧ m.more = false ∧ ¬ m.params.length = 0) ∨ (m.func = true) ∨ (m.func = false ∧ m.more = false ∧ m.params.length = 0) := by
          by_cases h0 : m.params.length = 0 <;> cases m.func <;> cases m.more <;> simp [h0]
        rcases hcase with ⟨hf, hmo⟩ | ⟨hf, hmo, h0⟩ | hf | ⟨hf, hmo, h0⟩
        · have HR := Lib.hid (BAD.out ⟨hf, .inl hmo⟩)
          rw [hf] at b1
          rw [hmo] at b3
          clear hf hmo h16
          go_wp2
          go_ret
          exact ⟨by rw [HR.out]; rfl, HB1.out⟩
        · have HR := Lib.hid (BAD.out ⟨hf, .inr h0⟩)
          have h0' : 0 < m.params.length := by omega
          have h0'' : decide (0 < m.params.length) = true := by simpa using h0'
          rw [hf] at b1
          rw [hmo] at b3
          clear hf hmo h16 h0
          go_wp2
          go_ret
          exact ⟨by rw [HR.out]; rfl, HB1.out⟩
        · have HOK := Lib.hid (show (m.func || (!m.more && decide (m.params.length = 0))) = true by rw [hf]; rfl)
          rw [hf] at b1
          have HF := Lib.hid hf
          clear hf
          have c2 : ∀ o, (w1.alloc o).cell? ⟨w.heap.size, 2, none⟩ = some (.slice A m.params.length c) := fun o => oldC o b2
          clear h16
          go_wp2_with (fail)
          go_loopw [40] (fun v40 wr => ∃ (i : Nat), v40 = .int .i64 (i : Int) ∧ i ≤ m.params.length ∧ Hid (∀ j, j < i → parAt m.params j = true) ∧ Hid (Below w.heap.size w wr) ∧ Hid (MacBox wr w.heap.size m (.slice A m.params.length c) vb) ∧ Hid (SeenIs wr w1.heap.size (m.params.take i))) (fun v40 _ => match v40 with | .int _ i => m.params.length - i.toNat | _ => 0)
          case atStart =>
            have hBm : Below w1.heap.size w1 (w1.alloc (.map #[] 0)) := (Below.refl _ w1).alloc (Nat.le_refl _) _
            exact ⟨0, rfl, by omega, Lib.hid (by omega), Lib.hid (HB1.out.trans (hBm.mono HB1.out.size)), Lib.hid (HX1.out.below hBm), Lib.hid (by rw [List.take_zero]; exact SeenIs.made w1)⟩
          case round =>
            clear b0 b1 b2 b3 c2 hd h16' h16''
            obtain ⟨i, rfl, hi6, HG, HB, HX8, HS8⟩ := hrel
            by_cases hlt : i < m.params.length
            · have hlt' : decide ((i : Int) < (m.params.length : Int)) = true := by simp; omega
              obtain ⟨A', c', hA', hc', hr'⟩ := HX8.out.ps
              have hC : Kd.C Kd.string wr A m.params.length m.params := by injection hA' with h1 _ _; rw [h1]; exact hr'
              clear hA' hc' hr'
              obtain ⟨ad, hA, hcell⟩ := StrAt.cells hC (by omega)
              subst hA
              have hi := hcell i _ (List.getElem?_eq_getElem hlt)
              clear hcell hC
              obtain ⟨y, hy⟩ : ∃ y, m.params[i] = y := ⟨_, rfl⟩
              rw [hy] at hi
              have hgy : m.params.getD i ⟨#[]⟩ = y := by rw [List.getD_eq_getElem?_getD, List.getElem?_eq_getElem hlt, ← hy]; rfl
              have hys : y.size < 4294967281 := HPS.out y (by rw [← hy]; exact List.getElem_mem hlt)
              have htk : m.params.take (i + 1) = m.params.take i ++ [y] := by rw [List.take_add_one, List.getElem?_eq_getElem hlt, ← hy]; rfl
              have HGY := Lib.hid hgy
              have HTK := Lib.hid htk
              clear hy hgy htk
              go_wp2_with (fail)
              refine (isName_any y hys wr (sig_below H1.out HB.out) (max_below H2.out HB.out h25) (by have := HB.out.size; omega)).mono ?_
              rintro e w9 ⟨rfl, hB9⟩
              have HX9 := Lib.hid (HX8.out.below hB9)
              have HS9 := Lib.hid (HS8.out.below hB9)
              have HB9 := Lib.hid (HB.out.trans (hB9.mono HB.out.size))
              clear hB9 HX8 HS8 HB hi
              have hm1 : y.size ≤ maxLen := by unfold maxLen; omega
              have hlook := HS9.out.look y hm1
              cases hny : isNameL (bl y) with
              | false =>
                have HR := Lib.hid (right_bad_par hlt (by unfold parAt; rw [HGY.out, hny]; rfl))
                clear hny hlook
                go_wp2
                go_ret
                exact ⟨by rw [HR.out]; rfl, HB9.out⟩
              | true =>
                have HNY := Lib.hid hny
                clear hny
                cases hsy : hasS (m.params.take i) y with
                | true =>
                  have HR := Lib.hid (right_bad_par hlt (by unfold parAt; rw [HGY.out, hsy]; simp))
                  rw [hsy] at hlook
                  clear hsy
                  go_wp2
                  go_ret
                  exact ⟨by rw [HR.out]; rfl, HB9.out⟩
                | false =>
                  have hok : parAt m.params i = true := by unfold parAt; rw [HGY.out, HNY.out, hsy]; rfl
                  have HOKI := Lib.hid hok
                  rw [hsy] at hlook
                  clear hsy hok
                  obtain ⟨w10, hrun, hS10, hG10⟩ := HS9.out.store y hm1 (by rw [List.length_take]; omega)
                  have hlow : w.heap.size ≤ w1.heap.size := HB1.out.size
                  have hbxl := (Array.getElem?_eq_some_iff.1 HX1.out.box).1
                  have hB10 : Below w.heap.size w w10 := HB9.out.grown hG10 HB9.out.size (fun k e => by injection e with e; omega)
                  have HB10 := Lib.hid hB10
                  have HX10 := Lib.hid (show MacBox w10 w.heap.size m (.slice (some ad) m.params.length c) vb from ⟨kept_at hG10 HX9.out.box (by intro e; injection e with e; omega), HS.out.below hB10, HT.out.below hB10⟩)
                  have HS10 := Lib.hid (show SeenIs w10 w1.heap.size (m.params.take (i + 1)) by rw [HTK.out]; exact hS10)
                  clear hS10 hG10 hB10 hbxl hlow
                  go_wp2
                  go_roundw
                  case rel => exact ⟨i + 1, rfl, hlt, Lib.hid (upto_succ HG.out HOKI.out), HB10, HX10, HS10⟩
                  case measure => simp only []; omega
            · have hlt' : decide ((i : Int) < (m.params.length : Int)) = false := by simp; omega
              have hgood : parsOk m.params = true := by
                unfold parsOk
                rw [List.all_eq_true]
                intro j hj
                exact HG.out j (by rw [List.mem_range] at hj; omega)
              have hR : rightL m = isBodyL m := by unfold rightL headL definedL; rw [HN.out, ← toList_bl, HD.out, decide_eq_true H16.out, HOK.out, hgood]; rfl
              have HR := Lib.hid hR
              clear hgood hR
              have b0 : wr.cell? ⟨w.heap.size, 0, none⟩ = some (.string m.name) := by simp [World.cell?, HX8.out.box]
              have b1 : wr.cell? ⟨w.heap.size, 1, none⟩ = some (.bool m.func) := by simp [World.cell?, HX8.out.box]
              have b2 : wr.cell? ⟨w.heap.size, 2, none⟩ = some (.slice A m.params.length c) := by simp [World.cell?, HX8.out.box]
              have b3 : wr.cell? ⟨w.heap.size, 3, none⟩ = some (.bool m.more) := by simp [World.cell?, HX8.out.box]
              have b4 : wr.cell? ⟨w.heap.size, 4, none⟩ = some vb := by simp [World.cell?, HX8.out.box]
              go_wp2_with (fail)
              refine (isBody_any m _ vb wr HX8.out.ps HX8.out.bd hnp hnb hsp (sig_below H1.out HB.out) (max_below H2.out HB.out h25) (by have := HB.out.size; omega)).mono ?_
              rintro e w11 ⟨rfl, hB11⟩
              have HB11 := Lib.hid (HB.out.trans (hB11.mono HB.out.size))
              clear hB11
              go_wp2
              go_ret
              exact ⟨by rw [HR.out]; rfl, HB11.out⟩
        · have HOK := Lib.hid (show (m.func || (!m.more && decide (m.params.length = 0))) = true by rw [hf, hmo, h0]; rfl)
          have h0' : ¬ 0 < m.params.length := by omega
          have h0'' : decide (0 < m.params.length) = false := decide_eq_false h0'
          rw [hf] at b1
          rw [hmo] at b3
          have HF := Lib.hid hf
          clear hf hmo h0
          have c2 : ∀ o, (w1.alloc o).cell? ⟨w.heap.size, 2, none⟩ = some (.slice A m.params.length c) := fun o => oldC o b2
          clear h16
          go_wp2_with (fail)
          go_loopw [40] (fun v40 wr => ∃ (i : Nat), v40 = .int .i64 (i : Int) ∧ i ≤ m.params.length ∧ Hid (∀ j, j < i → parAt m.params j = true) ∧ Hid (Below w.heap.size w wr) ∧ Hid (MacBox wr w.heap.size m (.slice A m.params.length c) vb) ∧ Hid (SeenIs wr w1.heap.size (m.params.take i))) (fun v40 _ => match v40 with | .int _ i => m.params.length - i.toNat | _ => 0)
          case atStart =>
            have hBm : Below w1.heap.size w1 (w1.alloc (.map #[] 0)) := (Below.refl _ w1).alloc (Nat.le_refl _) _
            exact ⟨0, rfl, by omega, Lib.hid (by omega), Lib.hid (HB1.out.trans (hBm.mono HB1.out.size)), Lib.hid (HX1.out.below hBm), Lib.hid (by rw [List.take_zero]; exact SeenIs.made w1)⟩
          case round =>
            clear b0 b1 b2 b3 c2 hd h16' h16''
            obtain ⟨i, rfl, hi6, HG, HB, HX8, HS8⟩ := hrel
            by_cases hlt : i < m.params.length
            · have hlt' : decide ((i : Int) < (m.params.length : Int)) = true := by simp; omega
              obtain ⟨A', c', hA', hc', hr'⟩ := HX8.out.ps
              have hC : Kd.C Kd.string wr A m.params.length m.params := by injection hA' with h1 _ _; rw [h1]; exact hr'
              clear hA' hc' hr'
              obtain ⟨ad, hA, hcell⟩ := StrAt.cells hC (by omega)
              subst hA
              have hi := hcell i _ (List.getElem?_eq_getElem hlt)
              clear hcell hC
              obtain ⟨y, hy⟩ : ∃ y, m.params[i] = y := ⟨_, rfl⟩
              rw [hy] at hi
              have hgy : m.params.getD i ⟨#[]⟩ = y := by rw [List.getD_eq_getElem?_getD, List.getElem?_eq_getElem hlt, ← hy]; rfl
              have hys : y.size < 4294967281 := HPS.out y (by rw [← hy]; exact List.getElem_mem hlt)
              have htk : m.params.take (i + 1) = m.params.take i ++ [y] := by rw [List.take_add_one, List.getElem?_eq_getElem hlt, ← hy]; rfl
              have HGY := Lib.hid hgy
              have HTK := Lib.hid htk
              clear hy hgy htk
              go_wp2_with (fail)
              refine (isName_any y hys wr (sig_below H1.out HB.out) (max_below H2.out HB.out h25) (by have := HB.out.size; omega)).mono ?_
              rintro e w9 ⟨rfl, hB9⟩
              have HX9 := Lib.hid (HX8.out.below hB9)
              have HS9 := Lib.hid (HS8.out.below hB9)
              have HB9 := Lib.hid (HB.out.trans (hB9.mono HB.out.size))
              clear hB9 HX8 HS8 HB hi
              have hm1 : y.size ≤ maxLen := by unfold maxLen; omega
              have hlook := HS9.out.look y hm1
              cases hny : isNameL (bl y) with
              | false =>
                have HR := Lib.hid (right_bad_par hlt (by unfold parAt; rw [HGY.out, hny]; rfl))
                clear hny hlook
                go_wp2
                go_ret
                exact ⟨by rw [HR.out]; rfl, HB9.out⟩
              | true =>
                have HNY := Lib.hid hny
                clear hny
                cases hsy : hasS (m.params.take i) y with
                | true =>
                  have HR := Lib.hid (right_bad_par hlt (by unfold parAt; rw [HGY.out, hsy]; simp))
                  rw [hsy] at hlook
                  clear hsy
                  go_wp2
                  go_ret
                  exact ⟨by rw [HR.out]; rfl, HB9.out⟩
                | false =>
                  have hok : parAt m.params i = true := by unfold parAt; rw [HGY.out, HNY.out, hsy]; rfl
                  have HOKI := Lib.hid hok
                  rw [hsy] at hlook
                  clear hsy hok
                  obtain ⟨w10, hrun, hS10, hG10⟩ := HS9.out.store y hm1 (by rw [List.length_take]; omega)
                  have hlow : w.heap.size ≤ w1.heap.size := HB1.out.size
                  have hbxl := (Array.getElem?_eq_some_iff.1 HX1.out.box).1
                  have hB10 : Below w.heap.size w w10 := HB9.out.grown hG10 HB9.out.size (fun k e => by injection e with e; omega)
                  have HB10 := Lib.hid hB10
                  have HX10 := Lib.hid (show MacBox w10 w.heap.size m (.slice (some ad) m.params.length c) vb from ⟨kept_at hG10 HX9.out.box (by intro e; injection e with e; omega), HS.out.below hB10, HT.out.below hB10⟩)
                  have HS10 := Lib.hid (show SeenIs w10 w1.heap.size (m.params.take (i + 1)) by rw [HTK.out]; exact hS10)
                  clear hS10 hG10 hB10 hbxl hlow
                  go_wp2
                  go_roundw
                  case rel => exact ⟨i + 1, rfl, hlt, Lib.hid (upto_succ HG.out HOKI.out), HB10, HX10, HS10⟩
                  case measure => simp only []; omega
            · have hlt' : decide ((i : Int) < (m.params.length : Int)) = false := by simp; omega
              have hgood : parsOk m.params = true := by
                unfold parsOk
                rw [List.all_eq_true]
                intro j hj
                exact HG.out j (by rw [List.mem_range] at hj; omega)
              have hR : rightL m = isBodyL m := by unfold rightL headL definedL; rw [HN.out, ← toList_bl, HD.out, decide_eq_true H16.out, HOK.out, hgood]; rfl
              have HR := Lib.hid hR
              clear hgood hR
              have b0 : wr.cell? ⟨w.heap.size, 0, none⟩ = some (.string m.name) := by simp [World.cell?, HX8.out.box]
              have b1 : wr.cell? ⟨w.heap.size, 1, none⟩ = some (.bool m.func) := by simp [World.cell?, HX8.out.box]
              have b2 : wr.cell? ⟨w.heap.size, 2, none⟩ = some (.slice A m.params.length c) := by simp [World.cell?, HX8.out.box]
              have b3 : wr.cell? ⟨w.heap.size, 3, none⟩ = some (.bool m.more) := by simp [World.cell?, HX8.out.box]
              have b4 : wr.cell? ⟨w.heap.size, 4, none⟩ = some vb := by simp [World.cell?, HX8.out.box]
              go_wp2_with (fail)
              refine (isBody_any m _ vb wr HX8.out.ps HX8.out.bd hnp hnb hsp (sig_below H1.out HB.out) (max_below H2.out HB.out h25) (by have := HB.out.size; omega)).mono ?_
              rintro e w11 ⟨rfl, hB11⟩
              have HB11 := Lib.hid (HB.out.trans (hB11.mono HB.out.size))
              clear hB11
              go_wp2
              go_ret
              exact ⟨by rw [HR.out]; rfl, HB11.out⟩
      · have h16' : decide ((16 : Int) < (m.params.length : Int)) = true := by simp; omega
        have h16'' : decide ((m.params.length : Int) > 16) = true := by simp; omega
        have hR : rightL m = false := by unfold rightL headL definedL; rw [decide_eq_false h16]; simp
        have HR := Lib.hid hR
        clear hR
        go_wp2
        go_ret
        exact ⟨by rw [HR.out]; rfl, HB1.out⟩
end Go.Proofs.YthifdcakhdckfaaDoor

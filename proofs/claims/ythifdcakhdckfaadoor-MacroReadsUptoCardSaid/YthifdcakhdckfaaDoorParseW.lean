/-
  Walk: macro.Parse.
-/
import Derived.IntWalk
import Derived.Test.YthifdcakhdckfaaDoorFits
import Derived.Test.YthifdcakhdckfaaDoorPars
namespace Go.Proofs.YthifdcakhdckfaaDoor
open Go.RowKit Go.Proofs.YthifdcakhdckfaaDoorW.PrintWords
open PMacroWords (S62 k62 z62 rd_T62 k62_mk)
set_option linter.unusedVariables false
set_option linter.unusedSimpArgs false

set_option maxRecDepth 100000 in
set_option maxHeartbeats 4000000 in
theorem parse_any (xs : List S62) (hs : tokSize xs < 4294967281) (v : Value) (w : World) (hx : TokAt w v xs) (hsig : SigIs w) (hmax : MaxIs w) (h25 : 5 < w.heap.size) :
    Calls Tryd.prog 18 #[v] w fun e w' => ParseEnd w xs e w' := by
  obtain ⟨A, c, rfl, hc, hr⟩ := hx
  have hx : TokAt w (.slice A xs.length c) xs := ⟨A, c, rfl, hc, hr⟩
  have hn : xs.length < 4294967281 := by have := tokSize_length xs; omega
  have HX := Lib.hid hx
  have HS := Lib.hid hs
  clear hr hx hs
  have H1 := Lib.hid hsig
  have H2 := Lib.hid hmax
  clear hsig hmax
  have bad : ∀ (T : Array Value) (W : World), T.getD 2 undef = .pointer (some ⟨w.heap.size, 0, none⟩) → T.getD 3 undef = .int .i64 30 → parseL xs = none → W.heap[w.heap.size]? = some (.cells #[.string ⟨#[]⟩, .bool false, .slice none 0 0, .bool false, .slice none 0 0] 46 (0, 0)) → Below w.heap.size w W →
      bodyPost Tryd.prog Tryd.f18 (fun e w' => ParseEnd w xs e w') .ret { tmps := T, defers := [] } (set5 W w.heap.size (.string ⟨#[]⟩) (.bool false) (.slice none 0 0) (.bool false) (.slice none 0 0)) := by
    intro T W h2 h3 hp hz hB
    have hh := set5_heap hz (.string ⟨#[]⟩) (.bool false) (.slice none 0 0) (.bool false) (.slice none 0 0)
    refine bodyPost_ret (v := .tuple #[.agg #[.string ⟨#[]⟩, .bool false, .slice none 0 0, .bool false, .slice none 0 0], .int .i64 30]) ?_ rfl ⟨_, by unfold parseE; rw [hp]; rfl, by unfold parseM; rw [hp]; exact MacAt.zero _, set5_below hB (Nat.le_refl _) _ _ _ _ _⟩
    generalize set5 W w.heap.size (.string ⟨#[]⟩) (.bool false) (.slice none 0 0) (.bool false) (.slice none 0 0) = W6 at hh ⊢
    exact mac_results rfl hh h2 h3
  have bad0 : ∀ (T : Array Value) (W : World), T.getD 2 undef = .pointer (some ⟨w.heap.size, 0, none⟩) → T.getD 3 undef = .int .i64 30 → parseL xs = none → W.heap[w.heap.size]? = some (.cells #[.string ⟨#[]⟩, .bool false, .slice none 0 0, .bool false, .slice none 0 0] 46 (0, 0)) → Below w.heap.size w W →
      bodyPost Tryd.prog Tryd.f18 (fun e w' => ParseEnd w xs e w') .ret { tmps := T, defers := [] } W := by
    intro T W h2 h3 hp hz hB
    exact bodyPost_ret (v := .tuple #[.agg #[.string ⟨#[]⟩, .bool false, .slice none 0 0, .bool false, .slice none 0 0], .int .i64 30]) (mac_results rfl hz h2 h3) rfl ⟨_, by unfold parseE; rw [hp]; rfl, by unfold parseM; rw [hp]; exact MacAt.zero _, hB⟩
  have BAD := Lib.hid bad
  have BAD0 := Lib.hid bad0
  have HZW := Lib.hid (World.alloc_heap_new w (.cells #[.string ⟨#[]⟩, .bool false, .slice none 0 0, .bool false, .slice none 0 0] 46))
  clear bad bad0
  go_enter Tryd.func18, Tryd.ntmps18
  by_cases h0 : xs.length = 0
  · have h0' : ((xs.length : Int) == 0) = true := by rw [h0]; rfl
    have HNONE := Lib.hid (show parseL xs = none by rw [List.eq_nil_of_length_eq_zero h0]; rfl)
    clear h0
    go_wp2
    exact BAD0.out _ _ rfl rfl HNONE.out HZW.out ((Below.refl _ w).alloc (Nat.le_refl _) _)
  · have h0' : ((xs.length : Int) == 0) = false := by rw [beq_eq_false_iff_ne]; omega
    obtain ⟨A', c', hA', hc', hr'⟩ := HX.out
    have hC : Kd.C k62 w A xs.length xs := by injection hA' with h1 _ _; rw [h1]; exact hr'
    clear hA' hc' hr'
    obtain ⟨ad0, t, hA0, ht, p0, p1, p2, p3, p4, p5⟩ := tok_cells hC (by omega : 0 < xs.length)
    cases hA0
    have r0 : ∀ o, (w.alloc o).cell? ad0 = some (.int .i64 t.f0) := fun o => oldC o (by simpa [Addr.add] using p0)
    have r1 : ∀ o, (w.alloc o).cell? ⟨ad0.block, ad0.off + 1, none⟩ = some (.string t.f1) := fun o => oldC o (by simpa [Addr.add] using p1)
    have r10 : ∀ o o', ((w.alloc o).alloc o').cell? ad0 = some (.int .i64 t.f0) := fun o o' => oldC o' (r0 o)
    have r11 : ∀ o o', ((w.alloc o).alloc o').cell? ⟨ad0.block, ad0.off + 1, none⟩ = some (.string t.f1) := fun o o' => oldC o' (r1 o)
    have hl0 : 0 < xs.length := by omega
    have hl1 : (0 : Int) < (xs.length : Int) := by omega
    obtain ⟨rs, hrs⟩ : ∃ rs, xs = t :: rs := by
      cases hxs : xs with
      | nil => rw [hxs] at hl0; simp at hl0
      | cons a r => exact ⟨r, by rw [hxs] at ht; rw [show a = t from ht]⟩
    have HRS := Lib.hid hrs
    have hrl : xs.length = rs.length + 1 := by rw [hrs]; rfl
    have hdr : xs.drop 1 = rs := by rw [hrs]; rfl
    have HDR := Lib.hid hdr
    clear p0 p1 p2 p3 p4 p5 ht hC h0 hrs hdr
    by_cases hk : t.f0 = 1
    · have hk' : (t.f0 != 1) = false := by simpa using hk
      have HK := Lib.hid hk
      clear hk
      have hsl := run_slice_tok (some ad0) xs.length c 1 (by omega) (by omega)
      have hcut := HX.out.cut 1 (by omega)
      rw [HDR.out] at hcut
      simp only [sliced, Int.reduceToNat] at hsl hcut
      obtain ⟨A1, hA1⟩ : ∃ A1, A1 = (if c = 1 then some ad0 else (some ad0).map (·.add (1 * 6))) := ⟨_, rfl⟩
      rw [← hA1] at hsl hcut
      have hln : xs.length - 1 = rs.length := by omega
      rw [hln] at hsl hcut
      have HX1 := Lib.hid hcut
      have HRL := Lib.hid hrl
      clear hcut hA1 hln hrl
      by_cases hn0 : rs.length = 0
      · have hn0' : ¬ 0 < rs.length := by omega
        have hn0'' : decide (0 < rs.length) = false := decide_eq_false hn0'
        have hn0e : ((rs.length : Int) == 0) = true := by rw [hn0]; rfl
        have hrsn : rs = [] := List.eq_nil_of_length_eq_zero hn0
        have HRAW := Lib.hid (show rawL xs = some ⟨t.f1, false, [], false, bareL rs⟩ by rw [HRS.out, hrsn]; simp only [rawL]; rw [if_pos (by rw [HK.out]; rfl)]; rfl)
        clear hrsn hn0
        go_wp2_with (fail)
        obtain ⟨W0, hW0⟩ : ∃ W0, (w.alloc (.cells #[.string ⟨#[]⟩, .bool false, .slice none 0 0, .bool false, .slice none 0 0] 46)).alloc (.cells #[.string t.f1, .bool false, .slice none 0 0, .bool false, .slice none 0 0] 46) = W0 := ⟨_, rfl⟩
        have hB0 : Below w.heap.size w W0 := by rw [← hW0]; exact ((Below.refl _ w).alloc (Nat.le_refl _) _).alloc (by simp) _
        have HZ := Lib.hid (show W0.heap[w.heap.size]? = some (.cells #[.string ⟨#[]⟩, .bool false, .slice none 0 0, .bool false, .slice none 0 0] 46 (0, 0)) by rw [← hW0]; exact hold_old (World.alloc_heap_new w _))
        have HM := Lib.hid (show MBox W0 (w.heap.size + 1) t.f1 false (.slice none 0 0) false (.slice none 0 0) by rw [← hW0]; exact hold_new (by simp))
        have hs0 : W0.heap.size = w.heap.size + 2 := by rw [← hW0]; simp
        have HB := Lib.hid hB0
        have HT := Lib.hid (HX1.out.below hB0)
        have HR := Lib.hid (StrRow.nil (w.heap.size + 2) W0)
        rw [hW0]
        clear hW0 hB0
        have hyl : (rs).length < 4294967296 := (by have := HRL.out; omega)
        refine (bare_any (rs) hyl _ W0 HT.out).mono ?_
        rintro e w2 ⟨v2, rfl, hT2, hB2⟩
        have HZ2 := Lib.hid ((hB2.block _ (Array.getElem?_eq_some_iff.1 HZ.out).1).trans HZ.out)
        have HM2 := Lib.hid (HM.out.below hB2)
        have HR2 := Lib.hid (show StrRow (w.heap.size + 2) w2 (.slice none 0 0) ([] : List ByteArray) from HR.out.below hB2)
        have HB2 := Lib.hid (HB.out.trans (hB2.mono HB.out.size))
        obtain ⟨A2, c2, hv2, _, _⟩ := hT2
        have hT2 : TokAt w2 v2 (bareL (rs)) := ⟨A2, c2, hv2, ‹_›, ‹_›⟩
        subst hv2
        have HT2 := Lib.hid hT2
        clear hT2 hB2 HZ HM HR HB
        have m0 := HM2.out.c0
        have m1 := HM2.out.c1
        have m2 := HM2.out.c2
        have m3 := HM2.out.c3
        have m4 := HM2.out.c4
        have mf4 := HM2.out.fz 4
        go_wp2_with (fail)
        obtain ⟨W3, hW3⟩ : ∃ W3, w2.setCell ⟨w.heap.size + 1, 4, none⟩ (.slice A2 (bareL (rs)).length c2) = W3 := ⟨_, rfl⟩
        have hG3 : w2.grownBy W3 (some (w.heap.size + 1)) := by rw [← hW3]; exact grown_set (World.grownBy.refl w2 _) 4 _
        have HM3 := Lib.hid (show MBox W3 (w.heap.size + 1) t.f1 false (.slice none 0 0) false (.slice A2 (bareL (rs)).length c2) by rw [← hW3]; exact HM2.out.s4 _)
        have HZ3 := Lib.hid (kept_at hG3 HZ2.out (by simp))
        have HR3 := Lib.hid (show StrRow (w.heap.size + 2) W3 (.slice none 0 0) ([] : List ByteArray) from World.ownsRow.kept HR2.out hG3 (.inr (fun e => by have := (HR2.out.block _ e).1; omega)))
        have HT3 := Lib.hid (show TokAt W3 (.slice A2 (bareL (rs)).length c2) (bareL (rs)) from HT2.out.turn (HM2.out.noInt (by obtain ⟨_, _, h⟩ := HR2.out.slice; rw [h]; simp) (by simp)) (fun b hb hne => hG3.block b hb (by intro e; injection e with e; exact hne e)))
        have HB3 := Lib.hid (HB2.out.grown hG3 HB2.out.size (fun k e => by injection e with e; omega))
        have hfits : MacFits ⟨t.f1, false, ([] : List ByteArray), false, bareL (rs)⟩ := rawL_fits HS.out HRAW.out
        rw [hW3]
        clear hW3 hG3 m0 m1 m2 m3 m4 mf4 HM2 HZ2 HR2 HT2 HB2
        refine (right_any ⟨t.f1, false, ([] : List ByteArray), false, bareL (rs)⟩ hfits _ _ W3 HR3.out.at HT3.out (sig_below H1.out HB3.out) (max_below H2.out HB3.out h25) (by have := HB3.out.size; omega)).mono ?_
        rintro e w4 ⟨rfl, hB4⟩
        have HZ4 := Lib.hid ((hB4.block _ (Array.getElem?_eq_some_iff.1 HZ3.out).1).trans HZ3.out)
        have HM4 := Lib.hid (HM3.out.below hB4)
        have HR4 := Lib.hid (show StrRow (w.heap.size + 2) w4 (.slice none 0 0) ([] : List ByteArray) from HR3.out.below hB4)
        have HT4 := Lib.hid (HT3.out.below hB4)
        have HB4 := Lib.hid (HB3.out.trans (hB4.mono HB3.out.size))
        clear hB4 hfits HZ3 HM3 HR3 HT3 HB3
        have z0 : w4.cell? ⟨w.heap.size, 0, none⟩ = some (.string ⟨#[]⟩) := by simp [World.cell?, HZ4.out]
        have z1 : w4.cell? ⟨w.heap.size, 1, none⟩ = some (.bool false) := by simp [World.cell?, HZ4.out]
        have z2 : w4.cell? ⟨w.heap.size, 2, none⟩ = some (.slice none 0 0) := by simp [World.cell?, HZ4.out]
        have z3 : w4.cell? ⟨w.heap.size, 3, none⟩ = some (.bool false) := by simp [World.cell?, HZ4.out]
        have z4 : w4.cell? ⟨w.heap.size, 4, none⟩ = some (.slice none 0 0) := by simp [World.cell?, HZ4.out]
        have zf0 : w4.frozen? ⟨w.heap.size, 0, none⟩ = false := by simp [World.frozen?, HZ4.out]
        have zf1 : w4.frozen? ⟨w.heap.size, 1, none⟩ = false := by simp [World.frozen?, HZ4.out]
        have zf2 : w4.frozen? ⟨w.heap.size, 2, none⟩ = false := by simp [World.frozen?, HZ4.out]
        have zf3 : w4.frozen? ⟨w.heap.size, 3, none⟩ = false := by simp [World.frozen?, HZ4.out]
        have zf4 : w4.frozen? ⟨w.heap.size, 4, none⟩ = false := by simp [World.frozen?, HZ4.out]
        rcases bool_or (rightL ⟨t.f1, false, ([] : List ByteArray), false, bareL (rs)⟩) with hrt | hrt
        · have HNONE := Lib.hid (show parseL xs = none by unfold parseL; rw [HRAW.out]; simp [hrt])
          rw [hrt]
          clear hrt
          go_wp2
          exact BAD.out _ w4 rfl rfl HNONE.out HZ4.out HB4.out
        · have HSOME := Lib.hid (show parseL xs = some ⟨t.f1, false, ([] : List ByteArray), false, bareL (rs)⟩ by unfold parseL; rw [HRAW.out]; simp [hrt])
          rw [hrt]
          clear hrt
          have m0 := HM4.out.c0
          have m1 := HM4.out.c1
          have m2 := HM4.out.c2
          have m3 := HM4.out.c3
          have m4 := HM4.out.c4
          go_wp2
          have hh := set5_heap HZ4.out (.string t.f1) (.bool false) (.slice none 0 0) (.bool false) (.slice A2 (bareL (rs)).length c2)
          have hg := set5_grown w4 w.heap.size (.string t.f1) (.bool false) (.slice none 0 0) (.bool false) (.slice A2 (bareL (rs)).length c2)
          refine bodyPost_ret (v := .tuple #[.agg #[.string t.f1, .bool false, (.slice none 0 0), .bool false, .slice A2 (bareL (rs)).length c2], .int .i64 0]) ?_ rfl ⟨_, by unfold parseE; rw [HSOME.out]; rfl, ?_, set5_below HB4.out (Nat.le_refl _) _ _ _ _ _⟩
          · change (results Tryd.f18 _).run Tryd.prog (set5 w4 w.heap.size (.string t.f1) (.bool false) (.slice none 0 0) (.bool false) (.slice A2 (bareL (rs)).length c2)) = .ok _ (set5 w4 w.heap.size (.string t.f1) (.bool false) (.slice none 0 0) (.bool false) (.slice A2 (bareL (rs)).length c2))
            generalize set5 w4 w.heap.size (.string t.f1) (.bool false) (.slice none 0 0) (.bool false) (.slice A2 (bareL (rs)).length c2) = W6 at hh ⊢
            exact mac_results rfl hh rfl rfl
          · unfold parseM
            rw [HSOME.out]
            refine ⟨(.slice none 0 0), .slice A2 (bareL (rs)).length c2, rfl, ?_, ?_⟩
            · exact StrRow.at (show StrRow (w.heap.size + 2) _ (.slice none 0 0) ([] : List ByteArray) from World.ownsRow.kept HR4.out hg (.inr (fun e => by have := (HR4.out.block _ e).1; omega)))
            · refine TokAt.turn (g := w.heap.size) HT4.out (fun o k n => ?_) (fun b hb hne => hg.block b hb (by intro e; injection e with e; exact hne e))
              rcases o with _ | _ | _ | _ | _ | o
              · rw [z0]; simp
              · rw [z1]; simp
              · rw [z2]; simp
              · rw [z3]; simp
              · rw [z4]; simp
              · simp [World.cell?, HZ4.out]
      · have hn0' : 0 < rs.length := by omega
        have hn0'' : decide (0 < rs.length) = true := decide_eq_true hn0'
        have hn0e : ((rs.length : Int) == 0) = false := by rw [beq_eq_false_iff_ne]; omega
        obtain ⟨A7, c7, hA7, hc7, hr7⟩ := HX1.out
        have hC1 : Kd.C k62 w A1 rs.length rs := by injection hA7 with h1 _ _; rw [h1]; exact hr7
        clear hA7 hc7 hr7
        obtain ⟨ad1, p, hA1, hp, p0, p1, p2, p3, p4, p5⟩ := tok_cells hC1 (by omega : 0 < rs.length)
        cases hA1
        have s0 : ∀ o o', ((w.alloc o).alloc o').cell? ad1 = some (.int .i64 p.f0) := fun o o' => oldC o' (oldC o (by simpa [Addr.add] using p0))
        have s1 : ∀ o o', ((w.alloc o).alloc o').cell? ⟨ad1.block, ad1.off + 1, none⟩ = some (.string p.f1) := fun o o' => oldC o' (oldC o (by simpa [Addr.add] using p1))
        have s4 : ∀ o o', ((w.alloc o).alloc o').cell? ⟨ad1.block, ad1.off + 4, none⟩ = some (.bool p.f4) := fun o o' => oldC o' (oldC o (by simpa [Addr.add] using p4))
        obtain ⟨qs, hqs⟩ : ∃ qs, rs = p :: qs := by
          cases hxs : rs with
          | nil => rw [hxs] at hn0'; simp at hn0'
          | cons a r => exact ⟨r, by rw [hxs] at hp; rw [show a = p from hp]⟩
        have HQS := Lib.hid hqs
        have hql : rs.length = qs.length + 1 := by rw [hqs]; rfl
        have hdq : rs.drop 1 = qs := by rw [hqs]; rfl
        have HDQ := Lib.hid hdq
        have HQL := Lib.hid hql
        clear p0 p1 p2 p3 p4 p5 hp hC1 hn0 hqs hdq hql
        have hraw : rawL xs = if p.f4 then some ⟨t.f1, false, [], false, bareL rs⟩ else if bl p.f1 == [40] then (parL qs).map fun x => ⟨t.f1, true, x.1, x.2.1, bareL (qs.drop x.2.2)⟩ else none := by
          rw [HRS.out, HQS.out]; simp only [rawL]; rw [if_pos (by rw [HK.out]; rfl)]
        have HRW := Lib.hid hraw
        clear hraw
        rcases bool_or p.f4 with h4 | h4
        · have s4' : ∀ o o', ((w.alloc o).alloc o').cell? ⟨ad1.block, ad1.off + 4, none⟩ = some (.bool false) := fun o o' => by rw [s4, h4]
          have H4 := Lib.hid h4
          clear s4 h4
          by_cases h40 : p.f1.toList = [40]
          · have h40' : (p.f1.toList == [40]) = true := by rw [h40]; rfl
            have h40'' : (p.f1.toList != [40]) = false := by rw [h40]; rfl
            have HRW2 := Lib.hid (show rawL xs = (parL qs).map fun x => ⟨t.f1, true, x.1, x.2.1, bareL (qs.drop x.2.2)⟩ by rw [HRW.out, H4.out, ← toList_bl, h40']; rfl)
            clear h40
            have hsl2 := run_slice_tok (some ad1) rs.length (c - 1) 1 (by omega) (by have := HQL.out; omega)
            have hcut2 := HX1.out.cut 1 (by have := HQL.out; omega)
            rw [HDQ.out] at hcut2
            simp only [sliced, Int.reduceToNat] at hsl2 hcut2
            obtain ⟨A2, hA2⟩ : ∃ A2, A2 = (if c - 1 = 1 then some ad1 else (some ad1).map (·.add (1 * 6))) := ⟨_, rfl⟩
            rw [← hA2] at hsl2 hcut2
            have hln2 : rs.length - 1 = qs.length := by have := HQL.out; omega
            rw [hln2] at hsl2 hcut2
            have HX2 := Lib.hid hcut2
            clear hcut2 hA2 hln2
            go_wp2_with (fail)
            obtain ⟨W0, hW0⟩ : ∃ W0, (w.alloc (.cells #[.string ⟨#[]⟩, .bool false, .slice none 0 0, .bool false, .slice none 0 0] 46)).alloc (.cells #[.string t.f1, .bool true, .slice none 0 0, .bool false, .slice none 0 0] 46) = W0 := ⟨_, rfl⟩
            have hB0 : Below w.heap.size w W0 := by rw [← hW0]; exact ((Below.refl _ w).alloc (Nat.le_refl _) _).alloc (by simp) _
            have HZ := Lib.hid (show W0.heap[w.heap.size]? = some (.cells #[.string ⟨#[]⟩, .bool false, .slice none 0 0, .bool false, .slice none 0 0] 46 (0, 0)) by rw [← hW0]; exact hold_old (World.alloc_heap_new w _))
            have HM := Lib.hid (show MBox W0 (w.heap.size + 1) t.f1 true (.slice none 0 0) false (.slice none 0 0) by rw [← hW0]; exact hold_new (by simp))
            have hs0 : W0.heap.size = w.heap.size + 2 := by rw [← hW0]; simp
            have HB := Lib.hid hB0
            have HT := Lib.hid (HX2.out.below hB0)
            have HT1 := Lib.hid (HX1.out.below hB0)
            rw [hW0]
            clear hW0 hB0
            refine (pars_any qs (by have := HRL.out; have := HQL.out; omega) (w.heap.size + 1) t.f1 true _ (.slice none 0 0) (by simp) W0 HM.out HT.out).mono ?_
            rintro e w5 ⟨k, v', ps, more, rfl, hM5, hR5, hG5, hnone, hsome⟩
            rw [hs0] at hR5
            obtain ⟨Av, cv, hvv⟩ := hR5.slice
            subst hvv
            have HZ5 := Lib.hid (kept_at hG5 HZ.out (by simp))
            have HB5 := Lib.hid (HB.out.grown hG5 HB.out.size (fun k e => by injection e with e; omega))
            have HT5 := Lib.hid (HT1.out.turn (HM.out.noInt (by simp) (by simp)) (fun b hb hne => hG5.block b hb (by intro e; injection e with e; exact hne e)))
            have HM5 := Lib.hid hM5
            have HR5 := Lib.hid hR5
            clear hM5 hR5 hG5 HB HT HT1 HM
            cases hpar : parL qs with
            | none =>
              have hk0 := hnone hpar
              have hk0' : decide (k < 0) = true := decide_eq_true hk0
              have HNONE := Lib.hid (show parseL xs = none by unfold parseL; rw [HRW2.out, hpar]; rfl)
              have z0 : w5.cell? ⟨w.heap.size, 0, none⟩ = some (.string ⟨#[]⟩) := by simp [World.cell?, HZ5.out]
              have z1 : w5.cell? ⟨w.heap.size, 1, none⟩ = some (.bool false) := by simp [World.cell?, HZ5.out]
              have z2 : w5.cell? ⟨w.heap.size, 2, none⟩ = some (.slice none 0 0) := by simp [World.cell?, HZ5.out]
              have z3 : w5.cell? ⟨w.heap.size, 3, none⟩ = some (.bool false) := by simp [World.cell?, HZ5.out]
              have z4 : w5.cell? ⟨w.heap.size, 4, none⟩ = some (.slice none 0 0) := by simp [World.cell?, HZ5.out]
              have zf0 : w5.frozen? ⟨w.heap.size, 0, none⟩ = false := by simp [World.frozen?, HZ5.out]
              have zf1 : w5.frozen? ⟨w.heap.size, 1, none⟩ = false := by simp [World.frozen?, HZ5.out]
              have zf2 : w5.frozen? ⟨w.heap.size, 2, none⟩ = false := by simp [World.frozen?, HZ5.out]
              have zf3 : w5.frozen? ⟨w.heap.size, 3, none⟩ = false := by simp [World.frozen?, HZ5.out]
              have zf4 : w5.frozen? ⟨w.heap.size, 4, none⟩ = false := by simp [World.frozen?, HZ5.out]
              clear hpar hnone hsome HZ
              go_wp2
              exact BAD.out _ w5 rfl rfl HNONE.out HZ5.out HB5.out
            | some q =>
              obtain ⟨pl, pm, pn⟩ := q
              obtain ⟨e1, e2, e3⟩ := hsome _ hpar
              simp only at e1 e2 e3
              subst e1 e2 e3
              have hpf := (parL_fits hpar).1
              simp only at hpf
              have hk0 : ¬ ((pn : Int) < 0) := by omega
              have hk0' : decide ((pn : Int) < 0) = false := decide_eq_false hk0
              have HRAW := Lib.hid (show rawL xs = some ⟨t.f1, true, ps, more, bareL (qs.drop pn)⟩ by rw [HRW2.out, hpar]; rfl)
              have hb1 : (1 : Int) + (pn : Int) ≤ (rs.length : Int) := by have := HQL.out; omega
              have hsl3 := run_slice_tok (some ad1) rs.length (c - 1) (1 + (pn : Int)) (by omega) hb1
              have hcut3 := HT5.out.cut (1 + pn) (by omega)
              have hdd : rs.drop (1 + pn) = qs.drop pn := by rw [HQS.out, Nat.add_comm, List.drop_succ_cons]
              rw [hdd] at hcut3
              have htn : ((1 : Int) + (pn : Int)).toNat = 1 + pn := by omega
              rw [htn] at hsl3
              simp only [sliced] at hsl3 hcut3
              obtain ⟨A3, hA3⟩ : ∃ A3, A3 = (if c - 1 = 1 + pn then some ad1 else (some ad1).map (·.add ((1 + pn) * 6))) := ⟨_, rfl⟩
              rw [← hA3] at hsl3 hcut3
              have HT := Lib.hid hcut3
              have hpn : pn < 4294967281 := by have := HQL.out; have := HRL.out; omega
              clear hpar hnone hsome hpf HZ hcut3 hA3 hdd htn
              have HZ := HZ5
              have HB := HB5
              have HM := HM5
              have HR := HR5
              clear HZ5 HB5 HM5 HR5
              go_wp2_with (fail)
              have hyl : (qs.drop pn).length < 4294967296 := (by have := HRL.out; have := HQL.out; rw [List.length_drop]; omega)
              refine (bare_any (qs.drop pn) hyl _ w5 HT.out).mono ?_
              rintro e w2 ⟨v2, rfl, hT2, hB2⟩
              have HZ2 := Lib.hid ((hB2.block _ (Array.getElem?_eq_some_iff.1 HZ.out).1).trans HZ.out)
              have HM2 := Lib.hid (HM.out.below hB2)
              have HR2 := Lib.hid (show StrRow (w.heap.size + 2) w2 (.slice Av ps.length cv) ps from HR.out.below hB2)
              have HB2 := Lib.hid (HB.out.trans (hB2.mono HB.out.size))
              obtain ⟨A2, c2, hv2, _, _⟩ := hT2
              have hT2 : TokAt w2 v2 (bareL (qs.drop pn)) := ⟨A2, c2, hv2, ‹_›, ‹_›⟩
              subst hv2
              have HT2 := Lib.hid hT2
              clear hT2 hB2 HZ HM HR HB
              have m0 := HM2.out.c0
              have m1 := HM2.out.c1
              have m2 := HM2.out.c2
              have m3 := HM2.out.c3
              have m4 := HM2.out.c4
              have mf4 := HM2.out.fz 4
              go_wp2_with (fail)
              obtain ⟨W3, hW3⟩ : ∃ W3, w2.setCell ⟨w.heap.size + 1, 4, none⟩ (.slice A2 (bareL (qs.drop pn)).length c2) = W3 := ⟨_, rfl⟩
              have hG3 : w2.grownBy W3 (some (w.heap.size + 1)) := by rw [← hW3]; exact grown_set (World.grownBy.refl w2 _) 4 _
              have HM3 := Lib.hid (show MBox W3 (w.heap.size + 1) t.f1 true (.slice Av ps.length cv) more (.slice A2 (bareL (qs.drop pn)).length c2) by rw [← hW3]; exact HM2.out.s4 _)
              have HZ3 := Lib.hid (kept_at hG3 HZ2.out (by simp))
              have HR3 := Lib.hid (show StrRow (w.heap.size + 2) W3 (.slice Av ps.length cv) ps from World.ownsRow.kept HR2.out hG3 (.inr (fun e => by have := (HR2.out.block _ e).1; omega)))
              have HT3 := Lib.hid (show TokAt W3 (.slice A2 (bareL (qs.drop pn)).length c2) (bareL (qs.drop pn)) from HT2.out.turn (HM2.out.noInt (by obtain ⟨_, _, h⟩ := HR2.out.slice; rw [h]; simp) (by simp)) (fun b hb hne => hG3.block b hb (by intro e; injection e with e; exact hne e)))
              have HB3 := Lib.hid (HB2.out.grown hG3 HB2.out.size (fun k e => by injection e with e; omega))
              have hfits : MacFits ⟨t.f1, true, ps, more, bareL (qs.drop pn)⟩ := rawL_fits HS.out HRAW.out
              rw [hW3]
              clear hW3 hG3 m0 m1 m2 m3 m4 mf4 HM2 HZ2 HR2 HT2 HB2
              refine (right_any ⟨t.f1, true, ps, more, bareL (qs.drop pn)⟩ hfits _ _ W3 HR3.out.at HT3.out (sig_below H1.out HB3.out) (max_below H2.out HB3.out h25) (by have := HB3.out.size; omega)).mono ?_
              rintro e w4 ⟨rfl, hB4⟩
              have HZ4 := Lib.hid ((hB4.block _ (Array.getElem?_eq_some_iff.1 HZ3.out).1).trans HZ3.out)
              have HM4 := Lib.hid (HM3.out.below hB4)
              have HR4 := Lib.hid (show StrRow (w.heap.size + 2) w4 (.slice Av ps.length cv) ps from HR3.out.below hB4)
              have HT4 := Lib.hid (HT3.out.below hB4)
              have HB4 := Lib.hid (HB3.out.trans (hB4.mono HB3.out.size))
              clear hB4 hfits HZ3 HM3 HR3 HT3 HB3
              have z0 : w4.cell? ⟨w.heap.size, 0, none⟩ = some (.string ⟨#[]⟩) := by simp [World.cell?, HZ4.out]
              have z1 : w4.cell? ⟨w.heap.size, 1, none⟩ = some (.bool false) := by simp [World.cell?, HZ4.out]
              have z2 : w4.cell? ⟨w.heap.size, 2, none⟩ = some (.slice none 0 0) := by simp [World.cell?, HZ4.out]
              have z3 : w4.cell? ⟨w.heap.size, 3, none⟩ = some (.bool false) := by simp [World.cell?, HZ4.out]
              have z4 : w4.cell? ⟨w.heap.size, 4, none⟩ = some (.slice none 0 0) := by simp [World.cell?, HZ4.out]
              have zf0 : w4.frozen? ⟨w.heap.size, 0, none⟩ = false := by simp [World.frozen?, HZ4.out]
              have zf1 : w4.frozen? ⟨w.heap.size, 1, none⟩ = false := by simp [World.frozen?, HZ4.out]
              have zf2 : w4.frozen? ⟨w.heap.size, 2, none⟩ = false := by simp [World.frozen?, HZ4.out]
              have zf3 : w4.frozen? ⟨w.heap.size, 3, none⟩ = false := by simp [World.frozen?, HZ4.out]
              have zf4 : w4.frozen? ⟨w.heap.size, 4, none⟩ = false := by simp [World.frozen?, HZ4.out]
              rcases bool_or (rightL ⟨t.f1, true, ps, more, bareL (qs.drop pn)⟩) with hrt | hrt
              · have HNONE := Lib.hid (show parseL xs = none by unfold parseL; rw [HRAW.out]; simp [hrt])
                rw [hrt]
                clear hrt
                go_wp2
                exact BAD.out _ w4 rfl rfl HNONE.out HZ4.out HB4.out
              · have HSOME := Lib.hid (show parseL xs = some ⟨t.f1, true, ps, more, bareL (qs.drop pn)⟩ by unfold parseL; rw [HRAW.out]; simp [hrt])
                rw [hrt]
                clear hrt
                have m0 := HM4.out.c0
                have m1 := HM4.out.c1
                have m2 := HM4.out.c2
                have m3 := HM4.out.c3
                have m4 := HM4.out.c4
                go_wp2
                have hh := set5_heap HZ4.out (.string t.f1) (.bool true) (.slice Av ps.length cv) (.bool more) (.slice A2 (bareL (qs.drop pn)).length c2)
                have hg := set5_grown w4 w.heap.size (.string t.f1) (.bool true) (.slice Av ps.length cv) (.bool more) (.slice A2 (bareL (qs.drop pn)).length c2)
                refine bodyPost_ret (v := .tuple #[.agg #[.string t.f1, .bool true, (.slice Av ps.length cv), .bool more, .slice A2 (bareL (qs.drop pn)).length c2], .int .i64 0]) ?_ rfl ⟨_, by unfold parseE; rw [HSOME.out]; rfl, ?_, set5_below HB4.out (Nat.le_refl _) _ _ _ _ _⟩
                · change (results Tryd.f18 _).run Tryd.prog (set5 w4 w.heap.size (.string t.f1) (.bool true) (.slice Av ps.length cv) (.bool more) (.slice A2 (bareL (qs.drop pn)).length c2)) = .ok _ (set5 w4 w.heap.size (.string t.f1) (.bool true) (.slice Av ps.length cv) (.bool more) (.slice A2 (bareL (qs.drop pn)).length c2))
                  generalize set5 w4 w.heap.size (.string t.f1) (.bool true) (.slice Av ps.length cv) (.bool more) (.slice A2 (bareL (qs.drop pn)).length c2) = W6 at hh ⊢
                  exact mac_results rfl hh rfl rfl
                · unfold parseM
                  rw [HSOME.out]
                  refine ⟨(.slice Av ps.length cv), .slice A2 (bareL (qs.drop pn)).length c2, rfl, ?_, ?_⟩
                  · exact StrRow.at (show StrRow (w.heap.size + 2) _ (.slice Av ps.length cv) ps from World.ownsRow.kept HR4.out hg (.inr (fun e => by have := (HR4.out.block _ e).1; omega)))
                  · refine TokAt.turn (g := w.heap.size) HT4.out (fun o k n => ?_) (fun b hb hne => hg.block b hb (by intro e; injection e with e; exact hne e))
                    rcases o with _ | _ | _ | _ | _ | o
                    · rw [z0]; simp
                    · rw [z1]; simp
                    · rw [z2]; simp
                    · rw [z3]; simp
                    · rw [z4]; simp
                    · simp [World.cell?, HZ4.out]
          · have h40' : (p.f1.toList == [40]) = false := by rw [beq_eq_false_iff_ne]; exact h40
            have h40'' : (p.f1.toList != [40]) = true := by rw [bne_iff_ne]; exact h40
            have HNONE := Lib.hid (show parseL xs = none by unfold parseL; rw [HRW.out, H4.out, ← toList_bl, h40']; rfl)
            clear h40
            go_wp2
            exact BAD0.out _ _ rfl rfl HNONE.out (hold_old HZW.out) (((Below.refl _ w).alloc (Nat.le_refl _) _).alloc (by simp) _)
        · have s4' : ∀ o o', ((w.alloc o).alloc o').cell? ⟨ad1.block, ad1.off + 4, none⟩ = some (.bool true) := fun o o' => by rw [s4, h4]
          have HRAW := Lib.hid (show rawL xs = some ⟨t.f1, false, [], false, bareL rs⟩ by rw [HRW.out, h4]; rfl)
          clear s4 h4
          rcases bool_or (p.f1.toList == [40]) with h40 | h40
          · have h40'' : (p.f1.toList != [40]) = true := by simpa [bne] using h40
            go_wp2_with (fail)
            obtain ⟨W0, hW0⟩ : ∃ W0, (w.alloc (.cells #[.string ⟨#[]⟩, .bool false, .slice none 0 0, .bool false, .slice none 0 0] 46)).alloc (.cells #[.string t.f1, .bool false, .slice none 0 0, .bool false, .slice none 0 0] 46) = W0 := ⟨_, rfl⟩
            have hB0 : Below w.heap.size w W0 := by rw [← hW0]; exact ((Below.refl _ w).alloc (Nat.le_refl _) _).alloc (by simp) _
            have HZ := Lib.hid (show W0.heap[w.heap.size]? = some (.cells #[.string ⟨#[]⟩, .bool false, .slice none 0 0, .bool false, .slice none 0 0] 46 (0, 0)) by rw [← hW0]; exact hold_old (World.alloc_heap_new w _))
            have HM := Lib.hid (show MBox W0 (w.heap.size + 1) t.f1 false (.slice none 0 0) false (.slice none 0 0) by rw [← hW0]; exact hold_new (by simp))
            have hs0 : W0.heap.size = w.heap.size + 2 := by rw [← hW0]; simp
            have HB := Lib.hid hB0
            have HT := Lib.hid (HX1.out.below hB0)
            have HR := Lib.hid (StrRow.nil (w.heap.size + 2) W0)
            rw [hW0]
            clear hW0 hB0
            have hyl : (rs).length < 4294967296 := (by have := HRL.out; omega)
            refine (bare_any (rs) hyl _ W0 HT.out).mono ?_
            rintro e w2 ⟨v2, rfl, hT2, hB2⟩
            have HZ2 := Lib.hid ((hB2.block _ (Array.getElem?_eq_some_iff.1 HZ.out).1).trans HZ.out)
            have HM2 := Lib.hid (HM.out.below hB2)
            have HR2 := Lib.hid (show StrRow (w.heap.size + 2) w2 (.slice none 0 0) ([] : List ByteArray) from HR.out.below hB2)
            have HB2 := Lib.hid (HB.out.trans (hB2.mono HB.out.size))
            obtain ⟨A2, c2, hv2, _, _⟩ := hT2
            have hT2 : TokAt w2 v2 (bareL (rs)) := ⟨A2, c2, hv2, ‹_›, ‹_›⟩
            subst hv2
            have HT2 := Lib.hid hT2
            clear hT2 hB2 HZ HM HR HB
            have m0 := HM2.out.c0
            have m1 := HM2.out.c1
            have m2 := HM2.out.c2
            have m3 := HM2.out.c3
            have m4 := HM2.out.c4
            have mf4 := HM2.out.fz 4
            go_wp2_with (fail)
            obtain ⟨W3, hW3⟩ : ∃ W3, w2.setCell ⟨w.heap.size + 1, 4, none⟩ (.slice A2 (bareL (rs)).length c2) = W3 := ⟨_, rfl⟩
            have hG3 : w2.grownBy W3 (some (w.heap.size + 1)) := by rw [← hW3]; exact grown_set (World.grownBy.refl w2 _) 4 _
            have HM3 := Lib.hid (show MBox W3 (w.heap.size + 1) t.f1 false (.slice none 0 0) false (.slice A2 (bareL (rs)).length c2) by rw [← hW3]; exact HM2.out.s4 _)
            have HZ3 := Lib.hid (kept_at hG3 HZ2.out (by simp))
            have HR3 := Lib.hid (show StrRow (w.heap.size + 2) W3 (.slice none 0 0) ([] : List ByteArray) from World.ownsRow.kept HR2.out hG3 (.inr (fun e => by have := (HR2.out.block _ e).1; omega)))
            have HT3 := Lib.hid (show TokAt W3 (.slice A2 (bareL (rs)).length c2) (bareL (rs)) from HT2.out.turn (HM2.out.noInt (by obtain ⟨_, _, h⟩ := HR2.out.slice; rw [h]; simp) (by simp)) (fun b hb hne => hG3.block b hb (by intro e; injection e with e; exact hne e)))
            have HB3 := Lib.hid (HB2.out.grown hG3 HB2.out.size (fun k e => by injection e with e; omega))
            have hfits : MacFits ⟨t.f1, false, ([] : List ByteArray), false, bareL (rs)⟩ := rawL_fits HS.out HRAW.out
            rw [hW3]
            clear hW3 hG3 m0 m1 m2 m3 m4 mf4 HM2 HZ2 HR2 HT2 HB2
            refine (right_any ⟨t.f1, false, ([] : List ByteArray), false, bareL (rs)⟩ hfits _ _ W3 HR3.out.at HT3.out (sig_below H1.out HB3.out) (max_below H2.out HB3.out h25) (by have := HB3.out.size; omega)).mono ?_
            rintro e w4 ⟨rfl, hB4⟩
            have HZ4 := Lib.hid ((hB4.block _ (Array.getElem?_eq_some_iff.1 HZ3.out).1).trans HZ3.out)
            have HM4 := Lib.hid (HM3.out.below hB4)
            have HR4 := Lib.hid (show StrRow (w.heap.size + 2) w4 (.slice none 0 0) ([] : List ByteArray) from HR3.out.below hB4)
            have HT4 := Lib.hid (HT3.out.below hB4)
            have HB4 := Lib.hid (HB3.out.trans (hB4.mono HB3.out.size))
            clear hB4 hfits HZ3 HM3 HR3 HT3 HB3
            have z0 : w4.cell? ⟨w.heap.size, 0, none⟩ = some (.string ⟨#[]⟩) := by simp [World.cell?, HZ4.out]
            have z1 : w4.cell? ⟨w.heap.size, 1, none⟩ = some (.bool false) := by simp [World.cell?, HZ4.out]
            have z2 : w4.cell? ⟨w.heap.size, 2, none⟩ = some (.slice none 0 0) := by simp [World.cell?, HZ4.out]
            have z3 : w4.cell? ⟨w.heap.size, 3, none⟩ = some (.bool false) := by simp [World.cell?, HZ4.out]
            have z4 : w4.cell? ⟨w.heap.size, 4, none⟩ = some (.slice none 0 0) := by simp [World.cell?, HZ4.out]
            have zf0 : w4.frozen? ⟨w.heap.size, 0, none⟩ = false := by simp [World.frozen?, HZ4.out]
            have zf1 : w4.frozen? ⟨w.heap.size, 1, none⟩ = false := by simp [World.frozen?, HZ4.out]
            have zf2 : w4.frozen? ⟨w.heap.size, 2, none⟩ = false := by simp [World.frozen?, HZ4.out]
            have zf3 : w4.frozen? ⟨w.heap.size, 3, none⟩ = false := by simp [World.frozen?, HZ4.out]
            have zf4 : w4.frozen? ⟨w.heap.size, 4, none⟩ = false := by simp [World.frozen?, HZ4.out]
            rcases bool_or (rightL ⟨t.f1, false, ([] : List ByteArray), false, bareL (rs)⟩) with hrt | hrt
            · have HNONE := Lib.hid (show parseL xs = none by unfold parseL; rw [HRAW.out]; simp [hrt])
              rw [hrt]
              clear hrt
              go_wp2
              exact BAD.out _ w4 rfl rfl HNONE.out HZ4.out HB4.out
            · have HSOME := Lib.hid (show parseL xs = some ⟨t.f1, false, ([] : List ByteArray), false, bareL (rs)⟩ by unfold parseL; rw [HRAW.out]; simp [hrt])
              rw [hrt]
              clear hrt
              have m0 := HM4.out.c0
              have m1 := HM4.out.c1
              have m2 := HM4.out.c2
              have m3 := HM4.out.c3
              have m4 := HM4.out.c4
              go_wp2
              have hh := set5_heap HZ4.out (.string t.f1) (.bool false) (.slice none 0 0) (.bool false) (.slice A2 (bareL (rs)).length c2)
              have hg := set5_grown w4 w.heap.size (.string t.f1) (.bool false) (.slice none 0 0) (.bool false) (.slice A2 (bareL (rs)).length c2)
              refine bodyPost_ret (v := .tuple #[.agg #[.string t.f1, .bool false, (.slice none 0 0), .bool false, .slice A2 (bareL (rs)).length c2], .int .i64 0]) ?_ rfl ⟨_, by unfold parseE; rw [HSOME.out]; rfl, ?_, set5_below HB4.out (Nat.le_refl _) _ _ _ _ _⟩
              · change (results Tryd.f18 _).run Tryd.prog (set5 w4 w.heap.size (.string t.f1) (.bool false) (.slice none 0 0) (.bool false) (.slice A2 (bareL (rs)).length c2)) = .ok _ (set5 w4 w.heap.size (.string t.f1) (.bool false) (.slice none 0 0) (.bool false) (.slice A2 (bareL (rs)).length c2))
                generalize set5 w4 w.heap.size (.string t.f1) (.bool false) (.slice none 0 0) (.bool false) (.slice A2 (bareL (rs)).length c2) = W6 at hh ⊢
                exact mac_results rfl hh rfl rfl
              · unfold parseM
                rw [HSOME.out]
                refine ⟨(.slice none 0 0), .slice A2 (bareL (rs)).length c2, rfl, ?_, ?_⟩
                · exact StrRow.at (show StrRow (w.heap.size + 2) _ (.slice none 0 0) ([] : List ByteArray) from World.ownsRow.kept HR4.out hg (.inr (fun e => by have := (HR4.out.block _ e).1; omega)))
                · refine TokAt.turn (g := w.heap.size) HT4.out (fun o k n => ?_) (fun b hb hne => hg.block b hb (by intro e; injection e with e; exact hne e))
                  rcases o with _ | _ | _ | _ | _ | o
                  · rw [z0]; simp
                  · rw [z1]; simp
                  · rw [z2]; simp
                  · rw [z3]; simp
                  · rw [z4]; simp
                  · simp [World.cell?, HZ4.out]
          · have h40'' : (p.f1.toList != [40]) = false := by simpa [bne] using h40
            go_wp2_with (fail)
            obtain ⟨W0, hW0⟩ : ∃ W0, (w.alloc (.cells #[.string ⟨#[]⟩, .bool false, .slice none 0 0, .bool false, .slice none 0 0] 46)).alloc (.cells #[.string t.f1, .bool false, .slice none 0 0, .bool false, .slice none 0 0] 46) = W0 := ⟨_, rfl⟩
            have hB0 : Below w.heap.size w W0 := by rw [← hW0]; exact ((Below.refl _ w).alloc (Nat.le_refl _) _).alloc (by simp) _
            have HZ := Lib.hid (show W0.heap[w.heap.size]? = some (.cells #[.string ⟨#[]⟩, .bool false, .slice none 0 0, .bool false, .slice none 0 0] 46 (0, 0)) by rw [← hW0]; exact hold_old (World.alloc_heap_new w _))
            have HM := Lib.hid (show MBox W0 (w.heap.size + 1) t.f1 false (.slice none 0 0) false (.slice none 0 0) by rw [← hW0]; exact hold_new (by simp))
            have hs0 : W0.heap.size = w.heap.size + 2 := by rw [← hW0]; simp
            have HB := Lib.hid hB0
            have HT := Lib.hid (HX1.out.below hB0)
            have HR := Lib.hid (StrRow.nil (w.heap.size + 2) W0)
            rw [hW0]
            clear hW0 hB0
            have hyl : (rs).length < 4294967296 := (by have := HRL.out; omega)
            refine (bare_any (rs) hyl _ W0 HT.out).mono ?_
            rintro e w2 ⟨v2, rfl, hT2, hB2⟩
            have HZ2 := Lib.hid ((hB2.block _ (Array.getElem?_eq_some_iff.1 HZ.out).1).trans HZ.out)
            have HM2 := Lib.hid (HM.out.below hB2)
            have HR2 := Lib.hid (show StrRow (w.heap.size + 2) w2 (.slice none 0 0) ([] : List ByteArray) from HR.out.below hB2)
            have HB2 := Lib.hid (HB.out.trans (hB2.mono HB.out.size))
            obtain ⟨A2, c2, hv2, _, _⟩ := hT2
            have hT2 : TokAt w2 v2 (bareL (rs)) := ⟨A2, c2, hv2, ‹_›, ‹_›⟩
            subst hv2
            have HT2 := Lib.hid hT2
            clear hT2 hB2 HZ HM HR HB
            have m0 := HM2.out.c0
            have m1 := HM2.out.c1
            have m2 := HM2.out.c2
            have m3 := HM2.out.c3
            have m4 := HM2.out.c4
            have mf4 := HM2.out.fz 4
            go_wp2_with (fail)
            obtain ⟨W3, hW3⟩ : ∃ W3, w2.setCell ⟨w.heap.size + 1, 4, none⟩ (.slice A2 (bareL (rs)).length c2) = W3 := ⟨_, rfl⟩
            have hG3 : w2.grownBy W3 (some (w.heap.size + 1)) := by rw [← hW3]; exact grown_set (World.grownBy.refl w2 _) 4 _
            have HM3 := Lib.hid (show MBox W3 (w.heap.size + 1) t.f1 false (.slice none 0 0) false (.slice A2 (bareL (rs)).length c2) by rw [← hW3]; exact HM2.out.s4 _)
            have HZ3 := Lib.hid (kept_at hG3 HZ2.out (by simp))
            have HR3 := Lib.hid (show StrRow (w.heap.size + 2) W3 (.slice none 0 0) ([] : List ByteArray) from World.ownsRow.kept HR2.out hG3 (.inr (fun e => by have := (HR2.out.block _ e).1; omega)))
            have HT3 := Lib.hid (show TokAt W3 (.slice A2 (bareL (rs)).length c2) (bareL (rs)) from HT2.out.turn (HM2.out.noInt (by obtain ⟨_, _, h⟩ := HR2.out.slice; rw [h]; simp) (by simp)) (fun b hb hne => hG3.block b hb (by intro e; injection e with e; exact hne e)))
            have HB3 := Lib.hid (HB2.out.grown hG3 HB2.out.size (fun k e => by injection e with e; omega))
            have hfits : MacFits ⟨t.f1, false, ([] : List ByteArray), false, bareL (rs)⟩ := rawL_fits HS.out HRAW.out
            rw [hW3]
            clear hW3 hG3 m0 m1 m2 m3 m4 mf4 HM2 HZ2 HR2 HT2 HB2
            refine (right_any ⟨t.f1, false, ([] : List ByteArray), false, bareL (rs)⟩ hfits _ _ W3 HR3.out.at HT3.out (sig_below H1.out HB3.out) (max_below H2.out HB3.out h25) (by have := HB3.out.size; omega)).mono ?_
            rintro e w4 ⟨rfl, hB4⟩
            have HZ4 := Lib.hid ((hB4.block _ (Array.getElem?_eq_some_iff.1 HZ3.out).1).trans HZ3.out)
            have HM4 := Lib.hid (HM3.out.below hB4)
            have HR4 := Lib.hid (show StrRow (w.heap.size + 2) w4 (.slice none 0 0) ([] : List ByteArray) from HR3.out.below hB4)
            have HT4 := Lib.hid (HT3.out.below hB4)
            have HB4 := Lib.hid (HB3.out.trans (hB4.mono HB3.out.size))
            clear hB4 hfits HZ3 HM3 HR3 HT3 HB3
            have z0 : w4.cell? ⟨w.heap.size, 0, none⟩ = some (.string ⟨#[]⟩) := by simp [World.cell?, HZ4.out]
            have z1 : w4.cell? ⟨w.heap.size, 1, none⟩ = some (.bool false) := by simp [World.cell?, HZ4.out]
            have z2 : w4.cell? ⟨w.heap.size, 2, none⟩ = some (.slice none 0 0) := by simp [World.cell?, HZ4.out]
            have z3 : w4.cell? ⟨w.heap.size, 3, none⟩ = some (.bool false) := by simp [World.cell?, HZ4.out]
            have z4 : w4.cell? ⟨w.heap.size, 4, none⟩ = some (.slice none 0 0) := by simp [World.cell?, HZ4.out]
            have zf0 : w4.frozen? ⟨w.heap.size, 0, none⟩ = false := by simp [World.frozen?, HZ4.out]
            have zf1 : w4.frozen? ⟨w.heap.size, 1, none⟩ = false := by simp [World.frozen?, HZ4.out]
            have zf2 : w4.frozen? ⟨w.heap.size, 2, none⟩ = false := by simp [World.frozen?, HZ4.out]
            have zf3 : w4.frozen? ⟨w.heap.size, 3, none⟩ = false := by simp [World.frozen?, HZ4.out]
            have zf4 : w4.frozen? ⟨w.heap.size, 4, none⟩ = false := by simp [World.frozen?, HZ4.out]
            rcases bool_or (rightL ⟨t.f1, false, ([] : List ByteArray), false, bareL (rs)⟩) with hrt | hrt
            · have HNONE := Lib.hid (show parseL xs = none by unfold parseL; rw [HRAW.out]; simp [hrt])
              rw [hrt]
              clear hrt
              go_wp2
              exact BAD.out _ w4 rfl rfl HNONE.out HZ4.out HB4.out
            · have HSOME := Lib.hid (show parseL xs = some ⟨t.f1, false, ([] : List ByteArray), false, bareL (rs)⟩ by unfold parseL; rw [HRAW.out]; simp [hrt])
              rw [hrt]
              clear hrt
              have m0 := HM4.out.c0
              have m1 := HM4.out.c1
              have m2 := HM4.out.c2
              have m3 := HM4.out.c3
              have m4 := HM4.out.c4
              go_wp2
              have hh := set5_heap HZ4.out (.string t.f1) (.bool false) (.slice none 0 0) (.bool false) (.slice A2 (bareL (rs)).length c2)
              have hg := set5_grown w4 w.heap.size (.string t.f1) (.bool false) (.slice none 0 0) (.bool false) (.slice A2 (bareL (rs)).length c2)
              refine bodyPost_ret (v := .tuple #[.agg #[.string t.f1, .bool false, (.slice none 0 0), .bool false, .slice A2 (bareL (rs)).length c2], .int .i64 0]) ?_ rfl ⟨_, by unfold parseE; rw [HSOME.out]; rfl, ?_, set5_below HB4.out (Nat.le_refl _) _ _ _ _ _⟩
              · change (results Tryd.f18 _).run Tryd.prog (set5 w4 w.heap.size (.string t.f1) (.bool false) (.slice none 0 0) (.bool false) (.slice A2 (bareL (rs)).length c2)) = .ok _ (set5 w4 w.heap.size (.string t.f1) (.bool false) (.slice none 0 0) (.bool false) (.slice A2 (bareL (rs)).length c2))
                generalize set5 w4 w.heap.size (.string t.f1) (.bool false) (.slice none 0 0) (.bool false) (.slice A2 (bareL (rs)).length c2) = W6 at hh ⊢
                exact mac_results rfl hh rfl rfl
              · unfold parseM
                rw [HSOME.out]
                refine ⟨(.slice none 0 0), .slice A2 (bareL (rs)).length c2, rfl, ?_, ?_⟩
                · exact StrRow.at (show StrRow (w.heap.size + 2) _ (.slice none 0 0) ([] : List ByteArray) from World.ownsRow.kept HR4.out hg (.inr (fun e => by have := (HR4.out.block _ e).1; omega)))
                · refine TokAt.turn (g := w.heap.size) HT4.out (fun o k n => ?_) (fun b hb hne => hg.block b hb (by intro e; injection e with e; exact hne e))
                  rcases o with _ | _ | _ | _ | _ | o
                  · rw [z0]; simp
                  · rw [z1]; simp
                  · rw [z2]; simp
                  · rw [z3]; simp
                  · rw [z4]; simp
                  · simp [World.cell?, HZ4.out]
    · have hk' : (t.f0 != 1) = true := by simpa using hk
      have HNONE := Lib.hid (show parseL xs = none by rw [HRS.out]; unfold parseL; simp only [rawL]; rw [if_neg (by rw [beq_iff_eq]; exact hk)]; rfl)
      clear hk
      go_wp2
      exact BAD0.out _ _ rfl rfl HNONE.out HZW.out ((Below.refl _ w).alloc (Nat.le_refl _) _)
end Go.Proofs.YthifdcakhdckfaaDoor

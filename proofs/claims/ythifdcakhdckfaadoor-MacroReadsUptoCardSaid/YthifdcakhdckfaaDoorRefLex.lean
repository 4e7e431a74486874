/-
  Walks: the reference's Lex of one line; One of both sides.
-/
import Derived.Test.YthifdcakhdckfaaDoorLex
import Derived.Test.YthifdcakhdckfaaDoorRefLine
namespace Go.Proofs.YthifdcakhdckfaaDoor
open Go.RowKit Go.Proofs.YthifdcakhdckfaaDoorW.PrintWords
open PMacroWords (S62)
set_option linter.unusedVariables false
set_option linter.unusedSimpArgs false

theorem results_tmp3 {fn : Func} {t u v : Tmp} (h : fn.results = #[.tmp t, .tmp u, .tmp v]) (tmps : Array Value) (P : Program) (w : World) :
    (results fn tmps).run P w = .ok (.tuple #[tmps.getD t undef, tmps.getD u undef, tmps.getD v undef]) w := by
  simp [results, h]
theorem TokRow.base {n n' : Nat} {W : World} {v : Value} {xs : List S62} (h : TokRow n W v xs) (hn : n' ≤ n) : TokRow n' W v xs := by
  refine ⟨h.1, h.2.imp id ?_⟩
  rintro ⟨g, cap, cur, h1, h2, h3⟩
  exact ⟨g, cap, cur, h1, by omega, h3⟩
set_option maxRecDepth 100000 in
set_option maxHeartbeats 4000000 in
theorem refLex_any (b c : Nat) (S : ByteArray) (hS : S.size < 4294967281) (line : Int) (w : World) (hb : w.heap[b]? = some (.cells #[.int .i64 line, .string S] 42 (0, 0))) :
    Calls Tryd.prog 177 #[.slice (some ⟨b, 0, none⟩) 1 c] w fun e w' =>
      ∃ v at_ xs, e = .returned (.tuple #[v, .int .i64 (Lx.lex (bl S)).1, .int .i64 at_]) ∧ TokRow w.heap.size w' v xs ∧ (Lx.lex (bl S)).2 = xs.map tk ∧ (∀ x ∈ xs, x.f2 = ⟨#[]⟩ ∧ x.f3 = line) ∧ Below w.heap.size w w' := by
  have b0 : w.cell? ⟨b, 0, none⟩ = some (.int .i64 line) := by simp [World.cell?, hb]
  have b1 : w.cell? ⟨b, 1, none⟩ = some (.string S) := by simp [World.cell?, hb]
  have hbl := (Array.getElem?_eq_some_iff.1 hb).1
  go_enter Tryd.func177, Tryd.ntmps177
  go_wp2
  obtain ⟨W0, hW0⟩ : ∃ W0, w.alloc (.cells #[.slice none 0 0, .bool false, .bool false, .bool false, .int .i64 0] 289) = W0 := ⟨_, rfl⟩
  have hr0 : RefIs W0 w.heap.size (.slice none 0 0) false false false 0 := by rw [← hW0]; exact World.alloc_heap_new w _
  have hB0 : Below w.heap.size w W0 := by rw [← hW0]; exact (Below.refl _ w).alloc (Nat.le_refl _) _
  have d0 := (World.cell?_of_block (hB0.block b hbl)).trans b0
  have d1 := (World.cell?_of_block (hB0.block b hbl)).trans b1
  refine wp_loop_rounds 2 ?_
  rw [rounds_succ]
  try rw [hW0]
  clear hW0
  go_wp2_with (fail)
  refine (line_any S hS w.heap.size line 0 false false W0 hr0).mono ?_
  rintro e w1 ⟨code, v, sp, fi, o, fr, xs, rfl, hst, hrow0, hcase, hrest, hg⟩
  have hrow : TokRow w.heap.size w1 v xs := hrow0.base hB0.size
  have hB1 : Below w.heap.size w w1 := hB0.grown hg hB0.size (fun k e => by injection e with e; omega)
  have c3 := hst.c3
  have c4 := hst.c4
  have c0 := hst.c0
  have e0 := (World.cell?_of_block (hB1.block b hbl)).trans b0
  have HC := Lib.hid hcase
  have HR := Lib.hid (And.intro hrow hrest)
  clear hrow0 hg hst hcase hrow hrest d0 d1 b0 b1
  rcases HC.out with ⟨hc, _⟩ | ⟨hc | hc, _⟩
  · subst hc
    go_wp2
    rw [rounds_succ]
    have hl : Lx.lex (bl S) = if o then (20, []) else (0, xs.map tk) := by
      rcases HC.out with ⟨_, h⟩ | ⟨h | h, _⟩
      · exact h
      · cases h
      · cases h
    have HL := Lib.hid hl
    clear hl HC
    cases o with
    | true =>
      go_wp2
      go_region
      go_wp2
      (try simp only [Exit.inBlock, Exit.then])
      refine bodyPost_ret (results_tmp3 rfl _ _ _) rfl ?_
      exact ⟨.slice none 0 0, fr, [], by rw [HL.out]; rfl, World.ownsRow_nil _ _ _ _, by rw [HL.out]; rfl, by simp, hB1.drew⟩
    | false =>
      go_wp2
      (try simp only [Exit.inBlock, Exit.then])
      refine bodyPost_ret (results_tmp3 rfl _ _ _) rfl ?_
      exact ⟨v, 0, xs, by rw [HL.out]; rfl, HR.out.1, by rw [HL.out]; rfl, HR.out.2, hB1⟩
  · subst hc
    have hl : Lx.lex (bl S) = (21, []) := by
      rcases HC.out with ⟨h, _⟩ | ⟨_, h⟩
      · cases h
      · exact h
    have HL := Lib.hid hl
    clear hl HC
    go_wp2
    go_region
    go_wp2
    (try simp only [Exit.inBlock, Exit.then])
    refine bodyPost_ret (results_tmp3 rfl _ _ _) rfl ?_
    exact ⟨.slice none 0 0, line, [], by rw [HL.out]; rfl, World.ownsRow_nil _ _ _ _, by rw [HL.out]; rfl, by simp, hB1.drew⟩
  · subst hc
    have hl : Lx.lex (bl S) = (22, []) := by
      rcases HC.out with ⟨h, _⟩ | ⟨_, h⟩
      · cases h
      · exact h
    have HL := Lib.hid hl
    clear hl HC
    go_wp2
    go_region
    go_wp2
    (try simp only [Exit.inBlock, Exit.then])
    refine bodyPost_ret (results_tmp3 rfl _ _ _) rfl ?_
    exact ⟨.slice none 0 0, line, [], by rw [HL.out]; rfl, World.ownsRow_nil _ _ _ _, by rw [HL.out]; rfl, by simp, hB1.drew⟩

theorem lex_any (b c : Nat) (S : ByteArray) (hS : S.size < 4294967281) (line : Int) (w : World)
    (hb : w.heap[b]? = some (.cells #[.int .i64 line, .string S] 42 (0, 0))) (hsig : SigIs w) (hmax : MaxIs w) (h25 : 5 < w.heap.size) :
    Calls Tryd.prog 17 #[.slice (some ⟨b, 0, none⟩) 1 c] w fun e w' =>
      ∃ v at_ xs, e = .returned (.tuple #[v, .int .i64 (Lx.lex (bl S)).1, .int .i64 at_]) ∧ TokRow w.heap.size w' v xs ∧ (Lx.lex (bl S)).2 = xs.map tk ∧ (∀ x ∈ xs, x.f2 = ⟨#[]⟩ ∧ x.f3 = line) ∧ Below w.heap.size w w' :=
  callsIn_wide.1 (lex_in 4 (Nat.le_refl _) b c S hS line w hb hsig hmax h25)
theorem sig_below {w w' : World} (h : SigIs w) (hb : Below w.heap.size w w') : SigIs w' := by
  obtain ⟨t, fr, hs⟩ := h
  exact ⟨t, fr, (hb.block 2 (Array.getElem?_eq_some_iff.1 hs).1).trans hs⟩
theorem max_below {w w' : World} (h : MaxIs w) (hb : Below w.heap.size w w') (h5 : 5 < w.heap.size) : MaxIs w' := by
  obtain ⟨m, hm⟩ := h
  exact ⟨m, (World.cell?_of_block (hb.block 5 h5)).trans hm⟩
/-! ### One -/
def oneOk (s : Lx.L) : Bool := (Lx.lex s).1 == 0 && (Lx.lex s).2.length == 1 && ((Lx.lex s).2.getD 0 default).s == s
def oneKind (s : Lx.L) : Int := ((Lx.lex s).2.getD 0 default).kind
theorem TokRow.new42 (w : World) (line : Int) (S : ByteArray) : (w.alloc (.cells #[.int .i64 line, .string S] 42)).heap[w.heap.size]? = some (.cells #[.int .i64 line, .string S] 42 (0, 0)) := World.alloc_heap_new w _
/-- The first token of a slice that the call has made. -/
theorem TokRow.head {n₀ : Nat} {W : World} {v : Value} {x : S62} {xs : List S62} (h : TokRow n₀ W v (x :: xs)) : ∃ g cap, v = .slice (some ⟨g, 0, none⟩) (xs.length + 1) cap ∧ W.cell? ⟨g, 0, none⟩ = some (.int .i64 x.f0) ∧ W.cell? ⟨g, 1, none⟩ = some (.string x.f1) ∧ W.cell? ⟨g, 2, none⟩ = some (.string x.f2) ∧ W.cell? ⟨g, 3, none⟩ = some (.int .i64 x.f3) ∧ W.cell? ⟨g, 4, none⟩ = some (.bool x.f4) ∧ W.cell? ⟨g, 5, none⟩ = some (.bool x.f5) := by
  rcases h.2 with ⟨_, h0⟩ | ⟨g, cap, cur, rfl, hb, hg, hn, hcap, hsz, htk⟩
  · simp at h0
  · refine ⟨g, cap, rfl, ?_⟩
    have hc : ∀ j, j < 6 → W.cell? ⟨g, j, none⟩ = (tokC x)[j]? := by
      intro j hj
      simp only [World.cell?, hg]
      have h1 : (cur.toList.take ((x :: xs).length * 6))[j]? = (rowC (x :: xs))[j]? := by rw [htk]
      rw [List.getElem?_take_of_lt (by simp; omega)] at h1
      have h2 : (rowC (x :: xs))[j]? = (tokC x)[j]? := by
        unfold rowC
        rw [List.flatMap_cons, List.getElem?_append_left (by simp [tokC]; omega)]
      rw [← h2, ← h1]
      simp
    exact ⟨hc 0 (by omega), hc 1 (by omega), hc 2 (by omega), hc 3 (by omega), hc 4 (by omega), hc 5 (by omega)⟩
def set6 (w : World) (g : Nat) (a b c d e f : Value) : World := (((((w.setCell ⟨g, 0, none⟩ a).setCell ⟨g, 1, none⟩ b).setCell ⟨g, 2, none⟩ c).setCell ⟨g, 3, none⟩ d).setCell ⟨g, 4, none⟩ e).setCell ⟨g, 5, none⟩ f
theorem set6_heap {w : World} {g : Nat} {a0 b0 c0 d0 e0 f0 : Value} {t : TypeId} (h : w.heap[g]? = some (.cells #[a0, b0, c0, d0, e0, f0] t (0, 0))) (a b c d e f : Value) : (set6 w g a b c d e f).heap[g]? = some (.cells #[a, b, c, d, e, f] t (0, 0)) := by
  unfold set6
  simp [World.setCell, Array.getElem?_modify, h]
theorem set6_below {w0 w : World} {g : Nat} (h : Below g w0 w) (a b c d e f : Value) : Below g w0 (set6 w g a b c d e f) :=
  (((((h.setCell (p := ⟨g, 0, none⟩) (Nat.le_refl _) a).setCell (p := ⟨g, 1, none⟩) (Nat.le_refl _) b).setCell (p := ⟨g, 2, none⟩) (Nat.le_refl _) c).setCell (p := ⟨g, 3, none⟩) (Nat.le_refl _) d).setCell (p := ⟨g, 4, none⟩) (Nat.le_refl _) e).setCell (p := ⟨g, 5, none⟩) (Nat.le_refl _) f
theorem one_results {fn : Func} {T : Array Value} {W : World} {g : Nat} {x : S62} {b : Bool} (hf : fn.results = #[.cell 2 62, .tmp 3]) (hh : W.heap[g]? = some (.cells #[.int .i64 x.f0, .string x.f1, .string x.f2, .int .i64 x.f3, .bool x.f4, .bool x.f5] 62 (0, 0)))
    (h2 : T.getD 2 undef = .pointer (some ⟨g, 0, none⟩)) (h3 : T.getD 3 undef = .bool b) : (results fn T).run Tryd.prog W = .ok (.tuple #[tokV x, .bool b]) W := by
  have c0 : W.cell? ⟨g, 0, none⟩ = some (.int .i64 x.f0) := by simp [World.cell?, hh]
  have c1 : W.cell? ⟨g, 1, none⟩ = some (.string x.f1) := by simp [World.cell?, hh]
  have c2 : W.cell? ⟨g, 2, none⟩ = some (.string x.f2) := by simp [World.cell?, hh]
  have c3 : W.cell? ⟨g, 3, none⟩ = some (.int .i64 x.f3) := by simp [World.cell?, hh]
  have c4 : W.cell? ⟨g, 4, none⟩ = some (.bool x.f4) := by simp [World.cell?, hh]
  have c5 : W.cell? ⟨g, 5, none⟩ = some (.bool x.f5) := by simp [World.cell?, hh]
  simp only [Array.getD_eq_getD_getElem?] at h2 h3
  simp [results, hf, go_sem, h2, h3, c0, c1, c2, c3, c4, c5, tokV]
set_option maxRecDepth 100000 in
set_option maxHeartbeats 4000000 in
theorem one_any (S : ByteArray) (hS : S.size < 4294967281) (w : World) (hsig : SigIs w) (hmax : MaxIs w) (h25 : 5 < w.heap.size) :
    Calls Tryd.prog 119 #[.string S] w fun e w' => ∃ t : S62, e = .returned (.tuple #[tokV t, .bool (oneOk (bl S))]) ∧ (oneOk (bl S) = true → t.f0 = oneKind (bl S)) ∧ Below w.heap.size w w' := by
  go_enter Tryd.func119, Tryd.ntmps119
  go_wp2_with (fail)
  obtain ⟨W0, hW0⟩ : ∃ W0, (w.alloc (.cells #[.int .i64 0, .string ⟨#[]⟩, .string ⟨#[]⟩, .int .i64 0, .bool false, .bool false] 62)).alloc (.cells #[.int .i64 1, .string S] 42) = W0 := ⟨_, rfl⟩
  have hB0 : Below w.heap.size w W0 := by rw [← hW0]; exact ((Below.refl _ w).alloc (Nat.le_refl _) _).alloc (by simp) _
  have hz0 : W0.heap[w.heap.size]? = some (.cells #[.int .i64 0, .string ⟨#[]⟩, .string ⟨#[]⟩, .int .i64 0, .bool false, .bool false] 62 (0, 0)) := by rw [← hW0]; exact hold_old (World.alloc_heap_new w _)
  have hb0 : W0.heap[w.heap.size + 1]? = some (.cells #[.int .i64 1, .string S] 42 (0, 0)) := by rw [← hW0]; exact hold_new (by simp)
  have hs0 : W0.heap.size = w.heap.size + 2 := by rw [← hW0]; simp
  rw [hW0]
  clear hW0
  refine (lex_any (w.heap.size + 1) 1 S hS 1 W0 hb0 (sig_below hsig hB0) (max_below hmax hB0 h25) (by omega)).mono ?_
  rintro e w1 ⟨v, at_, xs, rfl, hrow, hxs, hrest, hB1⟩
  have hz1 := (hB1.block w.heap.size (by omega)).trans hz0
  have z0 : w1.cell? ⟨w.heap.size, 0, none⟩ = some (.int .i64 0) := by simp [World.cell?, hz1]
  have z1 : w1.cell? ⟨w.heap.size, 1, none⟩ = some (.string ⟨#[]⟩) := by simp [World.cell?, hz1]
  have z2 : w1.cell? ⟨w.heap.size, 2, none⟩ = some (.string ⟨#[]⟩) := by simp [World.cell?, hz1]
  have z3 : w1.cell? ⟨w.heap.size, 3, none⟩ = some (.int .i64 0) := by simp [World.cell?, hz1]
  have z4 : w1.cell? ⟨w.heap.size, 4, none⟩ = some (.bool false) := by simp [World.cell?, hz1]
  have z5 : w1.cell? ⟨w.heap.size, 5, none⟩ = some (.bool false) := by simp [World.cell?, hz1]
  have zf : ∀ i, w1.frozen? ⟨w.heap.size, i, none⟩ = false := fun i => by simp [World.frozen?, hz1]
  have zf0 := zf 0
  have zf1 := zf 1
  have zf2 := zf 2
  have zf3 := zf 3
  have zf4 := zf 4
  have zf5 := zf 5
  have hBw : Below w.heap.size w w1 := hB0.trans (hB1.mono hB0.size)
  obtain ⟨code, hcode⟩ : ∃ code, (Lx.lex (bl S)).1 = code := ⟨_, rfl⟩
  rw [hcode]
  have HX := Lib.hid hxs
  have HC := Lib.hid hcode
  have HB := Lib.hid hBw
  clear hxs hcode zf hrest hB0 hz0 hb0 hB1 hBw hsig hmax
  have bad : ∀ (T : Array Value), T.getD 2 undef = .pointer (some ⟨w.heap.size, 0, none⟩) → T.getD 3 undef = .bool false → oneOk (bl S) = false →
      bodyPost Tryd.prog Tryd.f119 (fun e w' => ∃ t : S62, e = .returned (.tuple #[tokV t, .bool (oneOk (bl S))]) ∧ (oneOk (bl S) = true → t.f0 = oneKind (bl S)) ∧ Below w.heap.size w w') .ret { tmps := T, defers := [] }
      (set6 w1 w.heap.size (.int .i64 0) (.string ⟨#[]⟩) (.string ⟨#[]⟩) (.int .i64 0) (.bool false) (.bool false)) := by
    intro T h2 h3 hk
    have hh := set6_heap hz1 (.int .i64 0) (.string ⟨#[]⟩) (.string ⟨#[]⟩) (.int .i64 0) (.bool false) (.bool false)
    refine bodyPost_ret (v := .tuple #[tokV ⟨0, ⟨#[]⟩, ⟨#[]⟩, 0, false, false⟩, .bool false]) ?_ rfl ⟨⟨0, ⟨#[]⟩, ⟨#[]⟩, 0, false, false⟩, by rw [hk], fun h => (by rw [hk] at h; cases h), set6_below HB.out _ _ _ _ _ _⟩
    generalize set6 w1 w.heap.size (.int .i64 0) (.string ⟨#[]⟩) (.string ⟨#[]⟩) (.int .i64 0) (.bool false) (.bool false) = W6 at hh ⊢
    exact one_results (x := ⟨0, ⟨#[]⟩, ⟨#[]⟩, 0, false, false⟩) rfl hh h2 h3
  by_cases hc : code = 0
  · subst hc
    match xs, hrow, HX with
    | [], hrow, HX =>
      obtain ⟨A, cap, rfl⟩ := hrow.slice
      clear hrow
      simp only [List.length_nil]
      go_wp2
      exact bad _ rfl rfl (by unfold oneOk; rw [HX.out]; simp)
    | [x], hrow, HX =>
      obtain ⟨g, cap, rfl, t0, t1, t2, t3, t4, t5⟩ := hrow.head
      clear hrow
      simp only [List.length_nil, Nat.zero_add]
      by_cases hq : x.f1.toList = S.toList
      · have hq' : (x.f1.toList == S.toList) = true := by rw [beq_iff_eq]; exact hq
        have HQ := Lib.hid hq
        clear hq
        go_wp2
        have hh := set6_heap hz1 (.int .i64 x.f0) (.string x.f1) (.string x.f2) (.int .i64 x.f3) (.bool x.f4) (.bool x.f5)
        have hk : oneOk (bl S) = true := by
          unfold oneOk
          rw [HX.out, HC.out]
          have : bl x.f1 = bl S := by rw [← toList_bl, ← toList_bl]; exact HQ.out
          simp [tk, this]
        refine bodyPost_ret (v := .tuple #[tokV x, .bool true]) ?_ rfl ⟨x, by rw [hk], fun _ => by unfold oneKind; rw [HX.out]; rfl, set6_below HB.out _ _ _ _ _ _⟩
        exact one_results (x := x) rfl hh rfl rfl
      · have hq' : (x.f1.toList == S.toList) = false := by simpa using hq
        have HQ := Lib.hid hq
        clear hq
        go_wp2
        refine bad _ rfl rfl ?_
        unfold oneOk
        rw [HX.out]
        have : ¬ bl x.f1 = bl S := by rw [← toList_bl, ← toList_bl]; exact HQ.out
        simp [tk, this]
    | x :: y :: r, hrow, HX =>
      obtain ⟨A, cap, rfl⟩ := hrow.slice
      clear hrow
      have hl1 : ((((x :: y :: r).length : Nat) : Int) == 1) = false := by simp; omega
      go_wp2
      exact bad _ rfl rfl (by unfold oneOk; rw [HX.out]; simp)
  · have hc1 : (code == 0) = false := by simpa using hc
    have hc2 : (code != 0) = true := by simpa using hc
    clear hrow
    go_wp2
    exact bad _ rfl rfl (by unfold oneOk; rw [HC.out]; simp [hc])
namespace Lx
theorem skip_suffix : ∀ (f : Nat) (o sp : Bool) (s : L), (skip f o sp s).2.2 <:+ s
  | 0, _, _, _ => by simp [skip]
  | f + 1, o, sp, s => by
    unfold skip
    split
    · simp
    split
    · cases hb : behind s with
      | none => simp
      | some r => exact (skip_suffix f false true r).trans (behind_suffix hb)
    split
    · simp
    split
    · exact (skip_suffix f true sp (s.drop 2)).trans (List.drop_suffix _ _)
    split
    · exact (skip_suffix f o true (s.drop 1)).trans (List.drop_suffix _ _)
    · exact List.suffix_refl s
where behind_suffix : ∀ {s r : L}, behind s = some r → r <:+ s
  | [], r, h => by simp [behind] at h
  | c :: t, r, h => by
    rw [behind] at h
    split at h
    · injection h with h
      rw [← h]
      exact (List.drop_suffix 1 t).trans (List.suffix_cons c t)
    · exact (behind_suffix h).trans (List.suffix_cons c t)
theorem lexGo_parts : ∀ (f : Nat) (o sp fi : Bool) (s : L) (out r : List Tk), lexGo f o sp fi s out = (0, r) → ∃ more, r = out ++ more ∧ ∀ t ∈ more, t.s <:+: s := by
  intro f
  induction f with
  | zero => intro o sp fi s out r h; simp [lexGo] at h
  | succ f ih =>
    intro o sp fi s out r h
    rw [lexGo] at h
    have hsuf : (skipAll o sp s).2.2 <:+ s := skip_suffix _ _ _ _
    simp only [] at h
    split at h
    · split at h
      · cases h
      · injection h with _ h
        exact ⟨[], by rw [← h]; simp, by simp⟩
    · split at h
      · cases h
      · split at h
        · cases h
        · obtain ⟨more, h1, h2⟩ := ih _ _ _ _ _ _ h
          refine ⟨_ :: more, by rw [h1, List.append_assoc]; rfl, ?_⟩
          intro t ht
          rcases List.mem_cons.1 ht with rfl | ht
          · exact (List.take_prefix _ _).isInfix.trans hsuf.isInfix
          · exact (h2 t ht).trans ((List.drop_suffix _ _).isInfix.trans hsuf.isInfix)
end Lx
theorem one_len {x : S62} {S : ByteArray} (h : Lx.lex (bl S) = (0, [x].map tk)) (hl : x.f1.size = S.size) : bl x.f1 = bl S := by
  obtain ⟨more, h1, h2⟩ := Lx.lexGo_parts _ _ _ _ _ _ _ h
  have := h2 (tk x) (by rw [List.nil_append] at h1; rw [← h1]; simp)
  exact this.eq_of_length (by show (bl x.f1).length = (bl S).length; rw [bl_length, bl_length, hl])
set_option maxRecDepth 100000 in
set_option maxHeartbeats 4000000 in
theorem refOne_any (S : ByteArray) (hS : S.size < 4294967281) (w : World) :
    Calls Tryd.prog 122 #[.string S] w fun e w' => ∃ t : S62, e = .returned (.tuple #[tokV t, .bool (oneOk (bl S))]) ∧ (oneOk (bl S) = true → t.f0 = oneKind (bl S)) ∧ Below w.heap.size w w' := by
  go_enter Tryd.func122, Tryd.ntmps122
  go_wp2_with (fail)
  obtain ⟨W0, hW0⟩ : ∃ W0, (w.alloc (.cells #[.int .i64 0, .string ⟨#[]⟩, .string ⟨#[]⟩, .int .i64 0, .bool false, .bool false] 62)).alloc (.cells #[.int .i64 1, .string S] 42) = W0 := ⟨_, rfl⟩
  have hB0 : Below w.heap.size w W0 := by rw [← hW0]; exact ((Below.refl _ w).alloc (Nat.le_refl _) _).alloc (by simp) _
  have hz0 : W0.heap[w.heap.size]? = some (.cells #[.int .i64 0, .string ⟨#[]⟩, .string ⟨#[]⟩, .int .i64 0, .bool false, .bool false] 62 (0, 0)) := by rw [← hW0]; exact hold_old (World.alloc_heap_new w _)
  have hb0 : W0.heap[w.heap.size + 1]? = some (.cells #[.int .i64 1, .string S] 42 (0, 0)) := by rw [← hW0]; exact hold_new (by simp)
  have hs0 : W0.heap.size = w.heap.size + 2 := by rw [← hW0]; simp
  rw [hW0]
  clear hW0
  refine (refLex_any (w.heap.size + 1) 1 S hS 1 W0 hb0).mono ?_
  rintro e w1 ⟨v, at_, xs, rfl, hrow, hxs, hrest, hB1⟩
  have hz1 := (hB1.block w.heap.size (by omega)).trans hz0
  have z0 : w1.cell? ⟨w.heap.size, 0, none⟩ = some (.int .i64 0) := by simp [World.cell?, hz1]
  have z1 : w1.cell? ⟨w.heap.size, 1, none⟩ = some (.string ⟨#[]⟩) := by simp [World.cell?, hz1]
  have z2 : w1.cell? ⟨w.heap.size, 2, none⟩ = some (.string ⟨#[]⟩) := by simp [World.cell?, hz1]
  have z3 : w1.cell? ⟨w.heap.size, 3, none⟩ = some (.int .i64 0) := by simp [World.cell?, hz1]
  have z4 : w1.cell? ⟨w.heap.size, 4, none⟩ = some (.bool false) := by simp [World.cell?, hz1]
  have z5 : w1.cell? ⟨w.heap.size, 5, none⟩ = some (.bool false) := by simp [World.cell?, hz1]
  have zf : ∀ i, w1.frozen? ⟨w.heap.size, i, none⟩ = false := fun i => by simp [World.frozen?, hz1]
  have zf0 := zf 0
  have zf1 := zf 1
  have zf2 := zf 2
  have zf3 := zf 3
  have zf4 := zf 4
  have zf5 := zf 5
  have hBw : Below w.heap.size w w1 := hB0.trans (hB1.mono hB0.size)
  obtain ⟨code, hcode⟩ : ∃ code, (Lx.lex (bl S)).1 = code := ⟨_, rfl⟩
  rw [hcode]
  have HX := Lib.hid hxs
  have HC := Lib.hid hcode
  have HB := Lib.hid hBw
  clear hxs hcode zf hrest hB0 hz0 hb0 hB1 hBw
  have bad : ∀ (T : Array Value), T.getD 2 undef = .pointer (some ⟨w.heap.size, 0, none⟩) → T.getD 3 undef = .bool false → oneOk (bl S) = false →
      bodyPost Tryd.prog Tryd.f122 (fun e w' => ∃ t : S62, e = .returned (.tuple #[tokV t, .bool (oneOk (bl S))]) ∧ (oneOk (bl S) = true → t.f0 = oneKind (bl S)) ∧ Below w.heap.size w w') .ret { tmps := T, defers := [] }
      (set6 w1 w.heap.size (.int .i64 0) (.string ⟨#[]⟩) (.string ⟨#[]⟩) (.int .i64 0) (.bool false) (.bool false)) := by
    intro T h2 h3 hk
    have hh := set6_heap hz1 (.int .i64 0) (.string ⟨#[]⟩) (.string ⟨#[]⟩) (.int .i64 0) (.bool false) (.bool false)
    refine bodyPost_ret (v := .tuple #[tokV ⟨0, ⟨#[]⟩, ⟨#[]⟩, 0, false, false⟩, .bool false]) ?_ rfl ⟨⟨0, ⟨#[]⟩, ⟨#[]⟩, 0, false, false⟩, by rw [hk], fun h => (by rw [hk] at h; cases h), set6_below HB.out _ _ _ _ _ _⟩
    generalize set6 w1 w.heap.size (.int .i64 0) (.string ⟨#[]⟩) (.string ⟨#[]⟩) (.int .i64 0) (.bool false) (.bool false) = W6 at hh ⊢
    exact one_results (x := ⟨0, ⟨#[]⟩, ⟨#[]⟩, 0, false, false⟩) rfl hh h2 h3
  by_cases hc : code = 0
  · subst hc
    match xs, hrow, HX with
    | [], hrow, HX =>
      obtain ⟨A, cap, rfl⟩ := hrow.slice
      clear hrow
      simp only [List.length_nil]
      go_wp2
      exact bad _ rfl rfl (by unfold oneOk; rw [HX.out]; simp)
    | [x], hrow, HX =>
      obtain ⟨g, cap, rfl, t0, t1, t2, t3, t4, t5⟩ := hrow.head
      clear hrow
      simp only [List.length_nil, Nat.zero_add]
      by_cases hq : x.f1.size = S.size
      · have hq' : ((x.f1.size : Int) == (S.size : Int)) = true := by rw [beq_iff_eq]; omega
        have HQ := Lib.hid hq
        clear hq
        go_wp2
        have hh := set6_heap hz1 (.int .i64 x.f0) (.string x.f1) (.string x.f2) (.int .i64 x.f3) (.bool x.f4) (.bool x.f5)
        have hk : oneOk (bl S) = true := by
          unfold oneOk
          rw [HX.out, HC.out]
          have : bl x.f1 = bl S := one_len (x := x) (by rw [← HX.out, ← HC.out]) HQ.out
          simp [tk, this]
        refine bodyPost_ret (v := .tuple #[tokV x, .bool true]) ?_ rfl ⟨x, by rw [hk], fun _ => by unfold oneKind; rw [HX.out]; rfl, set6_below HB.out _ _ _ _ _ _⟩
        exact one_results (x := x) rfl hh rfl rfl
      · have hq' : ((x.f1.size : Int) == (S.size : Int)) = false := by simp; omega
        have HQ := Lib.hid hq
        clear hq
        go_wp2
        refine bad _ rfl rfl ?_
        unfold oneOk
        rw [HX.out]
        have : ¬ bl x.f1 = bl S := fun e => HQ.out (by rw [← bl_length, ← bl_length, e])
        simp [tk, this]
    | x :: y :: r, hrow, HX =>
      obtain ⟨A, cap, rfl⟩ := hrow.slice
      clear hrow
      have hl1 : ((((x :: y :: r).length : Nat) : Int) == 1) = false := by simp; omega
      go_wp2
      exact bad _ rfl rfl (by unfold oneOk; rw [HX.out]; simp)
  · have hc1 : (code == 0) = false := by simpa using hc
    have hc2 : (code != 0) = true := by simpa using hc
    clear hrow
    go_wp2
    exact bad _ rfl rfl (by unfold oneOk; rw [HC.out]; simp [hc])
end Go.Proofs.YthifdcakhdckfaaDoor

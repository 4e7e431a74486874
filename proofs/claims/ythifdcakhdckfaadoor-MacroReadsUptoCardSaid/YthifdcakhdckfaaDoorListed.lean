/-
  Walk: macro.listed and its iterator, as a contract of a range over a function.
-/
import Derived.Test.YthifdcakhdckfaaDoorFits
import Derived.Test.YthifdcakhdckfaaDoorAll
import Derived.Test.YthifdcakhdckfaaDoorInRound
import Derived.StillTailTactics
namespace Go.Proofs.YthifdcakhdckfaaDoor
open Go.RowKit Go.Proofs.YthifdcakhdckfaaDoorW.PrintWords
open PMacroWords (S62 k62 z62 rd_T62 k62_mk)
set_option linter.unusedVariables false
set_option linter.unusedSimpArgs false
attribute [local go_sem] Oper.semAt_some

/-- A row of tokens that is read, and lies below block n₀ and not in block g. -/
def TokIn (n₀ g : Nat) (W : World) (v : Value) (xs : List S62) : Prop := ∃ A c, v = .slice A xs.length c ∧ xs.length ≤ c ∧ Kd.C k62 W A xs.length xs ∧ ∀ ad, A = some ad → 0 < xs.length → ad.block < n₀ ∧ ad.block ≠ g
theorem TokIn.at {n₀ g : Nat} {W : World} {v : Value} {xs : List S62} (h : TokIn n₀ g W v xs) : TokAt W v xs := by
  obtain ⟨A, c, h1, h2, h3, _⟩ := h
  exact ⟨A, c, h1, h2, h3⟩
theorem TokIn.of {w : World} {g : Nat} {v : Value} {xs : List S62} (h : TokAt w v xs) (hn : ∀ (o : Nat) (k : IntKind) (n : Int), w.cell? ⟨g, o, none⟩ ≠ some (.int k n)) : TokIn w.heap.size g w v xs := by
  obtain ⟨A, c, h1, h2, h3⟩ := h
  refine ⟨A, c, h1, h2, h3, fun ad hA h0 => ?_⟩
  obtain ⟨ad', x, hA', _, a0, _⟩ := tok_cells (i := 0) h3 h0
  have e : ad' = ad := by rw [hA] at hA'; exact (Option.some.inj hA').symm
  subst e
  have hb : (ad'.add (0 * 6)).block = ad'.block := by simp [Addr.add]
  have h4 := World.block_lt_of_cell? _ _ a0
  have h5 := cell_block_ne a0 hn
  rw [hb] at h4 h5
  exact ⟨h4, h5⟩
theorem TokIn.turn {n₀ g : Nat} {W W' : World} {v : Value} {xs : List S62} (h : TokIn n₀ g W v xs) (hk : ∀ b, b < n₀ → b ≠ g → W'.heap[b]? = W.heap[b]?) : TokIn n₀ g W' v xs := by
  obtain ⟨A, c, h1, h2, h3, h4⟩ := h
  refine ⟨A, c, h1, h2, ⟨h3.1, h3.2.1, fun h0 => ?_⟩, h4⟩
  obtain ⟨ad, hA, hh⟩ := h3.2.2 h0
  refine ⟨ad, hA, fun j p hp => ?_⟩
  obtain ⟨c', hl, hK, hcell⟩ := hh j p hp
  have hc' := PMacroWords.k62_open hK
  refine ⟨c', hl, by rw [hc']; exact k62_mk W' p, fun i u hu => ?_⟩
  have hb : (ad.add (j * k62.sz + i)).block = ad.block := by rcases addr_add ad (j * k62.sz + i) with e | ⟨_, e⟩ <;> rw [e]
  obtain ⟨h5, h6⟩ := h4 ad hA h0
  have hq : W'.heap[(ad.add (j * k62.sz + i)).block]? = W.heap[(ad.add (j * k62.sz + i)).block]? := by rw [hb]; exact hk _ h5 h6
  exact (World.cell?_of_block hq).trans (hcell i u hu)
theorem TokIn.cut2 {n₀ g : Nat} {W : World} {A : Option Addr} {c : Nat} {t e : S62} {r : List S62} (h : TokIn n₀ g W (.slice A (t :: e :: r).length c) (t :: e :: r)) : TokIn n₀ g W (sliced A 2 (r.length + 2) c 6) r := by
  have hc := TokAt.cut (xs := t :: e :: r) (k := 2) h.at (by simp)
  simp only [List.drop_succ_cons, List.drop_zero, List.length_cons] at hc
  obtain ⟨A1, c1, h1, h2, h3⟩ := hc
  refine ⟨A1, c1, h1, h2, h3, fun ad hA h0 => ?_⟩
  obtain ⟨A2, c2, g1, g2, g3, g4⟩ := h
  injection g1 with e1 e2 e3
  unfold sliced at h1
  injection h1 with f1 f2 f3
  obtain ⟨ad2, hA2, _⟩ := g3.2.2 (by simp)
  obtain ⟨k1, k2⟩ := g4 ad2 hA2 (by simp)
  rw [e1, hA2] at f1
  have : ad.block = ad2.block := by
    rw [← f1] at hA
    split at hA
    · rw [Option.some.inj hA]
    · rw [← Option.some.inj hA]
      show (ad2.add (2 * 6)).block = ad2.block
      rcases addr_add ad2 (2 * 6) with e | ⟨e0, _⟩
      · rw [e]
      · simp at e0
  rw [this]
  exact ⟨k1, k2⟩

def pairsL : List S62 → List (S62 × ByteArray)
  | t :: e :: r => (t, e.f1) :: pairsL r
  | _ => [(z62, ⟨#[]⟩)]
theorem pairsL_short {xs : List S62} (h : ¬ 1 < xs.length) : pairsL xs = [(z62, ⟨#[]⟩)] := by
  match xs with
  | [] => rfl
  | [_] => rfl
  | _ :: _ :: _ => simp at h
/-- The iterator's box. -/
def HasBox (b : Nat) (W : World) : Prop := ∃ v, W.heap[b]? = some (.cells #[v] 38 (0, 0))
/-- What a round keeps. -/
def KeepP (bx n₀ g : Nat) (W W' : World) : Prop := W'.heap[bx]? = W.heap[bx]? ∧ ∀ b, b < n₀ → b ≠ g → W'.heap[b]? = W.heap[b]?

theorem listed_any (A : Option Addr) (m c : Nat) (w : World) : Calls Tryd.prog 113 #[.slice A m c] w fun e w' =>
      e = .returned (.func (.func 172) #[] #[.pointer (some ⟨w.heap.size, 0, none⟩)]) ∧ w' = w.alloc (.cells #[.slice A m c] 38) := by
  have hmf : ∀ (fn : Fn) (first cap : Array Value) (w : World), (Instr.makeFunc fn first cap).run Tryd.prog w = .ok (.func fn first cap) w := fun _ _ _ _ => rfl
  go_enter Tryd.func113, Tryd.ntmps113
  go_wp2
  go_ret
  exact ⟨rfl, rfl⟩
set_option maxRecDepth 100000 in
set_option maxHeartbeats 4000000 in
theorem listed1_in (n l bx n₀ g : Nat) (xs : List S62) (hn : xs.length < 4294967296) (J Jx : List (S62 × ByteArray) → World → Prop)
    (hJ : ∀ s U V, J s U → U.grownBy V (some bx) → HasBox bx V → J s V)
    (hY : ∀ (pre : List (S62 × ByteArray)) (p : S62 × ByteArray) W1, J pre W1 → (pairsL xs)[pre.length]? = some p → YieldAt Fence.wide (n - 1) Tryd.prog l #[tokV p.1, .string p.2] W1 fun e W' =>
      (e = .returned (.bool true) ∧ J (pre ++ [p]) W' ∧ KeepP bx n₀ g W1 W') ∨ (e = .returned (.bool false) ∧ Jx (pre ++ [p]) W'))
    (hbn : n₀ ≤ bx) (W : World) (v : Value) (hx : TokIn n₀ g W v xs) (hbx : W.heap[bx]? = some (.cells #[v] 38 (0, 0))) (h0 : J [] W) :
    CallsIn Fence.wide n Tryd.prog 172 #[.func (.yield l) #[] #[], .pointer (some ⟨bx, 0, none⟩)] W fun e W' => (∃ v, e = .returned v) ∧
      ((∃ ps : List (S62 × ByteArray), J ps W' ∧ ps = pairsL xs) ∨ (∃ pre, Jx pre W' ∧ True)) := by
  have HJ := Lib.hid hJ
  have HY := Lib.hid hY
  have H0 := Lib.hid h0
  have HX := Lib.hid hx
  have HBX := Lib.hid hbx
  clear hJ hY h0 hx hbx
  refine callsIn_of_wp Tryd.func172 rfl trivial ?_ rfl
  simp only [Tryd.ntmps172, List.size_toArray, List.length_cons, List.length_nil, Nat.reduceAdd, Nat.reduceSub, Array.replicate_succ, Array.replicate_zero, List.push_toArray, List.append_toArray, List.nil_append, List.cons_append]
  gi_wp2
  gi_loopw [] (fun wr => ∃ (i : Nat) (rs : List S62) (ps : List (S62 × ByteArray)) (u : Value), rs.length < 4294967296 ∧ Hid (wr.heap[bx]? = some (.cells #[u] 38 (0, 0))) ∧ Hid (TokIn n₀ g wr u rs) ∧ Hid (pairsL xs = ps ++ pairsL rs) ∧ Hid (J ps wr)) (fun wr => match wr.cell? ⟨bx, 0, none⟩ with | some (.slice _ k _) => k | _ => 0)
  case atStart => exact ⟨0, xs, [], v, hn, HBX, HX, Lib.hid rfl, H0⟩
  case round =>
    clear H0 HX HBX
    obtain ⟨i, rs, ps, u, hrl, HBX, HX, HP, HJ1⟩ := hrel
    obtain ⟨A, c, hu, hc, hC, hne⟩ := HX.out
    subst hu
    have b0 : wr.cell? ⟨bx, 0, none⟩ = some (.slice A rs.length c) := by simp [World.cell?, HBX.out]
    have bf : wr.frozen? ⟨bx, 0, none⟩ = false := by simp [World.frozen?, HBX.out]
    have HNE := Lib.hid hne
    clear hne
    by_cases h1 : 1 < rs.length
    · have h1' : decide ((1 : Int) < (rs.length : Int)) = true := by simp; omega
      have h1'' : decide ((rs.length : Int) > 1) = true := by simp; omega
      obtain ⟨t, e, r, hrs⟩ : ∃ t e r, rs = t :: e :: r := by
        match rs, h1 with
        | t :: e :: r, _ => exact ⟨t, e, r, rfl⟩
      obtain ⟨ad, x, hA, hx, a0, a1, a2, a3, a4, a5⟩ := tok_cells (i := 0) hC (by omega)
      cases hA
      obtain ⟨ad2, y, hA2, hy, y0, y1, y2, y3, y4, y5⟩ := tok_cells (i := 1) hC h1
      cases hA2
      have hxt : x = t := by rw [← hx, hrs]; rfl
      have hye : y = e := by rw [← hy, hrs]; rfl
      subst hxt hye
      have q0 : wr.cell? ad = some (.int .i64 x.f0) := by simpa [Addr.add] using a0
      have q1 : wr.cell? ⟨ad.block, ad.off + 1, none⟩ = some (.string x.f1) := by simpa [Addr.add] using a1
      have q2 : wr.cell? ⟨ad.block, ad.off + 2, none⟩ = some (.string x.f2) := by simpa [Addr.add] using a2
      have q3 : wr.cell? ⟨ad.block, ad.off + 3, none⟩ = some (.int .i64 x.f3) := by simpa [Addr.add] using a3
      have q4 : wr.cell? ⟨ad.block, ad.off + 4, none⟩ = some (.bool x.f4) := by simpa [Addr.add] using a4
      have q5 : wr.cell? ⟨ad.block, ad.off + 5, none⟩ = some (.bool x.f5) := by simpa [Addr.add] using a5
      have z0 : wr.cell? ⟨ad.block, ad.off + 6, none⟩ = some (.int .i64 y.f0) := by simpa [Addr.add] using y0
      have z1 : wr.cell? ⟨ad.block, ad.off + 6 + 1, none⟩ = some (.string y.f1) := by simpa [Addr.add] using y1
      have hlp : (0 : Int) < (rs.length : Int) := by omega
      have hlpN : 0 < rs.length := by omega
      have hl1 : (1 : Int) < (rs.length : Int) := by omega
      have hPP : pairsL xs = (ps ++ [(x, y.f1)]) ++ pairsL r := by rw [HP.out, hrs, List.append_assoc]; rfl
      have hget : (pairsL xs)[ps.length]? = some (x, y.f1) := by rw [hPP, List.append_assoc, List.getElem?_append_right (Nat.le_refl _), Nat.sub_self]; rfl
      have hJd := HJ.out _ _ wr.drew HJ1.out (grown_drew (World.grownBy.refl wr _)) ⟨_, HBX.out⟩
      obtain ⟨fn, tmps, assign, body, hyl, hRd⟩ := HY.out ps (x, y.f1) wr.drew hJd hget
      have HRd := Lib.hid hRd
      dsimp only [tokV] at hyl
      have HPP := Lib.hid hPP
      have HRS := Lib.hid hrs
      have HC := Lib.hid hC
      clear hx hy a0 a1 a2 a3 a4 a5 y0 y1 y2 y3 y4 y5 hrs hC hPP hget hJd hRd
      gi_wp2
      refine InRound.wpIn_region_still_tail (r := none) 8 (by kernel_rfl) (by kernel_rfl) (by kernel_rfl) ?_
      simp only [List.take_succ_cons, List.take_zero, List.drop_succ_cons, List.drop_zero]
      repeat still_step
      refine wpStill_nil ?_
      change wpListIn Fence.wide _ _ _ _ _ _ _
      gi_wp2
      refine ⟨deepW, HRd.out.mono ?_⟩
      rintro e' W6 (⟨rfl, hJ6, hk6⟩ | ⟨rfl, hJx6⟩)
      · have HJ6 := Lib.hid hJ6
        have hb6 : W6.heap[bx]? = some (.cells #[.slice (some ad) rs.length c] 38 (0, 0)) := hk6.1.trans HBX.out
        have HB6 := Lib.hid hb6
        have hx6 : TokIn n₀ g W6 (.slice (some ad) rs.length c) rs := TokIn.turn HX.out (fun b h1 h2 => hk6.2 b h1 h2)
        have b06 : W6.cell? ⟨bx, 0, none⟩ = some (.slice (some ad) rs.length c) := by simp [World.cell?, hb6]
        have bf6 : W6.frozen? ⟨bx, 0, none⟩ = false := by simp [World.frozen?, hb6]
        have hsl := run_slice_tok (some ad) rs.length c 2 (by omega) (by omega)
        have hrl2 : rs.length = r.length + 2 := by rw [HRS.out]; rfl
        rw [HRS.out] at hx6
        have hcut := TokIn.cut2 hx6
        simp only [sliced, Int.reduceToNat] at hsl hcut
        obtain ⟨A1, hA1⟩ : ∃ A1, A1 = (if c = 2 then some ad else (some ad).map (·.add (2 * 6))) := ⟨_, rfl⟩
        rw [← hA1] at hsl hcut
        have hln : rs.length - 2 = r.length := by omega
        rw [hln] at hsl
        rw [show r.length + 2 - 2 = r.length by omega] at hcut
        have HCUT := Lib.hid hcut
        have HRL := Lib.hid hrl2
        have B0 := Lib.hid b0
        clear hyl HRd hJ6 hk6 hb6 hx6 b0 bf hcut hA1 hln hrl2 q0 q1 q2 q3 q4 q5 z0 z1 HBX HX HJ1 HC
        gi_wp2
        obtain ⟨W7, hW7⟩ : ∃ W7, W6.setCell ⟨bx, 0, none⟩ (.slice A1 r.length (c - 2)) = W7 := ⟨_, rfl⟩
        have hG7 : W6.grownBy W7 (some bx) := by rw [← hW7]; exact grown_set (World.grownBy.refl W6 _) 0 _
        have hb7 : W7.heap[bx]? = some (.cells #[.slice A1 r.length (c - 2)] 38 (0, 0)) := by rw [← hW7]; simp [World.setCell, Array.getElem?_modify, HB6.out]
        have HB7 := Lib.hid hb7
        have HJ7 := Lib.hid (HJ.out _ _ W7 HJ6.out hG7 ⟨_, hb7⟩)
        have HX7 := Lib.hid (HCUT.out.turn (W' := W7) (fun b h1 h2 => by
          by_cases hl : b < W6.heap.size
          · exact hG7.block b hl (fun e => by injection e with e; omega)
          · rw [← hW7]; exact Below.heap_setCell _ _ _ b (by simp; omega)))
        have hm7 : W7.cell? ⟨bx, 0, none⟩ = some (.slice A1 r.length (c - 2)) := by simp [World.cell?, hb7]
        rw [hW7]
        clear hW7 hG7 hb7 HB6 HJ6 HCUT b06 bf6
        go_roundw
        case rel => exact ⟨i + 1, r, ps ++ [(x, y.f1)], _, by have := HRL.out; omega, HB7, HX7, HPP, HJ7⟩
        case measure => rw [hm7, B0.out]; simp only []; have := HRL.out; omega
      · clear hyl HRd
        gi_wp2
        refine bodyPost_ret (results_none rfl _ _ _) rfl ?_
        exact ⟨⟨_, rfl⟩, .inr ⟨_, hJx6, trivial⟩⟩
    · have h1' : decide ((1 : Int) < (rs.length : Int)) = false := by simp; omega
      have h1'' : decide ((rs.length : Int) > 1) = false := by simp; omega
      have hPP : pairsL xs = ps ++ [(z62, ⟨#[]⟩)] := by rw [HP.out, pairsL_short h1]
      have hget : (pairsL xs)[ps.length]? = some (z62, ⟨#[]⟩) := by rw [hPP, List.getElem?_append_right (Nat.le_refl _), Nat.sub_self]; rfl
      obtain ⟨fn, tmps, assign, body, hyl, hRd⟩ := HY.out ps (z62, ⟨#[]⟩) wr HJ1.out hget
      have HRd := Lib.hid hRd
      have HPP := Lib.hid hPP
      dsimp only [tokV, z62] at hyl
      clear hRd hPP hget hC h1
      gi_wp2
      refine ⟨deepW, HRd.out.mono ?_⟩
      rintro e' W6 (⟨rfl, hJ6, hk6⟩ | ⟨rfl, hJx6⟩)
      · gi_wp2
        go_end0
        exact ⟨⟨_, rfl⟩, .inl ⟨_, hJ6, HPP.out.symm⟩⟩
      · gi_wp2
        go_end0
        exact ⟨⟨_, rfl⟩, .inr ⟨_, hJx6, trivial⟩⟩
end Go.Proofs.YthifdcakhdckfaaDoor

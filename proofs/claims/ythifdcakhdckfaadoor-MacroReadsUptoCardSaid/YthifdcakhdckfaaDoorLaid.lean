/-
  What a row's list gives: the table of signs holds its strings; what the shape of a world gives: the variable MaxLen holds a number.
-/
import Derived.Test.YthifdcakhdckfaaDoorShown
import Derived.Test.YthifdcakhdckfaaDoorCards
import Derived.Test.YthifdcakhdckfaaDoorTie
import Derived.WalkKit
import Derived.ProofKit
import Derived.OpenShut
import Derived.Deep.DeepHandedRow
import Derived.Lib.LaidTab
import Derived.Clock
namespace Go.Proofs.YthifdcakhdckfaaDoor
open Go.ChangeShapes Go.WideShapes Go.ChangeAt Go.RowKit

theorem cells_of_strs {H : Type} {enc : TypeId × Value → H} {P : Program} {w : World} {base : Nat} {sp : Nat → Bool} {held : Bool} {fuel : Nat} {t e : TypeId} {n : Nat} {cs : List Value} {zs : List (List UInt8)} {p : List MemPlace}
    (ht : P.underlying t = some (.array n e)) (he : P.underlying e = some .string) (hce : P.cellsOf e = 1) (hct : P.cellsOf t = n)
    (h : DataW.trod enc P w base sp held fuel t cs = some (.agg (zs.map fun z => .lit (.string z)), p)) : cs = zs.map fun z => Value.string ⟨z.toArray⟩ := by
  cases fuel with
  | zero => simp [DataW.trod] at h
  | succ fuel =>
    simp only [DataW.trod, ht, hce, hct, Nat.mul_one] at h
    split at h
    · rename_i hl
      obtain ⟨xs, hm, hx⟩ := Option.map_eq_some_iff.1 h
      have hxs : xs.map (·.1) = zs.map fun z => (DataW.lit (.string z) : DataW H) := by
        have := congrArg Prod.fst hx
        simpa using this
      have hxl : xs.length = n := by simpa using Lib.mapM_length hm
      have hzl : zs.length = n := by
        have := congrArg List.length hxs
        simp at this
        omega
      apply List.ext_getElem?
      intro i
      by_cases hi : i < n
      · obtain ⟨b, hb, hf⟩ := Lib.mapM_at hm i i (by simp [hi])
        obtain ⟨z, hc, rfl, _⟩ := DataW.trod_string he hf
        have h1 : cs[i]? = some (.string z) := by
          have := congrArg (·[0]?) hc
          simpa [List.getElem?_take, List.getElem?_drop] using this
        have h2 : (xs.map (·.1))[i]? = some (DataW.lit (.string z.data.toList) : DataW H) := by simp [hb]
        rw [hxs] at h2
        simp only [List.getElem?_map, Option.map_eq_some_iff, DataW.lit.injEq, Lit.string.injEq] at h2
        obtain ⟨z', hz', e⟩ := h2
        rw [h1, List.getElem?_map, hz', Option.map_some, e]
      · rw [List.getElem?_eq_none (by omega), List.getElem?_eq_none (by simp; omega)]
    · cases h
theorem own : ownKnob Tryd.prog.godebug = none := by kernel_rfl
theorem gSig : Tryd.prog.globalNamed "burin/token.signs" = some 2 := by kernel_rfl
theorem gSigType : (Tryd.prog.globals[2]?).map (·.type) = some 248 := by kernel_rfl
theorem cells248 : Tryd.prog.cellsOf 248 = 48 := by kernel_rfl
theorem cells9 : Tryd.prog.cellsOf 9 = 1 := by kernel_rfl
theorem signs_laid : (Rows.laid_burin_token_signs : DataW Unit) = .agg (Lx.signs.map fun z => .lit (.string z)) := rfl
theorem sig_laid {W : World} (h : laidMetH Tryd.prog [("burin/token.signs", Rows.laid_burin_token_signs)] W) : SigIs W := by
  have h' : laidMet Tryd.prog [("burin/token.signs", Rows.laid_burin_token_signs)] W := h
  obtain ⟨ps, ⟨g', t', cs, fuel, p, q, hg', ht', hvar, hd, _, _⟩, _⟩ := h'
  obtain rfl := Option.some.inj (gSig.symm.trans hg')
  obtain rfl := Option.some.inj (gSigType.symm.trans ht')
  rw [signs_laid] at hd
  have hc := cells_of_strs Tryd.underlying248 Tryd.underlying9 cells9 cells248 hd
  unfold World.var? at hvar
  rw [gSig] at hvar
  simp only [Option.bind_some] at hvar
  split at hvar
  · rename_i c t fr hh
    injection hvar with hvar
    subst hvar
    refine ⟨t, fr, ?_⟩
    rw [hh]
    have : c = sigVals := by
      unfold sigVals
      rw [← hc]
    rw [this]
  · cases hvar
set_option maxRecDepth 100000 in
theorem max_shape {W : World} (h : W.ShapedOpen Tryd.prog) : MaxIs W ∧ 5 < W.heap.size := by
  have h0 : ((begin Tryd.prog (fun _ _ => 0) default).world.heap[5]?).bind Obj.row? = some ((#[Value.int .i64 0] : Array Value), (3 : TypeId)) := by kernel_rfl
  obtain ⟨cs, hh, hs, hr⟩ := h.1 5 _ _ (by decide +kernel) h0
  obtain ⟨ts, hts, _, hall⟩ := hr (by kernel_rfl)
  have hc : Tryd.prog.cellTypes Tryd.prog.depth 3 = some [3] := by kernel_rfl
  rw [hc] at hts
  cases hts
  have h1 : 0 < cs.size := by rw [hs]; decide
  obtain ⟨u, hu', hok⟩ := hall 0 cs[0] (by simp [h1])
  have : u = 3 := by simpa using hu'.symm
  subst this
  have hcell : W.cell? ⟨5, 0, none⟩ = some cs[0] := by simp [World.cell?, hh, h1]
  refine ⟨?_, (Array.getElem?_eq_some_iff.1 hh).1⟩
  unfold MaxIs
  rw [hcell]
  unfold Cell.ok at hok
  rw [Tryd.underlying3] at hok
  cases hv : cs[0] <;> rw [hv] at hok <;> simp at hok
  obtain ⟨rfl, _⟩ := hok
  exact ⟨_, rfl⟩
/-- A law's end: true came back, the arguments read as they did, nothing that was there is touched. -/
theorem post_below {H : Type} {enc : TypeId × Value → H} {P : Program} {f : Func} {s : ChangeSpec} {again : Bool} {W W' : World} {args : Array Value} {v : Value} {ds gs : List (DataW H)} {before : List MemPlace}
    (hW : DataW.Whole enc P f.params.toList s.vars false W args.toList ds gs before) (hB : Below W.heap.size W W')
    (hres : ∀ (b : Nat) (sp : Nat → Bool) (hd : Bool), DataW.TrodAll enc P W' b sp hd f.resultTypes.toList (v.resultList f.resultTypes.size) (s.fn H (ds ++ gs)).results [])
    (hargs : ∀ sp : Nat → Bool, (∀ p ∈ before, sp p.block = true) → DataW.TrodAll enc P W' 0 sp true f.params.toList args.toList (s.fn H (ds ++ gs)).args before)
    (hvars : ∀ sp : Nat → Bool, DataW.TrodVars enc P W' sp s.vars (s.fn H (ds ++ gs)).vars [])
    (hok : ∀ (j : Nat) (t : TypeId) (r : Value), f.resultTypes[j]? = some t → (v.resultList f.resultTypes.size)[j]? = some r → Value.okWide P W' .any 0 t r) :
    s.post enc P f false true false again W args v W' := by
  have hlt := hW.lt
  have hold : ∀ p ∈ before, (fun b => decide (b < W.heap.size)) p.block = true := fun p hp => by simpa using hlt p hp
  refine ⟨ds, gs, before, [], before, [], hW, hres _ _ _, hargs _ hold, hvars _, World.keptBut_mono (fun p hp => ⟨hp, ?_⟩) (hB.frame _), fun _ => ?_⟩
  · exact Or.inr (Or.inl hp)
  · obtain ⟨_, _, _, _, _, hz, hn⟩ := hW
    refine ⟨hok, _, _, ([] ++ before) ++ [], ⟨[] ++ before, [], trodAll_append (hargs _ (fun _ _ => rfl)) (hres _ _ _), hvars _, rfl, ?_, ?_⟩, ?_⟩
    · intro b off hp
      have hp' : MemPlace.cell b off ∈ before := by simpa using hp
      rw [hB.frozen (hlt _ hp')]
      exact hz b off hp'
    · intro ha
      cases ha
    · intro p hp _
      simpa using hp
end Go.Proofs.YthifdcakhdckfaaDoor

/-
  The lexer of one line, in plain Lean: what the program's lexer and the reference's lexer both come to.
  Walks: the bytes' kinds of the program's lexer (isLetter, isDigit, isWord), and what goes on (many), of names and numbers.
  Walks: the lengths of names, numbers, quoted texts in the program's lexer.
-/
import Derived.Test.YthifdcakhdckfaaDoorProg
import Derived.WalkKit
import Derived.WalkLawsBesides
import Derived.WalkSpells
import Derived.BigQuiet
import Derived.Lib.Hide
import Derived.Test.YthifdcakhdckfaaDoorShelf
namespace Go.Proofs.YthifdcakhdckfaaDoor.Lx
abbrev L := List UInt8

def isLet (c : UInt8) : Bool := (97 ≤ c && c ≤ 122) || (65 ≤ c && c ≤ 90) || c == 95
def isDig (c : UInt8) : Bool := 48 ≤ c && c ≤ 57
def isWrd (c : UInt8) : Bool := isLet c || isDig c
def isExp (c : UInt8) : Bool := c == 101 || c == 69 || c == 112 || c == 80
def isBlank (c : UInt8) : Bool := c == 32 || c == 9 || c == 11 || c == 12

def at_ (s : L) (i : Nat) : UInt8 := s.getD i 0

/-- how many first places go on -/
def cnt (p : Nat → Bool) : Nat → Nat → Nat
  | 0, i => i
  | f + 1, i => if p i then cnt p f (i + 1) else i
def many (n : Nat) (p : Nat → Bool) : Nat := cnt p n 0

def nameLen (s : L) : Nat := many s.length fun i => isWrd (at_ s i)
def numOk (s : L) (i : Nat) : Bool := isWrd (at_ s i) || at_ s i == 46 || (decide (0 < i) && (at_ s i == 43 || at_ s i == 45) && isExp (at_ s (i - 1)))
def numLen (s : L) : Nat := many s.length (numOk s)

def quoGo (s : L) : Nat → Nat → Nat
  | 0, _ => 0
  | f + 1, i => if i < s.length then (if at_ s i == 92 then quoGo s f (i + 2) else if at_ s i == at_ s 0 then i + 1 else quoGo s f (i + 1)) else 0
def quoLen (s : L) : Nat := quoGo s s.length 1

/-- the signs, in the program's order -/
def signs : List L := [[46, 46, 46], [60, 60, 61], [62, 62, 61], [45, 62], [43, 43], [45, 45], [60, 60], [62, 62], [60, 61], [62, 61], [61, 61], [33, 61], [38, 38], [124, 124], [42, 61], [47, 61], [37, 61], [43, 61], [45, 61], [38, 61], [94, 61], [124, 61], [35, 35],
  [91], [93], [40], [41], [123], [125], [46], [38], [42], [43], [45], [126], [33], [47], [37], [60], [62], [94], [124], [63], [58], [59], [61], [44], [35]]
def pre (x s : L) : Bool := x.isPrefixOf s
def signLen (s : L) : Nat := match signs.find? (fun x => pre x s) with | some x => x.length | none => 0

/-- kind and length of the token that begins a text that is not empty -/
def next (s : L) : Int × Nat :=
  let c := at_ s 0
  if isLet c then (1, nameLen s)
  else if isDig c || (c == 46 && decide (1 < s.length) && isDig (at_ s 1)) then (2, numLen s)
  else if c == 34 then (4, quoLen s)
  else if c == 39 then (3, if quoLen s = 2 then 0 else quoLen s)
  else if signLen s = 0 then (6, 1) else (5, signLen s)

/-- what stands behind the first "*/" -/
def behind : L → Option L
  | [] => none
  | c :: t => if c == 42 && at_ t 0 == 47 && decide (0 < t.length) then some (t.drop 1) else behind t

/-- blanks and comments taken off: is a comment open, was there a blank, what is left -/
def skip : Nat → Bool → Bool → L → Bool × Bool × L
  | 0, o, sp, _ => (o, sp, [])
  | f + 1, o, sp, s =>
    if s = [] then (o, sp, [])
    else if o then (match behind s with | none => (true, true, []) | some r => skip f false true r)
    else if pre [47, 47] s then (o, sp, [])
    else if pre [47, 42] s then skip f true sp (s.drop 2)
    else if isBlank (at_ s 0) then skip f o true (s.drop 1)
    else (o, sp, s)
def skipAll (o sp : Bool) (s : L) : Bool × Bool × L := skip (s.length + 1) o sp s

/-- a token of line 1 -/
structure Tk where
  kind : Int
  s : L
  space : Bool
  first : Bool
deriving DecidableEq, Repr, Inhabited

/-- from a place on: an error, or tokens -/
def lexGo : Nat → Bool → Bool → Bool → L → List Tk → Int × List Tk
  | 0, _, _, _, _, _ => (21, [])
  | f + 1, o, sp, fi, s, out =>
    let r := skipAll o sp s
    if r.2.2 = [] then (if r.1 then (20, []) else (0, out))
    else
      let kn := next r.2.2
      if kn.2 = 0 then (21, [])
      else if out.length = 20000 then (22, [])
      else lexGo f r.1 false false (r.2.2.drop kn.2) (out ++ [⟨kn.1, r.2.2.take kn.2, r.2.1, fi⟩])
def lex (s : L) : Int × List Tk := lexGo (s.length + 1) false false true s []

end Go.Proofs.YthifdcakhdckfaaDoor.Lx

namespace Go.Proofs.YthifdcakhdckfaaDoor
open Go.RowKit

theorem byteAll {p : UInt8 → Bool} (h : ∀ n : Fin 256, p (UInt8.ofNat n.val) = true) (c : UInt8) : p c = true := by
  have := h ⟨c.toNat, c.toNat_lt⟩
  simpa using this
theorem digB (c : UInt8) : (decide (48 ≤ (c.toNat : Int)) && decide ((c.toNat : Int) ≤ 57)) = Lx.isDig c := by
  have := byteAll (p := fun c => (decide (48 ≤ (c.toNat : Int)) && decide ((c.toNat : Int) ≤ 57)) == Lx.isDig c) (by decide +kernel) c
  simpa using this
theorem letB (c : UInt8) : ((decide (97 ≤ bits BinOp.or IntKind.u8 (c.toNat : Int) 32) && decide (bits BinOp.or IntKind.u8 (c.toNat : Int) 32 ≤ 122)) || (c.toNat : Int) == 95) = Lx.isLet c := by
  have := byteAll (p := fun c => ((decide (97 ≤ bits BinOp.or IntKind.u8 (c.toNat : Int) 32) && decide (bits BinOp.or IntKind.u8 (c.toNat : Int) 32 ≤ 122)) || (c.toNat : Int) == 95) == Lx.isLet c) (by decide +kernel) c
  simpa using this

theorem isDigit_any (c : UInt8) (w : World) :
    Calls Tryd.prog 169 #[.int .u8 (c.toNat : Int)] w fun e w' => e = .returned (.bool (Lx.isDig c)) ∧ w = w' := by
  rw [← digB c]
  by_cases h : 48 ≤ (c.toNat : Int)
  · go_enter Tryd.func169, Tryd.ntmps169
    go_wp2
    go_ret
    exact ⟨by simp [h], rfl⟩
  · have h' : decide (48 ≤ (c.toNat : Int)) = false := by simp [h]
    go_enter Tryd.func169, Tryd.ntmps169
    go_wp2
    go_ret
    exact ⟨rfl, rfl⟩
theorem isLetter_any (c : UInt8) (w : World) :
    Calls Tryd.prog 165 #[.int .u8 (c.toNat : Int)] w fun e w' => e = .returned (.bool (Lx.isLet c)) ∧ w = w' := by
  rw [← letB c]
  go_enter Tryd.func165, Tryd.ntmps165
  go_wp2
  all_goals go_ret
  all_goals exact ⟨by simp [*] <;> omega, rfl⟩
theorem isWord_any (c : UInt8) (w : World) :
    Calls Tryd.prog 168 #[.int .u8 (c.toNat : Int)] w fun e w' => e = .returned (.bool (Lx.isWrd c)) ∧ w = w' := by
  by_cases h : Lx.isLet c = true
  · go_enter Tryd.func168, Tryd.ntmps168
    go_wp2_with (go_at_call 165; refine (isLetter_any _ _).mono ?_; rintro e w' ⟨rfl, rfl⟩)
    go_ret
    exact ⟨by simp [Lx.isWrd, h], rfl⟩
  · have h' : Lx.isLet c = false := by simpa using h
    go_enter Tryd.func168, Tryd.ntmps168
    go_wp2_with (first | (go_at_call 165; refine (isLetter_any _ _).mono ?_; rintro e w' ⟨rfl, rfl⟩) | (go_at_call 169; refine (isDigit_any _ _).mono ?_; rintro e w' ⟨rfl, rfl⟩))
    go_ret
    exact ⟨by simp [Lx.isWrd, h'], rfl⟩

theorem cnt_stop {p : Nat → Bool} {n i : Nat} (h : p i = false) : Lx.cnt p n i = i := by cases n <;> simp [Lx.cnt, h]
theorem cnt_go {p : Nat → Bool} {n i : Nat} (hn : i < n) (h : p i = true) : Lx.cnt p (n - i) i = Lx.cnt p (n - (i + 1)) (i + 1) := by
  obtain ⟨m, hm⟩ : ∃ m, n - i = m + 1 := ⟨n - i - 1, by omega⟩
  rw [hm, Lx.cnt, if_pos h, show n - (i + 1) = m by omega]

set_option maxHeartbeats 400000 in
theorem many_any (s : ByteArray) (hs : s.size ≤ 9223372036854775807) (f : Nat) (cap : Array Value) (w : World) (p : Nat → Bool)
    (hp : Hid (∀ i : Nat, i < s.size → Calls Tryd.prog f (#[.int .i64 (i : Int)] ++ cap) w fun e w' => e = .returned (.bool (p i)) ∧ w = w'))
    (hf : ∀ args w, (callFunc f args).run Tryd.prog w = .ok (.enter f args) w) :
    Calls Tryd.prog 166 #[.string s, .func (.func f) #[] cap] w fun e w' => e = .returned (.int .i64 (Lx.many s.size p : Nat)) ∧ w = w' := by
  go_enter Tryd.func166, Tryd.ntmps166
  go_wp2
  go_loop [5] (fun i => ∃ k : Nat, k ≤ s.size ∧ i = .int .i64 k ∧ Hid (Lx.many s.size p = Lx.cnt p (s.size - k) k)) (fun i => s.size - (intOf i).toNat)
  case atStart => exact ⟨0, Nat.zero_le _, rfl, by simp [Hid, Lx.many]⟩
  case round =>
    obtain ⟨k, hk, rfl, hc⟩ := hrel
    by_cases hlt : k < s.size
    · have h1 := hp.out k hlt
      have H1 := Lib.hid h1
      clear h1
      cases hb : p k with
      | true =>
        have HB := Lib.hid hb
        clear hb
        go_wp2_with fail
        refine H1.out.mono ?_
        rintro e w' ⟨rfl, rfl⟩
        rw [HB.out]
        go_wp2
        go_round
        case rel => exact ⟨k + 1, by omega, by go_num, hc.out.trans (cnt_go hlt HB.out)⟩
        case measure => simp [intOf]; omega
      | false =>
        have HB := Lib.hid hb
        clear hb
        go_wp2_with fail
        refine H1.out.mono ?_
        rintro e w' ⟨rfl, rfl⟩
        rw [HB.out]
        go_wp2
        go_ret
        exact ⟨by rw [hc.out, cnt_stop HB.out]; rfl, rfl⟩
    · go_wp2
      go_ret
      exact ⟨by rw [hc.out, show s.size - k = 0 by omega]; rfl, rfl⟩
end Go.Proofs.YthifdcakhdckfaaDoor

namespace Go.Proofs.YthifdcakhdckfaaDoor
open Go.RowKit

def bl (s : ByteArray) : List UInt8 := s.data.toList
theorem bl_length (s : ByteArray) : (bl s).length = s.size := by unfold bl; rw [Array.length_toList]; rfl
theorem bl_at (s : ByteArray) (i : Nat) (h : i < s.size) : s[i] = Lx.at_ (bl s) i := by
  have h' : i < s.data.toList.length := by rw [Array.length_toList]; exact h
  unfold Lx.at_ bl
  rw [List.getD_eq_getElem?_getD, List.getElem?_eq_getElem h']
  rfl

theorem next1_any (s : ByteArray) (a : Addr) (w : World) (hc : w.cell? a = some (.string s)) (i : Nat) (hi : i < s.size) :
    Calls Tryd.prog 167 #[.int .i64 (i : Int), .pointer (some a)] w fun e w' => e = .returned (.bool (Lx.isWrd (Lx.at_ (bl s) i))) ∧ w = w' := by
  rw [← bl_at s i hi]
  go_enter Tryd.func167, Tryd.ntmps167
  go_wp2_with (go_at_call 168; refine (isWord_any _ _).mono ?_; rintro e w' ⟨rfl, rfl⟩)
  go_ret
  exact ⟨rfl, rfl⟩

theorem expB (c : UInt8) : decide (0 ≤ Lib.indexByte [101, 69, 112, 80] c) = Lx.isExp c := by
  have := byteAll (p := fun c => (decide (0 ≤ Lib.indexByte [101, 69, 112, 80] c)) == Lx.isExp c) (by decide +kernel) c
  simpa using this
theorem eqB (c : UInt8) (n : UInt8) : ((c.toNat : Int) == (n.toNat : Int)) = (c == n) := by
  rw [Bool.eq_iff_iff]
  simp only [beq_iff_eq]
  constructor
  · intro h
    exact UInt8.toNat_inj.1 (by omega)
  · rintro rfl
    rfl

theorem IndexByte_any (s : ByteArray) (c : Int) (w : World) :
    Calls Tryd.prog 164 #[.string s, .int .u8 c] w fun e w' => e = .returned (.int .i64 (Lib.indexByte s.data.toList c.toNat.toUInt8)) ∧ w = w' :=
  (Tryd.strings_IndexByte s c w).mono fun _ _ ⟨h, h'⟩ => ⟨h, h'.symm⟩
theorem HasPrefix_any (s p : ByteArray) (w : World) :
    Calls Tryd.prog 163 #[.string s, .string p] w fun e w' => e = .returned (.bool (Lx.pre (bl p) (bl s))) ∧ w = w' :=
  (Tryd.strings_HasPrefix s p w).mono fun _ _ ⟨h, h'⟩ => ⟨h, h'.symm⟩

set_option maxHeartbeats 800000 in
theorem numeric1_any (s : ByteArray) (hs : s.size ≤ 9223372036854775807) (a : Addr) (w : World) (hc : w.cell? a = some (.string s)) (i : Nat) (hi : i < s.size) :
    Calls Tryd.prog 213 #[.int .i64 (i : Int), .pointer (some a)] w fun e w' => e = .returned (.bool (Lx.numOk (bl s) i)) ∧ w = w' := by
  have hb := bl_at s i hi
  have e46 := eqB s[i] 46
  have e43 := eqB s[i] 43
  have e45 := eqB s[i] 45
  rw [hb] at e46 e43 e45
  rw [← hb] at e46 e43 e45
  by_cases h1 : Lx.isWrd s[i] = true
  · have H1 := Lib.hid h1
    have hfin : Lx.numOk (bl s) i = true := by unfold Lx.numOk; rw [← hb, h1]; rfl
    rw [hfin]
    clear h1 hfin hb e46 e43 e45
    go_enter Tryd.func213, Tryd.ntmps213
    go_wp2_with (go_at_call 168; refine (isWord_any _ _).mono ?_; rintro e w' ⟨rfl, rfl⟩; rw [H1.out])
    go_ret
    exact ⟨rfl, rfl⟩
  · have h1' : Lx.isWrd s[i] = false := by simpa using h1
    have H1 := Lib.hid h1'
    clear h1
    by_cases h2 : s[i] = 46
    · have hfin : Lx.numOk (bl s) i = true := by unfold Lx.numOk; rw [← hb, h1', h2]; rfl
      have h46 : ((s[i].toNat : Int) == 46) = true := by rw [show (46 : Int) = ((46 : UInt8).toNat : Int) from rfl, e46]; simpa using h2
      rw [hfin]
      clear h1' hfin hb e46 e43 e45 h2
      go_enter Tryd.func213, Tryd.ntmps213
      go_wp2_with (go_at_call 168; refine (isWord_any _ _).mono ?_; rintro e w' ⟨rfl, rfl⟩; rw [H1.out])
      go_ret
      exact ⟨rfl, rfl⟩
    · have h46 : ((s[i].toNat : Int) == 46) = false := by rw [show (46 : Int) = ((46 : UInt8).toNat : Int) from rfl, e46]; simpa using h2
      by_cases h3 : 0 < i
      · have hi1 : i - 1 < s.size := by omega
        have hb1 := bl_at s (i - 1) hi1
        by_cases h4 : s[i] = 43
        · have h43 : ((s[i].toNat : Int) == 43) = true := by rw [show (43 : Int) = ((43 : UInt8).toNat : Int) from rfl, e43]; simpa using h4
          have hfin : Lx.numOk (bl s) i = Lx.isExp s[i - 1] := by unfold Lx.numOk; rw [← hb, h1', ← hb1, h4]; simp [h3]
          rw [hfin, ← expB]
          clear h1' hfin hb e46 e43 e45 h2 h4 hb1
          go_enter Tryd.func213, Tryd.ntmps213
          go_wp2_with (first | (go_at_call 168; refine (isWord_any _ _).mono ?_; rintro e w' ⟨rfl, rfl⟩; rw [H1.out]) | (go_at_call 164; refine (IndexByte_any _ _ _).mono ?_; rintro e w' ⟨rfl, rfl⟩))
          all_goals go_ret
          all_goals exact ⟨rfl, rfl⟩
        · have h43 : ((s[i].toNat : Int) == 43) = false := by rw [show (43 : Int) = ((43 : UInt8).toNat : Int) from rfl, e43]; simpa using h4
          by_cases h5 : s[i] = 45
          · have h45 : ((s[i].toNat : Int) == 45) = true := by rw [show (45 : Int) = ((45 : UInt8).toNat : Int) from rfl, e45]; simpa using h5
            have hfin : Lx.numOk (bl s) i = Lx.isExp s[i - 1] := by unfold Lx.numOk; rw [← hb, h1', ← hb1, h5]; simp [h3]
            rw [hfin, ← expB]
            clear h1' hfin hb e46 e43 e45 h2 h4 h5 hb1
            go_enter Tryd.func213, Tryd.ntmps213
            go_wp2_with (first | (go_at_call 168; refine (isWord_any _ _).mono ?_; rintro e w' ⟨rfl, rfl⟩; rw [H1.out]) | (go_at_call 164; refine (IndexByte_any _ _ _).mono ?_; rintro e w' ⟨rfl, rfl⟩))
            all_goals go_ret
            all_goals exact ⟨rfl, rfl⟩
          · have h45 : ((s[i].toNat : Int) == 45) = false := by rw [show (45 : Int) = ((45 : UInt8).toNat : Int) from rfl, e45]; simpa using h5
            have hfin : Lx.numOk (bl s) i = false := by unfold Lx.numOk; rw [← hb, h1']; simp [h2, h4, h5]
            rw [hfin]
            clear h1' hfin hb e46 e43 e45 h2 h4 h5 hb1
            go_enter Tryd.func213, Tryd.ntmps213
            go_wp2_with (first | (go_at_call 168; refine (isWord_any _ _).mono ?_; rintro e w' ⟨rfl, rfl⟩; rw [H1.out]) | (go_at_call 164; refine (IndexByte_any _ _ _).mono ?_; rintro e w' ⟨rfl, rfl⟩))
            all_goals go_ret
            all_goals exact ⟨rfl, rfl⟩
      · have h30 : decide (0 < (i : Int)) = false := by simp; omega
        have hfin : Lx.numOk (bl s) i = false := by unfold Lx.numOk; rw [← hb, h1']; simp [h2, h3]
        rw [hfin]
        clear h1' hfin hb e46 e43 e45 h2
        go_enter Tryd.func213, Tryd.ntmps213
        go_wp2_with (go_at_call 168; refine (isWord_any _ _).mono ?_; rintro e w' ⟨rfl, rfl⟩; rw [H1.out])
        go_ret
        exact ⟨rfl, rfl⟩

theorem many_len (n : Nat) (p q : Nat → Bool) (h : ∀ i, i < n → p i = q i) : Lx.many n p = Lx.many n q := by
  have key : ∀ f i, i + f = n → Lx.cnt p f i = Lx.cnt q f i := by
    intro f
    induction f with
    | zero => intro i _; rfl
    | succ f ih =>
      intro i hi
      unfold Lx.cnt
      rw [h i (by omega), ih (i + 1) (by omega)]
  exact key n 0 (by omega)
theorem many_le (n : Nat) (p : Nat → Bool) : Lx.many n p ≤ n := by
  have key : ∀ f i, Lx.cnt p f i ≤ i + f := by
    intro f
    induction f with
    | zero => intro i; exact Nat.le_refl _
    | succ f ih =>
      intro i
      unfold Lx.cnt
      split
      · have := ih (i + 1); omega
      · omega
  have := key n 0
  simpa [Lx.many] using this

theorem enter_of {f : Nat} {fn : Func} {c : Code} (hf : Tryd.prog.funcs[f]? = some fn) (hb : fn.body = some c) (hk : (fn.name == "runtime.NumGoroutine") = false) (args : Array Value) (w : World) :
    (callFunc f args).run Tryd.prog w = .ok (.enter f args) w := by
  exact enters_of hf hk hb args w

theorem numeric_any (s : ByteArray) (hs : s.size ≤ 9223372036854775807) (w : World) :
    Calls Tryd.prog 170 #[.string s] w fun e w' => e = .returned (.int .i64 (Lx.numLen (bl s) : Nat)) ∧ w' = w.alloc (.cells #[.string s] 9) := by
  have hm := many_any s hs 213 #[.pointer (some ⟨w.heap.size, 0, none⟩)] (w.alloc (.cells #[.string s] 9)) (Lx.numOk (bl s)) (fun i hi => numeric1_any s hs _ _ (World.cell?_alloc_at _ _ _ _ rfl) i hi) (enters_of Tryd.func213 (by kernel_rfl) rfl)
  rw [show Lx.many s.size (Lx.numOk (bl s)) = Lx.numLen (bl s) by rw [Lx.numLen, bl_length]] at hm
  have HM := Lib.hid hm
  clear hm
  go_enter Tryd.func170, Tryd.ntmps170
  go_wp2_with fail
  refine HM.out.mono ?_
  rintro e w' ⟨rfl, rfl⟩
  go_wp2
  go_ret
  exact ⟨rfl, rfl⟩

theorem quo_stop {s : List UInt8} {f i : Nat} (h : s.length ≤ i) : Lx.quoGo s f i = 0 := by cases f <;> simp [Lx.quoGo, Nat.not_lt.2 h]
theorem quo_more (s : List UInt8) : ∀ (f g i : Nat), s.length ≤ i + f → s.length ≤ i + g → Lx.quoGo s f i = Lx.quoGo s g i
  | 0, g, i, h, _ => by rw [quo_stop (by omega), quo_stop (by omega)]
  | f + 1, 0, i, _, h => by rw [quo_stop (by omega), quo_stop (by omega)]
  | f + 1, g + 1, i, hf, hg => by
    unfold Lx.quoGo
    rw [quo_more s f g (i + 2) (by omega) (by omega), quo_more s f g (i + 1) (by omega) (by omega)]
theorem quo_bs {s : List UInt8} {i : Nat} (hi : i < s.length) (h : Lx.at_ s i = 92) : Lx.quoGo s (s.length - i) i = Lx.quoGo s (s.length - (i + 2)) (i + 2) := by
  obtain ⟨f, hf⟩ : ∃ f, s.length - i = f + 1 := ⟨s.length - i - 1, by omega⟩
  rw [hf, Lx.quoGo, if_pos hi, if_pos (by simp [h])]
  exact quo_more s _ _ _ (by omega) (by omega)
theorem quo_hit {s : List UInt8} {i : Nat} (hi : i < s.length) (h : (Lx.at_ s i == 92) = false) (h0 : (Lx.at_ s i == Lx.at_ s 0) = true) : Lx.quoGo s (s.length - i) i = i + 1 := by
  obtain ⟨f, hf⟩ : ∃ f, s.length - i = f + 1 := ⟨s.length - i - 1, by omega⟩
  rw [hf, Lx.quoGo, if_pos hi, if_neg (by simp [h]), if_pos h0]
theorem quo_next {s : List UInt8} {i : Nat} (hi : i < s.length) (h : (Lx.at_ s i == 92) = false) (h0 : (Lx.at_ s i == Lx.at_ s 0) = false) : Lx.quoGo s (s.length - i) i = Lx.quoGo s (s.length - (i + 1)) (i + 1) := by
  obtain ⟨f, hf⟩ : ∃ f, s.length - i = f + 1 := ⟨s.length - i - 1, by omega⟩
  rw [hf, Lx.quoGo, if_pos hi, if_neg (by simp [h]), if_neg (by simp [h0])]
  exact quo_more s _ _ _ (by omega) (by omega)
theorem quoLen_eq (s : List UInt8) : Lx.quoLen s = Lx.quoGo s (s.length - 1) 1 := quo_more s _ _ _ (by omega) (by omega)

set_option maxHeartbeats 800000 in
theorem quoted_any (s : ByteArray) (hs : s.size ≤ 9223372036854775800) (h0 : 0 < s.size) (w : World) :
    Calls Tryd.prog 171 #[.string s] w fun e w' => e = .returned (.int .i64 (Lx.quoLen (bl s) : Nat)) ∧ w = w' := by
  have hlen := bl_length s
  have hb0 := bl_at s 0 h0
  go_enter Tryd.func171, Tryd.ntmps171
  clear hlen hb0
  go_wp2
  go_loop [3] (fun i => ∃ k : Nat, k ≤ s.size + 1 ∧ i = .int .i64 k ∧ Hid (Lx.quoLen (bl s) = Lx.quoGo (bl s) ((bl s).length - k) k)) (fun i => s.size + 2 - (intOf i).toNat)
  case atStart => exact ⟨1, by omega, rfl, quoLen_eq _⟩
  case round =>
    obtain ⟨k, hk, rfl, hc⟩ := hrel
    by_cases hlt : k < s.size
    · have hl : k < (bl s).length := by rw [bl_length]; exact hlt
      have HL := Lib.hid hl
      clear hl
      have hb := bl_at s k hlt
      have hb0 := bl_at s 0 h0
      have e92 := eqB s[k] 92
      have e0 := eqB s[k] s[0]
      by_cases h1 : s[k] = 92
      · have h92 : ((s[k].toNat : Int) == 92) = true := by rw [show (92 : Int) = ((92 : UInt8).toNat : Int) from rfl, e92]; simpa using h1
        have hq := quo_bs HL.out (by rw [← hb]; exact h1)
        have HQ := Lib.hid (hc.out.trans hq)
        clear hb hb0 e92 e0 h1 hq hc
        go_wp2
        go_round
        case rel => exact ⟨k + 2, by omega, by go_num, HQ⟩
        case measure => simp [intOf]; omega
      · have h92 : ((s[k].toNat : Int) == 92) = false := by rw [show (92 : Int) = ((92 : UInt8).toNat : Int) from rfl, e92]; simpa using h1
        by_cases h2 : s[k] = s[0]
        · have h00 : ((s[k].toNat : Int) == (s[0].toNat : Int)) = true := by rw [e0]; simpa using h2
          have hq := quo_hit HL.out (by rw [← hb]; exact beq_eq_false_iff_ne.2 h1) (by rw [← hb, ← hb0]; exact beq_iff_eq.2 h2)
          have HQ := Lib.hid (hc.out.trans hq)
          clear hb hb0 e92 e0 h1 h2 hq hc
          go_wp2
          go_ret
          exact ⟨by rw [HQ.out]; go_num, rfl⟩
        · have h00 : ((s[k].toNat : Int) == (s[0].toNat : Int)) = false := by rw [e0]; simpa using h2
          have hq := quo_next HL.out (by rw [← hb]; exact beq_eq_false_iff_ne.2 h1) (by rw [← hb, ← hb0]; exact beq_eq_false_iff_ne.2 h2)
          have HQ := Lib.hid (hc.out.trans hq)
          clear hb hb0 e92 e0 h1 h2 hq hc
          go_wp2
          go_round
          case rel => exact ⟨k + 1, by omega, by go_num, HQ⟩
          case measure => simp [intOf]; omega
    · have hq := quo_stop (s := bl s) (f := (bl s).length - k) (i := k) (by rw [bl_length]; omega)
      have HQ := Lib.hid (hc.out.trans hq)
      clear hq hc
      go_wp2
      go_ret
      exact ⟨by rw [HQ.out]; rfl, rfl⟩
end Go.Proofs.YthifdcakhdckfaaDoor

/-
  Plain law: what the printed reference functions (name, number, quote, sign, first) compute is the lexer's 'next'.
-/
import Derived.Test.YthifdcakhdckfaaDoorRef4
import Derived.Test.YthifdcakhdckfaaDoorTok2
import Derived.Test.YthifdcakhdckfaaDoorLxP
namespace Go.Proofs.YthifdcakhdckfaaDoor
set_option linter.unusedSimpArgs false
set_option linter.unusedVariables false
open Go.RowKit PMacroWords Go.Proofs.YthifdcakhdckfaaDoorW.PrintWords Go.Proofs.YthifdcakhdckfaaDoorW.PrintLast Go.Proofs.YthifdcakhdckfaaDoorW.PrintMore

theorem bt_at (s : ByteArray) (i : Nat) : bt s (i : Int) = ((Lx.at_ (bl s) i).toNat : Int) := by
  unfold bt
  have hi : ((i : Int)).toNat = i := by omega
  simp only [hi]
  split
  · rename_i h
    have : Lx.at_ (bl s) i = s[i]'h := by
      unfold Lx.at_ bl
      rw [List.getD_eq_getElem?_getD]
      simp only [Array.getElem?_toList]
      have h' : i < s.data.size := h
      rw [Array.getElem?_eq_getElem h']
      rfl
    rw [this]
  · rename_i h
    have : Lx.at_ (bl s) i = 0 := by
      unfold Lx.at_
      rw [List.getD_eq_getElem?_getD, List.getElem?_eq_none (by rw [bl_length]; omega)]
      rfl
    rw [this]; rfl
theorem at_eqN (s : ByteArray) (i n : Nat) (h : n < 256) : (bt s (i : Int) = (n : Int)) ↔ (Lx.at_ (bl s) i == UInt8.ofNat n) = true := by
  rw [bt_at, beq_iff_eq]
  constructor
  · intro h
    have h2 : (Lx.at_ (bl s) i).toNat = n := by omega
    rw [← h2, UInt8.ofNat_toNat]
  · intro e; rw [e]; simp; omega
theorem letter_is (c : UInt8) : burinref02_letter.f (c.toNat : Int) = some (Lx.isLet c) := by
  have := byteAll (p := fun c => burinref02_letter.f (c.toNat : Int) == some (Lx.isLet c)) (by decide +kernel) c
  simpa using this
theorem digit_is (c : UInt8) : burinref02_digit.f (c.toNat : Int) = some (Lx.isDig c) := by
  have := byteAll (p := fun c => burinref02_digit.f (c.toNat : Int) == some (Lx.isDig c)) (by decide +kernel) c
  simpa using this
theorem blank_is (c : UInt8) : burinref02_blank.f (c.toNat : Int) = some (Lx.isBlank c) := by
  have := byteAll (p := fun c => burinref02_blank.f (c.toNat : Int) == some (Lx.isBlank c)) (by decide +kernel) c
  simpa using this
theorem wrapN (i : Nat) (h : i < 4294967296) : wrap64 ((i : Int) + 1) = ((i + 1 : Nat) : Int) := by rw [IntWalk.wrap64_in] <;> omega

theorem cnt_ge (p : Nat → Bool) : ∀ f i, i ≤ Lx.cnt p f i
  | 0, _ => Nat.le_refl _
  | f + 1, i => by
    unfold Lx.cnt
    split
    · exact Nat.le_trans (Nat.le_succ i) (cnt_ge p f (i + 1))
    · exact Nat.le_refl _
theorem name_l0 (s : ByteArray) (hs : s.size < 4294967290) : ∀ (f i k : Nat), i + f = s.size → f < k → burinref02_name.l0 k s i = some ((Lx.cnt (fun i => Lx.isWrd (Lx.at_ (bl s) i)) f i : Nat) : Int) := by
  intro f
  induction f with
  | zero =>
    intro i k hi hk
    obtain ⟨k, rfl⟩ : ∃ j, k = j + 1 := ⟨k - 1, by omega⟩
    simp only [burinref02_name.l0, Lx.cnt]
    rw [if_neg (by omega)]
  | succ f ih =>
    intro i k hi hk
    obtain ⟨k, rfl⟩ : ∃ j, k = j + 1 := ⟨k - 1, by omega⟩
    simp only [burinref02_name.l0, Lx.cnt, bt_at, letter_is, digit_is, Option.bind_some]
    rw [if_pos (by omega), if_pos (by omega), wrapN i (by omega), ih (i + 1) k (by omega) (by omega)]
    cases hL : Lx.isLet (Lx.at_ (bl s) i) <;> cases hD : Lx.isDig (Lx.at_ (bl s) i) <;> simp [Lx.isWrd, hL, hD]
theorem name_is (s : ByteArray) (hs : s.size < 4294967290) (h0 : 0 < s.size) (k : Nat) (hk : s.size + 2 ≤ k) : burinref02_name.f k s = some (if Lx.isLet (Lx.at_ (bl s) 0) then ((Lx.nameLen (bl s) : Nat) : Int) else 0) := by
  obtain ⟨k, rfl⟩ : ∃ j, k = j + 1 := ⟨k - 1, by omega⟩
  have hb := bt_at s 0
  simp only [Int.ofNat_zero] at hb
  unfold burinref02_name.f
  rw [if_neg (by omega), if_pos (by omega), show bt s 0 = _ from hb, letter_is]
  simp only [Option.bind_some, burinref02_name.j0]
  cases hl : Lx.isLet (Lx.at_ (bl s) 0) with
  | false => simp
  | true =>
    simp only [Bool.not_true, Bool.false_eq_true, if_false, if_true]
    have h := name_l0 s hs (s.size - 1) 1 k (by omega) (by omega)
    rw [show ((1 : Nat) : Int) = 1 from rfl] at h
    rw [h]
    congr 2
    unfold Lx.nameLen Lx.many
    rw [bl_length]
    obtain ⟨n, hn⟩ : ∃ n, s.size = n + 1 := ⟨s.size - 1, by omega⟩
    rw [hn]
    simp only [Lx.cnt, Lx.isWrd, hl, Bool.true_or, if_true]
    rfl
theorem number_l0 (s : ByteArray) (hs : s.size < 4294967290) : ∀ (f i k : Nat), 0 < i → i + f = s.size → 4 * f + 2 ≤ k → burinref02_number.l0 k s i = some ((Lx.cnt (Lx.numOk (bl s)) f i : Nat) : Int) := by
  intro f
  induction f with
  | zero =>
    intro i k h0 hi hk
    obtain ⟨k, rfl⟩ : ∃ j, k = j + 2 := ⟨k - 2, by omega⟩
    simp only [burinref02_number.l0, Lx.cnt, burinref02_number.j5]
    rw [if_pos (by omega), if_neg (by simp; omega)]
  | succ f ih =>
    intro i k h0 hi hk
    obtain ⟨k, rfl⟩ : ∃ j, k = j + 3 := ⟨k - 3, by omega⟩
    have hw : wrap64 ((i : Int) - 1) = ((i - 1 : Nat) : Int) := by rw [IntWalk.wrap64_in] <;> omega
    have hi1 := ih (i + 1) k (by omega) (by omega) (by omega)
    have e : ∀ (j n : Nat), n < 256 → ((bt s (j : Int) = (n : Int)) = ((Lx.at_ (bl s) j == UInt8.ofNat n) = true)) := fun j n h => propext (at_eqN s j n h)
    have e1 : (bt s ((i - 1 : Nat) : Int) = 101) = ((Lx.at_ (bl s) (i - 1) == 101) = true) := e (i - 1) 101 (by omega)
    have e2 : (bt s ((i - 1 : Nat) : Int) = 69) = ((Lx.at_ (bl s) (i - 1) == 69) = true) := e (i - 1) 69 (by omega)
    have e3 : (bt s ((i - 1 : Nat) : Int) = 112) = ((Lx.at_ (bl s) (i - 1) == 112) = true) := e (i - 1) 112 (by omega)
    have e4 : (bt s ((i - 1 : Nat) : Int) == 80) = (Lx.at_ (bl s) (i - 1) == 80) := by
      have := at_eqN s (i - 1) 80 (by omega)
      rw [Bool.eq_iff_iff, beq_iff_eq]; exact this
    have d1 : (bt s (i : Int) = 46) = ((Lx.at_ (bl s) i == 46) = true) := e i 46 (by omega)
    have d2 : (bt s (i : Int) = 43) = ((Lx.at_ (bl s) i == 43) = true) := e i 43 (by omega)
    have d3 : (bt s (i : Int) = 45) = ((Lx.at_ (bl s) i == 45) = true) := e i 45 (by omega)
    have hl : burinref02_letter.f (bt s (i : Int)) = some (Lx.isLet (Lx.at_ (bl s) i)) := by rw [bt_at, letter_is]
    have hd : burinref02_digit.f (bt s (i : Int)) = some (Lx.isDig (Lx.at_ (bl s) i)) := by rw [bt_at, digit_is]
    have j6 : ∀ b, burinref02_number.j6 (k + 1) s i b = some ((if (Lx.isWrd (Lx.at_ (bl s) i) || Lx.at_ (bl s) i == 46 || (b && (Lx.at_ (bl s) i == 43 || Lx.at_ (bl s) i == 45))) then ((Lx.cnt (Lx.numOk (bl s)) f (i + 1) : Nat) : Int) else (i : Int))) := by
      intro b
      simp only [burinref02_number.j6]
      rw [if_pos (by omega), if_pos (by omega), hl, hd, wrapN i (by omega), hi1]
      simp only [Option.bind_some, d1, d2, d3]
      unfold Lx.isWrd
      generalize Lx.isLet (Lx.at_ (bl s) i) = L
      generalize Lx.isDig (Lx.at_ (bl s) i) = D
      generalize (Lx.at_ (bl s) i == 46) = A
      generalize (Lx.at_ (bl s) i == 43) = B
      generalize (Lx.at_ (bl s) i == 45) = C
      cases L <;> cases D <;> cases A <;> cases B <;> cases C <;> cases b <;> rfl
    simp only [burinref02_number.l0, Lx.cnt, burinref02_number.j5]
    rw [if_pos (by omega), if_pos (by simp; omega), hw, if_pos (by omega), if_pos (by omega), j6, j6]
    simp only [e1, e2, e3, e4]
    have hdec : decide (0 < i) = true := by simp; omega
    simp only [Lx.numOk, Lx.isExp, hdec, Bool.true_and]
    generalize Lx.isWrd (Lx.at_ (bl s) i) = L
    generalize (Lx.at_ (bl s) i == 46) = A
    generalize (Lx.at_ (bl s) i == 43) = B
    generalize (Lx.at_ (bl s) i == 45) = C
    generalize (Lx.at_ (bl s) (i - 1) == 101) = E1
    generalize (Lx.at_ (bl s) (i - 1) == 69) = E2
    generalize (Lx.at_ (bl s) (i - 1) == 112) = E3
    generalize (Lx.at_ (bl s) (i - 1) == 80) = E4
    cases E1 <;> cases E2 <;> cases E3 <;> cases E4 <;> cases L <;> cases A <;> cases B <;> cases C <;> rfl

theorem number_is (s : ByteArray) (hs : s.size < 4294967290) (h0 : 0 < s.size) (k : Nat) (hk : 4 * s.size + 6 ≤ k) :
    burinref02_number.f k s = some (if Lx.isDig (Lx.at_ (bl s) 0) || (Lx.at_ (bl s) 0 == 46 && decide (1 < s.size) && Lx.isDig (Lx.at_ (bl s) 1)) then ((Lx.numLen (bl s) : Nat) : Int) else 0) := by
  obtain ⟨k, rfl⟩ : ∃ j, k = j + 4 := ⟨k - 4, by omega⟩
  have hd0 : burinref02_digit.f (bt s 0) = some (Lx.isDig (Lx.at_ (bl s) 0)) := by rw [show (0 : Int) = ((0 : Nat) : Int) from rfl, bt_at, digit_is]
  have hd1 : burinref02_digit.f (bt s 1) = some (Lx.isDig (Lx.at_ (bl s) 1)) := by rw [show (1 : Int) = ((1 : Nat) : Int) from rfl, bt_at, digit_is]
  have e46 : (bt s 0 = 46) = ((Lx.at_ (bl s) 0 == 46) = true) := propext (at_eqN s 0 46 (by omega))
  have hz : ∀ k : Nat, burinref02_number.l0 (k + 2) s 0 = some 0 := fun k => by
    simp only [burinref02_number.l0, burinref02_number.j5]
    rw [if_neg (by omega), if_neg (by simp)]
  have hlen : (bl s).length = s.size := bl_length s
  have h1 : Lx.isDig (Lx.at_ (bl s) 0) = true → burinref02_number.l0 k s 1 = some ((Lx.numLen (bl s) : Nat) : Int) := by
    intro hd
    have h := number_l0 s hs (s.size - 1) 1 k (by omega) (by omega) (by omega)
    rw [show ((1 : Nat) : Int) = 1 from rfl] at h
    rw [h]
    congr 2
    unfold Lx.numLen Lx.many
    rw [hlen]
    obtain ⟨n, hn⟩ : ∃ n, s.size = n + 1 := ⟨s.size - 1, by omega⟩
    rw [hn]
    simp only [Lx.cnt, Lx.numOk, Lx.isWrd, hd, Bool.or_true, Bool.true_or, if_true]
    rfl
  have h2 : 1 < s.size → (Lx.isDig (Lx.at_ (bl s) 0) = true ∨ (Lx.at_ (bl s) 0 == 46) = true) → Lx.isDig (Lx.at_ (bl s) 1) = true → burinref02_number.l0 k s 2 = some ((Lx.numLen (bl s) : Nat) : Int) := by
    intro hsz hd0 hd
    have h := number_l0 s hs (s.size - 2) 2 k (by omega) (by omega) (by omega)
    rw [show ((2 : Nat) : Int) = 2 from rfl] at h
    rw [h]
    congr 2
    unfold Lx.numLen Lx.many
    rw [hlen]
    obtain ⟨n, hn⟩ : ∃ n, s.size = n + 2 := ⟨s.size - 2, by omega⟩
    rw [hn]
    have hok0 : Lx.numOk (bl s) 0 = true := by
      unfold Lx.numOk Lx.isWrd
      rcases hd0 with h | h <;> rw [h] <;> simp
    have hok1 : Lx.numOk (bl s) 1 = true := by
      unfold Lx.numOk Lx.isWrd
      rw [hd]; simp
    simp only [Lx.cnt, hok0, hok1, if_true]
    rfl
  unfold burinref02_number.f
  rw [if_pos (by omega), if_pos (by omega), hd0]
  simp only [Option.bind_some, burinref02_number.j0, burinref02_number.j1, burinref02_number.j2, burinref02_number.j3]
  by_cases hs1 : 1 < s.size
  · have c1 : (s.size : Int) > 1 := by omega
    have c2 : (1 : Int) < (s.size : Int) := by omega
    have c3 : (0 : Int) < (s.size : Int) := by omega
    simp only [if_pos c1, if_pos c2, if_pos c3, e46, hd1, Option.bind_some]
    obtain ⟨k', rfl⟩ : ∃ j, k = j + 2 := ⟨k - 2, by omega⟩
    have hz' := hz k'
    cases hA : Lx.isDig (Lx.at_ (bl s) 0) <;> cases hB : (Lx.at_ (bl s) 0 == 46) <;> cases hC : Lx.isDig (Lx.at_ (bl s) 1) <;> simp [hs1, hz'] <;> first | exact h1 hA | exact h2 hs1 (.inl hA) hC | exact h2 hs1 (.inr hB) hC
  · have c1 : ¬ (s.size : Int) > 1 := by omega
    simp only [if_neg c1, Bool.false_eq_true, if_false]
    obtain ⟨k', rfl⟩ : ∃ j, k = j + 2 := ⟨k - 2, by omega⟩
    have hz' := hz k'
    cases hA : Lx.isDig (Lx.at_ (bl s) 0) <;> simp [hs1, hz']
    exact h1 hA

theorem quote_l0 (s : ByteArray) (hs : s.size < 4294967290) (hp : 0 < s.size) : ∀ (f i k : Nat), s.size ≤ i + f → i ≤ s.size + 2 → f < k → burinref02_quote.l0 k s i = some ((Lx.quoGo (bl s) f i : Nat) : Int) := by
  intro f
  induction f with
  | zero =>
    intro i k hi h2 hk
    obtain ⟨k, rfl⟩ : ∃ j, k = j + 1 := ⟨k - 1, by omega⟩
    simp only [burinref02_quote.l0, Lx.quoGo]
    rw [if_neg (by omega)]
    rfl
  | succ f ih =>
    intro i k hi h2 hk
    obtain ⟨k, rfl⟩ : ∃ j, k = j + 1 := ⟨k - 1, by omega⟩
    simp only [burinref02_quote.l0, Lx.quoGo, bl_length]
    by_cases hc : i < s.size
    · have w1 := wrapN i (by omega)
      have w2 := wrapN (i + 1) (by omega)
      have e92 : (bt s (i : Int) = 92) = ((Lx.at_ (bl s) i == 92) = true) := propext (at_eqN s i 92 (by omega))
      have e0 : (bt s (i : Int) = bt s 0) = ((Lx.at_ (bl s) i == Lx.at_ (bl s) 0) = true) := by
        have h0 := bt_at s 0
        rw [show (((0 : Nat) : Int)) = 0 from rfl] at h0
        rw [h0, bt_at s i]
        refine propext ?_
        rw [beq_iff_eq]
        constructor
        · intro h; exact UInt8.toNat_inj.1 (by omega)
        · intro h; rw [h]
      have c0 : (0 : Int) < (s.size : Int) := by omega
      rw [if_pos (by omega), if_pos (by omega), if_pos hc, w1, w2, show i + 1 + 1 = i + 2 from rfl, ih (i + 2) k (by omega) (by omega) (by omega), ih (i + 1) k (by omega) (by omega) (by omega)]
      simp only [e92, e0, if_pos c0]
      cases (Lx.at_ (bl s) i == 92) <;> cases (Lx.at_ (bl s) i == Lx.at_ (bl s) 0) <;> rfl
    · rw [if_neg (by omega), if_neg hc]
      rfl
theorem quote_is (s : ByteArray) (hs : s.size < 4294967290) (h0 : 0 < s.size) (k : Nat) (hk : s.size < k) : burinref02_quote.f k s = some ((Lx.quoLen (bl s) : Nat) : Int) := by
  unfold burinref02_quote.f Lx.quoLen
  rw [bl_length]
  have := quote_l0 s hs h0 s.size 1 k (by omega) (by omega) hk
  exact this

/-! signs -/
def signText : ByteArray := ⟨#[46, 46, 46, 32, 60, 60, 61, 32, 62, 62, 61, 32, 45, 62, 32, 43, 43, 32, 45, 45, 32, 60, 60, 32, 62, 62, 32, 60, 61, 32, 62, 61, 32, 61, 61, 32, 33, 61, 32, 38, 38, 32, 124, 124, 32, 42, 61, 32, 47, 61, 32, 37, 61, 32, 43, 61, 32, 45, 61, 32, 38, 61, 32, 94, 61, 32, 124, 61, 32, 35, 35, 32, 91, 32, 93, 32, 40, 32, 41, 32, 123, 32, 125, 32, 46, 32, 38, 32, 42, 32, 43, 32, 45, 32, 126, 32, 33, 32, 47, 32, 37, 32, 60, 32, 62, 32, 94, 32, 124, 32, 63, 32, 58, 32, 59, 32, 61, 32, 44, 32, 35, 32]⟩
theorem bl_extract (s : ByteArray) (a b : Nat) : bl (s.extract a b) = ((bl s).take b).drop a := by
  unfold bl
  rw [Lib.extract_data]
  simp [List.drop_take]
theorem toList_bl (s : ByteArray) : s.toList = bl s := ByteArray.toList_eq s
def signWords : Nat → Nat → Nat → List Lx.L
  | 0, _, _ => []
  | f + 1, a, b => if b < 122 then (if Lx.at_ (bl signText) b == 32 then (((bl signText).take b).drop a) :: signWords f (b + 1) (b + 1) else signWords f a (b + 1)) else []
theorem Punct_l0 (t : ByteArray) : ∀ (f a b k : Nat), a ≤ b → b + f = 122 → f < k → burinref02_Punct.l0 k t a b = some ((signWords f a b).any (fun w => w == bl t)) := by
  intro f
  induction f with
  | zero =>
    intro a b k ha hb hk
    obtain ⟨k, rfl⟩ : ∃ j, k = j + 1 := ⟨k - 1, by omega⟩
    simp only [burinref02_Punct.l0, signWords]
    rw [if_neg (by omega)]
    rfl
  | succ f ih =>
    intro a b k ha hb hk
    obtain ⟨k, rfl⟩ : ∃ j, k = j + 1 := ⟨k - 1, by omega⟩
    have w1 := wrapN b (by omega)
    have e32 : (bt signText (b : Int) = 32) = ((Lx.at_ (bl signText) b == 32) = true) := propext (at_eqN signText b 32 (by omega))
    simp only [burinref02_Punct.l0, signWords]
    rw [if_pos (show (b : Int) < 122 by omega), if_pos (show (0 : Int) ≤ (b : Int) by omega), if_pos (show b < 122 by omega), w1, ih (b + 1) (b + 1) k (by omega) (by omega) (by omega), ih a (b + 1) k (by omega) (by omega) (by omega),
      if_pos (show (0 : Int) ≤ (a : Int) by omega), if_pos (show (a : Int) ≤ (b : Int) by omega), if_pos (show (b : Int) ≤ 122 by omega)]
    have ex : ((signText.extract ((a : Int)).toNat ((b : Int)).toNat).toList = t.toList) = ((((bl signText).take b).drop a == bl t) = true) := by
      rw [toList_bl, toList_bl, bl_extract, beq_iff_eq]
      simp
    show (if bt signText b = 32 then (if (signText.extract ((a : Int)).toNat ((b : Int)).toNat).toList = t.toList then _ else _) else _) = _
    simp only [e32, ex]
    cases (Lx.at_ (bl signText) b == 32) <;> cases hc : (((bl signText).take b).drop a == bl t) <;> simp [hc]
theorem signWords_eq : signWords 122 0 0 = Lx.signs := by decide +kernel
theorem Punct_is (t : ByteArray) (k : Nat) (hk : 122 < k) : burinref02_Punct.f k t = some (Lx.signs.any (fun w => w == bl t)) := by
  unfold burinref02_Punct.f
  have := Punct_l0 t 122 0 0 k (by omega) (by omega) hk
  rw [signWords_eq] at this
  exact this

/-- the longest sign that begins a text: what 'sign' finds -/
def signDown (s : Lx.L) : Nat → Nat
  | 0 => 0
  | n + 1 => if Lx.signs.any (fun w => w == s.take (n + 1)) then n + 1 else signDown s n
theorem sign_l0 (s : ByteArray) : ∀ (n k : Nat), n ≤ s.size → n ≤ 3 → n + 123 < k → burinref02_sign.l0 k s n = some ((signDown (bl s) n : Nat) : Int) := by
  intro n
  induction n with
  | zero =>
    intro k h1 h2 hk
    obtain ⟨k, rfl⟩ : ∃ j, k = j + 1 := ⟨k - 1, by omega⟩
    simp only [burinref02_sign.l0, signDown]
    rw [if_neg (by omega)]
    rfl
  | succ n ih =>
    intro k h1 h2 hk
    obtain ⟨k, rfl⟩ : ∃ j, k = j + 1 := ⟨k - 1, by omega⟩
    have hw : wrap64 (((n + 1 : Nat) : Int) - 1) = (n : Int) := by rw [IntWalk.wrap64_in] <;> omega
    simp only [burinref02_sign.l0, signDown]
    rw [if_pos (by omega), if_pos (by omega), if_pos (by omega), Punct_is _ k (by omega), hw, ih k (by omega) (by omega) (by omega), bl_extract]
    simp only [Option.bind_some, Int.toNat_natCast, List.drop_zero]
    cases Lx.signs.any (fun w => w == (bl s).take (n + 1)) <;> simp
theorem sign_is (s : ByteArray) (k : Nat) (hk : 127 < k) : burinref02_sign.f k s = some ((signDown (bl s) (min 3 s.size) : Nat) : Int) := by
  unfold burinref02_sign.f
  have : mn 3 (s.size : Int) = ((min 3 s.size : Nat) : Int) := by unfold mn; split <;> omega
  rw [this]
  exact sign_l0 s _ k (by omega) (by omega) (by omega)
theorem signs_len : ∀ x ∈ Lx.signs, 1 ≤ x.length ∧ x.length ≤ 3 := by decide
/-- a longer sign stands ahead of one that begins it -/
theorem signs_order : Lx.signs.Pairwise (fun x y => ¬ (x.length < y.length ∧ x.isPrefixOf y = true)) := by decide +kernel
theorem find_max (s : Lx.L) : ∀ (l : List Lx.L) (x : Lx.L), l.Pairwise (fun x y => ¬ (x.length < y.length ∧ x.isPrefixOf y = true)) → l.find? (fun x => Lx.pre x s) = some x → ∀ y ∈ l, Lx.pre y s = true → y.length ≤ x.length := by
  intro l
  induction l with
  | nil => intro x _ h; simp at h
  | cons a l ih =>
    intro x hp hf y hy hpy
    rw [List.pairwise_cons] at hp
    rw [List.find?_cons] at hf
    cases ha : Lx.pre a s with
    | true =>
      rw [ha] at hf
      simp only [Option.some.injEq] at hf
      subst hf
      rcases List.mem_cons.1 hy with rfl | hy
      · exact Nat.le_refl _
      · by_cases hlt : y.length ≤ a.length
        · exact hlt
        · exfalso
          refine hp.1 y hy ⟨by omega, ?_⟩
          unfold Lx.pre at ha hpy
          rw [List.isPrefixOf_iff_prefix] at ha hpy ⊢
          exact List.prefix_of_prefix_length_le ha hpy (by omega)
    | false =>
      rw [ha] at hf
      simp only [] at hf
      rcases List.mem_cons.1 hy with rfl | hy
      · rw [ha] at hpy; cases hpy
      · exact ih x hp.2 hf y hy hpy
theorem signDown_none (s : Lx.L) (h : ∀ x ∈ Lx.signs, Lx.pre x s = false) : ∀ n, n ≤ s.length → signDown s n = 0 := by
  intro n
  induction n with
  | zero => intro _; rfl
  | succ n ih =>
    intro hn
    unfold signDown
    have : Lx.signs.any (fun w => w == s.take (n + 1)) = false := by
      rw [List.any_eq_false]
      intro w hw he
      have := h w hw
      unfold Lx.pre at this
      rw [beq_iff_eq.1 he] at this
      rw [List.isPrefixOf_iff_prefix.2 (List.take_prefix _ _)] at this
      cases this
    rw [this]
    simp only [Bool.false_eq_true, if_false]
    exact ih (by omega)
theorem signDown_some (s x : Lx.L) (hx : x ∈ Lx.signs) (hp : Lx.pre x s = true) (hm : ∀ y ∈ Lx.signs, Lx.pre y s = true → y.length ≤ x.length) : ∀ n, x.length ≤ n → n ≤ s.length → signDown s n = x.length := by
  have hpx := List.isPrefixOf_iff_prefix.1 (show x.isPrefixOf s = true from hp)
  have h1 := (signs_len x hx).1
  intro n
  induction n with
  | zero => intro h _; omega
  | succ n ih =>
    intro hn hl
    unfold signDown
    by_cases he : x.length = n + 1
    · have : Lx.signs.any (fun w => w == s.take (n + 1)) = true := by
        rw [List.any_eq_true]
        refine ⟨x, hx, ?_⟩
        rw [beq_iff_eq, ← he]
        exact (List.prefix_iff_eq_take.1 hpx)
      rw [this]
      simp [he]
    · have : Lx.signs.any (fun w => w == s.take (n + 1)) = false := by
        rw [List.any_eq_false]
        intro w hw hwe
        have h2 := beq_iff_eq.1 hwe
        have h3 := hm w hw (by unfold Lx.pre; rw [List.isPrefixOf_iff_prefix, h2]; exact List.take_prefix _ _)
        rw [h2, List.length_take] at h3
        omega
      rw [this]
      simp only [Bool.false_eq_true, if_false]
      exact ih (by omega) (by omega)
theorem signDown_is (s : Lx.L) : signDown s (min 3 s.length) = Lx.signLen s := by
  unfold Lx.signLen
  cases hf : Lx.signs.find? (fun x => Lx.pre x s) with
  | none =>
    rw [List.find?_eq_none] at hf
    exact signDown_none s (fun x hx => by have := hf x hx; simpa using this) _ (by omega)
  | some x =>
    have hx := List.mem_of_find?_eq_some hf
    have hp := List.find?_some hf
    have hl := (List.isPrefixOf_iff_prefix.1 (show x.isPrefixOf s = true from hp)).length_le
    have := (signs_len x hx).2
    exact signDown_some s x hx hp (find_max s _ x signs_order hf) _ (by omega) (by omega)

theorem first_is (s : ByteArray) (hs : s.size < 4294967290) (h0 : 0 < s.size) (k : Nat) (hk : 4 * s.size + 200 ≤ k) :
    burinref02_first.f k s = some ((Lx.next (bl s)).1, ((Lx.next (bl s)).2 : Int)) := by
  obtain ⟨k, rfl⟩ : ∃ j, k = j + 1 := ⟨k - 1, by omega⟩
  have e39 : (bt s 0 = 39) = ((Lx.at_ (bl s) 0 == 39) = true) := propext (at_eqN s 0 39 (by omega))
  have e34 : (bt s 0 = 34) = ((Lx.at_ (bl s) 0 == 34) = true) := propext (at_eqN s 0 34 (by omega))
  have e34' : (bt s 0 == 34) = (Lx.at_ (bl s) 0 == 34) := by
    have := at_eqN s 0 34 (by omega)
    rw [Bool.eq_iff_iff, beq_iff_eq]; exact this
  have hn1 : 0 < s.size → Lx.isLet (Lx.at_ (bl s) 0) = true → 0 < Lx.nameLen (bl s) := by
    intro _ hl
    unfold Lx.nameLen Lx.many
    rw [bl_length]
    obtain ⟨n, hn⟩ : ∃ n, s.size = n + 1 := ⟨s.size - 1, by omega⟩
    rw [hn]
    simp only [Lx.cnt, Lx.isWrd, hl, Bool.true_or, if_true]
    exact cnt_ge _ _ _
  have hn2 : (Lx.isDig (Lx.at_ (bl s) 0) || (Lx.at_ (bl s) 0 == 46 && decide (1 < s.size) && Lx.isDig (Lx.at_ (bl s) 1))) = true → 0 < Lx.numLen (bl s) := by
    intro hl
    unfold Lx.numLen Lx.many
    rw [bl_length]
    obtain ⟨n, hn⟩ : ∃ n, s.size = n + 1 := ⟨s.size - 1, by omega⟩
    rw [hn]
    have hok : Lx.numOk (bl s) 0 = true := by
      unfold Lx.numOk Lx.isWrd
      cases hd : Lx.isDig (Lx.at_ (bl s) 0) <;> cases hq : (Lx.at_ (bl s) 0 == 46) <;> rw [hd, hq] at hl <;> simp at hl ⊢
    simp only [Lx.cnt, hok, if_true]
    exact cnt_ge _ _ _
  unfold burinref02_first.f Lx.next
  rw [name_is s hs h0 (k + 1) (by omega), number_is s hs h0 (k + 1) (by omega)]
  simp only [Option.bind_some, burinref02_first.j0, quote_is s hs h0 k (by omega), sign_is s k (by omega), e39, e34, e34', bl_length]
  have hsd := signDown_is (bl s)
  rw [bl_length] at hsd
  rw [hsd]
  have c0 : (0 : Int) < (s.size : Int) := by omega
  simp only [if_pos c0]
  cases hl : Lx.isLet (Lx.at_ (bl s) 0) with
  | true =>
    have := hn1 h0 hl
    simp only [if_true]
    rw [if_pos (by omega)]
  | false =>
    simp only [Bool.false_eq_true, if_false]
    rw [if_neg (by omega)]
    cases hd : (Lx.isDig (Lx.at_ (bl s) 0) || (Lx.at_ (bl s) 0 == 46 && decide (1 < s.size) && Lx.isDig (Lx.at_ (bl s) 1))) with
    | true =>
      have := hn2 hd
      simp only [if_true]
      rw [if_pos (by omega)]
    | false =>
      simp only [Bool.false_eq_true, if_false]
      rw [if_neg (by omega)]
      cases h39 : (Lx.at_ (bl s) 0 == 39) with
      | false =>
        cases h34 : (Lx.at_ (bl s) 0 == 34) with
        | false =>
          simp only [Bool.false_eq_true, if_false]
          by_cases hz : Lx.signLen (bl s) = 0
          · rw [if_neg (by omega), if_pos hz]; rfl
          · rw [if_pos (by omega), if_neg hz]
        | true => simp
      | true =>
        cases h34 : (Lx.at_ (bl s) 0 == 34) with
        | false =>
          simp only [Bool.false_eq_true, if_false, if_true]
          by_cases hz : Lx.quoLen (bl s) = 2
          · rw [if_pos (by omega), if_pos hz]; rfl
          · rw [if_neg (by omega), if_neg hz]
        | true =>
          exfalso
          rw [beq_iff_eq] at h39 h34
          rw [h39] at h34
          exact absurd h34 (by decide)
end Go.Proofs.YthifdcakhdckfaaDoor

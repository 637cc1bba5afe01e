/- TurnPure: plain theory, no program in sight. -/
import Derived.Test.YtgmgmjljjbcgjaaRecPure
namespace Go.Proofs.Ytgmgmjljjbcgjaa.NSX
theorem allBits_get : ∀ (l : List UInt8) (q : Nat), (allBits l)[q]? = (l[q / 8]?).map fun c => c.toBitVec.getLsbD (7 - q % 8)
  | [], q => by simp [allBits]
  | c :: l, q => by
    show (bitsOf c ++ allBits l)[q]? = _
    by_cases h : q < 8
    · rw [List.getElem?_append_left (by simpa [bitsOf] using h)]
      have h0 : q / 8 = 0 := by omega
      rw [h0]
      have hcase : q = 0 ∨ q = 1 ∨ q = 2 ∨ q = 3 ∨ q = 4 ∨ q = 5 ∨ q = 6 ∨ q = 7 := by omega
      rcases hcase with h | h | h | h | h | h | h | h <;> subst h <;> simp [bitsOf]
    · have hl : (bitsOf c).length = 8 := rfl
      rw [List.getElem?_append_right (by omega), hl, allBits_get l (q - 8)]
      have e1 : q / 8 = (q - 8) / 8 + 1 := by omega
      have e2 : (q - 8) % 8 = q % 8 := by omega
      rw [e1, e2, List.getElem?_cons_succ]

/-- One bit turned. -/
def flipBit (l : List UInt8) (p : Nat) : List UInt8 := l.modify (p / 8) fun c => c ^^^ UInt8.ofNat (128 >>> (p % 8))

theorem one_bit (p q : Nat) (hp : p < 8) (hq : q < 8) : (UInt8.ofNat (128 >>> p)).toBitVec.getLsbD (7 - q) = decide (p = q) := by
  have : ∀ a b : Fin 8, (UInt8.ofNat (128 >>> a.1)).toBitVec.getLsbD (7 - b.1) = decide (a.1 = b.1) := by decide
  exact this ⟨p, hp⟩ ⟨q, hq⟩

theorem flipBit_get (l : List UInt8) (p q : Nat) : (allBits (flipBit l p))[q]? = ((allBits l)[q]?).map fun b => b != decide (p = q) := by
  rw [allBits_get, allBits_get, flipBit, List.getElem?_modify]
  by_cases h : p / 8 = q / 8
  · simp only [if_pos h]
    cases l[q / 8]? with
    | none => rfl
    | some c =>
      simp only [Option.map_some, Option.map_eq_map, UInt8.toBitVec_xor, BitVec.getLsbD_xor, one_bit _ _ (Nat.mod_lt p (by omega)) (Nat.mod_lt q (by omega))]
      congr 1
      have : (p % 8 = q % 8) ↔ (p = q) := by omega
      simp only [this]
  · simp only [if_neg h]
    have : ¬ p = q := fun e => h (by rw [e])
    cases l[q / 8]? <;> simp [this]

theorem flipBit_length (l : List UInt8) (p : Nat) : (flipBit l p).length = l.length := by simp [flipBit]

/-- Of the 24 bits from k on the first m are turned where 'turn' says so. -/
def flips (k turn : Nat) : Nat → List UInt8 → List UInt8
  | 0, l => l
  | m + 1, l => if turn.testBit (23 - m) then flipBit (flips k turn m l) (k + m) else flips k turn m l

theorem flips_length (k turn : Nat) : ∀ (m : Nat) (l : List UInt8), (flips k turn m l).length = l.length
  | 0, _ => rfl
  | m + 1, l => by unfold flips; split <;> simp [flipBit_length, flips_length k turn m l]

theorem flips_get (k turn : Nat) (l : List UInt8) (q : Nat) : ∀ m, (allBits (flips k turn m l))[q]? = ((allBits l)[q]?).map fun b => b != (decide (k ≤ q) && decide (q < k + m) && turn.testBit (23 - (q - k)))
  | 0 => by
    have : (decide (k ≤ q) && decide (q < k + 0) && turn.testBit (23 - (q - k))) = false := by
      rw [show (decide (k ≤ q) && decide (q < k + 0)) = false from by simp]; rfl
    simp only [flips, this]
    cases (allBits l)[q]? <;> simp
  | m + 1 => by
    have ih := flips_get k turn l q m
    unfold flips
    by_cases hq : k + m = q
    · have e1 : q - k = m := by omega
      have e2 : (decide (k ≤ q) && decide (q < k + (m + 1))) = true := by simp; omega
      have e3 : (decide (k ≤ q) && decide (q < k + m)) = false := by simp; omega
      rw [e3] at ih
      rw [e2, e1]
      split
      · rename_i h
        rw [flipBit_get, ih, h]
        cases (allBits l)[q]? <;> simp [hq]
      · rename_i h
        rw [ih]
        simp only [Bool.not_eq_true] at h
        rw [h]; simp
    · have e3 : (decide (k ≤ q) && decide (q < k + (m + 1))) = (decide (k ≤ q) && decide (q < k + m)) := by
        rw [Bool.eq_iff_iff]; simp; omega
      rw [e3]
      split
      · rw [flipBit_get, ih]
        cases (allBits l)[q]? <;> simp [hq]
      · exact ih

def turnBits (turn : Nat) : List Bool := (List.range 24).map fun i => turn.testBit (23 - i)

theorem flips_bits (k turn : Nat) (l : List UInt8) (h : k + 24 ≤ 8 * l.length) :
    allBits (flips k turn 24 l) = bxor (allBits l) (List.replicate k false ++ turnBits turn ++ List.replicate (8 * l.length - k - 24) false) := by
  apply List.ext_getElem?
  intro q
  rw [flips_get, bxor, List.getElem?_zipWith]
  have hlen := allBits_length l
  by_cases hq : q < 8 * l.length
  · have hs : ∃ b, (allBits l)[q]? = some b := ⟨_, List.getElem?_eq_getElem (by omega)⟩
    obtain ⟨b, hb⟩ := hs
    rw [hb]
    have hr : (List.replicate k false ++ turnBits turn ++ List.replicate (8 * l.length - k - 24) false)[q]? = some (decide (k ≤ q) && decide (q < k + 24) && turn.testBit (23 - (q - k))) := by
      by_cases h1 : q < k
      · rw [List.append_assoc, List.getElem?_append_left (by simpa using h1)]
        have : (decide (k ≤ q) && decide (q < k + 24)) = false := by simp; omega
        rw [this]; simp [h1]
      · by_cases h2 : q < k + 24
        · rw [List.append_assoc, List.getElem?_append_right (by simp; omega), List.getElem?_append_left (by simp [turnBits]; omega)]
          have : (decide (k ≤ q) && decide (q < k + 24)) = true := by simp; omega
          rw [this]
          simp [turnBits]
          rw [List.getElem?_range (by omega)]
          simp
        · rw [List.getElem?_append_right (by simp [turnBits]; omega)]
          have : (decide (k ≤ q) && decide (q < k + 24)) = false := by simp; omega
          rw [this, List.getElem?_replicate, if_pos (by simp [turnBits]; omega)]; simp
    rw [hr]
    simp
  · rw [List.getElem?_eq_none (by omega)]
    simp

theorem turnBits_some (turn : Nat) (h0 : turn ≠ 0) (h : turn < 2 ^ 24) : ∃ i : Nat, (turnBits turn)[i]? = some true := by
  obtain ⟨j, hj⟩ := Nat.exists_testBit_of_ne_zero h0
  have : j < 24 := by
    rcases Nat.lt_or_ge j 24 with h' | h'
    · exact h'
    · rw [Nat.testBit_lt_two_pow (Nat.lt_of_lt_of_le h (Nat.pow_le_pow_right (by omega) h'))] at hj
      cases hj
  refine ⟨23 - j, ?_⟩
  simp only [turnBits, List.getElem?_map]
  rw [List.getElem?_range (by omega)]
  simp only [Option.map_some]
  rw [show 23 - (23 - j) = j by omega, hj]

/-- Sealed bytes in which a burst was turned aren't sealed. -/
theorem turned_crc (k turn : Nat) (l : List UInt8) (h : k + 24 ≤ 8 * l.length) (h0 : turn ≠ 0) (ht : turn < 2 ^ 24) (hc : crc l = 0#24) : crc (flips k turn 24 l) ≠ 0#24 := by
  unfold crc at *
  rw [crcFrom_bits] at *
  rw [flips_bits _ _ _ h]
  have := bfold_xor (allBits l) (List.replicate k false ++ turnBits turn ++ List.replicate (8 * l.length - k - 24) false) begin0 0#24 (by rw [allBits_length]; simp [turnBits]; omega)
  rw [BitVec.xor_zero] at this
  rw [this, hc, BitVec.zero_xor]
  exact burst _ _ _ (by simp [turnBits]) (turnBits_some turn h0 ht)

theorem turned_none (k turn : Nat) (c : List UInt8) (hl : c.length = 64) (h : k + 24 ≤ 512) (h0 : turn ≠ 0) (ht : turn < 2 ^ 24) (hc : ∃ x, pieceOf c = some x) : pieceOf (flips k turn 24 c) = none := by
  obtain ⟨⟨p, last⟩, hx⟩ := hc
  cases hy : pieceOf (flips k turn 24 c) with
  | none => rfl
  | some y =>
    exfalso
    obtain ⟨p', last'⟩ := y
    have hc := pieceOf_some hl hx
    have hd := pieceOf_some (by rw [flips_length, hl]) hy
    -- both are sealed, with the same last byte
    have crcOf : ∀ (p : List UInt8) (last : Bool), crc (blockOf p last) = eat 0#24 1 := by
      intro p last
      unfold blockOf crc
      rw [crcFrom_append]
      have := putSeal_sealed (headOf p last)
      unfold crc at this
      rw [this]; rfl
    have e1 := crcOf p last
    have e2 := crcOf p' last'
    rw [← hc.1] at e1
    rw [← hd.1] at e2
    unfold crc at *
    rw [crcFrom_bits] at *
    rw [flips_bits _ _ _ (by omega)] at e2
    have := bfold_xor (allBits c) (List.replicate k false ++ turnBits turn ++ List.replicate (8 * c.length - k - 24) false) begin0 0#24 (by rw [allBits_length]; simp [turnBits]; omega)
    rw [BitVec.xor_zero] at this
    rw [this, e1] at e2
    have h3 := congrArg (fun v => eat 0#24 1 ^^^ v) e2
    have h4 : eat 0#24 1 ^^^ (eat 0#24 1 ^^^ bfold 0#24 (List.replicate k false ++ turnBits turn ++ List.replicate (8 * c.length - k - 24) false)) = eat 0#24 1 ^^^ eat 0#24 1 := h3
    rw [← BitVec.xor_assoc, BitVec.xor_self, BitVec.zero_xor] at h4
    exact burst _ _ _ (by simp [turnBits]) (turnBits_some turn h0 ht) h4

theorem pieceOf_last {c : List UInt8} {x : List UInt8 × Bool} (h : pieceOf c = some x) : c.getD 63 0 = 1 := by
  unfold pieceOf at h
  simp only at h
  split at h
  · rename_i hc; exact hc.2.1
  · cases h

theorem torn_none (c : List UInt8) (m : Nat) (hm : m ≤ 63) : pieceOf (c.take m ++ List.replicate (64 - m) 0) = none := by
  cases h : pieceOf (c.take m ++ List.replicate (64 - m) 0) with
  | none => rfl
  | some x =>
    have := pieceOf_last h
    rw [List.getD_eq_getElem?_getD, List.getElem?_append_right (by simp; omega)] at this
    simp only [List.length_take, List.getElem?_replicate] at this
    split at this <;> simp at this

/-- Where a block among bodies' blocks isn't whole, the bodies ahead of its body are read. -/
theorem readL_upto : ∀ (body : List UInt8) (pre : List UInt8) (j : Nat) (rest : List (List UInt8)) (x : List UInt8) (k used : Nat), pre.length + body.length ≤ 32768 → j < (cutL body).length → pieceOf x = none →
    readL ((cutL body).take j ++ x :: rest) pre k used = ([], used) := by
  intro body
  induction body using cutL.induct with
  | case1 body h ih =>
    intro pre j rest x k used hlen hj hx
    rw [cutL, dif_pos h] at hj ⊢
    cases j with
    | zero => simp [readL, hx]
    | succ j =>
      rw [List.take_succ_cons, List.cons_append, readL, pieceOf_blockOf _ _ (by simp; omega) (by right; simp; omega)]
      simp only
      rw [if_neg (by simp; omega), if_neg (by simp)]
      exact ih _ j rest x _ _ (by simp; omega) (by simpa using hj) hx
  | case2 body h =>
    intro pre j rest x k used hlen hj hx
    rw [cutL, dif_neg h] at hj ⊢
    have : j = 0 := by simpa using hj
    subst this
    simp [readL, hx]

/-- The same where blocks are missing. -/
theorem readL_short : ∀ (body : List UInt8) (pre : List UInt8) (j : Nat) (k used : Nat), pre.length + body.length ≤ 32768 → j < (cutL body).length →
    readL ((cutL body).take j) pre k used = ([], used) := by
  intro body
  induction body using cutL.induct with
  | case1 body h ih =>
    intro pre j k used hlen hj
    rw [cutL, dif_pos h] at hj ⊢
    cases j with
    | zero => simp [readL]
    | succ j =>
      rw [List.take_succ_cons, readL, pieceOf_blockOf _ _ (by simp; omega) (by right; simp; omega)]
      simp only
      rw [if_neg (by simp; omega), if_neg (by simp)]
      exact ih _ j _ _ (by simp; omega) (by simpa using hj)
  | case2 body h =>
    intro pre j k used hlen hj
    rw [cutL, dif_neg h] at hj ⊢
    have : j = 0 := by simpa using hj
    subst this
    simp [readL]
end Go.Proofs.Ytgmgmjljjbcgjaa.NSX

/- SealPure: plain theory, no program in sight. -/
namespace Go.Proofs.Ytgmgmjljjbcgjaa.NSX
def poly : BitVec 24 := 0x864cfb#24
def top : BitVec 24 := 0x800000#24
def stp (n : BitVec 24) : BitVec 24 := (n <<< 1) ^^^ (if n.msb then poly else 0#24)
def stpN : Nat → BitVec 24 → BitVec 24
  | 0, n => n
  | k + 1, n => stpN k (stp n)

theorem xor4 (A B p : BitVec 24) (a b : Bool) :
    (A ^^^ B) ^^^ (if (a ^^ b) = true then p else 0#24) = (A ^^^ (if a = true then p else 0#24)) ^^^ (B ^^^ (if b = true then p else 0#24)) := by
  apply BitVec.eq_of_getLsbD_eq
  intro i hi
  cases a <;> cases b <;> simp [BitVec.getLsbD_xor, -BitVec.getLsbD_eq_getElem] <;>
    cases A.getLsbD i <;> cases B.getLsbD i <;> cases p.getLsbD i <;> rfl

theorem stp_xor (a b : BitVec 24) : stp (a ^^^ b) = stp a ^^^ stp b := by
  unfold stp
  rw [BitVec.shiftLeft_xor_distrib, BitVec.msb_xor, xor4]

theorem stpN_xor (k : Nat) : ∀ a b, stpN k (a ^^^ b) = stpN k a ^^^ stpN k b := by
  induction k with
  | zero => intro a b; rfl
  | succ k ih => intro a b; simp only [stpN, stp_xor, ih]

theorem stp_zero : stp 0#24 = 0#24 := by decide
theorem stpN_zero (k : Nat) : stpN k 0#24 = 0#24 := by
  induction k with
  | zero => rfl
  | succ k ih => simp only [stpN, stp_zero, ih]

theorem stp_inj0 (a : BitVec 24) (h : stp a = 0#24) : a = 0#24 := by
  unfold stp at h
  by_cases hm : a.msb = true
  · rw [hm] at h
    have := congrArg (fun v => v.getLsbD 0) h
    simp [poly] at this
  · have hm' : a.msb = false := by simpa using hm
    rw [hm'] at h
    apply BitVec.eq_of_getLsbD_eq
    intro i hi
    by_cases h23 : i = 23
    · subst h23
      have : a.msb = a.getLsbD 23 := by simp [BitVec.msb_eq_getLsbD_last]
      rw [← this, hm']; simp
    · have := congrArg (fun v => v.getLsbD (i + 1)) h
      simp at this
      have := this (by omega)
      simp [this]

theorem stpN_inj0 (k : Nat) : ∀ a, stpN k a = 0#24 → a = 0#24 := by
  induction k with
  | zero => intro a h; exact h
  | succ k ih => intro a h; exact stp_inj0 a (ih _ h)

theorem stpN_add (j k : Nat) : ∀ a, stpN (j + k) a = stpN k (stpN j a) := by
  induction j with
  | zero => intro a; simp [stpN]
  | succ j ih => intro a; rw [Nat.succ_add]; simp only [stpN, ih]

/-- One bit. -/
def bstep (n : BitVec 24) (b : Bool) : BitVec 24 := stp (n ^^^ (if b then top else 0#24))
def bfold (n : BitVec 24) (l : List Bool) : BitVec 24 := l.foldl bstep n

theorem bfold_append (n : BitVec 24) (l m : List Bool) : bfold n (l ++ m) = bfold (bfold n l) m := by simp [bfold]

theorem bstep_xor (n m : BitVec 24) (a b : Bool) : bstep (n ^^^ m) (a != b) = bstep n a ^^^ bstep m b := by
  unfold bstep
  rw [← stp_xor]
  congr 1
  exact xor4 n m top a b

def bxor (l m : List Bool) : List Bool := List.zipWith (fun a b => a != b) l m

theorem bfold_xor : ∀ (l m : List Bool) (x y : BitVec 24), l.length = m.length → bfold (x ^^^ y) (bxor l m) = bfold x l ^^^ bfold y m
  | [], [], x, y, _ => rfl
  | a :: l, b :: m, x, y, h => by
    simp only [bxor, List.zipWith_cons_cons, bfold, List.foldl_cons, bstep_xor]
    exact bfold_xor l m _ _ (by simpa using h)
  | [], _ :: _, _, _, h => by simp at h
  | _ :: _, [], _, _, h => by simp at h

theorem bfold_false (k : Nat) : ∀ n, bfold n (List.replicate k false) = stpN k n := by
  induction k with
  | zero => intro n; rfl
  | succ k ih =>
    intro n
    rw [List.replicate_succ]
    show bfold (bstep n false) _ = _
    rw [ih]
    simp [stpN, bstep]

/-- The bits as a number, the first one on top. -/
def val : List Bool → BitVec 24
  | [] => 0#24
  | b :: l => (if b then top else 0#24) ^^^ (val l >>> 1)

theorem top_get (i : Nat) : top.getLsbD i = decide (i = 23) := by
  by_cases h : i < 24
  · have : ∀ j : Fin 24, top.getLsbD j.1 = decide (j.1 = 23) := by decide
    exact this ⟨i, h⟩
  · rw [BitVec.getLsbD_of_ge _ _ (by omega)]
    simp; omega

theorem val_get : ∀ (l : List Bool) (i : Nat), l.length ≤ 24 → i < 24 → (val l).getLsbD i = (l[23 - i]?).getD false
  | [], i, _, _ => by simp [val]
  | b :: l, i, hl, hi => by
    simp only [val, BitVec.getLsbD_xor, BitVec.getLsbD_ushiftRight]
    have ih := val_get l (1 + i)
    by_cases h : i = 23
    · subst h
      cases b <;> simp [top_get]
    · have e : 23 - i = (23 - (1 + i)) + 1 := by omega
      rw [ih (by simp at hl; omega) (by omega), e]
      cases b <;> simp [top_get, h]

theorem val_low (l : List Bool) (h : l.length ≤ 23) : (val l).getLsbD 0 = false := by
  rw [val_get l 0 (by omega) (by omega)]
  simp [List.getElem?_eq_none (by omega : l.length ≤ 23)]

theorem stp_half (v : BitVec 24) (h : v.getLsbD 0 = false) : stp (v >>> 1) = v := by
  have hm : (v >>> 1).msb = false := by simp [BitVec.msb_eq_getLsbD_last]
  unfold stp
  rw [hm]
  apply BitVec.eq_of_getLsbD_eq
  intro i hi
  cases i with
  | zero => rw [h]; simp
  | succ i => simp [hi, Nat.add_comm, -BitVec.getLsbD_eq_getElem]

theorem bfold_val : ∀ (l : List Bool) (n : BitVec 24), l.length ≤ 24 → bfold n l = stpN l.length (n ^^^ val l)
  | [], n, _ => by simp [bfold, stpN, val]
  | b :: l, n, h => by
    show bfold (bstep n b) l = _
    have hl : l.length ≤ 23 := by simp at h; omega
    rw [bfold_val l _ (by omega)]
    show _ = stpN l.length (stp _)
    congr 1
    rw [val, ← BitVec.xor_assoc, stp_xor, stp_half _ (val_low l hl)]
    rfl

theorem val_ne (l : List Bool) (hl : l.length = 24) (h : ∃ i : Nat, l[i]? = some true) : val l ≠ 0#24 := by
  intro h0
  obtain ⟨i, hi⟩ := h
  have hlt : i < 24 := by have := (List.getElem?_eq_some_iff.1 hi).1; omega
  have := val_get l (23 - i) (by omega) (by omega)
  rw [h0, show 23 - (23 - i) = i by omega, hi] at this
  simp at this

/-- A burst of at most 24 bits is seen. -/
theorem burst (j k : Nat) (t : List Bool) (ht : t.length = 24) (h : ∃ i : Nat, t[i]? = some true) :
    bfold 0#24 (List.replicate j false ++ t ++ List.replicate k false) ≠ 0#24 := by
  rw [bfold_append, bfold_append, bfold_false, bfold_false, stpN_zero, bfold_val t _ (by omega), ← stpN_add]
  intro h0
  have := stpN_inj0 _ _ h0
  rw [BitVec.zero_xor] at this
  exact val_ne t ht h this

/-- A byte's bits, the highest one first. -/
def bitsOf (c : UInt8) : List Bool := [c.toBitVec.getLsbD 7, c.toBitVec.getLsbD 6, c.toBitVec.getLsbD 5, c.toBitVec.getLsbD 4, c.toBitVec.getLsbD 3, c.toBitVec.getLsbD 2, c.toBitVec.getLsbD 1, c.toBitVec.getLsbD 0]
def allBits (l : List UInt8) : List Bool := l.flatMap bitsOf

def hi8 (c : UInt8) : BitVec 24 := BitVec.ofNat 24 (c.toNat * 65536)
def eat (n : BitVec 24) (c : UInt8) : BitVec 24 := stpN 8 (n ^^^ hi8 c)
def crcFrom (n : BitVec 24) (l : List UInt8) : BitVec 24 := l.foldl eat n
def begin0 : BitVec 24 := 0xb704ce#24
def crc (l : List UInt8) : BitVec 24 := crcFrom begin0 l

theorem hi8_val (c : UInt8) : hi8 c = val (bitsOf c) := by
  apply BitVec.eq_of_getLsbD_eq
  intro i hi
  rw [val_get _ _ (by simp [bitsOf]) hi]
  have e : hi8 c = (c.toBitVec.setWidth 24) <<< 16 := by
    apply BitVec.eq_of_toNat_eq
    have := c.toNat_lt
    simp [hi8, Nat.shiftLeft_eq]
  rw [e, BitVec.getLsbD_shiftLeft, BitVec.getLsbD_setWidth]
  have hcase : i < 16 ∨ i = 16 ∨ i = 17 ∨ i = 18 ∨ i = 19 ∨ i = 20 ∨ i = 21 ∨ i = 22 ∨ i = 23 := by omega
  rcases hcase with h | h | h | h | h | h | h | h | h
  · have : (bitsOf c).length = 8 := rfl
    rw [List.getElem?_eq_none (by omega)]
    simp [h]
  all_goals subst h; simp [bitsOf]

theorem eat_bits (n : BitVec 24) (c : UInt8) : eat n c = bfold n (bitsOf c) := by
  rw [bfold_val _ _ (by simp [bitsOf]), eat, hi8_val]
  rfl

theorem crcFrom_bits : ∀ (l : List UInt8) (n : BitVec 24), crcFrom n l = bfold n (allBits l)
  | [], _ => rfl
  | c :: l, n => by
    show crcFrom (eat n c) l = _
    rw [crcFrom_bits l, eat_bits, ← bfold_append]
    rfl

theorem crcFrom_append (n : BitVec 24) (l m : List UInt8) : crcFrom n (l ++ m) = crcFrom (crcFrom n l) m := by simp [crcFrom]

theorem hi8_xor (a b : UInt8) : hi8 (a ^^^ b) = hi8 a ^^^ hi8 b := by
  have e : ∀ c : UInt8, hi8 c = (c.toBitVec.setWidth 24) <<< 16 := by
    intro c
    apply BitVec.eq_of_toNat_eq
    have := c.toNat_lt
    simp [hi8, Nat.shiftLeft_eq]
  rw [e, e, e, ← BitVec.shiftLeft_xor_distrib, UInt8.toBitVec_xor, BitVec.setWidth_xor]

theorem eat_xor (n m : BitVec 24) (a b : UInt8) : eat (n ^^^ m) (a ^^^ b) = eat n a ^^^ eat m b := by
  unfold eat
  rw [← stpN_xor, hi8_xor]
  congr 1
  ext i hi; simp; cases n[i] <;> cases m[i] <;> cases (hi8 a)[i] <;> cases (hi8 b)[i] <;> rfl

theorem crcFrom_xor : ∀ (l m : List UInt8) (x y : BitVec 24), l.length = m.length → crcFrom (x ^^^ y) (List.zipWith (· ^^^ ·) l m) = crcFrom x l ^^^ crcFrom y m
  | [], [], x, y, _ => rfl
  | a :: l, b :: m, x, y, h => by
    simp only [List.zipWith_cons_cons, crcFrom, List.foldl_cons, eat_xor]
    exact crcFrom_xor l m _ _ (by simpa using h)
  | [], _ :: _, _, _, h => by simp at h
  | _ :: _, [], _, _, h => by simp at h

/-- The seal of a check: its three bytes, the highest one first. -/
def sealBytes (n : BitVec 24) : List UInt8 := [UInt8.ofNat (n.toNat / 65536), UInt8.ofNat (n.toNat / 256), UInt8.ofNat n.toNat]
def putSeal (l : List UInt8) : List UInt8 := l ++ sealBytes (crc l)

theorem ofNat_bit (x i : Nat) (h : i < 8) : (UInt8.ofNat x).toBitVec.getLsbD i = x.testBit i := by
  rw [UInt8.toBitVec_ofNat', BitVec.getLsbD_ofNat]
  simp [h]

theorem sealBytes_val (n : BitVec 24) : val (allBits (sealBytes n)) = n := by
  apply BitVec.eq_of_getLsbD_eq
  intro i hi
  rw [val_get _ _ (by simp [allBits, sealBytes, bitsOf]) hi]
  have hb : ∀ k, k < 24 → n.getLsbD k = n.toNat.testBit k := fun k _ => (BitVec.testBit_toNat n).symm
  have hcase : i = 0 ∨ i = 1 ∨ i = 2 ∨ i = 3 ∨ i = 4 ∨ i = 5 ∨ i = 6 ∨ i = 7 ∨ i = 8 ∨ i = 9 ∨ i = 10 ∨ i = 11 ∨ i = 12 ∨ i = 13 ∨ i = 14 ∨ i = 15 ∨ i = 16 ∨ i = 17 ∨ i = 18 ∨ i = 19 ∨ i = 20 ∨ i = 21 ∨ i = 22 ∨ i = 23 := by omega
  have h1 : n.toNat / 256 = n.toNat >>> 8 := by rw [Nat.shiftRight_eq_div_pow]
  have h2 : n.toNat / 65536 = n.toNat >>> 16 := by rw [Nat.shiftRight_eq_div_pow]
  rw [hb i hi]
  simp only [sealBytes, h1, h2]
  rcases hcase with h | h | h | h | h | h | h | h | h | h | h | h | h | h | h | h | h | h | h | h | h | h | h | h <;> subst h <;>
    simp only [allBits, bitsOf, List.flatMap_cons, List.flatMap_nil, List.append_nil, List.cons_append, List.nil_append, ofNat_bit _ _ (by omega : 0 < 8), ofNat_bit _ _ (by omega : 1 < 8), ofNat_bit _ _ (by omega : 2 < 8),
      ofNat_bit _ _ (by omega : 3 < 8), ofNat_bit _ _ (by omega : 4 < 8), ofNat_bit _ _ (by omega : 5 < 8), ofNat_bit _ _ (by omega : 6 < 8), ofNat_bit _ _ (by omega : 7 < 8), Nat.testBit_shiftRight] <;> rfl

theorem val_inj (a b : List Bool) (ha : a.length = 24) (hb : b.length = 24) (h : val a = val b) : a = b := by
  apply List.ext_getElem? 
  intro i
  by_cases hi : i < 24
  · have e1 := val_get a (23 - i) (by omega) (by omega)
    have e2 := val_get b (23 - i) (by omega) (by omega)
    rw [h, e2] at e1
    rw [show 23 - (23 - i) = i by omega] at e1
    rw [List.getElem?_eq_getElem (by omega), List.getElem?_eq_getElem (by omega)] at e1 ⊢
    simpa using e1.symm
  · rw [List.getElem?_eq_none (by omega), List.getElem?_eq_none (by omega)]

theorem bitsOf_inj (a b : UInt8) (h : bitsOf a = bitsOf b) : a = b := by
  apply UInt8.toBitVec_inj.1
  apply BitVec.eq_of_getLsbD_eq
  intro i hi
  simp only [bitsOf, List.cons.injEq, and_true] at h
  obtain ⟨h7, h6, h5, h4, h3, h2, h1, h0⟩ := h
  have hcase : i = 0 ∨ i = 1 ∨ i = 2 ∨ i = 3 ∨ i = 4 ∨ i = 5 ∨ i = 6 ∨ i = 7 := by omega
  rcases hcase with h | h | h | h | h | h | h | h <;> subst h <;> assumption

theorem allBits_length : ∀ l : List UInt8, (allBits l).length = 8 * l.length
  | [] => rfl
  | c :: l => by
    show (bitsOf c ++ allBits l).length = _
    rw [List.length_append, allBits_length l]
    simp [bitsOf]; omega

theorem allBits_inj : ∀ (a b : List UInt8), a.length = b.length → allBits a = allBits b → a = b
  | [], [], _, _ => rfl
  | a :: l, b :: m, hl, h => by
    have h' : bitsOf a ++ allBits l = bitsOf b ++ allBits m := h
    have := List.append_inj h' (by simp [bitsOf])
    rw [bitsOf_inj a b this.1, allBits_inj l m (by simpa using hl) this.2]
  | [], _ :: _, h, _ => by simp at h
  | _ :: _, [], h, _ => by simp at h

/-- Three bytes bring a check to 0 just if they are its seal. -/
theorem seal3 (n : BitVec 24) (t : List UInt8) (ht : t.length = 3) : crcFrom n t = 0#24 ↔ t = sealBytes n := by
  have hlen : (allBits t).length = 24 := by rw [allBits_length, ht]
  rw [crcFrom_bits, bfold_val _ _ (by omega)]
  constructor
  · intro h
    have h0 := stpN_inj0 _ _ h
    have hv : val (allBits t) = n := by
      have := congrArg (fun v => n ^^^ v) h0
      have e : n ^^^ (n ^^^ val (allBits t)) = n ^^^ 0#24 := this
      rw [← BitVec.xor_assoc, BitVec.xor_self, BitVec.zero_xor, BitVec.xor_zero] at e
      exact e
    apply allBits_inj _ _ (by simp [ht, sealBytes])
    apply val_inj _ _ hlen (by rw [allBits_length]; simp [sealBytes])
    rw [hv, sealBytes_val]
  · intro h
    rw [h, sealBytes_val, BitVec.xor_self, stpN_zero]

/-- Are bytes sealed? -/
def isSealed (l : List UInt8) : Prop := 3 ≤ l.length ∧ putSeal (l.take (l.length - 3)) = l

theorem isSealed_iff (l : List UInt8) (h : 3 ≤ l.length) : putSeal (l.take (l.length - 3)) = l ↔ crc l = 0#24 := by
  have hl : l = l.take (l.length - 3) ++ l.drop (l.length - 3) := (List.take_append_drop _ _).symm
  have h3 : (l.drop (l.length - 3)).length = 3 := by simp; omega
  have e : crc l = crcFrom (crc (l.take (l.length - 3))) (l.drop (l.length - 3)) := by
    conv => lhs; rw [hl]
    exact crcFrom_append _ _ _
  rw [e, seal3 _ _ h3]
  constructor
  · intro h
    unfold putSeal at h
    conv at h => rhs; rw [hl]
    exact (List.append_cancel_left h).symm
  · intro h
    unfold putSeal
    rw [← h, List.take_append_drop]

theorem putSeal_sealed (l : List UInt8) : crc (putSeal l) = 0#24 := by
  unfold crc putSeal
  rw [crcFrom_append]
  exact (seal3 _ _ rfl).2 rfl

theorem bitsOf_xor (a b : UInt8) : bitsOf (a ^^^ b) = bxor (bitsOf a) (bitsOf b) := by
  simp only [bitsOf, bxor, UInt8.toBitVec_xor, BitVec.getLsbD_xor, List.zipWith_cons_cons, List.zipWith_nil_left]

theorem allBits_xor : ∀ (l m : List UInt8), l.length = m.length → allBits (List.zipWith (· ^^^ ·) l m) = bxor (allBits l) (allBits m)
  | [], [], _ => rfl
  | a :: l, b :: m, h => by
    show bitsOf (a ^^^ b) ++ allBits (List.zipWith (· ^^^ ·) l m) = bxor (bitsOf a ++ allBits l) (bitsOf b ++ allBits m)
    rw [allBits_xor l m (by simpa using h), bitsOf_xor]
    unfold bxor
    rw [List.zipWith_append (by simp [bitsOf])]
  | [], _ :: _, h => by simp at h
  | _ :: _, [], h => by simp at h
end Go.Proofs.Ytgmgmjljjbcgjaa.NSX

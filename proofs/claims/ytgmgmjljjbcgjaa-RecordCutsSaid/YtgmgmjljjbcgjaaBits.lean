/- Bits of whole numbers, and the seal's step on them. -/
import Derived.Test.YtgmgmjljjbcgjaaBase
import Derived.Test.YtgmgmjljjbcgjaaSealPure
namespace Go.Proofs.Ytgmgmjljjbcgjaa
open Go Go.RowKit NSX

theorem bits_xor_u32 (a b : Nat) (ha : a < 4294967296) (hb : b < 4294967296) : bits .xor .u32 (a : Int) (b : Int) = ((a ^^^ b : Nat) : Int) := by
  have hx : a ^^^ b < 2 ^ 32 := Nat.xor_lt_two_pow (by omega) (by omega)
  have h1 : (BitVec.ofInt 32 (a : Int)).toNat = a := by rw [BitVec.ofInt_natCast, BitVec.toNat_ofNat]; exact Nat.mod_eq_of_lt (by omega)
  have h2 : (BitVec.ofInt 32 (b : Int)).toNat = b := by rw [BitVec.ofInt_natCast, BitVec.toNat_ofNat]; exact Nat.mod_eq_of_lt (by omega)
  show IntKind.u32.wrap ((BitVec.ofInt 32 (a : Int) ^^^ BitVec.ofInt 32 (b : Int)).toNat : Int) = _
  rw [BitVec.toNat_xor, h1, h2]
  simp [IntKind.wrap, IntKind.bits, IntKind.signed]
  omega
theorem bits_and_u32 (a b : Nat) (ha : a < 4294967296) (hb : b < 4294967296) : bits .and .u32 (a : Int) (b : Int) = ((a &&& b : Nat) : Int) := by
  have hx : a &&& b < 2 ^ 32 := Nat.and_lt_two_pow _ (by omega)
  have h1 : (BitVec.ofInt 32 (a : Int)).toNat = a := by rw [BitVec.ofInt_natCast, BitVec.toNat_ofNat]; exact Nat.mod_eq_of_lt (by omega)
  have h2 : (BitVec.ofInt 32 (b : Int)).toNat = b := by rw [BitVec.ofInt_natCast, BitVec.toNat_ofNat]; exact Nat.mod_eq_of_lt (by omega)
  show IntKind.u32.wrap ((BitVec.ofInt 32 (a : Int) &&& BitVec.ofInt 32 (b : Int)).toNat : Int) = _
  rw [BitVec.toNat_and, h1, h2]
  simp [IntKind.wrap, IntKind.bits, IntKind.signed]
  omega
theorem bits_xor_u8 (a b : Nat) (ha : a < 256) (hb : b < 256) : bits .xor .u8 (a : Int) (b : Int) = ((a ^^^ b : Nat) : Int) := by
  have hx : a ^^^ b < 2 ^ 8 := Nat.xor_lt_two_pow (by omega) (by omega)
  have h1 : (BitVec.ofInt 8 (a : Int)).toNat = a := by rw [BitVec.ofInt_natCast, BitVec.toNat_ofNat]; exact Nat.mod_eq_of_lt (by omega)
  have h2 : (BitVec.ofInt 8 (b : Int)).toNat = b := by rw [BitVec.ofInt_natCast, BitVec.toNat_ofNat]; exact Nat.mod_eq_of_lt (by omega)
  show IntKind.u8.wrap ((BitVec.ofInt 8 (a : Int) ^^^ BitVec.ofInt 8 (b : Int)).toNat : Int) = _
  rw [BitVec.toNat_xor, h1, h2]
  simp [IntKind.wrap, IntKind.bits, IntKind.signed]
  omega

theorem and_mask (m : Nat) : m &&& 16777215 = m % 16777216 := Nat.and_two_pow_sub_one_eq_mod m 24

/-- A step of the program's inner loop is the plain step. -/
def cstep (m : Nat) : Nat := (m * 2 % 4294967296) ^^^ (8801531 * ((m / 8388608) &&& 1) % 4294967296)
theorem cstep_lt (m : Nat) : cstep m < 4294967296 := by
  have : cstep m < 2 ^ 32 := Nat.xor_lt_two_pow (by omega) (by omega)
  exact this
theorem cstep_stp (m : Nat) : cstep m % 16777216 = (stp (BitVec.ofNat 24 m)).toNat := by
  unfold cstep stp
  rw [show (16777216 : Nat) = 2 ^ 24 from rfl, Nat.xor_mod_two_pow, BitVec.toNat_xor, BitVec.toNat_shiftLeft, BitVec.toNat_ofNat, Nat.shiftLeft_eq]
  congr 1
  · omega
  · have hmsb : (BitVec.ofNat 24 m).msb = decide (m / 8388608 % 2 = 1) := by
      rw [BitVec.msb_eq_getLsbD_last, BitVec.getLsbD_ofNat]
      simp only [Nat.testBit, Nat.shiftRight_eq_div_pow]
      simp
      rfl
    rw [hmsb, Nat.and_one_is_mod]
    have h2 : m / 8388608 % 2 = 0 ∨ m / 8388608 % 2 = 1 := by omega
    rcases h2 with h | h
    · rw [h]; rfl
    · rw [h]; rfl
theorem cstep_int (m : Nat) (hm : m < 4294967296) : bits BinOp.xor IntKind.u32 ((m : Int) * 2 % 4294967296) (8801531 * bits BinOp.and IntKind.u32 ((m : Int) / 8388608) 1 % 4294967296) = (cstep m : Int) := by
  have e1 : bits BinOp.and IntKind.u32 ((m : Int) / 8388608) 1 = ((m / 8388608 &&& 1 : Nat) : Int) := bits_and_u32 (m / 8388608) 1 (by omega) (by omega)
  have e2 : ((m : Int) * 2 % 4294967296) = ((m * 2 % 4294967296 : Nat) : Int) := by omega
  have e3 : (8801531 * ((m / 8388608 &&& 1 : Nat) : Int) % 4294967296) = ((8801531 * (m / 8388608 &&& 1) % 4294967296 : Nat) : Int) := by omega
  rw [e1, e3, e2, bits_xor_u32 _ _ (by omega) (by omega)]
  rfl
theorem cstep_next (m t : Nat) (a : BitVec 24) (h : m % 16777216 = (stpN t a).toNat) : cstep m % 16777216 = (stpN (t + 1) a).toNat := by
  rw [cstep_stp, stpN_add]
  have : BitVec.ofNat 24 m = stpN t a := by
    apply BitVec.eq_of_toNat_eq
    rw [BitVec.toNat_ofNat]; exact h
  rw [this]; rfl
end Go.Proofs.Ytgmgmjljjbcgjaa

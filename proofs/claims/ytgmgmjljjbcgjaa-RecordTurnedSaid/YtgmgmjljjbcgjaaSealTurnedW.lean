/- SealTurned: its walk. -/
import Derived.Test.YtgmgmjljjbcgjaaSealBackW
import Derived.Test.YtgmgmjljjbcgjaaTurnPure
import Derived.Deep.CutBlock
namespace Go.Proofs.Ytgmgmjljjbcgjaa
open Go Go.RowKit NSX

theorem bit_int (t m : Nat) (ht : t < 16777216) (_ : m < 24) : (bits BinOp.and IntKind.u32 ((t : Int) / 2 ^ (23 - m)) 1 == 1) = t.testBit (23 - m) := by
  have e : ((t : Int) / 2 ^ (23 - m)) = ((t / 2 ^ (23 - m) : Nat) : Int) := by
    rw [Int.natCast_ediv, Int.natCast_pow]; rfl
  have hle : t / 2 ^ (23 - m) ≤ t := Nat.div_le_self _ _
  have e2 := bits_and_u32 (t / 2 ^ (23 - m)) 1 (by omega) (by omega)
  have e3 : bits BinOp.and IntKind.u32 ((t / 2 ^ (23 - m) : Nat) : Int) 1 = ((t / 2 ^ (23 - m) &&& 1 : Nat) : Int) := e2
  rw [e, e3, Nat.and_one_is_mod, Nat.testBit_eq_decide_div_mod_eq]
  have h2 : t / 2 ^ (23 - m) % 2 = 0 ∨ t / 2 ^ (23 - m) % 2 = 1 := by omega
  rcases h2 with h | h <;> rw [h] <;> rfl

theorem turn_int (c : UInt8) (p : Nat) (hp : p < 8) : bits BinOp.xor IntKind.u8 (c.toNat : Int) (128 / 2 ^ p) = ((c ^^^ UInt8.ofNat (128 >>> p)).toNat : Int) := by
  have e : ((128 : Int) / 2 ^ p) = ((128 / 2 ^ p : Nat) : Int) := by
    rw [Int.natCast_ediv, Int.natCast_pow]; rfl
  have hle : 128 / 2 ^ p ≤ 128 := Nat.div_le_self _ _
  rw [e, bits_xor_u8 _ _ c.toNat_lt (by omega), UInt8.toNat_xor, UInt8.toNat_ofNat', Nat.shiftRight_eq_div_pow, Nat.mod_eq_of_lt (show 128 / 2 ^ p < 2 ^ 8 by omega)]
theorem flipBit_set (l : List UInt8) (p : Nat) (h : p / 8 < l.length) : l.set (p / 8) (l.getD (p / 8) 0 ^^^ UInt8.ofNat (128 >>> (p % 8))) = flipBit l p := by
  unfold flipBit
  apply List.ext_getElem?
  intro i
  rw [List.getElem?_modify, List.getElem?_set]
  by_cases hi : p / 8 = i
  · subst hi
    rw [if_pos rfl, if_pos h, List.getD_eq_getElem?_getD, List.getElem?_eq_getElem h]
    simp
  · rw [if_neg hi]
    simp [hi]
theorem flips_zero (k : Nat) (l : List UInt8) : ∀ m, flips k 0 m l = l
  | 0 => rfl
  | m + 1 => by rw [flips, Nat.zero_testBit, flips_zero k l m]; rfl
/-- Sealed bytes in which bits are turned are opened just if none is. -/
theorem turned_law (k t : Nat) (l : List UInt8) (hk : k + 24 ≤ 8 * (l.length + 3)) (ht : t < 16777216) : (isSealed (flips k t 24 (putSeal l)) → t = 0) ∧ (t = 0 → isSealed (flips k t 24 (putSeal l))) := by
  constructor
  · intro h
    by_cases h0 : t = 0
    · exact h0
    · exfalso
      have h1 := turned_crc k t (putSeal l) (by rw [putSeal_length]; exact hk) h0 ht (putSeal_sealed l)
      exact h1 ((isSealed_iff _ h.1).1 h.2)
  · rintro rfl
    rw [flips_zero]
    exact putSeal_is l

set_option maxRecDepth 100000 in
set_option maxHeartbeats 1000000 in
theorem SealTurned_calls (b : ByteArray) (at_ turn : Nat) (hat : at_ < 18446744073709551616) (hturn : turn < 4294967296) (w : World) :
    Calls Try.prog 13 #[.string b, .int .u64 at_, .int .u32 turn] w fun e w' => e = .returned (.bool true) ∧ Chg [] w w' := by
  go_enter Try.func13, Try.ntmps13
  go_wp2_with fail
  refine (awake2_calls _).mono ?_
  rintro e w1 ⟨rfl, hc1⟩
  have HC1 := Lib.hid hc1
  clear hc1
  simp only []
  by_cases hb : b.size ≤ 5000
  · have hb2 : ¬ ((5000 : Int) < (b.size : Int)) := by omega
    obtain ⟨cap, w2, hr, hib, hc2, -⟩ := run_ofString w1 b (max_size b hb)
    have HC2 := Lib.hid (HC1.out.then hc2)
    have HIB := Lib.hid hib
    clear hib hc2
    go_wp2_with fail
    refine (Put_calls 5 _ _ _ HIB.out (by rw [str_len]; omega)).mono ?_
    rintro e w3 ⟨s, rfl, hs, hc3⟩
    have hs := hs.mono HC2.out.size
    have HC3 := Lib.hid (HC2.out.then hc3)
    obtain ⟨g, scap, rfl, hg, hsc, -⟩ := hs.at (by intro h; have := congrArg List.length h; rw [putSeal_length] at this; simp at this)
    have hsl : (putSeal b.data.toList).length = b.size + 3 := by rw [putSeal_length, str_len]
    rw [hsl] at hs hsc ⊢
    have HS := Lib.hid hs
    clear hs hc3 hr
    obtain ⟨t, ht⟩ : ∃ t : Nat, turn % 16777216 = t := ⟨_, rfl⟩
    have htl : t < 16777216 := by omega
    have hmask : bits BinOp.and IntKind.u32 (turn : Int) 16777215 = (t : Int) := by
      have := bits_and_u32 turn 16777215 hturn (by omega)
      rw [and_mask, ht] at this
      exact this
    obtain ⟨k, hk⟩ : ∃ k : Nat, at_ % (8 * (b.size + 3) - 23) = k := ⟨_, rfl⟩
    have hkl : k + 24 ≤ 8 * (b.size + 3) := by
      have := Nat.mod_lt at_ (show 0 < 8 * (b.size + 3) - 23 by omega)
      omega
    have hkw : wrap64 ((at_ : Int) % (8 * ((b.size : Int) + 3) - 23)) = (k : Int) := by
      have e : ((at_ : Int) % (8 * ((b.size : Int) + 3) - 23)) = ((at_ % (8 * (b.size + 3) - 23) : Nat) : Int) := by
        rw [Int.natCast_emod]
        congr 1
        omega
      rw [e, hk]
      unfold wrap64
      omega
    clear ht hk
    go_wp2_with fail
    rw [hkw]
    clear hkw
    have HG := Lib.hid hg
    go_loopw [9] (fun i wr => ∃ m : Nat, m ≤ 24 ∧ i = .int .i64 m ∧ OwnB wr w.heap.size (.slice (some ⟨g, 0, none⟩) (b.size + 3) scap) (flips k t m (putSeal b.data.toList)) ∧ Chg [] w wr) (fun i _ => 24 - (intOf i).toNat)
    case atStart => exact ⟨0, by omega, rfl, HS.out, HC3.out⟩
    case round =>
      obtain ⟨m, hm, rfl, ho, hc⟩ := hrel
      clear HS HC3
      by_cases hlt : m < 24
      · have hi2 : (m : Int) < 24 := by omega
        have HO := Lib.hid ho
        have HC := Lib.hid hc
        clear ho hc
        have hbit := bit_int t m htl hlt
        cases hb49 : t.testBit (23 - m) with
        | true =>
          rw [hb49] at hbit
          have hp8 : (k + m) / 8 < b.size + 3 := by omega
          have hp8i : ((k : Int) + (m : Int)) / 8 < (b.size : Int) + 3 := by omega
          obtain ⟨hcell, hfr⟩ := HO.out.cell ((k + m) / 8) (by rw [flips_length, putSeal_length, str_len]; exact hp8)
          obtain ⟨c, hc⟩ : ∃ c, (flips k t m (putSeal b.data.toList)).getD ((k + m) / 8) 0 = c := ⟨_, rfl⟩
          rw [hc] at hcell
          have HCc := Lib.hid hc
          clear hc
          go_wp2
          rw [turn_int c ((k + m) % 8) (by omega)]
          have hst := HO.out.stored ((k + m) / 8) (c ^^^ UInt8.ofNat (128 >>> ((k + m) % 8)))
          have hch := HC.out.setCell (p := ⟨g, (k + m) / 8, none⟩) (.inr HG.out) (u8 (c ^^^ UInt8.ofNat (128 >>> ((k + m) % 8))))
          have e : (flips k t m (putSeal b.data.toList)).set ((k + m) / 8) (c ^^^ UInt8.ofNat (128 >>> ((k + m) % 8))) = flips k t (m + 1) (putSeal b.data.toList) := by
            rw [flips, hb49, if_pos rfl, ← HCc.out, flipBit_set _ _ (by rw [flips_length, putSeal_length, str_len]; exact hp8)]
          rw [e] at hst
          go_roundw
          case rel => exact ⟨m + 1, by omega, by go_num, hst, hch⟩
          case measure => simp [intOf]; omega
        | false =>
          rw [hb49] at hbit
          go_wp2
          go_roundw
          case rel =>
            refine ⟨m + 1, by omega, by go_num, ?_, HC.out⟩
            have e : flips k t (m + 1) (putSeal b.data.toList) = flips k t m (putSeal b.data.toList) := by rw [flips, hb49]; rfl
            rw [e]; exact HO.out
          case measure => simp [intOf]; omega
      · obtain rfl : m = 24 := by omega
        have hlen : (flips k t 24 (putSeal b.data.toList)).length = b.size + 3 := by rw [flips_length, putSeal_length, str_len]
        have hop := Open_calls 5 _ _ wr ho.isB (by rw [hlen]; omega)
        have hpure := turned_law k t b.data.toList (by rw [str_len]; exact hkl) htl
        have HOp := Lib.hid hop
        have HC := Lib.hid hc
        have HP := Lib.hid hpure
        clear ho hc hop hpure hlen
        go_wp2_with fail
        refine HOp.out.mono ?_
        rintro e w5 ⟨v', ok, rfl, h1, h2, hc5⟩
        have HC5 := Lib.hid (HC.out.then hc5)
        clear hc5
        by_cases h0 : t = 0
        · cases ok with
          | true =>
            have ht0 : ((t : Int) == 0) = true := by simp [h0]
            clear h1 h2
            simp only []
            go_wp2
            go_ret
            exact ⟨rfl, HC5.out⟩
          | false => exact absurd (HP.out.2 h0) (h2 rfl).1
        · cases ok with
          | true => exact absurd (HP.out.1 (h1 rfl).1) h0
          | false =>
            have ht0 : ((t : Int) == 0) = false := by simp; omega
            obtain rfl := (h2 rfl).2
            clear h1 h2
            simp only []
            go_wp2
            go_ret
            exact ⟨rfl, HC5.out⟩
  · have h2 : (5000 : Int) < (b.size : Int) := by omega
    go_wp2_with fail
    refine (awake2_calls _).mono ?_
    rintro e w5 ⟨rfl, hc5⟩
    have HC5 := Lib.hid (HC1.out.then hc5)
    clear hc5
    go_wp2
    go_ret
    exact ⟨rfl, HC5.out⟩
end Go.Proofs.Ytgmgmjljjbcgjaa

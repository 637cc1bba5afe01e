/- The document's seal (interregnumref02): what each of its functions does. -/
import Derived.Test.YtgmgmjljjbcgjaaSealBackW
namespace Go.Proofs.Ytgmgmjljjbcgjaa
open Go Go.RowKit NSX

theorem bits_xor_i64 (a b : Nat) (ha : a < 4294967296) (hb : b < 4294967296) : bits .xor .i64 (a : Int) (b : Int) = ((a ^^^ b : Nat) : Int) := by
  have hx : a ^^^ b < 2 ^ 32 := Nat.xor_lt_two_pow (by omega) (by omega)
  have h1 : (BitVec.ofInt 64 (a : Int)).toNat = a := by rw [BitVec.ofInt_natCast, BitVec.toNat_ofNat]; exact Nat.mod_eq_of_lt (by omega)
  have h2 : (BitVec.ofInt 64 (b : Int)).toNat = b := by rw [BitVec.ofInt_natCast, BitVec.toNat_ofNat]; exact Nat.mod_eq_of_lt (by omega)
  show IntKind.i64.wrap ((BitVec.ofInt 64 (a : Int) ^^^ BitVec.ofInt 64 (b : Int)).toNat : Int) = _
  rw [BitVec.toNat_xor, h1, h2]
  simp [IntKind.wrap, IntKind.bits, IntKind.signed]
  omega

theorem stp_big (x : BitVec 24) (h : 16777215 < x.toNat * 2) : (stp x).toNat = (x.toNat * 2 - 16777216) ^^^ 8801531 := by
  have hx : x.toNat < 16777216 := x.isLt
  have hm : x.msb = true := by rw [BitVec.msb_eq_decide]; simp; omega
  unfold stp
  rw [hm, if_pos rfl, BitVec.toNat_xor, BitVec.toNat_shiftLeft, Nat.shiftLeft_eq]
  have e : x.toNat * 2 ^ 1 % 2 ^ 24 = x.toNat * 2 - 16777216 := by omega
  rw [e]
  rfl
theorem stp_low (x : BitVec 24) (h : x.toNat * 2 ≤ 16777215) : (stp x).toNat = x.toNat * 2 := by
  have hm : x.msb = false := by rw [BitVec.msb_eq_decide]; simp; omega
  unfold stp
  rw [hm, if_neg (by simp), BitVec.xor_zero, BitVec.toNat_shiftLeft, Nat.shiftLeft_eq]
  omega
theorem stpN_succ (t : Nat) (x : BitVec 24) : stpN (t + 1) x = stp (stpN t x) := by rw [stpN_add]; rfl
theorem hi8_nat (c : UInt8) : (hi8 c).toNat = c.toNat * 65536 := by
  have := c.toNat_lt
  show (BitVec.ofNat 24 (c.toNat * 65536)).toNat = _
  rw [BitVec.toNat_ofNat]; omega

set_option maxRecDepth 100000 in
set_option maxHeartbeats 1000000 in
theorem rOf_calls (b : ByteArray) (hlen : b.size ≤ 1099511627776) (w : World) : Calls Try.prog 54 #[.string b] w fun e w' => e = .returned (.int .i64 (crc b.data.toList).toNat) ∧ w = w' := by
  go_enter Try.func54, Try.ntmps54
  go_wp2
  go_loop [4, 3] (fun i n => ∃ k : Nat, k ≤ b.size ∧ i = .int .i64 k ∧ n = .int .i64 ((crcFrom begin0 (b.data.toList.take k)).toNat : Nat)) (fun i _ => b.size - (intOf i).toNat)
  case atStart => exact ⟨0, by omega, rfl, rfl⟩
  case round =>
    obtain ⟨k, hk, rfl, rfl⟩ := hrel
    by_cases hlt : k < b.size
    · have hi2 : (k : Int) < (b.size : Int) := by omega
      obtain ⟨n, hn⟩ : ∃ n, crcFrom begin0 (b.data.toList.take k) = n := ⟨_, rfl⟩
      rw [hn]
      have hnl : n.toNat < 16777216 := n.isLt
      have hcl := (b[k]).toNat_lt
      have HN := Lib.hid (show crcFrom begin0 (b.data.toList.take (k + 1)) = stpN 8 (n ^^^ hi8 b[k]) from by rw [crc_take _ _ k (by rw [str_len]; exact hlt), hn, str_get b k hlt]; rfl)
      have hx : bits .xor .i64 (n.toNat : Int) ((b[k].toNat : Int) * 65536) = (((n ^^^ hi8 b[k]).toNat : Nat) : Int) := by
        have := bits_xor_i64 n.toNat (b[k].toNat * 65536) (by omega) (by omega)
        rw [BitVec.toNat_xor, hi8_nat, ← this]
        rfl
      obtain ⟨x, hxx⟩ : ∃ x, n ^^^ hi8 b[k] = x := ⟨_, rfl⟩
      rw [hxx] at hx HN
      clear hn hxx
      go_wp2
      go_loop [5, 3] (fun j y => ∃ t : Nat, t ≤ 8 ∧ j = .int .i64 t ∧ y = .int .i64 ((stpN t x).toNat : Nat)) (fun j _ => 8 - (intOf j).toNat)
      case atStart => exact ⟨0, by omega, rfl, rfl⟩
      case round =>
        obtain ⟨t, ht, rfl, rfl⟩ := hrel
        by_cases hlt8 : t < 8
        · have hi8' : (t : Int) < 8 := by omega
          obtain ⟨y, hy⟩ : ∃ y, stpN t x = y := ⟨_, rfl⟩
          have HY := Lib.hid (show stpN (t + 1) x = stp y from by rw [stpN_succ, hy])
          rw [hy]
          have hyl : y.toNat < 16777216 := y.isLt
          clear hy
          by_cases hbig : 16777215 < y.toNat * 2
          · have hbig2 : 16777215 < (y.toNat : Int) * 2 := by omega
            have hst : bits .xor .i64 ((y.toNat : Int) * 2 - 16777216) 8801531 = (((stp y).toNat : Nat) : Int) := by
              have := bits_xor_i64 (y.toNat * 2 - 16777216) 8801531 (by omega) (by omega)
              rw [stp_big y hbig, ← this]
              congr 1
              omega
            go_wp2
            go_round
            case rel => exact ⟨t + 1, by omega, by go_num, by rw [HY.out]⟩
            case measure => simp [intOf]; omega
          · have hbig2 : ¬ 16777215 < (y.toNat : Int) * 2 := by omega
            have hst := stp_low y (by omega)
            go_wp2
            go_round
            case rel => exact ⟨t + 1, by omega, by go_num, by rw [HY.out, hst]; go_num⟩
            case measure => simp [intOf]; omega
        · obtain rfl : t = 8 := by omega
          go_wp2
          go_round
          case rel => exact ⟨k + 1, by omega, by go_num, by rw [HN.out]⟩
          case measure => simp [intOf]; omega
    · obtain rfl : k = b.size := by omega
      rw [List.take_of_length_le (by rw [str_len]; exact Nat.le_refl _)]
      go_wp2
      go_ret
      exact ⟨rfl, rfl⟩

set_option maxRecDepth 100000 in
set_option maxHeartbeats 1000000 in
theorem rPut_calls (b : ByteArray) (hlen : b.size ≤ 1099511000000) (w : World) : Calls Try.prog 56 #[.string b] w fun e w' => e = .returned (.string (strOf (putSeal b.data.toList))) ∧ Chg [] w w' := by
  obtain ⟨n, hn⟩ : ∃ n, crc b.data.toList = n := ⟨_, rfl⟩
  have HO := Lib.hid (rOf_calls b (by omega) w)
  rw [hn] at HO
  have HN := Lib.hid hn
  clear hn
  have hlt24 : n.toNat < 16777216 := n.isLt
  have hq := run_toString _ 5 _ _ (sealB w n)
  have hcat : b ++ strOf (sealBytes n) = strOf (putSeal b.data.toList) := by
    rw [putSeal, HN.out, ← strOf_append, strOf_of]
  have hsz : ¬ (9223372036854775807 < b.size + (strOf (sealBytes n)).size) := by rw [strOf_size]; simp [sealBytes]; omega
  go_enter Try.func56, Try.ntmps56
  go_wp2_with fail
  refine HO.out.mono ?_
  rintro e w1 ⟨rfl, rfl⟩
  go_wp2_with fail
  go_ret
  exact ⟨rfl, (Chg.refl [] w).alloc _⟩

set_option maxRecDepth 100000 in
set_option maxHeartbeats 1000000 in
theorem rOpen_calls (b : ByteArray) (hlen : b.size ≤ 1099511000000) (w : World) :
    Calls Try.prog 53 #[.string b] w fun e w' => ∃ r ok, e = .returned (.tuple #[.string (strOf r), .bool ok]) ∧ (ok = true → isSealed b.data.toList ∧ r = b.data.toList.take (b.size - 3)) ∧ (ok = false → ¬ isSealed b.data.toList ∧ r = []) ∧ Chg [] w w' := by
  by_cases h3 : 3 ≤ b.size
  · have hsub : ((b.size : Int) - 3) = ((b.size - 3 : Nat) : Int) := by omega
    have hneg : ¬ ((b.size : Int) < 3) := by omega
    have hx := extract_take b (b.size - 3) (by omega)
    have HP := Lib.hid (rPut_calls (b.extract 0 (b.size - 3)) (by rw [← str_len, hx, List.length_take, str_len]; omega) w)
    rw [hx] at HP
    have HX := Lib.hid (show b.extract 0 (b.size - 3) = strOf (b.data.toList.take (b.size - 3)) from by rw [← hx, strOf_of])
    clear hx
    go_enter Try.func53, Try.ntmps53
    go_wp2_with fail
    refine HP.out.mono ?_
    rintro e w1 ⟨rfl, hc1⟩
    have HC1 := Lib.hid hc1
    clear hc1
    by_cases hq : putSeal (b.data.toList.take (b.size - 3)) = b.data.toList
    · have hq2 : ((strOf (putSeal (b.data.toList.take (b.size - 3)))).toList == b.toList) = true := by rw [hq, strOf_of]; simp
      have HQ := Lib.hid hq
      clear hq
      go_wp2_with fail
      go_ret2
      refine ⟨b.data.toList.take (b.size - 3), true, by rw [← HX.out]; rfl, fun _ => ⟨⟨by rw [str_len]; exact h3, by rw [str_len]; exact HQ.out⟩, rfl⟩, (fun h => by cases h), HC1.out⟩
    · have hq2 : ((strOf (putSeal (b.data.toList.take (b.size - 3)))).toList == b.toList) = false := by
        rw [ByteArray.toList_eq, ByteArray.toList_eq, strOf_toList]
        simpa using hq
      have HQ := Lib.hid hq
      clear hq
      go_wp2_with fail
      go_ret2
      refine ⟨[], false, rfl, (fun h => by cases h), fun _ => ⟨fun h => HQ.out ?_, rfl⟩, HC1.out⟩
      have := h.2
      rw [str_len] at this
      exact this
  · have hneg : ((b.size : Int) < 3) := by omega
    go_enter Try.func53, Try.ntmps53
    go_wp2_with fail
    go_ret2
    exact ⟨[], false, rfl, (fun h => by cases h), fun _ => ⟨fun h => by have := h.1; rw [str_len] at this; exact h3 this, rfl⟩, Chg.refl _ _⟩
end Go.Proofs.Ytgmgmjljjbcgjaa

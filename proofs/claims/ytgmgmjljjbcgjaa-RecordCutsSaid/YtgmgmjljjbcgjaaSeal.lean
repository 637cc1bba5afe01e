/- The seal: Of, Put, Open. -/
import Derived.Test.YtgmgmjljjbcgjaaSteps
import Derived.Test.YtgmgmjljjbcgjaaSl
namespace Go.Proofs.Ytgmgmjljjbcgjaa
open Go Go.RowKit NSX

theorem stp_small (m : Nat) (h : m < 8388608) : stp (BitVec.ofNat 24 m) = BitVec.ofNat 24 (m * 2) := by
  have hm : (BitVec.ofNat 24 m).msb = false := by
    rw [BitVec.msb_eq_getLsbD_last, BitVec.getLsbD_ofNat]
    simp [Nat.testBit, Nat.shiftRight_eq_div_pow]
    rw [Nat.div_eq_of_lt h]
  unfold stp
  rw [hm]
  apply BitVec.eq_of_toNat_eq
  simp [Nat.shiftLeft_eq]
theorem stpN_small : ∀ (k m : Nat), m * 2 ^ k < 16777216 → stpN k (BitVec.ofNat 24 m) = BitVec.ofNat 24 (m * 2 ^ k)
  | 0, m, _ => by simp [stpN]
  | k + 1, m, h => by
    have h2 : m * 2 * 2 ^ k < 16777216 := by rw [Nat.pow_succ] at h; rw [Nat.mul_assoc, Nat.mul_comm 2]; exact h
    have h3 : 1 ≤ 2 ^ k := Nat.one_le_two_pow
    have h4 : m * 2 ≤ m * 2 * 2 ^ k := Nat.le_mul_of_pos_right _ (by omega)
    rw [stpN, stp_small m (by omega), stpN_small k (m * 2) h2, Nat.pow_succ, Nat.mul_assoc, Nat.mul_comm 2]

theorem split24 (n : BitVec 24) : n = BitVec.ofNat 24 (n.toNat % 65536) ^^^ hi8 (UInt8.ofNat (n.toNat / 65536)) := by
  have hn : n.toNat < 16777216 := n.isLt
  apply BitVec.eq_of_toNat_eq
  have e1 : (hi8 (UInt8.ofNat (n.toNat / 65536))).toNat = n.toNat / 65536 * 65536 := by
    show (BitVec.ofNat 24 ((UInt8.ofNat (n.toNat / 65536)).toNat * 65536)).toNat = _
    rw [BitVec.toNat_ofNat, UInt8.toNat_ofNat']; omega
  rw [BitVec.toNat_xor, e1, BitVec.toNat_ofNat]
  have e2 : n.toNat % 65536 % 2 ^ 24 = n.toNat % 65536 := by omega
  rw [e2]
  apply Nat.eq_of_testBit_eq
  intro i
  rw [Nat.testBit_xor, show (65536 : Nat) = 2 ^ 16 from rfl, Nat.testBit_mod_two_pow, Nat.testBit_mul_two_pow, Nat.testBit_div_two_pow]
  by_cases h : i < 16
  · have h' : ¬ 16 ≤ i := by omega
    simp [h, h']
  · have h' : 16 ≤ i := by omega
    rw [Nat.sub_add_cancel h']
    simp [h, h']

theorem eat_table (n : BitVec 24) (c : UInt8) : (eat n c).toNat = (n.toNat * 256 % 16777216) ^^^ stepOf (n.toNat / 65536 % 256 ^^^ c.toNat) := by
  have hn : n.toNat < 16777216 := n.isLt
  have hs := split24 n
  unfold eat stepOf
  have e : n ^^^ hi8 c = BitVec.ofNat 24 (n.toNat % 65536) ^^^ hi8 (UInt8.ofNat (n.toNat / 65536) ^^^ c) := by
    conv => lhs; rw [hs]
    rw [hi8_xor, BitVec.xor_assoc]
  have e2 : UInt8.ofNat (n.toNat / 65536) ^^^ c = UInt8.ofNat (n.toNat / 65536 % 256 ^^^ c.toNat) := by
    apply UInt8.toNat_inj.1
    have hc := c.toNat_lt
    have hx : n.toNat / 65536 % 256 ^^^ c.toNat < 2 ^ 8 := Nat.xor_lt_two_pow (by omega) (by omega)
    rw [UInt8.toNat_xor, UInt8.toNat_ofNat', UInt8.toNat_ofNat', Nat.mod_eq_of_lt hx]
  have e3 : stpN 8 (BitVec.ofNat 24 (n.toNat % 65536)) = BitVec.ofNat 24 (n.toNat % 65536 * 2 ^ 8) := stpN_small 8 _ (by omega)
  have e4 : (n.toNat % 65536 * 2 ^ 8) % 2 ^ 24 = n.toNat * 256 % 16777216 := by omega
  rw [e, stpN_xor, BitVec.toNat_xor, e2, e3, BitVec.toNat_ofNat, e4]

theorem idx_int (n : BitVec 24) (c : UInt8) : bits BinOp.xor IntKind.u8 ((n.toNat : Int) / 65536) (c.toNat : Int) = ((UInt8.ofNat (n.toNat / 65536 ^^^ c.toNat)).toNat : Int) := by
  have hn : n.toNat < 16777216 := n.isLt
  have hc := c.toNat_lt
  have hx : n.toNat / 65536 ^^^ c.toNat < 2 ^ 8 := Nat.xor_lt_two_pow (by omega) (by omega)
  have := bits_xor_u8 (n.toNat / 65536) c.toNat (by omega) (by omega)
  rw [UInt8.toNat_ofNat', Nat.mod_eq_of_lt hx, ← this]
  rfl
/-- What the program reckons for a byte. -/
theorem of_int (n : BitVec 24) (c : UInt8) :
    bits BinOp.xor IntKind.u32 (bits BinOp.and IntKind.u32 ((n.toNat : Int) * 256) 16777215) (stepOf (UInt8.ofNat (n.toNat / 65536 ^^^ c.toNat)).toNat : Nat) = ((eat n c).toNat : Int) := by
  have hn : n.toNat < 16777216 := n.isLt
  have hc := c.toNat_lt
  have hx : n.toNat / 65536 ^^^ c.toNat < 2 ^ 8 := Nat.xor_lt_two_pow (by omega) (by omega)
  have e2 : bits BinOp.and IntKind.u32 ((n.toNat : Int) * 256) 16777215 = ((n.toNat * 256 % 16777216 : Nat) : Int) := by
    have := bits_and_u32 (n.toNat * 256) 16777215 (by omega) (by omega)
    rw [and_mask] at this
    refine Eq.trans ?_ this
    rfl
  have e3 : n.toNat / 65536 % 256 = n.toNat / 65536 := by omega
  have hlt : stepOf (n.toNat / 65536 ^^^ c.toNat) < 16777216 := (stpN 8 _).isLt
  rw [e2, UInt8.toNat_ofNat', Nat.mod_eq_of_lt hx, bits_xor_u32 _ _ (by omega) (by omega), eat_table, e3]

theorem step_form (n : BitVec 24) (c : UInt8) : (UInt8.ofNat (n.toNat / 65536 ^^^ c.toNat)).toNat = n.toNat / 65536 % 256 ^^^ c.toNat := by
  have hn : n.toNat < 16777216 := n.isLt
  have hc := c.toNat_lt
  have hx : n.toNat / 65536 ^^^ c.toNat < 2 ^ 8 := Nat.xor_lt_two_pow (by omega) (by omega)
  have e3 : n.toNat / 65536 % 256 = n.toNat / 65536 := by omega
  rw [UInt8.toNat_ofNat', Nat.mod_eq_of_lt hx, e3]

theorem Known.chg {w w' : World} {K : Nat} {r : List Nat} (h : Known w K) (hc : Chg r w w') (hn : K ∉ r) : Known w' K := by
  rcases h with ⟨tab, h⟩ | h
  · exact .inl ⟨tab, h.chg hc hn⟩
  · exact .inr (h.chg hc hn)
theorem newStepsCells : Try.zeroCells124 = (w32 0 :: .int .i32 0 :: w32 0 :: (List.replicate 256 0).map w32).toArray := by
  apply Array.toList_inj.1
  rw [zeroSteps, List.map_replicate]
  rfl
theorem newSteps (w : World) : Known (w.alloc (.cells Try.zeroCells124 124)) w.heap.size :=
  .inl ⟨List.replicate 256 0, List.length_replicate, by rw [newStepsCells]; exact heap_alloc_new _ _⟩

theorem crc_take (bs : List UInt8) (n : BitVec 24) (k : Nat) (hk : k < bs.length) : crcFrom n (bs.take (k + 1)) = eat (crcFrom n (bs.take k)) (bs.getD k 0) := by
  rw [List.take_add_one, List.getElem?_eq_getElem hk, crcFrom_append, List.getD_eq_getElem?_getD, List.getElem?_eq_getElem hk]
  rfl

set_option maxRecDepth 100000 in
set_option maxHeartbeats 800000 in
theorem OwnB.rows {w wr : World} {B : Nat} {v : Value} {bs : List UInt8} {r : List Nat} (h : OwnB wr B v bs) (hB : w.heap.size ≤ B) : ∀ x ∈ v.ownBlock.toList, x ∈ r ∨ w.heap.size ≤ x := by
  intro x hx
  have : v.ownBlock = some x := by simpa using hx
  exact .inr (Nat.le_trans hB (h.lt x this).1)

set_option maxRecDepth 100000 in
set_option maxHeartbeats 800000 in
theorem Of_calls (T : TypeId) (v : Value) (bs : List UInt8) (w : World) (h : IsB w T v bs) : Calls Try.prog 49 #[v] w fun e w' => e = .returned (w32 (crc bs).toNat) ∧ Chg [] w w' := by
  obtain ⟨ao, cap, rfl, hl, hm, hz, -⟩ := h.cells
  unfold maxLen at hm
  have HK := Lib.hid (newSteps w)
  have HC := Lib.hid ((Chg.refl [] w).alloc (.cells Try.zeroCells124 124))
  have hlt := heap_lt (heap_alloc_new w (.cells Try.zeroCells124 124))
  obtain ⟨K, hK⟩ : ∃ K, w.heap.size = K := ⟨_, rfl⟩
  have HKs := Lib.hid (show w.heap.size ≤ K from by omega)
  have HB := Lib.hid h
  clear h hlt
  rw [hK] at HK
  go_enter Try.func49, Try.ntmps49
  go_wp2
  go_loopw [11, 4] (fun i n wr => ∃ k : Nat, k ≤ bs.length ∧ i = .int .i64 k ∧ n = w32 (crcFrom begin0 (bs.take k)).toNat ∧ Known wr K ∧ Chg [] w wr) (fun i _ _ => bs.length - (intOf i).toNat)
  case atStart => exact ⟨0, by omega, rfl, rfl, HK.out, HC.out⟩
  case round =>
    obtain ⟨k, hk, rfl, rfl, hkn, hc⟩ := hrel
    clear HK HC
    by_cases hlt : k < bs.length
    · have hi2 : (k : Int) < (bs.length : Int) := by omega
      obtain ⟨ao', cap', hv, -, -, -, hcell⟩ := (HB.out.then hc).cells
      simp only [Value.slice.injEq] at hv
      obtain ⟨rfl, -, rfl⟩ := hv
      obtain ⟨g, off, rfl, hcell2⟩ := hcell k hlt
      clear hcell
      obtain ⟨c, hcc⟩ : ∃ c, bs.getD k 0 = c := ⟨_, rfl⟩
      rw [hcc] at hcell2
      obtain ⟨n, hn⟩ : ∃ n, crcFrom begin0 (bs.take k) = n := ⟨_, rfl⟩
      rw [hn]
      have HN := Lib.hid (show crcFrom begin0 (bs.take (k + 1)) = eat n c from by rw [crc_take bs _ k hlt, hn, hcc])
      have hlt24 : n.toNat < 16777216 := n.isLt
      have HKn := Lib.hid hkn
      have HC := Lib.hid hc
      clear hkn hc hcc hn hz
      go_wp2_with fail
      rw [idx_int n c]
      refine (of_calls K _ wr HKn.out).mono ?_
      rintro e w2 ⟨rfl, hs2, hc2⟩
      have HK2 := Lib.hid (show Known w2 K from .inr hs2)
      have HC2 := Lib.hid (HC.out.trans hc2 (by intro x hx; simp at hx; right; rw [hx]; exact HKs.out))
      have hE := of_int n c
      rw [step_form n c] at hE
      clear hs2 hc2
      simp only []
      go_wp2
      go_roundw
      case rel => exact ⟨k + 1, by omega, by go_num, by rw [HN.out], HK2.out, HC2.out⟩
      case measure => simp [intOf]; omega
    · obtain rfl : k = bs.length := by omega
      rw [List.take_length]
      have HC := Lib.hid hc
      clear hc
      go_wp2
      go_ret
      exact ⟨rfl, HC.out⟩

theorem sealB (w : World) (n : BitVec 24) :
    IsB (w.alloc (.cells #[.int .u8 ((n.toNat : Int) / 65536), .int .u8 ((n.toNat : Int) / 256 % 256), .int .u8 ((n.toNat : Int) % 256)] 5)) 5 (.slice (some ⟨w.heap.size, 0, none⟩) 3 3) (sealBytes n) := by
  have hn : n.toNat < 16777216 := n.isLt
  refine ⟨_, 3, rfl, Nat.le_refl _, by decide, (fun e => by cases e), fun _ => ⟨_, 0, _, _, rfl, heap_alloc_new _ _, fun i c hi => ?_⟩⟩
  unfold sealBytes at hi
  match i with
  | 0 =>
    simp at hi; subst hi
    simp [u8, UInt8.toNat_ofNat']; omega
  | 1 => simp at hi; subst hi; simp [u8, UInt8.toNat_ofNat']
  | 2 => simp at hi; subst hi; simp [u8, UInt8.toNat_ofNat']
  | i + 3 => simp at hi

set_option maxRecDepth 100000 in
set_option maxHeartbeats 800000 in
theorem Put_calls (T : TypeId) (v : Value) (bs : List UInt8) (w : World) (h : IsB w T v bs) (hlen : bs.length ≤ 1099511627776) :
    Calls Try.prog 55 #[v] w fun e w' => ∃ v', e = .returned v' ∧ OwnB w' w.heap.size v' (putSeal bs) ∧ Chg [] w w' := by
  obtain ⟨ao, cap, rfl, hl, hm, hz, -⟩ := h.cells
  unfold maxLen at hm
  have HB := Lib.hid h
  have HO := Lib.hid (Of_calls T _ bs w h)
  clear h hz
  obtain ⟨B, hB⟩ : ∃ B, w.heap.size = B := ⟨_, rfl⟩
  have HBs := Lib.hid hB
  rw [hB]
  clear hB
  go_enter Try.func55, Try.ntmps55
  go_wp2_with fail
  refine HO.out.mono ?_
  rintro e w1 ⟨rfl, hc1⟩
  have HC1 := Lib.hid hc1
  clear hc1
  obtain ⟨n, hn⟩ : ∃ n, crc bs = n := ⟨_, rfl⟩
  have HN := Lib.hid hn
  rw [hn]
  have hlt24 : n.toNat < 16777216 := n.isLt
  clear hn
  go_wp2_with (first | (at_make; refine wpList_bmake0 _ rfl _ _ rfl B _ (bs.length + 3) rfl rfl (by omega) (by omega) (by rw [← HBs.out]; exact HC1.out.size) ?_; intro w2 hown hch) | (at_builtin; refine wpList_bappend rfl (.tmp 9) (.tmp 10) rfl B _ [] rfl hown T _ bs rfl (HB.out.then (HC1.out.then hch)) (by simp; omega) (by rw [← HBs.out]; exact (HC1.out.then hch).size) ?_; intro v3 w3 hown3 hch3 hwh3) | (at_builtin; refine wpList_bappend rfl (.tmp 11) (.tmp 20) rfl B _ _ rfl (hown3.then ((Chg.refl [] w3).alloc _)) 5 _ _ rfl (sealB w3 n) (by simp [sealBytes]; omega) (by rw [World.size_alloc, ← HBs.out]; exact Nat.le_succ_of_le (Nat.le_trans (HC1.out.then hch).size hch3.size)) ?_; intro v4 w4 hown4 hch4 hwh4))
  go_ret
  refine ⟨_, rfl, ?_, ?_⟩
  · rw [putSeal, HN.out]
    simpa using hown4
  · have hb : w.heap.size ≤ B := by rw [HBs.out]; exact Nat.le_refl _
    exact (((HC1.out.then hch).trans hch3 (hown.rows hb)).alloc _).trans hch4 ((hown3.rows hb))

set_option maxRecDepth 100000 in
set_option maxHeartbeats 800000 in
theorem Open_calls (T : TypeId) (v : Value) (bs : List UInt8) (w : World) (h : IsB w T v bs) (hlen : bs.length ≤ 1099511627776) :
    Calls Try.prog 52 #[v] w fun e w' => ∃ v' ok, e = .returned (.tuple #[v', .bool ok]) ∧ (ok = true → isSealed bs ∧ OwnB w' w.heap.size v' (bs.take (bs.length - 3))) ∧ (ok = false → ¬ isSealed bs ∧ v' = .slice none 0 0) ∧ Chg [] w w' := by
  obtain ⟨ao, cap, rfl, hl, hm, hz, -⟩ := h.cells
  unfold maxLen at hm
  by_cases h3 : 3 ≤ bs.length
  · have hsub : ((bs.length : Int) - 3) = ((bs.length - 3 : Nat) : Int) := by omega
    have ht := h.take (bs.length - 3) (by omega)
    have HB := Lib.hid h
    have HT := Lib.hid ht
    have HP := Lib.hid (Put_calls T _ _ w ht (by rw [List.length_take]; omega))
    clear h ht hz
    go_enter Try.func52, Try.ntmps52
    have hneg : decide (((bs.length - 3 : Nat) : Int) < 0) = false := by simp
    go_wp2_with fail
    refine HP.out.mono ?_
    rintro e w1 ⟨p, rfl, hp, hc1⟩
    have HE := Lib.hid (Equal_calls 5 T p _ _ _ w1 hp.isB (HB.out.then hc1))
    have HC1 := Lib.hid hc1
    clear hp hc1
    go_wp2_with fail
    refine HE.out.mono ?_
    rintro e w2 ⟨rfl, hc2⟩
    have HC2 := Lib.hid (HC1.out.then hc2)
    clear hc2
    simp only []
    by_cases hq : putSeal (bs.take (bs.length - 3)) = bs
    · rw [decide_eq_true hq]
      have HQ := Lib.hid hq
      have HCl := Lib.hid (Clone_calls T _ _ w2 (HT.out.then HC2.out) (by rw [List.length_take]; omega))
      clear hq
      go_wp2_with fail
      refine HCl.out.mono ?_
      rintro e w3 ⟨v', rfl, hv, hc3⟩
      have HC3 := Lib.hid (HC2.out.then hc3)
      have HV := Lib.hid (hv.mono HC2.out.size)
      clear hv hc3
      go_wp2
      go_ret2
      exact ⟨v', true, rfl, fun _ => ⟨⟨h3, HQ.out⟩, HV.out⟩, (fun h => by cases h), HC3.out⟩
    · rw [decide_eq_false hq]
      have HQ := Lib.hid hq
      clear hq
      go_wp2
      go_ret2
      exact ⟨.slice none 0 0, false, rfl, (fun h => by cases h), fun _ => ⟨fun h => HQ.out h.2, rfl⟩, HC2.out⟩
  · have hneg : ((bs.length : Int) - 3) < 0 := by omega
    clear h hz
    go_enter Try.func52, Try.ntmps52
    go_wp2
    go_ret2
    exact ⟨.slice none 0 0, false, rfl, (fun h => by cases h), fun _ => ⟨fun h => h3 h.1, rfl⟩, Chg.refl _ _⟩
end Go.Proofs.Ytgmgmjljjbcgjaa

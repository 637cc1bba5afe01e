/- RecordTurned: its walk. -/
import Derived.Test.YtgmgmjljjbcgjaaTurnLaw
import Derived.Test.YtgmgmjljjbcgjaaRecordTornW
import Derived.Test.YtgmgmjljjbcgjaaSealTurnedW
namespace Go.Proofs.Ytgmgmjljjbcgjaa
open Go Go.RowKit NSX

set_option maxRecDepth 100000 in
set_option maxHeartbeats 1000000 in
theorem RecordTurned_calls (u : Value) (ss : List ByteArray) (blk at_ turn : Nat) (hblk : blk < 18446744073709551616) (hat : at_ < 18446744073709551616) (hturn : turn < 4294967296) (w : World) (hu : StrsAt w u ss) :
    Calls Try.prog 21 #[u, .int .u64 blk, .int .u64 at_, .int .u32 turn] w fun e w' => e = .returned (.bool true) ∧ Chg [] w w' := by
  have hu2 := hu
  obtain ⟨uo, ucap, rfl, hul, hum, -⟩ := hu2
  unfold maxLen at hum
  have HU := Lib.hid hu
  clear hu
  go_enter Try.func21, Try.ntmps21
  go_wp2_with fail
  refine (awake7_calls _).mono ?_
  rintro e w1 ⟨rfl, hc1⟩
  have HC1 := Lib.hid hc1
  clear hc1
  simp only []
  go_wp2_with fail
  refine (laid_calls _ ss _ (HU.out.then HC1.out)).mono ?_
  rintro e w2 ⟨bv, ok, rfl, hok, hc2⟩
  have HC2 := Lib.hid (HC1.out.then hc2)
  have HSz := Lib.hid HC1.out.size
  clear hc2
  obtain ⟨t, ht⟩ : ∃ t : Nat, turn % 16777216 = t := ⟨_, rfl⟩
  have htl : t < 16777216 := by omega
  have hmask : bits BinOp.and IntKind.u32 (turn : Int) 16777215 = (t : Int) := by
    have := bits_and_u32 turn 16777215 hturn (by omega)
    rw [and_mask, ht] at this
    exact this
  clear ht
  cases ok with
  | false =>
    clear hok
    go_wp2
    go_ret
    exact ⟨rfl, HC2.out⟩
  | true =>
    obtain ⟨h50, hall, hb⟩ := hok rfl
    have hlen := laidB_length ss
    have hn50 : nAll (asBytes ss) ≤ 18 * (asBytes ss).length := nAll_le _ (asBytes_short hall)
    rw [show (asBytes ss).length = ss.length from by simp [asBytes]] at hn50
    obtain ⟨N, hN⟩ : ∃ N, nAll (asBytes ss) = N := ⟨_, rfl⟩
    rw [hN] at hlen hn50
    by_cases h0 : N = 0
    · obtain ⟨bo, bcap, rfl, hbc, hbm, -, -⟩ := hb.isB.cells
      rw [hlen, h0]
      clear hok hb hall hlen
      go_wp2
      go_ret
      exact ⟨rfl, HC2.out⟩
    · obtain ⟨g, bcap, rfl, hg, hbc, hbm⟩ := hb.at (by intro h; rw [h] at hlen; simp at hlen; omega)
      rw [hlen] at hb hbc ⊢
      have HB := Lib.hid hb
      have HLen := Lib.hid hlen
      have HN := Lib.hid hN
      have HAll := Lib.hid hall
      clear hok hb hall hlen hN
      have hN0 : ((64 * (N : Int)) == 0) = false := by simp; omega
      by_cases ht0 : t = 0
      · have ht0i : ((t : Int) == 0) = true := by simp [ht0]
        go_wp2
        go_ret
        exact ⟨rfl, HC2.out⟩
      have ht0i : ((t : Int) == 0) = false := by simp; omega
      obtain ⟨k, hk⟩ : ∃ k : Nat, blk % N = k := ⟨_, rfl⟩
      have hkN : k < N := by have := Nat.mod_lt blk (show 0 < N by omega); omega
      have hk1 : ((blk : Int) % (N : Int)) = (k : Int) := by rw [← hk, Int.natCast_emod]
      obtain ⟨p, hp⟩ : ∃ p : Nat, at_ % 489 = p := ⟨_, rfl⟩
      have hp489 : p < 489 := by omega
      have hp1 : ((at_ : Int) % 489) = (p : Int) := by omega
      obtain ⟨K, hK⟩ : ∃ K : Nat, K = 512 * k + p := ⟨_, rfl⟩
      have hK1 : (512 * (k : Int) + (p : Int)) = (K : Int) := by omega
      have hKl : K + 24 ≤ 512 * N := by omega
      have HK := Lib.hid hK
      have HK1 := Lib.hid hK1
      have HKl := Lib.hid hKl
      clear hk hp hK hK1 hKl
      have hgw : w.heap.size ≤ g := Nat.le_trans HSz.out hg
      go_wp2_with fail
      rw [HK1.out]
      have hKl := HKl.out
      go_loopw [13] (fun i wr => ∃ m : Nat, m ≤ 24 ∧ i = .int .i64 m ∧ OwnB wr w1.heap.size (.slice (some ⟨g, 0, none⟩) (64 * N) bcap) (flips K t m (laidB ss)) ∧ Chg [] w wr) (fun i _ => 24 - (intOf i).toNat)
      case atStart => exact ⟨0, by omega, rfl, HB.out, HC2.out⟩
      case round =>
        obtain ⟨m, hm, rfl, ho, hc⟩ := hrel
        by_cases hlt : m < 24
        · have hi2 : (m : Int) < 24 := by omega
          have HO := Lib.hid ho
          have HC := Lib.hid hc
          clear ho hc
          have hbit := bit_int t m htl hlt
          cases hb49 : t.testBit (23 - m) with
          | true =>
            rw [hb49] at hbit
            have hp8 : (K + m) / 8 < 64 * N := by omega
            have hp8i : ((K : Int) + (m : Int)) / 8 < 64 * (N : Int) := by omega
            obtain ⟨hcell, hfr⟩ := HO.out.cell ((K + m) / 8) (by rw [flips_length, HLen.out]; exact hp8)
            obtain ⟨c, hc⟩ : ∃ c, (flips K t m (laidB ss)).getD ((K + m) / 8) 0 = c := ⟨_, rfl⟩
            rw [hc] at hcell
            have HCc := Lib.hid hc
            clear hc
            go_wp2
            rw [turn_int c ((K + m) % 8) (by omega)]
            have hst := HO.out.stored ((K + m) / 8) (c ^^^ UInt8.ofNat (128 >>> ((K + m) % 8)))
            have hch := HC.out.setCell (p := ⟨g, (K + m) / 8, none⟩) (.inr hgw) (u8 (c ^^^ UInt8.ofNat (128 >>> ((K + m) % 8))))
            have e : (flips K t m (laidB ss)).set ((K + m) / 8) (c ^^^ UInt8.ofNat (128 >>> ((K + m) % 8))) = flips K t (m + 1) (laidB ss) := by
              rw [flips, hb49, if_pos rfl, ← HCc.out, flipBit_set _ _ (by rw [flips_length, HLen.out]; exact hp8)]
            rw [e] at hst
            go_roundw
            case rel => exact ⟨m + 1, by omega, by go_num, hst, hch⟩
            case measure => simp [intOf]; omega
          | false =>
            rw [hb49] at hbit
            go_wp2
            go_roundw
            case rel =>
              refine ⟨m + 1, by omega, by go_num, ?_, HC.out⟩
              have e : flips K t (m + 1) (laidB ss) = flips K t m (laidB ss) := by rw [flips, hb49]; rfl
              rw [e]; exact HO.out
            case measure => simp [intOf]; omega
        · obtain rfl : m = 24 := by omega
          have htl2 : (flips K t 24 (laidB ss)).length = 64 * N := by rw [flips_length, HLen.out]
          have HR := Lib.hid (Read_bytes 5 _ _ wr ho.isB (by rw [htl2]; omega))
          have HC := Lib.hid hc
          clear ho hc htl2
          have hkN2 : k < nAll (asBytes ss) := by rw [HN.out]; exact hkN
          obtain ⟨m, hm, hread, hMk, s, hs, hks⟩ := turned_read ss HAll.out k p t (by omega) ht0 htl hkN2
          rw [← HK.out] at hread
          have hR2 := HR.out
          rw [hread] at hR2
          have HR2 := Lib.hid hR2
          have HS := Lib.hid hs
          clear HR hR2 hread
          go_wp2_with fail
          refine HR2.out.mono ?_
          rintro e w5 ⟨pv, rfl, hp5, hc5⟩
          obtain ⟨po, pcap, rfl⟩ := hp5.slice
          have HC5 := Lib.hid (HC.out.then hc5)
          have hlm : (asBytes (ss.take m)).length = m := by simp [asBytes]; omega
          have HP5 := Lib.hid hp5
          rw [hlm]
          clear hc5 hp5
          go_wp2_with fail
          go_loopw [16, 17] (fun i x wq => ∃ r : Nat, r ≤ m ∧ i = .int .i64 r ∧ x = .int .i64 (nAll (asBytes (ss.take r)) : Nat) ∧ Chg [] w wq ∧ Chg [] w5 wq) (fun i _ _ => m + 1 - (intOf i).toNat)
          case atStart => exact ⟨0, by omega, rfl, rfl, HC5.out, Chg.refl _ _⟩
          case round =>
            obtain ⟨r, hr, rfl, rfl, hcq, hc5q⟩ := hrel
            have hrs : r < ss.length := by omega
            obtain ⟨sr, hsr⟩ : ∃ sr, ss[r]? = some sr := ⟨_, List.getElem?_eq_getElem hrs⟩
            obtain ⟨ao, cap', hv, h1, h2, h3⟩ := HU.out.then hcq
            simp only [Value.slice.injEq] at hv
            obtain ⟨rfl, -, rfl⟩ := hv
            obtain ⟨a, rfl, hx⟩ := h3 r sr hsr
            have hszr : sr.size ≤ 1000 := HAll.out sr (List.mem_of_getElem? hsr)
            have hnb : nBlocks sr.size ≤ 600 := by unfold nBlocks; omega
            have HBl := Lib.hid (Blocks_calls sr.size wr (by omega))
            have hlt : (r : Int) < (ss.length : Int) := by omega
            have hsucc := nAll_take_succ ss r sr hsr
            have hle0 := nAll_mono ss r m hr
            have HCq := Lib.hid hcq
            have HC5q := Lib.hid hc5q
            clear h3 hcq hc5q
            by_cases hrm : r < m
            · have hle1 := nAll_mono ss (r + 1) m (by omega)
              have hki : ((nAll (asBytes (ss.take r)) : Int) + (nBlocks sr.size : Int)) ≤ (k : Int) := by omega
              go_wp2_with (go_at_call 64; refine HBl.out.mono ?_; rintro e w7 ⟨rfl, rfl⟩)
              go_roundw
              case rel => exact ⟨r + 1, by omega, by go_num, by rw [hsucc]; go_num, HCq.out, HC5q.out⟩
              case measure => simp [intOf]; omega
            · obtain rfl : r = m := by omega
              have hss : sr = s := by have := HS.out; rw [hsr] at this; simpa using this
              subst hss
              have hki : ¬ ((nAll (asBytes (ss.take r)) : Int) + (nBlocks sr.size : Int)) ≤ (k : Int) := by omega
              have hl6 := HP5.out.chg HC5q.out (by simp)
              have hstr : StrsAt wr (.slice (some a) r ucap) (ss.take r) := by
                obtain ⟨ao, cap', hv, h1, h2, h3⟩ := HU.out.then HCq.out
                simp only [Value.slice.injEq] at hv
                obtain ⟨rfl, -, rfl⟩ := hv
                have hl : (ss.take r).length = r := by rw [List.length_take]; omega
                refine ⟨some a, ucap, by rw [hl], by rw [hl]; omega, h2, fun i s hi => ?_⟩
                have hlt : i < r := by have := (List.getElem?_eq_some_iff.1 hi).1; omega
                rw [List.getElem?_take, if_pos hlt] at hi
                exact h3 i s hi
              have hT := texts_calls _ _ _ _ _ (ss.take r) wr hl6 hstr
              rw [hlm] at hT
              have HT2 := Lib.hid hT
              have hmi : ((r : Int) ≤ (ucap : Int)) := by omega
              clear hT hl6 hstr
              go_wp2_with (go_at_call 64; refine HBl.out.mono ?_; rintro e w7 ⟨rfl, rfl⟩)
              refine HT2.out.mono ?_
              rintro e w8 ⟨rfl, hc8⟩
              have HC8 := Lib.hid (HCq.out.then hc8)
              clear hc8
              simp only []
              go_wp2_with fail
              go_ret
              exact ⟨rfl, HC8.out⟩
end Go.Proofs.Ytgmgmjljjbcgjaa

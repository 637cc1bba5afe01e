/- RecordTorn: its walk. -/
import Derived.Test.YtgmgmjljjbcgjaaTornLaw
namespace Go.Proofs.Ytgmgmjljjbcgjaa
open Go Go.RowKit NSX

/-- The torn block, and what the whole is read as. -/
theorem torn_read (ss : List ByteArray) (h : ∀ s ∈ ss, s.size ≤ 1000) (k q : Nat) (hq : q < 64) (hk : k < nAll (asBytes ss)) (hl : (laidB ss).length = 64 * nAll (asBytes ss)) (b' : List UInt8)
    (hb : b' = (laidB ss).take (64 * k + q) ++ (List.replicate (64 - q) 0 ++ (laidB ss).drop (64 * k + 64))) :
    ∃ m, m < ss.length ∧ readB b' = (asBytes (ss.take m), nAll (asBytes (ss.take m))) ∧ nAll (asBytes (ss.take m)) ≤ k ∧ ∃ s, ss[m]? = some s ∧ k < nAll (asBytes (ss.take m)) + nBlocks s.size := by
  have hx : ((((laidB ss).drop (64 * k)).take 64).take q ++ List.replicate (64 - q) (0 : UInt8)).length = 64 := by simp; omega
  obtain ⟨m, h1, h2, h3, h4⟩ := bad_law ss h k _ hx hk (torn_none _ q (by omega))
  refine ⟨m, h1, ?_, h3, h4⟩
  rw [← h2, hb]
  congr 1
  rw [List.take_add, List.append_assoc, List.append_assoc, List.take_take, Nat.min_eq_left (by omega)]
  rfl
theorem nAll_take_succ (ss : List ByteArray) (q : Nat) (s : ByteArray) (h : ss[q]? = some s) : nAll (asBytes (ss.take (q + 1))) = nAll (asBytes (ss.take q)) + nBlocks s.size := by
  unfold asBytes
  rw [List.take_add_one, h, List.map_append, ← str_len]
  unfold nAll
  rw [List.map_append, List.sum_append]
  rfl
/-- The bytes with some set to 0. -/
def torn (b : List UInt8) (k q j : Nat) : List UInt8 := b.take (64 * k + q) ++ (List.replicate (j - q) 0 ++ b.drop (64 * k + j))
theorem torn_length (b : List UInt8) (k q j : Nat) (h1 : q ≤ j) (h2 : 64 * k + j ≤ b.length) : (torn b k q j).length = b.length := by
  simp [torn]; omega
theorem torn_zero (b : List UInt8) (k q : Nat) : torn b k q q = b := by simp [torn]
theorem torn_step (b : List UInt8) (k q j : Nat) (h1 : q ≤ j) (h2 : 64 * k + j < b.length) : (torn b k q j).set (64 * k + j) 0 = torn b k q (j + 1) := by
  unfold torn
  have hd : b.drop (64 * k + j) = b[64 * k + j]'h2 :: b.drop (64 * k + (j + 1)) := by rw [List.drop_eq_getElem_cons h2]; rfl
  have e1 : j + 1 - q = (j - q) + 1 := by omega
  have hl : (b.take (64 * k + q)).length = 64 * k + q := by rw [List.length_take]; omega
  rw [hd, List.set_append_right _ _ (by omega), hl, List.set_append_right _ _ (by simp; omega), List.length_replicate]
  have e2 : 64 * k + j - (64 * k + q) - (j - q) = 0 := by omega
  rw [e2, List.set_cons_zero, e1, List.replicate_succ', List.append_assoc]
  rfl
theorem nAll_mono (ss : List ByteArray) (q : Nat) : ∀ m, q ≤ m → nAll (asBytes (ss.take q)) ≤ nAll (asBytes (ss.take m))
  | 0, h => by have : q = 0 := by omega
               subst this; exact Nat.le_refl _
  | m + 1, h => by
    by_cases he : q = m + 1
    · subst he; exact Nat.le_refl _
    · refine Nat.le_trans (nAll_mono ss q m (by omega)) ?_
      cases hs : ss[m]? with
      | none => rw [List.take_add_one, hs]; simp
      | some s => rw [nAll_take_succ ss m s hs]; omega

set_option maxRecDepth 100000 in
set_option maxHeartbeats 1000000 in
theorem RecordTorn_calls (u : Value) (ss : List ByteArray) (blk part : Nat) (hblk : blk < 18446744073709551616) (hpart : part < 256) (w : World) (hu : StrsAt w u ss) :
    Calls Try.prog 20 #[u, .int .u64 blk, .int .u8 part] w fun e w' => e = .returned (.bool true) ∧ Chg [] w w' := by
  have hu2 := hu
  obtain ⟨uo, ucap, rfl, hul, hum, -⟩ := hu2
  unfold maxLen at hum
  have HU := Lib.hid hu
  clear hu
  go_enter Try.func20, Try.ntmps20
  go_wp2_with fail
  refine (awake7_calls _).mono ?_
  rintro e w1 ⟨rfl, hc1⟩
  have HC1 := Lib.hid hc1
  clear hc1
  simp only []
  go_wp2_with fail
  refine (laid_calls _ ss _ (HU.out.then HC1.out)).mono ?_
  rintro e w2 ⟨bv, ok, rfl, hok, hc2⟩
  have HC2 := Lib.hid (HC1.out.then hc2)
  have HSz := Lib.hid HC1.out.size
  clear hc2
  cases ok with
  | false =>
    clear hok
    go_wp2
    go_ret
    exact ⟨rfl, HC2.out⟩
  | true =>
    obtain ⟨h50, hall, hb⟩ := hok rfl
    have hlen := laidB_length ss
    have hn50 : nAll (asBytes ss) ≤ 18 * (asBytes ss).length := nAll_le _ (asBytes_short hall)
    rw [show (asBytes ss).length = ss.length from by simp [asBytes]] at hn50
    obtain ⟨N, hN⟩ : ∃ N, nAll (asBytes ss) = N := ⟨_, rfl⟩
    rw [hN] at hlen hn50
    by_cases h0 : N = 0
    · obtain ⟨bo, bcap, rfl, hbc, hbm, -, -⟩ := hb.isB.cells
      rw [hlen, h0]
      clear hok hb hall hlen
      go_wp2
      go_ret
      exact ⟨rfl, HC2.out⟩
    · obtain ⟨g, bcap, rfl, hg, hbc, hbm⟩ := hb.at (by intro h; rw [h] at hlen; simp at hlen; omega)
      rw [hlen] at hb hbc ⊢
      have HB := Lib.hid hb
      have HLen := Lib.hid hlen
      have HN := Lib.hid hN
      have HAll := Lib.hid hall
      clear hok hb hall hlen hN
      obtain ⟨k, hk⟩ : ∃ k : Nat, blk % N = k := ⟨_, rfl⟩
      have hkN : k < N := by have := Nat.mod_lt blk (show 0 < N by omega); omega
      have hk1 : ((blk : Int) % (N : Int)) = (k : Int) := by rw [← hk, Int.natCast_emod]
      obtain ⟨q, hq⟩ : ∃ q : Nat, part % 64 = q := ⟨_, rfl⟩
      have hq64 : q < 64 := by omega
      have hq1 : ((part : Int) % 64) = (q : Int) := by omega
      clear hk hq
      have hgw : w.heap.size ≤ g := Nat.le_trans HSz.out hg
      go_wp2_with fail
      go_loopw [10] (fun i wr => ∃ j : Nat, q ≤ j ∧ j ≤ 64 ∧ i = .int .i64 ((k : Int) * 64 + j) ∧ OwnB wr w1.heap.size (.slice (some ⟨g, 0, none⟩) (64 * N) bcap) (torn (laidB ss) k q j) ∧ Chg [] w wr) (fun i _ => 64 * k + 64 - (intOf i).toNat)
      case atStart => exact ⟨q, Nat.le_refl _, by omega, by go_num, by rw [torn_zero]; exact HB.out, HC2.out⟩
      case round =>
        obtain ⟨j, hj1, hj2, rfl, ho, hc⟩ := hrel
        by_cases hlt : j < 64
        · have hi2 : ((k : Int) * 64 + (j : Int)) < ((k : Int) + 1) * 64 := by omega
          have hi3 : ((k : Int) * 64 + (j : Int)) < 64 * (N : Int) := by omega
          obtain ⟨hcell, hfr⟩ := ho.cell (64 * k + j) (by rw [torn_length _ _ _ _ hj1 (by rw [HLen.out]; omega), HLen.out]; omega)
          have hst := ho.stored (64 * k + j) 0
          rw [torn_step _ _ _ _ hj1 (by rw [HLen.out]; omega)] at hst
          have hch := hc.setCell (p := ⟨g, 64 * k + j, none⟩) (.inr hgw) (u8 0)
          rw [Nat.mul_comm 64 k] at hcell hfr hst hch
          have HSt := Lib.hid hst
          have HCh := Lib.hid hch
          clear ho hc hst hch
          go_wp2
          go_roundw
          case rel => exact ⟨j + 1, by omega, by omega, by go_num, HSt.out, HCh.out⟩
          case measure => simp [intOf]; omega
        · obtain rfl : j = 64 := by omega
          have htl : (torn (laidB ss) k q 64).length = 64 * N := by rw [torn_length _ _ _ _ hj1 (by rw [HLen.out]; omega), HLen.out]
          have HR := Lib.hid (Read_bytes 5 _ _ wr ho.isB (by rw [htl]; omega))
          have HC := Lib.hid hc
          have hi2 : ¬ ((k : Int) * 64 + (64 : Int)) < ((k : Int) + 1) * 64 := by omega
          clear ho hc htl
          have hkN2 : k < nAll (asBytes ss) := by rw [HN.out]; exact hkN
          obtain ⟨m, hm, hread, hMk, s, hs, hks⟩ := torn_read ss HAll.out k q hq64 hkN2 (laidB_length ss) (torn (laidB ss) k q 64) rfl
          have hR2 := HR.out
          rw [hread] at hR2
          have HR2 := Lib.hid hR2
          have HS := Lib.hid hs
          clear HR hR2 hread
          go_wp2_with fail
          refine HR2.out.mono ?_
          rintro e w5 ⟨pv, rfl, hp5, hc5⟩
          obtain ⟨po, pcap, rfl⟩ := hp5.slice
          have HC5 := Lib.hid (HC.out.then hc5)
          have hlm : (asBytes (ss.take m)).length = m := by simp [asBytes]; omega
          have HP5 := Lib.hid hp5
          rw [hlm]
          clear hc5 hp5
          go_wp2_with fail
          go_loopw [13, 14] (fun i x wq => ∃ r : Nat, r ≤ m ∧ i = .int .i64 r ∧ x = .int .i64 (nAll (asBytes (ss.take r)) : Nat) ∧ Chg [] w wq ∧ Chg [] w5 wq) (fun i _ _ => m + 1 - (intOf i).toNat)
          case atStart => exact ⟨0, by omega, rfl, rfl, HC5.out, Chg.refl _ _⟩
          case round =>
            obtain ⟨r, hr, rfl, rfl, hcq, hc5q⟩ := hrel
            have hrs : r < ss.length := by omega
            obtain ⟨sr, hsr⟩ : ∃ sr, ss[r]? = some sr := ⟨_, List.getElem?_eq_getElem hrs⟩
            obtain ⟨ao, cap', hv, h1, h2, h3⟩ := HU.out.then hcq
            simp only [Value.slice.injEq] at hv
            obtain ⟨rfl, -, rfl⟩ := hv
            obtain ⟨a, rfl, hx⟩ := h3 r sr hsr
            have hszr : sr.size ≤ 1000 := HAll.out sr (List.mem_of_getElem? hsr)
            have hnb : nBlocks sr.size ≤ 600 := by unfold nBlocks; omega
            have HBl := Lib.hid (Blocks_calls sr.size wr (by omega))
            have hlt : (r : Int) < (ss.length : Int) := by omega
            have hsucc := nAll_take_succ ss r sr hsr
            have hle0 := nAll_mono ss r m hr
            have HCq := Lib.hid hcq
            have HC5q := Lib.hid hc5q
            clear h3 hcq hc5q
            by_cases hrm : r < m
            · have hle1 := nAll_mono ss (r + 1) m (by omega)
              have hki : ((nAll (asBytes (ss.take r)) : Int) + (nBlocks sr.size : Int)) ≤ (k : Int) := by omega
              go_wp2_with (go_at_call 64; refine HBl.out.mono ?_; rintro e w7 ⟨rfl, rfl⟩)
              go_roundw
              case rel => exact ⟨r + 1, by omega, by go_num, by rw [hsucc]; go_num, HCq.out, HC5q.out⟩
              case measure => simp [intOf]; omega
            · obtain rfl : r = m := by omega
              have hss : sr = s := by have := HS.out; rw [hsr] at this; simpa using this
              subst hss
              have hki : ¬ ((nAll (asBytes (ss.take r)) : Int) + (nBlocks sr.size : Int)) ≤ (k : Int) := by omega
              have hl6 := HP5.out.chg HC5q.out (by simp)
              have hstr : StrsAt wr (.slice (some a) r ucap) (ss.take r) := by
                obtain ⟨ao, cap', hv, h1, h2, h3⟩ := HU.out.then HCq.out
                simp only [Value.slice.injEq] at hv
                obtain ⟨rfl, -, rfl⟩ := hv
                have hl : (ss.take r).length = r := by rw [List.length_take]; omega
                refine ⟨some a, ucap, by rw [hl], by rw [hl]; omega, h2, fun i s hi => ?_⟩
                have hlt : i < r := by have := (List.getElem?_eq_some_iff.1 hi).1; omega
                rw [List.getElem?_take, if_pos hlt] at hi
                exact h3 i s hi
              have hT := texts_calls _ _ _ _ _ (ss.take r) wr hl6 hstr
              rw [hlm] at hT
              have HT2 := Lib.hid hT
              have hmi : ((r : Int) ≤ (ucap : Int)) := by omega
              clear hT hl6 hstr
              go_wp2_with (go_at_call 64; refine HBl.out.mono ?_; rintro e w7 ⟨rfl, rfl⟩)
              refine HT2.out.mono ?_
              rintro e w8 ⟨rfl, hc8⟩
              have HC8 := Lib.hid (HCq.out.then hc8)
              clear hc8
              simp only []
              go_wp2_with fail
              go_ret
              exact ⟨rfl, HC8.out⟩
end Go.Proofs.Ytgmgmjljjbcgjaa

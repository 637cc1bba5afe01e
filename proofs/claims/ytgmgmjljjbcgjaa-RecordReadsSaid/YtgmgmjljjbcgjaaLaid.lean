/- The laws of records: laid. -/
import Derived.Test.YtgmgmjljjbcgjaaTexts
namespace Go.Proofs.Ytgmgmjljjbcgjaa
open Go Go.RowKit NSX

/-- Bodies' blocks, one behind the other. -/
def laidB (ss : List ByteArray) : List UInt8 := (asBytes ss).flatMap cutB
theorem laidB_step (ss : List ByteArray) (k : Nat) (s : ByteArray) (h : ss[k]? = some s) : laidB (ss.take (k + 1)) = laidB (ss.take k) ++ cutB s.data.toList := by
  unfold laidB asBytes
  rw [List.take_add_one, h, List.map_append, List.flatMap_append]
  simp

set_option maxRecDepth 100000 in
set_option maxHeartbeats 800000 in
theorem laid_calls (u : Value) (ss : List ByteArray) (w : World) (hu : StrsAt w u ss) :
    Calls Try.prog 61 #[u] w fun e w' => ∃ v' ok, e = .returned (.tuple #[v', .bool ok]) ∧ (ok = true → ss.length ≤ 50 ∧ (∀ s ∈ ss, s.size ≤ 1000) ∧ OwnB w' w.heap.size v' (laidB ss)) ∧ Chg [] w w' := by
  obtain ⟨bo, bcap, rfl, hbl, hbm, hbs⟩ := hu
  unfold maxLen at hbm
  have HS := Lib.hid hbs
  clear hbs
  by_cases h50 : ss.length ≤ 50
  · have h50i : ¬ (50 : Int) < (ss.length : Int) := by omega
    obtain ⟨B, hB⟩ : ∃ B, w.heap.size = B := ⟨_, rfl⟩
    have HBs := Lib.hid hB
    rw [hB]
    clear hB
    go_enter Try.func61, Try.ntmps61
    go_wp2
    go_loopw [13, 4] (fun i o wr => ∃ k : Nat, k ≤ ss.length ∧ i = .int .i64 k ∧ OwnB wr B o (laidB (ss.take k)) ∧ (∀ s ∈ ss.take k, s.size ≤ 1000) ∧ (laidB (ss.take k)).length ≤ 64 * 20 * k ∧ Chg [] w wr) (fun i _ _ => ss.length - (intOf i).toNat)
    case atStart => exact ⟨0, by omega, rfl, by rw [← HBs.out]; exact OwnB.nil w _, by simp, by simp [laidB, asBytes], Chg.refl _ _⟩
    case round =>
      obtain ⟨k, hk, rfl, ho, hall, hln, hc⟩ := hrel
      by_cases hlt : k < ss.length
      · have hi2 : (k : Int) < (ss.length : Int) := by omega
        obtain ⟨s, hs⟩ : ∃ s, ss[k]? = some s := ⟨_, List.getElem?_eq_getElem hlt⟩
        obtain ⟨a, rfl, ha⟩ := HS.out k s hs
        have ha2 := hc.cell ha (by simp)
        have hstep := laidB_step ss k s hs
        have htk : ss.take (k + 1) = ss.take k ++ [s] := by rw [List.take_add_one, hs]; rfl
        have HSt := Lib.hid (And.intro hstep htk)
        have HO := Lib.hid ho
        have HC := Lib.hid hc
        have HAll := Lib.hid hall
        clear hs ho hc hall hstep htk ha
        by_cases hbig : s.size ≤ 1000
        · have hbigi : ¬ (1000 : Int) < (s.size : Int) := by omega
          obtain ⟨cap2, w2, hr, hib, hc2, -⟩ := run_ofString wr s (by unfold maxLen; omega)
          have HC2 := Lib.hid (HC.out.then hc2)
          have HO2 := Lib.hid (HO.out.then hc2)
          have HIB := Lib.hid hib
          have hcl : (cutB s.data.toList).length ≤ 64 * 20 := by rw [cutB_length, str_len]; unfold nBlocks; omega
          clear hib hc2
          go_wp2_with fail
          refine (Cut_calls 5 _ _ _ HIB.out (by rw [str_len]; omega)).mono ?_
          rintro e w3 ⟨q, rfl, hq, hc3⟩
          have HC3 := Lib.hid (HC2.out.then hc3)
          have HO3 := Lib.hid (HO2.out.then hc3)
          have HQ := Lib.hid hq
          clear hq hc3
          go_wp2_with (at_builtin; refine wpList_bappend rfl (.tmp 33) (.tmp 34) rfl B _ _ rfl HO3.out 5 _ _ rfl HQ.out.isB (by omega) (by rw [← HBs.out]; exact HC3.out.size) ?_; intro v5 w5 hown5 hch5 hwh5)
          have HC5 := Lib.hid (HC3.out.trans hch5 (HO3.out.rows (by rw [HBs.out]; exact Nat.le_refl _)))
          have HO5 := Lib.hid hown5
          clear hown5 hch5 hwh5
          go_wp2
          go_roundw
          case rel =>
            refine ⟨k + 1, by omega, by go_num, by rw [HSt.out.1]; exact HO5.out, ?_, by rw [HSt.out.1, List.length_append]; omega, HC5.out⟩
            rw [HSt.out.2]
            intro x hx
            rcases List.mem_append.1 hx with h | h
            · exact HAll.out x h
            · simp at h; rw [h]; exact hbig
          case measure => simp [intOf]; omega
        · have hbigi : (1000 : Int) < (s.size : Int) := by omega
          go_wp2
          go_ret2
          exact ⟨_, false, rfl, (fun h => by cases h), HC.out⟩
      · obtain rfl : k = ss.length := by omega
        rw [List.take_length] at ho hall
        have HO := Lib.hid ho
        have HC := Lib.hid hc
        have HAll := Lib.hid hall
        clear ho hc hall
        go_wp2
        go_ret2
        exact ⟨_, true, rfl, fun _ => ⟨h50, HAll.out, HO.out⟩, HC.out⟩
  · have h50i : (50 : Int) < (ss.length : Int) := by omega
    go_enter Try.func61, Try.ntmps61
    go_wp2
    go_ret2
    exact ⟨_, false, rfl, (fun h => by cases h), Chg.refl _ _⟩
end Go.Proofs.Ytgmgmjljjbcgjaa

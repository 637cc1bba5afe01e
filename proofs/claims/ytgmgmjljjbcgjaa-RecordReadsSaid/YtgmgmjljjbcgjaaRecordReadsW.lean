/- RecordReads: its walk. -/
import Derived.Test.YtgmgmjljjbcgjaaRef7R
import Derived.Test.YtgmgmjljjbcgjaaRecordBackW
namespace Go.Proofs.Ytgmgmjljjbcgjaa
open Go Go.RowKit NSX

set_option maxRecDepth 100000 in
set_option maxHeartbeats 2000000 in
theorem RecordReads_calls (b : ByteArray) (w : World) :
    Calls Try.prog 15 #[.string b] w fun e w' => e = .returned (.bool true) ∧ Chg [] w w' := by
  go_enter Try.func15, Try.ntmps15
  go_wp2_with fail
  refine (awake7_calls _).mono ?_
  rintro e w1 ⟨rfl, hc1⟩
  have HC1 := Lib.hid hc1
  clear hc1
  simp only []
  by_cases hlen : b.size ≤ 10000
  · have hl : ¬ ((10000 : Int) < (b.size : Int)) := by omega
    obtain ⟨cap, w2, hr, hib, hc2, -⟩ := run_ofString w1 b (by unfold maxLen; omega)
    have HRd := Lib.hid (Read_bytes 5 _ b.data.toList w2 hib (by rw [str_len]; omega))
    have HC2 := Lib.hid (HC1.out.then hc2)
    clear hib hc2
    go_wp2_with fail
    refine HRd.out.mono ?_
    rintro e w3 ⟨v, rfl, hl3, hc3⟩
    obtain ⟨vo, vc, rfl⟩ := hl3.slice
    have HC3 := Lib.hid (HC2.out.then hc3)
    have HL3 := Lib.hid hl3
    have HRr := Lib.hid (rRead_calls b (by omega) w3)
    clear hl3 hc3 hr
    simp only []
    go_wp2_with fail
    refine HRr.out.mono ?_
    rintro e w4 ⟨u, ss, rfl, hss, ho4, hc4⟩
    obtain ⟨uo, uc, rfl, -, -, -⟩ := ho4.strs
    have HC4 := Lib.hid (HC3.out.then hc4)
    have ht := texts_calls _ _ _ _ _ ss w4 (HL3.out.chg hc4 (by simp)) ho4.strs
    rw [show decide ((readB b.data.toList).1 = asBytes ss) = true from decide_eq_true hss.symm] at ht
    have HT := Lib.hid ht
    obtain ⟨N, hN⟩ : ∃ N, (readB b.data.toList).2 = N := ⟨_, rfl⟩
    rw [hN]
    clear ht hss ho4 hc4 hN
    simp only []
    go_wp2_with fail
    refine HT.out.mono ?_
    rintro e w5 ⟨rfl, hc5⟩
    have HC5 := Lib.hid (HC4.out.then hc5)
    clear hc5
    simp only []
    go_wp2_with fail
    go_ret
    exact ⟨rfl, HC5.out⟩
  · have hl : ((10000 : Int) < (b.size : Int)) := by omega
    have HAw := Lib.hid (awake7_calls w1)
    go_wp2_with fail
    refine HAw.out.mono ?_
    rintro e w5 ⟨rfl, hc5⟩
    have HC5 := Lib.hid (HC1.out.then hc5)
    clear hc5
    go_wp2
    go_ret
    exact ⟨rfl, HC5.out⟩
end Go.Proofs.Ytgmgmjljjbcgjaa

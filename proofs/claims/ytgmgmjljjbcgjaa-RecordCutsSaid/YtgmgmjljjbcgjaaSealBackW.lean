/- SealBack: its walk. -/
import Derived.Test.YtgmgmjljjbcgjaaLaw2
namespace Go.Proofs.Ytgmgmjljjbcgjaa
open Go Go.RowKit NSX

theorem putSeal_length (l : List UInt8) : (putSeal l).length = l.length + 3 := by simp [putSeal, sealBytes]
theorem putSeal_take (l : List UInt8) : (putSeal l).take ((putSeal l).length - 3) = l := by
  rw [putSeal_length, Nat.add_sub_cancel, putSeal, List.take_append_of_le_length (Nat.le_refl _), List.take_length]
theorem putSeal_is (l : List UInt8) : isSealed (putSeal l) := ⟨by rw [putSeal_length]; omega, by rw [putSeal_take]⟩

/-- What was sealed is opened. -/
theorem Open_put (T : TypeId) (v : Value) (bs : List UInt8) (w : World) (h : IsB w T v (putSeal bs)) (hlen : bs.length ≤ 1099511000000) :
    Calls Try.prog 52 #[v] w fun e w' => ∃ v', e = .returned (.tuple #[v', .bool true]) ∧ OwnB w' w.heap.size v' bs ∧ Chg [] w w' := by
  refine (Open_calls T v _ w h (by rw [putSeal_length]; omega)).mono ?_
  rintro e w' ⟨v', ok, rfl, h1, h2, hc⟩
  cases ok with
  | true =>
    have := (h1 rfl).2
    rw [putSeal_take] at this
    exact ⟨v', rfl, this, hc⟩
  | false => exact absurd (putSeal_is bs) (h2 rfl).1

theorem max_size (b : ByteArray) (h : b.size ≤ 5000) : b.size ≤ maxLen := by unfold maxLen; omega

set_option maxRecDepth 100000 in
set_option maxHeartbeats 1000000 in
theorem SealBack_calls (b : ByteArray) (w : World) : Calls Try.prog 12 #[.string b] w fun e w' => e = .returned (.bool true) ∧ Chg [] w w' := by
  go_enter Try.func12, Try.ntmps12
  go_wp2_with fail
  refine (awake2_calls _).mono ?_
  rintro e w1 ⟨rfl, hc1⟩
  have HC1 := Lib.hid hc1
  clear hc1
  simp only []
  by_cases hb : b.size ≤ 5000
  · have hb2 : ¬ ((5000 : Int) < (b.size : Int)) := by omega
    obtain ⟨cap, w2, hr, hib, hc2, -⟩ := run_ofString w1 b (max_size b hb)
    have HC2 := Lib.hid (HC1.out.then hc2)
    have HIB := Lib.hid hib
    clear hib hc2
    go_wp2_with fail
    refine (Put_calls 5 _ _ _ HIB.out (by rw [str_len]; omega)).mono ?_
    rintro e w3 ⟨s, rfl, hs, hc3⟩
    have HC3 := Lib.hid (HC2.out.then hc3)
    obtain ⟨g, scap, rfl, -, hsc, -⟩ := hs.at (by intro h; have := congrArg List.length h; rw [putSeal_length] at this; simp at this)
    have hsl : (putSeal b.data.toList).length = b.size + 3 := by rw [putSeal_length, str_len]
    rw [hsl] at hs hsc ⊢
    have HS := Lib.hid hs
    clear hs hc3 hr
    go_wp2_with fail
    refine (Open_put 5 _ _ _ HS.out.isB (by rw [str_len]; omega)).mono ?_
    rintro e w4 ⟨v', rfl, hv, hc4⟩
    have HC4 := Lib.hid (HC3.out.then hc4)
    have hq := run_toString w4 5 _ _ hv.isB
    rw [strOf_of] at hq
    obtain ⟨cap5, w5, hr, hib, hc5, -⟩ := run_ofString w4 b (max_size b hb)
    have HC5 := Lib.hid (HC4.out.then hc5)
    have HIB5 := Lib.hid hib
    clear hib hc5 hv hc4
    go_wp2_with fail
    refine (Of_calls 5 _ _ _ HIB5.out).mono ?_
    rintro e w6 ⟨rfl, hc6⟩
    have HC6 := Lib.hid (HC5.out.then hc6)
    clear hc6
    have hlt : ((crc b.data.toList).toNat : Int) < 16777216 := by have := (crc b.data.toList).isLt; omega
    simp only []
    go_wp2
    go_ret
    exact ⟨rfl, HC6.out⟩
  · have h2 : (5000 : Int) < (b.size : Int) := by omega
    go_wp2_with fail
    refine (awake2_calls _).mono ?_
    rintro e w5 ⟨rfl, hc5⟩
    have HC5 := Lib.hid (HC1.out.then hc5)
    clear hc5
    go_wp2
    go_ret
    exact ⟨rfl, HC5.out⟩
end Go.Proofs.Ytgmgmjljjbcgjaa

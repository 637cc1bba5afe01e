/- The laws of the block store: their walks. -/
import Derived.Test.YtgmgmjljjbcgjaaBlkB
import Derived.Test.YtgmgmjljjbcgjaaStr
import Derived.Deep.RegionWith
namespace Go.Proofs.Ytgmgmjljjbcgjaa
open Go Go.RowKit

theorem block_patch (st : St) (i : Nat) (cs : List UInt8) (hb : st.bytes.length = 65536) (hi : i < 1024) (hc : cs.length = 64) : ({ st with bytes := patch st.bytes (i * 64) cs } : St).block i = cs := by
  unfold St.block patch
  rw [List.drop_append, List.drop_of_length_le (by simp; omega), List.length_take, Nat.min_eq_left (by omega), Nat.sub_self, List.drop_zero, List.nil_append, List.take_append_of_le_length (by omega), List.take_of_length_le (by omega)]

theorem write_new (i : Nat) (hi : i < 1024) (b : List UInt8) (hb : b.length = 64) : St.new.write i b = ({ St.new with writes := 1, left := -1, bytes := patch St.new.bytes (i * 64) b }, 0) := by
  unfold St.write
  have h1 : ¬ (St.new.down = true) := by show ¬ (false = true); simp
  have h2 : ¬ (St.new.armed = true ∧ St.new.left = 0) := by show ¬ (false = true ∧ (0 : Int) = 0); simp
  have h3 : wrap64 (St.new.writes + 1) = 1 := by show wrap64 (0 + 1) = 1; unfold wrap64; omega
  have h4 : wrap64 (St.new.left - 1) = -1 := by show wrap64 (0 - 1) = -1; unfold wrap64; omega
  rw [if_neg h1, if_neg (by omega), if_neg (by omega), if_neg h2, h3, h4, Int.toNat_natCast]

theorem OwnB.at64 {w : World} {base : Nat} {v : Value} {u : UInt8} (h : OwnB w base v (List.replicate 64 u)) : ∃ g cap, v = .slice (some ⟨g, 0, none⟩) 64 cap ∧ base ≤ g ∧ 64 ≤ cap := by
  obtain ⟨g, cap, hv, hb, hc, _⟩ := h.at (by simp)
  rw [List.length_replicate] at hv hc
  exact ⟨g, cap, hv, hb, hc⟩

set_option maxHeartbeats 400000 in
theorem awake8_calls (w : World) : Calls Try.prog 25 #[] w fun e w' => e = .returned (.bool true) ∧ Chg [] w w' := by
  go_enter Try.func25, Try.ntmps25
  go_wp2_with fail
  refine (New_calls _).mono ?_
  rintro e w1 ⟨rfl, hs, hc1⟩
  have HS := Lib.hid hs
  have HC := Lib.hid hc1
  clear hs hc1
  go_wp2_with fail
  refine (full_calls 1 1 (by decide) _).mono ?_
  rintro e w2 ⟨v, rfl, hv, hc2⟩
  have hs2 := HS.out.chg hc2 (by simp)
  have hc2 := HC.out.then hc2
  have hw := Write_calls w.heap.size 3 St.new v _ w2 hs2 hv.isB
  have e0 := write_new 3 (by omega) (List.replicate 64 (1 : UInt8)) (by simp)
  have e1 : St.new.write 3 (List.replicate 64 (1 : UInt8)) = _ := e0
  rw [e1] at hw
  have HW := Lib.hid hw
  have HC2 := Lib.hid hc2
  clear hs2 hc2 hw e0 e1 hv HC HS
  go_wp2_with fail
  refine HW.out.mono ?_
  rintro e w3 ⟨rfl, hs, hc⟩
  have hr := Read_yes w.heap.size 3 _ w3 hs rfl (by omega)
  rw [block_patch ({ St.new with writes := 1, left := -1 } : St) 3 _ (List.length_replicate) (by omega) (List.length_replicate)] at hr
  have HR := Lib.hid hr
  have HS := Lib.hid hs
  have HC := Lib.hid (HC2.out.trans hc (by intro x hx; simp at hx; right; omega))
  clear hr hs hc HC2 HW
  simp only []
  go_wp2_with fail
  refine HR.out.mono ?_
  rintro e w4 ⟨x, rfl, hx, hc4⟩
  obtain ⟨g, cap, rfl, hb1, hb2, hb3⟩ := hx.at (by simp)
  have hcell := (hx.cell 63 (by simp)).1
  have HWr := Lib.hid (Writes_calls w.heap.size _ w4 (HS.out.chg hc4 (by simp)))
  have HC4 := Lib.hid (HC.out.then hc4)
  clear HR HS HC hc4 hb1 hb2 hb3 hx
  go_wp2_with fail
  refine HWr.out.mono ?_
  rintro e w5 ⟨rfl, rfl⟩
  go_wp2
  go_ret
  exact ⟨rfl, HC4.out⟩
end Go.Proofs.Ytgmgmjljjbcgjaa

/- The block store's Bytes; the answers at a nil store. -/
import Derived.Test.YtgmgmjljjbcgjaaBlkW
namespace Go.Proofs.Ytgmgmjljjbcgjaa
open Go Go.RowKit

theorem own_rows {w wr : World} {B : Nat} {v : Value} {bs : List UInt8} (h : OwnB wr B v bs) (hB : w.heap.size ≤ B) : ∀ x ∈ v.ownBlock.toList, x ∈ ([] : List Nat) ∨ w.heap.size ≤ x := by
  intro x hx
  have : v.ownBlock = some x := by simpa using hx
  exact .inr (Nat.le_trans hB (h.lt x this).1)

set_option maxHeartbeats 400000 in
theorem Bytes_calls (S : Nat) (st : St) (w : World) (hs : StoreAt w S st) :
    Calls Try.prog 30 #[.pointer (some ⟨S, 0, none⟩)] w fun e w' => ∃ v, e = .returned v ∧ OwnB w' w.heap.size v st.bytes ∧ Chg [] w w' := by
  obtain ⟨B, hB⟩ : ∃ B, w.heap.size = B := ⟨_, rfl⟩
  rw [hB]
  have HB := Lib.hid hB
  have HS := Lib.hid hs
  have hn := OwnB.nil w B
  clear hB hs
  go_enter Try.func30, Try.ntmps30
  go_wp2
  go_loopw [7, 3] (fun i out wr => ∃ k : Nat, k ≤ 1024 ∧ i = .int .i64 k ∧ OwnB wr B out (st.bytes.take (k * 64)) ∧ Chg [] w wr) (fun i _ _ => 1024 - (intOf i).toNat)
  case atStart => exact ⟨0, by omega, rfl, by simpa using hn, Chg.refl _ _⟩
  case round =>
    obtain ⟨k, hk, rfl, ho, hc⟩ := hrel
    clear hn
    have HO := Lib.hid ho
    have HC := Lib.hid hc
    clear ho hc
    by_cases hlt : k < 1024
    · have hi2 : (k : Int) < 1024 := by omega
      have hb := (HS.out.chg HC.out (by simp)).blockB k hlt
      have HBl := Lib.hid hb
      clear hb
      go_wp2_with (at_builtin; refine wpList_bappend rfl _ _ rfl B _ _ rfl HO.out 44 _ _ rfl HBl.out (by simp [St.block]; omega) (by rw [← HB.out]; exact HC.out.size) ?_; intro v' w1 hown' hch' hwh)
      have hch2 : Chg [] w w1 := HC.out.trans hch' (own_rows HO.out (by rw [HB.out]; exact Nat.le_refl _))
      clear hwh hch'
      have HO2 := Lib.hid hown'
      have HC2 := Lib.hid hch2
      clear hown' hch2
      go_wp2
      go_roundw
      case rel =>
        refine ⟨k + 1, by omega, by go_num, ?_, HC2.out⟩
        have e : List.take ((k + 1) * 64) st.bytes = List.take (k * 64) st.bytes ++ st.block k := by
          unfold St.block
          rw [Nat.add_mul, Nat.one_mul, List.take_add]
        rw [e]
        exact HO2.out
      case measure => simp [intOf]; omega
    · obtain rfl : k = 1024 := by omega
      have hl : List.take (1024 * 64) st.bytes = st.bytes := List.take_of_length_le (by rw [HS.out.1]; omega)
      have HL := Lib.hid hl
      clear hl
      go_wp2
      go_ret
      exact ⟨_, rfl, by rw [← HL.out]; exact HO.out, HC.out⟩

set_option maxHeartbeats 400000 in
theorem Arm_nil (n p : Int) (w : World) : Calls Try.prog 31 #[.pointer none, .int .i64 n, .int .i64 p] w fun e w' => e = .returned (.tuple #[]) ∧ w = w' := by
  go_enter Try.func31, Try.ntmps31
  go_wp2
  go_end0
  exact ⟨rfl, rfl⟩
set_option maxHeartbeats 400000 in
theorem Power_nil (w : World) : Calls Try.prog 32 #[.pointer none] w fun e w' => e = .returned (.tuple #[]) ∧ w = w' := by
  go_enter Try.func32, Try.ntmps32
  go_wp2
  go_end0
  exact ⟨rfl, rfl⟩
set_option maxHeartbeats 400000 in
theorem can_nil (i : Int) (w : World) : Calls Try.prog 67 #[.pointer none, .int .i64 i] w fun e w' => e = .returned (.int .i64 1) ∧ w = w' := by
  go_enter Try.func67, Try.ntmps67
  go_wp2
  go_ret
  exact ⟨rfl, rfl⟩
set_option maxHeartbeats 400000 in
theorem Read_nil (i : Int) (w : World) : Calls Try.prog 29 #[.pointer none, .int .i64 i] w fun e w' => e = .returned (.tuple #[.slice none 0 0, .int .i64 1]) ∧ w = w' := by
  have hcan := Lib.hid (can_nil i w)
  go_enter Try.func29, Try.ntmps29
  go_wp2_with (go_at_call 67; refine hcan.out.mono ?_; rintro e w' ⟨rfl, rfl⟩)
  go_ret2
  exact ⟨rfl, rfl⟩
set_option maxHeartbeats 400000 in
theorem Write_nil (i : Int) (v : Value) (w : World) : Calls Try.prog 28 #[.pointer none, .int .i64 i, v] w fun e w' => e = .returned (.int .i64 1) ∧ w = w' := by
  have hcan := Lib.hid (can_nil i w)
  go_enter Try.func28, Try.ntmps28
  go_wp2_with (go_at_call 67; refine hcan.out.mono ?_; rintro e w' ⟨rfl, rfl⟩)
  go_ret
  exact ⟨rfl, rfl⟩
set_option maxHeartbeats 400000 in
theorem Down_nil (w : World) : Calls Try.prog 40 #[.pointer none] w fun e w' => e = .returned (.bool false) ∧ w = w' := by
  go_enter Try.func40, Try.ntmps40
  go_wp2
  go_ret
  exact ⟨rfl, rfl⟩
set_option maxHeartbeats 400000 in
theorem Bytes_nil (w : World) : Calls Try.prog 30 #[.pointer none] w fun e w' => e = .returned (.slice none 0 0) ∧ w = w' := by
  go_enter Try.func30, Try.ntmps30
  go_wp2
  go_ret
  exact ⟨rfl, rfl⟩
set_option maxHeartbeats 400000 in
theorem Writes_nil (w : World) : Calls Try.prog 33 #[.pointer none] w fun e w' => e = .returned (.int .i64 0) ∧ w = w' := by
  go_enter Try.func33, Try.ntmps33
  go_wp2
  go_ret
  exact ⟨rfl, rfl⟩
end Go.Proofs.Ytgmgmjljjbcgjaa

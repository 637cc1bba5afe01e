/- The laws of the seal: what they share. -/
import Derived.Test.YtgmgmjljjbcgjaaSeal
import Derived.Test.YtgmgmjljjbcgjaaStr
import Derived.Test.YtgmgmjljjbcgjaaReg
import Derived.Lib.SlBytesConst
namespace Go.Proofs.Ytgmgmjljjbcgjaa
open Go Go.RowKit NSX

theorem str_len (s : ByteArray) : s.data.toList.length = s.size := by rw [Array.length_toList]; rfl
theorem str_get (s : ByteArray) (k : Nat) (hk : k < s.size) : s.data.toList.getD k 0 = s[k] := by
  rw [List.getD_eq_getElem?_getD, List.getElem?_eq_getElem (by rw [str_len]; exact hk)]; rfl
theorem xor_byte (a b : UInt8) : bits BinOp.xor IntKind.u8 (a.toNat : Int) (b.toNat : Int) = ((a ^^^ b).toNat : Int) := by
  rw [bits_xor_u8 _ _ a.toNat_lt b.toNat_lt, UInt8.toNat_xor]
theorem run_bmake (w : World) (n : Nat) (hn : n ≤ 281474976710656) : ∃ w', (Instr.makeSlice 26 (.int .i64 n) (.int .i64 n)).run Try.prog w = .ok (.slice (some ⟨w.heap.size, 0, none⟩) n n) w' ∧ OwnB w' w.heap.size (.slice (some ⟨w.heap.size, 0, none⟩) n n) (List.replicate n 0) ∧ Chg [] w w' := by
  obtain ⟨i0, hi, hz0, hz1, hz2⟩ := info_parts Try.info5p
  obtain ⟨w', hrun, r1, r2⟩ := run_make_full (P := Try.prog) w w.heap.size 26 5 i0 (.int .u8 0) 1 Try.underlying26 hi hz0 hz1 .i64 .i64 n (by rw [hz2]; omega) (by unfold maxLen; omega) (Nat.le_refl _)
  refine ⟨w', hrun, ?_, (Chg.refl [] w).grown r2 (fun k e => by cases e)⟩
  rw [made_zero] at r1
  unfold OwnB
  rw [List.length_replicate]
  exact r1
theorem extract_take (s : ByteArray) (n : Nat) (_ : n ≤ s.size) : (s.extract 0 n).data.toList = s.data.toList.take n := by
  have : (s.extract 0 n).data = s.data.extract 0 n := by rw [ByteArray.data_extract]
  rw [this, Array.toList_extract]
  simp
theorem awake_crc : (crc [49, 50, 51, 52, 53, 54, 55, 56, 57]).toNat = 2215682 := by decide +kernel

/-- Nine bytes written out. -/
theorem nineB (w : World) : IsB (w.alloc (.cells #[.int .u8 49, .int .u8 50, .int .u8 51, .int .u8 52, .int .u8 53, .int .u8 54, .int .u8 55, .int .u8 56, .int .u8 57] 5 (9, 10))) 5 (.slice (some ⟨w.heap.size, 0, none⟩) 9 9) [49, 50, 51, 52, 53, 54, 55, 56, 57] := by
  refine ⟨_, 9, rfl, Nat.le_refl _, by decide, (fun e => by cases e), fun _ => ⟨_, 0, _, _, rfl, heap_alloc_new _ _, fun i c hi => ?_⟩⟩
  have hlt : i < 9 := (List.getElem?_eq_some_iff.1 hi).1
  have h9 : i = 0 ∨ i = 1 ∨ i = 2 ∨ i = 3 ∨ i = 4 ∨ i = 5 ∨ i = 6 ∨ i = 7 ∨ i = 8 := by omega
  rcases h9 with h | h | h | h | h | h | h | h | h <;> subst h <;> simp at hi <;> subst hi <;> rfl

set_option maxRecDepth 100000 in
theorem awake2_calls (w : World) : Calls Try.prog 48 #[] w fun e w' => e = .returned (.bool true) ∧ Chg [] w w' := by
  have HN := Lib.hid (nineB w)
  have hc : Chg [] w (w.alloc (.cells #[.int .u8 49, .int .u8 50, .int .u8 51, .int .u8 52, .int .u8 53, .int .u8 54, .int .u8 55, .int .u8 56, .int .u8 57] 5 (9, 10))) := (Chg.refl [] w).alloc _
  have HO := Lib.hid (Of_calls 5 _ _ _ HN.out)
  have HC := Lib.hid hc
  have kc := fun (w : World) (C : Array Value) (n c : Nat) => Lib.run_convert_bytes_const (P := Try.prog) w 26 5 C n c Try.underlying26 Try.underlying5
  clear hc
  go_enter Try.func48, Try.ntmps48
  go_wp2_with fail
  refine HO.out.mono ?_
  rintro e w1 ⟨rfl, hc1⟩
  have hA := awake_crc
  have HC1 := Lib.hid (HC.out.then hc1)
  clear hc1
  rw [hA]
  clear hA
  simp only []
  go_wp2
  go_ret
  exact ⟨rfl, HC1.out⟩
end Go.Proofs.Ytgmgmjljjbcgjaa

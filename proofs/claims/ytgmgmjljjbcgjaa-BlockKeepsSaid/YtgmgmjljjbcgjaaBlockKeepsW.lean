/- BlockKeeps: its walk. -/
import Derived.Test.YtgmgmjljjbcgjaaL8
namespace Go.Proofs.Ytgmgmjljjbcgjaa
open Go Go.RowKit

theorem OwnB.at64 {w : World} {base : Nat} {v : Value} {u : UInt8} (h : OwnB w base v (List.replicate 64 u)) : ∃ g cap, v = .slice (some ⟨g, 0, none⟩) 64 cap ∧ base ≤ g ∧ 64 ≤ cap := by
  obtain ⟨g, cap, hv, hb, hc, _⟩ := h.at (by simp)
  rw [List.length_replicate] at hv hc
  exact ⟨g, cap, hv, hb, hc⟩

set_option maxRecDepth 100000 in
set_option maxHeartbeats 1000000 in
theorem BlockKeeps_calls (n : Nat) (hn : n ≤ 65535) (c : Int) (u : UInt8) (hc : c = (u.toNat : Int)) (w : World) : Calls Try.prog 3 #[.int .u16 n, .int .u8 c] w fun e w' => e = .returned (.bool true) ∧ Chg [] w w' := by
  obtain ⟨k, hk⟩ : ∃ k, n % 1024 = k := ⟨_, rfl⟩
  have hk1 : k < 1024 := by omega
  have hkn : ((n : Int) % 1024) = (k : Int) := by omega
  have HU := Lib.hid hc
  clear hc hk
  go_enter Try.func3, Try.ntmps3
  go_wp2_with fail
  refine (awake8_calls _).mono ?_
  rintro e w1 ⟨rfl, hc1⟩
  have HC1 := Lib.hid hc1
  clear hc1
  go_wp2_with fail
  refine (New_calls _).mono ?_
  rintro e w2 ⟨rfl, hs, hc⟩
  obtain ⟨S, hS⟩ : ∃ S, w1.heap.size = S := ⟨_, rfl⟩
  rw [hS] at hs ⊢
  have hSw : w.heap.size ≤ S := by rw [← hS]; exact HC1.out.size
  have hS2 : S < w2.heap.size := heap_lt hs.2
  have HS := Lib.hid hs
  have HC2 := Lib.hid (HC1.out.then hc)
  clear hs hc HC1 hS
  simp only []
  go_wp2_with fail
  refine (full_calls c u HU.out _).mono ?_
  rintro e w3 ⟨v, rfl, hv, hc⟩
  obtain ⟨g, cap, rfl, hg, hcap⟩ := hv.at64
  have hs3 := HS.out.chg hc (by simp)
  have HW := Lib.hid (Write_calls S k St.new _ _ w3 hs3 hv.isB)
  have HV := Lib.hid hv
  have HC3 := Lib.hid (HC2.out.then hc)
  clear hv hs3 hc
  simp only []
  go_wp2_with fail
  refine HW.out.mono ?_
  rintro e w4 ⟨rfl, hs, hc⟩
  rw [write_new k hk1 _ (List.length_replicate)] at hs ⊢
  have hv := HV.out.chg hc (by intro x hx; simp [Value.ownBlock] at hx; subst hx; simp; omega)
  obtain ⟨hc5, hf5⟩ := hv.cell 5 (by simp)
  have HS4 := Lib.hid hs
  have HC4 := Lib.hid (HC3.out.trans hc (by intro x hx; simp at hx; subst hx; exact .inr hSw))
  have hgw : w.heap.size ≤ g := by omega
  clear hs hc hv HV HW HS HC3 HC2
  simp only []
  go_wp2_with fail
  refine (Read_yes S k _ _ (HS4.out.other (by simp; omega) _) rfl hk1).mono ?_
  rintro e w5 ⟨x, rfl, hx, hc⟩
  rw [block_patch ({ St.new with writes := 1, left := -1 } : St) k _ (List.length_replicate) hk1 (List.length_replicate)] at hx
  obtain ⟨gx, capx, rfl, hgx, hcapx⟩ := hx.at64
  rw [World.size_setCell] at hgx
  have hs := (HS4.out.other (a := ⟨g, 5, none⟩) (by simp; omega) (.int .u8 (bits BinOp.xor IntKind.u8 (↑u.toNat) 255))).chg hc (by simp)
  have hc2 := (HC4.out.setCell (p := ⟨g, 5, none⟩) (.inr hgw) (.int .u8 (bits BinOp.xor IntKind.u8 (↑u.toNat) 255))).then hc
  have hB := Bytes_calls S _ w5 hs
  have hgx2 : w4.heap.size ≤ gx := hgx
  have hw4 : S < w4.heap.size := heap_lt HS4.out.2
  have HX := Lib.hid hx
  have HS5 := Lib.hid hs
  have HC5 := Lib.hid hc2
  have HB := Lib.hid hB
  have hgxw : w.heap.size ≤ gx := by have := HC4.out.size; omega
  clear hx hs hc hc2 hB hc5 hf5 hgx HC4 HS4
  simp only []
  go_wp2_with fail
  refine HB.out.mono ?_
  rintro e w6 ⟨y, rfl, hy, hc⟩
  have hl : (patch St.new.bytes (k * 64) (List.replicate 64 u)).length = 65536 := HS5.out.1
  obtain ⟨gy, capy, hye, hgy, hcapy, -⟩ := hy.at (by intro e; have h := congrArg List.length e; rw [hl] at h; cases h)

  rw [hl] at hye hcapy
  subst hye
  have hx6 := HX.out.then hc
  have hs6 := HS5.out.chg hc (by simp)
  have hc6 := HC5.out.then hc
  have hw5 : gx < w5.heap.size := by have := HX.out.lt gx rfl; omega
  have hS5 : S < w5.heap.size := heap_lt HS5.out.2
  obtain ⟨hcx, hfx⟩ := hx6.cell 6 (by simp)
  obtain ⟨hcy, hfy⟩ := hy.cell (k * 64 + 7) (by rw [hl]; omega)
  have hk2 : ((k : Int) * 64 + 7).toNat = k * 64 + 7 := by omega
  have hk3 : (k : Int) * 64 + 7 < 65536 := by omega
  have hk4 : 0 ≤ (k : Int) * 64 + 7 := by omega
  have HS6 := Lib.hid hs6
  have HC6 := Lib.hid hc6
  have hgyw : w.heap.size ≤ gy := by have := HC5.out.size; omega
  have hne1 : gx ≠ gy := by omega
  have hne2 : S ≠ gy := by omega
  have hne3 : S ≠ gx := by omega
  clear hy hc hl hx6 hs6 hc6 HX HS5 HC5 HB
  generalize (List.replicate 64 u).getD 6 0 = qx at hcx
  generalize (patch St.new.bytes (k * 64) (List.replicate 64 u)).getD (k * 64 + 7) 0 = qy at hcy
  simp only []
  go_wp2_with fail
  have hs7 := (HS6.out.other (a := ⟨gx, 6, none⟩) (fun e => hne3 e.symm) (.int .u8 (bits BinOp.xor IntKind.u8 (↑qx.toNat) 255))).other (a := ⟨gy, k * 64 + 7, none⟩) (fun e => hne2 e.symm) (.int .u8 (bits BinOp.xor IntKind.u8 (↑qy.toNat) 255))
  have hc7 := (HC6.out.setCell (p := ⟨gx, 6, none⟩) (.inr hgxw) (.int .u8 (bits BinOp.xor IntKind.u8 (↑qx.toNat) 255))).setCell (p := ⟨gy, k * 64 + 7, none⟩) (.inr hgyw) (.int .u8 (bits BinOp.xor IntKind.u8 (↑qy.toNat) 255))
  refine (Read_yes S k _ _ hs7 rfl hk1).mono ?_
  rintro e w8 ⟨z, rfl, hz, hc8⟩
  rw [block_patch ({ St.new with writes := 1, left := -1 } : St) k _ (List.length_replicate) hk1 (List.length_replicate)] at hz
  have HC8 := Lib.hid (hc7.then hc8)
  obtain ⟨gz, capz, rfl, -, -⟩ := hz.at64
  have hcv := run_toString w8.drew 5 _ _ (hz.isB.then ((Chg.refl [] w8).drew))
  have HZ := Lib.hid hz
  clear hs7 hc7 hz hc8 hcx hfx hcy hfy HS6 HC6
  simp only []
  go_wp2_with fail
  have hfin : ∀ (w9 : World), Chg [] w8.drew w9 → (convert 26 9 (.slice (some ⟨gz, 0, none⟩) 64 capz)).run Try.prog w9 = .ok (.string (strOf (List.replicate 64 u))) w9 := fun w9 h9 => run_toString w9 5 _ _ (HZ.out.isB.then (((Chg.refl [] w8).drew).then h9))
  have HF := Lib.hid hfin
  clear hfin
  go_region_with (go_at_call 27; refine (full_calls c u HU.out _).mono ?_; rintro e w9 ⟨v9, rfl, hv9, hc9⟩; have hq := run_toString w9 5 _ _ hv9.isB; have hq2 := HF.out w9 hc9)
  all_goals go_wp2
  all_goals (go_ret; exact ⟨rfl, (HC8.out.drew).then hc9⟩)
end Go.Proofs.Ytgmgmjljjbcgjaa

/- The pack package: Put, Take of a small number; the journal package: head. -/
import Derived.Test.YtgmgmjljjbcgjaaJRead
import Derived.Lib.BitFns
import Derived.Test.YtgmgmjljjbcgjaaRead
namespace Go.Proofs.Ytgmgmjljjbcgjaa
open Go Go.RowKit NSX

theorem len8_bounds (n : Nat) (h1 : 1 ≤ n) (h2 : n < 256) : ∃ L : Nat, Lib.len8 (n : Int) = (L : Int) ∧ 1 ≤ L ∧ L ≤ 8 := by
  have h : ∀ i : Fin 256, 1 ≤ i.1 → 1 ≤ Lib.len8 (i.1 : Int) ∧ Lib.len8 (i.1 : Int) ≤ 8 := by decide +kernel
  have := h ⟨n, h2⟩ h1
  exact ⟨(Lib.len8 (n : Int)).toNat, by simp only [] at this; omega, by simp only [] at this; omega, by simp only [] at this; omega⟩

set_option maxRecDepth 100000 in
set_option maxHeartbeats 400000 in
theorem Len64_calls (n : Nat) (w : World) (h1 : 1 ≤ n) (h2 : n < 256) : Calls Try.prog 90 #[.int .u64 n] w fun e w' => ∃ L : Nat, e = .returned (.int .i64 L) ∧ 1 ≤ L ∧ L ≤ 8 ∧ w = w' := by
  obtain ⟨L, hL, hL1, hL2⟩ := len8_bounds n h1 h2
  go_enter Try.func90, Try.ntmps90
  generalize hD : ByteArray.mk (List.toArray _) = D
  have hq : (Instr.index 9 (.string D) (.int .u8 n)).run Try.prog w = .ok (.int .u8 L) w := by
    have hD2 : D = Lib.len8tab := by rw [← hD]; kernel_rfl
    rw [hD2, ← hL]
    exact Lib.run_index_len8tab _ 9 .u8 n Try.underlying9 (by omega) (by omega)
  clear hD hL
  have b1 : ¬ (4294967296 : Int) ≤ (n : Int) := by omega
  have b2 : ¬ (65536 : Int) ≤ (n : Int) := by omega
  have b3 : ¬ (256 : Int) ≤ (n : Int) := by omega
  go_upto_region 10 with fail
  go_wp2
  go_ret
  exact ⟨L, rfl, hL1, hL2, rfl⟩

theorem oneU (w : World) (c : UInt8) : IsB (w.alloc (.cells #[.int .u8 (c.toNat : Int)] 5)) 5 (.slice (some ⟨w.heap.size, 0, none⟩) 1 1) [c] := by
  refine ⟨_, 1, rfl, Nat.le_refl _, by decide, (fun e => by cases e), fun _ => ⟨_, 0, _, _, rfl, heap_alloc_new _ _, fun i x hi => ?_⟩⟩
  have hlt : i = 0 := by have := (List.getElem?_eq_some_iff.1 hi).1; simpa using this
  subst hlt
  simp at hi
  subst hi
  rfl

set_option maxHeartbeats 400000 in
theorem own_calls (w : World) : Calls Try.prog 91 #[.slice none 0 0] w fun e w' => ∃ v, e = .returned v ∧ OwnB w' w.heap.size v [] ∧ Chg [] w w' := by
  obtain ⟨B, hB⟩ : ∃ B, w.heap.size = B := ⟨_, rfl⟩
  rw [hB]
  have HB := Lib.hid hB
  clear hB
  go_enter Try.func91, Try.ntmps91
  go_wp2_with (first | (at_make; refine wpList_bmake0 _ rfl _ _ rfl B 9 9 rfl rfl rfl (by decide) (by rw [HB.out]; exact Nat.le_refl _) ?_; intro w1 hown hch) | (at_builtin; refine wpList_bappend rfl (.tmp 6) (.tmp 7) rfl B _ _ rfl hown 5 _ _ rfl (IsB.nil _ 5) (by decide) (by rw [← HB.out]; exact hch.size) ?_; intro v2 w2 hown2 hch2 hwh2))
  have hc2 : Chg [] w w2 := hch.trans hch2 (hown.rows (by rw [HB.out]; exact Nat.le_refl _))
  go_ret
  exact ⟨_, rfl, hown2, hc2⟩

set_option maxHeartbeats 400000 in
theorem Put8_calls (n : Nat) (w : World) (h1 : 1 ≤ n) (h2 : n < 256) : Calls Try.prog 85 #[.slice none 0 0, .int .u64 n] w fun e w' => ∃ v, e = .returned v ∧ OwnB w' w.heap.size v [1, UInt8.ofNat n] ∧ Chg [] w w' := by
  have HL := Lib.hid (Len64_calls n w h1 h2)
  obtain ⟨B, hB⟩ : ∃ B, w.heap.size = B := ⟨_, rfl⟩
  rw [hB]
  have HB := Lib.hid hB
  clear hB
  go_enter Try.func85, Try.ntmps85
  go_wp2_with fail
  refine HL.out.mono ?_
  rintro e w' ⟨L, rfl, hL1, hL2, rfl⟩
  have hL8 : ((L : Int) + 7) / 8 = 1 := by omega
  simp only []
  go_wp2_with fail
  refine (own_calls w).mono ?_
  rintro e w1 ⟨v1, rfl, hown, hch⟩
  have HO := Lib.hid hown
  have HC := Lib.hid hch
  have hx := oneU w1 1
  have HX := Lib.hid hx
  have HC1 := Lib.hid (hch.alloc (.cells #[.int .u8 ((1 : UInt8).toNat : Int)] 5))
  have HO1 := Lib.hid (hown.then ((Chg.refl [] w1).alloc (.cells #[.int .u8 ((1 : UInt8).toNat : Int)] 5)))
  clear hown hch hx
  simp only []
  go_wp2_with (at_builtin; refine wpList_bappend rfl (.tmp 13) (.tmp 16) rfl B _ _ rfl (HO1.out.mono (by rw [HB.out]; exact Nat.le_refl _)) 5 _ _ rfl HX.out (by decide) (by rw [← HB.out]; exact HC1.out.size) ?_; intro v2 w2 hown2 hch2 hwh2)
  have HC2 := Lib.hid (HC1.out.trans hch2 (HO1.out.rows (Nat.le_refl _)))
  have HO2 := Lib.hid hown2
  clear hown2 hch2 hwh2
  go_loopw [6, 7] (fun o i wr => Chg [] w wr ∧ ((i = .int .i64 0 ∧ OwnB wr B o [1]) ∨ (i = .int .i64 (-1) ∧ OwnB wr B o [1, UInt8.ofNat n]))) (fun _ i _ => (intOf i + 1).toNat)
  case atStart => exact ⟨HC2.out, .inl ⟨rfl, HO2.out⟩⟩
  case round =>
    obtain ⟨hc, ⟨rfl, ho⟩ | ⟨rfl, ho⟩⟩ := hrel
    · have HO3 := Lib.hid ho
      have HC3 := Lib.hid hc
      have hnn : (n : Int) = ((UInt8.ofNat n).toNat : Int) := by
        rw [UInt8.toNat_ofNat', Nat.mod_eq_of_lt (show n < 2 ^ 8 by omega)]
      have hx := oneU wr (UInt8.ofNat n)
      rw [← hnn] at hx
      have HX3 := Lib.hid hx
      have HC4 := Lib.hid (hc.alloc (.cells #[.int .u8 (n : Int)] 5))
      have HO4 := Lib.hid (ho.then ((Chg.refl [] wr).alloc (.cells #[.int .u8 (n : Int)] 5)))
      have b3 : ¬ (256 : Int) ≤ (n : Int) := by omega
      have b4 : (n : Int) % 256 = (n : Int) := by omega
      clear ho hc hx hnn
      go_wp2_with (at_builtin; refine wpList_bappend rfl (.tmp 24) (.tmp 30) rfl B _ _ rfl HO4.out 5 _ _ rfl HX3.out (by simp) (by rw [← HB.out]; exact HC4.out.size) ?_; intro v5 w5 hown5 hch5 hwh5)
      have HC5 := Lib.hid (HC4.out.trans hch5 (HO4.out.rows (by rw [HB.out]; exact Nat.le_refl _)))
      have HO5 := Lib.hid hown5
      clear hown5 hch5 hwh5
      go_wp2_with fail
      go_roundw
      case rel => exact ⟨HC5.out, .inr ⟨by go_num, HO5.out⟩⟩
      case measure => simp [intOf]
    · have HO3 := Lib.hid ho
      have HC3 := Lib.hid hc
      clear ho hc
      go_wp2_with fail
      go_ret
      exact ⟨_, rfl, HO3.out, HC3.out⟩

set_option maxHeartbeats 400000 in
theorem Take8_calls (T : TypeId) (v : Value) (n : Nat) (w : World) (h1 : 1 ≤ n) (h2 : n < 256) (h : IsB w T v [1, UInt8.ofNat n]) : Calls Try.prog 84 #[v, .int .i64 0] w fun e w' => e = .returned (.tuple #[.int .u64 n, .int .i64 2, .int .i64 0]) ∧ w = w' := by
  obtain ⟨ao, cap, rfl, hl, hm, hz, hc⟩ := h.cells
  obtain ⟨g, off, rfl, c0⟩ := hc 0 (by simp)
  obtain ⟨g', off', hg, c1⟩ := hc 1 (by simp)
  simp only [Option.some.injEq, Addr.mk.injEq, and_true] at hg
  obtain ⟨rfl, rfl⟩ := hg
  have hnn : ((UInt8.ofNat n).toNat : Int) = (n : Int) := by
    rw [UInt8.toNat_ofNat', Nat.mod_eq_of_lt (show n < 2 ^ 8 by omega)]
  have c0' : w.cell? ⟨g, off, none⟩ = some (.int .u8 1) := c0
  have c1' : w.cell? ⟨g, off + 1, none⟩ = some (.int .u8 n) := by rw [c1]; show some (Value.int .u8 ((UInt8.ofNat n).toNat : Int)) = _; rw [hnn]
  have hl2 : 2 ≤ cap := hl
  have hcap0 : ¬ cap = 0 := by omega
  have hcap1 : ¬ cap = 1 := by omega
  unfold maxLen at hm
  show Calls Try.prog 84 #[.slice (some ⟨g, off, none⟩) 2 cap, .int .i64 0] w _
  have hor : bits BinOp.or IntKind.u64 0 (n : Int) = (n : Int) := by
    have e1 : (BitVec.ofInt 64 (0 : Int)).toNat = 0 := rfl
    have e2 : (BitVec.ofInt 64 (n : Int)).toNat = n := by rw [BitVec.ofInt_natCast, BitVec.toNat_ofNat]; exact Nat.mod_eq_of_lt (by omega)
    show IntKind.u64.wrap ((BitVec.ofInt 64 (0 : Int) ||| BitVec.ofInt 64 (n : Int)).toNat : Int) = _
    rw [BitVec.toNat_or, e1, e2, Nat.zero_or]
    simp [IntKind.wrap, IntKind.bits, IntKind.signed]
    omega
  have hn0 : ((n : Int) == 0) = false := by simp; omega
  clear h hc c0 c1 hnn hl hz
  go_enter Try.func84, Try.ntmps84
  go_wp2_with fail
  go_loop [52, 9] (fun i x => (i = .int .i64 0 ∧ x = .int .u64 0) ∨ (i = .int .i64 1 ∧ x = .int .u64 n)) (fun i _ => 2 - (intOf i).toNat)
  case atStart => exact .inl ⟨rfl, rfl⟩
  case round =>
    rcases hrel with ⟨rfl, rfl⟩ | ⟨rfl, rfl⟩
    · go_wp2_with fail
      go_round
      case rel => exact .inr ⟨by go_num, by go_num⟩
      case measure => simp [intOf]
    · go_wp2_with fail
      go_ret3
      exact ⟨rfl, rfl⟩

set_option maxRecDepth 100000 in
set_option maxHeartbeats 1000000 in
theorem head_calls (S a h : Nat) (st : St) (w : World) (hs : StoreAt w S st) (hd : st.down = false) (ha : a < 2) (hh : HeadIs st.bytes a h) :
    Calls Try.prog 70 #[.pointer (some ⟨S, 0, none⟩), .int .i64 a] w fun e w' => e = .returned (.int .i64 h) ∧ Chg [] w w' := by
  have hb1 : (st.bytes.drop (a * 512 * 64)).take (1 * 64) = blockAt st.bytes (a * 512) := rfl
  have hbl := blockAt_length st.bytes (a * 512) hs.1 (by omega)
  have hbk := blocks_calls S (a * 512) 1 st w hs hd (by omega)
  rw [hb1] at hbk
  have hread := read_head st.bytes a h hbl hh
  obtain ⟨c, hc⟩ : ∃ c, blockAt st.bytes (a * 512) = c := ⟨_, rfl⟩
  rw [hc] at hbl hbk hread
  have HB := Lib.hid hbk
  have HR := Lib.hid hread
  have HL := Lib.hid hbl
  clear hb1 hs hd hh hc hbk hread hbl
  go_enter Try.func70, Try.ntmps70
  go_wp2_with fail
  refine (place_calls a 0 w (by omega) (by omega)).mono ?_
  rintro e w' ⟨rfl, rfl⟩
  simp only []
  go_wp2_with fail
  refine (place_calls a 1 w (by omega) (by omega)).mono ?_
  rintro e w' ⟨rfl, rfl⟩
  simp only []
  go_wp2_with fail
  refine HB.out.mono ?_
  rintro e w1 ⟨bv, rfl, hown, hch⟩
  have HRd := Lib.hid (Read_bytes 5 _ _ w1 hown.isB (by rw [HL.out]; omega))
  have HC1 := Lib.hid hch
  clear hown hch
  simp only []
  go_wp2_with fail
  refine HRd.out.mono ?_
  rintro e w2 ⟨lv, rfl, hl, hch⟩
  have HC2 := Lib.hid (HC1.out.then hch)
  clear hch
  simp only []
  rcases HR.out with ⟨h0, hr⟩ | ⟨h1, h2, hr⟩
  · rw [hr] at hl ⊢
    obtain ⟨lo, lc, rfl⟩ := hl.slice
    subst h0
    clear hl hr
    go_wp2_with fail
    go_ret
    exact ⟨rfl, HC2.out⟩
  · rw [hr] at hl ⊢
    obtain ⟨lo, lc, rfl, hlc, hcells⟩ := hl.cells
    obtain ⟨g, x, rfl, hx, hxo⟩ := hcells 0 [1, UInt8.ofNat h] rfl
    obtain ⟨xo, xc, rfl, -, -, -, -⟩ := hxo.isB.cells
    have HT := Lib.hid (Take8_calls 5 _ h w2 h1 h2 hxo.isB)
    have hbig : ¬ (4611686018427387904 : Int) < (h : Int) := by omega
    clear hl hr hcells hxo
    go_wp2_with fail
    refine HT.out.mono ?_
    rintro e w3 ⟨rfl, rfl⟩
    simp only []
    go_wp2_with fail
    go_ret
    exact ⟨rfl, HC2.out⟩
end Go.Proofs.Ytgmgmjljjbcgjaa

/- RecordLongest: its walk. -/
import Derived.Test.YtgmgmjljjbcgjaaRecordBackW
import Derived.Test.YtgmgmjljjbcgjaaReg3
namespace Go.Proofs.Ytgmgmjljjbcgjaa
open Go Go.RowKit NSX

set_option maxRecDepth 100000 in
set_option maxHeartbeats 2000000 in
theorem RecordLongest_calls (n c : Nat) (hn : n < 256) (hc256 : c < 256) (w : World) :
    Calls Try.prog 18 #[.int .u8 n, .int .u8 c] w fun e w' => e = .returned (.bool true) ∧ Chg [] w w' := by
  obtain ⟨u, hu⟩ : ∃ u : UInt8, (c : Int) = (u.toNat : Int) := ⟨UInt8.ofNat c, by rw [UInt8.toNat_ofNat', Nat.mod_eq_of_lt hc256]⟩
  have HU := Lib.hid hu
  obtain ⟨L, hL⟩ : ∃ L : Nat, 32760 + n % 20 = L := ⟨_, rfl⟩
  have hL1 : (32760 + (n : Int) % 20) = (L : Int) := by omega
  have hL2 : 32760 ≤ L ∧ L < 32780 := by omega
  have hLa := hL2.1
  have hLb := hL2.2
  clear hL hL2 hu hc256
  go_enter Try.func18, Try.ntmps18
  go_wp2_with fail
  refine (awake7_calls _).mono ?_
  rintro e w1 ⟨rfl, hc1⟩
  have HC1 := Lib.hid hc1
  clear hc1
  obtain ⟨B, hB⟩ : ∃ B, w1.heap.size = B := ⟨_, rfl⟩
  simp only []
  go_wp2_with (at_make; refine wpList_bmake _ rfl _ _ rfl w1.heap.size L L L rfl rfl rfl rfl (by omega) (Nat.le_refl _) ?_; intro w2 hown hch)
  rw [hB] at hown
  have HOw := Lib.hid hown
  have HC2 := Lib.hid (HC1.out.then hch)
  have HBw := Lib.hid (show w.heap.size ≤ B by rw [← hB]; exact HC1.out.size)
  clear hown hch hB
  go_wp2_with fail
  go_loopw [20] (fun i wr => ∃ k : Nat, k ≤ L ∧ i = .int .i64 k ∧ OwnB wr B (.slice (some ⟨B, 0, none⟩) L L) (List.replicate k u ++ List.replicate (L - k) 0) ∧ Chg [] w wr) (fun i _ => L - (intOf i).toNat)
  case atStart => exact ⟨0, by omega, rfl, by simpa using HOw.out, HC2.out⟩
  case round =>
    obtain ⟨k, hk, rfl, ho, hc⟩ := hrel
    clear HOw HC2
    by_cases hlt : k < L
    · have hi2 : (k : Int) < (L : Int) := by omega
      obtain ⟨hcell, hfr⟩ := ho.cell k (by simp; omega)
      have hst := ho.stored k u
      have hch := hc.setCell (p := ⟨B, k, none⟩) (.inr HBw.out) (u8 u)
      rw [show u8 u = .int .u8 (c : Int) from by rw [HU.out]] at hst hch
      have H1 := Lib.hid hst
      have H2 := Lib.hid hch
      clear hst hch ho hc
      go_wp2
      go_roundw
      case rel =>
        refine ⟨k + 1, by omega, by go_num, ?_, H2.out⟩
        have e : (List.replicate k u ++ List.replicate (L - k) 0).set k u = List.replicate (k + 1) u ++ List.replicate (L - (k + 1)) 0 := by
          rw [List.set_append_right _ _ (by simp)]
          rw [show L - k = (L - (k + 1)) + 1 from by omega, List.replicate_succ]
          simp [List.replicate_succ', List.append_assoc]
        rw [← e]
        exact H1.out
      case measure => simp [intOf]; omega
    · obtain rfl : k = L := by omega
      have hi2 : ¬ (k : Int) < (k : Int) := by omega
      rw [Nat.sub_self, List.replicate_zero, List.append_nil] at ho
      obtain ⟨bs, hbs⟩ : ∃ bs, List.replicate k u = bs := ⟨_, rfl⟩
      rw [hbs] at ho
      have hbl : bs.length = k := by rw [← hbs, List.length_replicate]
      have HO := Lib.hid ho
      have HBl0 := Lib.hid hbl
      have HC := Lib.hid hc
      clear ho hc hbl hbs
      by_cases hbig : 32768 < k
      · have hbi : (32768 : Int) < (k : Int) := by omega
        have HCut := Lib.hid (Cut_long 5 _ bs wr HO.out.isB (by rw [HBl0.out]; exact hbig))
        have HNo := Lib.hid (Blocks_no (k : Int) wr (.inr hbi))
        go_wp2_with (first | (go_at_call 62; refine HCut.out.mono ?_; rintro e w' ⟨rfl, rfl⟩) | (go_at_call 64; refine HNo.out.mono ?_; rintro e w' ⟨rfl, rfl⟩))
        go_ret
        exact ⟨rfl, HC.out⟩
      · have hbi : ¬ (32768 : Int) < (k : Int) := by omega
        have HCut := Lib.hid (Cut_calls 5 _ bs wr HO.out.isB (by rw [HBl0.out]; omega))
        obtain ⟨L, hLk⟩ : ∃ L, k = L := ⟨_, rfl⟩
        subst hLk
        have HBl := Lib.hid (fun w => Blocks_calls k w (by omega))
        obtain ⟨N, hN⟩ : ∃ N, nBlocks k = N := ⟨_, rfl⟩
        rw [hN] at HBl
        have HN1 := Lib.hid (show N ≤ 1000 by rw [← hN]; unfold nBlocks; omega)
        have hcl := cutB_length bs
        rw [HBl0.out, hN] at hcl
        have hrd := readB_cut bs (by rw [HBl0.out]; omega)
        rw [HBl0.out, hN] at hrd
        have HCl := Lib.hid hcl
        have HRd := Lib.hid hrd
        clear hN hcl hrd
        go_wp2_with fail
        refine HCut.out.mono ?_
        rintro e w4 ⟨bv, rfl, hb4, hc4⟩
        obtain ⟨bo, bcap, rfl, hbc, hbm, -, -⟩ := hb4.isB.cells
        unfold maxLen at hbm
        have hr4 := Read_bytes 5 _ _ w4 hb4.isB (by rw [HCl.out]; have := HN1.out; omega)
        rw [HRd.out] at hr4
        rw [HCl.out] at hr4 hbc ⊢
        have HR4 := Lib.hid hr4
        have HC4 := Lib.hid (HC.out.then hc4)
        have HO4 := Lib.hid (HO.out.then hc4)
        clear hb4 hr4 hc4
        simp only []
        go_wp2_with fail
        refine HR4.out.mono ?_
        rintro e w5 ⟨lv, rfl, hl5, hc5⟩
        obtain ⟨lo, lc, rfl, hlc, hcells⟩ := hl5.cells
        obtain ⟨g, x, rfl, hx, hxo⟩ := hcells 0 bs rfl
        have hl1 : ([bs] : List (List UInt8)).length = 1 := rfl
        rw [hl1] at hlc ⊢
        have HX := Lib.hid hx
        have HXB := Lib.hid hxo.isB
        have HBB := Lib.hid (show IsB w5 5 (.slice (some ⟨B, 0, none⟩) k k) bs from (HO4.out.then hc5).isB)
        have HC5 := Lib.hid (HC4.out.then hc5)
        clear hl5 hcells hxo hx hc5 hl1
        simp only []
        go_wp2_with fail
        let p : Plan3 := {
          anc := [[], [0], [0, 1], [0, 1, 2], [0, 1, 2, 3], [0, 1, 2, 3, 4], [0, 1, 2, 3, 4, 5], [0, 1, 2, 3, 4, 5, 6], [0, 1, 2, 3, 4, 5, 6, 7], [0, 1, 2, 3, 4, 5, 6, 7, 8], [0, 1, 2, 3, 4, 5, 6, 7, 8, 9], [0, 1, 2, 3, 4, 5, 6, 7, 8, 9, 10], [0, 1, 2, 3, 4, 5, 6, 7], [0, 1, 2, 3, 4, 5, 6, 7, 12], [0, 1, 2, 3, 4, 5, 6, 7, 8, 9, 10, 11, 12, 13], [0, 1, 2, 3, 4, 5, 6, 7, 8, 9, 10, 11, 12, 13, 14], [0, 1, 2, 3, 4, 5, 6, 7, 8, 9, 10, 11, 12, 13, 14, 15], [0, 1, 2, 3, 4, 5, 6, 7, 8, 9, 10, 11, 12, 13, 14, 15, 16], [0, 1, 2, 3, 4, 5, 6, 7, 8, 9, 10, 11, 12, 13, 14, 15, 16], [0, 1, 2, 3, 4, 5, 6, 7, 8, 9, 10, 11, 12, 13, 14, 15, 16, 18], [0, 1, 2, 3, 4, 5, 6, 7, 8, 9, 10, 11, 12, 13, 14, 15, 16, 18, 19], [0, 1, 2, 3, 4, 5, 6, 7, 8, 9, 10, 11, 12, 13, 14, 15, 16, 17, 18, 19, 20], [0, 1, 2, 3, 4, 5, 6, 7, 8, 9, 10, 11, 12, 13, 14, 15, 16, 17, 18, 19, 20, 21], [0, 1, 2, 3, 4, 5, 6, 7, 8, 9, 10, 11, 12, 13, 14, 15, 16, 17, 18, 19, 20, 21, 22], [0, 1, 2, 3, 4, 5, 6, 7, 8, 9, 10, 11, 12, 13, 14, 15, 16, 17, 18, 19, 20, 21, 22, 23], [0, 1, 2, 3, 4, 5, 6, 7, 8, 9, 10, 11, 12, 13, 14, 15, 16, 17, 18, 19, 20, 21, 22, 23, 24], [0, 1, 2, 3, 4, 5, 6, 7, 8, 9, 10, 11, 12, 13, 14, 15, 16, 17, 18, 19, 20, 21, 22, 23], [0, 1, 2, 3, 4, 5, 6, 7, 8, 9, 10, 11, 12, 13, 14, 15, 16, 17, 18, 19, 20, 21, 22, 23, 26], [0, 1, 2, 3, 4, 5, 6, 7, 8, 9, 10, 11, 12, 13, 14, 15, 16, 17, 18, 19, 20, 21, 22, 23, 24, 25, 26, 27], [0, 1, 2, 3, 4, 5, 6, 7, 8, 9, 10, 11, 12, 13, 14, 15, 16, 17, 18, 19, 20, 21, 22, 23, 24, 25, 26, 27, 28], [0, 1, 2, 3, 4, 5, 6, 7, 8, 9, 10, 11, 12, 13, 14, 15, 16, 17, 18, 19, 20, 21, 22, 23, 24, 25, 26, 27, 28, 29], [0, 1, 2, 3, 4, 5, 6, 7, 8, 9, 10, 11, 12, 13, 14, 15, 16, 17, 18, 19, 20, 21, 22, 23, 24, 25, 26, 27, 28, 29, 30], [0, 1, 2, 3, 4, 5, 6, 7, 8, 9, 10, 11, 12, 13, 14, 15, 16, 17, 18, 19, 20, 21, 22, 23, 24, 25, 26, 27, 28, 29, 30, 31], [0, 1, 2, 3, 4, 5, 6, 7, 8, 9, 10, 11, 12, 13, 14, 15, 16, 17, 18, 19, 20, 21, 22, 23, 24, 25, 26, 27, 28, 29, 30, 31, 32], [0, 1, 2, 3, 4, 5, 6, 7, 8, 9, 10, 11, 12, 13, 14, 15, 16, 17, 18, 19, 20, 21, 22, 23, 24, 25, 26, 27, 28, 29, 30, 31, 32, 33]]
          rows := fun j => []
          all := []
          Pre := fun i w => match i with
            | 10 => w.cell? ⟨g, 0, none⟩ = some x
            | 11 => IsB w 5 x bs
            | 13 => IsB w 5 (.slice (some ⟨B, 0, none⟩) k k) bs
            | _ => True
          Φ := fun i v w => match i with
            | 0 => v = .int .i64 0
            | 1 => v = .bool true
            | 2 => v = .bool true
            | 3 => v = .slice (some ⟨g, 0, none⟩) 1 lc
            | 4 => v = .int .i64 1
            | 5 => v = .bool true
            | 6 => v = .bool true
            | 7 => v = .bool true
            | 8 => v = .slice (some ⟨g, 0, none⟩) 1 lc
            | 9 => v = .pointer (some ⟨g, 0, none⟩)
            | 10 => v = x
            | 11 => v = .string (strOf bs)
            | 12 => v = .slice (some ⟨B, 0, none⟩) k k
            | 13 => v = .string (strOf bs)
            | 14 => v = .bool true
            | 15 => v = .bool true
            | 16 => v = .bool true
            | 17 => v = .int .i64 (N : Int)
            | 18 => v = .slice (some ⟨B, 0, none⟩) k k
            | 19 => v = .int .i64 (k : Int)
            | 20 => v = .int .i64 (N : Int)
            | 21 => v = .bool true
            | 22 => v = .bool true
            | 23 => v = .bool true
            | 24 => v = .slice bo (64 * N) bcap
            | 25 => v = .int .i64 (64 * (N : Int))
            | 26 => v = .int .i64 (N : Int)
            | 27 => v = .int .i64 ((N : Int) * 64)
            | 28 => v = .bool true
            | 29 => v = .bool true
            | 30 => v = .bool true
            | 31 => v = .int .i64 0
            | 32 => v = .bool true
            | 33 => v = .bool true
            | 34 => v = .bool true
            | _ => True
          Ψ := fun i w => match i with
            | _ => True
          sub := by
            intro j x hx
            exact hx
          pre := by
            intro i j w w1 hij hn h hc
            match i, h, hij, hn with
            | 0, h, hij, hn => exact trivial
            | 1, h, hij, hn => exact trivial
            | 2, h, hij, hn => exact trivial
            | 3, h, hij, hn => exact trivial
            | 4, h, hij, hn => exact trivial
            | 5, h, hij, hn => exact trivial
            | 6, h, hij, hn => exact trivial
            | 7, h, hij, hn => exact trivial
            | 8, h, hij, hn => exact trivial
            | 9, h, hij, hn => exact trivial
            | 10, h, hij, hn => exact (by exact hc.cell h (by simp))
            | 11, h, hij, hn => exact (by exact h.then hc)
            | 12, h, hij, hn => exact trivial
            | 13, h, hij, hn => exact (by exact h.then hc)
            | 14, h, hij, hn => exact trivial
            | 15, h, hij, hn => exact trivial
            | 16, h, hij, hn => exact trivial
            | 17, h, hij, hn => exact trivial
            | 18, h, hij, hn => exact trivial
            | 19, h, hij, hn => exact trivial
            | 20, h, hij, hn => exact trivial
            | 21, h, hij, hn => exact trivial
            | 22, h, hij, hn => exact trivial
            | 23, h, hij, hn => exact trivial
            | 24, h, hij, hn => exact trivial
            | 25, h, hij, hn => exact trivial
            | 26, h, hij, hn => exact trivial
            | 27, h, hij, hn => exact trivial
            | 28, h, hij, hn => exact trivial
            | 29, h, hij, hn => exact trivial
            | 30, h, hij, hn => exact trivial
            | 31, h, hij, hn => exact trivial
            | 32, h, hij, hn => exact trivial
            | 33, h, hij, hn => exact trivial
            | 34, h, hij, hn => exact trivial
            | _ + 35, _, _, _ => trivial
          phi := by
            intro i j v w w1 hij hn h hc
            match i, h, hij, hn with
            | 0, h, hij, hn => exact h
            | 1, h, hij, hn => exact h
            | 2, h, hij, hn => exact h
            | 3, h, hij, hn => exact h
            | 4, h, hij, hn => exact h
            | 5, h, hij, hn => exact h
            | 6, h, hij, hn => exact h
            | 7, h, hij, hn => exact h
            | 8, h, hij, hn => exact h
            | 9, h, hij, hn => exact h
            | 10, h, hij, hn => exact h
            | 11, h, hij, hn => exact h
            | 12, h, hij, hn => exact h
            | 13, h, hij, hn => exact h
            | 14, h, hij, hn => exact h
            | 15, h, hij, hn => exact h
            | 16, h, hij, hn => exact h
            | 17, h, hij, hn => exact h
            | 18, h, hij, hn => exact h
            | 19, h, hij, hn => exact h
            | 20, h, hij, hn => exact h
            | 21, h, hij, hn => exact h
            | 22, h, hij, hn => exact h
            | 23, h, hij, hn => exact h
            | 24, h, hij, hn => exact h
            | 25, h, hij, hn => exact h
            | 26, h, hij, hn => exact h
            | 27, h, hij, hn => exact h
            | 28, h, hij, hn => exact h
            | 29, h, hij, hn => exact h
            | 30, h, hij, hn => exact h
            | 31, h, hij, hn => exact h
            | 32, h, hij, hn => exact h
            | 33, h, hij, hn => exact h
            | 34, h, hij, hn => exact h
            | _ + 35, _, _, _ => trivial
          psi := by
            intro i j w w1 hij hn h hc
            match i, h, hij, hn with
            | 0, h, hij, hn => exact trivial
            | 1, h, hij, hn => exact trivial
            | 2, h, hij, hn => exact trivial
            | 3, h, hij, hn => exact trivial
            | 4, h, hij, hn => exact trivial
            | 5, h, hij, hn => exact trivial
            | 6, h, hij, hn => exact trivial
            | 7, h, hij, hn => exact trivial
            | 8, h, hij, hn => exact trivial
            | 9, h, hij, hn => exact trivial
            | 10, h, hij, hn => exact trivial
            | 11, h, hij, hn => exact trivial
            | 12, h, hij, hn => exact trivial
            | 13, h, hij, hn => exact trivial
            | 14, h, hij, hn => exact trivial
            | 15, h, hij, hn => exact trivial
            | 16, h, hij, hn => exact trivial
            | 17, h, hij, hn => exact trivial
            | 18, h, hij, hn => exact trivial
            | 19, h, hij, hn => exact trivial
            | 20, h, hij, hn => exact trivial
            | 21, h, hij, hn => exact trivial
            | 22, h, hij, hn => exact trivial
            | 23, h, hij, hn => exact trivial
            | 24, h, hij, hn => exact trivial
            | 25, h, hij, hn => exact trivial
            | 26, h, hij, hn => exact trivial
            | 27, h, hij, hn => exact trivial
            | 28, h, hij, hn => exact trivial
            | 29, h, hij, hn => exact trivial
            | 30, h, hij, hn => exact trivial
            | 31, h, hij, hn => exact trivial
            | 32, h, hij, hn => exact trivial
            | 33, h, hij, hn => exact trivial
            | 34, h, hij, hn => exact trivial
            | _ + 35, _, _, _ => trivial }
        refine wp_region_each6 (by kernel_rfl) p ?hpreL (by kernel_rfl) (by kernel_rfl) (by kernel_rfl) (by kernel_rfl) ?hendL ?hstepsL
        case hpreL =>
          intro i
          match i with
          | 0 => exact trivial
          | 1 => exact trivial
          | 2 => exact trivial
          | 3 => exact trivial
          | 4 => exact trivial
          | 5 => exact trivial
          | 6 => exact trivial
          | 7 => exact trivial
          | 8 => exact trivial
          | 9 => exact trivial
          | 10 => exact HX.out
          | 11 => exact HXB.out
          | 12 => exact trivial
          | 13 => exact HBB.out
          | 14 => exact trivial
          | 15 => exact trivial
          | 16 => exact trivial
          | 17 => exact trivial
          | 18 => exact trivial
          | 19 => exact trivial
          | 20 => exact trivial
          | 21 => exact trivial
          | 22 => exact trivial
          | 23 => exact trivial
          | 24 => exact trivial
          | 25 => exact trivial
          | 26 => exact trivial
          | 27 => exact trivial
          | 28 => exact trivial
          | 29 => exact trivial
          | 30 => exact trivial
          | 31 => exact trivial
          | 32 => exact trivial
          | 33 => exact trivial
          | 34 => exact trivial
          | _ + 35 => trivial
        case hstepsL =>
          refine ⟨?_, ?_, ?_, ?_, ?_, ?_, ?_, ?_, ?_, ?_, ?_, ?_, ?_, ?_, ?_, ?_, ?_, ?_, ?_, ?_, ?_, ?_, ?_, ?_, ?_, ?_, ?_, ?_, ?_, ?_, ?_, ?_, ?_, ?_, ?_, trivial⟩
          · intro ac wc h K hK
            have b8 : ac.tmps.getD 8 undef = .int .i64 0 := (h.base 8 (by decide)).trans rfl
            go_simp
            exact hK (.int .i64 0) wc (Chg.refl _ wc) rfl trivial
          · intro ac wc h K hK
            have d54 : ac.tmps.getD 54 undef = .int .i64 0 := h.dep ⟨0, .data⟩ (by simp) rfl 54 rfl
            go_simp
            exact hK (.bool true) wc (Chg.refl _ wc) rfl trivial
          · intro ac wc h K hK
            have d55 : ac.tmps.getD 55 undef = .bool true := h.dep ⟨1, .data⟩ (by simp) rfl 55 rfl
            go_simp
            exact hK (.bool true) wc (Chg.refl _ wc) rfl trivial
          · intro ac wc h K hK
            have b9 : ac.tmps.getD 9 undef = .slice (some ⟨g, 0, none⟩) 1 lc := (h.base 9 (by decide)).trans rfl
            have g56 : ac.tmps[56]? = some (.bool true) := getElem_of_getD (h.dep ⟨2, .guard⟩ (by simp) rfl 56 rfl)
            go_simp
            exact hK (.slice (some ⟨g, 0, none⟩) 1 lc) wc (Chg.refl _ wc) rfl trivial
          · intro ac wc h K hK
            have d57 : ac.tmps.getD 57 undef = .slice (some ⟨g, 0, none⟩) 1 lc := h.dep ⟨3, .data⟩ (by simp) rfl 57 rfl
            have g56 : ac.tmps[56]? = some (.bool true) := getElem_of_getD (h.dep ⟨2, .guard⟩ (by simp) rfl 56 rfl)
            go_simp
            exact hK (.int .i64 1) wc (Chg.refl _ wc) rfl trivial
          · intro ac wc h K hK
            have d58 : ac.tmps.getD 58 undef = .int .i64 1 := h.dep ⟨4, .data⟩ (by simp) rfl 58 rfl
            have g56 : ac.tmps[56]? = some (.bool true) := getElem_of_getD (h.dep ⟨2, .guard⟩ (by simp) rfl 56 rfl)
            go_simp
            exact hK (.bool true) wc (Chg.refl _ wc) rfl trivial
          · intro ac wc h K hK
            have d56 : ac.tmps.getD 56 undef = .bool true := h.dep ⟨2, .data⟩ (by simp) rfl 56 rfl
            have d59 : ac.tmps.getD 59 undef = .bool true := h.dep ⟨5, .data⟩ (by simp) rfl 59 rfl
            go_simp
            exact hK (.bool true) wc (Chg.refl _ wc) rfl trivial
          · intro ac wc h K hK
            have d60 : ac.tmps.getD 60 undef = .bool true := h.dep ⟨6, .data⟩ (by simp) rfl 60 rfl
            go_simp
            exact hK (.bool true) wc (Chg.refl _ wc) rfl trivial
          · intro ac wc h K hK
            have b9 : ac.tmps.getD 9 undef = .slice (some ⟨g, 0, none⟩) 1 lc := (h.base 9 (by decide)).trans rfl
            have g61 : ac.tmps[61]? = some (.bool true) := getElem_of_getD (h.dep ⟨7, .guard⟩ (by simp) rfl 61 rfl)
            go_simp
            exact hK (.slice (some ⟨g, 0, none⟩) 1 lc) wc (Chg.refl _ wc) rfl trivial
          · intro ac wc h K hK
            have d62 : ac.tmps.getD 62 undef = .slice (some ⟨g, 0, none⟩) 1 lc := h.dep ⟨8, .data⟩ (by simp) rfl 62 rfl
            have g61 : ac.tmps[61]? = some (.bool true) := getElem_of_getD (h.dep ⟨7, .guard⟩ (by simp) rfl 61 rfl)
            go_simp
            exact hK (.pointer (some ⟨g, 0, none⟩)) wc (Chg.refl _ wc) rfl trivial
          · intro ac wc h K hK
            have d63 : ac.tmps.getD 63 undef = .pointer (some ⟨g, 0, none⟩) := h.dep ⟨9, .data⟩ (by simp) rfl 63 rfl
            have g61 : ac.tmps[61]? = some (.bool true) := getElem_of_getD (h.dep ⟨7, .guard⟩ (by simp) rfl 61 rfl)
            have hq : wc.cell? ⟨g, 0, none⟩ = some x := h.pre
            go_simp
            exact hK (x) wc (Chg.refl _ wc) rfl trivial
          · intro ac wc h K hK
            have d64 : ac.tmps.getD 64 undef = x := h.dep ⟨10, .data⟩ (by simp) rfl 64 rfl
            have g61 : ac.tmps[61]? = some (.bool true) := getElem_of_getD (h.dep ⟨7, .guard⟩ (by simp) rfl 61 rfl)
            have hq := run_toString wc 5 _ _ h.pre
            go_simp
            exact hK (.string (strOf bs)) wc (Chg.refl _ wc) rfl trivial
          · intro ac wc h K hK
            have b5 : ac.tmps.getD 5 undef = .slice (some ⟨B, 0, none⟩) k k := (h.base 5 (by decide)).trans rfl
            have g61 : ac.tmps[61]? = some (.bool true) := getElem_of_getD (h.dep ⟨7, .guard⟩ (by simp) rfl 61 rfl)
            go_simp
            exact hK (.slice (some ⟨B, 0, none⟩) k k) wc (Chg.refl _ wc) rfl trivial
          · intro ac wc h K hK
            have d66 : ac.tmps.getD 66 undef = .slice (some ⟨B, 0, none⟩) k k := h.dep ⟨12, .data⟩ (by simp) rfl 66 rfl
            have g61 : ac.tmps[61]? = some (.bool true) := getElem_of_getD (h.dep ⟨7, .guard⟩ (by simp) rfl 61 rfl)
            have hq := run_toString wc 5 _ _ h.pre
            go_simp
            exact hK (.string (strOf bs)) wc (Chg.refl _ wc) rfl trivial
          · intro ac wc h K hK
            have d65 : ac.tmps.getD 65 undef = .string (strOf bs) := h.dep ⟨11, .data⟩ (by simp) rfl 65 rfl
            have d67 : ac.tmps.getD 67 undef = .string (strOf bs) := h.dep ⟨13, .data⟩ (by simp) rfl 67 rfl
            have g61 : ac.tmps[61]? = some (.bool true) := getElem_of_getD (h.dep ⟨7, .guard⟩ (by simp) rfl 61 rfl)
            go_simp
            exact hK (.bool true) wc (Chg.refl _ wc) rfl trivial
          · intro ac wc h K hK
            have d61 : ac.tmps.getD 61 undef = .bool true := h.dep ⟨7, .data⟩ (by simp) rfl 61 rfl
            have d68 : ac.tmps.getD 68 undef = .bool true := h.dep ⟨14, .data⟩ (by simp) rfl 68 rfl
            go_simp
            exact hK (.bool true) wc (Chg.refl _ wc) rfl trivial
          · intro ac wc h K hK
            have d69 : ac.tmps.getD 69 undef = .bool true := h.dep ⟨15, .data⟩ (by simp) rfl 69 rfl
            go_simp
            exact hK (.bool true) wc (Chg.refl _ wc) rfl trivial
          · intro ac wc h K hK
            have b10 : ac.tmps.getD 10 undef = .int .i64 (N : Int) := (h.base 10 (by decide)).trans rfl
            have g70 : ac.tmps[70]? = some (.bool true) := getElem_of_getD (h.dep ⟨16, .guard⟩ (by simp) rfl 70 rfl)
            go_simp
            exact hK (.int .i64 (N : Int)) wc (Chg.refl _ wc) rfl trivial
          · intro ac wc h K hK
            have b5 : ac.tmps.getD 5 undef = .slice (some ⟨B, 0, none⟩) k k := (h.base 5 (by decide)).trans rfl
            have g70 : ac.tmps[70]? = some (.bool true) := getElem_of_getD (h.dep ⟨16, .guard⟩ (by simp) rfl 70 rfl)
            go_simp
            exact hK (.slice (some ⟨B, 0, none⟩) k k) wc (Chg.refl _ wc) rfl trivial
          · intro ac wc h K hK
            have d72 : ac.tmps.getD 72 undef = .slice (some ⟨B, 0, none⟩) k k := h.dep ⟨18, .data⟩ (by simp) rfl 72 rfl
            have g70 : ac.tmps[70]? = some (.bool true) := getElem_of_getD (h.dep ⟨16, .guard⟩ (by simp) rfl 70 rfl)
            go_simp
            exact hK (.int .i64 (k : Int)) wc (Chg.refl _ wc) rfl trivial
          · intro ac wc h K hK
            have d73 : ac.tmps.getD 73 undef = .int .i64 (k : Int) := h.dep ⟨19, .data⟩ (by simp) rfl 73 rfl
            have g70 : ac.tmps[70]? = some (.bool true) := getElem_of_getD (h.dep ⟨16, .guard⟩ (by simp) rfl 70 rfl)
            go_simp
            refine (HBl.out wc).mono ?_
            rintro e w1 ⟨rfl, rfl⟩
            exact hK _ wc (Chg.refl _ wc) rfl trivial
          · intro ac wc h K hK
            have d71 : ac.tmps.getD 71 undef = .int .i64 (N : Int) := h.dep ⟨17, .data⟩ (by simp) rfl 71 rfl
            have d74 : ac.tmps.getD 74 undef = .int .i64 (N : Int) := h.dep ⟨20, .data⟩ (by simp) rfl 74 rfl
            have g70 : ac.tmps[70]? = some (.bool true) := getElem_of_getD (h.dep ⟨16, .guard⟩ (by simp) rfl 70 rfl)
            go_simp
            exact hK (.bool true) wc (Chg.refl _ wc) rfl trivial
          · intro ac wc h K hK
            have d70 : ac.tmps.getD 70 undef = .bool true := h.dep ⟨16, .data⟩ (by simp) rfl 70 rfl
            have d75 : ac.tmps.getD 75 undef = .bool true := h.dep ⟨21, .data⟩ (by simp) rfl 75 rfl
            go_simp
            exact hK (.bool true) wc (Chg.refl _ wc) rfl trivial
          · intro ac wc h K hK
            have d76 : ac.tmps.getD 76 undef = .bool true := h.dep ⟨22, .data⟩ (by simp) rfl 76 rfl
            go_simp
            exact hK (.bool true) wc (Chg.refl _ wc) rfl trivial
          · intro ac wc h K hK
            have b7 : ac.tmps.getD 7 undef = .slice bo (64 * N) bcap := (h.base 7 (by decide)).trans rfl
            have g77 : ac.tmps[77]? = some (.bool true) := getElem_of_getD (h.dep ⟨23, .guard⟩ (by simp) rfl 77 rfl)
            go_simp
            exact hK (.slice bo (64 * N) bcap) wc (Chg.refl _ wc) rfl trivial
          · intro ac wc h K hK
            have d78 : ac.tmps.getD 78 undef = .slice bo (64 * N) bcap := h.dep ⟨24, .data⟩ (by simp) rfl 78 rfl
            have g77 : ac.tmps[77]? = some (.bool true) := getElem_of_getD (h.dep ⟨23, .guard⟩ (by simp) rfl 77 rfl)
            go_simp
            exact hK (.int .i64 (64 * (N : Int))) wc (Chg.refl _ wc) rfl trivial
          · intro ac wc h K hK
            have b10 : ac.tmps.getD 10 undef = .int .i64 (N : Int) := (h.base 10 (by decide)).trans rfl
            have g77 : ac.tmps[77]? = some (.bool true) := getElem_of_getD (h.dep ⟨23, .guard⟩ (by simp) rfl 77 rfl)
            go_simp
            exact hK (.int .i64 (N : Int)) wc (Chg.refl _ wc) rfl trivial
          · intro ac wc h K hK
            have d80 : ac.tmps.getD 80 undef = .int .i64 (N : Int) := h.dep ⟨26, .data⟩ (by simp) rfl 80 rfl
            have g77 : ac.tmps[77]? = some (.bool true) := getElem_of_getD (h.dep ⟨23, .guard⟩ (by simp) rfl 77 rfl)
            have hN1 := HN1.out
            have hw : IntKind.i64.wrap ((N : Int) * 64) = (N : Int) * 64 := by simp [IntKind.wrap, IntKind.bits, IntKind.signed]; omega
            go_simp
            exact hK (.int .i64 ((N : Int) * 64)) wc (Chg.refl _ wc) rfl trivial
          · intro ac wc h K hK
            have d79 : ac.tmps.getD 79 undef = .int .i64 (64 * (N : Int)) := h.dep ⟨25, .data⟩ (by simp) rfl 79 rfl
            have d81 : ac.tmps.getD 81 undef = .int .i64 ((N : Int) * 64) := h.dep ⟨27, .data⟩ (by simp) rfl 81 rfl
            have g77 : ac.tmps[77]? = some (.bool true) := getElem_of_getD (h.dep ⟨23, .guard⟩ (by simp) rfl 77 rfl)
            have hq : ((64 * (N : Int)) == ((N : Int) * 64)) = true := by rw [beq_iff_eq]; omega
            go_simp
            exact hK (.bool true) wc (Chg.refl _ wc) rfl trivial
          · intro ac wc h K hK
            have d77 : ac.tmps.getD 77 undef = .bool true := h.dep ⟨23, .data⟩ (by simp) rfl 77 rfl
            have d82 : ac.tmps.getD 82 undef = .bool true := h.dep ⟨28, .data⟩ (by simp) rfl 82 rfl
            go_simp
            exact hK (.bool true) wc (Chg.refl _ wc) rfl trivial
          · intro ac wc h K hK
            have d83 : ac.tmps.getD 83 undef = .bool true := h.dep ⟨29, .data⟩ (by simp) rfl 83 rfl
            go_simp
            exact hK (.bool true) wc (Chg.refl _ wc) rfl trivial
          · intro ac wc h K hK
            have g84 : ac.tmps[84]? = some (.bool true) := getElem_of_getD (h.dep ⟨30, .guard⟩ (by simp) rfl 84 rfl)
            go_simp
            refine (Blocks_no (-1) wc (.inl (by decide))).mono ?_
            rintro e w1 ⟨rfl, rfl⟩
            exact hK _ wc (Chg.refl _ wc) rfl trivial
          · intro ac wc h K hK
            have d85 : ac.tmps.getD 85 undef = .int .i64 0 := h.dep ⟨31, .data⟩ (by simp) rfl 85 rfl
            have g84 : ac.tmps[84]? = some (.bool true) := getElem_of_getD (h.dep ⟨30, .guard⟩ (by simp) rfl 84 rfl)
            go_simp
            exact hK (.bool true) wc (Chg.refl _ wc) rfl trivial
          · intro ac wc h K hK
            have d84 : ac.tmps.getD 84 undef = .bool true := h.dep ⟨30, .data⟩ (by simp) rfl 84 rfl
            have d86 : ac.tmps.getD 86 undef = .bool true := h.dep ⟨32, .data⟩ (by simp) rfl 86 rfl
            go_simp
            exact hK (.bool true) wc (Chg.refl _ wc) rfl trivial
          · intro ac wc h K hK
            have d87 : ac.tmps.getD 87 undef = .bool true := h.dep ⟨33, .data⟩ (by simp) rfl 87 rfl
            go_simp
            exact hK (.bool true) wc (Chg.refl _ wc) rfl trivial
        intro acL wcL hc hall hpsi hput
        have hact := hput [(54, .int .i64 0), (55, .bool true), (56, .bool true), (57, .slice (some ⟨g, 0, none⟩) 1 lc), (58, .int .i64 1), (59, .bool true), (60, .bool true), (61, .bool true), (62, .slice (some ⟨g, 0, none⟩) 1 lc), (63, .pointer (some ⟨g, 0, none⟩)), (64, x), (65, .string (strOf bs)), (66, .slice (some ⟨B, 0, none⟩) k k), (67, .string (strOf bs)), (68, .bool true), (69, .bool true), (70, .bool true), (71, .int .i64 (N : Int)), (72, .slice (some ⟨B, 0, none⟩) k k), (73, .int .i64 (k : Int)), (74, .int .i64 (N : Int)), (75, .bool true), (76, .bool true), (77, .bool true), (78, .slice bo (64 * N) bcap), (79, .int .i64 (64 * (N : Int))), (80, .int .i64 (N : Int)), (81, .int .i64 ((N : Int) * 64)), (82, .bool true), (83, .bool true), (84, .bool true), (85, .int .i64 0), (86, .bool true), (87, .bool true), (4, .bool true)] rfl ⟨hall 0 54 rfl, hall 1 55 rfl, hall 2 56 rfl, hall 3 57 rfl, hall 4 58 rfl, hall 5 59 rfl, hall 6 60 rfl, hall 7 61 rfl, hall 8 62 rfl, hall 9 63 rfl, hall 10 64 rfl, hall 11 65 rfl, hall 12 66 rfl, hall 13 67 rfl, hall 14 68 rfl, hall 15 69 rfl, hall 16 70 rfl, hall 17 71 rfl, hall 18 72 rfl, hall 19 73 rfl, hall 20 74 rfl, hall 21 75 rfl, hall 22 76 rfl, hall 23 77 rfl, hall 24 78 rfl, hall 25 79 rfl, hall 26 80 rfl, hall 27 81 rfl, hall 28 82 rfl, hall 29 83 rfl, hall 30 84 rfl, hall 31 85 rfl, hall 32 86 rfl, hall 33 87 rfl, hall 34 4 rfl, trivial⟩
        clear hput hall
        subst hact
        have HCR := Lib.hid (show Chg [] w5 wcL from hc)
        clear hpsi hc p
        simp only [Act.puts, Act.put]
        go_simp
        have HC6 := Lib.hid (HC5.out.then HCR.out)
        go_wp2_with fail
        go_ret
        exact ⟨rfl, HC6.out⟩
end Go.Proofs.Ytgmgmjljjbcgjaa

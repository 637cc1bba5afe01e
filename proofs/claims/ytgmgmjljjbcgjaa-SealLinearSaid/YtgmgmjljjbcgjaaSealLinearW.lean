/- SealLinear: its walk. -/
import Derived.Test.YtgmgmjljjbcgjaaLaw2
import Derived.BigRegion
namespace Go.Proofs.Ytgmgmjljjbcgjaa
open Go Go.RowKit NSX

/-- The bytes xored, as far as the loop has come. -/
def xored (a b : List UInt8) (k n : Nat) : List UInt8 := (List.zipWith (· ^^^ ·) (a.take n) (b.take n)).take k ++ List.replicate (n - k) 0
theorem xored_length (a b : List UInt8) (k n : Nat) (hk : k ≤ n) (ha : n ≤ a.length) (hb : n ≤ b.length) : (xored a b k n).length = n := by
  simp [xored]; omega
theorem xored_step (a b : List UInt8) (k n : Nat) (hk : k < n) (ha : n ≤ a.length) (hb : n ≤ b.length) : (xored a b k n).set k (a.getD k 0 ^^^ b.getD k 0) = xored a b (k + 1) n := by
  unfold xored
  have hr : List.replicate (n - k) (0 : UInt8) = 0 :: List.replicate (n - (k + 1)) 0 := by
    rw [show n - k = (n - (k + 1)) + 1 from by omega, List.replicate_succ]
  have hlen : ((List.zipWith (· ^^^ ·) (a.take n) (b.take n)).take k).length = k := by simp; omega
  have hg : (List.zipWith (· ^^^ ·) (a.take n) (b.take n))[k]? = some (a.getD k 0 ^^^ b.getD k 0) := by
    rw [List.getElem?_zipWith, List.getElem?_take, List.getElem?_take, if_pos hk, if_pos hk, List.getD_eq_getElem?_getD, List.getD_eq_getElem?_getD, List.getElem?_eq_getElem (by omega), List.getElem?_eq_getElem (by omega)]
    rfl
  rw [List.set_append_right _ _ (by omega), hlen, Nat.sub_self, hr, List.set_cons_zero, List.take_add_one, hg, List.append_assoc]
  rfl

theorem xor_zeros : ∀ (x : List UInt8), List.zipWith (· ^^^ ·) x (List.replicate x.length 0) = x
  | [] => rfl
  | c :: x => by rw [List.length_cons, List.replicate_succ, List.zipWith_cons_cons, xor_zeros x, UInt8.xor_zero]
theorem crc_linear (l m : List UInt8) (n : Nat) (hl : l.length = n) (hm : m.length = n) : crc (List.zipWith (· ^^^ ·) l m) = crc l ^^^ crc m ^^^ crc (List.replicate n 0) := by
  have h1 := crcFrom_xor l m begin0 begin0 (by omega)
  rw [BitVec.xor_self] at h1
  have hx : (List.zipWith (· ^^^ ·) l m).length = n := by simp; omega
  have h2 := crcFrom_xor (List.zipWith (· ^^^ ·) l m) (List.replicate n 0) 0#24 begin0 (by simp [hx])
  have h3 := xor_zeros (List.zipWith (· ^^^ ·) l m)
  rw [hx] at h3
  rw [BitVec.zero_xor, h3, h1] at h2
  exact h2

set_option maxRecDepth 100000 in
set_option maxHeartbeats 1000000 in
theorem SealLinear_calls (a b : ByteArray) (w : World) : Calls Try.prog 9 #[.string a, .string b] w fun e w' => e = .returned (.bool true) ∧ Chg [] w w' := by
  go_enter Try.func9, Try.ntmps9
  go_wp2_with fail
  refine (awake2_calls _).mono ?_
  rintro e w1 ⟨rfl, hc1⟩
  have HC1 := Lib.hid hc1
  clear hc1
  simp only []
  by_cases hbig : a.size ≤ 5000 ∧ b.size ≤ 5000
  · obtain ⟨ha, hb⟩ := hbig
    have ha2 : ¬ ((5000 : Int) < (a.size : Int)) := by omega
    have hb2 : ¬ ((5000 : Int) < (b.size : Int)) := by omega
    obtain ⟨n, hn⟩ : ∃ n : Nat, n = min a.size b.size := ⟨_, rfl⟩
    have hmin : (if b.size < a.size then (b.size : Int) else (a.size : Int)) = (n : Int) := by split <;> omega
    have hna : n ≤ a.size := by omega
    have hnb : n ≤ b.size := by omega
    clear hn
    obtain ⟨X, hX⟩ : ∃ X, w1.heap.size = X := ⟨_, rfl⟩
    have HX := Lib.hid hX
    clear hX
    go_wp2_with (at_make; refine wpList_bmake _ rfl _ _ rfl X n n n rfl rfl rfl rfl (by omega) (by rw [HX.out]; exact Nat.le_refl _) ?_; rw [HX.out]; intro w2 hown hch)
    have HC2 := Lib.hid (HC1.out.then hch)
    have HO := Lib.hid hown
    have hXw : w.heap.size ≤ X := by rw [← HX.out]; exact HC1.out.size
    clear hown hch
    go_loopw [30] (fun i wr => ∃ k : Nat, k ≤ n ∧ i = .int .i64 k ∧ OwnB wr X (.slice (some ⟨X, 0, none⟩) n n) (xored a.data.toList b.data.toList k n) ∧ Chg [] w wr) (fun i _ => n - (intOf i).toNat)
    case atStart => exact ⟨0, by omega, rfl, by simpa [xored] using HO.out, HC2.out⟩
    case round =>
      obtain ⟨k, hk, rfl, ho, hc⟩ := hrel
      by_cases hlt : k < n
      · have hi2 : (k : Int) < (n : Int) := by omega
        have hia : k < a.size := by omega
        have hib : k < b.size := by omega
        have hx := xor_byte a[k] b[k]
        obtain ⟨hcell, hfr⟩ := ho.cell k (by rw [xored_length _ _ _ _ hk (by rw [str_len]; exact hna) (by rw [str_len]; exact hnb)]; exact hlt)
        have hst := ho.stored k (a[k] ^^^ b[k])
        have e := xored_step a.data.toList b.data.toList k n hlt (by rw [str_len]; exact hna) (by rw [str_len]; exact hnb)
        rw [str_get a k hia, str_get b k hib] at e
        rw [e] at hst
        have HO2 := Lib.hid hst
        have HC := Lib.hid (hc.setCell (p := ⟨X, k, none⟩) (.inr hXw) (u8 (a[k] ^^^ b[k])))
        clear ho hc hst e HO HC2
        go_wp2
        go_region
        go_wp2
        go_roundw
        case rel =>
          refine ⟨k + 1, by omega, by go_num, ?_, ?_⟩
          · exact HO2.out.then ((Chg.refl [] _).drew)
          · exact HC.out.drew
        case measure => simp [intOf]; omega
      · obtain rfl : k = n := by omega
        have hla : (xored a.data.toList b.data.toList k k) = List.zipWith (· ^^^ ·) (a.data.toList.take k) (b.data.toList.take k) := by
          unfold xored
          rw [Nat.sub_self, List.replicate_zero, List.append_nil, List.take_of_length_le (by simp; omega)]
        have hx1 := ho.isB
        rw [hla] at hx1
        have HX1 := Lib.hid hx1
        have HC2 := Lib.hid hc
        clear ho hc hx1 hla HO
        have hlen1 : (a.data.toList.take k).length = k := by rw [List.length_take, str_len]; omega
        have hlen2 : (b.data.toList.take k).length = k := by rw [List.length_take, str_len]; omega
        obtain ⟨A, hA⟩ : ∃ A, (crc (List.zipWith (· ^^^ ·) (a.data.toList.take k) (b.data.toList.take k))).toNat = A := ⟨_, rfl⟩
        obtain ⟨B, hB⟩ : ∃ B, (crc (a.data.toList.take k)).toNat = B := ⟨_, rfl⟩
        obtain ⟨C, hC⟩ : ∃ C, (crc (b.data.toList.take k)).toNat = C := ⟨_, rfl⟩
        obtain ⟨D, hD⟩ : ∃ D, (crc (List.replicate k 0)).toNat = D := ⟨_, rfl⟩
        have hlin := crc_linear (a.data.toList.take k) (b.data.toList.take k) k hlen1 hlen2
        have hBl : B < 16777216 := by rw [← hB]; exact (crc _).isLt
        have hCl : C < 16777216 := by rw [← hC]; exact (crc _).isLt
        have hDl : D < 16777216 := by rw [← hD]; exact (crc _).isLt
        have hBC : B ^^^ C < 2 ^ 24 := Nat.xor_lt_two_pow (by omega) (by omega)
        have HA := Lib.hid (show (crc (List.zipWith (· ^^^ ·) (a.data.toList.take k) (b.data.toList.take k))).toNat = A ∧ (crc (a.data.toList.take k)).toNat = B ∧ (crc (b.data.toList.take k)).toNat = C ∧ (crc (List.replicate k 0)).toNat = D ∧ A = (B ^^^ C) ^^^ D from
          ⟨hA, hB, hC, hD, by rw [← hA, ← hB, ← hC, ← hD, hlin, BitVec.toNat_xor, BitVec.toNat_xor]⟩)
        have HB := Lib.hid (show bits BinOp.xor IntKind.u32 (B : Int) (C : Int) = ((B ^^^ C : Nat) : Int) ∧ bits BinOp.xor IntKind.u32 ((B ^^^ C : Nat) : Int) (D : Int) = (((B ^^^ C) ^^^ D : Nat) : Int) from ⟨bits_xor_u32 _ _ (by omega) (by omega), bits_xor_u32 _ _ (by omega) (by omega)⟩)
        have HM := Lib.hid (show (a.extract 0 k).size = k ∧ (b.extract 0 k).size = k ∧ k ≤ 5000 from ⟨by rw [← str_len, extract_take _ _ hna, hlen1], by rw [← str_len, extract_take _ _ hnb, hlen2], by omega⟩)
        clear hA hB hC hD hlin hBl hCl hDl hBC hlen1 hlen2 hmin
        go_wp2_with fail
        let Φ : Nat → Value → World → Prop := fun i v w => match i with
          | 0 => v = .slice (some ⟨X, 0, none⟩) k k
          | 1 => v = w32 A
          | 2 => v = .string a
          | 3 => v = .int .i64 k
          | 4 => v = .string (a.extract 0 k)
          | 5 => IsB w 5 v (a.data.toList.take k)
          | 6 => v = w32 B
          | 7 => v = .string b
          | 8 => v = .int .i64 k
          | 9 => v = .string (b.extract 0 k)
          | 10 => IsB w 5 v (b.data.toList.take k)
          | 11 => v = w32 C
          | 12 => v = w32 (B ^^^ C)
          | 13 => v = .int .i64 k
          | 14 => IsB w 5 v (List.replicate k 0)
          | 15 => v = w32 D
          | 16 => v = w32 ((B ^^^ C) ^^^ D)
          | 17 => v = .bool true
          | 18 => v = .bool true
          | _ => True
        refine wp_region_each (by kernel_rfl) Φ ?_ (by kernel_rfl) (by kernel_rfl) (by kernel_rfl) ?_ ?_
        · intro i v w w1 h hc
          match i with
          | 0 => exact h
          | 1 => exact h
          | 2 => exact h
          | 3 => exact h
          | 4 => exact h
          | 5 => exact IsB.then h hc
          | 6 => exact h
          | 7 => exact h
          | 8 => exact h
          | 9 => exact h
          | 10 => exact IsB.then h hc
          | 11 => exact h
          | 12 => exact h
          | 13 => exact h
          | 14 => exact IsB.then h hc
          | 15 => exact h
          | 16 => exact h
          | 17 => exact h
          | 18 => exact h
          | _ + 19 => trivial
        · intro ac wc hc hd hs hall hb
          have hl : ac.tmps.getD 4 undef = .bool true := hall 18 4 rfl
          simp only [Exit.then]
          apply_assumption
          apply wp_ret
          refine bodyPost_ret (results_tmp rfl _ _ _) hd ?_
          exact ⟨congrArg Ending.returned hl, HC2.out.then hc⟩
        · refine ⟨?_, ?_, ?_, ?_, ?_, ?_, ?_, ?_, ?_, ?_, ?_, ?_, ?_, ?_, ?_, ?_, ?_, ?_, ?_, trivial⟩
          · intro ac wc h K hK
            have b6 : ac.tmps.getD 6 undef = .slice (some ⟨X, 0, none⟩) k k := (h.base 6 (by decide)).trans rfl
            go_simp
            exact hK (.slice (some ⟨X, 0, none⟩) k k) wc (Chg.refl [] wc) rfl
          · intro ac wc h K hK
            have d44 : ac.tmps.getD 44 undef = .slice (some ⟨X, 0, none⟩) k k := h.dep ⟨0, .data⟩ (by simp) rfl 44 rfl
            go_simp
            refine (Of_calls 5 _ _ wc (HX1.out.then h.chg)).mono ?_
            rintro e w1 ⟨rfl, hc1⟩
            exact hK _ w1 hc1 (congrArg w32 HA.out.1)
          · intro ac wc h K hK
            have b0 : ac.tmps.getD 0 undef = .string a := (h.base 0 (by decide)).trans rfl
            go_simp
            exact hK (.string a) wc (Chg.refl [] wc) rfl
          · intro ac wc h K hK
            have b5 : ac.tmps.getD 5 undef = .int .i64 k := (h.base 5 (by decide)).trans rfl
            go_simp
            exact hK (.int .i64 k) wc (Chg.refl [] wc) rfl
          · intro ac wc h K hK
            have d46 : ac.tmps.getD 46 undef = .string a := h.dep ⟨2, .data⟩ (by simp) rfl 46 rfl
            have d47 : ac.tmps.getD 47 undef = .int .i64 k := h.dep ⟨3, .data⟩ (by simp) rfl 47 rfl
            go_simp
            exact hK (.string (a.extract 0 k)) wc (Chg.refl [] wc) rfl
          · intro ac wc h K hK
            have d48 : ac.tmps.getD 48 undef = .string (a.extract 0 k) := h.dep ⟨4, .data⟩ (by simp) rfl 48 rfl
            obtain ⟨cap, w1, hr, hib, hc1, -⟩ := run_ofString wc (a.extract 0 k) (by rw [HM.out.1]; unfold maxLen; omega)
            rw [HM.out.1] at hr hib
            rw [extract_take _ _ hna] at hib
            go_simp
            exact hK _ w1 hc1 hib
          · intro ac wc h K hK
            obtain ⟨v49, e49, d49⟩ : ∃ x, ac.tmps.getD 49 undef = x ∧ (fun (v : Value) (w : World) => IsB w 5 v (a.data.toList.take k)) x wc := ⟨_, rfl, h.dep ⟨5, .data⟩ (by simp) rfl 49 rfl⟩
            go_simp
            refine (Of_calls 5 _ _ wc d49).mono ?_
            rintro e w1 ⟨rfl, hc1⟩
            exact hK _ w1 hc1 (congrArg w32 HA.out.2.1)
          · intro ac wc h K hK
            have b1 : ac.tmps.getD 1 undef = .string b := (h.base 1 (by decide)).trans rfl
            go_simp
            exact hK (.string b) wc (Chg.refl [] wc) rfl
          · intro ac wc h K hK
            have b5 : ac.tmps.getD 5 undef = .int .i64 k := (h.base 5 (by decide)).trans rfl
            go_simp
            exact hK (.int .i64 k) wc (Chg.refl [] wc) rfl
          · intro ac wc h K hK
            have d51 : ac.tmps.getD 51 undef = .string b := h.dep ⟨7, .data⟩ (by simp) rfl 51 rfl
            have d52 : ac.tmps.getD 52 undef = .int .i64 k := h.dep ⟨8, .data⟩ (by simp) rfl 52 rfl
            go_simp
            exact hK (.string (b.extract 0 k)) wc (Chg.refl [] wc) rfl
          · intro ac wc h K hK
            have d53 : ac.tmps.getD 53 undef = .string (b.extract 0 k) := h.dep ⟨9, .data⟩ (by simp) rfl 53 rfl
            obtain ⟨cap, w1, hr, hib, hc1, -⟩ := run_ofString wc (b.extract 0 k) (by rw [HM.out.2.1]; unfold maxLen; omega)
            rw [HM.out.2.1] at hr hib
            rw [extract_take _ _ hnb] at hib
            go_simp
            exact hK _ w1 hc1 hib
          · intro ac wc h K hK
            obtain ⟨v54, e54, d54⟩ : ∃ x, ac.tmps.getD 54 undef = x ∧ (fun (v : Value) (w : World) => IsB w 5 v (b.data.toList.take k)) x wc := ⟨_, rfl, h.dep ⟨10, .data⟩ (by simp) rfl 54 rfl⟩
            go_simp
            refine (Of_calls 5 _ _ wc d54).mono ?_
            rintro e w1 ⟨rfl, hc1⟩
            exact hK _ w1 hc1 (congrArg w32 HA.out.2.2.1)
          · intro ac wc h K hK
            obtain ⟨v50, e50, d50⟩ : ∃ x, ac.tmps.getD 50 undef = x ∧ (fun (v : Value) (w : World) => v = w32 B) x wc := ⟨_, rfl, h.dep ⟨6, .data⟩ (by simp) rfl 50 rfl⟩
            obtain ⟨v55, e55, d55⟩ : ∃ x, ac.tmps.getD 55 undef = x ∧ (fun (v : Value) (w : World) => v = w32 C) x wc := ⟨_, rfl, h.dep ⟨11, .data⟩ (by simp) rfl 55 rfl⟩
            rw [d50] at e50
            rw [d55] at e55
            clear d50 d55
            have hq := HB.out.1
            go_simp
            exact hK (w32 (B ^^^ C)) wc (Chg.refl [] wc) rfl
          · intro ac wc h K hK
            have b5 : ac.tmps.getD 5 undef = .int .i64 k := (h.base 5 (by decide)).trans rfl
            go_simp
            exact hK (.int .i64 k) wc (Chg.refl [] wc) rfl
          · intro ac wc h K hK
            have d57 : ac.tmps.getD 57 undef = .int .i64 k := h.dep ⟨13, .data⟩ (by simp) rfl 57 rfl
            obtain ⟨w1, hr, hown, hc1⟩ := run_bmake wc k (by omega)
            go_simp
            exact hK _ w1 hc1 hown.isB
          · intro ac wc h K hK
            obtain ⟨v58, e58, d58⟩ : ∃ x, ac.tmps.getD 58 undef = x ∧ (fun (v : Value) (w : World) => IsB w 5 v (List.replicate k 0)) x wc := ⟨_, rfl, h.dep ⟨14, .data⟩ (by simp) rfl 58 rfl⟩
            go_simp
            refine (Of_calls 5 _ _ wc d58).mono ?_
            rintro e w1 ⟨rfl, hc1⟩
            exact hK _ w1 hc1 (congrArg w32 HA.out.2.2.2.1)
          · intro ac wc h K hK
            have d56 : ac.tmps.getD 56 undef = w32 (B ^^^ C) := h.dep ⟨12, .data⟩ (by simp) rfl 56 rfl
            obtain ⟨v59, e59, d59⟩ : ∃ x, ac.tmps.getD 59 undef = x ∧ (fun (v : Value) (w : World) => v = w32 D) x wc := ⟨_, rfl, h.dep ⟨15, .data⟩ (by simp) rfl 59 rfl⟩
            rw [d59] at e59
            clear d59
            have hq := HB.out.2
            go_simp
            exact hK (w32 ((B ^^^ C) ^^^ D)) wc (Chg.refl [] wc) rfl
          · intro ac wc h K hK
            obtain ⟨v45, e45, d45⟩ : ∃ x, ac.tmps.getD 45 undef = x ∧ (fun (v : Value) (w : World) => v = w32 A) x wc := ⟨_, rfl, h.dep ⟨1, .data⟩ (by simp) rfl 45 rfl⟩
            have d60 : ac.tmps.getD 60 undef = w32 ((B ^^^ C) ^^^ D) := h.dep ⟨16, .data⟩ (by simp) rfl 60 rfl
            rw [d45] at e45
            clear d45
            have hq := HA.out.2.2.2.2
            go_simp
            exact hK (.bool true) wc (Chg.refl [] wc) rfl
          · intro ac wc h K hK
            have d61 : ac.tmps.getD 61 undef = .bool true := h.dep ⟨17, .data⟩ (by simp) rfl 61 rfl
            go_simp
            exact hK (.bool true) wc (Chg.refl [] wc) rfl
  · have hb2 : decide ((5000 : Int) < (a.size : Int)) = true ∨ (decide ((5000 : Int) < (a.size : Int)) = false ∧ decide ((5000 : Int) < (b.size : Int)) = true) := by
      by_cases h : (5000 : Int) < (a.size : Int)
      · left; exact decide_eq_true h
      · right; exact ⟨decide_eq_false h, decide_eq_true (by omega)⟩
    clear hbig
    rcases hb2 with h1 | ⟨h1, h2⟩
    all_goals
      go_wp2_with fail
      refine (awake2_calls _).mono ?_
      rintro e w5 ⟨rfl, hc5⟩
      have HC5 := Lib.hid (HC1.out.then hc5)
      clear hc5
      go_wp2
      go_ret
      exact ⟨rfl, HC5.out⟩
end Go.Proofs.Ytgmgmjljjbcgjaa

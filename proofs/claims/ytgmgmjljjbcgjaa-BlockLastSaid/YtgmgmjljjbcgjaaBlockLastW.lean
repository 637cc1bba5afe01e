/- BlockLast: its walk. -/
import Derived.Test.YtgmgmjljjbcgjaaL8
import Derived.Test.YtgmgmjljjbcgjaaReg
namespace Go.Proofs.Ytgmgmjljjbcgjaa
open Go Go.RowKit

theorem patch_patch (l : List UInt8) (off : Nat) (a b : List UInt8) (h : off + a.length ≤ l.length) (hb : b.length ≤ a.length) : patch (patch l off a) off b = patch l off (b ++ a.drop b.length) := by
  unfold patch
  rw [List.take_append_of_le_length (by simp; omega), List.take_of_length_le (by simp; omega)]
  congr 1
  rw [List.append_assoc]
  congr 1
  rw [List.drop_append, List.drop_of_length_le (by simp; omega), List.length_take, Nat.min_eq_left (by omega), List.nil_append, List.drop_append_of_le_length (by omega)]
  congr 1
  · congr 1; omega
  · congr 1; simp; omega

theorem last1 (m k : Nat) (hk : k < 1024) (b : List UInt8) (hb : b.length = 64) :
    ({ St.new with armed := decide ((0 : Int) ≤ 1), left := 1, part := (m : Int) } : St).write k b = ({ St.new with armed := true, left := 0, part := (m : Int), writes := 1, bytes := patch St.new.bytes (k * 64) b }, 0) := by
  unfold St.write
  have h1 : ¬ (St.new.down = true) := by show ¬ (false = true); simp
  have h3 : wrap64 (St.new.writes + 1) = 1 := by show wrap64 (0 + 1) = 1; unfold wrap64; omega
  have h4 : wrap64 ((1 : Int) - 1) = 0 := by unfold wrap64; omega
  simp only []
  rw [if_neg h1, if_neg (by omega), if_neg (by omega), if_neg (by simp), h3, h4, Int.toNat_natCast]
  simp
theorem last2 (m k : Nat) (hm : m ≤ 64) (hk : k < 1024) (l b : List UInt8) (hb : b.length = 64) :
    ({ St.new with armed := true, left := 0, part := (m : Int), writes := 1, bytes := l } : St).write k b = ({ St.new with armed := false, left := 0, part := (m : Int), down := true, writes := 2, bytes := patch l (k * 64) (b.take m) }, 13) := by
  unfold St.write
  have h1 : ¬ (St.new.down = true) := by show ¬ (false = true); simp
  have h3 : wrap64 ((1 : Int) + 1) = 2 := by unfold wrap64; omega
  have h4 : (max 0 (min (m : Int) 64)).toNat = m := by omega
  simp only []
  rw [if_neg h1, if_neg (by omega), if_neg (by omega), if_pos (by simp), h3, h4, Int.toNat_natCast]
theorem last3 (st : St) (hd : st.down = true) (k : Int) (b : List UInt8) : st.write k b = (st, 13) := by
  unfold St.write
  rw [if_pos hd]

set_option maxRecDepth 100000 in
set_option maxHeartbeats 1000000 in
theorem BlockLast_calls (n : Nat) (hn : n ≤ 65535) (a b : Int) (ua ub : UInt8) (ha : a = (ua.toNat : Int)) (hb : b = (ub.toNat : Int)) (p : Nat) (hp : p ≤ 255) (w : World) :
    Calls Try.prog 4 #[.int .u16 n, .int .u8 a, .int .u8 b, .int .u8 p] w fun e w' => e = .returned (.bool true) ∧ Chg [] w w' := by
  obtain ⟨k, hk⟩ : ∃ k, n % 1024 = k := ⟨_, rfl⟩
  have hk1 : k < 1024 := by omega
  have hkn : ((n : Int) % 1024) = (k : Int) := by omega
  obtain ⟨m, hm⟩ : ∃ m, p % 65 = m := ⟨_, rfl⟩
  have hm1 : m ≤ 64 := by omega
  have hmp : ((p : Int) % 65) = (m : Int) := by omega
  have HA := Lib.hid ha
  have HB := Lib.hid hb
  clear ha hb hk hm
  go_enter Try.func4, Try.ntmps4
  go_wp2_with fail
  refine (awake8_calls _).mono ?_
  rintro e w1 ⟨rfl, hc1⟩
  have HC1 := Lib.hid hc1
  clear hc1
  go_wp2_with fail
  refine (New_calls _).mono ?_
  rintro e w2 ⟨rfl, hs, hc⟩
  obtain ⟨S, hS⟩ : ∃ S, w1.heap.size = S := ⟨_, rfl⟩
  rw [hS] at hs ⊢
  have hSw : w.heap.size ≤ S := by rw [← hS]; exact HC1.out.size
  have hrow : ∀ x ∈ [S], x ∈ ([] : List Nat) ∨ w.heap.size ≤ x := by intro x hx; simp at hx; subst hx; exact .inr hSw
  have HRow := Lib.hid hrow
  have HS := Lib.hid hs
  have HC2 := Lib.hid (HC1.out.then hc)
  clear hs hc HC1 hS hrow
  simp only []
  go_wp2_with fail
  refine (Arm_calls S 1 m St.new _ HS.out).mono ?_
  rintro e w3 ⟨rfl, hs, hc⟩
  have HS3 := Lib.hid hs
  have HC3 := Lib.hid (HC2.out.trans hc HRow.out)
  clear hs hc HC2 HS
  simp only []
  go_wp2_with fail
  refine (full_calls a ua HA.out _).mono ?_
  rintro e w4 ⟨v, rfl, hv, hc⟩
  have HW := Lib.hid (Write_calls S k _ v _ w4 (HS3.out.chg hc (by simp)) hv.isB)
  have HC4 := Lib.hid (HC3.out.then hc)
  clear hv hc HC3 HS3
  simp only []
  go_wp2_with fail
  refine HW.out.mono ?_
  rintro e w5 ⟨rfl, hs, hc⟩
  rw [last1 m k hk1 _ List.length_replicate] at hs ⊢
  have HS5 := Lib.hid hs
  have HC5 := Lib.hid (HC4.out.trans hc HRow.out)
  clear hs hc HC4 HW
  simp only []
  go_wp2_with fail
  refine (full_calls b ub HB.out _).mono ?_
  rintro e w6 ⟨v6, rfl, hv, hc⟩
  have HW := Lib.hid (Write_calls S k _ v6 _ w6 (HS5.out.chg hc (by simp)) hv.isB)
  have HC6 := Lib.hid (HC5.out.then hc)
  clear hv hc HC5 HS5
  simp only []
  go_wp2_with fail
  refine HW.out.mono ?_
  rintro e w7 ⟨rfl, hs, hc⟩
  rw [last2 m k hm1 hk1 _ _ List.length_replicate] at hs ⊢
  have HS7 := Lib.hid hs
  have HC7 := Lib.hid (HC6.out.trans hc HRow.out)
  clear hs hc HC6 HW
  simp only []
  go_wp2_with fail
  refine (full_calls a ua HA.out _).mono ?_
  rintro e w8 ⟨v8, rfl, hv, hc⟩
  have HW := Lib.hid (Write_calls S k _ v8 _ w8 (HS7.out.chg hc (by simp)) hv.isB)
  have HC8 := Lib.hid (HC7.out.then hc)
  clear hv hc HC7 HS7
  simp only []
  go_wp2_with fail
  refine HW.out.mono ?_
  rintro e w9 ⟨rfl, hs, hc⟩
  rw [last3 _ rfl] at hs ⊢
  have HS9 := Lib.hid hs
  have HC9 := Lib.hid (HC8.out.trans hc HRow.out)
  clear hs hc HC8 HW
  simp only []
  go_wp2_with fail
  refine (Read_no S k _ _ HS9.out 13 rfl (by decide)).mono ?_
  rintro e w10 ⟨rfl, rfl⟩
  simp only []
  go_wp2_with fail
  refine (Power_calls S _ _ HS9.out).mono ?_
  rintro e w11 ⟨rfl, hs, hc⟩
  have hrd := Read_yes S k _ w11 hs rfl hk1
  have HRd := Lib.hid hrd
  have HS11 := Lib.hid hs
  have HC11 := Lib.hid (HC9.out.trans hc HRow.out)
  clear hs hc HC9 HS9 hrd
  simp only []
  go_wp2_with fail
  refine HRd.out.mono ?_
  rintro e w12 ⟨x, rfl, hx, hc⟩
  have hbl : ({ St.new with armed := false, left := 0, part := (m : Int), down := false, writes := 2, bytes := patch (patch St.new.bytes (k * 64) (List.replicate 64 ua)) (k * 64) ((List.replicate 64 ub).take m) } : St).block k = (List.replicate 64 ub).take m ++ (List.replicate 64 ua).drop m := by
    have hl : St.new.bytes.length = 65536 := List.length_replicate
    rw [patch_patch _ _ _ _ (by rw [hl]; simp; omega) (by simp; omega)]
    have h2 : ((List.replicate 64 ub).take m).length = m := by simp; omega
    rw [h2]
    exact block_patch ({ St.new with armed := false, left := 0, part := (m : Int), down := false, writes := 2 } : St) k _ hl hk1 (by simp; omega)
  rw [hbl] at hx
  clear hbl
  have HWr := Lib.hid (fun (wx : World) (h : Chg [] w11 wx) => Writes_calls S _ wx (HS11.out.chg h (by simp)))
  have HC12 := Lib.hid (HC11.out.then hc)
  have HX := Lib.hid hx
  have Hc := Lib.hid hc
  clear hx hc HS11 HC11 HRd
  simp only []
  go_wp2_with fail
  obtain ⟨X, hX⟩ : ∃ X, X = List.take m (List.replicate 64 ub) := ⟨_, rfl⟩
  obtain ⟨Y, hY⟩ : ∃ Y, Y = List.drop m (List.replicate 64 ua) := ⟨_, rfl⟩
  rw [← hX, ← hY] at HX
  have hXl : X.length ≤ 64 := by rw [hX]; simp; omega
  have hYl : Y.length ≤ 64 := by rw [hY]; simp
  have HX1 := Lib.hid hX
  have HY1 := Lib.hid hY
  clear hX hY
  let Φ : Nat → Value → World → Prop := fun i v w => match i with
    | 0 => v = .int .i64 13
    | 1 => v = .bool true
    | 2 => v = .bool true
    | 3 => v = .int .i64 0
    | 4 => v = .bool true
    | 5 => v = .bool true
    | 6 => v = .bool true
    | 7 => v = x
    | 8 => v = .string (strOf (X ++ Y))
    | 9 => v = .int .u8 b
    | 10 => OwnB w w12.heap.size v (List.replicate 64 ub)
    | 11 => v = .int .i64 m
    | 12 => IsB w 5 v X
    | 13 => v = .string (strOf X)
    | 14 => v = .int .u8 a
    | 15 => OwnB w w12.heap.size v (List.replicate 64 ua)
    | 16 => v = .int .i64 m
    | 17 => IsB w 5 v Y
    | 18 => v = .string (strOf Y)
    | 19 => v = .string (strOf (X ++ Y))
    | 20 => v = .bool true
    | 21 => v = .bool true
    | 22 => v = .bool true
    | 23 => v = .pointer (some ⟨S, 0, none⟩)
    | 24 => v = .int .i64 2
    | 25 => v = .bool true
    | 26 => v = .bool true
    | 27 => v = .bool true
    | _ => True
  refine wp_region_each (by kernel_rfl) Φ ?_ (by kernel_rfl) (by kernel_rfl) (by kernel_rfl) ?_ ?_
  · intro i v w w1 h hc
    match i with
    | 0 => exact h
    | 1 => exact h
    | 2 => exact h
    | 3 => exact h
    | 4 => exact h
    | 5 => exact h
    | 6 => exact h
    | 7 => exact h
    | 8 => exact h
    | 9 => exact h
    | 10 => exact OwnB.then h hc
    | 11 => exact h
    | 12 => exact IsB.then h hc
    | 13 => exact h
    | 14 => exact h
    | 15 => exact OwnB.then h hc
    | 16 => exact h
    | 17 => exact IsB.then h hc
    | 18 => exact h
    | 19 => exact h
    | 20 => exact h
    | 21 => exact h
    | 22 => exact h
    | 23 => exact h
    | 24 => exact h
    | 25 => exact h
    | 26 => exact h
    | 27 => exact h
    | _ + 28 => trivial
  · intro ac wc hc hd hs hall hb
    have hl : ac.tmps.getD 8 undef = .bool true := hall 27 8 rfl
    simp only [Exit.then]
    apply_assumption
    apply wp_ret
    refine bodyPost_ret (results_tmp rfl _ _ _) hd ?_
    exact ⟨congrArg Ending.returned hl, HC12.out.then hc⟩
  · refine ⟨?_, ?_, ?_, ?_, ?_, ?_, ?_, ?_, ?_, ?_, ?_, ?_, ?_, ?_, ?_, ?_, ?_, ?_, ?_, ?_, ?_, ?_, ?_, ?_, ?_, ?_, ?_, ?_, trivial⟩
    · intro ac wc h K hK
      have b13 : ac.tmps.getD 13 undef = .int .i64 13 := (h.base 13 (by decide)).trans rfl
      go_simp
      exact hK (.int .i64 13) wc (Chg.refl [] wc) rfl
    · intro ac wc h K hK
      have d66 : ac.tmps.getD 66 undef = .int .i64 13 := h.dep ⟨0, .data⟩ (by simp) rfl 66 rfl
      go_simp
      exact hK (.bool true) wc (Chg.refl [] wc) rfl
    · intro ac wc h K hK
      have d67 : ac.tmps.getD 67 undef = .bool true := h.dep ⟨1, .data⟩ (by simp) rfl 67 rfl
      go_simp
      exact hK (.bool true) wc (Chg.refl [] wc) rfl
    · intro ac wc h K hK
      have b15 : ac.tmps.getD 15 undef = .int .i64 0 := (h.base 15 (by decide)).trans rfl
      have g68 : ac.tmps[68]? = some (.bool true) := getElem_of_getD (h.dep ⟨2, .guard⟩ (by simp) rfl 68 rfl)
      go_simp
      exact hK (.int .i64 0) wc (Chg.refl [] wc) rfl
    · intro ac wc h K hK
      have d69 : ac.tmps.getD 69 undef = .int .i64 0 := h.dep ⟨3, .data⟩ (by simp) rfl 69 rfl
      have g68 : ac.tmps[68]? = some (.bool true) := getElem_of_getD (h.dep ⟨2, .guard⟩ (by simp) rfl 68 rfl)
      go_simp
      exact hK (.bool true) wc (Chg.refl [] wc) rfl
    · intro ac wc h K hK
      have d68 : ac.tmps.getD 68 undef = .bool true := h.dep ⟨2, .data⟩ (by simp) rfl 68 rfl
      have d70 : ac.tmps.getD 70 undef = .bool true := h.dep ⟨4, .data⟩ (by simp) rfl 70 rfl
      go_simp
      exact hK (.bool true) wc (Chg.refl [] wc) rfl
    · intro ac wc h K hK
      have d71 : ac.tmps.getD 71 undef = .bool true := h.dep ⟨5, .data⟩ (by simp) rfl 71 rfl
      go_simp
      exact hK (.bool true) wc (Chg.refl [] wc) rfl
    · intro ac wc h K hK
      have b14 : ac.tmps.getD 14 undef = x := (h.base 14 (by decide)).trans rfl
      have g72 : ac.tmps[72]? = some (.bool true) := getElem_of_getD (h.dep ⟨6, .guard⟩ (by simp) rfl 72 rfl)
      go_simp
      exact hK (x) wc (Chg.refl [] wc) rfl
    · intro ac wc h K hK
      have d73 : ac.tmps.getD 73 undef = x := h.dep ⟨7, .data⟩ (by simp) rfl 73 rfl
      have g72 : ac.tmps[72]? = some (.bool true) := getElem_of_getD (h.dep ⟨6, .guard⟩ (by simp) rfl 72 rfl)
      have hq := run_toString wc 5 x _ (HX.out.isB.then h.chg)
      go_simp
      exact hK (.string (strOf (X ++ Y))) wc (Chg.refl [] wc) rfl
    · intro ac wc h K hK
      have b2 : ac.tmps.getD 2 undef = .int .u8 b := (h.base 2 (by decide)).trans rfl
      have g72 : ac.tmps[72]? = some (.bool true) := getElem_of_getD (h.dep ⟨6, .guard⟩ (by simp) rfl 72 rfl)
      go_simp
      exact hK (.int .u8 b) wc (Chg.refl [] wc) rfl
    · intro ac wc h K hK
      have d75 : ac.tmps.getD 75 undef = .int .u8 b := h.dep ⟨9, .data⟩ (by simp) rfl 75 rfl
      have g72 : ac.tmps[72]? = some (.bool true) := getElem_of_getD (h.dep ⟨6, .guard⟩ (by simp) rfl 72 rfl)
      go_simp
      refine (full_calls b ub HB.out wc).mono ?_
      rintro e w1 ⟨v, rfl, hv, hc⟩
      exact hK v w1 hc (OwnB.mono hv h.chg.size)
    · intro ac wc h K hK
      have b11 : ac.tmps.getD 11 undef = .int .i64 m := (h.base 11 (by decide)).trans rfl
      have g72 : ac.tmps[72]? = some (.bool true) := getElem_of_getD (h.dep ⟨6, .guard⟩ (by simp) rfl 72 rfl)
      go_simp
      exact hK (.int .i64 m) wc (Chg.refl [] wc) rfl
    · intro ac wc h K hK
      obtain ⟨v76, e76, d76⟩ : ∃ x, ac.tmps.getD 76 undef = x ∧ (fun (v : Value) (w : World) => OwnB w w12.heap.size v (List.replicate 64 ub)) x wc := ⟨_, rfl, h.dep ⟨10, .data⟩ (by simp) rfl 76 rfl⟩
      have d77 : ac.tmps.getD 77 undef = .int .i64 m := h.dep ⟨11, .data⟩ (by simp) rfl 77 rfl
      have g72 : ac.tmps[72]? = some (.bool true) := getElem_of_getD (h.dep ⟨6, .guard⟩ (by simp) rfl 72 rfl)
      obtain ⟨g, cap, rfl, -, hcap⟩ := d76.at64
      have hcap2 : (m : Int) ≤ (cap : Int) := by omega
      have hq := d76.isB.take m (by simp; omega)
      rw [← HX1.out] at hq
      have HQ := Lib.hid hq
      clear hq d76
      go_simp
      exact hK _ wc (Chg.refl [] wc) HQ.out
    · intro ac wc h K hK
      obtain ⟨v78, e78, d78⟩ : ∃ x, ac.tmps.getD 78 undef = x ∧ (fun (v : Value) (w : World) => IsB w 5 v X) x wc := ⟨_, rfl, h.dep ⟨12, .data⟩ (by simp) rfl 78 rfl⟩
      have g72 : ac.tmps[72]? = some (.bool true) := getElem_of_getD (h.dep ⟨6, .guard⟩ (by simp) rfl 72 rfl)
      have hq := run_toString wc 5 _ _ d78
      clear d78
      go_simp
      exact hK (.string (strOf X)) wc (Chg.refl [] wc) rfl
    · intro ac wc h K hK
      have b1 : ac.tmps.getD 1 undef = .int .u8 a := (h.base 1 (by decide)).trans rfl
      have g72 : ac.tmps[72]? = some (.bool true) := getElem_of_getD (h.dep ⟨6, .guard⟩ (by simp) rfl 72 rfl)
      go_simp
      exact hK (.int .u8 a) wc (Chg.refl [] wc) rfl
    · intro ac wc h K hK
      have d80 : ac.tmps.getD 80 undef = .int .u8 a := h.dep ⟨14, .data⟩ (by simp) rfl 80 rfl
      have g72 : ac.tmps[72]? = some (.bool true) := getElem_of_getD (h.dep ⟨6, .guard⟩ (by simp) rfl 72 rfl)
      go_simp
      refine (full_calls a ua HA.out wc).mono ?_
      rintro e w1 ⟨v, rfl, hv, hc⟩
      exact hK v w1 hc (OwnB.mono hv h.chg.size)
    · intro ac wc h K hK
      have b11 : ac.tmps.getD 11 undef = .int .i64 m := (h.base 11 (by decide)).trans rfl
      have g72 : ac.tmps[72]? = some (.bool true) := getElem_of_getD (h.dep ⟨6, .guard⟩ (by simp) rfl 72 rfl)
      go_simp
      exact hK (.int .i64 m) wc (Chg.refl [] wc) rfl
    · intro ac wc h K hK
      obtain ⟨v81, e81, d81⟩ : ∃ x, ac.tmps.getD 81 undef = x ∧ (fun (v : Value) (w : World) => OwnB w w12.heap.size v (List.replicate 64 ua)) x wc := ⟨_, rfl, h.dep ⟨15, .data⟩ (by simp) rfl 81 rfl⟩
      have d82 : ac.tmps.getD 82 undef = .int .i64 m := h.dep ⟨16, .data⟩ (by simp) rfl 82 rfl
      have g72 : ac.tmps[72]? = some (.bool true) := getElem_of_getD (h.dep ⟨6, .guard⟩ (by simp) rfl 72 rfl)
      obtain ⟨g, cap, rfl, -, hcap⟩ := d81.at64
      have hm3 : (m : Int) ≤ 64 := by omega
      have hq := d81.isB.dropH m (by simp; omega)
      rw [← HY1.out] at hq
      have HQ := Lib.hid hq
      clear hq d81
      go_simp
      exact hK _ wc (Chg.refl [] wc) HQ.out
    · intro ac wc h K hK
      obtain ⟨v83, e83, d83⟩ : ∃ x, ac.tmps.getD 83 undef = x ∧ (fun (v : Value) (w : World) => IsB w 5 v Y) x wc := ⟨_, rfl, h.dep ⟨17, .data⟩ (by simp) rfl 83 rfl⟩
      have g72 : ac.tmps[72]? = some (.bool true) := getElem_of_getD (h.dep ⟨6, .guard⟩ (by simp) rfl 72 rfl)
      have hq := run_toString wc 5 _ _ d83
      clear d83
      go_simp
      exact hK (.string (strOf Y)) wc (Chg.refl [] wc) rfl
    · intro ac wc h K hK
      have d79 : ac.tmps.getD 79 undef = .string (strOf X) := h.dep ⟨13, .data⟩ (by simp) rfl 79 rfl
      have d84 : ac.tmps.getD 84 undef = .string (strOf Y) := h.dep ⟨18, .data⟩ (by simp) rfl 84 rfl
      have g72 : ac.tmps[72]? = some (.bool true) := getElem_of_getD (h.dep ⟨6, .guard⟩ (by simp) rfl 72 rfl)
      have hq := strOf_append X Y
      have hs2 : ¬ (9223372036854775807 < (strOf X).size + (strOf Y).size) := by rw [strOf_size, strOf_size]; omega
      go_simp
      exact hK (.string (strOf (X ++ Y))) wc (Chg.refl [] wc) rfl
    · intro ac wc h K hK
      have d74 : ac.tmps.getD 74 undef = .string (strOf (X ++ Y)) := h.dep ⟨8, .data⟩ (by simp) rfl 74 rfl
      have d85 : ac.tmps.getD 85 undef = .string (strOf (X ++ Y)) := h.dep ⟨19, .data⟩ (by simp) rfl 85 rfl
      have g72 : ac.tmps[72]? = some (.bool true) := getElem_of_getD (h.dep ⟨6, .guard⟩ (by simp) rfl 72 rfl)
      go_simp
      exact hK (.bool true) wc (Chg.refl [] wc) rfl
    · intro ac wc h K hK
      have d72 : ac.tmps.getD 72 undef = .bool true := h.dep ⟨6, .data⟩ (by simp) rfl 72 rfl
      have d86 : ac.tmps.getD 86 undef = .bool true := h.dep ⟨20, .data⟩ (by simp) rfl 86 rfl
      go_simp
      exact hK (.bool true) wc (Chg.refl [] wc) rfl
    · intro ac wc h K hK
      have d87 : ac.tmps.getD 87 undef = .bool true := h.dep ⟨21, .data⟩ (by simp) rfl 87 rfl
      go_simp
      exact hK (.bool true) wc (Chg.refl [] wc) rfl
    · intro ac wc h K hK
      have b9 : ac.tmps.getD 9 undef = .pointer (some ⟨S, 0, none⟩) := (h.base 9 (by decide)).trans rfl
      have g88 : ac.tmps[88]? = some (.bool true) := getElem_of_getD (h.dep ⟨22, .guard⟩ (by simp) rfl 88 rfl)
      go_simp
      exact hK (.pointer (some ⟨S, 0, none⟩)) wc (Chg.refl [] wc) rfl
    · intro ac wc h K hK
      have d89 : ac.tmps.getD 89 undef = .pointer (some ⟨S, 0, none⟩) := h.dep ⟨23, .data⟩ (by simp) rfl 89 rfl
      have g88 : ac.tmps[88]? = some (.bool true) := getElem_of_getD (h.dep ⟨22, .guard⟩ (by simp) rfl 88 rfl)
      go_simp
      refine (HWr.out wc (Hc.out.then h.chg)).mono ?_
      rintro e w1 ⟨rfl, rfl⟩
      exact hK _ wc (Chg.refl [] wc) rfl
    · intro ac wc h K hK
      obtain ⟨v90, e90, d90⟩ : ∃ x, ac.tmps.getD 90 undef = x ∧ (fun (v : Value) (w : World) => v = .int .i64 2) x wc := ⟨_, rfl, h.dep ⟨24, .data⟩ (by simp) rfl 90 rfl⟩
      have g88 : ac.tmps[88]? = some (.bool true) := getElem_of_getD (h.dep ⟨22, .guard⟩ (by simp) rfl 88 rfl)
      rw [d90] at e90
      clear d90
      go_simp
      exact hK (.bool true) wc (Chg.refl [] wc) rfl
    · intro ac wc h K hK
      have d88 : ac.tmps.getD 88 undef = .bool true := h.dep ⟨22, .data⟩ (by simp) rfl 88 rfl
      have d91 : ac.tmps.getD 91 undef = .bool true := h.dep ⟨25, .data⟩ (by simp) rfl 91 rfl
      go_simp
      exact hK (.bool true) wc (Chg.refl [] wc) rfl
    · intro ac wc h K hK
      have d92 : ac.tmps.getD 92 undef = .bool true := h.dep ⟨26, .data⟩ (by simp) rfl 92 rfl
      go_simp
      exact hK (.bool true) wc (Chg.refl [] wc) rfl

end Go.Proofs.Ytgmgmjljjbcgjaa

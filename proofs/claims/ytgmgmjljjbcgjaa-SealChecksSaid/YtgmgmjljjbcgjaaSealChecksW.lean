/- SealChecks: its walk. -/
import Derived.Test.YtgmgmjljjbcgjaaRef2
namespace Go.Proofs.Ytgmgmjljjbcgjaa
open Go Go.RowKit NSX

set_option maxRecDepth 100000 in
set_option maxHeartbeats 1000000 in
theorem SealChecks_calls (b : ByteArray) (w : World) : Calls Try.prog 11 #[.string b] w fun e w' => e = .returned (.bool true) ∧ Chg [] w w' := by
  go_enter Try.func11, Try.ntmps11
  go_wp2_with fail
  refine (awake2_calls _).mono ?_
  rintro e w1 ⟨rfl, hc1⟩
  have HC1 := Lib.hid hc1
  clear hc1
  simp only []
  by_cases hb : b.size ≤ 5000
  · have hb2 : ¬ ((5000 : Int) < (b.size : Int)) := by omega
    have HM := Lib.hid (max_size b hb)
    have HL := Lib.hid (show b.size ≤ 1099511627776 by omega)
    have HL2 := Lib.hid (show b.size ≤ 1099511000000 by omega)
    obtain ⟨cap, w2, hr, hib, hc2, -⟩ := run_ofString w1 b HM.out
    have HC2 := Lib.hid (HC1.out.then hc2)
    have HIB := Lib.hid hib
    clear hib hc2
    go_wp2_with fail
    refine (Open_calls 5 _ _ _ HIB.out (by rw [str_len]; omega)).mono ?_
    rintro e w3 ⟨v3, ok, rfl, h1, h2, hc3⟩
    have HC3 := Lib.hid (HC2.out.then hc3)
    clear hc3 hr
    go_wp2_with fail
    refine (rOpen_calls b HL2.out _).mono ?_
    rintro e w4 ⟨r, ok2, rfl, g1, g2, hc4⟩
    have hok : ok2 = ok := by
      cases ok with
      | true =>
        cases ok2 with
        | true => rfl
        | false => exact absurd (h1 rfl).1 (g2 rfl).1
      | false =>
        cases ok2 with
        | false => rfl
        | true => exact absurd (g1 rfl).1 (h2 rfl).1
    subst hok
    have hv : IsB w3 5 v3 r := by
      cases ok2 with
      | true =>
        have hv1 := (h1 rfl).2.isB
        rw [str_len] at hv1
        rw [(g1 rfl).2]
        exact hv1
      | false =>
        rw [(g2 rfl).2, (h2 rfl).2]
        exact IsB.nil _ _
    have HV := Lib.hid (hv.then hc4)
    have HC4 := Lib.hid (HC3.out.then hc4)
    clear h1 h2 g1 g2 hc4 hv
    generalize ok2 = ok
    obtain ⟨A, hA⟩ : ∃ A, (crc b.data.toList).toNat = A := ⟨_, rfl⟩
    obtain ⟨T, hT⟩ : ∃ T, strOf (putSeal b.data.toList) = T := ⟨_, rfl⟩
    have hAl : A < 16777216 := by rw [← hA]; exact (crc _).isLt
    have HA := Lib.hid (And.intro hA hT)
    clear hA hT
    go_wp2_with fail
    let Φ : Nat → Value → World → Prop := fun i v w => match i with
      | 0 => v = .string b
      | 1 => IsB w 5 v b.data.toList
      | 2 => v = w32 A
      | 3 => v = .int .i64 A
      | 4 => v = .string b
      | 5 => v = .int .i64 A
      | 6 => v = .bool true
      | 7 => v = .bool true
      | 8 => v = .string b
      | 9 => IsB w 5 v b.data.toList
      | 10 => IsB w 5 v (putSeal b.data.toList)
      | 11 => v = .string T
      | 12 => v = .string b
      | 13 => v = .string T
      | 14 => v = .bool true
      | 15 => v = .bool true
      | 16 => v = .bool true
      | 17 => v = v3
      | 18 => v = .string (strOf r)
      | 19 => v = .string (strOf r)
      | 20 => v = .bool true
      | 21 => v = .bool true
      | 22 => v = .bool true
      | 23 => v = .bool ok
      | 24 => v = .bool ok
      | 25 => v = .bool true
      | 26 => v = .bool true
      | 27 => v = .bool true
      | _ => True
    refine wp_region_each (by kernel_rfl) Φ ?_ (by kernel_rfl) (by kernel_rfl) (by kernel_rfl) ?_ ?_
    · intro i v w w1 h hc
      match i with
      | 0 => exact h
      | 1 => exact IsB.then h hc
      | 2 => exact h
      | 3 => exact h
      | 4 => exact h
      | 5 => exact h
      | 6 => exact h
      | 7 => exact h
      | 8 => exact h
      | 9 => exact IsB.then h hc
      | 10 => exact IsB.then h hc
      | 11 => exact h
      | 12 => exact h
      | 13 => exact h
      | 14 => exact h
      | 15 => exact h
      | 16 => exact h
      | 17 => exact h
      | 18 => exact h
      | 19 => exact h
      | 20 => exact h
      | 21 => exact h
      | 22 => exact h
      | 23 => exact h
      | 24 => exact h
      | 25 => exact h
      | 26 => exact h
      | 27 => exact h
      | _ + 28 => trivial
    · intro ac wc hc hd hs hall hb
      have hl : ac.tmps.getD 2 undef = .bool true := hall 27 2 rfl
      simp only [Exit.then]
      apply_assumption
      apply wp_ret
      refine bodyPost_ret (results_tmp rfl _ _ _) hd ?_
      exact ⟨congrArg Ending.returned hl, HC4.out.then hc⟩
    · refine ⟨?_, ?_, ?_, ?_, ?_, ?_, ?_, ?_, ?_, ?_, ?_, ?_, ?_, ?_, ?_, ?_, ?_, ?_, ?_, ?_, ?_, ?_, ?_, ?_, ?_, ?_, ?_, ?_, trivial⟩
      · intro ac wc h K hK
        have b0 : ac.tmps.getD 0 undef = .string b := (h.base 0 (by decide)).trans rfl
        go_simp
        exact hK (.string b) wc (Chg.refl [] wc) rfl
      · intro ac wc h K hK
        have d26 : ac.tmps.getD 26 undef = .string b := h.dep ⟨0, .data⟩ (by simp) rfl 26 rfl
        obtain ⟨cap, w1, hr, hib, hc1, -⟩ := run_ofString wc b HM.out
        go_simp
        exact hK _ w1 hc1 hib
      · intro ac wc h K hK
        obtain ⟨v27, e27, d27⟩ : ∃ x, ac.tmps.getD 27 undef = x ∧ (fun (v : Value) (w : World) => IsB w 5 v b.data.toList) x wc := ⟨_, rfl, h.dep ⟨1, .data⟩ (by simp) rfl 27 rfl⟩
        go_simp
        refine (Of_calls 5 _ _ wc d27).mono ?_
        rintro e w1 ⟨rfl, hc1⟩
        exact hK _ w1 hc1 (congrArg w32 HA.out.1)
      · intro ac wc h K hK
        obtain ⟨v28, e28, d28⟩ : ∃ x, ac.tmps.getD 28 undef = x ∧ (fun (v : Value) (w : World) => v = w32 A) x wc := ⟨_, rfl, h.dep ⟨2, .data⟩ (by simp) rfl 28 rfl⟩
        rw [d28] at e28
        clear d28
        have hw : IntKind.i64.wrap (A : Int) = A := by simp [IntKind.wrap, IntKind.bits, IntKind.signed]; omega
        go_simp
        exact hK (.int .i64 A) wc (Chg.refl [] wc) rfl
      · intro ac wc h K hK
        have b0 : ac.tmps.getD 0 undef = .string b := (h.base 0 (by decide)).trans rfl
        go_simp
        exact hK (.string b) wc (Chg.refl [] wc) rfl
      · intro ac wc h K hK
        have d30 : ac.tmps.getD 30 undef = .string b := h.dep ⟨4, .data⟩ (by simp) rfl 30 rfl
        go_simp
        refine (rOf_calls b HL.out wc).mono ?_
        rintro e w1 ⟨rfl, rfl⟩
        exact hK _ wc (Chg.refl [] wc) (congrArg (fun x : Nat => Value.int .i64 x) HA.out.1)
      · intro ac wc h K hK
        have d29 : ac.tmps.getD 29 undef = .int .i64 A := h.dep ⟨3, .data⟩ (by simp) rfl 29 rfl
        obtain ⟨v31, e31, d31⟩ : ∃ x, ac.tmps.getD 31 undef = x ∧ (fun (v : Value) (w : World) => v = .int .i64 A) x wc := ⟨_, rfl, h.dep ⟨5, .data⟩ (by simp) rfl 31 rfl⟩
        rw [d31] at e31
        clear d31
        go_simp
        exact hK (.bool true) wc (Chg.refl [] wc) rfl
      · intro ac wc h K hK
        have d32 : ac.tmps.getD 32 undef = .bool true := h.dep ⟨6, .data⟩ (by simp) rfl 32 rfl
        go_simp
        exact hK (.bool true) wc (Chg.refl [] wc) rfl
      · intro ac wc h K hK
        have b0 : ac.tmps.getD 0 undef = .string b := (h.base 0 (by decide)).trans rfl
        have g33 : ac.tmps[33]? = some (.bool true) := getElem_of_getD (h.dep ⟨7, .guard⟩ (by simp) rfl 33 rfl)
        go_simp
        exact hK (.string b) wc (Chg.refl [] wc) rfl
      · intro ac wc h K hK
        have d34 : ac.tmps.getD 34 undef = .string b := h.dep ⟨8, .data⟩ (by simp) rfl 34 rfl
        have g33 : ac.tmps[33]? = some (.bool true) := getElem_of_getD (h.dep ⟨7, .guard⟩ (by simp) rfl 33 rfl)
        obtain ⟨cap, w1, hr, hib, hc1, -⟩ := run_ofString wc b HM.out
        go_simp
        exact hK _ w1 hc1 hib
      · intro ac wc h K hK
        obtain ⟨v35, e35, d35⟩ : ∃ x, ac.tmps.getD 35 undef = x ∧ (fun (v : Value) (w : World) => IsB w 5 v b.data.toList) x wc := ⟨_, rfl, h.dep ⟨9, .data⟩ (by simp) rfl 35 rfl⟩
        have g33 : ac.tmps[33]? = some (.bool true) := getElem_of_getD (h.dep ⟨7, .guard⟩ (by simp) rfl 33 rfl)
        go_simp
        refine (Put_calls 5 _ _ wc d35 (by rw [str_len]; exact HL.out)).mono ?_
        rintro e w1 ⟨v, rfl, hv, hc1⟩
        exact hK v w1 hc1 hv.isB
      · intro ac wc h K hK
        obtain ⟨v36, e36, d36⟩ : ∃ x, ac.tmps.getD 36 undef = x ∧ (fun (v : Value) (w : World) => IsB w 5 v (putSeal b.data.toList)) x wc := ⟨_, rfl, h.dep ⟨10, .data⟩ (by simp) rfl 36 rfl⟩
        have g33 : ac.tmps[33]? = some (.bool true) := getElem_of_getD (h.dep ⟨7, .guard⟩ (by simp) rfl 33 rfl)
        have hq := run_toString wc 5 _ _ d36
        rw [HA.out.2] at hq
        clear d36
        go_simp
        exact hK (.string T) wc (Chg.refl [] wc) rfl
      · intro ac wc h K hK
        have b0 : ac.tmps.getD 0 undef = .string b := (h.base 0 (by decide)).trans rfl
        have g33 : ac.tmps[33]? = some (.bool true) := getElem_of_getD (h.dep ⟨7, .guard⟩ (by simp) rfl 33 rfl)
        go_simp
        exact hK (.string b) wc (Chg.refl [] wc) rfl
      · intro ac wc h K hK
        have d38 : ac.tmps.getD 38 undef = .string b := h.dep ⟨12, .data⟩ (by simp) rfl 38 rfl
        have g33 : ac.tmps[33]? = some (.bool true) := getElem_of_getD (h.dep ⟨7, .guard⟩ (by simp) rfl 33 rfl)
        go_simp
        refine (rPut_calls b HL2.out wc).mono ?_
        rintro e w1 ⟨rfl, hc1⟩
        exact hK _ w1 hc1 (congrArg Value.string HA.out.2)
      · intro ac wc h K hK
        have d37 : ac.tmps.getD 37 undef = .string T := h.dep ⟨11, .data⟩ (by simp) rfl 37 rfl
        obtain ⟨v39, e39, d39⟩ : ∃ x, ac.tmps.getD 39 undef = x ∧ (fun (v : Value) (w : World) => v = .string T) x wc := ⟨_, rfl, h.dep ⟨13, .data⟩ (by simp) rfl 39 rfl⟩
        have g33 : ac.tmps[33]? = some (.bool true) := getElem_of_getD (h.dep ⟨7, .guard⟩ (by simp) rfl 33 rfl)
        rw [d39] at e39
        clear d39
        go_simp
        exact hK (.bool true) wc (Chg.refl [] wc) rfl
      · intro ac wc h K hK
        have d33 : ac.tmps.getD 33 undef = .bool true := h.dep ⟨7, .data⟩ (by simp) rfl 33 rfl
        have d40 : ac.tmps.getD 40 undef = .bool true := h.dep ⟨14, .data⟩ (by simp) rfl 40 rfl
        go_simp
        exact hK (.bool true) wc (Chg.refl [] wc) rfl
      · intro ac wc h K hK
        have d41 : ac.tmps.getD 41 undef = .bool true := h.dep ⟨15, .data⟩ (by simp) rfl 41 rfl
        go_simp
        exact hK (.bool true) wc (Chg.refl [] wc) rfl
      · intro ac wc h K hK
        have b3 : ac.tmps.getD 3 undef = v3 := (h.base 3 (by decide)).trans rfl
        have g42 : ac.tmps[42]? = some (.bool true) := getElem_of_getD (h.dep ⟨16, .guard⟩ (by simp) rfl 42 rfl)
        go_simp
        exact hK (v3) wc (Chg.refl [] wc) rfl
      · intro ac wc h K hK
        have d43 : ac.tmps.getD 43 undef = v3 := h.dep ⟨17, .data⟩ (by simp) rfl 43 rfl
        have g42 : ac.tmps[42]? = some (.bool true) := getElem_of_getD (h.dep ⟨16, .guard⟩ (by simp) rfl 42 rfl)
        have hq := run_toString wc 5 _ _ (HV.out.then h.chg)
        go_simp
        exact hK (.string (strOf r)) wc (Chg.refl [] wc) rfl
      · intro ac wc h K hK
        have b5 : ac.tmps.getD 5 undef = .string (strOf r) := (h.base 5 (by decide)).trans rfl
        have g42 : ac.tmps[42]? = some (.bool true) := getElem_of_getD (h.dep ⟨16, .guard⟩ (by simp) rfl 42 rfl)
        go_simp
        exact hK (.string (strOf r)) wc (Chg.refl [] wc) rfl
      · intro ac wc h K hK
        have d44 : ac.tmps.getD 44 undef = .string (strOf r) := h.dep ⟨18, .data⟩ (by simp) rfl 44 rfl
        have d45 : ac.tmps.getD 45 undef = .string (strOf r) := h.dep ⟨19, .data⟩ (by simp) rfl 45 rfl
        have g42 : ac.tmps[42]? = some (.bool true) := getElem_of_getD (h.dep ⟨16, .guard⟩ (by simp) rfl 42 rfl)
        go_simp
        exact hK (.bool true) wc (Chg.refl [] wc) rfl
      · intro ac wc h K hK
        have d42 : ac.tmps.getD 42 undef = .bool true := h.dep ⟨16, .data⟩ (by simp) rfl 42 rfl
        have d46 : ac.tmps.getD 46 undef = .bool true := h.dep ⟨20, .data⟩ (by simp) rfl 46 rfl
        go_simp
        exact hK (.bool true) wc (Chg.refl [] wc) rfl
      · intro ac wc h K hK
        have d47 : ac.tmps.getD 47 undef = .bool true := h.dep ⟨21, .data⟩ (by simp) rfl 47 rfl
        go_simp
        exact hK (.bool true) wc (Chg.refl [] wc) rfl
      · intro ac wc h K hK
        have b4 : ac.tmps.getD 4 undef = .bool ok := (h.base 4 (by decide)).trans rfl
        have g48 : ac.tmps[48]? = some (.bool true) := getElem_of_getD (h.dep ⟨22, .guard⟩ (by simp) rfl 48 rfl)
        go_simp
        exact hK (.bool ok) wc (Chg.refl [] wc) rfl
      · intro ac wc h K hK
        have b6 : ac.tmps.getD 6 undef = .bool ok := (h.base 6 (by decide)).trans rfl
        have g48 : ac.tmps[48]? = some (.bool true) := getElem_of_getD (h.dep ⟨22, .guard⟩ (by simp) rfl 48 rfl)
        go_simp
        exact hK (.bool ok) wc (Chg.refl [] wc) rfl
      · intro ac wc h K hK
        have d49 : ac.tmps.getD 49 undef = .bool ok := h.dep ⟨23, .data⟩ (by simp) rfl 49 rfl
        have d50 : ac.tmps.getD 50 undef = .bool ok := h.dep ⟨24, .data⟩ (by simp) rfl 50 rfl
        have g48 : ac.tmps[48]? = some (.bool true) := getElem_of_getD (h.dep ⟨22, .guard⟩ (by simp) rfl 48 rfl)
        have hok : (ok == ok) = true := by simp
        go_simp
        exact hK (.bool true) wc (Chg.refl [] wc) rfl
      · intro ac wc h K hK
        have d48 : ac.tmps.getD 48 undef = .bool true := h.dep ⟨22, .data⟩ (by simp) rfl 48 rfl
        have d51 : ac.tmps.getD 51 undef = .bool true := h.dep ⟨25, .data⟩ (by simp) rfl 51 rfl
        go_simp
        exact hK (.bool true) wc (Chg.refl [] wc) rfl
      · intro ac wc h K hK
        have d52 : ac.tmps.getD 52 undef = .bool true := h.dep ⟨26, .data⟩ (by simp) rfl 52 rfl
        go_simp
        exact hK (.bool true) wc (Chg.refl [] wc) rfl
  · have h2 : (5000 : Int) < (b.size : Int) := by omega
    go_wp2_with fail
    refine (awake2_calls _).mono ?_
    rintro e w5 ⟨rfl, hc5⟩
    have HC5 := Lib.hid (HC1.out.then hc5)
    clear hc5
    go_wp2
    go_ret
    exact ⟨rfl, HC5.out⟩
end Go.Proofs.Ytgmgmjljjbcgjaa

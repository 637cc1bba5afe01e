/- RecordCuts: its walk. -/
import Derived.Test.YtgmgmjljjbcgjaaRef7C
import Derived.Test.YtgmgmjljjbcgjaaReg3
namespace Go.Proofs.Ytgmgmjljjbcgjaa
open Go Go.RowKit NSX

set_option maxRecDepth 100000 in
set_option maxHeartbeats 2000000 in
theorem RecordCuts_calls (body : ByteArray) (w : World) :
    Calls Try.prog 17 #[.string body] w fun e w' => e = .returned (.bool true) ∧ Chg [] w w' := by
  go_enter Try.func17, Try.ntmps17
  go_wp2_with fail
  refine (awake7_calls _).mono ?_
  rintro e w1 ⟨rfl, hc1⟩
  have HC1 := Lib.hid hc1
  clear hc1
  simp only []
  by_cases hlen : body.size ≤ 5000
  · have hl : ¬ ((5000 : Int) < (body.size : Int)) := by omega
    obtain ⟨cap, w2, hr, hib, hc2, -⟩ := run_ofString w1 body (by unfold maxLen; omega)
    have HCt := Lib.hid (Cut_calls 5 _ body.data.toList w2 hib (by rw [str_len]; omega))
    have HC2 := Lib.hid (HC1.out.then hc2)
    clear hib hc2
    go_wp2_with fail
    refine HCt.out.mono ?_
    rintro e w3 ⟨v, rfl, hb3, hc3⟩
    obtain ⟨bo, bcap, rfl, -, -, -, -⟩ := hb3.isB.cells
    have HC3 := Lib.hid (HC2.out.then hc3)
    have hbl := fun wx => Blocks_calls body.size wx (by omega)
    have hn1 : nBlocks body.size ≤ 100000 := by unfold nBlocks; omega
    have hml := cutB_length body.data.toList
    rw [str_len] at hml
    obtain ⟨N, hN⟩ : ∃ N, nBlocks body.size = N := ⟨_, rfl⟩
    rw [hN] at hbl hn1 hml
    have hcb := fun wx => rCut_calls body (by omega) wx
    obtain ⟨cb, hcbe⟩ : ∃ cb, cutB body.data.toList = cb := ⟨_, rfl⟩
    rw [hcbe] at hcb hb3 hml ⊢
    obtain ⟨m, hm⟩ : ∃ m, cb.length = m := ⟨_, rfl⟩
    have hib3 := hb3.isB
    rw [hm] at hml hib3 ⊢
    have HM := Lib.hid hml
    have HN1 := Lib.hid hn1
    have HBl := Lib.hid hbl
    have HCb := Lib.hid hcb
    have HBB := Lib.hid hib3
    clear hbl hn1 hml hN hcb hcbe hm hib3 hb3 hc3 hr
    simp only []
    go_upto_region 4 with fail
    let p : Plan3 := {
      anc := [[], [0], [0, 1], [0, 1, 2], [0, 1, 2, 3], [0, 1, 2], [0, 1, 2, 5], [0, 1, 2, 3, 4, 5, 6], [0, 1, 2, 3, 4, 5, 6, 7], [0, 1, 2, 3, 4, 5, 6, 7, 8], [0, 1, 2, 3, 4, 5, 6, 7, 8, 9], [0, 1, 2, 3, 4, 5, 6, 7, 8, 9, 10], [0, 1, 2, 3, 4, 5, 6, 7, 8, 9, 10, 11], [0, 1, 2, 3, 4, 5, 6, 7, 8, 9, 10, 11, 12], [0, 1, 2, 3, 4, 5, 6, 7, 8, 9], [0, 1, 2, 3, 4, 5, 6, 7, 8, 9, 14], [0, 1, 2, 3, 4, 5, 6, 7, 8, 9, 10, 11, 12, 13, 14, 15], [0, 1, 2, 3, 4, 5, 6, 7, 8, 9, 10, 11, 12, 13, 14, 15, 16], [0, 1, 2, 3, 4, 5, 6, 7, 8, 9, 10, 11, 12, 13, 14, 15, 16, 17]]
      rows := fun j => []
      all := []
      Pre := fun i w => match i with
        | 4 => IsB w 5 (.slice bo m bcap) cb
        | _ => True
      Φ := fun i v w => match i with
        | 0 => v = .int .i64 0
        | 1 => v = .bool true
        | 2 => v = .bool true
        | 3 => v = .slice bo m bcap
        | 4 => v = .string (strOf cb)
        | 5 => v = .string body
        | 6 => v = .string (strOf cb)
        | 7 => v = .bool true
        | 8 => v = .bool true
        | 9 => v = .bool true
        | 10 => v = .string body
        | 11 => v = .int .i64 (body.size : Int)
        | 12 => v = .int .i64 (N : Int)
        | 13 => v = .int .i64 ((N : Int) * 64)
        | 14 => v = .slice bo m bcap
        | 15 => v = .int .i64 (m : Int)
        | 16 => v = .bool true
        | 17 => v = .bool true
        | 18 => v = .bool true
        | _ => True
      Ψ := fun i w => match i with
        | _ => True
      sub := by
        intro j x hx
        exact hx
      pre := by
        intro i j w w1 hij hn h hc
        match i, h, hij, hn with
        | 0, h, hij, hn => exact trivial
        | 1, h, hij, hn => exact trivial
        | 2, h, hij, hn => exact trivial
        | 3, h, hij, hn => exact trivial
        | 4, h, hij, hn => exact (by exact h.then hc)
        | 5, h, hij, hn => exact trivial
        | 6, h, hij, hn => exact trivial
        | 7, h, hij, hn => exact trivial
        | 8, h, hij, hn => exact trivial
        | 9, h, hij, hn => exact trivial
        | 10, h, hij, hn => exact trivial
        | 11, h, hij, hn => exact trivial
        | 12, h, hij, hn => exact trivial
        | 13, h, hij, hn => exact trivial
        | 14, h, hij, hn => exact trivial
        | 15, h, hij, hn => exact trivial
        | 16, h, hij, hn => exact trivial
        | 17, h, hij, hn => exact trivial
        | 18, h, hij, hn => exact trivial
        | _ + 19, _, _, _ => trivial
      phi := by
        intro i j v w w1 hij hn h hc
        match i, h, hij, hn with
        | 0, h, hij, hn => exact h
        | 1, h, hij, hn => exact h
        | 2, h, hij, hn => exact h
        | 3, h, hij, hn => exact h
        | 4, h, hij, hn => exact h
        | 5, h, hij, hn => exact h
        | 6, h, hij, hn => exact h
        | 7, h, hij, hn => exact h
        | 8, h, hij, hn => exact h
        | 9, h, hij, hn => exact h
        | 10, h, hij, hn => exact h
        | 11, h, hij, hn => exact h
        | 12, h, hij, hn => exact h
        | 13, h, hij, hn => exact h
        | 14, h, hij, hn => exact h
        | 15, h, hij, hn => exact h
        | 16, h, hij, hn => exact h
        | 17, h, hij, hn => exact h
        | 18, h, hij, hn => exact h
        | _ + 19, _, _, _ => trivial
      psi := by
        intro i j w w1 hij hn h hc
        match i, h, hij, hn with
        | 0, h, hij, hn => exact trivial
        | 1, h, hij, hn => exact trivial
        | 2, h, hij, hn => exact trivial
        | 3, h, hij, hn => exact trivial
        | 4, h, hij, hn => exact trivial
        | 5, h, hij, hn => exact trivial
        | 6, h, hij, hn => exact trivial
        | 7, h, hij, hn => exact trivial
        | 8, h, hij, hn => exact trivial
        | 9, h, hij, hn => exact trivial
        | 10, h, hij, hn => exact trivial
        | 11, h, hij, hn => exact trivial
        | 12, h, hij, hn => exact trivial
        | 13, h, hij, hn => exact trivial
        | 14, h, hij, hn => exact trivial
        | 15, h, hij, hn => exact trivial
        | 16, h, hij, hn => exact trivial
        | 17, h, hij, hn => exact trivial
        | 18, h, hij, hn => exact trivial
        | _ + 19, _, _, _ => trivial }
    refine wp_region_each6 (by kernel_rfl) p ?hpreL (by kernel_rfl) (by kernel_rfl) (by kernel_rfl) (by kernel_rfl) ?hendL ?hstepsL
    case hpreL =>
      intro i
      match i with
      | 0 => exact trivial
      | 1 => exact trivial
      | 2 => exact trivial
      | 3 => exact trivial
      | 4 => exact HBB.out
      | 5 => exact trivial
      | 6 => exact trivial
      | 7 => exact trivial
      | 8 => exact trivial
      | 9 => exact trivial
      | 10 => exact trivial
      | 11 => exact trivial
      | 12 => exact trivial
      | 13 => exact trivial
      | 14 => exact trivial
      | 15 => exact trivial
      | 16 => exact trivial
      | 17 => exact trivial
      | 18 => exact trivial
      | _ + 19 => trivial
    case hstepsL =>
      refine ⟨?_, ?_, ?_, ?_, ?_, ?_, ?_, ?_, ?_, ?_, ?_, ?_, ?_, ?_, ?_, ?_, ?_, ?_, ?_, trivial⟩
      · intro ac wc h K hK
        have b4 : ac.tmps.getD 4 undef = .int .i64 0 := (h.base 4 (by decide)).trans rfl
        go_simp
        exact hK (.int .i64 0) wc (Chg.refl _ wc) rfl trivial
      · intro ac wc h K hK
        have d19 : ac.tmps.getD 19 undef = .int .i64 0 := h.dep ⟨0, .data⟩ (by simp) rfl 19 rfl
        go_simp
        exact hK (.bool true) wc (Chg.refl _ wc) rfl trivial
      · intro ac wc h K hK
        have d20 : ac.tmps.getD 20 undef = .bool true := h.dep ⟨1, .data⟩ (by simp) rfl 20 rfl
        go_simp
        exact hK (.bool true) wc (Chg.refl _ wc) rfl trivial
      · intro ac wc h K hK
        have b3 : ac.tmps.getD 3 undef = .slice bo m bcap := (h.base 3 (by decide)).trans rfl
        have g21 : ac.tmps[21]? = some (.bool true) := getElem_of_getD (h.dep ⟨2, .guard⟩ (by simp) rfl 21 rfl)
        go_simp
        exact hK (.slice bo m bcap) wc (Chg.refl _ wc) rfl trivial
      · intro ac wc h K hK
        have d22 : ac.tmps.getD 22 undef = .slice bo m bcap := h.dep ⟨3, .data⟩ (by simp) rfl 22 rfl
        have g21 : ac.tmps[21]? = some (.bool true) := getElem_of_getD (h.dep ⟨2, .guard⟩ (by simp) rfl 21 rfl)
        have hq := run_toString wc 5 _ _ h.pre
        go_simp
        exact hK (.string (strOf cb)) wc (Chg.refl _ wc) rfl trivial
      · intro ac wc h K hK
        have b0 : ac.tmps.getD 0 undef = .string body := (h.base 0 (by decide)).trans rfl
        have g21 : ac.tmps[21]? = some (.bool true) := getElem_of_getD (h.dep ⟨2, .guard⟩ (by simp) rfl 21 rfl)
        go_simp
        exact hK (.string body) wc (Chg.refl _ wc) rfl trivial
      · intro ac wc h K hK
        have d24 : ac.tmps.getD 24 undef = .string body := h.dep ⟨5, .data⟩ (by simp) rfl 24 rfl
        have g21 : ac.tmps[21]? = some (.bool true) := getElem_of_getD (h.dep ⟨2, .guard⟩ (by simp) rfl 21 rfl)
        go_simp
        refine (HCb.out wc).mono ?_
        rintro e w1 ⟨rfl, hc1⟩
        exact hK _ w1 hc1 rfl trivial
      · intro ac wc h K hK
        have d23 : ac.tmps.getD 23 undef = .string (strOf cb) := h.dep ⟨4, .data⟩ (by simp) rfl 23 rfl
        have d25 : ac.tmps.getD 25 undef = .string (strOf cb) := h.dep ⟨6, .data⟩ (by simp) rfl 25 rfl
        have g21 : ac.tmps[21]? = some (.bool true) := getElem_of_getD (h.dep ⟨2, .guard⟩ (by simp) rfl 21 rfl)
        go_simp
        exact hK (.bool true) wc (Chg.refl _ wc) rfl trivial
      · intro ac wc h K hK
        have d21 : ac.tmps.getD 21 undef = .bool true := h.dep ⟨2, .data⟩ (by simp) rfl 21 rfl
        have d26 : ac.tmps.getD 26 undef = .bool true := h.dep ⟨7, .data⟩ (by simp) rfl 26 rfl
        go_simp
        exact hK (.bool true) wc (Chg.refl _ wc) rfl trivial
      · intro ac wc h K hK
        have d27 : ac.tmps.getD 27 undef = .bool true := h.dep ⟨8, .data⟩ (by simp) rfl 27 rfl
        go_simp
        exact hK (.bool true) wc (Chg.refl _ wc) rfl trivial
      · intro ac wc h K hK
        have b0 : ac.tmps.getD 0 undef = .string body := (h.base 0 (by decide)).trans rfl
        have g28 : ac.tmps[28]? = some (.bool true) := getElem_of_getD (h.dep ⟨9, .guard⟩ (by simp) rfl 28 rfl)
        go_simp
        exact hK (.string body) wc (Chg.refl _ wc) rfl trivial
      · intro ac wc h K hK
        have d29 : ac.tmps.getD 29 undef = .string body := h.dep ⟨10, .data⟩ (by simp) rfl 29 rfl
        have g28 : ac.tmps[28]? = some (.bool true) := getElem_of_getD (h.dep ⟨9, .guard⟩ (by simp) rfl 28 rfl)
        go_simp
        exact hK (.int .i64 (body.size : Int)) wc (Chg.refl _ wc) rfl trivial
      · intro ac wc h K hK
        have d30 : ac.tmps.getD 30 undef = .int .i64 (body.size : Int) := h.dep ⟨11, .data⟩ (by simp) rfl 30 rfl
        have g28 : ac.tmps[28]? = some (.bool true) := getElem_of_getD (h.dep ⟨9, .guard⟩ (by simp) rfl 28 rfl)
        go_simp
        refine (HBl.out wc).mono ?_
        rintro e w1 ⟨rfl, rfl⟩
        exact hK _ wc (Chg.refl _ wc) rfl trivial
      · intro ac wc h K hK
        have d31 : ac.tmps.getD 31 undef = .int .i64 (N : Int) := h.dep ⟨12, .data⟩ (by simp) rfl 31 rfl
        have g28 : ac.tmps[28]? = some (.bool true) := getElem_of_getD (h.dep ⟨9, .guard⟩ (by simp) rfl 28 rfl)
        have hN1 := HN1.out
        have hw : IntKind.i64.wrap ((N : Int) * 64) = (N : Int) * 64 := by rw [IntKind.wrap_i64]; omega
        go_simp
        exact hK (.int .i64 ((N : Int) * 64)) wc (Chg.refl _ wc) rfl trivial
      · intro ac wc h K hK
        have b3 : ac.tmps.getD 3 undef = .slice bo m bcap := (h.base 3 (by decide)).trans rfl
        have g28 : ac.tmps[28]? = some (.bool true) := getElem_of_getD (h.dep ⟨9, .guard⟩ (by simp) rfl 28 rfl)
        go_simp
        exact hK (.slice bo m bcap) wc (Chg.refl _ wc) rfl trivial
      · intro ac wc h K hK
        have d33 : ac.tmps.getD 33 undef = .slice bo m bcap := h.dep ⟨14, .data⟩ (by simp) rfl 33 rfl
        have g28 : ac.tmps[28]? = some (.bool true) := getElem_of_getD (h.dep ⟨9, .guard⟩ (by simp) rfl 28 rfl)
        go_simp
        exact hK (.int .i64 (m : Int)) wc (Chg.refl _ wc) rfl trivial
      · intro ac wc h K hK
        have d32 : ac.tmps.getD 32 undef = .int .i64 ((N : Int) * 64) := h.dep ⟨13, .data⟩ (by simp) rfl 32 rfl
        have d34 : ac.tmps.getD 34 undef = .int .i64 (m : Int) := h.dep ⟨15, .data⟩ (by simp) rfl 34 rfl
        have g28 : ac.tmps[28]? = some (.bool true) := getElem_of_getD (h.dep ⟨9, .guard⟩ (by simp) rfl 28 rfl)
        have hq : (((N : Int) * 64) == (m : Int)) = true := by rw [beq_iff_eq]; have := HM.out; omega
        go_simp
        exact hK (.bool true) wc (Chg.refl _ wc) rfl trivial
      · intro ac wc h K hK
        have d28 : ac.tmps.getD 28 undef = .bool true := h.dep ⟨9, .data⟩ (by simp) rfl 28 rfl
        have d35 : ac.tmps.getD 35 undef = .bool true := h.dep ⟨16, .data⟩ (by simp) rfl 35 rfl
        go_simp
        exact hK (.bool true) wc (Chg.refl _ wc) rfl trivial
      · intro ac wc h K hK
        have d36 : ac.tmps.getD 36 undef = .bool true := h.dep ⟨17, .data⟩ (by simp) rfl 36 rfl
        go_simp
        exact hK (.bool true) wc (Chg.refl _ wc) rfl trivial
    intro acL wcL hc hall hpsi hput
    have hact := hput [(19, .int .i64 0), (20, .bool true), (21, .bool true), (22, .slice bo m bcap), (23, .string (strOf cb)), (24, .string body), (25, .string (strOf cb)), (26, .bool true), (27, .bool true), (28, .bool true), (29, .string body), (30, .int .i64 (body.size : Int)), (31, .int .i64 (N : Int)), (32, .int .i64 ((N : Int) * 64)), (33, .slice bo m bcap), (34, .int .i64 (m : Int)), (35, .bool true), (36, .bool true), (2, .bool true)] rfl ⟨hall 0 19 rfl, hall 1 20 rfl, hall 2 21 rfl, hall 3 22 rfl, hall 4 23 rfl, hall 5 24 rfl, hall 6 25 rfl, hall 7 26 rfl, hall 8 27 rfl, hall 9 28 rfl, hall 10 29 rfl, hall 11 30 rfl, hall 12 31 rfl, hall 13 32 rfl, hall 14 33 rfl, hall 15 34 rfl, hall 16 35 rfl, hall 17 36 rfl, hall 18 2 rfl, trivial⟩
    clear hput hall
    subst hact
    have HCR := Lib.hid (show Chg [] w3 wcL from hc)
    clear hpsi hc p
    simp only [Act.puts, Act.put]
    go_simp
    have HC6 := Lib.hid (HC3.out.then HCR.out)
    go_wp2_with fail
    go_ret
    exact ⟨rfl, HC6.out⟩
  · have hl : ((5000 : Int) < (body.size : Int)) := by omega
    have HAw := Lib.hid (awake7_calls w1)
    go_wp2_with fail
    refine HAw.out.mono ?_
    rintro e w5 ⟨rfl, hc5⟩
    have HC5 := Lib.hid (HC1.out.then hc5)
    clear hc5
    go_wp2
    go_ret
    exact ⟨rfl, HC5.out⟩
end Go.Proofs.Ytgmgmjljjbcgjaa

/- JournalRooms: its walk. -/
import Derived.Test.YtgmgmjljjbcgjaaJSteps
namespace Go.Proofs.Ytgmgmjljjbcgjaa
open Go Go.RowKit NSX

set_option maxRecDepth 100000 in
set_option maxHeartbeats 2000000 in
theorem JournalRooms_calls (f : ByteArray) (u : Value) (ss : List ByteArray) (w : World) (hu : StrsAt w u ss) :
    Calls Try.prog 23 #[.string f, u] w fun e w' => e = .returned (.bool true) ∧ Chg [] w w' := by
  have hu2 := hu
  obtain ⟨uo, ucap, rfl, hul, hum, -⟩ := hu2
  unfold maxLen at hum
  have HU := Lib.hid hu
  clear hu
  go_enter Try.func23, Try.ntmps23
  go_wp2_with fail
  refine (awake9_calls _).mono ?_
  rintro e w1 ⟨rfl, hc1⟩
  have HC1 := Lib.hid hc1
  clear hc1
  simp only []
  by_cases hf : f.size ≤ 3000 ∧ ss.length ≤ 60
  · have hf1 : ¬ ((3000 : Int) < (f.size : Int)) := by omega
    have hf2 : ¬ ((60 : Int) < (ss.length : Int)) := by omega
    have hss := hf.2
    have HF := Lib.hid hf.1
    clear hf
    go_wp2_with fail
    refine (New_calls w1).mono ?_
    rintro e w2 ⟨rfl, hs2, hc2⟩
    obtain ⟨S, hS⟩ : ∃ S, w1.heap.size = S := ⟨_, rfl⟩
    rw [hS] at hs2 ⊢
    obtain ⟨cap, w3, hr, hib, hc3, -⟩ := run_ofString w2 f (by have := HF.out; unfold maxLen; omega)
    have HO := Lib.hid (Open_new S _ f.data.toList w3 (hs2.chg hc3 (by simp)) hib (by rw [str_len]; have := HF.out; omega))
    have HC3 := Lib.hid ((HC1.out.then hc2).then hc3)
    have HSz := Lib.hid (show w.heap.size ≤ S by rw [← hS]; exact HC1.out.size)
    clear hs2 hib hc2 hc3 hS
    simp only []
    go_wp2_with fail
    refine HO.out.mono ?_
    rintro e w4 ⟨J, st4, rfl, hJ, hs4, hd4, ha4, hcl4, hw4, ⟨t4, hj4⟩, hc4⟩
    have HS4 := Lib.hid hs4
    have HD4 := Lib.hid hd4
    have HA4 := Lib.hid ha4
    have HCl4 := Lib.hid hcl4
    have HW4 := Lib.hid hw4
    have hj4' : JournalAt w4 t4 J S (jnOf 0 1 [f.data.toList]) := by
      have e : jnOf 0 1 [f.data.toList] = ⟨0, 1, [f.data.toList], nBlocks f.data.toList.length, false⟩ := by unfold jnOf; simp [nAll]
      rw [e]; exact hj4
    have HJ4 := Lib.hid hj4'
    have HC4 := Lib.hid (HC3.out.trans hc4 (fun x hx => by simp at hx; subst hx; exact .inr HSz.out))
    clear hs4 hd4 ha4 hcl4 hw4 hj4 hj4' hc4 hJ hr
    obtain ⟨fb, hfb⟩ : ∃ fb, f.data.toList = fb := ⟨_, rfl⟩
    rw [hfb] at HCl4 HJ4
    have HFb := Lib.hid (show fb.length ≤ 3000 by rw [← hfb, str_len]; exact HF.out)
    clear hfb
    simp only []
    go_wp2_with fail
    go_loopw [43] (fun i wr => ∃ (k t : Nat) (rest : List (List UInt8)) (st : St), k ≤ ss.length ∧ i = .int .i64 k ∧ StoreAt wr S st ∧ st.down = false ∧ st.armed = false ∧ (0 ≤ st.writes ∧ st.writes ≤ 1000 + 1000 * k) ∧ Clean st.bytes 0 1 (fb :: rest) ∧ JournalAt wr t J S (jnOf 0 1 (fb :: rest)) ∧ Chg [] w wr) (fun i _ => ss.length - (intOf i).toNat)
    case atStart => exact ⟨0, t4, [], st4, by omega, rfl, HS4.out, HD4.out, HA4.out, by have := HW4.out; omega, HCl4.out, HJ4.out, HC4.out⟩
    case round =>
      obtain ⟨k, t, rest, st, hk, rfl, hst, hd, ha, hw, hcl, hj, hc⟩ := hrel
      clear HS4 HD4 HA4 HCl4 HW4 HJ4 HC4
      have HSt := Lib.hid hst
      have HD := Lib.hid hd
      have HA := Lib.hid ha
      have HW := Lib.hid hw
      have HCl := Lib.hid hcl
      have HJ := Lib.hid hj
      have HC := Lib.hid hc
      clear hst hd ha hw hcl hj hc
      by_cases hlt : k < ss.length
      · have hi2 : (k : Int) < (ss.length : Int) := by omega
        obtain ⟨s, hs⟩ : ∃ s, ss[k]? = some s := ⟨_, List.getElem?_eq_getElem hlt⟩
        obtain ⟨ao, cap', hv, h1, h2, h3⟩ := HU.out
        simp only [Value.slice.injEq] at hv
        obtain ⟨rfl, -, rfl⟩ := hv
        obtain ⟨a, rfl, hx⟩ := h3 k s hs
        have HX := Lib.hid hx
        have hxr := HC.out.cell hx (by simp)
        obtain ⟨z, hz⟩ : ∃ z, s.size = z := ⟨_, rfl⟩
        have hbl : s.data.toList.length = z := by rw [str_len, hz]
        clear hs h1 h2 h3 hx
        by_cases hbig : z ≤ 40000
        · have hbi : ¬ ((40000 : Int) < (z : Int)) := by omega
          have hcl := HCl.out
          have hfit := hcl.1.fits
          have hshort := hcl.1.short
          have hcnt := length_le_nAll (fb :: rest)
          rw [List.length_cons] at hcnt
          obtain ⟨L, hL⟩ : ∃ L, nAll (fb :: rest) = L := ⟨_, rfl⟩
          rw [hL] at hfit hcnt
          have hstep := add_step 0 1 (fb :: rest) s.data.toList st hcl HD.out
          obtain ⟨r, hr⟩ : ∃ r, (jnOf 0 1 (fb :: rest)).add st s.data.toList = r := ⟨_, rfl⟩
          obtain ⟨lf, hlf⟩ : ∃ lf, 511 - L = lf := ⟨_, rfl⟩
          rw [hbl, hL, hr, hlf] at hstep
          have HLf := Lib.hid (Left_calls t J S _ wr HJ.out (by show nAll (fb :: rest) ≤ 511; omega))
          rw [show (jnOf 0 1 (fb :: rest)).used = L from hL, hlf] at HLf
          have HR := Lib.hid hr
          have HShort := Lib.hid hshort
          have HStep := Lib.hid hstep
          have HLe := Lib.hid hL
          clear hcl hshort hstep hL hr
          go_wp2_with fail
          refine HLf.out.mono ?_
          rintro e w' ⟨rfl, rfl⟩
          simp only []
          go_wp2_with fail
          refine (Records_calls t J S _ fb rest wr HJ.out rfl (fun b hb => HShort.out b (by simp [hb])) (by omega)).mono ?_
          rintro e w5 ⟨rv, rfl, hrv, hc5⟩
          obtain ⟨ro, rcap, rfl⟩ := hrv.slice
          have HC5 := Lib.hid (HC.out.then hc5)
          have HS5 := Lib.hid (HSt.out.chg hc5 (by simp))
          have HJ5 := Lib.hid (HJ.out.then hc5)
          have hx5 := HC5.out.cell HX.out (by simp)
          clear hrv hc5
          simp only []
          go_wp2_with fail
          refine (Writes_calls S st w5 HS5.out).mono ?_
          rintro e w' ⟨rfl, rfl⟩
          obtain ⟨scap, w6, hr6, hib, hc6, -⟩ := run_ofString w5 s (by rw [hz]; unfold maxLen; omega)
          rw [hz] at hr6 hib
          have HAdd := Lib.hid (Add_calls t J S (jnOf 0 1 (fb :: rest)) st _ s.data.toList w6 (HS5.out.chg hc6 (by simp)) HD.out (HJ5.out.then hc6) rfl hib (by show 0 ≤ 1; omega) (by rw [show (jnOf 0 1 (fb :: rest)).used = L from HLe.out]; omega) (by show (fb :: rest).length ≤ 1000; rw [List.length_cons]; omega))
          rw [HR.out] at HAdd
          have HC6 := Lib.hid (HC5.out.then hc6)
          clear hib hc6
          simp only []
          go_wp2_with fail
          refine HAdd.out.mono ?_
          rintro e w7 ⟨rfl, hs7, ⟨t7, hj7⟩, hj8⟩
          have hc7 := hj8.chg HC6.out HSz.out
          have hx7 := hc7.cell HX.out (by simp)
          have HC7 := Lib.hid hc7
          have HS7 := Lib.hid hs7
          have HJ7 := Lib.hid hj7
          obtain ⟨n, hn⟩ : ∃ n, nBlocks z = n := ⟨_, rfl⟩
          have hmax : (if 1 < ((z : Int) + 57) / 58 then ((z : Int) + 57) / 58 else 1) = (n : Int) := by rw [← hn]; unfold nBlocks; split <;> omega
          have hn1000 : n ≤ 1000 := by rw [← hn]; unfold nBlocks; omega
          clear hs7 hj7 hj8 hc7 hr6 hxr hx5
          simp only []
          rcases HStep.out with ⟨h0, h1, h2, h3, h4, h5, h6⟩ | ⟨_, _, h, _⟩ | ⟨h0, h1⟩
          · obtain ⟨hz1, hz2⟩ := sizeAns_ok h0
            rw [hn] at hz2 h6
            have hz3 : ¬ ((32768 : Int) < (z : Int)) := by omega
            have hz4 : ¬ ((lf : Int) < (n : Int)) := by omega
            rw [h2] at HJ7
            have hna : nAll ((fb :: rest) ++ [s.data.toList]) = L + n := by rw [nAll_one, HLe.out, hbl, hn]
            have HLf7 := Lib.hid (Left_calls t7 J S _ w7 HJ7.out (by show nAll ((fb :: rest) ++ [s.data.toList]) ≤ 511; omega))
            rw [show (jnOf 0 1 (fb :: rest ++ [s.data.toList])).used = L + n from hna, show ((511 - (L + n) : Nat) : Int) = (lf : Int) - (n : Int) from by omega] at HLf7
            have h6' := h6 HA.out HW.out.1 (by have := HW.out; omega)
            have HRec := Lib.hid (Records_calls t7 J S _ fb (rest ++ [s.data.toList]) w7 HJ7.out rfl (fun b hb => h5.1.short b (List.mem_cons_of_mem _ hb)) (by rw [List.length_append]; simp; omega))
            have H3 := Lib.hid h3
            have H4 := Lib.hid (h4.trans HA.out)
            have H5 := Lib.hid h5
            have H6 := Lib.hid h6'
            have HWw := HW.out
            have hwi : st.writes + (n : Int) ≤ 100000000 := by have := HW.out; omega
            have hwi0 : 0 ≤ st.writes := HW.out.1
            rw [h1]
            clear h0 h1 h2 h3 h4 h5 h6 h6' hz1 hz2 hna
            go_wp2_with fail
            refine HLf7.out.mono ?_
            rintro e w' ⟨rfl, rfl⟩
            simp only []
            go_wp2_with fail
            refine HRec.out.mono ?_
            rintro e w8 ⟨rv8, rfl, hrv8, hc8⟩
            obtain ⟨ro8, rcap8, rfl⟩ := hrv8.slice
            have HC8 := Lib.hid (HC7.out.then hc8)
            have HS8 := Lib.hid (HS7.out.chg hc8 (by simp))
            have HJ8 := Lib.hid (HJ7.out.then hc8)
            have hlen8 : (rest ++ [s.data.toList]).length = rest.length + 1 := by simp
            rw [hlen8]
            clear hrv8 hc8 hlen8
            simp only []
            go_wp2_with fail
            refine (Writes_calls S r.2.1 w8 HS8.out).mono ?_
            rintro e w' ⟨rfl, rfl⟩
            rw [H6.out]
            simp only []
            go_wp2_with fail
            go_roundw
            case rel => exact ⟨k + 1, t7, rest ++ [s.data.toList], r.2.1, by omega, by go_num, HS8.out, H3.out, H4.out, by rw [H6.out]; have := HW.out; omega, H5.out, HJ8.out, HC8.out⟩
            case measure => simp [intOf]; omega
          · rw [HA.out] at h; cases h
          · have hq : ∃ q : Int, sizeAns z (lf : Int) = q := ⟨_, rfl⟩
            obtain ⟨q, hq⟩ := hq
            rw [hq] at h0 h1
            subst h1
            have HLf7 := Lib.hid (Left_calls t7 J S _ w7 HJ7.out (by show nAll (fb :: rest) ≤ 511; rw [HLe.out]; omega))
            rw [show (jnOf 0 1 (fb :: rest)).used = L from HLe.out, hlf] at HLf7
            have HRec := Lib.hid (Records_calls t7 J S _ fb rest w7 HJ7.out rfl (fun b hb => HShort.out b (by simp [hb])) (by omega))
            have hcase : (32768 < z ∧ q = 4) ∨ (¬ 32768 < z ∧ lf < n ∧ q = 10) := by
              unfold sizeAns at hq
              by_cases hz1 : 32768 < z
              · rw [if_pos hz1] at hq; exact .inl ⟨hz1, hq.symm⟩
              · rw [if_neg hz1, hn] at hq
                by_cases hz2 : (lf : Int) < (n : Int)
                · rw [if_pos hz2] at hq; exact .inr ⟨hz1, by omega, hq.symm⟩
                · rw [if_neg hz2] at hq; exact absurd hq.symm h0
            clear h0 hq
            rcases hcase with ⟨hz1, rfl⟩ | ⟨hz1, hz2, rfl⟩
            · have hz3 : ((32768 : Int) < (z : Int)) := by omega
              go_wp2_with fail
              refine HLf7.out.mono ?_
              rintro e w' ⟨rfl, rfl⟩
              simp only []
              go_wp2_with fail
              refine HRec.out.mono ?_
              rintro e w8 ⟨rv8, rfl, hrv8, hc8⟩
              obtain ⟨ro8, rcap8, rfl⟩ := hrv8.slice
              have HC8 := Lib.hid (HC7.out.then hc8)
              have HS8 := Lib.hid (HS7.out.chg hc8 (by simp))
              have HJ8 := Lib.hid (HJ7.out.then hc8)
              clear hrv8 hc8
              simp only []
              go_wp2_with fail
              refine (Writes_calls S st w8 HS8.out).mono ?_
              rintro e w' ⟨rfl, rfl⟩
              simp only []
              go_wp2_with fail
              go_roundw
              case rel => exact ⟨k + 1, t7, rest, st, by omega, by go_num, HS8.out, HD.out, HA.out, by have := HW.out; omega, HCl.out, HJ8.out, HC8.out⟩
              case measure => simp [intOf]; omega
            · have hz3 : ¬ ((32768 : Int) < (z : Int)) := by omega
              have hz4 : ((lf : Int) < (n : Int)) := by omega
              go_wp2_with fail
              refine HLf7.out.mono ?_
              rintro e w' ⟨rfl, rfl⟩
              simp only []
              go_wp2_with fail
              refine HRec.out.mono ?_
              rintro e w8 ⟨rv8, rfl, hrv8, hc8⟩
              obtain ⟨ro8, rcap8, rfl⟩ := hrv8.slice
              have HC8 := Lib.hid (HC7.out.then hc8)
              have HS8 := Lib.hid (HS7.out.chg hc8 (by simp))
              have HJ8 := Lib.hid (HJ7.out.then hc8)
              clear hrv8 hc8
              simp only []
              go_wp2_with fail
              refine (Writes_calls S st w8 HS8.out).mono ?_
              rintro e w' ⟨rfl, rfl⟩
              simp only []
              go_wp2_with fail
              go_roundw
              case rel => exact ⟨k + 1, t7, rest, st, by omega, by go_num, HS8.out, HD.out, HA.out, by have := HW.out; omega, HCl.out, HJ8.out, HC8.out⟩
              case measure => simp [intOf]; omega
        · have hbi : ((40000 : Int) < (z : Int)) := by omega
          go_wp2_with fail
          go_ret
          exact ⟨rfl, HC.out⟩
      · obtain rfl : k = ss.length := by omega
        have hi2 : ¬ ((ss.length : Int) < (ss.length : Int)) := by omega
        go_wp2_with fail
        go_ret
        exact ⟨rfl, HC.out⟩
  · by_cases hf1 : f.size ≤ 3000
    · have h1 : ¬ ((3000 : Int) < (f.size : Int)) := by omega
      have h2 : ((60 : Int) < (ss.length : Int)) := by omega
      go_wp2_with fail
      refine (awake9_calls _).mono ?_
      rintro e w5 ⟨rfl, hc5⟩
      have HC5 := Lib.hid (HC1.out.then hc5)
      clear hc5
      go_wp2
      go_ret
      exact ⟨rfl, HC5.out⟩
    · have h1 : ((3000 : Int) < (f.size : Int)) := by omega
      go_wp2_with fail
      refine (awake9_calls _).mono ?_
      rintro e w5 ⟨rfl, hc5⟩
      have HC5 := Lib.hid (HC1.out.then hc5)
      clear hc5
      go_wp2
      go_ret
      exact ⟨rfl, HC5.out⟩
end Go.Proofs.Ytgmgmjljjbcgjaa

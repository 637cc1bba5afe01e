/- JournalFresh: its walk. -/
import Derived.Test.YtgmgmjljjbcgjaaJSteps
import Derived.Test.YtgmgmjljjbcgjaaSealKeepsW
namespace Go.Proofs.Ytgmgmjljjbcgjaa
open Go Go.RowKit NSX

/-- Block g begins with n bytes that may be written. -/
def RowU (w : World) (g n : Nat) : Prop := ∃ cur lo hi, w.heap[g]? = some (.cells cur 5 (lo, hi)) ∧ (n ≤ lo ∨ (lo, hi) = (0, 0)) ∧ ∀ i, i < n → ∃ c : UInt8, cur[i]? = some (u8 c)
theorem RowU.chg {w w' : World} {g n : Nat} {r : List Nat} (h : RowU w g n) (hc : Chg r w w') (hn : g ∉ r) : RowU w' g n := by
  obtain ⟨cur, lo, hi, h1, h2⟩ := h
  exact ⟨cur, lo, hi, hc.heap h1 hn, h2⟩
theorem RowU.cell {w : World} {g n : Nat} (h : RowU w g n) (i : Nat) (hi : i < n) : ∃ c : UInt8, w.cell? ⟨g, i, none⟩ = some (u8 c) ∧ w.frozen? ⟨g, i, none⟩ = false := by
  obtain ⟨cur, lo, h9, h1, h2, h3⟩ := h
  obtain ⟨c, hc⟩ := h3 i hi
  refine ⟨c, cell_of_heap h1 hc, ?_⟩
  unfold World.frozen?
  simp only
  rw [h1]
  simp only [Bool.and_eq_false_iff, decide_eq_false_iff_not]
  rcases h2 with h2 | h2
  · left; omega
  · right
    simp only [Prod.mk.injEq] at h2
    omega
theorem RowU.stored {w : World} {g n : Nat} (h : RowU w g n) (i : Nat) (c : UInt8) : RowU (w.setCell ⟨g, i, none⟩ (u8 c)) g n := by
  obtain ⟨cur, lo, hi, h1, h2, h3⟩ := h
  refine ⟨_, lo, hi, setCell_heap h1 _, h2, fun k hk => ?_⟩
  obtain ⟨d, hd⟩ := h3 k hk
  rw [Array.getElem?_setIfInBounds]
  by_cases hik : i = k
  · subst hik
    have hlt : i < cur.size := (Array.getElem?_eq_some_iff.1 hd).1
    rw [if_pos rfl, if_pos hlt]
    exact ⟨c, rfl⟩
  · rw [if_neg hik]
    exact ⟨d, hd⟩
/-- A string's bytes may be written. -/
theorem rowU_of {w : World} {g cap : Nat} {s : ByteArray} (hib : IsB w 5 (.slice (some ⟨g, 0, none⟩) s.size cap) s.data.toList) (hx : ∃ cur lo, w.heap[g]? = some (.cells cur 5 (lo, lo + 1)) ∧ s.size ≤ lo ∧ cur.size = lo) : RowU w g s.size := by
  obtain ⟨cur, lo, h1, h2, h3⟩ := hx
  refine ⟨cur, lo, lo + 1, h1, .inl h2, fun i hi => ?_⟩
  obtain ⟨ao, cap', hv, _, _, _, hc⟩ := hib.cells
  obtain ⟨g', off, ha, hcell⟩ := hc i (by rw [str_len]; exact hi)
  simp only [Value.slice.injEq] at hv
  obtain ⟨rfl, -, -⟩ := hv
  simp only [Option.some.injEq, Addr.mk.injEq, and_true] at ha
  obtain ⟨rfl, rfl⟩ := ha
  rw [Nat.zero_add] at hcell
  refine ⟨s.data.toList.getD i 0, ?_⟩
  simpa [World.cell?, h1] using hcell
theorem ListB.top {w : World} {base top : Nat} {v : Value} {l : List (List UInt8)} (h : ListB w base top v l) : ListB w base w.heap.size v l := by
  have hlt := h.lt
  obtain ⟨vs, h1, h2, h3⟩ := h
  exact ⟨vs, h1, fun k hk => (hlt k hk).2, fun i x b hx hb => ⟨(h3 i x b hx hb).1, fun k hk => ((h3 i x b hx hb).1.lt k hk).2⟩⟩
theorem JournalAt.top {w : World} {t J S : Nat} {j : Jn} (h : JournalAt w t J S j) : JournalAt w w.heap.size J S j := by
  obtain ⟨hb, v, h1, h2⟩ := h
  exact ⟨hb, v, h1, h2.top⟩

set_option maxRecDepth 100000 in
set_option maxHeartbeats 2000000 in
theorem JournalFresh_calls (f b : ByteArray) (w : World) : Calls Try.prog 22 #[.string f, .string b] w fun e w' => e = .returned (.bool true) ∧ Chg [] w w' := by
  go_enter Try.func22, Try.ntmps22
  go_wp2_with fail
  refine (awake9_calls _).mono ?_
  rintro e w1 ⟨rfl, hc1⟩
  have HC1 := Lib.hid hc1
  clear hc1
  simp only []
  by_cases hf : f.size ≤ 3000 ∧ b.size ≤ 3000
  · have hf1 : ¬ ((3000 : Int) < (f.size : Int)) := by omega
    have hf2 : ¬ ((3000 : Int) < (b.size : Int)) := by omega
    have hfs := hf.1
    have hbs := hf.2
    clear hf
    obtain ⟨acap, w2, hr2, hib2, hc2, hx2⟩ := run_ofString w1 f (by unfold maxLen; omega)
    obtain ⟨bcap, w3, hr3, hib3, hc3, hx3⟩ := run_ofString w2 b (by unfold maxLen; omega)
    obtain ⟨A, hA⟩ : ∃ A, w1.heap.size = A := ⟨_, rfl⟩
    obtain ⟨B, hB⟩ : ∃ B, w2.heap.size = B := ⟨_, rfl⟩
    rw [hA] at hr2 hib2 hx2
    rw [hB] at hr3 hib3 hx3
    have hAw : w.heap.size ≤ A := by rw [← hA]; exact HC1.out.size
    have hAB : A < B := by
      obtain ⟨cur, lo, h1, _⟩ := hx2
      rw [← hB]; exact heap_lt h1
    have hB3 : B < w3.heap.size := by
      obtain ⟨cur, lo, h1, _⟩ := hx3
      exact heap_lt h1
    have HRA := Lib.hid ((rowU_of hib2 hx2).chg hc3 (by simp))
    have HRB := Lib.hid (rowU_of hib3 hx3)
    have HIA := Lib.hid (hib2.then hc3)
    have HIB := Lib.hid hib3
    have HC3 := Lib.hid ((HC1.out.then hc2).then hc3)
    clear hib2 hib3 hx2 hx3 hc2 hc3
    go_wp2_with fail
    refine (New_calls w3).mono ?_
    rintro e w4 ⟨rfl, hs4, hc4⟩
    obtain ⟨S, hS⟩ : ∃ S, w3.heap.size = S := ⟨_, rfl⟩
    rw [hS] at hs4 hB3 ⊢
    have HO := Lib.hid (Open_new S _ f.data.toList w4 hs4 (HIA.out.then hc4) (by rw [str_len]; omega))
    have HC4 := Lib.hid (HC3.out.then hc4)
    have HRA4 := Lib.hid (HRA.out.chg hc4 (by simp))
    have HRB4 := Lib.hid (HRB.out.chg hc4 (by simp))
    have HIB4 := Lib.hid (HIB.out.then hc4)
    have HS4 := Lib.hid hs4
    clear hs4 hc4 hr2 hr3 hS
    simp only []
    go_wp2_with fail
    refine HO.out.mono ?_
    rintro e w5 ⟨J, st5, rfl, -, hs5, hd5, ha5, hcl5, -, ⟨t5, hj5⟩, hc5⟩
    have hj5' : JournalAt w5 t5 J S (jnOf 0 1 [f.data.toList]) := by
      have e : jnOf 0 1 [f.data.toList] = ⟨0, 1, [f.data.toList], nBlocks f.data.toList.length, false⟩ := by unfold jnOf; simp [nAll]
      rw [e]; exact hj5
    have hSw : w.heap.size ≤ S := by omega
    have HC5 := Lib.hid (HC4.out.trans hc5 (fun x hx => by simp at hx; subst hx; exact .inr hSw))
    have HRA5 := Lib.hid (HRA4.out.chg hc5 (by simp; omega))
    have HRB5 := Lib.hid (HRB4.out.chg hc5 (by simp; omega))
    have HIB5 := Lib.hid (HIB4.out.stored HS4.out hc5)
    have hna : nAll [f.data.toList] = nBlocks f.size := by simp [nAll]
    have hnf : nBlocks f.size ≤ 60 := by unfold nBlocks; omega
    have hnb : nBlocks b.size ≤ 60 := by unfold nBlocks; omega
    have HAdd := Lib.hid (Add_calls t5 J S (jnOf 0 1 [f.data.toList]) st5 _ b.data.toList w5 hs5 hd5 hj5' rfl HIB5.out (by show 0 ≤ 1; omega) (by show nAll [f.data.toList] ≤ 511; omega) (by simp [jnOf]))
    have hstep := add_step 0 1 [f.data.toList] b.data.toList st5 hcl5 hd5
    have hsz0 : sizeAns b.data.toList.length ((511 - nAll [f.data.toList] : Nat) : Int) = 0 := by
      rw [hna, str_len]
      unfold sizeAns
      rw [if_neg (by omega), if_neg (by omega)]
    have hok : ((jnOf 0 1 [f.data.toList]).add st5 b.data.toList).2.2 = 0 ∧ ((jnOf 0 1 [f.data.toList]).add st5 b.data.toList).1 = jnOf 0 1 [f.data.toList, b.data.toList] := by
      rcases hstep with ⟨_, h1, h2, _⟩ | ⟨_, _, h, _⟩ | ⟨h, _⟩
      · exact ⟨h1, h2⟩
      · rw [ha5] at h; cases h
      · exact absurd hsz0 h
    have HJl := Lib.hid hj5'.lt
    obtain ⟨r, hr⟩ : ∃ r, (jnOf 0 1 [f.data.toList]).add st5 b.data.toList = r := ⟨_, rfl⟩
    rw [hr] at HAdd hok
    obtain ⟨hok1, hok2⟩ := hok
    rw [hok1, hok2] at HAdd
    clear hs5 hd5 ha5 hcl5 hj5 hj5' hc5 hna hnf hnb hstep hsz0 hr hok1 hok2
    simp only []
    go_wp2_with fail
    refine HAdd.out.mono ?_
    rintro e w6 ⟨rfl, -, ⟨t6, hj6⟩, hjc⟩
    have HJ6 := Lib.hid hj6.top
    have HC6 := Lib.hid (hjc.chg HC5.out hSw)
    have hS6 : JChg S w5 w6 := hjc
    have HRA6 := Lib.hid (show RowU w6 A f.size from by
      obtain ⟨cur, lo, hi, h1, h2⟩ := HRA5.out
      exact ⟨cur, lo, hi, hS6.heap h1 ⟨by decide, by decide, by decide⟩, h2⟩)
    have HRB6 := Lib.hid (show RowU w6 B b.size from by
      obtain ⟨cur, lo, hi, h1, h2⟩ := HRB5.out
      exact ⟨cur, lo, hi, hS6.heap h1 ⟨by decide, by decide, by decide⟩, h2⟩)
    have hSJ := HJl.out.1
    obtain ⟨T, hT⟩ : ∃ T, w6.heap.size = T := ⟨_, rfl⟩
    rw [hT] at HJ6
    have hJT : J < T := by rw [← hT]; exact HJ6.out.lt.2
    have HT := Lib.hid hT
    clear hj6 hjc hS6 hT
    simp only []
    go_wp2_with fail
    obtain ⟨n1, hn1⟩ : ∃ n1, f.size = n1 := ⟨_, rfl⟩
    obtain ⟨n2, hn2⟩ : ∃ n2, b.size = n2 := ⟨_, rfl⟩
    rw [hn1] at hfs HRA6 ⊢
    rw [hn2] at hbs HRB6 ⊢
    have HN := Lib.hid (And.intro hn1 hn2)
    clear hn1 hn2
    go_loopw [52] (fun i wr => ∃ k : Nat, k ≤ n1 ∧ i = .int .i64 k ∧ RowU wr A n1 ∧ Chg [A] w6 wr) (fun i _ => n1 - (intOf i).toNat)
    case atStart => exact ⟨0, by omega, rfl, HRA6.out, Chg.refl _ _⟩
    case round =>
      obtain ⟨k, hk, rfl, hru, hc⟩ := hrel
      by_cases hlt : k < n1
      · have hi2 : (k : Int) < (n1 : Int) := by omega
        obtain ⟨c, hcell, hfr⟩ := hru.cell k hlt
        have HSt := Lib.hid (hru.stored k (c ^^^ 255))
        have HCh := Lib.hid (hc.setCell (p := ⟨A, k, none⟩) (.inl (by simp)) (u8 (c ^^^ 255)))
        clear hru hc
        go_wp2
        rw [xor255 c]
        go_roundw
        case rel => exact ⟨k + 1, by omega, by go_num, HSt.out, HCh.out⟩
        case measure => simp [intOf]; omega
      · obtain rfl : k = n1 := by omega
        have hi2 : ¬ (k : Int) < (k : Int) := by omega
        have HC7 := Lib.hid (show Chg [] w wr from HC6.out.trans hc (fun x hx => by simp at hx; subst hx; exact .inr hAw))
        have HJ7 := Lib.hid (HJ6.out.other hc (fun x hx => by simp at hx; subst hx; left; omega) hJT)
        have HRB7 := Lib.hid (HRB6.out.chg hc (by simp; omega))
        have HSz7 := Lib.hid (show T ≤ wr.heap.size by rw [← HT.out]; exact hc.size)
        clear hru hc
        go_wp2_with fail
        go_loopw [64] (fun i wq => ∃ k : Nat, k ≤ n2 ∧ i = .int .i64 k ∧ RowU wq B n2 ∧ Chg [B] wr wq) (fun i _ => n2 - (intOf i).toNat)
        case atStart => exact ⟨0, by omega, rfl, HRB7.out, Chg.refl _ _⟩
        case round =>
          obtain ⟨k2, hk2, rfl, hru, hc⟩ := hrel
          by_cases hlt2 : k2 < n2
          · have hi3 : (k2 : Int) < (n2 : Int) := by omega
            obtain ⟨c, hcell, hfr⟩ := hru.cell k2 hlt2
            have HSt := Lib.hid (hru.stored k2 (c ^^^ 255))
            have HCh := Lib.hid (hc.setCell (p := ⟨B, k2, none⟩) (.inl (by simp)) (u8 (c ^^^ 255)))
            clear hru hc
            go_wp2
            rw [xor255 c]
            go_roundw
            case rel => exact ⟨k2 + 1, by omega, by go_num, HSt.out, HCh.out⟩
            case measure => simp [intOf]; omega
          · obtain rfl : k2 = n2 := by omega
            have hi3 : ¬ (k2 : Int) < (k2 : Int) := by omega
            have HC8 := Lib.hid (show Chg [] w wr from HC7.out.trans hc (fun x hx => by simp at hx; subst hx; right; omega))
            have HJ8 := Lib.hid (HJ7.out.other hc (fun x hx => by simp at hx; subst hx; left; omega) hJT)
            have HSz8 := Lib.hid (Nat.le_trans HSz7.out hc.size)
            have HSn := Lib.hid (Snapshot_calls T J S _ f.data.toList wr HJ8.out rfl (by rw [str_len, HN.out.1]; omega))
            clear hru hc
            go_wp2_with fail
            refine HSn.out.mono ?_
            rintro e w9 ⟨xv, rfl, hx9, hc9⟩
            have HJ9 := Lib.hid (HJ8.out.then hc9)
            have HC9 := Lib.hid (HC8.out.then hc9)
            have HX9 := Lib.hid hx9
            have HSz9 := Lib.hid (show T ≤ wr.heap.size ∧ wr.heap.size ≤ w9.heap.size from ⟨HSz8.out, hc9.size⟩)
            clear hx9 hc9
            simp only []
            go_wp2_with fail
            refine (Records_calls T J S _ f.data.toList [b.data.toList] w9 HJ9.out rfl (by simp only [List.mem_singleton, forall_eq]; rw [str_len, HN.out.2]; omega) (by simp)).mono ?_
            rintro e w10 ⟨yv, rfl, hy10, hc10⟩
            obtain ⟨yo, ycap, rfl, hyc, hycells⟩ := hy10.cells
            obtain ⟨gy, x0, rfl, hyx, hx0⟩ := hycells 0 b.data.toList rfl
            obtain ⟨ao, acap2, rfl, hao⟩ := (HX9.out.then hc10).form
            obtain ⟨bo, bcap2, rfl, hbo⟩ := hx0.form
            rw [str_len, HN.out.1] at hao
            rw [str_len, HN.out.2] at hbo
            have hx9l : f.data.toList.length = k := by rw [str_len, HN.out.1]
            have hb9l : b.data.toList.length = k2 := by rw [str_len, HN.out.2]
            have hyl : ([b.data.toList] : List (List UInt8)).length = 1 := rfl
            have HX10 := Lib.hid (HX9.out.then hc10)
            have HX0 := Lib.hid hx0
            have HYX := Lib.hid hyx
            have HJ10 := Lib.hid (HJ9.out.then hc10)
            have HC10 := Lib.hid (HC9.out.then hc10)
            have HAo := Lib.hid hao
            have HBo := Lib.hid hbo
            have HSz10 := Lib.hid (show w9.heap.size ≤ gy ∧ gy < w10.heap.size from by
              have h := hy10.lt gy (by rfl)
              exact h)
            have HSz11 := Lib.hid hc10.size
            rw [hyl] at hyc ⊢
            rw [hx9l] at HX10 ⊢
            rw [hb9l] at HX0 HYX
            have hyx := HYX.out
            have HW := Lib.hid (show w.heap.size ≤ T by omega)
            clear hy10 hc10 hycells hx0 hao hbo
            simp only []
            go_wp2_with fail
            go_loopw [83] (fun i wr => ∃ (m : Nat) (l : List UInt8) (r : List Nat), m ≤ k ∧ i = .int .i64 m ∧ l.length = k ∧ OwnB wr T (.slice ao k acap2) l ∧ (∀ x ∈ r, T ≤ x ∧ x < w9.heap.size) ∧ Chg r w10 wr) (fun i _ => k - (intOf i).toNat)
            case atStart => exact ⟨0, f.data.toList, [], by omega, rfl, hx9l, HX10.out.mono HSz9.out.1, by simp, Chg.refl _ _⟩
            case round =>
              obtain ⟨m, l, rr, hm, rfl, hll, ho, hrr, hc⟩ := hrel
              by_cases hlt3 : m < k
              · have hi4 : (m : Int) < (k : Int) := by omega
                obtain ⟨gx, rfl, hgx1, hgx2⟩ := HAo.out (by omega)
                obtain ⟨hcell, hfr⟩ := ho.cell m (by omega)
                obtain ⟨c, hcc⟩ : ∃ c, l.getD m 0 = c := ⟨_, rfl⟩
                rw [hcc] at hcell
                have HSt := Lib.hid (ho.stored m (c ^^^ 255))
                have HCh := Lib.hid ((hc.mono (r' := gx :: rr) (fun x hx => List.mem_cons_of_mem _ hx)).setCell (p := ⟨gx, m, none⟩) (.inl (by simp)) (u8 (c ^^^ 255)))
                have HRr := Lib.hid (show ∀ x ∈ gx :: rr, T ≤ x ∧ x < w9.heap.size from by
                  intro x hx
                  rcases List.mem_cons.1 hx with rfl | hx
                  · have := HSz9.out
                    have := HX9.out.lt x (by rfl)
                    have := HSz10.out.1
                    omega
                  · exact hrr x hx)
                clear ho hc hrr hcc
                go_wp2
                rw [xor255 c]
                go_roundw
                case rel => exact ⟨m + 1, l.set m (c ^^^ 255), _, by omega, by go_num, by rw [List.length_set]; exact hll, HSt.out, HRr.out, HCh.out⟩
                case measure => simp [intOf]; omega
              · obtain rfl : m = k := by omega
                have hi4 : ¬ (m : Int) < (m : Int) := by omega
                have HC11 := Lib.hid (show Chg [] w wr from HC10.out.trans hc (fun x hx => .inr (by have := hrr x hx; have := HW.out; omega)))
                have HJ11 := Lib.hid (HJ10.out.other hc (fun x hx => .inr (hrr x hx).1) hJT)
                have hyx2 := hc.cell HYX.out (fun hm2 => by have := hrr gy hm2; have := HSz10.out; omega)
                have HYX2 := Lib.hid hyx2
                have HX02 := Lib.hid (HX0.out.chg hc (fun k9 hk9 hm9 => by have := (HX0.out.lt k9 hk9).1; have := hrr k9 hm9; omega))
                clear ho hc
                go_wp2_with fail
                go_loopw [97] (fun i wq => ∃ (m2 : Nat) (l : List UInt8) (r : List Nat), m2 ≤ k2 ∧ i = .int .i64 m2 ∧ l.length = k2 ∧ OwnB wq w9.heap.size (.slice bo k2 bcap2) l ∧ wq.cell? ⟨gy, 0, none⟩ = some (.slice bo k2 bcap2) ∧ (∀ x ∈ r, T ≤ x) ∧ Chg r wr wq) (fun i _ => k2 - (intOf i).toNat)
                case atStart => exact ⟨0, b.data.toList, [], by omega, rfl, hb9l, HX02.out, HYX2.out, by simp, Chg.refl _ _⟩
                case round =>
                  obtain ⟨m2, l2, r2, hm2, rfl, hll2, ho, hy, hrr2, hc⟩ := hrel
                  by_cases hlt4 : m2 < k2
                  · have hi5 : (m2 : Int) < (k2 : Int) := by omega
                    obtain ⟨g0, rfl, hg1, hg2⟩ := HBo.out (by omega)
                    obtain ⟨hcell0, -⟩ := ho.cell 0 (by omega)
                    obtain ⟨hcell, hfr⟩ := ho.cell m2 (by omega)
                    have hne : gy ≠ g0 := by
                      intro e
                      subst e
                      rw [hy] at hcell0
                      simp at hcell0
                    obtain ⟨c, hcc⟩ : ∃ c, l2.getD m2 0 = c := ⟨_, rfl⟩
                    rw [hcc] at hcell
                    have HSt := Lib.hid (ho.stored m2 (c ^^^ 255))
                    have HCh := Lib.hid ((hc.mono (r' := g0 :: r2) (fun x hx => List.mem_cons_of_mem _ hx)).setCell (p := ⟨g0, m2, none⟩) (.inl (by simp)) (u8 (c ^^^ 255)))
                    have HY3 := Lib.hid (((Chg.refl [g0] wr).setCell (p := ⟨g0, m2, none⟩) (.inl (by simp)) (u8 (c ^^^ 255))).cell hy (by simpa using hne))
                    have HRr := Lib.hid (show ∀ x ∈ g0 :: r2, T ≤ x from by
                      intro x hx
                      rcases List.mem_cons.1 hx with rfl | hx
                      · have := HSz9.out; omega
                      · exact hrr2 x hx)
                    clear ho hc hrr2 hcc hcell0
                    go_wp2
                    rw [xor255 c]
                    go_roundw
                    case rel => exact ⟨m2 + 1, l2.set m2 (c ^^^ 255), _, by omega, by go_num, by rw [List.length_set]; exact hll2, HSt.out, HY3.out, HRr.out, HCh.out⟩
                    case measure => simp [intOf]; omega
                  · obtain rfl : m2 = k2 := by omega
                    have hi5 : ¬ (m2 : Int) < (m2 : Int) := by omega
                    have HC12 := Lib.hid (show Chg [] w wr from HC11.out.trans hc (fun x hx => .inr (by have := hrr2 x hx; have := HW.out; omega)))
                    have HJ12 := Lib.hid (HJ11.out.other hc (fun x hx => .inr (hrr2 x hx)) hJT)
                    have hst : StrsAt (wr.alloc (.cells #[.string f, .string b] 9)) (.slice (some ⟨wr.heap.size, 0, none⟩) 2 2) [f, b] := by
                      refine ⟨_, 2, rfl, Nat.le_refl _, by decide, fun i s hi => ⟨_, rfl, ?_⟩⟩
                      have hi2 : i = 0 ∨ i = 1 := by have := (List.getElem?_eq_some_iff.1 hi).1; simp at this; omega
                      rcases hi2 with rfl | rfl
                      · simp at hi
                        subst hi
                        rw [add_zero]
                        exact cell_of_heap (heap_alloc_new wr (.cells #[.string f, .string b] 9)) rfl
                      · simp at hi
                        subst hi
                        rw [add_succ_at]
                        exact cell_of_heap (heap_alloc_new wr (.cells #[.string f, .string b] 9)) rfl
                    have hh := holds_calls T J S (jnOf 0 1 [f.data.toList, b.data.toList]) f.data.toList [b.data.toList] f [b] _ (wr.alloc (.cells #[.string f, .string b] 9)) (HJ12.out.then ((Chg.refl [] wr).alloc _)) rfl (by
                      intro x hx
                      simp [jnOf] at hx
                      rcases hx with rfl | rfl
                      · rw [str_len, HN.out.1]; omega
                      · rw [str_len, HN.out.2]; omega) (by simp) hst
                    rw [show decide ((jnOf 0 1 [f.data.toList, b.data.toList]).bodies = asBytes (f :: [b])) = true from decide_eq_true rfl] at hh
                    have HH := Lib.hid hh
                    have HC13 := Lib.hid (HC12.out.alloc (.cells #[.string f, .string b] 9))
                    clear hc hst hh ho hy
                    go_wp2_with fail
                    refine HH.out.mono ?_
                    rintro e w14 ⟨rfl, hc14⟩
                    have HC14 := Lib.hid (HC13.out.then hc14)
                    clear hc14
                    simp only []
                    go_wp2_with fail
                    go_ret
                    exact ⟨rfl, HC14.out⟩
  · by_cases hf1 : f.size ≤ 3000
    · have h1 : ¬ ((3000 : Int) < (f.size : Int)) := by omega
      have h2 : ((3000 : Int) < (b.size : Int)) := by omega
      go_wp2_with fail
      refine (awake9_calls _).mono ?_
      rintro e w5 ⟨rfl, hc5⟩
      have HC5 := Lib.hid (HC1.out.then hc5)
      clear hc5
      go_wp2
      go_ret
      exact ⟨rfl, HC5.out⟩
    · have h1 : ((3000 : Int) < (f.size : Int)) := by omega
      go_wp2_with fail
      refine (awake9_calls _).mono ?_
      rintro e w5 ⟨rfl, hc5⟩
      have HC5 := Lib.hid (HC1.out.then hc5)
      clear hc5
      go_wp2
      go_ret
      exact ⟨rfl, HC5.out⟩
end Go.Proofs.Ytgmgmjljjbcgjaa

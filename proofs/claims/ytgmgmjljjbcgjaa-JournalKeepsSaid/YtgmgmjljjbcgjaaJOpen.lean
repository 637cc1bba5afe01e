/- The journal package: Open. -/
import Derived.Test.YtgmgmjljjbcgjaaJAdd
namespace Go.Proofs.Ytgmgmjljjbcgjaa
open Go Go.RowKit NSX

/-- The journal that Open has behind k areas. -/
def pickJ (b : List UInt8) (hs : Nat → Nat) (k : Nat) : Jn := ⟨(pick b hs k).1, (pick b hs k).2.1, (pick b hs k).2.2.1, (pick b hs k).2.2.2, false⟩
theorem pickJ_yes {b : List UInt8} {hs : Nat → Nat} {k : Nat} (h : (pickJ b hs k).gen < hs k ∧ (areaRead b k).1 ≠ []) : pickJ b hs (k + 1) = ⟨k, hs k, (areaRead b k).1, (areaRead b k).2, false⟩ := by
  have e : pick b hs (k + 1) = (k, hs k, (areaRead b k).1, (areaRead b k).2) := by rw [pick]; exact if_pos h
  unfold pickJ
  rw [e]
theorem pickJ_no {b : List UInt8} {hs : Nat → Nat} {k : Nat} (h : ¬ ((pickJ b hs k).gen < hs k ∧ (areaRead b k).1 ≠ [])) : pickJ b hs (k + 1) = pickJ b hs k := by
  have e : pick b hs (k + 1) = pick b hs k := by rw [pick]; exact if_neg h
  unfold pickJ
  rw [e]
theorem areaRead_is (b : List UInt8) (k : Nat) (hb : b.length = 65536) (hk : k < 2) : readB ((b.drop ((k * 512 + 1) * 64)).take (511 * 64)) = areaRead b k := by
  unfold readB areaRead
  rw [chunks_seg 511 b (k * 512 + 1) hb (by omega)]
/-- A pointer, or none. -/
def optPtr (r : Int) (J : Nat) : Value := if r = 0 then .pointer (some ⟨J, 0, none⟩) else .pointer none
theorem optPtr_yes (J : Nat) : optPtr 0 J = .pointer (some ⟨J, 0, none⟩) := rfl
theorem optPtr_no {r : Int} {J : Nat} (h : r ≠ 0) : optPtr r J = .pointer none := if_neg h

/-- What Open does with a store that has these heads. -/
def openSt (st : St) (hs : Nat → Nat) (first : List UInt8) : St × Int :=
  if (pickJ st.bytes hs 2).gen = 0 then st.begins first 0 1 else st.erase ((pickJ st.bytes hs 2).area * 512 + 1 + (pickJ st.bytes hs 2).used) (511 - (pickJ st.bytes hs 2).used)
def openJ (st : St) (hs : Nat → Nat) (first : List UInt8) : Jn :=
  if (pickJ st.bytes hs 2).gen = 0 then ⟨0, 1, [first], nBlocks first.length, false⟩ else pickJ st.bytes hs 2

theorem area_used (b : List UInt8) (k : Nat) : (areaRead b k).2 ≤ 511 := by
  have h : ∀ (l : List (List UInt8)) (body : List UInt8) (n u : Nat), u ≤ n → (readL l body n u).2 ≤ n + l.length := by
    intro l
    induction l with
    | nil => intro body n u h; simpa [readL] using h
    | cons c l ih =>
      intro body n u h
      rw [readL]
      split
      · simp; omega
      · rename_i p last _
        split
        · simp; omega
        · split
          · have := ih [] (n + 1) (n + 1) (Nat.le_refl _)
            rw [List.length_cons]
            simp only
            omega
          · have := ih (body ++ p) (n + 1) u (by omega)
            rw [List.length_cons]
            omega
  have := h (seg b (k * 512 + 1) 511) [] 0 0 (Nat.le_refl _)
  rw [seg_length, Nat.zero_add] at this
  exact this
theorem pickJ_used (b : List UInt8) (hs : Nat → Nat) : ∀ k, k ≤ 2 → (pickJ b hs k).used ≤ 511 ∧ (pickJ b hs k).area ≤ 1
  | 0, _ => ⟨Nat.zero_le _, Nat.zero_le _⟩
  | k + 1, hk => by
    by_cases h : (pickJ b hs k).gen < hs k ∧ (areaRead b k).1 ≠ []
    · rw [pickJ_yes h]
      exact ⟨area_used b k, by simp only; omega⟩
    · rw [pickJ_no h]
      exact pickJ_used b hs k (by omega)

set_option maxRecDepth 100000 in
set_option maxHeartbeats 4000000 in
theorem Open_calls_j (S : Nat) (st : St) (v : Value) (first : List UInt8) (hs : Nat → Nat) (w : World) (hst : StoreAt w S st) (hd : st.down = false) (hv : IsB w 5 v first) (hl : first.length ≤ 20000) (hh : ∀ k, k < 2 → HeadIs st.bytes k (hs k)) :
    Calls Try.prog 43 #[.pointer (some ⟨S, 0, none⟩), v] w fun e w' => ∃ J, e = .returned (.tuple #[optPtr (openSt st hs first).2 J, .int .i64 (openSt st hs first).2]) ∧ w.heap.size ≤ J ∧ StoreAt w' S (openSt st hs first).1 ∧ ((openSt st hs first).2 = 0 → ∃ t, JournalAt w' t J S (openJ st hs first)) ∧ Chg [S] w w' := by
  obtain ⟨fo, fcap, rfl, -, hfm, -, -⟩ := hv.cells
  have hsz := size_calls 5 _ first 511 w hv
  have h0 : sizeAns first.length 511 = 0 := by unfold sizeAns nBlocks; rw [if_neg (by omega), if_neg (by omega)]
  rw [h0] at hsz
  have hdn := Down_calls S st w hst
  rw [hd] at hdn
  have hused := pickJ_used st.bytes hs 2 (Nat.le_refl _)
  have hJ0 : JournalAt (w.alloc (.cells #[.pointer (some ⟨S, 0, none⟩), .int .i64 0, .int .i64 0, .slice none 0 0, .int .i64 0, .bool false] 98)) (w.heap.size + 1) w.heap.size S (pickJ st.bytes hs 0) :=
    ⟨hst.lt, _, heap_alloc_new _ _, ListB.nil _ _ _⟩
  have HSz := Lib.hid hsz
  have HDn := Lib.hid hdn
  have HSt := Lib.hid hst
  have HD := Lib.hid hd
  have HV := Lib.hid hv
  have HF := Lib.hid hl
  have HH := Lib.hid hh
  have HJ0 := Lib.hid hJ0
  have HUsed := Lib.hid hused
  clear hst hd hv hl hh hsz hdn h0 hJ0 hused
  go_enter Try.func43, Try.ntmps43
  go_wp2_with (first | (go_at_call 69; refine HSz.out.mono ?_; rintro e w' ⟨rfl, rfl⟩) | (go_at_call 40; refine HDn.out.mono ?_; rintro e w' ⟨rfl, rfl⟩))
  go_loopw [25] (fun i wr => ∃ (k t : Nat), k ≤ 2 ∧ i = .int .i64 k ∧ JournalAt wr t w.heap.size S (pickJ st.bytes hs k) ∧ t ≤ wr.heap.size ∧ Chg [] w wr) (fun i _ => 2 - (intOf i).toNat)
  case atStart => exact ⟨0, w.heap.size + 1, by omega, rfl, HJ0.out, by simp, (Chg.refl [] w).alloc _⟩
  case round =>
    obtain ⟨k, t, hk, rfl, hj, ht, hc⟩ := hrel
    obtain ⟨jn, hjn⟩ : ∃ jn, pickJ st.bytes hs k = jn := ⟨_, rfl⟩
    rw [hjn] at hj
    have HJ := Lib.hid hj
    have HT := Lib.hid ht
    have HC := Lib.hid hc
    have HJn := Lib.hid hjn
    have HSr := Lib.hid (HSt.out.chg hc (by simp))
    clear hj ht hc hjn
    by_cases hlt : k < 2
    · have hi2 : (k : Int) < 2 := by omega
      have HHd := Lib.hid (head_calls S k (hs k) st wr HSr.out HD.out hlt (HH.out k hlt))
      go_wp2_with fail
      refine HHd.out.mono ?_
      rintro e w1 ⟨rfl, hc1⟩
      have HC1 := Lib.hid hc1
      have hS1 := HSr.out.chg hc1 (by simp)
      clear hc1
      simp only []
      go_wp2_with fail
      refine (place_calls k 1 w1 (by omega) (by omega)).mono ?_
      rintro e w' ⟨rfl, rfl⟩
      simp only []
      go_wp2_with fail
      refine (place_calls k 512 w1 (by omega) (by omega)).mono ?_
      rintro e w' ⟨rfl, rfl⟩
      simp only []
      have hbk := blocks_calls S (k * 512 + 1) 511 st w1 hS1 HD.out (by omega)
      rw [show k * 512 + 1 + 511 = k * 512 + 512 from by omega] at hbk
      have HBk := Lib.hid hbk
      clear hbk hS1
      go_wp2_with fail
      refine HBk.out.mono ?_
      rintro e w2 ⟨bv, rfl, hown, hc2⟩
      have hrd := Read_bytes 5 _ _ w2 hown.isB (by rw [List.length_take]; omega)
      rw [areaRead_is st.bytes k HSt.out.1 hlt] at hrd
      have HRd := Lib.hid hrd
      have HC2 := Lib.hid (HC1.out.then hc2)
      clear hrd hown hc2
      simp only []
      go_wp2_with fail
      refine HRd.out.mono ?_
      rintro e w3 ⟨lv, rfl, hl3, hc3⟩
      obtain ⟨L, hL⟩ : ∃ L, (areaRead st.bytes k).1 = L := ⟨_, rfl⟩
      obtain ⟨U, hU⟩ : ∃ U, (areaRead st.bytes k).2 = U := ⟨_, rfl⟩
      rw [hL] at hl3
      rw [hU]
      obtain ⟨lo, lc, rfl⟩ := hl3.slice
      have hC3 := HC2.out.then hc3
      have hj3 := HJ.out.then hC3
      obtain ⟨hSJ, v3, hh3, hv3⟩ := hj3
      have c1 : w3.cell? ⟨w.heap.size, 1, none⟩ = some (.int .i64 jn.area) := cell_of_heap hh3 rfl
      have c2 : w3.cell? ⟨w.heap.size, 2, none⟩ = some (.int .i64 jn.gen) := cell_of_heap hh3 rfl
      have c3 : w3.cell? ⟨w.heap.size, 3, none⟩ = some v3 := cell_of_heap hh3 rfl
      have c4 : w3.cell? ⟨w.heap.size, 4, none⟩ = some (.int .i64 jn.used) := cell_of_heap hh3 rfl
      have f1 : ∀ i, w3.frozen? ⟨w.heap.size, i, none⟩ = false := fun i => frozen_of_heap hh3
      have f11 := f1 1
      have f12 := f1 2
      have f13 := f1 3
      have f14 := f1 4
      have hh4 := setCell_heap (setCell_heap (setCell_heap (setCell_heap hh3 (i := 1) (.int .i64 (k : Int))) (i := 2) (.int .i64 (hs k : Int))) (i := 3) (.slice lo L.length lc)) (i := 4) (.int .i64 (U : Int))
      have hch4 : Chg [w.heap.size] w3 ((((w3.setCell ⟨w.heap.size, 1, none⟩ (.int .i64 (k : Int))).setCell ⟨w.heap.size, 2, none⟩ (.int .i64 (hs k : Int))).setCell ⟨w.heap.size, 3, none⟩ (.slice lo L.length lc)).setCell ⟨w.heap.size, 4, none⟩ (.int .i64 (U : Int))) :=
        ((((Chg.refl [w.heap.size] w3).setCell (p := ⟨w.heap.size, 1, none⟩) (.inl (by simp)) _).setCell (p := ⟨w.heap.size, 2, none⟩) (.inl (by simp)) _).setCell (p := ⟨w.heap.size, 3, none⟩) (.inl (by simp)) _).setCell (p := ⟨w.heap.size, 4, none⟩) (.inl (by simp)) _
      have hsz2 : w.heap.size + 1 ≤ w2.heap.size := by
        have h1 := heap_lt (HJ.out.then HC2.out).2.choose_spec.1
        omega
      have hl4 := (hl3.mono (show w.heap.size + 1 ≤ w2.heap.size from hsz2) (Nat.le_refl _)).other hch4 (fun x hx => by simp at hx; left; omega)
      have HH4 := Lib.hid hh4
      have HL4 := Lib.hid hl4
      have HCc := Lib.hid hch4
      have HC3 := Lib.hid hC3
      have HSJ := Lib.hid hSJ
      have HLe := Lib.hid hL
      have HUe := Lib.hid hU
      have HJ3 := Lib.hid (HJ.out.then hC3)
      clear hh3 hv3 hh4 hl4 hch4 hC3 hc3 hl3 hSJ hL hU f1
      by_cases hg : jn.gen < hs k
      · have hgi : (jn.gen : Int) < (hs k : Int) := by omega
        by_cases hL0 : L.length = 0
        · have hno : ¬ ((pickJ st.bytes hs k).gen < hs k ∧ (areaRead st.bytes k).1 ≠ []) := by
            rw [HLe.out]
            exact fun h => h.2 (List.eq_nil_of_length_eq_zero hL0)
          have hp := pickJ_no hno
          have HP := Lib.hid hp
          have hLi : ¬ (0 : Int) < (L.length : Int) := by omega
          clear hno hp
          go_wp2_with fail
          go_roundw
          case rel => exact ⟨k + 1, t, by omega, by go_num, by rw [HP.out, HJn.out]; exact HJ3.out, Nat.le_trans HT.out HC3.out.size, HC.out.then HC3.out⟩
          case measure => simp [intOf]; omega
        · have hyes : (pickJ st.bytes hs k).gen < hs k ∧ (areaRead st.bytes k).1 ≠ [] := by
            rw [HLe.out, HJn.out]
            exact ⟨hg, fun h => hL0 (by rw [h]; rfl)⟩
          have hp := pickJ_yes hyes
          rw [HLe.out, HUe.out] at hp
          have HP := Lib.hid hp
          have hLi : (0 : Int) < (L.length : Int) := by omega
          clear hyes hp
          go_wp2_with fail
          go_roundw
          case rel =>
            refine ⟨k + 1, w3.heap.size, by omega, by go_num, ?_, by simp [World.setCell], (HC.out.then HC3.out).trans HCc.out (by simp)⟩
            rw [HP.out]
            exact ⟨HSJ.out, _, HH4.out.trans (by unfold Jn.cells; rw [show jn.lost = false from by rw [← HJn.out]; rfl]; rfl), HL4.out⟩
          case measure => simp [intOf]; omega
      · have hgi : ¬ (jn.gen : Int) < (hs k : Int) := by omega
        have hno : ¬ ((pickJ st.bytes hs k).gen < hs k ∧ (areaRead st.bytes k).1 ≠ []) := by
          rw [HJn.out]
          exact fun h => hg h.1
        have hp := pickJ_no hno
        have HP := Lib.hid hp
        clear hno hp
        go_wp2_with fail
        go_roundw
        case rel => exact ⟨k + 1, t, by omega, by go_num, by rw [HP.out, HJn.out]; exact HJ3.out, Nat.le_trans HT.out HC3.out.size, HC.out.then HC3.out⟩
        case measure => simp [intOf]; omega
    · obtain rfl : k = 2 := by omega
      obtain ⟨J, hJ⟩ : ∃ J, w.heap.size = J := ⟨_, rfl⟩
      have HJe := Lib.hid hJ
      rw [hJ] at HJ ⊢
      have hhd := HUsed.out
      rw [HJn.out] at hhd
      have HU := Lib.hid hhd.1
      have HA := Lib.hid hhd.2
      obtain ⟨v3, hv3, c0, c1, c2, c3, c4, c5, -⟩ := HJ.out.facts
      have HSJ := Lib.hid HJ.out.1
      clear hhd hJ hv3
      by_cases hg : jn.gen = 0
      · have hgi : ((jn.gen : Int) == 0) = true := by simp [hg]
        have hgi2 : (pickJ st.bytes hs 2).gen = 0 := by rw [HJn.out]; exact hg
        obtain ⟨r, hr⟩ : ∃ r, st.begins first 0 1 = r := ⟨_, rfl⟩
        have hop : openSt st hs first = r := by unfold openSt; rw [if_pos hgi2, hr]
        have hoj : openJ st hs first = ⟨0, 1, [first], nBlocks first.length, false⟩ := by unfold openJ; rw [if_pos hgi2]
        have hlost : jn.lost = false := by rw [← HJn.out]; rfl
        have hbg := begins_calls t J S 0 1 jn st _ first wr HSr.out HD.out HJ.out (HV.out.then HC.out) (by have := HF.out; omega) (by have := HF.out; unfold nBlocks; omega) (by omega) (by omega)
        rw [hr] at hbg
        have HOp := Lib.hid hop
        have HOj := Lib.hid hoj
        have HBg := Lib.hid hbg
        have HLo := Lib.hid hlost
        clear hop hoj hbg hr hgi2 hlost hg
        go_wp2_with fail
        refine HBg.out.mono ?_
        rintro e w5 ⟨rfl, hs5, hj5, hc5⟩
        have HS5 := Lib.hid hs5
        have HC5 := Lib.hid (show Chg [S] w w5 from HC.out.mono (by simp) |>.trans hc5 (fun x hx => by
          unfold begRows at hx
          split at hx
          · simp at hx
            rcases hx with rfl | rfl
            · left; simp
            · right; rw [HJe.out]; exact Nat.le_refl _
          · simp at hx
            left; simp [hx]))
        by_cases h0 : r.2 = 0
        · rw [h0, Jn.begun, if_pos rfl, HLo.out] at hj5
          have HJ5 := Lib.hid hj5
          have H0 := Lib.hid h0
          rw [h0]
          clear hs5 hj5 hc5 h0
          simp only []
          go_wp2_with fail
          go_ret2
          rw [HOp.out, HOj.out]
          exact ⟨J, by rw [H0.out]; rfl, by rw [HJe.out]; exact Nat.le_refl _, HS5.out, fun _ => ⟨_, HJ5.out⟩, HC5.out⟩
        · have h0i : (r.2 != 0) = true := by simp [h0]
          have H0 := Lib.hid h0
          clear hs5 hj5 hc5 h0
          simp only []
          go_wp2_with fail
          go_ret2
          rw [HOp.out]
          exact ⟨J, by rw [optPtr_no H0.out]; rfl, by rw [HJe.out]; exact Nat.le_refl _, HS5.out, fun h => absurd h H0.out, HC5.out⟩
      · have hgi : ((jn.gen : Int) == 0) = false := by simp; omega
        have hgi2 : ¬ (pickJ st.bytes hs 2).gen = 0 := by rw [HJn.out]; exact hg
        obtain ⟨r, hr⟩ : ∃ r, st.erase (jn.area * 512 + 1 + jn.used) (511 - jn.used) = r := ⟨_, rfl⟩
        have hop : openSt st hs first = r := by unfold openSt; rw [if_neg hgi2, HJn.out, hr]
        have hoj : openJ st hs first = jn := by unfold openJ; rw [if_neg hgi2, HJn.out]
        have HOp := Lib.hid hop
        have HOj := Lib.hid hoj
        have HR := Lib.hid hr
        clear hop hoj hr hgi2 hg
        go_wp2_with fail
        let p : Plan3 := {
          anc := [[], [], [1], [1, 2], [1, 2, 3], [], [5], [5, 6], [5, 6, 7], [5, 6, 7, 8], [1, 2, 3, 4, 5, 6, 7, 8, 9], [], [11], [11, 12], [11, 12, 13], [11, 12, 13, 14], [0, 1, 2, 3, 4, 5, 6, 7, 8, 9, 10, 11, 12, 13, 14, 15], [0, 1, 2, 3, 4, 5, 6, 7, 8, 9, 10, 11, 12, 13, 14, 15, 16]]
          rows := fun j => if j = 16 then [S] else []
          all := [S]
          Pre := fun i w => match i with
            | 4 => JournalAt w t J S jn
            | 8 => JournalAt w t J S jn
            | 14 => JournalAt w t J S jn
            | 16 => StoreAt w S st
            | _ => True
          Φ := fun i v w => match i with
            | 0 => v = .pointer (some ⟨S, 0, none⟩)
            | 1 => v = .pointer (some ⟨J, 0, none⟩)
            | 2 => v = .pointer (some ⟨J, 0, none⟩)
            | 3 => v = .pointer (some ⟨J, 1, none⟩)
            | 4 => v = .int .i64 (jn.area : Int)
            | 5 => v = .pointer (some ⟨J, 0, none⟩)
            | 6 => v = .pointer (some ⟨J, 0, none⟩)
            | 7 => v = .pointer (some ⟨J, 4, none⟩)
            | 8 => v = .int .i64 (jn.used : Int)
            | 9 => v = .int .i64 ((1 + jn.used : Nat) : Int)
            | 10 => v = .int .i64 ((jn.area * 512 + 1 + jn.used : Nat) : Int)
            | 11 => v = .pointer (some ⟨J, 0, none⟩)
            | 12 => v = .pointer (some ⟨J, 0, none⟩)
            | 13 => v = .pointer (some ⟨J, 1, none⟩)
            | 14 => v = .int .i64 (jn.area : Int)
            | 15 => v = .int .i64 ((jn.area * 512 + 1 + jn.used + (511 - jn.used) : Nat) : Int)
            | 16 => v = .int .i64 r.2
            | 17 => v = .int .i64 r.2
            | _ => True
          Ψ := fun i w => match i with
            | 16 => StoreAt w S r.1
            | _ => True
          sub := by
            intro j x hx
            split at hx
            · exact hx
            · simp at hx
          pre := by
            intro i j w w1 hij hn h hc
            match i, h, hij, hn with
            | 0, h, hij, hn => exact trivial
            | 1, h, hij, hn => exact trivial
            | 2, h, hij, hn => exact trivial
            | 3, h, hij, hn => exact trivial
            | 4, h, hij, hn => exact (if h16 : j = 16 then (by subst h16; exact absurd (by decide) hn) else (by rw [if_neg h16] at hc; exact h.then hc))
            | 5, h, hij, hn => exact trivial
            | 6, h, hij, hn => exact trivial
            | 7, h, hij, hn => exact trivial
            | 8, h, hij, hn => exact (if h16 : j = 16 then (by subst h16; exact absurd (by decide) hn) else (by rw [if_neg h16] at hc; exact h.then hc))
            | 9, h, hij, hn => exact trivial
            | 10, h, hij, hn => exact trivial
            | 11, h, hij, hn => exact trivial
            | 12, h, hij, hn => exact trivial
            | 13, h, hij, hn => exact trivial
            | 14, h, hij, hn => exact (if h16 : j = 16 then (by subst h16; exact absurd (by decide) hn) else (by rw [if_neg h16] at hc; exact h.then hc))
            | 15, h, hij, hn => exact trivial
            | 16, h, hij, hn => exact (by rw [if_neg (fun e => hij e.symm)] at hc; exact h.chg hc (by simp))
            | 17, h, hij, hn => exact trivial
            | _ + 18, _, _, _ => trivial
          phi := by
            intro i j v w w1 hij hn h hc
            match i, h, hij, hn with
            | 0, h, hij, hn => exact h
            | 1, h, hij, hn => exact h
            | 2, h, hij, hn => exact h
            | 3, h, hij, hn => exact h
            | 4, h, hij, hn => exact h
            | 5, h, hij, hn => exact h
            | 6, h, hij, hn => exact h
            | 7, h, hij, hn => exact h
            | 8, h, hij, hn => exact h
            | 9, h, hij, hn => exact h
            | 10, h, hij, hn => exact h
            | 11, h, hij, hn => exact h
            | 12, h, hij, hn => exact h
            | 13, h, hij, hn => exact h
            | 14, h, hij, hn => exact h
            | 15, h, hij, hn => exact h
            | 16, h, hij, hn => exact h
            | 17, h, hij, hn => exact h
            | _ + 18, _, _, _ => trivial
          psi := by
            intro i j w w1 hij hn h hc
            match i, h, hij, hn with
            | 0, h, hij, hn => exact trivial
            | 1, h, hij, hn => exact trivial
            | 2, h, hij, hn => exact trivial
            | 3, h, hij, hn => exact trivial
            | 4, h, hij, hn => exact trivial
            | 5, h, hij, hn => exact trivial
            | 6, h, hij, hn => exact trivial
            | 7, h, hij, hn => exact trivial
            | 8, h, hij, hn => exact trivial
            | 9, h, hij, hn => exact trivial
            | 10, h, hij, hn => exact trivial
            | 11, h, hij, hn => exact trivial
            | 12, h, hij, hn => exact trivial
            | 13, h, hij, hn => exact trivial
            | 14, h, hij, hn => exact trivial
            | 15, h, hij, hn => exact trivial
            | 16, h, hij, hn => exact (by rw [if_neg (fun e => hij e.symm)] at hc; exact h.chg hc (by simp))
            | 17, h, hij, hn => exact trivial
            | _ + 18, _, _, _ => trivial }
        refine wp_region_each6 (by kernel_rfl) p ?hpreE (by kernel_rfl) (by kernel_rfl) (by kernel_rfl) (by kernel_rfl) ?hendE ?hstepsE
        case hpreE =>
          intro i
          match i with
          | 0 => exact trivial
          | 1 => exact trivial
          | 2 => exact trivial
          | 3 => exact trivial
          | 4 => exact HJ.out
          | 5 => exact trivial
          | 6 => exact trivial
          | 7 => exact trivial
          | 8 => exact HJ.out
          | 9 => exact trivial
          | 10 => exact trivial
          | 11 => exact trivial
          | 12 => exact trivial
          | 13 => exact trivial
          | 14 => exact HJ.out
          | 15 => exact trivial
          | 16 => exact HSr.out
          | 17 => exact trivial
          | _ + 18 => trivial
        case hstepsE =>
          refine ⟨?_, ?_, ?_, ?_, ?_, ?_, ?_, ?_, ?_, ?_, ?_, ?_, ?_, ?_, ?_, ?_, ?_, ?_, trivial⟩
          · intro ac wc h K hK
            have b0 : ac.tmps.getD 0 undef = .pointer (some ⟨S, 0, none⟩) := (h.base 0 (by decide)).trans rfl
            go_simp
            exact hK (.pointer (some ⟨S, 0, none⟩)) wc (Chg.refl _ wc) rfl trivial
          · intro ac wc h K hK
            have b7 : ac.tmps.getD 7 undef = .pointer (some ⟨J, 0, none⟩) := (h.base 7 (by decide)).trans rfl
            go_simp
            exact hK (.pointer (some ⟨J, 0, none⟩)) wc (Chg.refl _ wc) rfl trivial
          · intro ac wc h K hK
            have d78 : ac.tmps.getD 78 undef = .pointer (some ⟨J, 0, none⟩) := h.dep ⟨1, .data⟩ (by simp) rfl 78 rfl
            go_simp
            exact hK (.pointer (some ⟨J, 0, none⟩)) wc (Chg.refl _ wc) rfl trivial
          · intro ac wc h K hK
            have d79 : ac.tmps.getD 79 undef = .pointer (some ⟨J, 0, none⟩) := h.dep ⟨2, .data⟩ (by simp) rfl 79 rfl
            go_simp
            exact hK (.pointer (some ⟨J, 1, none⟩)) wc (Chg.refl _ wc) rfl trivial
          · intro ac wc h K hK
            have d80 : ac.tmps.getD 80 undef = .pointer (some ⟨J, 1, none⟩) := h.dep ⟨3, .data⟩ (by simp) rfl 80 rfl
            have hpre : JournalAt wc t J S jn := h.pre
            obtain ⟨v9, -, c0, hq, c2, c3, c4, c5, -⟩ := hpre.facts
            go_simp
            exact hK (.int .i64 (jn.area : Int)) wc (Chg.refl _ wc) rfl trivial
          · intro ac wc h K hK
            have b7 : ac.tmps.getD 7 undef = .pointer (some ⟨J, 0, none⟩) := (h.base 7 (by decide)).trans rfl
            go_simp
            exact hK (.pointer (some ⟨J, 0, none⟩)) wc (Chg.refl _ wc) rfl trivial
          · intro ac wc h K hK
            have d82 : ac.tmps.getD 82 undef = .pointer (some ⟨J, 0, none⟩) := h.dep ⟨5, .data⟩ (by simp) rfl 82 rfl
            go_simp
            exact hK (.pointer (some ⟨J, 0, none⟩)) wc (Chg.refl _ wc) rfl trivial
          · intro ac wc h K hK
            have d83 : ac.tmps.getD 83 undef = .pointer (some ⟨J, 0, none⟩) := h.dep ⟨6, .data⟩ (by simp) rfl 83 rfl
            go_simp
            exact hK (.pointer (some ⟨J, 4, none⟩)) wc (Chg.refl _ wc) rfl trivial
          · intro ac wc h K hK
            have d84 : ac.tmps.getD 84 undef = .pointer (some ⟨J, 4, none⟩) := h.dep ⟨7, .data⟩ (by simp) rfl 84 rfl
            have hpre : JournalAt wc t J S jn := h.pre
            obtain ⟨v9, -, c0, c1, c2, c3, hq, c5, -⟩ := hpre.facts
            go_simp
            exact hK (.int .i64 (jn.used : Int)) wc (Chg.refl _ wc) rfl trivial
          · intro ac wc h K hK
            have d85 : ac.tmps.getD 85 undef = .int .i64 (jn.used : Int) := h.dep ⟨8, .data⟩ (by simp) rfl 85 rfl
            have hU1 := HU.out
            have hw : IntKind.i64.wrap (1 + (jn.used : Int)) = ((1 + jn.used : Nat) : Int) := by simp [IntKind.wrap, IntKind.bits, IntKind.signed]; omega
            have HW := Lib.hid hw
            clear hw
            go_simp
            exact hK _ wc (Chg.refl _ wc) (congrArg (Value.int .i64) HW.out) trivial
          · intro ac wc h K hK
            have d81 : ac.tmps.getD 81 undef = .int .i64 (jn.area : Int) := h.dep ⟨4, .data⟩ (by simp) rfl 81 rfl
            have d86 : ac.tmps.getD 86 undef = .int .i64 ((1 + jn.used : Nat) : Int) := h.dep ⟨9, .data⟩ (by simp) rfl 86 rfl
            go_simp
            refine (place_calls jn.area (1 + jn.used) wc HA.out (by have := HU.out; omega)).mono ?_
            rintro e w1 ⟨rfl, rfl⟩
            exact hK _ wc (Chg.refl _ wc) (congrArg (fun x : Nat => Value.int .i64 x) (Nat.add_assoc _ _ _).symm) trivial
          · intro ac wc h K hK
            have b7 : ac.tmps.getD 7 undef = .pointer (some ⟨J, 0, none⟩) := (h.base 7 (by decide)).trans rfl
            go_simp
            exact hK (.pointer (some ⟨J, 0, none⟩)) wc (Chg.refl _ wc) rfl trivial
          · intro ac wc h K hK
            have d88 : ac.tmps.getD 88 undef = .pointer (some ⟨J, 0, none⟩) := h.dep ⟨11, .data⟩ (by simp) rfl 88 rfl
            go_simp
            exact hK (.pointer (some ⟨J, 0, none⟩)) wc (Chg.refl _ wc) rfl trivial
          · intro ac wc h K hK
            have d89 : ac.tmps.getD 89 undef = .pointer (some ⟨J, 0, none⟩) := h.dep ⟨12, .data⟩ (by simp) rfl 89 rfl
            go_simp
            exact hK (.pointer (some ⟨J, 1, none⟩)) wc (Chg.refl _ wc) rfl trivial
          · intro ac wc h K hK
            have d90 : ac.tmps.getD 90 undef = .pointer (some ⟨J, 1, none⟩) := h.dep ⟨13, .data⟩ (by simp) rfl 90 rfl
            have hpre : JournalAt wc t J S jn := h.pre
            obtain ⟨v9, -, c0, hq, c2, c3, c4, c5, -⟩ := hpre.facts
            go_simp
            exact hK (.int .i64 (jn.area : Int)) wc (Chg.refl _ wc) rfl trivial
          · intro ac wc h K hK
            have d91 : ac.tmps.getD 91 undef = .int .i64 (jn.area : Int) := h.dep ⟨14, .data⟩ (by simp) rfl 91 rfl
            go_simp
            refine (place_calls jn.area 512 wc HA.out (by omega)).mono ?_
            rintro e w1 ⟨rfl, rfl⟩
            exact hK _ wc (Chg.refl _ wc) (congrArg (fun x : Nat => Value.int .i64 x) (by have := HU.out; omega)) trivial
          · intro ac wc h K hK
            have d77 : ac.tmps.getD 77 undef = .pointer (some ⟨S, 0, none⟩) := h.dep ⟨0, .data⟩ (by simp) rfl 77 rfl
            have d87 : ac.tmps.getD 87 undef = .int .i64 ((jn.area * 512 + 1 + jn.used : Nat) : Int) := h.dep ⟨10, .data⟩ (by simp) rfl 87 rfl
            have d92 : ac.tmps.getD 92 undef = .int .i64 ((jn.area * 512 + 1 + jn.used + (511 - jn.used) : Nat) : Int) := h.dep ⟨15, .data⟩ (by simp) rfl 92 rfl
            have hp : StoreAt wc S st := h.pre
            go_simp
            refine (erase_calls S (jn.area * 512 + 1 + jn.used) (511 - jn.used) st wc hp HD.out (by have := HA.out; have := HU.out; omega)).mono ?_
            rintro e w1 ⟨rfl, hs1, hc1⟩
            rw [HR.out] at hs1 ⊢
            exact hK _ w1 hc1 rfl hs1
          · intro ac wc h K hK
            have d93 : ac.tmps.getD 93 undef = .int .i64 r.2 := h.dep ⟨16, .data⟩ (by simp) rfl 93 rfl
            go_simp
            exact hK (.int .i64 r.2) wc (Chg.refl _ wc) rfl trivial
        intro acE wcE hc hall hpsi hput
        have hact := hput [(77, .pointer (some ⟨S, 0, none⟩)), (78, .pointer (some ⟨J, 0, none⟩)), (79, .pointer (some ⟨J, 0, none⟩)), (80, .pointer (some ⟨J, 1, none⟩)), (81, .int .i64 (jn.area : Int)), (82, .pointer (some ⟨J, 0, none⟩)), (83, .pointer (some ⟨J, 0, none⟩)), (84, .pointer (some ⟨J, 4, none⟩)), (85, .int .i64 (jn.used : Int)), (86, .int .i64 ((1 + jn.used : Nat) : Int)), (87, .int .i64 ((jn.area * 512 + 1 + jn.used : Nat) : Int)), (88, .pointer (some ⟨J, 0, none⟩)), (89, .pointer (some ⟨J, 0, none⟩)), (90, .pointer (some ⟨J, 1, none⟩)), (91, .int .i64 (jn.area : Int)), (92, .int .i64 ((jn.area * 512 + 1 + jn.used + (511 - jn.used) : Nat) : Int)), (93, .int .i64 r.2), (12, .int .i64 r.2)] rfl ⟨hall 0 77 rfl, hall 1 78 rfl, hall 2 79 rfl, hall 3 80 rfl, hall 4 81 rfl, hall 5 82 rfl, hall 6 83 rfl, hall 7 84 rfl, hall 8 85 rfl, hall 9 86 rfl, hall 10 87 rfl, hall 11 88 rfl, hall 12 89 rfl, hall 13 90 rfl, hall 14 91 rfl, hall 15 92 rfl, hall 16 93 rfl, hall 17 12 rfl, trivial⟩
        clear hput hall
        subst hact
        have HS9 := Lib.hid (show StoreAt wcE S r.1 from hpsi 16 (by decide))
        have HC9 := Lib.hid (show Chg [S] wr wcE from hc)
        clear hpsi hc p
        simp only [Act.puts, Act.put]
        go_simp
        have HC10 := Lib.hid (HC.out.mono (show ∀ x ∈ [], x ∈ [S] by simp) |>.same HC9.out)
        have HJ9 := Lib.hid (HJ.out.stored HC9.out)
        by_cases h0 : r.2 = 0
        · have H0 := Lib.hid h0
          rw [h0]
          clear h0
          go_wp2_with fail
          go_ret2
          rw [HOp.out, HOj.out]
          exact ⟨J, by rw [H0.out]; rfl, by rw [HJe.out]; exact Nat.le_refl _, HS9.out, fun _ => ⟨_, HJ9.out⟩, HC10.out⟩
        · have h0i : (r.2 != 0) = true := by simp [h0]
          have H0 := Lib.hid h0
          clear h0
          go_wp2_with fail
          go_ret2
          rw [HOp.out]
          exact ⟨J, by rw [optPtr_no H0.out]; rfl, by rw [HJe.out]; exact Nat.le_refl _, HS9.out, fun h => absurd h H0.out, HC10.out⟩
end Go.Proofs.Ytgmgmjljjbcgjaa

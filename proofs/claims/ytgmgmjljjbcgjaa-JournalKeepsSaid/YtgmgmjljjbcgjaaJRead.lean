/- The journal package: Records, blocks, erase. -/
import Derived.Test.YtgmgmjljjbcgjaaJMem
import Derived.Test.YtgmgmjljjbcgjaaBlkB
namespace Go.Proofs.Ytgmgmjljjbcgjaa
open Go Go.RowKit NSX

set_option maxHeartbeats 1000000 in
theorem Records_calls (top J S : Nat) (j : Jn) (b0 : List UInt8) (rest : List (List UInt8)) (w : World) (h : JournalAt w top J S j) (hb : j.bodies = b0 :: rest) (hl : ∀ b ∈ rest, b.length ≤ 32768) (hn1 : rest.length ≤ 511) :
    Calls Try.prog 66 #[.pointer (some ⟨J, 0, none⟩)] w fun e w' => ∃ v, e = .returned v ∧ ListB w' w.heap.size w'.heap.size v rest ∧ Chg [] w w' := by
  obtain ⟨v, hL, c0, c1, c2, c3, c4, c5, -⟩ := h.facts
  rw [hb] at hL
  obtain ⟨ao, cap, rfl, hlc, hcells⟩ := hL.cells
  obtain ⟨g, x, rfl, -, -⟩ := hcells 0 b0 rfl
  have HCells := Lib.hid (show ∀ (i : Nat) (b : List UInt8), rest[i]? = some b → ∃ x, w.cell? ⟨g, 1 + i, none⟩ = some x ∧ IsB w 5 x b from fun i b hi => by
    obtain ⟨g', x, hg, hx, ho⟩ := hcells (i + 1) b (by simpa using hi)
    simp only [Option.some.injEq, Addr.mk.injEq, and_true] at hg
    subst hg
    rw [Nat.add_comm 1 i]
    exact ⟨x, hx, ho.isB⟩)
  rw [List.length_cons] at c3 hlc
  have HShort := Lib.hid hl
  obtain ⟨n, hn⟩ : ∃ n, rest.length = n := ⟨_, rfl⟩
  rw [hn] at c3 hlc hn1
  have HN := Lib.hid hn
  have hcap : cap ≤ maxLen := by
    obtain ⟨vs, h1, _⟩ := hL
    rcases h1.2 with ⟨h2, _⟩ | ⟨g', cap', cur, h2, hg, hh, hnc, hcm, _⟩
    · cases h2
    · simp only [Value.slice.injEq] at h2
      rw [h2.2.2]; exact hcm
  unfold maxLen at hcap
  obtain ⟨B, hB⟩ : ∃ B, w.heap.size = B := ⟨_, rfl⟩
  rw [hB]
  have HB := Lib.hid hB
  have hnil := ListB.nil w B B
  clear h hL hcells hb hl hn hB
  have hn0 : (((n : Int) + 1) == 0) = false := by simp; omega
  have hone : (1 : Int) ≤ (n : Int) + 1 := by omega
  by_cases hc1 : cap = 1
  · have hn : n = 0 := by omega
    have hr : rest = [] := List.eq_nil_of_length_eq_zero (by rw [HN.out, hn])
    subst hr
    subst hn
    subst hc1
    go_enter Try.func66, Try.ntmps66
    go_wp2_with fail
    go_loopw [22, 3] (fun i out wr => i = .int .i64 0 ∧ out = .slice none 0 0 ∧ Chg [] w wr) (fun _ _ _ => 0)
    case atStart => exact ⟨rfl, rfl, Chg.refl _ _⟩
    case round =>
      obtain ⟨rfl, rfl, hc⟩ := hrel
      go_wp2_with fail
      go_ret
      exact ⟨_, rfl, ListB.nil _ _ _, hc⟩
  go_enter Try.func66, Try.ntmps66
  go_wp2_with fail
  go_loopw [22, 3] (fun i out wr => ∃ (k B1 : Nat), k ≤ n ∧ i = .int .i64 k ∧ ListB wr B B1 out (rest.take k) ∧ B1 ≤ wr.heap.size ∧ Chg [] w wr) (fun i _ _ => n - (intOf i).toNat)
  case atStart => exact ⟨0, B, by omega, rfl, hnil, by rw [HB.out]; exact Nat.le_refl _, Chg.refl _ _⟩
  case round =>
    obtain ⟨k, B1, hk, rfl, hl, ht, hc⟩ := hrel
    clear hnil
    have hlk : (rest.take k).length = k := by rw [List.length_take, HN.out]; omega
    obtain ⟨oo, ocap, hoo⟩ := hl.slice
    rw [hlk] at hoo
    subst hoo
    clear hlk
    have HL := Lib.hid hl
    have HT := Lib.hid ht
    have HC := Lib.hid hc
    clear hl ht hc
    by_cases hlt : k < n
    · have hi2 : (k : Int) < (n : Int) := by omega
      obtain ⟨b, hb⟩ : ∃ b, rest[k]? = some b := ⟨_, List.getElem?_eq_getElem (by rw [HN.out]; exact hlt)⟩
      obtain ⟨x, hx, hxb⟩ := HCells.out k b hb
      have hx2 := HC.out.cell hx (by simp)
      have HCl := Lib.hid (Clone_calls 5 x b wr (hxb.then HC.out) (by have := HShort.out b (List.mem_of_getElem? hb); omega))
      have HBb := Lib.hid hb
      clear hx hxb hb
      go_wp2_with fail
      refine HCl.out.mono ?_
      rintro e w2 ⟨cv, rfl, hown, hch⟩
      obtain ⟨co, cn, cc, rfl⟩ := hown.slice
      have HC2 := Lib.hid (HC.out.then hch)
      have hl2 := HL.out.chg hch (by simp)
      have hown2 := hown.mono (show B ≤ wr.heap.size by rw [← HB.out]; exact HC.out.size)
      have ht2 : B1 ≤ w2.heap.size := Nat.le_trans HT.out hch.size
      have hlx := hl2.chg ((Chg.refl [] w2).alloc (.cells #[.slice co cn cc] 26)) (by simp)
      have hox := hown2.then ((Chg.refl [] w2).alloc (.cells #[.slice co cn cc] 26))
      have hxx : (w2.alloc (.cells #[.slice co cn cc] 26)).cell? ⟨w2.heap.size, 0, none⟩ = some (.slice co cn cc) := cell_of_heap (heap_alloc_new _ _) rfl
      have hbx : B ≤ (w2.alloc (.cells #[.slice co cn cc] 26)).heap.size := by rw [← HB.out]; exact ((HC2.out).alloc _).size
      have hol : (rest.take k).length ≤ 1000000 := by rw [List.length_take]; omega
      have HLx := Lib.hid hlx
      have HOx := Lib.hid hox
      have HXx := Lib.hid hxx
      have HBx := Lib.hid hbx
      clear hown hch hl2 hown2 ht2 hlx hox hxx hbx
      go_wp2_with (at_builtin; refine wpList_push rfl (.tmp 26) (.tmp 29) rfl B B1 _ _ rfl HLx.out _ _ HOx.out w2.heap.size HXx.out rfl hol HBx.out ?_; intro v6 w6 hl6 hch6)
      have HC6 := Lib.hid (((HC2.out).alloc (.cells #[.slice co cn cc] 26)).trans hch6 (HLx.out.rows (by rw [HB.out]; exact Nat.le_refl _)))
      have HL6 := Lib.hid hl6
      clear hl6 hch6
      go_wp2
      go_roundw
      case rel =>
        refine ⟨k + 1, w6.heap.size, by omega, by go_num, ?_, Nat.le_refl _, HC6.out⟩
        rw [List.take_add_one, HBb.out]
        exact HL6.out
      case measure => simp [intOf]; omega
    · obtain rfl : k = n := by omega
      have hi2 : ¬ (k : Int) < (k : Int) := by omega
      have hr : rest.take k = rest := List.take_of_length_le (by rw [HN.out]; exact Nat.le_refl _)
      have hl3 := HL.out
      rw [hr] at hl3
      have HL3 := Lib.hid (hl3.mono (Nat.le_refl _) HT.out)
      clear hl3 hr
      go_wp2_with fail
      go_ret
      exact ⟨_, rfl, HL3.out, HC.out⟩

set_option maxHeartbeats 400000 in
theorem blocks_calls (S frm n : Nat) (st : St) (w : World) (hs : StoreAt w S st) (hd : st.down = false) (hf : frm + n ≤ 1024) :
    Calls Try.prog 71 #[.pointer (some ⟨S, 0, none⟩), .int .i64 frm, .int .i64 (frm + n : Nat)] w fun e w' => ∃ v, e = .returned v ∧ OwnB w' w.heap.size v ((st.bytes.drop (frm * 64)).take (n * 64)) ∧ Chg [] w w' := by
  have e0 : ((frm + n : Nat) : Int) = (frm : Int) + (n : Int) := by omega
  rw [e0]
  clear e0
  obtain ⟨B, hB⟩ : ∃ B, w.heap.size = B := ⟨_, rfl⟩
  rw [hB]
  have HB := Lib.hid hB
  have HS := Lib.hid hs
  have HD := Lib.hid hd
  have hn := OwnB.nil w B
  have hpl := hs.1
  have HPl := Lib.hid hpl
  clear hB hs hd hpl
  go_enter Try.func71, Try.ntmps71
  go_wp2_with fail
  go_loopw [8, 7] (fun i out wr => ∃ k : Nat, k ≤ n ∧ i = .int .i64 ((frm : Int) + k) ∧ OwnB wr B out ((st.bytes.drop (frm * 64)).take (k * 64)) ∧ Chg [] w wr) (fun i _ _ => frm + n - (intOf i).toNat)
  case atStart => exact ⟨0, by omega, by go_num, by simpa using hn, Chg.refl _ _⟩
  case round =>
    obtain ⟨k, hk, rfl, ho, hc⟩ := hrel
    clear hn
    have HO := Lib.hid ho
    have HC := Lib.hid hc
    clear ho hc
    by_cases hlt : k < n
    · have hi2 : (frm : Int) + (k : Int) < (frm : Int) + (n : Int) := by omega
      obtain ⟨oo, ocap, hoo, -, -, -, -⟩ := HO.out.isB.cells
      subst hoo
      have hrd := Read_yes S (frm + k) st wr (HS.out.chg HC.out (by simp)) HD.out (by omega)
      rw [show ((frm + k : Nat) : Int) = (frm : Int) + (k : Int) from by omega] at hrd
      have HRd := Lib.hid hrd
      clear hrd
      go_wp2_with fail
      refine HRd.out.mono ?_
      rintro e w2 ⟨bv, rfl, hb, hch⟩
      have HBl := Lib.hid hb
      have HC2 := Lib.hid (HC.out.then hch)
      have HO2 := Lib.hid (HO.out.then hch)
      clear hb hch
      have hlen : (st.block (frm + k)).length = 64 := st.block_length HPl.out _ (by omega)
      have hbound : ((st.bytes.drop (frm * 64)).take (k * 64)).length + (st.block (frm + k)).length ≤ 140737488355328 := by rw [List.length_take, hlen]; omega
      have hbase : B ≤ w2.heap.size := by rw [← HB.out]; exact HC2.out.size
      clear hlen
      simp only []
      go_wp2_with (at_builtin; refine wpList_bappend rfl _ _ rfl B _ _ rfl HO2.out 5 _ _ rfl HBl.out.isB hbound hbase ?_; intro v' w3 hown' hch' hwh)
      have hch3 : Chg [] w w3 := HC2.out.trans hch' (HO2.out.rows (by rw [HB.out]; exact Nat.le_refl _))
      have HO3 := Lib.hid hown'
      have HC3 := Lib.hid hch3
      clear hown' hch' hwh hch3
      go_wp2
      go_roundw
      case rel =>
        refine ⟨k + 1, by omega, by go_num, ?_, HC3.out⟩
        have e : (st.bytes.drop (frm * 64)).take ((k + 1) * 64) = (st.bytes.drop (frm * 64)).take (k * 64) ++ st.block (frm + k) := by
          unfold St.block
          rw [Nat.add_mul, Nat.one_mul, List.take_add, List.drop_drop]
          congr 3
          omega
        rw [e]
        exact HO3.out
      case measure => simp [intOf]; omega
    · obtain rfl : k = n := by omega
      have hi2 : ¬ (frm : Int) + (k : Int) < (frm : Int) + (k : Int) := by omega
      go_wp2_with fail
      go_ret
      exact ⟨_, rfl, HO.out, HC.out⟩

theorem St.block_eq (st : St) (i : Nat) : st.block i = blockAt st.bytes i := rfl

set_option maxHeartbeats 400000 in
theorem erase_calls (S frm n : Nat) (st : St) (w : World) (hs : StoreAt w S st) (hd : st.down = false) (hf : frm + n ≤ 1024) :
    Calls Try.prog 74 #[.pointer (some ⟨S, 0, none⟩), .int .i64 frm, .int .i64 (frm + n : Nat)] w fun e w' => e = .returned (.int .i64 (st.erase frm n).2) ∧ StoreAt w' S (st.erase frm n).1 ∧ Chg [S] w w' := by
  have e0 : ((frm + n : Nat) : Int) = (frm : Int) + (n : Int) := by omega
  rw [e0]
  clear e0
  obtain ⟨B, hB⟩ : ∃ B, w.heap.size = B := ⟨_, rfl⟩
  have hSB : S < B := by rw [← hB]; exact hs.lt
  have HB := Lib.hid hB
  have HS := Lib.hid hs
  have HD := Lib.hid hd
  clear hB hs hd
  go_enter Try.func74, Try.ntmps74
  go_wp2_with (at_make; refine wpList_bmake _ rfl _ _ rfl B 64 64 64 rfl rfl (by decide) (by decide) (by omega) (by rw [HB.out]; exact Nat.le_refl _) ?_; intro w1 hown hch)
  have HOw := Lib.hid hown
  have HCh := Lib.hid hch
  clear hown hch
  go_loopw [8] (fun i wr => ∃ (k : Nat) (s1 : St), k ≤ n ∧ i = .int .i64 ((frm : Int) + k) ∧ OwnB wr B (.slice (some ⟨w.heap.size, 0, none⟩) 64 64) zero64 ∧ StoreAt wr S s1 ∧ s1.down = false ∧ st.erase frm n = s1.erase (frm + k) (n - k) ∧ Chg [S] w wr) (fun i _ => frm + n - (intOf i).toNat)
  case atStart => exact ⟨0, st, by omega, by go_num, HOw.out, HS.out.chg HCh.out (by simp), HD.out, rfl, HCh.out.mono (by simp)⟩
  case round =>
    obtain ⟨k, s1, hk, rfl, ho, hs1, hd1, heq, hc⟩ := hrel
    have HO := Lib.hid ho
    have HC := Lib.hid hc
    have HS1 := Lib.hid hs1
    have HD1 := Lib.hid hd1
    have HE := Lib.hid heq
    clear ho hc hs1 hd1 heq
    by_cases hlt : k < n
    · have hi2 : (frm : Int) + (k : Int) < (frm : Int) + (n : Int) := by omega
      have hrd := Read_yes S (frm + k) s1 wr HS1.out HD1.out (by omega)
      rw [show ((frm + k : Nat) : Int) = (frm : Int) + (k : Int) from by omega] at hrd
      have HRd := Lib.hid hrd
      have hstep : s1.erase (frm + k) (n - k) = if blockAt s1.bytes (frm + k) = zero64 then s1.erase (frm + k + 1) (n - (k + 1)) else if (s1.write (frm + k : Nat) zero64).2 ≠ 0 then s1.write (frm + k : Nat) zero64 else (s1.write (frm + k : Nat) zero64).1.erase (frm + k + 1) (n - (k + 1)) := by
        rw [show n - k = (n - (k + 1)) + 1 from by omega]; rfl
      have HSt := Lib.hid hstep
      clear hrd hstep
      go_wp2_with fail
      refine HRd.out.mono ?_
      rintro e w2 ⟨bv, rfl, hb, hch⟩
      have HEq := Lib.hid (Equal_calls 5 5 _ _ _ _ w2 hb.isB (HO.out.then hch).isB)
      have HC2 := Lib.hid (HC.out.then hch)
      have HO2 := Lib.hid (HO.out.then hch)
      have HS2 := Lib.hid (HS1.out.chg hch (by simp))
      clear hb hch
      simp only []
      go_wp2_with fail
      refine HEq.out.mono ?_
      rintro e w3 ⟨rfl, hch⟩
      have HC3 := Lib.hid (HC2.out.then hch)
      have HO3 := Lib.hid (HO2.out.then hch)
      have HS3 := Lib.hid (HS2.out.chg hch (by simp))
      clear hch
      simp only []
      by_cases hz : blockAt s1.bytes (frm + k) = zero64
      · have hdz : decide (s1.block (frm + k) = zero64) = true := by rw [St.block_eq]; exact decide_eq_true hz
        rw [hdz]
        have he2 := HE.out.trans HSt.out
        rw [if_pos hz] at he2
        have HE2 := Lib.hid he2
        clear he2 hdz
        go_wp2_with fail
        go_roundw
        case rel => exact ⟨k + 1, s1, by omega, by go_num, HO3.out, HS3.out, HD1.out, HE2.out, HC3.out⟩
        case measure => simp [intOf]; omega
      · have hdz : decide (s1.block (frm + k) = zero64) = false := by rw [St.block_eq]; exact decide_eq_false hz
        rw [hdz]
        have he2 := HE.out.trans HSt.out
        rw [if_neg hz] at he2
        have hwr := Write_calls S (frm + k : Nat) s1 _ _ w3 HS3.out HO3.out.isB
        rw [show ((frm + k : Nat) : Int) = (frm : Int) + (k : Int) from by omega] at hwr he2
        have hwc := write_cases s1 (frm + k) zero64 HD1.out HS1.out.1 (by omega) zero64_length
        rw [show ((frm + k : Nat) : Int) = (frm : Int) + (k : Int) from by omega] at hwc
        have HW := Lib.hid hwr
        obtain ⟨r, hr⟩ : ∃ r, s1.write ((frm : Int) + (k : Int)) zero64 = r := ⟨_, rfl⟩
        rw [hr] at he2 hwc
        have HR := Lib.hid hr
        have HE2 := Lib.hid he2
        clear hwr he2 hr hdz
        have hst1 : r.2 = 0 ∧ r.1.down = false ∨ r.2 = 13 := by
          rcases hwc with ⟨h1, h2, _⟩ | ⟨h1, _⟩
          · exact .inl ⟨h1, h2⟩
          · exact .inr h1
        have HCs := Lib.hid hst1
        clear hwc hst1
        go_wp2_with fail
        refine HW.out.mono ?_
        rw [HR.out]
        rintro e w4 ⟨rfl, hs4, hch⟩
        have HS4 := Lib.hid hs4
        have HC4 := Lib.hid (HC3.out.same hch)
        have HO4 := Lib.hid (HO3.out.chg hch (fun x hx hm => by simp at hm; have := (HO3.out.lt x hx).1; omega))
        clear hs4 hch
        simp only []
        rcases HCs.out with ⟨h1, h2⟩ | h1
        · have he3 := HE2.out
          rw [if_neg (by rw [h1]; simp)] at he3
          have HE3 := Lib.hid he3
          rw [h1]
          clear he3
          go_wp2_with fail
          go_roundw
          case rel => exact ⟨k + 1, r.1, by omega, by go_num, HO4.out, HS4.out, h2, HE3.out, HC4.out⟩
          case measure => simp [intOf]; omega
        · have he3 := HE2.out
          rw [if_pos (by rw [h1]; simp)] at he3
          have HE3 := Lib.hid he3
          have H1 := Lib.hid h1
          rw [h1]
          clear he3 h1
          go_wp2_with fail
          go_ret
          rw [HE3.out, H1.out]
          exact ⟨rfl, HS4.out, HC4.out⟩
    · obtain rfl : k = n := by omega
      have hi2 : ¬ (frm : Int) + (k : Int) < (frm : Int) + (k : Int) := by omega
      have he2 := HE.out
      rw [Nat.sub_self, St.erase] at he2
      have HE2 := Lib.hid he2
      clear he2
      go_wp2_with fail
      go_ret
      rw [HE2.out]
      exact ⟨rfl, HS1.out, HC.out⟩
end Go.Proofs.Ytgmgmjljjbcgjaa

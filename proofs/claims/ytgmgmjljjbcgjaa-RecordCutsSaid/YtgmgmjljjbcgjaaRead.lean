/- The record package: Read. -/
import Derived.Test.YtgmgmjljjbcgjaaPieceW
import Derived.Test.YtgmgmjljjbcgjaaList
namespace Go.Proofs.Ytgmgmjljjbcgjaa
open Go Go.RowKit NSX

theorem chunks_drop : ∀ (k : Nat) (b : List UInt8), (chunks b).drop k = chunks (b.drop (64 * k))
  | 0, b => rfl
  | k + 1, b => by
    rw [chunks]
    by_cases h : 64 ≤ b.length
    · rw [dif_pos h, List.drop_succ_cons, chunks_drop k, List.drop_drop]
      congr 2
      omega
    · rw [dif_neg h, List.drop_nil, chunks, dif_neg (by simp; omega)]
theorem chunks_next (k : Nat) (b : List UInt8) (h : 64 * (k + 1) ≤ b.length) : (chunks b).drop k = (b.drop (64 * k)).take 64 :: (chunks b).drop (k + 1) := by
  rw [chunks_drop, chunks_drop, chunks, dif_pos (by simp; omega), List.drop_drop]
  congr 2
theorem chunks_end (k : Nat) (b : List UInt8) (h : ¬ 64 * (k + 1) ≤ b.length) : (chunks b).drop k = [] := by
  rw [chunks_drop, chunks, dif_neg (by simp; omega)]

/-- What the loop of Read holds. -/
structure ReadRel (w : World) (b : List UInt8) (k : Nat) (outs : List (List UInt8)) (body : List UInt8) (used B1 : Nat) (ov bv : Value) (wr : World) : Prop where
  le : 64 * k ≤ b.length
  own : OwnB wr B1 bv body
  list : ListB wr w.heap.size B1 ov outs
  top : B1 ≤ wr.heap.size
  base : w.heap.size ≤ B1
  same : readB b = (outs ++ (readL ((chunks b).drop k) body k used).1, (readL ((chunks b).drop k) body k used).2)
  len : outs.length ≤ k
  short : body.length ≤ 32768
  usedLe : used ≤ k
  chg : Chg [] w wr

set_option maxRecDepth 100000 in
set_option maxHeartbeats 1000000 in
theorem Read_bytes (T : TypeId) (v : Value) (b : List UInt8) (w : World) (h : IsB w T v b) (hlen : b.length ≤ 60000000) :
    Calls Try.prog 58 #[v] w fun e w' => ∃ v', e = .returned (.tuple #[v', .int .i64 (readB b).2]) ∧ ListB w' w.heap.size w'.heap.size v' (readB b).1 ∧ Chg [] w w' := by
  obtain ⟨ao, cap, rfl, hl, hm, -, -⟩ := h.cells
  unfold maxLen at hm
  have HB := Lib.hid h
  clear h
  go_enter Try.func58, Try.ntmps58
  go_wp2
  go_loopw [4, 5, 6, 7] (fun ov bv uv av wr => ∃ (k : Nat) (outs : List (List UInt8)) (body : List UInt8) (used B1 : Nat), av = .int .i64 ((k : Int) + 1) ∧ uv = .int .i64 used ∧ ReadRel w b k outs body used B1 ov bv wr) (fun _ _ _ av _ => b.length + 2 - (intOf av).toNat)
  case atStart => exact ⟨0, [], [], 0, w.heap.size, rfl, rfl, ⟨by omega, OwnB.nil _ _, ListB.nil _ _ _, Nat.le_refl _, Nat.le_refl _, rfl, Nat.le_refl _, by simp, Nat.le_refl _, Chg.refl _ _⟩⟩
  case round =>
    obtain ⟨k, outs, body, used, B1, rfl, rfl, hrel⟩ := hrel
    obtain ⟨bo, bcap, rfl, -, -, -, -⟩ := hrel.own.isB.cells
    obtain ⟨oo, ocap, rfl⟩ := hrel.list.slice
    have hshort := hrel.short
    have hkle := hrel.le
    have HRel := Lib.hid hrel
    clear hrel
    by_cases hlt : 64 * (k + 1) ≤ b.length
    · have hi2 : ((k : Int) + 1) * 64 ≤ (b.length : Int) := by omega
      have hsub : ((k : Int) + 1 - 1) = (k : Int) := by omega
      have hd := HB.out.drop (k * 64) (by omega)
      rw [if_neg (by omega)] at hd
      have ht := (hd.take 64 (by simp; omega)).then HRel.out.chg
      obtain ⟨c, hc⟩ : ∃ c, (b.drop (k * 64)).take 64 = c := ⟨_, rfl⟩
      have hnext := chunks_next k b hlt
      rw [Nat.mul_comm 64 k, hc] at hnext
      have hc64 : c.length = 64 := by rw [← hc]; simp; omega
      rw [hc] at ht
      have HP := Lib.hid (piece_calls T _ c wr ht hc64)
      have HN := Lib.hid hnext
      clear hd ht hc hnext
      have e64 : (k + 1) * 64 - k * 64 = 64 := by omega
      go_wp2_with fail
      try rw [e64]
      refine HP.out.mono ?_
      rintro e w2 ⟨pv, last, ok, rfl, h1, h2, hc2⟩
      have HC2 := Lib.hid (HRel.out.chg.then hc2)
      have HOwn2 := Lib.hid (HRel.out.own.then hc2)
      have HList2 := Lib.hid (HRel.out.list.chg hc2 (by simp))
      have HSz2 := Lib.hid (Nat.le_trans HRel.out.top hc2.size)
      clear hc2
      cases ok with
      | false =>
        obtain ⟨hnone, rfl, rfl⟩ := h1 rfl
        have HNone := Lib.hid hnone
        have hs := HRel.out.same
        rw [HN.out, readL, HNone.out] at hs
        simp only [List.append_nil] at hs
        have HS := Lib.hid hs
        clear h1 h2 hnone hs
        simp only []
        go_wp2_with fail
        go_ret2
        refine ⟨_, by rw [HS.out]; rfl, ?_, HC2.out⟩
        rw [HS.out]
        exact HList2.out.mono (Nat.le_refl _) HSz2.out
      | true =>
        obtain ⟨p, hsome, hp⟩ := h2 rfl
        obtain ⟨po, pcap, rfl, hpc, hpm, -, -⟩ := hp.cells
        have HSome := Lib.hid hsome
        have hp58 : p.length ≤ 58 := (pieceOf_some hc64 hsome).2.1
        have HP2 := Lib.hid hp
        clear h1 h2 hsome hp
        simp only []
        by_cases hbig : 32768 < body.length + p.length
        · have hbigi : 32768 < (body.length : Int) + (p.length : Int) := by omega
          have hs := HRel.out.same
          rw [HN.out, readL, HSome.out] at hs
          simp only [if_pos hbig, List.append_nil] at hs
          have HS := Lib.hid hs
          clear hs
          go_wp2_with fail
          go_ret2
          refine ⟨_, by rw [HS.out]; rfl, ?_, HC2.out⟩
          rw [HS.out]
          exact HList2.out.mono (Nat.le_refl _) HSz2.out
        · have hbigi : ¬ 32768 < (body.length : Int) + (p.length : Int) := by omega
          have hs := HRel.out.same
          rw [HN.out, readL, HSome.out] at hs
          simp only [if_neg hbig] at hs
          have hbB : w.heap.size ≤ B1 := HRel.out.base
          cases last with
          | true =>
            simp only [if_true] at hs
            have HS := Lib.hid hs
            clear hs
            go_upto_region 11 with (at_builtin; refine wpList_bappend rfl (.tmp 40) (.tmp 41) rfl B1 _ _ rfl HOwn2.out 5 _ _ rfl HP2.out (by omega) HSz2.out ?_; intro v5 w5 hown5 hch5 hwh5; obtain ⟨vo5, vc5, hv5, -⟩ := hown5.isB.cells; subst hv5)
            have HC5 := Lib.hid (HC2.out.trans hch5 (HOwn2.out.rows hbB))
            have hl5 := HList2.out.chg hch5 (fun x hx => (HOwn2.out.lt x (Option.mem_toList.1 hx)).1)
            have HO5 := Lib.hid hown5
            have HSz5 := Lib.hid (Nat.le_trans HSz2.out hch5.size)
            have hlx := hl5.chg ((Chg.refl [] w5).alloc (.cells #[.slice vo5 (body ++ p).length vc5] 26)) (by simp)
            have hox := (hown5.mono hbB).then ((Chg.refl [] w5).alloc (.cells #[.slice vo5 (body ++ p).length vc5] 26))
            have hxx : (w5.alloc (.cells #[.slice vo5 (body ++ p).length vc5] 26)).cell? ⟨w5.heap.size, 0, none⟩ = some (.slice vo5 (body ++ p).length vc5) := cell_of_heap (heap_alloc_new _ _) rfl
            have hbx : w.heap.size ≤ (w5.alloc (.cells #[.slice vo5 (body ++ p).length vc5] 26)).heap.size := ((HC5.out).alloc _).size
            have hol : outs.length ≤ 1000000 := by have := HRel.out.len; omega
            have hpl : (body ++ p).length = body.length + p.length := List.length_append
            rw [hpl] at hlx hox hxx hbx
            have HLx := Lib.hid hlx
            have HOx := Lib.hid hox
            have HXx := Lib.hid hxx
            have HBx := Lib.hid hbx
            clear hown5 hch5 hwh5 hl5 hlx hox hxx hbx
            go_wp2_with (at_builtin; refine wpList_push rfl (.tmp 44) (.tmp 46) rfl w.heap.size B1 _ _ rfl HLx.out _ _ HOx.out w5.heap.size HXx.out rfl hol HBx.out ?_; intro v6 w6 hl6 hch6)
            have HC6 := Lib.hid (((HC5.out).alloc (.cells #[.slice vo5 (body.length + p.length) vc5] 26)).trans hch6 (HLx.out.rows (Nat.le_refl _)))
            have HL6 := Lib.hid hl6
            clear hl6 hch6
            go_wp2
            go_roundw
            case rel =>
              refine ⟨k + 1, outs ++ [body ++ p], [], k + 1, w6.heap.size, by go_num, by go_num, ⟨hlt, OwnB.nil _ _, HL6.out, Nat.le_refl _, HC6.out.size, ?_, by rw [List.length_append]; have := HRel.out.len; simp; omega, by simp, Nat.le_refl _, HC6.out⟩⟩
              rw [HS.out, List.append_assoc]
              rfl
            case measure => simp [intOf]; omega
          | false =>
            simp only [Bool.false_eq_true, if_false] at hs
            have HS := Lib.hid hs
            clear hs
            go_wp2_with (at_builtin; refine wpList_bappend rfl (.tmp 40) (.tmp 41) rfl B1 _ _ rfl HOwn2.out 5 _ _ rfl HP2.out (by omega) HSz2.out ?_; intro v5 w5 hown5 hch5 hwh5)
            have HC5 := Lib.hid (HC2.out.trans hch5 (HOwn2.out.rows hbB))
            have HO5 := Lib.hid hown5
            have HL5 := Lib.hid (HList2.out.chg hch5 (fun x hx => (HOwn2.out.lt x (Option.mem_toList.1 hx)).1))
            have HSz5 := Lib.hid (Nat.le_trans HSz2.out hch5.size)
            clear hown5 hch5 hwh5
            go_wp2
            go_roundw
            case rel =>
              exact ⟨k + 1, outs, body ++ p, used, B1, by go_num, rfl, ⟨hlt, HO5.out, HL5.out, HSz5.out, hbB, HS.out, Nat.le_succ_of_le HRel.out.len, by rw [List.length_append]; omega, Nat.le_succ_of_le HRel.out.usedLe, HC5.out⟩⟩
            case measure => simp [intOf]; omega
    · have hi2 : ¬ ((k : Int) + 1) * 64 ≤ (b.length : Int) := by omega
      have hend := chunks_end k b hlt
      have hs := HRel.out.same
      rw [hend, readL, List.append_nil] at hs
      have HS := Lib.hid hs
      clear hend hs
      go_wp2_with fail
      go_ret2
      refine ⟨_, by rw [HS.out]; rfl, ?_, HRel.out.chg⟩
      rw [HS.out]
      exact HRel.out.list.mono (Nat.le_refl _) HRel.out.top
end Go.Proofs.Ytgmgmjljjbcgjaa

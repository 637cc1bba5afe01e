/- The record package: block, Blocks, Cut. -/
import Derived.Test.YtgmgmjljjbcgjaaSeal
import Derived.Test.YtgmgmjljjbcgjaaRecPure
import Derived.Laws.CopyRow
import Derived.Deep.CutBlock
namespace Go.Proofs.Ytgmgmjljjbcgjaa
open Go Go.RowKit NSX

/-- Block g, of type T, holds just these bytes. -/
def ArrB (w : World) (g T : Nat) (bs : List UInt8) : Prop := w.heap[g]? = some (.cells (bs.map u8).toArray T (0, 0))
theorem ArrB.chg {w w' : World} {g T : Nat} {bs : List UInt8} {r : List Nat} (h : ArrB w g T bs) (hc : Chg r w w') (hn : g ∉ r) : ArrB w' g T bs := hc.heap h hn
theorem ArrB.cell {w : World} {g T : Nat} {bs : List UInt8} (h : ArrB w g T bs) (i : Nat) (hi : i < bs.length) : w.cell? ⟨g, i, none⟩ = some (u8 (bs.getD i 0)) ∧ w.frozen? ⟨g, i, none⟩ = false := by
  refine ⟨cell_of_heap h ?_, frozen_of_heap h⟩
  rw [List.getElem?_toArray, List.getElem?_map, List.getD_eq_getElem?_getD, List.getElem?_eq_getElem hi]; rfl
theorem ArrB.set {w : World} {g T : Nat} {bs : List UInt8} (h : ArrB w g T bs) (i : Nat) (c : UInt8) : ArrB (w.setCell ⟨g, i, none⟩ (u8 c)) g T (bs.set i c) := by
  unfold ArrB
  rw [setCell_heap h, List.setIfInBounds_toArray, List.map_set]
theorem ArrB.isB {w : World} {g T : Nat} {bs : List UInt8} (h : ArrB w g T bs) (hm : bs.length ≤ maxLen) : IsB w T (.slice (some ⟨g, 0, none⟩) bs.length bs.length) bs := by
  refine ⟨_, bs.length, rfl, Nat.le_refl _, hm, (fun e => by cases e), fun _ => ⟨g, 0, _, _, rfl, h, fun i c hi => ?_⟩⟩
  rw [Nat.zero_add, List.getElem?_toArray, List.getElem?_map, hi]; rfl
theorem Try.size5r : (Try.prog.info? 5).map (·.size) = some 1 := by kernel_rfl
/-- 'copy' into a block of bytes. -/
theorem run_arr_copy (w : World) (ty : TypeId) (g T off n cap : Nat) (z : List UInt8) (h : ArrB w g T z) (Tx : TypeId) (vx : Value) (cs : List UInt8) (hv : IsB w Tx vx cs) (hle : cs.length ≤ n) (hfit : off + n ≤ z.length) :
    ∃ w', (Builtin.copy_ #[26, 26] ty #[.slice (some ⟨g, off, none⟩) n cap, vx]).run Try.prog w = .ok (goInt cs.length) w' ∧ ArrB w' g T (z.take off ++ (cs ++ z.drop (off + cs.length))) ∧ Chg [g] w w' := by
  by_cases h0 : cs = []
  · subst h0
    obtain ⟨ao, c, rfl, _, _, _, _⟩ := hv
    refine ⟨w, run_copy_none (P := Try.prog) w 26 26 ty 5 (some ⟨g, off, none⟩) ao n cap 0 c Try.underlying26 Try.size5r (by simp), ?_, Chg.refl _ _⟩
    simpa using h
  · obtain ⟨a, c, rfl, hc⟩ := hv.news h0
    have hr := run_copy_row (P := Try.prog) w 26 26 ty 5 g off n cap a cs.length c (z.map u8).toArray T (cs.map u8) Try.underlying26 Try.size5r h (by rw [List.length_map]; exact (Nat.min_eq_left hle).symm) hc (by simp; omega) (u8s_one cs)
    rw [List.length_map, List.append_assoc] at hr
    refine ⟨_, hr, ?_, (Chg.refl _ _).setRow (.inl (by simp)) _⟩
    unfold ArrB
    rw [setRow_heap _ _ _ _ _ _ h]
    have e : (z.map u8).toArray.toList.take off ++ (cs.map u8 ++ (z.map u8).toArray.toList.drop (off + cs.length)) = (z.take off ++ (cs ++ z.drop (off + cs.length))).map u8 := by
      simp only [List.map_append, List.map_take, List.map_drop]
    rw [e]

theorem zero142 (w : World) : ArrB (w.alloc (.cells #[.int .u8 0, .int .u8 0, .int .u8 0, .int .u8 0, .int .u8 0, .int .u8 0, .int .u8 0, .int .u8 0, .int .u8 0, .int .u8 0, .int .u8 0, .int .u8 0, .int .u8 0, .int .u8 0, .int .u8 0, .int .u8 0, .int .u8 0, .int .u8 0, .int .u8 0, .int .u8 0, .int .u8 0, .int .u8 0, .int .u8 0, .int .u8 0, .int .u8 0, .int .u8 0, .int .u8 0, .int .u8 0, .int .u8 0, .int .u8 0, .int .u8 0, .int .u8 0, .int .u8 0, .int .u8 0, .int .u8 0, .int .u8 0, .int .u8 0, .int .u8 0, .int .u8 0, .int .u8 0, .int .u8 0, .int .u8 0, .int .u8 0, .int .u8 0, .int .u8 0, .int .u8 0, .int .u8 0, .int .u8 0, .int .u8 0, .int .u8 0, .int .u8 0, .int .u8 0, .int .u8 0, .int .u8 0, .int .u8 0, .int .u8 0, .int .u8 0, .int .u8 0, .int .u8 0, .int .u8 0] 142)) w.heap.size 142 (List.replicate 60 0) ∧ Chg [] w (w.alloc (.cells #[.int .u8 0, .int .u8 0, .int .u8 0, .int .u8 0, .int .u8 0, .int .u8 0, .int .u8 0, .int .u8 0, .int .u8 0, .int .u8 0, .int .u8 0, .int .u8 0, .int .u8 0, .int .u8 0, .int .u8 0, .int .u8 0, .int .u8 0, .int .u8 0, .int .u8 0, .int .u8 0, .int .u8 0, .int .u8 0, .int .u8 0, .int .u8 0, .int .u8 0, .int .u8 0, .int .u8 0, .int .u8 0, .int .u8 0, .int .u8 0, .int .u8 0, .int .u8 0, .int .u8 0, .int .u8 0, .int .u8 0, .int .u8 0, .int .u8 0, .int .u8 0, .int .u8 0, .int .u8 0, .int .u8 0, .int .u8 0, .int .u8 0, .int .u8 0, .int .u8 0, .int .u8 0, .int .u8 0, .int .u8 0, .int .u8 0, .int .u8 0, .int .u8 0, .int .u8 0, .int .u8 0, .int .u8 0, .int .u8 0, .int .u8 0, .int .u8 0, .int .u8 0, .int .u8 0, .int .u8 0] 142)) :=
  ⟨heap_alloc_new _ _, (Chg.refl [] w).alloc _⟩

theorem oneB (w : World) (c : UInt8) : IsB (w.alloc (.cells #[u8 c] 5)) 5 (.slice (some ⟨w.heap.size, 0, none⟩) 1 1) [c] := by
  refine ⟨_, 1, rfl, Nat.le_refl _, by decide, (fun e => by cases e), fun _ => ⟨_, 0, _, _, rfl, heap_alloc_new _ _, fun i x hi => ?_⟩⟩
  have : i = 0 := by have := (List.getElem?_eq_some_iff.1 hi).1; simp at this; omega
  subst this
  simp at hi
  subst hi
  rfl

set_option maxRecDepth 100000 in
set_option maxHeartbeats 800000 in
theorem block_calls (T : TypeId) (v : Value) (p : List UInt8) (last : Bool) (w : World) (h : IsB w T v p) (hp : p.length ≤ 58) :
    Calls Try.prog 82 #[v, .bool last] w fun e w' => ∃ v', e = .returned v' ∧ OwnB w' w.heap.size v' (blockOf p last) ∧ Chg [] w w' := by
  obtain ⟨ao, cap, rfl, hl, hm, hz, -⟩ := h.cells
  obtain ⟨h1, hc1⟩ := zero142 w
  have HB0 := Lib.hid h
  clear h hz
  obtain ⟨B, hB⟩ : ∃ B, w.heap.size = B := ⟨_, rfl⟩
  have HBs := Lib.hid hB
  go_enter Try.func82, Try.ntmps82
  go_upto_region 2 with fail
  generalize hw1 : w.alloc (.cells #[.int .u8 0, .int .u8 0, .int .u8 0, .int .u8 0, .int .u8 0, .int .u8 0, .int .u8 0, .int .u8 0, .int .u8 0, .int .u8 0, .int .u8 0, .int .u8 0, .int .u8 0, .int .u8 0, .int .u8 0, .int .u8 0, .int .u8 0, .int .u8 0, .int .u8 0, .int .u8 0, .int .u8 0, .int .u8 0, .int .u8 0, .int .u8 0, .int .u8 0, .int .u8 0, .int .u8 0, .int .u8 0, .int .u8 0, .int .u8 0, .int .u8 0, .int .u8 0, .int .u8 0, .int .u8 0, .int .u8 0, .int .u8 0, .int .u8 0, .int .u8 0, .int .u8 0, .int .u8 0, .int .u8 0, .int .u8 0, .int .u8 0, .int .u8 0, .int .u8 0, .int .u8 0, .int .u8 0, .int .u8 0, .int .u8 0, .int .u8 0, .int .u8 0, .int .u8 0, .int .u8 0, .int .u8 0, .int .u8 0, .int .u8 0, .int .u8 0, .int .u8 0, .int .u8 0, .int .u8 0] 142) = w1 at h1 hc1 ⊢
  rw [hB] at h1
  clear hw1 hB
  obtain ⟨f0, z0⟩ := h1.cell 0 (by simp)
  obtain ⟨f1, z1⟩ := h1.cell 1 (by simp)
  have hlen : u8 (UInt8.ofNat p.length) = .int .u8 (p.length : Int) := by
    unfold u8
    rw [UInt8.toNat_ofNat', Nat.mod_eq_of_lt (by omega)]
  have hr0 : w.heap.size = B := HBs.out
  have hBB : w.heap.size ≤ B := Nat.le_of_eq hr0
  clear hr0
  obtain ⟨hd, hhd⟩ : ∃ hd : UInt8, hd = if last then 2 else 1 := ⟨_, rfl⟩
  have HH := Lib.hid (show headOf p last = hd :: UInt8.ofNat p.length :: (p ++ List.replicate (58 - p.length) 0) from by unfold headOf; rw [hhd])
  cases last with
  | false =>
    have h2 := (h1.set 0 1).set 1 (UInt8.ofNat p.length)
    have hc2 := (hc1.setCell (p := ⟨B, 0, none⟩) (.inr hBB) (u8 1)).setCell (p := ⟨B, 1, none⟩) (.inr hBB) (u8 (UInt8.ofNat p.length))
    rw [hlen, show u8 1 = .int .u8 1 from rfl] at h2 hc2
    have e : ((List.replicate 60 (0 : UInt8)).set 0 1).set 1 (UInt8.ofNat p.length) = hd :: UInt8.ofNat p.length :: List.replicate 58 0 := by rw [hhd]; rfl
    rw [e] at h2
    have H2 := Lib.hid h2
    have HC2 := Lib.hid hc2
    clear e h2 hc2 h1 hc1 hlen hhd
    go_upto_region 6 with fail
    generalize ((w1.setCell ⟨B, 0, none⟩ (.int .u8 1)).setCell ⟨B, 1, none⟩ (.int .u8 (p.length : Int))) = w2 at H2 HC2 ⊢
    obtain ⟨w3, hr, h3, hc3⟩ := run_arr_copy w2 3 B 142 2 58 58 _ H2.out T _ p (HB0.out.then HC2.out) hp (by simp)
    have e3 : (hd :: UInt8.ofNat p.length :: List.replicate 58 (0 : UInt8)).take 2 ++ (p ++ (hd :: UInt8.ofNat p.length :: List.replicate 58 (0 : UInt8)).drop (2 + p.length)) = headOf p false := by
      rw [HH.out, Nat.add_comm 2, List.drop_succ_cons, List.drop_succ_cons, List.drop_replicate]
      rfl
    rw [e3] at h3
    have hl60 := headOf_length p false hp
    have hb3 := h3.isB (by rw [hl60]; unfold maxLen; omega)
    rw [hl60] at hb3
    have hc3w : Chg [] w w3 := HC2.out.trans hc3 (by intro x hx; simp at hx; right; rw [hx]; exact hBB)
    have HP := Lib.hid (Put_calls 142 _ _ w3 hb3 (by rw [hl60]; omega))
    have HC3 := Lib.hid hc3w
    clear h3 hb3 hc3 hc3w e3 H2 HC2 f0 z0 f1 z1
    go_wp2_with fail
    refine HP.out.mono ?_
    rintro e w4 ⟨q, rfl, hq, hc4⟩
    have HQ := Lib.hid (hq.mono HC3.out.size)
    have HC4 := Lib.hid (HC3.out.then hc4)
    clear hq hc4 hr
    go_wp2_with (at_builtin; refine wpList_bappend rfl (.tmp 17) (.tmp 18) rfl w.heap.size _ _ rfl (HQ.out.then ((Chg.refl [] w4).alloc _)) 5 _ _ rfl (oneB w4 1) (by rw [NSX.putSeal_length, hl60]; decide) (Nat.le_trans HC4.out.size ((Chg.refl [] w4).alloc _).size) ?_; intro v5 w5 hown5 hch5 hwh5)
    go_ret
    exact ⟨_, rfl, by unfold blockOf; exact hown5, (HC4.out.alloc _).trans hch5 (HQ.out.rows (Nat.le_refl _))⟩
  | true =>
    have h2 := ((h1.set 0 1).set 0 2).set 1 (UInt8.ofNat p.length)
    have hc2 := ((hc1.setCell (p := ⟨B, 0, none⟩) (.inr hBB) (u8 1)).setCell (p := ⟨B, 0, none⟩) (.inr hBB) (u8 2)).setCell (p := ⟨B, 1, none⟩) (.inr hBB) (u8 (UInt8.ofNat p.length))
    rw [hlen, show u8 1 = .int .u8 1 from rfl, show u8 2 = .int .u8 2 from rfl] at h2 hc2
    have e : (((List.replicate 60 (0 : UInt8)).set 0 1).set 0 2).set 1 (UInt8.ofNat p.length) = hd :: UInt8.ofNat p.length :: List.replicate 58 0 := by rw [hhd]; rfl
    rw [e] at h2
    have H2 := Lib.hid h2
    have HC2 := Lib.hid hc2
    clear e h2 hc2 h1 hc1 hlen hhd
    go_upto_region 6 with fail
    generalize (((w1.setCell ⟨B, 0, none⟩ (.int .u8 1)).setCell ⟨B, 0, none⟩ (.int .u8 2)).setCell ⟨B, 1, none⟩ (.int .u8 (p.length : Int))) = w2 at H2 HC2 ⊢
    obtain ⟨w3, hr, h3, hc3⟩ := run_arr_copy w2 3 B 142 2 58 58 _ H2.out T _ p (HB0.out.then HC2.out) hp (by simp)
    have e3 : (hd :: UInt8.ofNat p.length :: List.replicate 58 (0 : UInt8)).take 2 ++ (p ++ (hd :: UInt8.ofNat p.length :: List.replicate 58 (0 : UInt8)).drop (2 + p.length)) = headOf p true := by
      rw [HH.out, Nat.add_comm 2, List.drop_succ_cons, List.drop_succ_cons, List.drop_replicate]
      rfl
    rw [e3] at h3
    have hl60 := headOf_length p true hp
    have hb3 := h3.isB (by rw [hl60]; unfold maxLen; omega)
    rw [hl60] at hb3
    have hc3w : Chg [] w w3 := HC2.out.trans hc3 (by intro x hx; simp at hx; right; rw [hx]; exact hBB)
    have HP := Lib.hid (Put_calls 142 _ _ w3 hb3 (by rw [hl60]; omega))
    have HC3 := Lib.hid hc3w
    clear h3 hb3 hc3 hc3w e3 H2 HC2 f0 z0 f1 z1
    go_wp2_with fail
    refine HP.out.mono ?_
    rintro e w4 ⟨q, rfl, hq, hc4⟩
    have HQ := Lib.hid (hq.mono HC3.out.size)
    have HC4 := Lib.hid (HC3.out.then hc4)
    clear hq hc4 hr
    go_wp2_with (at_builtin; refine wpList_bappend rfl (.tmp 17) (.tmp 18) rfl w.heap.size _ _ rfl (HQ.out.then ((Chg.refl [] w4).alloc _)) 5 _ _ rfl (oneB w4 1) (by rw [NSX.putSeal_length, hl60]; decide) (Nat.le_trans HC4.out.size ((Chg.refl [] w4).alloc _).size) ?_; intro v5 w5 hown5 hch5 hwh5)
    go_ret
    exact ⟨_, rfl, by unfold blockOf; exact hown5, (HC4.out.alloc _).trans hch5 (HQ.out.rows (Nat.le_refl _))⟩
end Go.Proofs.Ytgmgmjljjbcgjaa

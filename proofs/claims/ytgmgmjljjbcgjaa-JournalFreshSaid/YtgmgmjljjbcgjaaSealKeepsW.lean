/- SealKeeps: its walk. -/
import Derived.Test.YtgmgmjljjbcgjaaSealBackW
import Derived.Lib.BufferWrite
import Derived.BigRegion
namespace Go.Proofs.Ytgmgmjljjbcgjaa
open Go Go.RowKit NSX

theorem Try.size5b : (Try.prog.info? 5).map (·.size) = some 1 := by kernel_rfl
/-- Block g holds just these bytes. -/
def RoomB (w : World) (g : Nat) (bs : List UInt8) : Prop := w.heap[g]? = some (.cells (bs.map u8).toArray 5 (0, 0))
theorem RoomB.chg {w w' : World} {g : Nat} {bs : List UInt8} {r : List Nat} (h : RoomB w g bs) (hc : Chg r w w') (hn : g ∉ r) : RoomB w' g bs := hc.heap h hn
theorem RoomB.cell {w : World} {g : Nat} {bs : List UInt8} (h : RoomB w g bs) (i : Nat) (hi : i < bs.length) : w.cell? ⟨g, i, none⟩ = some (u8 (bs.getD i 0)) := by
  refine cell_of_heap h ?_
  rw [List.getElem?_toArray, List.getElem?_map, List.getD_eq_getElem?_getD, List.getElem?_eq_getElem hi]; rfl
theorem RoomB.isB {w : World} {g : Nat} {bs : List UInt8} (h : RoomB w g bs) (n cap : Nat) (hn : n ≤ bs.length) (hc : n ≤ cap) (hm : cap ≤ maxLen) : IsB w 5 (.slice (some ⟨g, 0, none⟩) n cap) (bs.take n) := by
  have hl : (bs.take n).length = n := by rw [List.length_take]; omega
  refine ⟨_, cap, by rw [hl], by rw [hl]; exact hc, hm, (fun e => by cases e), fun _ => ⟨g, 0, _, _, rfl, h, fun i c hi => ?_⟩⟩
  have hlt : i < n := by have := (List.getElem?_eq_some_iff.1 hi).1; omega
  rw [List.getElem?_take, if_pos hlt] at hi
  rw [Nat.zero_add, List.getElem?_toArray, List.getElem?_map, hi]; rfl

theorem run_room (w : World) (n : Nat) (hn : n ≤ 281474976700000) : ∃ w', (Instr.makeSlice 26 (.int .i64 n) (.int .i64 ((n : Int) + 8))).run Try.prog w = .ok (.slice (some ⟨w.heap.size, 0, none⟩) n (n + 8)) w' ∧ RoomB w' w.heap.size (List.replicate (n + 8) 0) ∧ Chg [] w w' := by
  obtain ⟨i0, hi, hz0, hz1, hz2⟩ := info_parts Try.info5p
  have hr := run_make (P := Try.prog) w 26 5 i0 (.int .u8 0) Try.underlying26 hi hz0 .i64 .i64 n ((n : Int) + 8) (by omega) (by omega) (by rw [hz2]; omega) (by omega)
  refine ⟨_, hr, ?_, (Chg.refl [] w).alloc _⟩
  unfold RoomB
  rw [heap_alloc_new]
  have e : (madeCells (Value.int IntKind.u8 0).cells (((n : Int) + 8).toNat * i0.size)) = ((List.replicate (n + 8) (0 : UInt8)).map u8).toArray := by
    apply Array.toList_inj.1
    rw [hz1, ← made_zero, show ((n : Int) + 8).toNat = n + 8 from by omega]
  rw [e]

theorem run_room_copy (w : World) (ty : TypeId) (g cap : Nat) (b : ByteArray) (z : List UInt8) (h : RoomB w g z) (hz : b.size ≤ z.length) :
    ∃ w', (Builtin.copy_ #[26, 9] ty #[.slice (some ⟨g, 0, none⟩) b.size cap, .string b]).run Try.prog w = .ok (goInt b.size) w' ∧ RoomB w' g (b.data.toList ++ z.drop b.size) ∧ Chg [g] w w' := by
  have hr := Lib.run_copy_row_string (P := Try.prog) w 26 9 ty 5 g 0 b.size cap b _ 5 Try.underlying26 Try.size5b h (Nat.le_refl _) (by simp; exact hz)
  refine ⟨_, hr, ?_, (Chg.refl _ _).setRow (.inl (by simp)) _⟩
  unfold RoomB
  rw [setRow_heap _ _ _ _ _ _ h]
  have e : (z.map u8).toArray.toList.take 0 ++ Lib.byteCells b.data.toList ++ (z.map u8).toArray.toList.drop (0 + b.size) = (b.data.toList ++ z.drop b.size).map u8 := by
    rw [List.take_zero, List.nil_append, Nat.zero_add, List.map_append, List.map_drop]
    rfl
  rw [e]

/-- What a slice of the call's own is, and where it lies. -/
theorem OwnB.form {w : World} {base : Nat} {v : Value} {bs : List UInt8} (h : OwnB w base v bs) : ∃ ao cap, v = .slice ao bs.length cap ∧ (0 < bs.length → ∃ g, ao = some ⟨g, 0, none⟩ ∧ base ≤ g ∧ g < w.heap.size) := by
  by_cases h0 : bs = []
  · subst h0
    obtain ⟨ao, cap, hv, _⟩ := h.isB.cells
    exact ⟨ao, cap, hv, fun h => by simp at h⟩
  · obtain ⟨g, cap, hv, hb, _⟩ := h.at h0
    exact ⟨_, cap, hv, fun _ => ⟨g, rfl, hb, (h.lt g (by rw [hv]; rfl)).2⟩⟩

theorem xor255 (c : UInt8) : bits BinOp.xor IntKind.u8 (c.toNat : Int) 255 = ((c ^^^ 255).toNat : Int) := xor_byte c 255

set_option maxRecDepth 100000 in
set_option maxHeartbeats 1000000 in
theorem SealKeeps_calls (b : ByteArray) (w : World) : Calls Try.prog 14 #[.string b] w fun e w' => e = .returned (.bool true) ∧ Chg [] w w' := by
  go_enter Try.func14, Try.ntmps14
  go_wp2_with fail
  refine (awake2_calls _).mono ?_
  rintro e w1 ⟨rfl, hc1⟩
  have HC1 := Lib.hid hc1
  clear hc1
  simp only []
  by_cases hb : b.size ≤ 5000
  · have hb2 : ¬ ((5000 : Int) < (b.size : Int)) := by omega
    obtain ⟨w2, hr, hroom, hc2⟩ := run_room w1 b.size (by omega)
    obtain ⟨w3, hr2, hroom3, hc3⟩ := run_room_copy w2 3 w1.heap.size (b.size + 8) b _ hroom (by simp)
    obtain ⟨g, hg⟩ : ∃ g, w1.heap.size = g := ⟨_, rfl⟩
    rw [hg] at hr hr2 hroom hroom3 hc3
    have hgw : w.heap.size ≤ g := by rw [← hg]; exact HC1.out.size
    have hz : (List.replicate (b.size + 8) (0 : UInt8)).drop b.size = List.replicate 8 0 := by rw [List.drop_replicate, Nat.add_sub_cancel_left]
    rw [hz] at hroom3
    have HC3 := Lib.hid ((HC1.out.then hc2).trans hc3 (by intro x hx; simp at hx; right; omega))
    have HR3 := Lib.hid hroom3
    have hlen8 : (b.data.toList ++ List.replicate 8 (0 : UInt8)).length = b.size + 8 := by rw [List.length_append, str_len, List.length_replicate]
    have hroomB := hroom3.isB b.size (b.size + 8) (by omega) (by omega) (by unfold maxLen; omega)
    rw [List.take_append_of_le_length (by rw [str_len]; exact Nat.le_refl _), List.take_of_length_le (by rw [str_len]; exact Nat.le_refl _)] at hroomB
    have HRB := Lib.hid hroomB
    have HG := Lib.hid (show g < w3.heap.size from heap_lt hroom3)
    clear hroom hroom3 hc2 hc3 hg hz hroomB
    go_wp2_with fail
    refine (Put_calls 5 _ _ _ HRB.out (by rw [str_len]; omega)).mono ?_
    rintro e w4 ⟨sv, rfl, hs, hc4⟩
    have HC4 := Lib.hid (HC3.out.then hc4)
    have HR4 := Lib.hid (HR3.out.chg hc4 (by simp))
    obtain ⟨gs, scap, rfl, hgs, hsc, -⟩ := hs.at (by intro h; have := congrArg List.length h; rw [putSeal_length] at this; simp at this)
    have hgs4 : gs < w4.heap.size := (hs.lt gs rfl).2
    have hsl : (putSeal b.data.toList).length = b.size + 3 := by rw [putSeal_length, str_len]
    rw [hsl] at hs hsc ⊢
    have HS4 := Lib.hid hs
    have HGs := Lib.hid (show g < gs ∧ gs < w4.heap.size from ⟨Nat.lt_of_lt_of_le HG.out hgs, hgs4⟩)
    have hd8 : ¬ ((b.size : Int) + 8 < 0) := by omega
    clear hs hc4 hr hr2 hgs hgs4 HR3 HRB HG
    go_wp2_with fail
    go_loop [6] (fun i => ∃ k : Nat, b.size ≤ k ∧ k ≤ b.size + 8 ∧ i = .int .i64 k) (fun i => b.size + 8 - (intOf i).toNat)
    case atStart => exact ⟨b.size, by omega, by omega, rfl⟩
    case round =>
      obtain ⟨k, hk1, hk2, rfl⟩ := hrel
      by_cases hlt : k < b.size + 8
      · have hi2 : (k : Int) < (b.size : Int) + 8 := by omega
        have hcell := HR4.out.cell k (by rw [hlen8]; exact hlt)
        have hz : (b.data.toList ++ List.replicate 8 (0 : UInt8)).getD k 0 = 0 := by
          rw [List.getD_eq_getElem?_getD, List.getElem?_append_right (by rw [str_len]; exact hk1), List.getElem?_replicate]
          split <;> rfl
        rw [hz, u8_zero] at hcell
        go_wp2
        go_round
        case rel => exact ⟨k + 1, by omega, by omega, by go_num⟩
        case measure => simp [intOf]; omega
      · obtain rfl : k = b.size + 8 := by omega
        have hop := Open_put 5 _ _ _ HS4.out.isB (by rw [str_len]; omega)
        have HOp := Lib.hid hop
        clear hop
        go_wp2_with fail
        refine HOp.out.mono ?_
        rintro e w5 ⟨xv, rfl, hx, hc5⟩
        obtain ⟨xo, xcap, rfl, hxo⟩ := hx.form
        rw [str_len] at hxo ⊢
        have HX5 := Lib.hid hx
        have HC5 := Lib.hid (HC4.out.then hc5)
        have HR5 := Lib.hid (HR4.out.chg hc5 (by simp))
        have HS5 := Lib.hid (HS4.out.then hc5)
        have HXo := Lib.hid hxo
        have HSz5 := Lib.hid hc5.size
        clear hx hc5 hxo HOp
        have hop := Open_put 5 _ _ _ HS5.out.isB (by rw [str_len]; omega)
        have HOp := Lib.hid hop
        clear hop
        go_wp2_with fail
        refine HOp.out.mono ?_
        rintro e w6 ⟨yv, rfl, hy, hc6⟩
        have HY6 := Lib.hid hy
        have HC6 := Lib.hid (HC5.out.then hc6)
        have HSz := Lib.hid (show w4.heap.size ≤ w5.heap.size ∧ w5.heap.size ≤ w6.heap.size ∧ w.heap.size ≤ w4.heap.size from ⟨HSz5.out, hc6.size, HC4.out.size⟩)
        have HR6 := Lib.hid (HR5.out.chg hc6 (by simp))
        have HS6 := Lib.hid (HS5.out.then hc6)
        have HX6 := Lib.hid (HX5.out.then hc6)
        clear hy hc6 HOp
        go_wp2_with fail
        go_loopw [62] (fun i wr => ∃ (k : Nat) (l : List UInt8) (r : List Nat), k ≤ b.size ∧ i = .int .i64 k ∧ l.length = b.size ∧ OwnB wr w4.heap.size (.slice xo b.size xcap) l ∧ (∀ x ∈ r, w4.heap.size ≤ x ∧ x < w5.heap.size) ∧ Chg r w6 wr) (fun i _ => b.size - (intOf i).toNat)
        case atStart => exact ⟨0, b.data.toList, [], by omega, rfl, str_len b, HX6.out, by simp, Chg.refl _ _⟩
        case round =>
          obtain ⟨k, l, r, hk, rfl, hl, ho, hr, hc⟩ := hrel
          by_cases hlt : k < b.size
          · have hi2 : (k : Int) < (b.size : Int) := by omega
            obtain ⟨gx, rfl, hgx1, hgx2⟩ := HXo.out (by omega)
            obtain ⟨hcell, hfr⟩ := ho.cell k (by omega)
            obtain ⟨c, hcc⟩ : ∃ c, l.getD k 0 = c := ⟨_, rfl⟩
            rw [hcc] at hcell
            have hst := ho.stored k (c ^^^ 255)
            have hch := (hc.mono (r' := gx :: r) (fun x hx => List.mem_cons_of_mem _ hx)).setCell (p := ⟨gx, k, none⟩) (.inl (by simp)) (u8 (c ^^^ 255))
            have HSt := Lib.hid hst
            have HCh := Lib.hid hch
            have HRr := Lib.hid (show ∀ x ∈ gx :: r, w4.heap.size ≤ x ∧ x < w5.heap.size from by
              intro x hx
              rcases List.mem_cons.1 hx with rfl | hx
              · exact ⟨hgx1, hgx2⟩
              · exact hr x hx)
            clear hst hch ho hc hr hcc
            go_wp2
            rw [xor255 c]
            go_roundw
            case rel => exact ⟨k + 1, l.set k (c ^^^ 255), _, by omega, by go_num, by rw [List.length_set]; exact hl, HSt.out, HRr.out, HCh.out⟩
            case measure => simp [intOf]; omega
          · obtain rfl : k = b.size := by omega
            have HC7 := Lib.hid hc
            have HRr := Lib.hid hr
            clear ho hc hr
            go_wp2_with fail
            have HS7 := Lib.hid (show OwnB wr w3.heap.size (.slice (some ⟨gs, 0, none⟩) (b.size + 3) scap) (putSeal b.data.toList) from HS6.out.chg HC7.out (fun k hk hm => by
              simp [Value.ownBlock] at hk
              have := HRr.out k hm
              have := HGs.out
              omega))
            go_loopw [74] (fun i wq => ∃ (k : Nat) (l : List UInt8) (r : List Nat), k ≤ b.size + 3 ∧ i = .int .i64 k ∧ l.length = b.size + 3 ∧ OwnB wq w3.heap.size (.slice (some ⟨gs, 0, none⟩) (b.size + 3) scap) l ∧ (∀ x ∈ r, x = gs ∨ (w4.heap.size ≤ x ∧ x < w5.heap.size)) ∧ Chg r w6 wq) (fun i _ => b.size + 3 - (intOf i).toNat)
            case atStart => exact ⟨0, _, r, by omega, rfl, by rw [putSeal_length, str_len], HS7.out, fun x hx => .inr (HRr.out x hx), HC7.out⟩
            case round =>
              obtain ⟨k, l, r2, hk, rfl, hl, ho, hr, hc⟩ := hrel
              clear HS7 HC7 HRr
              by_cases hlt : k < b.size + 3
              · have hi2 : (k : Int) < (b.size : Int) + 3 := by omega
                obtain ⟨hcell, hfr⟩ := ho.cell k (by omega)
                have hst := ho.stored k 0
                have hch := (hc.mono (r' := gs :: r2) (fun x hx => List.mem_cons_of_mem _ hx)).setCell (p := ⟨gs, k, none⟩) (.inl (by simp)) (u8 0)
                have HSt := Lib.hid hst
                have HCh := Lib.hid hch
                have HRq := Lib.hid (show ∀ x ∈ gs :: r2, x = gs ∨ (w4.heap.size ≤ x ∧ x < w5.heap.size) from by
                  intro x hx
                  rcases List.mem_cons.1 hx with rfl | hx
                  · exact .inl rfl
                  · exact hr x hx)
                clear hst hch ho hc hr
                go_wp2
                go_roundw
                case rel => exact ⟨k + 1, l.set k 0, _, by omega, by go_num, by rw [List.length_set]; exact hl, HSt.out, HRq.out, HCh.out⟩
                case measure => simp [intOf]; omega
              · obtain rfl : k = b.size + 3 := by omega
                have hroom := HR6.out.chg hc (fun hm => by have := hr _ hm; have := HGs.out; omega)
                have hrb := hroom.isB b.size (b.size + 8) (by omega) (by omega) (by unfold maxLen; omega)
                rw [List.take_append_of_le_length (by rw [str_len]; exact Nat.le_refl _), List.take_of_length_le (by rw [str_len]; exact Nat.le_refl _)] at hrb
                have hyb := HY6.out.chg hc (fun q hq hm => by
                  have h1 := (HY6.out.lt q hq).1
                  have h2 := hr _ hm
                  have h3 := HGs.out
                  have h4 := HSz.out
                  omega)
                have hq1 := run_toString _ 5 _ _ hrb
                have hq2 := run_toString _ 5 _ _ hyb.isB
                rw [strOf_of] at hq1 hq2
                have HCz := Lib.hid (HC6.out.trans hc (by
                  intro x hx
                  right
                  have h2 := hr _ hx
                  have h3 := HGs.out
                  have h4 := HSz.out
                  omega))
                clear hroom hrb hyb ho hc hr
                go_wp2
                go_ret
                exact ⟨rfl, HCz.out⟩
  · have h2 : (5000 : Int) < (b.size : Int) := by omega
    go_wp2_with fail
    refine (awake2_calls _).mono ?_
    rintro e w5 ⟨rfl, hc5⟩
    have HC5 := Lib.hid (HC1.out.then hc5)
    clear hc5
    go_wp2
    go_ret
    exact ⟨rfl, HC5.out⟩
end Go.Proofs.Ytgmgmjljjbcgjaa

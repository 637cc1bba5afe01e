/- The document's store (interregnumref08): what each of its functions does. -/
import Derived.Test.YtgmgmjljjbcgjaaOps
import Derived.BigRegion
namespace Go.Proofs.Ytgmgmjljjbcgjaa
open Go Go.RowKit

abbrev rowB (B : Nat) : Value := .slice (some ⟨B, 0, none⟩) 65536 65536
/-- Block R is the document's store in the state st, its bytes in block B. -/
def RefAt (w : World) (R B : Nat) (st : St) : Prop :=
  st.bytes.length = 65536 ∧ R ≠ B ∧ w.heap[R]? = some (.cells #[rowB B, .bool st.armed, .int .i64 st.left, .int .i64 st.part, .bool st.down, .int .i64 st.writes] 51 (0, 0)) ∧ OwnB w B (rowB B) st.bytes

theorem RefAt.chg {w w' : World} {R B : Nat} {st : St} {r : List Nat} (h : RefAt w R B st) (hc : Chg r w w') (h1 : R ∉ r) (h2 : B ∉ r) : RefAt w' R B st :=
  ⟨h.1, h.2.1, hc.heap h.2.2.1 h1, h.2.2.2.chg hc (fun k hk => by simp [Value.ownBlock] at hk; subst hk; exact h2)⟩
theorem RefAt.facts {w : World} {R B : Nat} {st : St} (h : RefAt w R B st) :
    w.cell? ⟨R, 0, none⟩ = some (rowB B) ∧ w.cell? ⟨R, 1, none⟩ = some (.bool st.armed) ∧ w.cell? ⟨R, 2, none⟩ = some (.int .i64 st.left) ∧ w.cell? ⟨R, 3, none⟩ = some (.int .i64 st.part) ∧
    w.cell? ⟨R, 4, none⟩ = some (.bool st.down) ∧ w.cell? ⟨R, 5, none⟩ = some (.int .i64 st.writes) ∧ ∀ i, w.frozen? ⟨R, i, none⟩ = false :=
  ⟨cell_of_heap h.2.2.1 rfl, cell_of_heap h.2.2.1 rfl, cell_of_heap h.2.2.1 rfl, cell_of_heap h.2.2.1 rfl, cell_of_heap h.2.2.1 rfl, cell_of_heap h.2.2.1 rfl, fun _ => frozen_of_heap h.2.2.1⟩

theorem RefAt.drew {w : World} {R B : Nat} {st : St} (h : RefAt w R B st) : RefAt w.drew R B st := h
theorem size_list (s : ByteArray) : s.data.toList.length = s.size := by rw [Array.length_toList]; rfl
theorem byte_at (s : ByteArray) (k : Nat) (hk : k < s.size) : u8 (s.data.toList.getD k 0) = .int .u8 (s[k].toNat : Int) := by
  have : s.data.toList.getD k 0 = s[k] := by
    rw [List.getD_eq_getElem?_getD, List.getElem?_eq_getElem (by rw [size_list]; exact hk)]; rfl
  rw [this]
theorem RefAt.own {w : World} {R B : Nat} {st : St} (h : RefAt w R B st) (i : Nat) (v : Value) : OwnB (w.setCell ⟨R, i, none⟩ v) B (rowB B) st.bytes :=
  h.2.2.2.chg ((Chg.refl [R] w).setCell (p := ⟨R, i, none⟩) (.inl (by simp)) v) (fun k hk hm => by simp [Value.ownBlock] at hk hm; exact h.2.1 (hm.symm.trans hk.symm))
theorem RefAt.set_armed {w : World} {R B : Nat} {st : St} (h : RefAt w R B st) (b : Bool) : RefAt (w.setCell ⟨R, 1, none⟩ (.bool b)) R B { st with armed := b } :=
  ⟨h.1, h.2.1, by rw [setCell_heap h.2.2.1]; rfl, h.own 1 _⟩
theorem RefAt.set_left {w : World} {R B : Nat} {st : St} (h : RefAt w R B st) (n : Int) : RefAt (w.setCell ⟨R, 2, none⟩ (.int .i64 n)) R B { st with left := n } :=
  ⟨h.1, h.2.1, by rw [setCell_heap h.2.2.1]; rfl, h.own 2 _⟩
theorem RefAt.set_part {w : World} {R B : Nat} {st : St} (h : RefAt w R B st) (n : Int) : RefAt (w.setCell ⟨R, 3, none⟩ (.int .i64 n)) R B { st with part := n } :=
  ⟨h.1, h.2.1, by rw [setCell_heap h.2.2.1]; rfl, h.own 3 _⟩
theorem RefAt.set_down {w : World} {R B : Nat} {st : St} (h : RefAt w R B st) (b : Bool) : RefAt (w.setCell ⟨R, 4, none⟩ (.bool b)) R B { st with down := b } :=
  ⟨h.1, h.2.1, by rw [setCell_heap h.2.2.1]; rfl, h.own 4 _⟩
theorem RefAt.set_writes {w : World} {R B : Nat} {st : St} (h : RefAt w R B st) (n : Int) : RefAt (w.setCell ⟨R, 5, none⟩ (.int .i64 n)) R B { st with writes := n } :=
  ⟨h.1, h.2.1, by rw [setCell_heap h.2.2.1]; rfl, h.own 5 _⟩
theorem RefAt.set_byte {w : World} {R B : Nat} {st : St} (h : RefAt w R B st) (i : Nat) (c : UInt8) : RefAt (w.setCell ⟨B, i, none⟩ (u8 c)) R B { st with bytes := st.bytes.set i c } :=
  ⟨by simpa using h.1, h.2.1, by rw [Below.heap_setCell _ _ _ _ (fun e => h.2.1 e)]; exact h.2.2.1, h.2.2.2.stored i c⟩

/-- What the document's write does. -/
def St.rwrite (st : St) (i : Int) (b : List UInt8) : St × Int :=
  if st.down then (st, 13)
  else if i < 0 ∨ 1024 ≤ i then (st, 1)
  else if b.length ≠ 64 then (st, 1)
  else if st.armed = true ∧ st.left = 0 then
    ({ st with writes := wrap64 (st.writes + 1), left := wrap64 (st.left - 1), armed := false, down := true, bytes := patch st.bytes (i.toNat * 64) (b.take (max 0 (min st.part 64)).toNat) }, 13)
  else ({ st with writes := wrap64 (st.writes + 1), left := wrap64 (st.left - 1), bytes := patch st.bytes (i.toNat * 64) b }, 0)

set_option maxHeartbeats 400000 in
theorem rNew_calls (w : World) : Calls Try.prog 35 #[] w fun e w' => ∃ R B, w.heap.size ≤ R ∧ w.heap.size ≤ B ∧ e = .returned (.pointer (some ⟨R, 0, none⟩)) ∧ RefAt w' R B St.new ∧ Chg [] w w' := by
  go_enter Try.func35, Try.ntmps35
  go_wp2_with (at_make; refine wpList_bmake _ rfl _ _ rfl w.heap.size 65536 65536 65536 rfl rfl (by decide) (by decide) (by omega) (Nat.le_refl _) ?_; intro w1 hown hch)
  go_ret
  have hown2 := hown.then ((Chg.refl [] w1).alloc (.cells #[rowB w.heap.size, .bool false, .int .i64 0, .int .i64 0, .bool false, .int .i64 0] 51))
  have hsz : w.heap.size < w1.heap.size := (hown.lt _ rfl).2
  exact ⟨_, _, hch.size, Nat.le_refl _, rfl, ⟨List.length_replicate, by omega, heap_alloc_new _ _, hown2⟩, hch.alloc _⟩

set_option maxHeartbeats 400000 in
theorem rArm_calls (R B : Nat) (n p : Int) (st : St) (w : World) (hs : RefAt w R B st) :
    Calls Try.prog 38 #[.pointer (some ⟨R, 0, none⟩), .int .i64 n, .int .i64 p] w fun e w' => e = .returned (.tuple #[]) ∧ RefAt w' R B { st with armed := decide (0 ≤ n), left := n, part := p } ∧ Chg [R, B] w w' := by
  obtain ⟨c0, c1, c2, c3, c4, c5, cf⟩ := hs.facts
  have f1 := cf 1
  have f2 := cf 2
  have f3 := cf 3
  have hs' := ((hs.set_armed (decide (0 ≤ n))).set_left n).set_part p
  have hc := (((Chg.refl [R, B] w).setCell (p := ⟨R, 1, none⟩) (.inl (by simp)) (.bool (decide (0 ≤ n)))).setCell (p := ⟨R, 2, none⟩) (.inl (by simp)) (.int .i64 n)).setCell (p := ⟨R, 3, none⟩) (.inl (by simp)) (.int .i64 p)
  have H1 := Lib.hid hs'
  have H2 := Lib.hid hc
  clear hs hs' hc cf
  go_enter Try.func38, Try.ntmps38
  go_wp2
  go_end0
  exact ⟨rfl, H1.out, H2.out⟩

set_option maxHeartbeats 400000 in
theorem rPower_calls (R B : Nat) (st : St) (w : World) (hs : RefAt w R B st) :
    Calls Try.prog 39 #[.pointer (some ⟨R, 0, none⟩)] w fun e w' => e = .returned (.tuple #[]) ∧ RefAt w' R B { st with down := false, armed := false } ∧ Chg [R, B] w w' := by
  obtain ⟨c0, c1, c2, c3, c4, c5, cf⟩ := hs.facts
  have f1 := cf 1
  have f4 := cf 4
  have hs' := (hs.set_down false).set_armed false
  have hc := ((Chg.refl [R, B] w).setCell (p := ⟨R, 4, none⟩) (.inl (by simp)) (.bool false)).setCell (p := ⟨R, 1, none⟩) (.inl (by simp)) (.bool false)
  have H1 := Lib.hid hs'
  have H2 := Lib.hid hc
  clear hs hs' hc cf
  go_enter Try.func39, Try.ntmps39
  go_wp2
  go_end0
  exact ⟨rfl, H1.out, H2.out⟩

/-- What the document's read answers. -/
def St.rread (st : St) (i : Int) : ByteArray × Int :=
  if st.down then (strOf [], 13) else if i < 0 ∨ 1024 ≤ i then (strOf [], 1) else (strOf (st.block i.toNat), 0)

set_option maxHeartbeats 400000 in
theorem rRead_calls (R B : Nat) (i : Int) (st : St) (w : World) (hs : RefAt w R B st) :
    Calls Try.prog 37 #[.pointer (some ⟨R, 0, none⟩), .int .i64 i] w fun e w' => e = .returned (.tuple #[.string (st.rread i).1, .int .i64 (st.rread i).2]) ∧ w = w' := by
  obtain ⟨c0, c1, c2, c3, c4, c5, cf⟩ := hs.facts
  have hz : (⟨#[]⟩ : ByteArray) = strOf [] := rfl
  have HZ := Lib.hid hz
  clear cf hz
  cases hd : st.down with
  | true =>
    have hr : st.rread i = (strOf [], 13) := by unfold St.rread; rw [if_pos hd]
    rw [hr]
    clear hr
    rw [hd] at c4
    go_enter Try.func37, Try.ntmps37
    go_wp2
    go_ret2
    exact ⟨rfl, rfl⟩
  | false =>
    rw [hd] at c4
    by_cases h0 : i < 0
    · have hr : st.rread i = (strOf [], 1) := by unfold St.rread; rw [if_neg (by simp [hd]), if_pos (.inl h0)]
      rw [hr]
      clear hr
      go_enter Try.func37, Try.ntmps37
      go_wp2
      go_ret2
      exact ⟨rfl, rfl⟩
    · by_cases h1 : 1023 < i
      · have hr : st.rread i = (strOf [], 1) := by unfold St.rread; rw [if_neg (by simp [hd]), if_pos (.inr (by omega))]
        rw [hr]
        clear hr
        go_enter Try.func37, Try.ntmps37
        go_wp2
        go_ret2
        exact ⟨rfl, rfl⟩
      · obtain ⟨k, rfl⟩ := Int.eq_ofNat_of_zero_le (Int.not_lt.1 h0)
        have hr : st.rread k = (strOf (st.block k), 0) := by unfold St.rread; rw [if_neg (by simp [hd]), if_neg (by omega)]; rfl
        rw [hr]
        clear hr
        have hb : IsB w 5 (.slice (some ⟨B, 64 * k, none⟩) 64 (65536 - 64 * k)) (st.block k) := by
          have h1 := hs.2.2.2.isB.dropH (64 * k) (by rw [hs.1]; omega)
          rw [if_neg (by omega)] at h1
          have h2 := h1.take 64 (by rw [List.length_drop, hs.1]; omega)
          unfold St.block
          rw [Nat.mul_comm k 64]
          exact h2
        have hq := run_toString w 5 _ _ hb
        clear hb
        have HS := Lib.hid hs
        clear hs
        go_enter Try.func37, Try.ntmps37
        go_wp2
        go_ret2
        exact ⟨rfl, rfl⟩

theorem patch_zero (l : List UInt8) (off : Nat) : patch l off [] = l := by simp [patch]
theorem patch_step (l : List UInt8) (off : Nat) (cs : List UInt8) (k : Nat) (hk : k < cs.length) (hl : off + cs.length ≤ l.length) :
    (patch l off (cs.take k)).set (off + k) (cs.getD k 0) = patch l off (cs.take (k + 1)) := by
  have hck : cs.getD k 0 = cs[k] := by rw [List.getD_eq_getElem?_getD, List.getElem?_eq_getElem hk]; rfl
  unfold patch
  rw [List.length_take, List.length_take, Nat.min_eq_left (by omega), Nat.min_eq_left (by omega)]
  have hd : l.drop (off + k) = l[off + k]'(by omega) :: l.drop (off + (k + 1)) := by
    rw [List.drop_eq_getElem_cons (by omega)]; rfl
  rw [hd, List.set_append_right _ _ (by simp; omega), List.set_append_right _ _ (by simp; omega)]
  have e : off + k - (List.take off l).length - (List.take k cs).length = 0 := by simp; omega
  have e2 : cs.take (k + 1) = cs.take k ++ [cs[k]] := by rw [List.take_add_one, List.getElem?_eq_getElem hk]; rfl
  rw [e, List.set_cons_zero, e2, hck, List.append_assoc (List.take k cs) [cs[k]]]
  rfl

set_option maxRecDepth 100000 in
set_option maxHeartbeats 400000 in
theorem rWrite_no (R B : Nat) (i : Int) (st : St) (s : ByteArray) (w : World) (hs : RefAt w R B st) (hno : st.down = true ∨ (i < 0 ∨ 1024 ≤ i) ∨ s.size ≠ 64) :
    Calls Try.prog 36 #[.pointer (some ⟨R, 0, none⟩), .int .i64 i, .string s] w fun e w' => e = .returned (.int .i64 (if st.down then 13 else 1)) ∧ w = w' := by
  obtain ⟨c0, c1, c2, c3, c4, c5, cf⟩ := hs.facts
  clear hs cf
  obtain ⟨d, hd⟩ : ∃ d, d = st.down := ⟨_, rfl⟩
  rw [← hd] at c4 hno ⊢
  clear hd
  cases d with
  | true =>
    rw [if_pos rfl]
    clear hno
    go_enter Try.func36, Try.ntmps36
    go_wp2
    go_ret
    exact ⟨rfl, rfl⟩
  | false =>
    rw [if_neg (by simp)]
    by_cases h0 : i < 0
    · clear hno
      go_enter Try.func36, Try.ntmps36
      go_wp2
      go_ret
      exact ⟨rfl, rfl⟩
    · by_cases h1 : 1023 < i
      · clear hno
        go_enter Try.func36, Try.ntmps36
        go_wp2
        go_ret
        exact ⟨rfl, rfl⟩
      · have h2 : ((s.size : Int) != 64) = true := by
          rcases hno with h | h | h
          · simp at h
          · omega
          · simp; omega
        clear hno
        go_enter Try.func36, Try.ntmps36
        go_wp2
        go_ret
        exact ⟨rfl, rfl⟩

/-- What the loop of the document's write leaves, told once. -/
def RW (w : World) (R B i : Nat) (st : St) (s : ByteArray) (k : Nat) (wr : World) : Prop := RefAt wr R B { st with bytes := patch st.bytes (64 * i) (s.data.toList.take k) } ∧ Chg [R, B] w wr
theorem RW.zero {w w' : World} {R B i : Nat} {st : St} {s : ByteArray} (h : RefAt w' R B st) (hc : Chg [R, B] w w') : RW w R B i st s 0 w' := ⟨by simpa [patch_zero] using h, hc⟩
theorem RW.step {w wr : World} {R B i : Nat} {st : St} {s : ByteArray} {k : Nat} (h : RW w R B i st s k wr) (hb : st.bytes.length = 65536) (hi : i < 1024) (hs : s.size = 64) (hk : k < 64) :
    RW w R B i st s (k + 1) ((wr.setCell ⟨B, 64 * i + k, none⟩ (.int .u8 (s[k].toNat : Int))).drew) := by
  rw [← byte_at s k (by omega)]
  have hl : s.data.toList.length = 64 := by rw [size_list, hs]
  refine ⟨?_, (h.2.setCell (.inl (by simp)) _).drew⟩
  have h1 := (h.1.set_byte (64 * i + k) (s.data.toList.getD k 0)).drew
  have e := patch_step st.bytes (64 * i) s.data.toList k (by omega) (by rw [hb]; omega)
  simp only [] at h1
  rw [e] at h1
  exact h1

set_option maxRecDepth 100000 in
set_option maxHeartbeats 400000 in
theorem rWrite_yes (R B : Nat) (i : Nat) (st : St) (s : ByteArray) (w : World) (hs : RefAt w R B st) (hd : st.down = false) (hi : i < 1024) (hlen : s.size = 64) (hna : st.armed = false ∨ st.left ≠ 0) :
    Calls Try.prog 36 #[.pointer (some ⟨R, 0, none⟩), .int .i64 i, .string s] w fun e w' => e = .returned (.int .i64 0) ∧ RW w R B i { st with writes := wrap64 (st.writes + 1), left := wrap64 (st.left - 1) } s 64 w' := by
  obtain ⟨c0, c1, c2, c3, c4, c5, cf⟩ := hs.facts
  have f2 := cf 2
  have f5 := cf 5
  have hs2 := ((hs.set_left (wrap64 (st.left - 1))).set_writes (wrap64 (st.writes + 1)))
  have hch := ((Chg.refl [R, B] w).setCell (p := ⟨R, 2, none⟩) (.inl (by simp)) (.int .i64 (wrap64 (st.left - 1)))).setCell (p := ⟨R, 5, none⟩) (.inl (by simp)) (.int .i64 (wrap64 (st.writes + 1)))
  have HS := Lib.hid (RW.zero (w := w) (i := i) (s := s) hs2 hch)
  have HB := Lib.hid hs.1
  clear hs hs2 hch cf
  rw [hd] at c4
  have hl2 : ((s.size : Int) != 64) = false := by rw [hlen]; rfl
  have ha2 : st.armed = true → (st.left == 0) = false := by
    intro h
    rcases hna with h1 | h1
    · rw [h] at h1; cases h1
    · simp [h1]
  clear hna
  rcases Bool.eq_false_or_eq_true st.armed with hb | hb
  all_goals
    first | (have ha3 := ha2 hb) | skip
    clear ha2
    rw [hb] at c1
    have HA := Lib.hid hb
    clear hb
    go_enter Try.func36, Try.ntmps36
    go_wp2
    go_loopw [9] (fun j wr => ∃ k : Nat, k ≤ 64 ∧ j = .int .i64 k ∧ RW w R B i { st with writes := wrap64 (st.writes + 1), left := wrap64 (st.left - 1) } s k wr) (fun j _ => 64 - (intOf j).toNat)
    case atStart => exact ⟨0, by omega, rfl, HS.out⟩
    case round =>
      obtain ⟨k, hk, rfl, ho⟩ := hrel
      by_cases hlt : k < 64
      · have hi2 : (k : Int) < 64 := by omega
        have hr0 := ho.1.facts.1
        obtain ⟨hcell, hfr⟩ := ho.1.2.2.2.cell (64 * i + k) (by rw [ho.1.1]; omega)
        have HO := Lib.hid (ho.step HB.out hi hlen hlt)
        clear ho
        go_wp2
        go_region
        go_wp2
        go_roundw
        case rel => exact ⟨k + 1, by omega, by go_num, HO.out⟩
        case measure => simp [intOf]; omega
      · obtain rfl : k = 64 := by omega
        have HO := Lib.hid ho
        clear ho
        go_wp2
        go_ret
        exact ⟨rfl, HO.out⟩

set_option maxRecDepth 100000 in
set_option maxHeartbeats 400000 in
theorem rWrite_cut (R B : Nat) (i : Nat) (st : St) (s : ByteArray) (w : World) (hs : RefAt w R B st) (hd : st.down = false) (hi : i < 1024) (hlen : s.size = 64) (ha : st.armed = true) (hl : st.left = 0) (n : Nat) (hn : max 0 (min st.part 64) = (n : Int)) (hn64 : n ≤ 64) :
    Calls Try.prog 36 #[.pointer (some ⟨R, 0, none⟩), .int .i64 i, .string s] w fun e w' => e = .returned (.int .i64 13) ∧ RW w R B i { st with writes := wrap64 (st.writes + 1), left := wrap64 (st.left - 1), armed := false, down := true } s n w' := by
  obtain ⟨c0, c1, c2, c3, c4, c5, cf⟩ := hs.facts
  have f1 := cf 1
  have f2 := cf 2
  have f4 := cf 4
  have f5 := cf 5
  have hs2 := ((((hs.set_down true).set_armed false).set_left (wrap64 (st.left - 1))).set_writes (wrap64 (st.writes + 1)))
  have hch := ((((Chg.refl [R, B] w).setCell (p := ⟨R, 4, none⟩) (.inl (by simp)) (.bool true)).setCell (p := ⟨R, 1, none⟩) (.inl (by simp)) (.bool false)).setCell (p := ⟨R, 2, none⟩) (.inl (by simp)) (.int .i64 (wrap64 (st.left - 1)))).setCell (p := ⟨R, 5, none⟩) (.inl (by simp)) (.int .i64 (wrap64 (st.writes + 1)))
  have HS := Lib.hid (RW.zero (w := w) (i := i) (s := s) hs2 hch)
  have HB := Lib.hid hs.1
  clear hs hs2 hch cf
  rw [hd] at c4
  rw [ha] at c1
  have hl0 : (st.left == 0) = true := by simp [hl]
  have hl2 : ((s.size : Int) != 64) = false := by rw [hlen]; rfl
  have hmm : (if 0 < (if 64 < st.part then (64 : Int) else st.part) then (if 64 < st.part then (64 : Int) else st.part) else 0) = (n : Int) := by
    rw [← hn]
    by_cases h1 : 64 < st.part
    · rw [if_pos h1, if_pos (by omega)]; omega
    · rw [if_neg h1]
      by_cases h2 : 0 < st.part
      · rw [if_pos h2]; omega
      · rw [if_neg h2]; omega
  clear hl hn
  obtain ⟨m, hm⟩ : ∃ m, (if 64 < st.part then (64 : Int) else st.part) = m := ⟨_, rfl⟩
  rw [hm] at hmm
  go_enter Try.func36, Try.ntmps36
  go_wp2
  go_loopw [9] (fun j wr => ∃ k : Nat, k ≤ n ∧ j = .int .i64 k ∧ RW w R B i { st with writes := wrap64 (st.writes + 1), left := wrap64 (st.left - 1), armed := false, down := true } s k wr) (fun j _ => n - (intOf j).toNat)
  case atStart => exact ⟨0, by omega, rfl, HS.out⟩
  case round =>
      obtain ⟨k, hk, rfl, ho⟩ := hrel
      by_cases hlt : k < n
      · have hi2 : (k : Int) < (n : Int) := by omega
        have hi3 : (k : Int) < 64 := by omega
        have hi4 : k < s.size := by omega
        have hr0 := ho.1.facts.1
        obtain ⟨hcell, hfr⟩ := ho.1.2.2.2.cell (64 * i + k) (by rw [ho.1.1]; omega)
        have HO := Lib.hid (ho.step HB.out hi hlen (by omega))
        clear ho
        go_wp2
        go_region
        go_wp2
        go_roundw
        case rel => exact ⟨k + 1, by omega, by go_num, HO.out⟩
        case measure => simp [intOf]; omega
      · obtain rfl : k = n := by omega
        have HO := Lib.hid ho
        clear ho
        go_wp2
        go_ret
        exact ⟨rfl, HO.out⟩

/-- The document's Write. -/
theorem rWrite_calls (R B : Nat) (i : Int) (st : St) (s : ByteArray) (w : World) (hs : RefAt w R B st) :
    Calls Try.prog 36 #[.pointer (some ⟨R, 0, none⟩), .int .i64 i, .string s] w fun e w' => e = .returned (.int .i64 (st.rwrite i s.data.toList).2) ∧ RefAt w' R B (st.rwrite i s.data.toList).1 ∧ Chg [R, B] w w' := by
  have hl := size_list s
  by_cases hno : st.down = true ∨ (i < 0 ∨ 1024 ≤ i) ∨ s.size ≠ 64
  · refine (rWrite_no R B i st s w hs hno).mono ?_
    rintro e w' ⟨he, rfl⟩
    have e1 : st.rwrite i s.data.toList = (st, if st.down then 13 else 1) := by
      unfold St.rwrite
      by_cases h1 : st.down = true
      · rw [if_pos h1, if_pos h1]
      · rw [if_neg h1, if_neg h1]
        by_cases h2 : i < 0 ∨ 1024 ≤ i
        · rw [if_pos h2]
        · rw [if_neg h2, if_pos (by rw [hl]; rcases hno with h | h | h; exact absurd h h1; exact absurd h h2; exact h)]
    rw [e1]
    exact ⟨he, hs, Chg.refl _ _⟩
  · have h1 : ¬ st.down = true := fun h => hno (.inl h)
    have h2 : ¬ (i < 0 ∨ 1024 ≤ i) := fun h => hno (.inr (.inl h))
    have h3 : ¬ s.size ≠ 64 := fun h => hno (.inr (.inr h))
    obtain ⟨n, rfl⟩ : ∃ n : Nat, i = (n : Int) := ⟨i.toNat, by omega⟩
    unfold St.rwrite
    rw [if_neg h1, if_neg h2, if_neg (by rw [hl]; exact h3)]
    by_cases h4 : st.armed = true ∧ st.left = 0
    · rw [if_pos h4]
      refine (rWrite_cut R B n st s w hs (by simpa using h1) (by omega) (by omega) h4.1 h4.2 (max 0 (min st.part 64)).toNat (by omega) (by omega)).mono ?_
      rintro e w' ⟨he, hr, hc⟩
      refine ⟨he, ?_, hc⟩
      rw [Int.toNat_natCast, Nat.mul_comm n 64]
      exact hr
    · rw [if_neg h4]
      refine (rWrite_yes R B n st s w hs (by simpa using h1) (by omega) (by omega) (by
        by_cases ha : st.armed = true
        · right; exact fun h => h4 ⟨ha, h⟩
        · left; simpa using ha)).mono ?_
      rintro e w' ⟨he, hr, hc⟩
      refine ⟨he, ?_, hc⟩
      rw [List.take_of_length_le (by omega)] at hr
      rw [Int.toNat_natCast, Nat.mul_comm n 64]
      exact hr
end Go.Proofs.Ytgmgmjljjbcgjaa

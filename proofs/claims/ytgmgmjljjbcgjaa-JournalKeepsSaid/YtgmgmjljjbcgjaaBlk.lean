/- The block store: what each of its functions does. -/
import Derived.Test.YtgmgmjljjbcgjaaSl
namespace Go.Proofs.Ytgmgmjljjbcgjaa
open Go Go.RowKit

/-- A store's state. -/
structure St where
  bytes : List UInt8
  armed : Bool
  left : Int
  part : Int
  down : Bool
  writes : Int

def St.cells (st : St) : List Value := st.bytes.map u8 ++ [.bool st.armed, .int .i64 st.left, .int .i64 st.part, .bool st.down, .int .i64 st.writes]
/-- Block S is a store in the state st. -/
def StoreAt (w : World) (S : Nat) (st : St) : Prop := st.bytes.length = 65536 ∧ w.heap[S]? = some (.cells st.cells.toArray 44 (0, 0))

def St.new : St := { bytes := List.replicate 65536 0, armed := false, left := 0, part := 0, down := false, writes := 0 }

theorem StoreAt.chg {w w' : World} {S : Nat} {st : St} {r : List Nat} (h : StoreAt w S st) (hc : Chg r w w') (hn : S ∉ r) : StoreAt w' S st := ⟨h.1, hc.heap h.2 hn⟩

theorem St.cells_get {st : St} (hb : st.bytes.length = 65536) :
    st.cells.toArray[65536]? = some (.bool st.armed) ∧ st.cells.toArray[65537]? = some (.int .i64 st.left) ∧ st.cells.toArray[65538]? = some (.int .i64 st.part) ∧
    st.cells.toArray[65539]? = some (.bool st.down) ∧ st.cells.toArray[65540]? = some (.int .i64 st.writes) := by
  have h : ∀ k, st.cells.toArray[65536 + k]? = ([.bool st.armed, .int .i64 st.left, .int .i64 st.part, .bool st.down, .int .i64 st.writes] : List Value)[k]? := by
    intro k
    simp only [St.cells, List.getElem?_toArray]
    rw [List.getElem?_append_right (by simp [hb])]
    simp [hb]
  exact ⟨h 0, h 1, h 2, h 3, h 4⟩

theorem StoreAt.facts {w : World} {S : Nat} {st : St} (h : StoreAt w S st) :
    w.cell? ⟨S, 65536, none⟩ = some (.bool st.armed) ∧ w.cell? ⟨S, 65537, none⟩ = some (.int .i64 st.left) ∧ w.cell? ⟨S, 65538, none⟩ = some (.int .i64 st.part) ∧
    w.cell? ⟨S, 65539, none⟩ = some (.bool st.down) ∧ w.cell? ⟨S, 65540, none⟩ = some (.int .i64 st.writes) ∧ ∀ i, w.frozen? ⟨S, i, none⟩ = false := by
  obtain ⟨h1, h2, h3, h4, h5⟩ := St.cells_get h.1
  exact ⟨cell_of_heap h.2 h1, cell_of_heap h.2 h2, cell_of_heap h.2 h3, cell_of_heap h.2 h4, cell_of_heap h.2 h5, fun i => frozen_of_heap h.2⟩

theorem StoreAt.other {w : World} {S : Nat} {st : St} (h : StoreAt w S st) {a : Addr} (ha : a.block ≠ S) (v : Value) : StoreAt (w.setCell a v) S st := ⟨h.1, by rw [Below.heap_setCell _ _ _ _ (fun e => ha e.symm)]; exact h.2⟩
theorem StoreAt.drew {w : World} {S : Nat} {st : St} (h : StoreAt w S st) : StoreAt w.drew S st := h

theorem newCells : Try.zeroCells44 = St.new.cells.toArray := by
  apply Array.toList_inj.1
  rw [zeroStore]
  simp only [St.cells, St.new, List.map_replicate]
  rfl

set_option maxHeartbeats 400000 in
theorem New_calls (w : World) : Calls Try.prog 26 #[] w fun e w' => e = .returned (.pointer (some ⟨w.heap.size, 0, none⟩)) ∧ StoreAt w' w.heap.size St.new ∧ Chg [] w w' := by
  have hst : StoreAt (w.alloc (.cells Try.zeroCells44 44)) w.heap.size St.new := ⟨List.length_replicate, by rw [newCells]; exact heap_alloc_new _ _⟩
  have hc : Chg [] w (w.alloc (.cells Try.zeroCells44 44)) := (Chg.refl [] w).alloc _
  have H1 := Lib.hid hst
  have H2 := Lib.hid hc
  clear hst hc
  go_enter Try.func26, Try.ntmps26
  go_wp2
  go_ret
  exact ⟨rfl, H1.out, H2.out⟩

set_option maxHeartbeats 400000 in
theorem can_calls (S : Nat) (i : Int) (st : St) (w : World) (hs : StoreAt w S st) :
    Calls Try.prog 67 #[.pointer (some ⟨S, 0, none⟩), .int .i64 i] w fun e w' => e = .returned (.int .i64 (if st.down then 13 else if i < 0 ∨ 1024 ≤ i then 1 else 0)) ∧ w = w' := by
  obtain ⟨_, _, _, hd, _, _⟩ := hs.facts
  clear hs
  obtain ⟨d, hd'⟩ : ∃ d, d = st.down := ⟨_, rfl⟩
  rw [← hd'] at hd ⊢
  clear hd'
  cases d with
  | true =>
    go_enter Try.func67, Try.ntmps67
    go_wp2
    go_ret
    exact ⟨rfl, rfl⟩
  | false =>
    by_cases h : i < 0 ∨ 1024 ≤ i
    · have hp : (if (false : Bool) = true then (13 : Int) else if i < 0 ∨ 1024 ≤ i then 1 else 0) = 1 := by rw [if_neg (by simp), if_pos h]
      rw [hp]
      clear hp
      by_cases h0 : i < 0
      · go_enter Try.func67, Try.ntmps67
        go_wp2
        go_ret
        exact ⟨rfl, rfl⟩
      · have h1 : 1024 ≤ i := by omega
        go_enter Try.func67, Try.ntmps67
        go_wp2
        go_ret
        exact ⟨rfl, rfl⟩
    · have hp : (if (false : Bool) = true then (13 : Int) else if i < 0 ∨ 1024 ≤ i then 1 else 0) = 0 := by rw [if_neg (by simp), if_neg h]
      rw [hp]
      clear hp
      have h0 : 0 ≤ i := by omega
      have h1 : i < 1024 := by omega
      clear h
      go_enter Try.func67, Try.ntmps67
      go_wp2
      go_ret
      exact ⟨rfl, rfl⟩

set_option maxHeartbeats 400000 in
theorem full_calls (c : Int) (u : UInt8) (hcu : c = (u.toNat : Int)) (w : World) : Calls Try.prog 27 #[.int .u8 c] w fun e w' => ∃ v, e = .returned v ∧ OwnB w' w.heap.size v (List.replicate 64 u) ∧ Chg [] w w' := by
  obtain ⟨B, hB⟩ : ∃ B, B = w.heap.size := ⟨_, rfl⟩
  rw [← hB]
  have HB := Lib.hid hB
  clear hB
  have HC := Lib.hid hcu
  clear hcu
  go_enter Try.func27, Try.ntmps27
  go_wp2_with (at_make; refine wpList_bmake _ rfl _ _ rfl w.heap.size 64 64 64 rfl rfl (by decide) (by decide) (by omega) (Nat.le_refl _) ?_; rw [← HB.out]; intro w1 hown hch)
  go_loopw [8] (fun i wr => ∃ k : Nat, k ≤ 64 ∧ i = .int .i64 k ∧ OwnB wr B (.slice (some ⟨B, 0, none⟩) 64 64) (List.replicate k u ++ List.replicate (64 - k) 0) ∧ Chg [] w wr) (fun i _ => 64 - (intOf i).toNat)
  case atStart => exact ⟨0, by omega, rfl, hown, hch⟩
  case round =>
    obtain ⟨k, hk, rfl, ho, hc⟩ := hrel
    clear hown hch
    by_cases hlt : k < 64
    · obtain ⟨hcell, hfr⟩ := ho.cell k (by simp; omega)
      have hst := ho.stored k u
      have hch := hc.setCell (p := ⟨B, k, none⟩) (.inr (by rw [HB.out]; exact Nat.le_refl _)) (u8 u)
      rw [show u8 u = .int .u8 c from by rw [HC.out]] at hst hch
      have H1 := Lib.hid hst
      have H2 := Lib.hid hch
      clear hst hch ho hc
      go_wp2
      go_roundw
      case rel =>
        refine ⟨k + 1, by omega, by go_num, ?_, H2.out⟩
        have e : (List.replicate k u ++ List.replicate (64 - k) 0).set k u = List.replicate (k + 1) u ++ List.replicate (64 - (k + 1)) 0 := by
          rw [List.set_append_right _ _ (by simp)]
          rw [show 64 - k = (64 - (k + 1)) + 1 from by omega, List.replicate_succ]
          simp [List.replicate_succ', List.append_assoc]
        rw [← e]
        exact H1.out
      case measure => simp [intOf]; omega
    · have hk64 : k = 64 := by omega
      subst hk64
      go_wp2
      go_ret
      exact ⟨_, rfl, by simpa using ho, hc⟩

/-- Bytes laid over others from a place on. -/
def patch (l : List UInt8) (off : Nat) (cs : List UInt8) : List UInt8 := l.take off ++ (cs ++ l.drop (off + cs.length))
theorem patch_length (l : List UInt8) (off : Nat) (cs : List UInt8) (h : off + cs.length ≤ l.length) : (patch l off cs).length = l.length := by
  simp [patch]; omega

/-- What a write does: the state behind it, and its answer. -/
def St.write (st : St) (i : Int) (b : List UInt8) : St × Int :=
  if st.down then (st, 13)
  else if i < 0 ∨ 1024 ≤ i then (st, 1)
  else if b.length ≠ 64 then (st, 1)
  else if st.armed = true ∧ st.left = 0 then
    ({ st with writes := wrap64 (st.writes + 1), armed := false, down := true, bytes := patch st.bytes (i.toNat * 64) (b.take (max 0 (min st.part 64)).toNat) }, 13)
  else ({ st with writes := wrap64 (st.writes + 1), left := wrap64 (st.left - 1), bytes := patch st.bytes (i.toNat * 64) b }, 0)

theorem St.cells_set {st : St} (hb : st.bytes.length = 65536) (j : Nat) (v : Value) :
    st.cells.toArray.setIfInBounds (65536 + j) v = (st.bytes.map u8 ++ ([.bool st.armed, .int .i64 st.left, .int .i64 st.part, .bool st.down, .int .i64 st.writes] : List Value).set j v).toArray := by
  simp only [St.cells, List.setIfInBounds_toArray]
  rw [List.set_append_right _ _ (by simp [hb])]
  simp [hb]

theorem StoreAt.set_armed {w : World} {S : Nat} {st : St} (h : StoreAt w S st) (b : Bool) : StoreAt (w.setCell ⟨S, 65536, none⟩ (.bool b)) S { st with armed := b } :=
  ⟨h.1, by rw [setCell_heap h.2, St.cells_set h.1 0]; rfl⟩
theorem StoreAt.set_left {w : World} {S : Nat} {st : St} (h : StoreAt w S st) (n : Int) : StoreAt (w.setCell ⟨S, 65537, none⟩ (.int .i64 n)) S { st with left := n } :=
  ⟨h.1, by rw [setCell_heap h.2, St.cells_set h.1 1]; rfl⟩
theorem StoreAt.set_part {w : World} {S : Nat} {st : St} (h : StoreAt w S st) (n : Int) : StoreAt (w.setCell ⟨S, 65538, none⟩ (.int .i64 n)) S { st with part := n } :=
  ⟨h.1, by rw [setCell_heap h.2, St.cells_set h.1 2]; rfl⟩
theorem StoreAt.set_down {w : World} {S : Nat} {st : St} (h : StoreAt w S st) (b : Bool) : StoreAt (w.setCell ⟨S, 65539, none⟩ (.bool b)) S { st with down := b } :=
  ⟨h.1, by rw [setCell_heap h.2, St.cells_set h.1 3]; rfl⟩
theorem StoreAt.set_writes {w : World} {S : Nat} {st : St} (h : StoreAt w S st) (n : Int) : StoreAt (w.setCell ⟨S, 65540, none⟩ (.int .i64 n)) S { st with writes := n } :=
  ⟨h.1, by rw [setCell_heap h.2, St.cells_set h.1 4]; rfl⟩

theorem StoreAt.patched {w : World} {S : Nat} {st : St} (h : StoreAt w S st) (off : Nat) (cs : List UInt8) (hfit : off + cs.length ≤ 65536) :
    StoreAt (w.setRow S (st.cells.take off ++ (cs.map u8 ++ st.cells.drop (off + cs.length))).toArray) S { st with bytes := patch st.bytes off cs } := by
  have hl : (patch st.bytes off cs).length = 65536 := by rw [patch_length _ _ _ (by rw [h.1]; exact hfit), h.1]
  refine ⟨hl, ?_⟩
  rw [setRow_heap _ _ _ _ _ _ h.2]
  congr 3
  simp only [St.cells, patch, List.map_append, List.map_take, List.map_drop]
  rw [List.take_append_of_le_length (by simp [h.1]; omega), List.drop_append_of_le_length (by simp [h.1]; omega)]
  simp [List.append_assoc]

set_option maxHeartbeats 400000 in
theorem Arm_calls (S : Nat) (n p : Int) (st : St) (w : World) (hs : StoreAt w S st) :
    Calls Try.prog 31 #[.pointer (some ⟨S, 0, none⟩), .int .i64 n, .int .i64 p] w fun e w' => e = .returned (.tuple #[]) ∧ StoreAt w' S { st with armed := decide (0 ≤ n), left := n, part := p } ∧ Chg [S] w w' := by
  obtain ⟨c1, c2, c3, c4, c5, cf⟩ := hs.facts
  have f1 := cf 65536
  have f2 := cf 65537
  have f3 := cf 65538
  have hs' := ((hs.set_armed (decide (0 ≤ n))).set_left n).set_part p
  have hc := (((Chg.refl [S] w).setCell (p := ⟨S, 65536, none⟩) (.inl (by simp)) (.bool (decide (0 ≤ n)))).setCell (p := ⟨S, 65537, none⟩) (.inl (by simp)) (.int .i64 n)).setCell (p := ⟨S, 65538, none⟩) (.inl (by simp)) (.int .i64 p)
  have H1 := Lib.hid hs'
  have H2 := Lib.hid hc
  clear hs hs' hc cf
  go_enter Try.func31, Try.ntmps31
  go_wp2
  go_end0
  exact ⟨rfl, H1.out, H2.out⟩

set_option maxHeartbeats 400000 in
theorem Power_calls (S : Nat) (st : St) (w : World) (hs : StoreAt w S st) :
    Calls Try.prog 32 #[.pointer (some ⟨S, 0, none⟩)] w fun e w' => e = .returned (.tuple #[]) ∧ StoreAt w' S { st with armed := false, down := false } ∧ Chg [S] w w' := by
  obtain ⟨c1, c2, c3, c4, c5, cf⟩ := hs.facts
  have f1 := cf 65536
  have f4 := cf 65539
  have hs' := (hs.set_armed false).set_down false
  have hc := ((Chg.refl [S] w).setCell (p := ⟨S, 65536, none⟩) (.inl (by simp)) (.bool false)).setCell (p := ⟨S, 65539, none⟩) (.inl (by simp)) (.bool false)
  have H1 := Lib.hid hs'
  have H2 := Lib.hid hc
  clear hs hs' hc cf
  go_enter Try.func32, Try.ntmps32
  go_wp2
  go_end0
  exact ⟨rfl, H1.out, H2.out⟩

set_option maxHeartbeats 400000 in
theorem Writes_calls (S : Nat) (st : St) (w : World) (hs : StoreAt w S st) :
    Calls Try.prog 33 #[.pointer (some ⟨S, 0, none⟩)] w fun e w' => e = .returned (.int .i64 st.writes) ∧ w = w' := by
  obtain ⟨c1, c2, c3, c4, c5, cf⟩ := hs.facts
  clear hs cf
  go_enter Try.func33, Try.ntmps33
  go_wp2
  go_ret
  exact ⟨rfl, rfl⟩

set_option maxHeartbeats 400000 in
theorem Down_calls (S : Nat) (st : St) (w : World) (hs : StoreAt w S st) :
    Calls Try.prog 40 #[.pointer (some ⟨S, 0, none⟩)] w fun e w' => e = .returned (.bool st.down) ∧ w = w' := by
  obtain ⟨c1, c2, c3, c4, c5, cf⟩ := hs.facts
  clear hs cf
  go_enter Try.func40, Try.ntmps40
  go_wp2
  go_ret
  exact ⟨rfl, rfl⟩
end Go.Proofs.Ytgmgmjljjbcgjaa

/- The seal's steps: what fill, of and Do do. -/
import Derived.Test.YtgmgmjljjbcgjaaOnce
import Derived.Test.YtgmgmjljjbcgjaaBits
namespace Go.Proofs.Ytgmgmjljjbcgjaa
open Go Go.RowKit NSX

abbrev w32 (n : Nat) : Value := .int .u32 (n : Int)
/-- Block K holds the steps: the once's words d, s and the table. -/
def StepsAt (w : World) (K d : Nat) (s : Int) (tab : List Nat) : Prop :=
  tab.length = 256 ∧ w.heap[K]? = some (.cells (w32 d :: .int .i32 s :: w32 0 :: tab.map w32).toArray 124 (0, 0))

/-- What a byte does to the check 0. -/
def stepOf (i : Nat) : Nat := (stpN 8 (hi8 (UInt8.ofNat i))).toNat
def table : List Nat := (List.range 256).map stepOf

theorem table_get (i : Nat) (hi : i < 256) : table.getD i 0 = stepOf i := by
  rw [List.getD_eq_getElem?_getD]
  simp [table, List.getElem?_range hi]
theorem StepsAt.chg {w w' : World} {K d : Nat} {s : Int} {tab : List Nat} {r : List Nat} (h : StepsAt w K d s tab) (hc : Chg r w w') (hn : K ∉ r) : StepsAt w' K d s tab := ⟨h.1, hc.heap h.2 hn⟩
theorem StepsAt.cell {w : World} {K d : Nat} {s : Int} {tab : List Nat} (h : StepsAt w K d s tab) (i : Nat) (hi : i < 256) : w.cell? ⟨K, 3 + i, none⟩ = some (w32 (tab.getD i 0)) := by
  refine cell_of_heap h.2 ?_
  rw [List.getElem?_toArray, show 3 + i = i + 1 + 1 + 1 from by omega, List.getElem?_cons_succ, List.getElem?_cons_succ, List.getElem?_cons_succ, List.getElem?_map, List.getD_eq_getElem?_getD, List.getElem?_eq_getElem (by rw [h.1]; exact hi)]
  rfl
theorem StepsAt.set {w : World} {K d : Nat} {s : Int} {tab : List Nat} (h : StepsAt w K d s tab) (i : Nat) (x : Nat) : StepsAt (w.setCell ⟨K, 3 + i, none⟩ (w32 x)) K d s (tab.set i x) := by
  refine ⟨by simpa using h.1, ?_⟩
  rw [setCell_heap h.2, List.setIfInBounds_toArray, show 3 + i = i + 1 + 1 + 1 from by omega, List.set_cons_succ, List.set_cons_succ, List.set_cons_succ, List.map_set]
theorem StepsAt.set0 {w : World} {K d : Nat} {s : Int} {tab : List Nat} (h : StepsAt w K d s tab) (x : Nat) : StepsAt (w.setCell ⟨K, 0, none⟩ (w32 x)) K x s tab := by
  refine ⟨h.1, ?_⟩
  rw [setCell_heap h.2]; simp
theorem StepsAt.set1 {w : World} {K d : Nat} {s : Int} {tab : List Nat} (h : StepsAt w K d s tab) (x : Int) : StepsAt (w.setCell ⟨K, 1, none⟩ (.int .i32 x)) K d x tab := by
  refine ⟨h.1, ?_⟩
  rw [setCell_heap h.2]; simp
theorem StepsAt.facts {w : World} {K d : Nat} {s : Int} {tab : List Nat} (h : StepsAt w K d s tab) :
    w.cell? ⟨K, 0, none⟩ = some (w32 d) ∧ w.cell? ⟨K, 1, none⟩ = some (.int .i32 s) ∧ ∀ i, w.frozen? ⟨K, i, none⟩ = false :=
  ⟨cell_of_heap h.2 rfl, cell_of_heap h.2 rfl, fun _ => frozen_of_heap h.2⟩

set_option maxHeartbeats 400000 in
theorem fill_calls (K d : Nat) (s : Int) (tab : List Nat) (w : World) (h : StepsAt w K d s tab) :
    Calls Try.prog 88 #[.pointer (some ⟨K, 0, none⟩)] w fun e w' => e = .returned (.tuple #[]) ∧ StepsAt w' K d s table ∧ Chg [K] w w' := by
  have HS := Lib.hid h
  have HL := Lib.hid h.1
  clear h
  go_enter Try.func88, Try.ntmps88
  go_wp2
  go_loopw [4] (fun i wr => ∃ k : Nat, k ≤ 256 ∧ i = .int .i64 k ∧ StepsAt wr K d s (table.take k ++ tab.drop k) ∧ Chg [K] w wr) (fun i _ => 256 - (intOf i).toNat)
  case atStart => exact ⟨0, by omega, rfl, by simpa using HS.out, Chg.refl _ _⟩
  case round =>
    obtain ⟨k, hk, rfl, hs, hc⟩ := hrel
    by_cases hlt : k < 256
    · have hi2 : (k : Int) < 256 := by omega
      have HS2 := Lib.hid hs
      have HC2 := Lib.hid hc
      clear hs hc
      go_wp2
      go_loop [10, 3] (fun j x => ∃ (t m : Nat), t ≤ 8 ∧ j = .int .i64 t ∧ x = w32 m ∧ m < 4294967296 ∧ m % 16777216 = (stpN t (hi8 (UInt8.ofNat k))).toNat) (fun j _ => 8 - (intOf j).toNat)
      case atStart => exact ⟨0, k * 65536, by omega, rfl, by go_num, by omega, by
        show _ = (BitVec.ofNat 24 ((UInt8.ofNat k).toNat * 65536)).toNat
        rw [BitVec.toNat_ofNat, UInt8.toNat_ofNat']; omega⟩
      case round =>
        obtain ⟨t, m, ht, rfl, rfl, hm, hmt⟩ := hrel
        by_cases hlt8 : t < 8
        · have hi8 : (t : Int) < 8 := by omega
          have hst := cstep_int m hm
          go_wp2
          go_round
          case rel => exact ⟨t + 1, cstep m, by omega, by go_num, rfl, cstep_lt m, cstep_next m t _ hmt⟩
          case measure => simp [intOf]; omega
        · obtain rfl : t = 8 := by omega
          have hmask : bits BinOp.and IntKind.u32 (m : Int) 16777215 = (stepOf k : Int) := by
            have := bits_and_u32 m 16777215 hm (by omega)
            rw [and_mask, hmt] at this
            exact this
          obtain ⟨-, -, hfz⟩ := HS2.out.facts
          have hf := hfz (3 + k)
          have hcell := HS2.out.cell k hlt
          clear hfz
          go_wp2
          go_roundw
          case rel =>
            refine ⟨k + 1, by omega, by go_num, ?_, HC2.out.setCell (.inl (by simp)) _⟩
            have h1 := HS2.out.set k (stepOf k)
            have e : (table.take k ++ tab.drop k).set k (stepOf k) = table.take (k + 1) ++ tab.drop (k + 1) := by
              have hl := HL.out
              have hd : tab.drop k = tab[k]'(by omega) :: tab.drop (k + 1) := List.drop_eq_getElem_cons (by omega)
              have ht : table.take (k + 1) = table.take k ++ [stepOf k] := by rw [List.take_add_one]; simp [table, List.getElem?_range hlt]
              rw [hd, ht, List.set_append_right _ _ (by simp [table]; omega)]
              have h0 : k - (List.take k table).length = 0 := by simp [table]; omega
              rw [h0, List.set_cons_zero, List.append_assoc]
              rfl
            rw [e] at h1
            exact h1
          case measure => simp [intOf]; omega
    · obtain rfl : k = 256 := by omega
      have HS2 := Lib.hid hs
      have HC2 := Lib.hid hc
      clear hs hc
      go_wp2
      go_end0
      refine ⟨rfl, ?_, HC2.out⟩
      have h1 := HS2.out
      rw [List.take_of_length_le (by simp [table]), List.drop_of_length_le (by rw [HL.out]; exact Nat.le_refl _), List.append_nil] at h1
      exact h1

theorem load0_calls (a : Addr) (w : World) (h : w.cell? a = some (w32 0)) : Calls Try.prog 93 #[.pointer (some a)] w fun e w' => e = .returned (.bool false) ∧ w = w' := by
  have hl := run_call_load (P := Try.prog) Try.func95 (by kernel_rfl) (by kernel_rfl) (by kernel_rfl) .u32 (by kernel_rfl) (w := w) (a := a) (x := 0) h
  go_enter Try.func93, Try.ntmps93
  go_wp2
  go_ret
  exact ⟨rfl, rfl⟩
theorem load1_calls (a : Addr) (w : World) (h : w.cell? a = some (w32 1)) : Calls Try.prog 93 #[.pointer (some a)] w fun e w' => e = .returned (.bool true) ∧ w = w' := by
  have hl := run_call_load (P := Try.prog) Try.func95 (by kernel_rfl) (by kernel_rfl) (by kernel_rfl) .u32 (by kernel_rfl) (w := w) (a := a) (x := 1) h
  go_enter Try.func93, Try.ntmps93
  go_wp2
  go_ret
  exact ⟨rfl, rfl⟩

set_option maxRecDepth 100000 in
set_option maxHeartbeats 1600000 in
theorem slow_calls (K : Nat) (tab : List Nat) (w : World) (h : StepsAt w K 0 0 tab) :
    Calls Try.prog 94 #[.pointer (some ⟨K, 0, none⟩), .func (.func 88) #[.pointer (some ⟨K, 0, none⟩)] #[]] w fun e w' => e = .returned (.tuple #[]) ∧ StepsAt w' K 1 0 table ∧ Chg [K] w w' := by
  obtain ⟨h0, h1, hfz⟩ := h.facts
  have hs1 := h.set1 1
  have hc1 := (Chg.refl [K] w).setCell (p := ⟨K, 1, none⟩) (.inl (by simp)) (.int .i32 1)
  have f0 := hfz 0
  have f1 := hfz 1
  clear hfz
  have hlock := lock_free ⟨K, 1, none⟩ w h1 f1
  generalize hw1 : w.setCell ⟨K, 1, none⟩ (.int .i32 1) = w1 at hs1 hc1 hlock
  obtain ⟨g0, g1, gfz⟩ := hs1.facts
  have HLd := Lib.hid (load0_calls ⟨K, 0, none⟩ w1 g0)
  have HF := Lib.hid (fill_calls K 0 1 tab w1 hs1)
  have HLk := Lib.hid hlock
  have HC1 := Lib.hid hc1
  clear hs1 hc1 hlock hw1 gfz h h0 h1 f0 f1 g0 g1
  go_enter_defers Try.func94, Try.ntmps94
  go_wp2_with (go_at_call 96; refine HLk.out.mono ?_; rintro e w' ⟨rfl, rfl⟩)
  go_wp2_with (go_at_call 93; refine HLd.out.mono ?_; rintro e w' ⟨rfl, rfl⟩)
  go_wp2_with (go_at_call 88; refine HF.out.mono ?_; rintro e w2 ⟨rfl, hs2, hc2⟩)
  have HS2 := Lib.hid hs2
  have HC2 := Lib.hid (HC1.out.same hc2)
  clear hs2 hc2
  obtain ⟨k0, k1, kfz⟩ := HS2.out.facts
  refine leaves_cons (f := 98) (args := #[.pointer (some ⟨K, 0, none⟩), .bool true]) (by simp) (by simp [go_sem]) ?_
  refine (store_deferred ⟨K, 0, none⟩ _ .returning _ k0 (kfz 0)).mono ?_
  rintro e u' w3 ⟨rfl, rfl, rfl⟩
  have hs3 : StepsAt (w2.drew.setCell ⟨K, 0, none⟩ (w32 1)) K 1 1 table := StepsAt.set0 (w := w2.drew) HS2.out 1
  have hc3 : Chg [K] w (w2.drew.setCell ⟨K, 0, none⟩ (w32 1)) := (HC2.out.drew).setCell (.inl (by simp)) _
  obtain ⟨m0, m1, mfz⟩ := hs3.facts
  refine leaves_cons (f := 97) (args := #[.pointer (some ⟨K, 1, none⟩)]) (by simp [settle]) (by simp [go_sem]) ?_
  refine (unlock_deferred ⟨K, 1, none⟩ _ _ m1 (mfz 1)).mono ?_
  rintro e u' w4 ⟨rfl, rfl, rfl⟩
  have hs4 := hs3.set1 0
  have hc4 := hc3.setCell (p := ⟨K, 1, none⟩) (.inl (by simp)) (.int .i32 0)
  simp [Leaves, settle, results, Try.results94]
  exact ⟨hs4, hc4⟩

set_option maxRecDepth 100000 in
theorem do_first (K : Nat) (tab : List Nat) (w : World) (h : StepsAt w K 0 0 tab) :
    Calls Try.prog 87 #[.pointer (some ⟨K, 0, none⟩), .func (.func 88) #[.pointer (some ⟨K, 0, none⟩)] #[]] w fun e w' => e = .returned (.tuple #[]) ∧ StepsAt w' K 1 0 table ∧ Chg [K] w w' := by
  obtain ⟨h0, -, -⟩ := h.facts
  have HLd := Lib.hid (load0_calls ⟨K, 0, none⟩ w h0)
  have HS := Lib.hid (slow_calls K tab w h)
  clear h h0
  go_enter Try.func87, Try.ntmps87
  go_wp2_with (go_at_call 93; refine HLd.out.mono ?_; rintro e w' ⟨rfl, rfl⟩)
  go_wp2_with (go_at_call 94; refine HS.out.mono ?_; rintro e w' ⟨rfl, hs, hc⟩)
  go_end0
  exact ⟨rfl, hs, hc⟩

set_option maxRecDepth 100000 in
theorem do_done (K : Nat) (s : Int) (fv : Value) (tab : List Nat) (w : World) (h : StepsAt w K 1 s tab) :
    Calls Try.prog 87 #[.pointer (some ⟨K, 0, none⟩), fv] w fun e w' => e = .returned (.tuple #[]) ∧ w = w' := by
  obtain ⟨h0, -, -⟩ := h.facts
  have HLd := Lib.hid (load1_calls ⟨K, 0, none⟩ w h0)
  clear h h0
  go_enter Try.func87, Try.ntmps87
  go_wp2_with (go_at_call 93; refine HLd.out.mono ?_; rintro e w' ⟨rfl, rfl⟩)
  go_end0
  exact ⟨rfl, rfl⟩

/-- The steps, asked or not. -/
def Known (w : World) (K : Nat) : Prop := (∃ tab, StepsAt w K 0 0 tab) ∨ StepsAt w K 1 0 table
theorem do_calls (K : Nat) (w : World) (h : Known w K) :
    Calls Try.prog 87 #[.pointer (some ⟨K, 0, none⟩), .func (.func 88) #[.pointer (some ⟨K, 0, none⟩)] #[]] w fun e w' => e = .returned (.tuple #[]) ∧ StepsAt w' K 1 0 table ∧ Chg [K] w w' := by
  rcases h with ⟨tab, h⟩ | h
  · exact do_first K tab w h
  · refine (do_done K 0 _ table w h).mono ?_
    rintro e w' ⟨he, rfl⟩
    exact ⟨he, h, Chg.refl _ _⟩

set_option maxRecDepth 100000 in
theorem of_calls (K : Nat) (c : UInt8) (w : World) (h : Known w K) :
    Calls Try.prog 78 #[.pointer (some ⟨K, 0, none⟩), u8 c] w fun e w' => e = .returned (w32 (stepOf c.toNat)) ∧ StepsAt w' K 1 0 table ∧ Chg [K] w w' := by
  have hmf : ∀ (fn : Fn) (first cap : Array Value) (w : World), (Instr.makeFunc fn first cap).run Try.prog w = .ok (.func fn first cap) w := fun _ _ _ _ => rfl
  have HD := Lib.hid (do_calls K w h)
  clear h
  go_enter Try.func78, Try.ntmps78
  go_wp2_with fail
  refine HD.out.mono ?_
  rintro e w' ⟨rfl, hs, hc⟩
  have hcell := hs.cell c.toNat c.toNat_lt
  have hb : (c.toNat : Int) < 256 := by have := c.toNat_lt; omega
  rw [table_get _ c.toNat_lt] at hcell
  have HS := Lib.hid hs
  have HC := Lib.hid hc
  clear hs hc
  go_wp2
  go_ret
  exact ⟨rfl, HS.out, HC.out⟩
end Go.Proofs.Ytgmgmjljjbcgjaa

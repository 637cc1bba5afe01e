/- JournalNil: its walk. -/
import Derived.Test.YtgmgmjljjbcgjaaJWork
import Derived.Test.YtgmgmjljjbcgjaaOps9
namespace Go.Proofs.Ytgmgmjljjbcgjaa
open Go Go.RowKit NSX

/-- A pointer to no journal, or to one that has no store. -/
def NoJ (w : World) (v : Value) : Prop := v = .pointer none ∨ ∃ J, v = .pointer (some ⟨J, 0, none⟩) ∧ w.cell? ⟨J, 0, none⟩ = some (.pointer none) ∧ w.cell? ⟨J, 2, none⟩ = some (.int .i64 0) ∧ w.cell? ⟨J, 3, none⟩ = some (.slice none 0 0)
theorem NoJ.then {w w' : World} {v : Value} (h : NoJ w v) (hc : Chg [] w w') : NoJ w' v := by
  rcases h with h | ⟨J, h1, h2, h3, h4⟩
  · exact .inl h
  · exact .inr ⟨J, h1, hc.cell h2 (by simp), hc.cell h3 (by simp), hc.cell h4 (by simp)⟩

set_option maxHeartbeats 400000 in
theorem ready_no (v : Value) (w : World) (h : NoJ w v) : Calls Try.prog 75 #[v] w fun e w' => e = .returned (.int .i64 1) ∧ w = w' := by
  rcases h with rfl | ⟨J, rfl, c0, c2, c3⟩
  all_goals
    go_enter Try.func75, Try.ntmps75
    go_wp2
    go_ret
    exact ⟨rfl, rfl⟩
set_option maxHeartbeats 400000 in
theorem Add_no (v b : Value) (w : World) (h : NoJ w v) : Calls Try.prog 44 #[v, b] w fun e w' => e = .returned (.int .i64 1) ∧ w = w' := by
  have HR := Lib.hid (ready_no v w h)
  clear h
  go_enter Try.func44, Try.ntmps44
  go_wp2_with (go_at_call 75; refine HR.out.mono ?_; rintro e w' ⟨rfl, rfl⟩)
  go_ret
  exact ⟨rfl, rfl⟩
set_option maxHeartbeats 400000 in
theorem Rewrite_no (v b : Value) (w : World) (h : NoJ w v) : Calls Try.prog 45 #[v, b] w fun e w' => e = .returned (.int .i64 1) ∧ w = w' := by
  have HR := Lib.hid (ready_no v w h)
  clear h
  go_enter Try.func45, Try.ntmps45
  go_wp2_with (go_at_call 75; refine HR.out.mono ?_; rintro e w' ⟨rfl, rfl⟩)
  go_ret
  exact ⟨rfl, rfl⟩
set_option maxHeartbeats 400000 in
theorem Snapshot_no (v : Value) (w : World) (h : NoJ w v) : Calls Try.prog 65 #[v] w fun e w' => e = .returned (.slice none 0 0) ∧ w = w' := by
  rcases h with rfl | ⟨J, rfl, c0, c2, c3⟩
  all_goals
    go_enter Try.func65, Try.ntmps65
    go_wp2
    go_ret
    exact ⟨rfl, rfl⟩
set_option maxHeartbeats 400000 in
theorem Records_no (v : Value) (w : World) (h : NoJ w v) : Calls Try.prog 66 #[v] w fun e w' => e = .returned (.slice none 0 0) ∧ w = w' := by
  rcases h with rfl | ⟨J, rfl, c0, c2, c3⟩
  all_goals
    go_enter Try.func66, Try.ntmps66
    go_wp2
    go_ret
    exact ⟨rfl, rfl⟩
set_option maxHeartbeats 400000 in
theorem Left_no (v : Value) (w : World) (h : NoJ w v) : Calls Try.prog 50 #[v] w fun e w' => e = .returned (.int .i64 0) ∧ w = w' := by
  rcases h with rfl | ⟨J, rfl, c0, c2, c3⟩
  all_goals
    go_enter Try.func50, Try.ntmps50
    go_wp2
    go_ret
    exact ⟨rfl, rfl⟩
set_option maxHeartbeats 400000 in
theorem Generation_no (v : Value) (w : World) (h : NoJ w v) : Calls Try.prog 51 #[v] w fun e w' => e = .returned (.int .i64 0) ∧ w = w' := by
  rcases h with rfl | ⟨J, rfl, c0, c2, c3⟩
  all_goals
    go_enter Try.func51, Try.ntmps51
    go_wp2
    go_ret
    exact ⟨rfl, rfl⟩
set_option maxHeartbeats 400000 in
theorem Open_no (b : Value) (w : World) : Calls Try.prog 43 #[.pointer none, b] w fun e w' => e = .returned (.tuple #[.pointer none, .int .i64 1]) ∧ w = w' := by
  go_enter Try.func43, Try.ntmps43
  go_wp2
  go_ret2
  exact ⟨rfl, rfl⟩

set_option maxRecDepth 100000 in
set_option maxHeartbeats 1000000 in
theorem JournalNil_calls (o : OpV) (zero : Bool) (w : World) : Calls Try.prog 24 #[.agg #[.int .i64 o.kind, .int .i64 o.i, .int .i64 o.n, .string o.b], .bool zero] w fun e w' => e = .returned (.bool true) ∧ Chg [] w w' := by
  go_enter Try.func24, Try.ntmps24
  go_wp2_with fail
  have hbox : BoxAt9 (w.alloc (.cells #[.int .i64 o.kind, .int .i64 o.i, .int .i64 o.n, .string o.b] 62)) w.heap.size o := heap_alloc_new _ _
  have hc1 := (Chg.refl [] w).alloc (.cells #[.int .i64 o.kind, .int .i64 o.i, .int .i64 o.n, .string o.b] 62)
  generalize hw1 : w.alloc (.cells #[.int .i64 o.kind, .int .i64 o.i, .int .i64 o.n, .string o.b] 62) = w1 at hbox hc1 ⊢
  clear hw1
  refine (awake9_calls _).mono ?_
  rintro e w2 ⟨rfl, hc2⟩
  have hbox2 := hbox.then hc2
  have hc2 := hc1.then hc2
  clear hbox hc1
  obtain ⟨B, hB⟩ : ∃ B, w.heap.size = B := ⟨_, rfl⟩
  rw [hB] at hbox2 ⊢
  have HB := Lib.hid hB
  clear hB
  have hx0 : w2.cell? ⟨B, 0, none⟩ = some (.int .i64 o.kind) := cell_of_heap hbox2 rfl
  have hx1 : w2.cell? ⟨B, 1, none⟩ = some (.int .i64 o.i) := cell_of_heap hbox2 rfl
  have hx2 : w2.cell? ⟨B, 2, none⟩ = some (.int .i64 o.n) := cell_of_heap hbox2 rfl
  have hx3 : w2.cell? ⟨B, 3, none⟩ = some (.string o.b) := cell_of_heap hbox2 rfl
  have HC := Lib.hid hc2
  have HX := Lib.hid hbox2
  clear hc2 hbox2
  go_wp2_with fail
  have hops : OpsAt (w2.alloc (.cells #[.int .i64 o.kind, .int .i64 o.i, .int .i64 o.n, .string o.b] 62)) (.slice (some ⟨w2.heap.size, 0, none⟩) 1 1) [o] := by
    refine ⟨_, 1, rfl, by simp, fun i o' hi => ?_⟩
    have : i = 0 := by have := (List.getElem?_eq_some_iff.1 hi).1; simp at this; omega
    subst this
    simp only [List.getElem?_cons_zero, Option.some.injEq] at hi
    subst hi
    refine ⟨_, rfl, fun j u hu => ?_⟩
    have : (⟨w2.heap.size, 0, none⟩ : Addr).add (0 * 4 + j) = ⟨w2.heap.size, j, none⟩ := by unfold Addr.add; split <;> simp_all
    rw [this]
    exact cell_of_heap (heap_alloc_new _ _) (by simpa [OpV.cells] using hu)
  have hc3 : Chg [] w2 (w2.alloc (.cells #[.int .i64 o.kind, .int .i64 o.i, .int .i64 o.n, .string o.b] 62)) := (Chg.refl [] w2).alloc _
  generalize hw3 : w2.alloc (.cells #[.int .i64 o.kind, .int .i64 o.i, .int .i64 o.n, .string o.b] 62) = w3 at hops hc3 ⊢
  clear hw3
  refine (few9_calls _ _ _ hops).mono ?_
  rintro e w4 ⟨rfl, rfl⟩
  have hbox3 := HX.out.then hc3
  have hc3 := HC.out.then hc3
  clear hops hx0 hx1 hx2 hx3 HC HX
  have HC := Lib.hid hc3
  have HX := Lib.hid hbox3
  clear hc3 hbox3
  cases hf : few9 [o] with
  | false =>
    simp only []
    go_wp2_with fail
    refine (awake9_calls _).mono ?_
    rintro e w5 ⟨rfl, hc5⟩
    have hc5 := HC.out.then hc5
    have HC5 := Lib.hid hc5
    clear hc5
    go_wp2
    go_ret
    exact ⟨rfl, HC5.out⟩
  | true =>
    have hs : o.b.size ≤ 3000 := by
      unfold few9 at hf
      simp at hf
      exact hf
    have HBs := Lib.hid hs
    clear hf hs
    simp only []
    cases zero with
    | false =>
      have HBx := Lib.hid (show w3.heap[B]? = some (.cells o.cells.toArray 62) from HX.out)
      have HCz := Lib.hid HC.out
      have HNo := Lib.hid (show NoJ w3 (.pointer none) from .inl rfl)
      go_upto_region 6 with fail
      have hb := HBs.out
      obtain ⟨cap5, w5, hr5, -, hd5, -⟩ := run_ofString w3 o.b (by unfold maxLen; omega)
      obtain ⟨cap6, w6, hr6, -, hd6, -⟩ := run_ofString w5 o.b (by unfold maxLen; omega)
      obtain ⟨cap7, w7, hr7, -, hd7, -⟩ := run_ofString w6 o.b (by unfold maxLen; omega)
      have hx30 : (w3).cell? ⟨B, 3, none⟩ = some (.string o.b) := cell_of_heap HBx.out rfl
      have hx35 := hd5.cell hx30 (by simp)
      have hx36 := hd6.cell hx35 (by simp)
      have HC7 := Lib.hid (((HCz.out.then hd5).then hd6).then hd7)
      have HN6 := Lib.hid ((HNo.out.then hd5).then hd6)
      have HN7 := Lib.hid (((HNo.out.then hd5).then hd6).then hd7)
      have HO := Lib.hid (Open_no (.slice (some ⟨(w3).heap.size, 0, none⟩) o.b.size cap5) w5)
      have HA := Lib.hid (Add_no _ (.slice (some ⟨w5.heap.size, 0, none⟩) o.b.size cap6) w6 HN6.out)
      have HR := Lib.hid (Rewrite_no _ (.slice (some ⟨w6.heap.size, 0, none⟩) o.b.size cap7) w7 HN7.out)
      have HSn := Lib.hid (Snapshot_no _ w7 HN7.out)
      have HRe := Lib.hid (Records_no _ w7 HN7.out)
      have HLe := Lib.hid (Left_no _ w7 HN7.out)
      have HGe := Lib.hid (Generation_no _ w7 HN7.out)
      clear hd5 hd6 hd7 hb
      go_wp2_with (first
        | (go_at_call 43; refine HO.out.mono ?_; rintro e w' ⟨rfl, rfl⟩)
        | (go_at_call 44; refine HA.out.mono ?_; rintro e w' ⟨rfl, rfl⟩)
        | (go_at_call 45; refine HR.out.mono ?_; rintro e w' ⟨rfl, rfl⟩)
        | (go_at_call 65; refine HSn.out.mono ?_; rintro e w' ⟨rfl, rfl⟩)
        | (go_at_call 66; refine HRe.out.mono ?_; rintro e w' ⟨rfl, rfl⟩)
        | (go_at_call 50; refine HLe.out.mono ?_; rintro e w' ⟨rfl, rfl⟩)
        | (go_at_call 51; refine HGe.out.mono ?_; rintro e w' ⟨rfl, rfl⟩))
      go_ret
      exact ⟨rfl, HC7.out⟩
    | true =>
      have hcz := (Chg.refl [] w3).alloc (.cells #[.pointer none, .int .i64 0, .int .i64 0, .slice none 0 0, .int .i64 0, .bool false] 98)
      have hnew := heap_alloc_new w3 (.cells #[.pointer none, .int .i64 0, .int .i64 0, .slice none 0 0, .int .i64 0, .bool false] 98)
      have hno : NoJ (w3.alloc (.cells #[.pointer none, .int .i64 0, .int .i64 0, .slice none 0 0, .int .i64 0, .bool false] 98)) (.pointer (some ⟨w3.heap.size, 0, none⟩)) :=
        .inr ⟨_, rfl, cell_of_heap hnew rfl, cell_of_heap hnew rfl, cell_of_heap hnew rfl⟩
      have HBx := Lib.hid (show (w3.alloc (.cells #[.pointer none, .int .i64 0, .int .i64 0, .slice none 0 0, .int .i64 0, .bool false] 98)).heap[B]? = some (.cells o.cells.toArray 62) from hcz.heap HX.out (by simp))
      have HCz := Lib.hid (HC.out.then hcz)
      have HNo := Lib.hid hno
      clear hcz hnew hno
      go_upto_region 6 with fail
      obtain ⟨wz, hwz⟩ : ∃ wz, w3.alloc (.cells #[.pointer none, .int .i64 0, .int .i64 0, .slice none 0 0, .int .i64 0, .bool false] 98) = wz := ⟨_, rfl⟩
      rw [hwz] at HBx HCz HNo ⊢
      clear hwz
      have hb := HBs.out
      obtain ⟨cap5, w5, hr5, -, hd5, -⟩ := run_ofString wz o.b (by unfold maxLen; omega)
      obtain ⟨cap6, w6, hr6, -, hd6, -⟩ := run_ofString w5 o.b (by unfold maxLen; omega)
      obtain ⟨cap7, w7, hr7, -, hd7, -⟩ := run_ofString w6 o.b (by unfold maxLen; omega)
      have hx30 : (wz).cell? ⟨B, 3, none⟩ = some (.string o.b) := cell_of_heap HBx.out rfl
      have hx35 := hd5.cell hx30 (by simp)
      have hx36 := hd6.cell hx35 (by simp)
      have HC7 := Lib.hid (((HCz.out.then hd5).then hd6).then hd7)
      have HN6 := Lib.hid ((HNo.out.then hd5).then hd6)
      have HN7 := Lib.hid (((HNo.out.then hd5).then hd6).then hd7)
      have HO := Lib.hid (Open_no (.slice (some ⟨(wz).heap.size, 0, none⟩) o.b.size cap5) w5)
      have HA := Lib.hid (Add_no _ (.slice (some ⟨w5.heap.size, 0, none⟩) o.b.size cap6) w6 HN6.out)
      have HR := Lib.hid (Rewrite_no _ (.slice (some ⟨w6.heap.size, 0, none⟩) o.b.size cap7) w7 HN7.out)
      have HSn := Lib.hid (Snapshot_no _ w7 HN7.out)
      have HRe := Lib.hid (Records_no _ w7 HN7.out)
      have HLe := Lib.hid (Left_no _ w7 HN7.out)
      have HGe := Lib.hid (Generation_no _ w7 HN7.out)
      clear hd5 hd6 hd7 hb
      go_wp2_with (first
        | (go_at_call 43; refine HO.out.mono ?_; rintro e w' ⟨rfl, rfl⟩)
        | (go_at_call 44; refine HA.out.mono ?_; rintro e w' ⟨rfl, rfl⟩)
        | (go_at_call 45; refine HR.out.mono ?_; rintro e w' ⟨rfl, rfl⟩)
        | (go_at_call 65; refine HSn.out.mono ?_; rintro e w' ⟨rfl, rfl⟩)
        | (go_at_call 66; refine HRe.out.mono ?_; rintro e w' ⟨rfl, rfl⟩)
        | (go_at_call 50; refine HLe.out.mono ?_; rintro e w' ⟨rfl, rfl⟩)
        | (go_at_call 51; refine HGe.out.mono ?_; rintro e w' ⟨rfl, rfl⟩))
      go_ret
      exact ⟨rfl, HC7.out⟩
end Go.Proofs.Ytgmgmjljjbcgjaa

/- BlockNil: its walk. -/
import Derived.Test.YtgmgmjljjbcgjaaOps
namespace Go.Proofs.Ytgmgmjljjbcgjaa
open Go Go.RowKit

/-- The call lies in block B. -/
def BoxAt (w : World) (B : Nat) (o : OpV) : Prop := w.heap[B]? = some (.cells o.cells.toArray 46)
theorem BoxAt.then {w w' : World} {B : Nat} {o : OpV} (h : BoxAt w B o) (hc : Chg [] w w') : BoxAt w' B o := hc.heap h (by simp)

set_option maxRecDepth 100000 in
set_option maxHeartbeats 1000000 in
theorem BlockNil_calls (o : OpV) (w : World) : Calls Try.prog 7 #[.agg #[.int .i64 o.kind, .int .i64 o.i, .int .i64 o.n, .string o.b]] w fun e w' => e = .returned (.bool true) ∧ Chg [] w w' := by
  go_enter Try.func7, Try.ntmps7
  go_wp2_with fail
  have hbox : BoxAt (w.alloc (.cells #[.int .i64 o.kind, .int .i64 o.i, .int .i64 o.n, .string o.b] 46)) w.heap.size o := heap_alloc_new _ _
  have hc1 := (Chg.refl [] w).alloc (.cells #[.int .i64 o.kind, .int .i64 o.i, .int .i64 o.n, .string o.b] 46)
  generalize hw1 : w.alloc (.cells #[.int .i64 o.kind, .int .i64 o.i, .int .i64 o.n, .string o.b] 46) = w1 at hbox hc1 ⊢
  clear hw1
  refine (awake8_calls _).mono ?_
  rintro e w2 ⟨rfl, hc2⟩
  have hbox2 := hbox.then hc2
  have hc2 := hc1.then hc2
  clear hbox hc1
  obtain ⟨B, hB⟩ : ∃ B, w.heap.size = B := ⟨_, rfl⟩
  rw [hB] at hbox2 ⊢
  have HB := Lib.hid hB
  clear hB
  have hx0 : w2.cell? ⟨B, 0, none⟩ = some (.int .i64 o.kind) := cell_of_heap hbox2 rfl
  have hx1 : w2.cell? ⟨B, 1, none⟩ = some (.int .i64 o.i) := cell_of_heap hbox2 rfl
  have hx2 : w2.cell? ⟨B, 2, none⟩ = some (.int .i64 o.n) := cell_of_heap hbox2 rfl
  have hx3 : w2.cell? ⟨B, 3, none⟩ = some (.string o.b) := cell_of_heap hbox2 rfl
  have HC := Lib.hid hc2
  have HX := Lib.hid hbox2
  clear hc2 hbox2
  go_wp2_with fail
  have hops : OpsAt (w2.alloc (.cells #[.int .i64 o.kind, .int .i64 o.i, .int .i64 o.n, .string o.b] 46)) (.slice (some ⟨w2.heap.size, 0, none⟩) 1 1) [o] := by
    refine ⟨_, 1, rfl, by simp, fun i o' hi => ?_⟩
    have : i = 0 := by have := (List.getElem?_eq_some_iff.1 hi).1; simp at this; omega
    subst this
    simp only [List.getElem?_cons_zero, Option.some.injEq] at hi
    subst hi
    refine ⟨_, rfl, fun j u hu => ?_⟩
    have : (⟨w2.heap.size, 0, none⟩ : Addr).add (0 * 4 + j) = ⟨w2.heap.size, j, none⟩ := by unfold Addr.add; split <;> simp_all
    rw [this]
    exact cell_of_heap (heap_alloc_new _ _) (by simpa [OpV.cells] using hu)
  have hc3 : Chg [] w2 (w2.alloc (.cells #[.int .i64 o.kind, .int .i64 o.i, .int .i64 o.n, .string o.b] 46)) := (Chg.refl [] w2).alloc _
  generalize hw3 : w2.alloc (.cells #[.int .i64 o.kind, .int .i64 o.i, .int .i64 o.n, .string o.b] 46) = w3 at hops hc3 ⊢
  clear hw3
  refine (few8_calls _ _ _ hops).mono ?_
  rintro e w4 ⟨rfl, rfl⟩
  have hbox3 := HX.out.then hc3
  have hc3 := HC.out.then hc3
  clear hops hx0 hx1 hx2 hx3
  have hx0 : w3.cell? ⟨B, 0, none⟩ = some (.int .i64 o.kind) := cell_of_heap hbox3 rfl
  have hx1 : w3.cell? ⟨B, 1, none⟩ = some (.int .i64 o.i) := cell_of_heap hbox3 rfl
  have hx2 : w3.cell? ⟨B, 2, none⟩ = some (.int .i64 o.n) := cell_of_heap hbox3 rfl
  have hx3 : w3.cell? ⟨B, 3, none⟩ = some (.string o.b) := cell_of_heap hbox3 rfl
  clear HC HX
  have HC := Lib.hid hc3
  have HX := Lib.hid hbox3
  clear hc3 hbox3
  cases hf : few8 [o] with
  | false =>
    simp only []
    go_wp2_with fail
    refine (awake8_calls _).mono ?_
    rintro e w5 ⟨rfl, hc5⟩
    have hc5 := HC.out.then hc5
    have HC5 := Lib.hid hc5
    clear hc5
    go_wp2
    go_ret
    exact ⟨rfl, HC5.out⟩
  | true =>
    simp only []
    go_wp2_with fail
    refine (Arm_nil _ _ _).mono ?_
    rintro e w5 ⟨rfl, rfl⟩
    go_wp2_with fail
    refine (Power_nil _).mono ?_
    rintro e w5 ⟨rfl, rfl⟩
    go_wp2_with fail
    refine (Read_nil _ _).mono ?_
    rintro e w5 ⟨rfl, rfl⟩
    have hsz : o.b.size ≤ maxLen := by
      unfold few8 at hf
      simp at hf
      unfold maxLen
      omega
    obtain ⟨cap, w5, hr, -, hc5, -⟩ := run_ofString w3 o.b hsz
    have hc5 := HC.out.then hc5
    have HC5 := Lib.hid hc5
    clear hc5
    go_wp2_with fail
    refine (Write_nil _ _ _).mono ?_
    rintro e w6 ⟨rfl, rfl⟩
    clear hr
    go_wp2_with fail
    refine (Down_nil _).mono ?_
    rintro e w6 ⟨rfl, rfl⟩
    go_wp2_with fail
    refine (Bytes_nil _).mono ?_
    rintro e w6 ⟨rfl, rfl⟩
    go_wp2_with fail
    refine (Writes_nil _).mono ?_
    rintro e w6 ⟨rfl, rfl⟩
    go_wp2
    go_ret
    exact ⟨rfl, HC5.out⟩
end Go.Proofs.Ytgmgmjljjbcgjaa

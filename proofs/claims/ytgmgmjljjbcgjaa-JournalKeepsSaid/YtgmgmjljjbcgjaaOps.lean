/- Slices of calls (law08): few. -/
import Derived.Test.YtgmgmjljjbcgjaaL8
namespace Go.Proofs.Ytgmgmjljjbcgjaa
open Go Go.RowKit

/-- A call of the script. -/
structure OpV where
  kind : Int
  i : Int
  n : Int
  b : ByteArray

def OpV.cells (o : OpV) : List Value := [.int .i64 o.kind, .int .i64 o.i, .int .i64 o.n, .string o.b]

/-- v is a slice of these calls. -/
def OpsAt (w : World) (v : Value) (l : List OpV) : Prop :=
  ∃ ao cap, v = .slice ao l.length cap ∧ l.length ≤ cap ∧ ∀ i o, l[i]? = some o → ∃ a, ao = some a ∧ ∀ j u, o.cells[j]? = some u → w.cell? (a.add (i * 4 + j)) = some u

theorem OpsAt.chg {w w' : World} {v : Value} {l : List OpV} (h : OpsAt w v l) (hc : Chg [] w w') : OpsAt w' v l := by
  obtain ⟨ao, cap, hv, hl, hb⟩ := h
  refine ⟨ao, cap, hv, hl, fun i o hi => ?_⟩
  obtain ⟨a, ha, hcs⟩ := hb i o hi
  exact ⟨a, ha, fun j u hu => hc.cell (hcs j u hu) (by simp)⟩

/-- The call lies in block B. -/
def BoxAt (w : World) (B : Nat) (o : OpV) : Prop := w.heap[B]? = some (.cells o.cells.toArray 46)
theorem BoxAt.then {w w' : World} {B : Nat} {o : OpV} (h : BoxAt w B o) (hc : Chg [] w w') : BoxAt w' B o := hc.heap h (by simp)

def few8 (l : List OpV) : Bool := decide (l.length ≤ 200) && l.all fun o => decide (o.b.size ≤ 1000)

theorem add_at (a : Addr) (k j : Nat) : a.add (k + (j + 1)) = ⟨(a.add k).block, (a.add k).off + (j + 1), none⟩ := by
  unfold Addr.add
  rw [if_neg (by omega)]
  split
  · rename_i h; subst h; simp
  · simp [Nat.add_assoc]

set_option maxHeartbeats 400000 in
theorem few8_calls (l : List OpV) (v : Value) (w : World) (h : OpsAt w v l) : Calls Try.prog 34 #[v] w fun e w' => e = .returned (.bool (few8 l)) ∧ w = w' := by
  obtain ⟨ao, cap, rfl, hl, hb⟩ := h
  have HB := Lib.hid hb
  clear hb
  go_enter Try.func34, Try.ntmps34
  by_cases h200 : l.length ≤ 200
  · have h200' : ¬ ((200 : Int) < (l.length : Int)) := by omega
    go_wp2
    go_loop [9] (fun i => ∃ k : Nat, k ≤ l.length ∧ i = .int .i64 k ∧ (l.take k).all (fun o => decide (o.b.size ≤ 1000)) = true) (fun i => l.length - (intOf i).toNat)
    case atStart => exact ⟨0, by omega, rfl, by simp⟩
    case round =>
      obtain ⟨k, hk, rfl, hall⟩ := hrel
      have HA := Lib.hid hall
      clear hall
      by_cases hlt : k < l.length
      · have hi2 : (k : Int) < (l.length : Int) := by omega
        obtain ⟨o, ho⟩ : ∃ o, l[k]? = some o := ⟨_, List.getElem?_eq_getElem hlt⟩
        obtain ⟨a, rfl, hcs⟩ := HB.out k o ho
        have hc3 := hcs 3 _ rfl
        rw [add_at] at hc3
        have HO := Lib.hid ho
        clear hcs ho
        by_cases hbig : o.b.size ≤ 1000
        · have hbig' : ¬ ((1000 : Int) < (o.b.size : Int)) := by omega
          go_wp2
          go_round
          case rel =>
            refine ⟨k + 1, by omega, by go_num, ?_⟩
            rw [List.take_add_one, HO.out, List.all_append, HA.out]
            simp [hbig]
          case measure => simp [intOf]; omega
        · have hbig' : ((1000 : Int) < (o.b.size : Int)) := by omega
          go_wp2
          go_ret
          have : few8 l = false := by
            unfold few8
            rw [Bool.and_eq_false_iff]
            right
            rw [List.all_eq_false]
            exact ⟨o, List.mem_of_getElem? HO.out, by simpa using hbig⟩
          rw [this]
          exact ⟨rfl, rfl⟩
      · obtain rfl : k = l.length := by omega
        go_wp2
        go_ret
        have : few8 l = true := by
          have h1 := HA.out
          rw [List.take_length] at h1
          unfold few8
          rw [h1]; simp [h200]
        rw [this]
        exact ⟨rfl, rfl⟩
  · have h200' : (200 : Int) < (l.length : Int) := by omega
    go_wp2
    go_ret
    have : few8 l = false := by unfold few8; simp; omega
    rw [this]
    exact ⟨rfl, rfl⟩
end Go.Proofs.Ytgmgmjljjbcgjaa

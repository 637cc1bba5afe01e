/- slices.Chunk: its closure's contract. -/
import Derived.RangeFuncNested
import Derived.RangeFuncBound
import Derived.RangeFuncCalls
import Derived.RangeFuncLeaves
import Derived.Shelf.Abstract
import Derived.Shelf.RegionOpen
import Derived.OwnWalkIn
import Derived.TacticsInMore
import Derived.RegionIn
import Derived.LoopNIn
import Derived.LoopIn
import Derived.Test.YtgmgmjljjbcgjaaBase
namespace Go.Proofs.Ytgmgmjljjbcgjaa
open Go Go.RowKit Go.Shelf
attribute [local go_sem] Oper.semAt_some

set_option maxHeartbeats 1000000 in
theorem Chunk_in (F : Fence) (n : Nat) (h86 : F.fn 86) (hro : F.round = none) (a : Option Addr) (len cap : Nat) (w : World) :
    CallsIn F n Try.prog 86 #[.slice a len cap, .int .i64 64] w fun e w' => e = .returned (.func (.func 92) #[] #[.pointer (some ⟨w.heap.size, 0, none⟩), .pointer (some ⟨w.heap.size + 1, 0, none⟩)]) ∧ w' = (w.alloc (.cells #[.slice a len cap] 26)).alloc (.cells #[.int .i64 64] 3) := by
  refine callsIn_of_wp Try.func86 rfl h86 ?_ hro
  simp only [Try.ntmps86, List.size_toArray, List.length_cons, List.length_nil, Nat.reduceAdd, Nat.reduceSub, Array.replicate_succ, Array.replicate_zero, List.push_toArray, List.append_toArray, List.nil_append, List.cons_append]
  gi_wp2
  go_ret
  exact ⟨rfl, rfl⟩

/-- What a round keeps: the two boxes. -/
def Boxes (Bs Bn : Nat) (W W' : World) : Prop := W'.cell? ⟨Bs, 0, none⟩ = W.cell? ⟨Bs, 0, none⟩ ∧ W'.cell? ⟨Bn, 0, none⟩ = W.cell? ⟨Bn, 0, none⟩

theorem grown_drew (W : World) (row : Option Nat) : W.grownBy W.drew row := ⟨rfl, rfl, rfl, Nat.le_refl _, fun _ _ _ => rfl⟩

set_option maxRecDepth 100000 in
set_option maxHeartbeats 2000000 in
theorem Chunk1_in (F : Fence) (n : Nat) (h92 : F.fn 92) (hro : F.round = none) (hn : 1 ≤ n) (l Bs Bn g m cap : Nat) (hm : m ≤ 1000) (hcap : 64 * m ≤ cap) (J Jx : List Nat → World → Prop)
    (hJ : ∀ s W, J s W → J s W.drew)
    (hY : ∀ pre x W, J pre W → pre.length < m → YieldAt F (n - 1) Try.prog l #[.slice (some ⟨g, 64 * min x (m - 1), none⟩) 64 64] W fun e W' =>
      (e = .returned (.bool true) ∧ J (pre ++ [x]) W' ∧ Boxes Bs Bn W W') ∨ (e = .returned (.bool false) ∧ Jx (pre ++ [x]) W'))
    (W : World) (hBs : W.cell? ⟨Bs, 0, none⟩ = some (.slice (some ⟨g, 0, none⟩) (64 * m) cap)) (hBn : W.cell? ⟨Bn, 0, none⟩ = some (.int .i64 64)) (h0 : J [] W) :
    CallsIn F n Try.prog 92 #[.func (.yield l) #[] #[], .pointer (some ⟨Bs, 0, none⟩), .pointer (some ⟨Bn, 0, none⟩)] W fun e W' => (∃ v, e = .returned v) ∧
      ((∃ ys, ys = List.range m ∧ J ys W') ∨ (∃ pre, (∃ k, k ≤ m ∧ pre = List.range k) ∧ Jx pre W')) := by
  refine callsIn_of_wp Try.func92 rfl h92 ?_ hro
  simp only [Try.ntmps92, List.size_toArray, List.length_cons, List.length_nil, Nat.reduceAdd, Nat.reduceSub, Array.replicate_succ, Array.replicate_zero, List.push_toArray, List.append_toArray, List.nil_append, List.cons_append]
  gi_wp2
  gi_loopw [4] (fun i wr => ∃ k : Nat, k ≤ m ∧ i = .int .i64 (64 * (k : Int)) ∧ J (List.range k) wr ∧ Boxes Bs Bn W wr)
    (fun i _ => 64 * m - (intOf i).toNat)
  case atStart => exact ⟨0, Nat.zero_le _, rfl, h0, rfl, rfl⟩
  case round =>
    obtain ⟨k, hk, rfl, hJs, hb1, hb2⟩ := hrel
    have hs := hb1.trans hBs
    have hnn := hb2.trans hBn
    by_cases hlt : k < m
    · have hi1 : 64 * (k : Int) < 64 * (m : Int) := by omega
      have hi2 : 64 * (k : Int) ≤ 64 * (m : Int) := by omega
      have hi3 : 64 * (k : Int) + 64 ≤ (cap : Int) := by omega
      have hi4 : 64 * k ≤ cap := by omega
      obtain ⟨fn, tmps, assign, body, hy, hR⟩ := hY _ k wr.drew (hJ _ _ hJs) (by rw [List.length_range]; exact hlt)
      rw [show min k (m - 1) = k from by omega] at hy
      have hc1 : ¬ cap = 64 * k := by omega
      have hmx : Try.prog.follows .mixedOrders = true := by kernel_rfl
      gi_wp2
      gi_region
      all_goals gi_wp2
      all_goals
        refine hR.mono ?_
        rintro e W3 (⟨rfl, hJ3, hk1, hk2⟩ | ⟨rfl, hJx3⟩)
        · have hn3 : W3.cell? ⟨Bn, 0, none⟩ = some (.int .i64 64) := hk2.trans hnn
          gi_wp2
          go_roundw
          case rel => exact ⟨k + 1, by omega, by go_num, by rw [List.range_succ]; exact hJ3, hk1.trans hb1, hk2.trans hb2⟩
          case measure => simp [intOf]; omega
        · gi_wp2
          refine bodyPost_ret (results_none rfl _ _ _) rfl ?_
          exact ⟨⟨_, rfl⟩, .inr ⟨_, ⟨k + 1, by omega, List.range_succ.symm⟩, hJx3⟩⟩
    · obtain rfl : k = m := by omega
      gi_wp2
      go_end0
      exact ⟨⟨_, rfl⟩, .inl ⟨_, rfl, hJs⟩⟩

/-- slices.Chunk's value, over m whole chunks. -/
theorem Chunk_stops (F : Fence) (n : Nat) (h92 : F.fn 92) (hro : F.round = none) (hn : 1 ≤ n) (Bs Bn g m cap : Nat) (hm : m ≤ 1000) (hcap : 64 * m ≤ cap) (w : World) (hBs : Bs < w.heap.size) (hBn : Bn < w.heap.size)
    (hc : w.cell? ⟨Bs, 0, none⟩ = some (.slice (some ⟨g, 0, none⟩) (64 * m) cap)) (hc2 : w.cell? ⟨Bn, 0, none⟩ = some (.int .i64 64)) :
    SeqStopsK F n Try.prog 92 #[.pointer (some ⟨Bs, 0, none⟩), .pointer (some ⟨Bn, 0, none⟩)] (fun x : Nat => #[Value.slice (some ⟨g, 64 * min x (m - 1), none⟩) 64 64]) (Boxes Bs Bn) (fun ys => ys = List.range m) (fun pre => ∃ k, k ≤ m ∧ pre = List.range k) m w := fun l J Jx W hW hJ _ hY h0 => by
  have c1 := (hW.cell (p := ⟨Bs, 0, none⟩) hBs).trans hc
  have c2 := (hW.cell (p := ⟨Bn, 0, none⟩) hBn).trans hc2
  exact Chunk1_in F n h92 hro hn l Bs Bn g m cap hm hcap J Jx (fun s W1 h => hJ s W1 _ none h (grown_drew W1 none) (fun r e => by cases e)) hY W c1 c2 h0
end Go.Proofs.Ytgmgmjljjbcgjaa

/- The record package: piece. -/
import Derived.Test.YtgmgmjljjbcgjaaCut
import Derived.ArgAppend
namespace Go.Proofs.Ytgmgmjljjbcgjaa
open Go Go.RowKit NSX

theorem setCells_one (w : World) (g i : Nat) (v : Value) : w.setCells g i [v] = w.setCell ⟨g, i, none⟩ v := by
  simp [World.setCells]

/-- 'append(in[k:], c)': what it hands back; 'in' is as it was. -/
theorem run_append_one (w : World) (ty : TypeId) (base g icap k : Nat) (ins : List UInt8) (hown : OwnB w base (.slice (some ⟨g, 0, none⟩) ins.length icap) ins) (hk : k ≤ ins.length) (hsm : ins.length ≤ 1000)
    (h : Nat) (c : UInt8) (hx : w.cell? ⟨h, 0, none⟩ = some (u8 c)) :
    ∃ v' w', (Builtin.append_ #[26, 26] ty #[.slice (if icap = k then some ⟨g, 0, none⟩ else some ⟨g, k, none⟩) (ins.length - k) (icap - k), .slice (some ⟨h, 0, none⟩) 1 1]).run Try.prog w = .ok v' w' ∧
      IsB w' 5 v' (ins.drop k ++ [c]) ∧ OwnB w' base (.slice (some ⟨g, 0, none⟩) ins.length icap) ins ∧ Chg [g] w w' := by
  obtain ⟨i0, hi, hz0, hz1, hz2⟩ := info_parts Try.info5p
  obtain ⟨h1, h2⟩ := hown
  rcases h2 with ⟨h', _⟩ | ⟨g', cap', cur, h', hb, hg, hnc, hcm, hcs, htake⟩
  · simp at h'
  · simp only [Value.slice.injEq, Option.some.injEq, Addr.mk.injEq, and_true, true_and] at h'
    obtain ⟨rfl, rfl⟩ := h'
    rw [Nat.mul_one] at htake hcs
    have hsz : cur.size = icap := by omega
    have hat : ∀ (i : Nat) (x : UInt8), ins[i]? = some x → cur[i]? = some (u8 x) := by
      intro i x hix
      have hlt : i < ins.length := (List.getElem?_eq_some_iff.1 hix).1
      have e : (ins.map u8)[i]? = some (u8 x) := by rw [List.getElem?_map, hix]; rfl
      rw [← htake, List.getElem?_take, if_pos hlt] at e
      simpa using e
    have hnews : ∀ (j : Nat) (u : Value), ([u8 c] : List Value)[j]? = some u → w.cell? ((⟨h, 0, none⟩ : Addr).add j) = some u := by
      intro j u hj
      have : j = 0 := by have := (List.getElem?_eq_some_iff.1 hj).1; simp at this; omega
      subst this
      simp at hj
      subst hj
      exact hx
    have hone : ∀ u ∈ ([u8 c] : List Value), u.oneCell' = true := by intro u hu; simp at hu; subst hu; rfl
    by_cases hroom : ins.length < icap
    · rw [if_neg (by omega)]
      have hr := run_append_room_cells (P := Try.prog) w 26 ty 5 i0 Try.underlying26 hi g k (ins.length - k) (icap - k) ⟨h, 0, none⟩ 1 1 [u8 c] (by rw [hz1]; rfl) hnews hone (by omega) (by
        intro j hj
        have : j = 0 := by simpa using hj
        subst this
        rw [hz1]
        have hlt : k + (ins.length - k) * 1 + 0 < cur.size := by omega
        rw [cell_of_heap hg (Array.getElem?_eq_getElem hlt)]; rfl) (by intro j hj; exact frozen_of_heap hg)
      rw [hz1, setCells_one] at hr
      have e0 : k + (ins.length - k) * 1 = ins.length := by omega
      rw [e0] at hr
      have hg2 := setCell_heap hg (i := ins.length) (u8 c)
      refine ⟨_, _, hr, ?_, ⟨h1, .inr ⟨g, icap, _, rfl, hb, hg2, hnc, hcm, by rw [Array.size_setIfInBounds, hcs, Nat.mul_one], ?_⟩⟩, (Chg.refl _ _).setCell (.inl (by simp)) _⟩
      · refine ⟨_, icap - k, by simp, by simp; omega, by omega, (fun e => by cases e), fun _ => ⟨g, k, _, _, rfl, hg2, fun i x hix => ?_⟩⟩
        rw [Array.getElem?_setIfInBounds]
        by_cases hi2 : i < ins.length - k
        · rw [List.getElem?_append_left (by simp; omega), List.getElem?_drop] at hix
          rw [if_neg (by omega)]
          exact hat _ _ hix
        · have hlt := (List.getElem?_eq_some_iff.1 hix).1
          simp at hlt
          have hie : i = ins.length - k := by omega
          subst hie
          rw [List.getElem?_append_right (by simp)] at hix
          simp at hix
          subst hix
          rw [if_pos (by omega), if_pos (by omega)]
      · rw [Nat.mul_one, Array.toList_setIfInBounds, List.take_set_of_le (by omega)]
        exact htake
    · have hgrow := run_append_arg_grows (P := Try.prog) w 26 ty 5 i0 (.int .u8 0) 1 1 Try.underlying26 hi hz0 hz1 hz2 rfl (by decide) (if icap = k then ⟨g, 0, none⟩ else ⟨g, k, none⟩) (ins.length - k) (icap - k) ((ins.drop k).map u8) (by simp) (by
        intro j u hj
        rw [List.getElem?_map, List.getElem?_drop] at hj
        cases hx2 : ins[k + j]? with
        | none => rw [hx2] at hj; cases hj
        | some x =>
          rw [hx2] at hj
          simp only [Option.map_some, Option.some.injEq] at hj
          have hlt := (List.getElem?_eq_some_iff.1 hx2).1
          rw [if_neg (by omega), Addr.add_lit, ← hj]
          exact cell_of_heap hg (hat _ _ hx2)) ⟨h, 0, none⟩ 1 1 [u8 c] rfl hnews (by omega) (by unfold maxLen; omega) (by omega)
      obtain ⟨v', w', hr, hown', hgr⟩ := hgrow
      have hch : Chg [] w w' := (Chg.refl [] w).grown hgr (fun k e => by cases e)
      have hv : (if icap = k then some (⟨g, 0, none⟩ : Addr) else some ⟨g, k, none⟩) = some (if icap = k then ⟨g, 0, none⟩ else ⟨g, k, none⟩) := by split <;> rfl
      rw [hv]
      refine ⟨v', w', hr, ?_, OwnB.then ⟨h1, .inr ⟨g, icap, cur, rfl, hb, hg, hnc, hcm, by rw [Nat.mul_one]; exact hcs, by rw [Nat.mul_one]; exact htake⟩⟩ hch, hch.mono (fun x hx => by cases hx)⟩
      have : OwnB w' w.heap.size v' (ins.drop k ++ [c]) := by
        unfold OwnB
        rw [List.length_append, List.length_drop, List.map_append]
        exact hown'
      exact this.isB

set_option maxRecDepth 100000 in
set_option maxHeartbeats 800000 in
/-- slices.Max: 0 just if all are. -/
theorem Max_calls (T : TypeId) (v : Value) (xs : List UInt8) (w : World) (h : IsB w T v xs) (h0 : xs ≠ []) :
    Calls Try.prog 89 #[v] w fun e w' => ∃ m : Nat, m < 256 ∧ e = .returned (.int .u8 m) ∧ (m = 0 ↔ xs.all (· == 0) = true) ∧ w = w' := by
  obtain ⟨ao, cap, rfl, hl, hm, -, hcell⟩ := h.cells
  unfold maxLen at hm
  have hpos : 0 < xs.length := List.length_pos_iff.2 h0
  have hlen : ¬ ((xs.length : Int) < 1) := by omega
  obtain ⟨g, off, rfl, hc0⟩ := hcell 0 hpos
  have HC := Lib.hid (show ∀ i, i < xs.length → w.cell? ⟨g, off + i, none⟩ = some (u8 (xs.getD i 0)) from by
    intro i hi
    obtain ⟨g', off', e, hh⟩ := hcell i hi
    simp only [Option.some.injEq, Addr.mk.injEq, and_true] at e
    obtain ⟨rfl, rfl⟩ := e
    exact hh)
  clear hcell h h0
  obtain ⟨c0, hcc0⟩ : ∃ c, xs.getD 0 0 = c := ⟨_, rfl⟩
  rw [hcc0, Nat.add_zero] at hc0
  have hposi : (0 : Int) < (xs.length : Int) := by omega
  go_enter Try.func89, Try.ntmps89
  go_wp2
  go_loop [4, 3] (fun i x => ∃ (k m : Nat), 1 ≤ k ∧ k ≤ xs.length ∧ i = .int .i64 k ∧ m < 256 ∧ x = .int .u8 m ∧ (m = 0 ↔ (xs.take k).all (· == 0) = true)) (fun i _ => xs.length - (intOf i).toNat)
  case atStart =>
    refine ⟨1, c0.toNat, by omega, by omega, rfl, c0.toNat_lt, rfl, ?_⟩
    have : xs.take 1 = [c0] := by
      match xs, hpos with
      | x :: r, _ => simp at hcc0; simp [hcc0]
    rw [this]
    simp [← UInt8.toNat_inj]
  case round =>
    obtain ⟨k, m, hk1, hk, rfl, hm2, rfl, hz⟩ := hrel
    by_cases hlt : k < xs.length
    · have hi2 : (k : Int) < (xs.length : Int) := by omega
      have hcell := HC.out k hlt
      obtain ⟨c, hcc⟩ : ∃ c, xs.getD k 0 = c := ⟨_, rfl⟩
      rw [hcc] at hcell
      have hcl := c.toNat_lt
      have HZ := Lib.hid hz
      have HCC := Lib.hid hcc
      clear hz hcc
      have hmx : (if m < c.toNat then (c.toNat : Int) else (m : Int)) = ((max m c.toNat : Nat) : Int) := by split <;> omega
      go_wp2
      go_round
      case rel =>
        refine ⟨k + 1, max m c.toNat, by omega, by omega, by go_num, by omega, rfl, ?_⟩
        rw [List.take_add_one, List.getElem?_eq_getElem hlt, List.all_append, Bool.and_eq_true, ← HZ.out]
        have hc2 : xs[k] = c := by
          have := HCC.out
          rw [List.getD_eq_getElem?_getD, List.getElem?_eq_getElem hlt] at this
          simpa using this
        rw [hc2]
        have hz0 : c = 0 ↔ c.toNat = 0 := by rw [← UInt8.toNat_inj]; rfl
        simp [hz0]
      case measure => simp [intOf]; omega
    · obtain rfl : k = xs.length := by omega
      rw [List.take_length] at hz
      have HZ := Lib.hid hz
      clear hz
      go_wp2
      go_ret
      exact ⟨m, hm2, rfl, by simpa using HZ.out, rfl⟩
end Go.Proofs.Ytgmgmjljjbcgjaa

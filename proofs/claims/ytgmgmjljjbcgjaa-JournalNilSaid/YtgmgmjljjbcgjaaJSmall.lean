/- The journal package: place, size, ready, ends, Left, Generation. -/
import Derived.Test.YtgmgmjljjbcgjaaJMem
import Derived.Test.YtgmgmjljjbcgjaaLaw7
namespace Go.Proofs.Ytgmgmjljjbcgjaa
open Go Go.RowKit NSX

set_option maxHeartbeats 400000 in
theorem place_calls (a i : Nat) (w : World) (ha : a ≤ 1) (hi : i ≤ 512) : Calls Try.prog 72 #[.int .i64 a, .int .i64 i] w fun e w' => e = .returned (.int .i64 (a * 512 + i : Nat)) ∧ w = w' := by
  have e : ((a * 512 + i : Nat) : Int) = (a : Int) * 512 + (i : Int) := by omega
  rw [e]
  clear e
  go_enter Try.func72, Try.ntmps72
  go_wp2
  go_ret
  exact ⟨rfl, rfl⟩

/-- What size answers. -/
def sizeAns (n : Nat) (most : Int) : Int := if 32768 < n then 4 else if most < (nBlocks n : Int) then 10 else 0
set_option maxHeartbeats 400000 in
theorem size_calls (T : TypeId) (v : Value) (b : List UInt8) (most : Int) (w : World) (h : IsB w T v b) : Calls Try.prog 69 #[v, .int .i64 most] w fun e w' => e = .returned (.int .i64 (sizeAns b.length most)) ∧ w = w' := by
  obtain ⟨ao, cap, rfl, hl, hm, -, -⟩ := h.cells
  unfold maxLen at hm
  obtain ⟨n, hn⟩ : ∃ n, b.length = n := ⟨_, rfl⟩
  rw [hn] at hl ⊢
  clear h
  by_cases h1 : 32768 < n
  · have h1i : 32768 < (n : Int) := by omega
    have e : sizeAns n most = 4 := by unfold sizeAns; rw [if_pos h1]
    rw [e]
    clear e
    go_enter Try.func69, Try.ntmps69
    go_wp2
    go_ret
    exact ⟨rfl, rfl⟩
  · have h1i : ¬ 32768 < (n : Int) := by omega
    have HB := Lib.hid (Blocks_calls n w (by omega))
    by_cases h2 : most < (nBlocks n : Int)
    · have e : sizeAns n most = 10 := by unfold sizeAns; rw [if_neg h1, if_pos h2]
      rw [e]
      clear e
      go_enter Try.func69, Try.ntmps69
      go_wp2_with (go_at_call 64; refine HB.out.mono ?_; rintro e w' ⟨rfl, rfl⟩)
      go_ret
      exact ⟨rfl, rfl⟩
    · have e : sizeAns n most = 0 := by unfold sizeAns; rw [if_neg h1, if_neg h2]
      rw [e]
      clear e
      go_enter Try.func69, Try.ntmps69
      go_wp2_with (go_at_call 64; refine HB.out.mono ?_; rintro e w' ⟨rfl, rfl⟩)
      go_ret
      exact ⟨rfl, rfl⟩

set_option maxHeartbeats 400000 in
theorem ready_calls (top J S : Nat) (j : Jn) (w : World) (h : JournalAt w top J S j) : Calls Try.prog 75 #[.pointer (some ⟨J, 0, none⟩)] w fun e w' => e = .returned (.int .i64 (if j.lost then 13 else 0)) ∧ w = w' := by
  obtain ⟨v, -, c0, c1, c2, c3, c4, c5, -⟩ := h.facts
  clear h
  obtain ⟨d, hd⟩ : ∃ d, j.lost = d := ⟨_, rfl⟩
  rw [hd] at c5 ⊢
  clear hd
  cases d
  all_goals
    go_enter Try.func75, Try.ntmps75
    go_wp2
    go_ret
    exact ⟨rfl, rfl⟩

set_option maxHeartbeats 400000 in
theorem ends_calls (n : Int) (top J S : Nat) (j : Jn) (w : World) (h : JournalAt w top J S j) : Calls Try.prog 76 #[.pointer (some ⟨J, 0, none⟩), .int .i64 n] w fun e w' => e = .returned (.int .i64 n) ∧ JournalAt w' top J S (if n = 0 then j else { j with lost := true }) ∧ Chg [J] w w' := by
  obtain ⟨v, -, c0, c1, c2, c3, c4, c5, hf⟩ := h.facts
  have f5 := hf 5
  have H1 := Lib.hid h
  have H2 := Lib.hid h.set_lost
  clear h hf
  by_cases hn : n = 0
  · have hn1 : (n != 0) = false := by simp [hn]
    rw [if_pos hn]
    clear hn
    go_enter Try.func76, Try.ntmps76
    go_wp2
    go_ret
    exact ⟨rfl, H1.out, Chg.refl _ _⟩
  · have hn1 : (n != 0) = true := by simp [hn]
    rw [if_neg hn]
    clear hn
    go_enter Try.func76, Try.ntmps76
    go_wp2
    go_ret
    exact ⟨rfl, H2.out, (Chg.refl [J] w).setCell (p := ⟨J, 5, none⟩) (.inl (by simp)) (.bool true)⟩

set_option maxHeartbeats 400000 in
theorem Left_calls (top J S : Nat) (j : Jn) (w : World) (h : JournalAt w top J S j) (hu : j.used ≤ 511) : Calls Try.prog 50 #[.pointer (some ⟨J, 0, none⟩)] w fun e w' => e = .returned (.int .i64 (511 - j.used : Nat)) ∧ w = w' := by
  obtain ⟨v, -, c0, c1, c2, c3, c4, c5, -⟩ := h.facts
  have e : ((511 - j.used : Nat) : Int) = 511 - (j.used : Int) := by omega
  rw [e]
  obtain ⟨d, hd⟩ : ∃ d, j.used = d := ⟨_, rfl⟩
  rw [hd] at c4 hu ⊢
  clear h hd e
  go_enter Try.func50, Try.ntmps50
  go_wp2
  go_ret
  exact ⟨rfl, rfl⟩

set_option maxHeartbeats 400000 in
theorem Generation_calls (top J S : Nat) (j : Jn) (w : World) (h : JournalAt w top J S j) : Calls Try.prog 51 #[.pointer (some ⟨J, 0, none⟩)] w fun e w' => e = .returned (.int .i64 j.gen) ∧ w = w' := by
  obtain ⟨v, -, c0, c1, c2, c3, c4, c5, -⟩ := h.facts
  clear h
  go_enter Try.func51, Try.ntmps51
  go_wp2
  go_ret
  exact ⟨rfl, rfl⟩

set_option maxHeartbeats 400000 in
theorem Snapshot_calls (top J S : Nat) (j : Jn) (b : List UInt8) (w : World) (h : JournalAt w top J S j) (hb : j.bodies[0]? = some b) (hl : b.length ≤ 32768) : Calls Try.prog 65 #[.pointer (some ⟨J, 0, none⟩)] w fun e w' => ∃ v, e = .returned v ∧ OwnB w' w.heap.size v b ∧ Chg [] w w' := by
  obtain ⟨v, hL, c0, c1, c2, c3, c4, c5, -⟩ := h.facts
  obtain ⟨ao, cap, rfl, hlc, hcells⟩ := hL.cells
  obtain ⟨g, x, rfl, hx, ho⟩ := hcells 0 b hb
  have hlen : 0 < j.bodies.length := (List.getElem?_eq_some_iff.1 hb).1
  have HC := Lib.hid (Clone_calls 5 x b w ho.isB (by omega))
  obtain ⟨n, hn⟩ : ∃ n, j.bodies.length = n := ⟨_, rfl⟩
  rw [hn] at c3 hlen hlc
  have hn0 : ((n : Int) == 0) = false := by simp; omega
  have hn1 : (0 : Int) < (n : Int) := by omega
  clear h hL hcells hb ho hn
  go_enter Try.func65, Try.ntmps65
  go_wp2_with (go_at_call 68; refine HC.out.mono ?_; rintro e w' ⟨v', rfl, hown, hch⟩)
  go_ret
  exact ⟨_, rfl, hown, hch⟩
end Go.Proofs.Ytgmgmjljjbcgjaa

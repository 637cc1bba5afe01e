/- The journal in memory; place, size, ready, ends, Left, Generation, Snapshot. -/
import Derived.Test.YtgmgmjljjbcgjaaJLaw
import Derived.Test.YtgmgmjljjbcgjaaList
import Derived.Test.YtgmgmjljjbcgjaaLaw7
namespace Go.Proofs.Ytgmgmjljjbcgjaa
open Go Go.RowKit NSX

/-- A block that a journal's calls may write: a store, a journal, a list of bodies. -/
def JRow (w : World) (k : Nat) : Prop := ∃ cur fr T, w.heap[k]? = some (.cells cur T fr) ∧ (T = 44 ∨ T = 98 ∨ T = 26)
/-- w' is w but for such blocks from 'base' on, and for new ones. -/
structure JChg (base : Nat) (w w' : World) : Prop where
  os : w'.os = w.os
  tape : w'.tape = w.tape
  output : w'.output = w.output
  size : w.heap.size ≤ w'.heap.size
  block : ∀ k, k < w.heap.size → (k < base ∨ ¬ JRow w k) → w'.heap[k]? = w.heap[k]?

theorem JRow.same {w w' : World} {k : Nat} (e : w'.heap[k]? = w.heap[k]?) : JRow w' k ↔ JRow w k := by unfold JRow; rw [e]
theorem JChg.refl (base : Nat) (w : World) : JChg base w w := ⟨rfl, rfl, rfl, Nat.le_refl _, fun _ _ _ => rfl⟩
theorem JChg.trans {base : Nat} {a b c : World} (h : JChg base a b) (k : JChg base b c) : JChg base a c :=
  ⟨k.os.trans h.os, k.tape.trans h.tape, k.output.trans h.output, Nat.le_trans h.size k.size, fun i hi hn => by
    have e := h.block i hi hn
    rw [k.block i (Nat.lt_of_lt_of_le hi h.size) (hn.imp id (fun hr hj => hr ((JRow.same e).1 hj))), e]⟩
theorem JChg.of {base : Nat} {r : List Nat} {w w' : World} (h : Chg r w w') (hr : ∀ x ∈ r, (base ≤ x ∧ JRow w x) ∨ w.heap.size ≤ x) : JChg base w w' :=
  ⟨h.os, h.tape, h.output, h.size, fun k hk hn => h.block k hk (fun hm => by
    rcases hr k hm with ⟨h1, h2⟩ | h1
    · rcases hn with hn | hn
      · omega
      · exact hn h2
    · omega)⟩
theorem JChg.new {base : Nat} {w w' : World} (h : Chg [] w w') : JChg base w w' := JChg.of h (fun _ hx => by cases hx)
theorem JChg.chg {base : Nat} {w0 w w' : World} (h : JChg base w w') (h0 : Chg [] w0 w) (hb : w0.heap.size ≤ base) : Chg [] w0 w' :=
  ⟨h.os.trans h0.os, h.tape.trans h0.tape, h.output.trans h0.output, Nat.le_trans h0.size h.size, fun k hk hn => by
    rw [h.block k (Nat.lt_of_lt_of_le hk h0.size) (.inl (by omega)), h0.block k hk hn]⟩
theorem JChg.heap {base : Nat} {w w' : World} (h : JChg base w w') {g : Nat} {cur : Array Value} {T : TypeId} {fr : Nat × Nat} (ho : w.heap[g]? = some (.cells cur T fr)) (hT : T ≠ 44 ∧ T ≠ 98 ∧ T ≠ 26) : w'.heap[g]? = some (.cells cur T fr) :=
  (h.block g (heap_lt ho) (.inr (fun ⟨_, _, T', e, hT'⟩ => by
    rw [ho] at e
    simp only [Option.some.injEq, Obj.cells.injEq] at e
    obtain ⟨-, rfl, -⟩ := e
    rcases hT' with h | h | h
    · exact hT.1 h
    · exact hT.2.1 h
    · exact hT.2.2 h))).trans ho
theorem JChg.row {base : Nat} {w w' : World} (h : JChg base w w') {b e size n : Nat} {v : Value} {xs : List Value} (ho : w.ownsRow b e size v n xs) (hT : e ≠ 44 ∧ e ≠ 98 ∧ e ≠ 26) : w'.ownsRow b e size v n xs := by
  refine ⟨ho.1, ?_⟩
  rcases ho.2 with h2 | ⟨g, cap, cur, hv, hg, hh, rest⟩
  · exact .inl h2
  · exact .inr ⟨g, cap, cur, hv, hg, h.heap hh hT, rest⟩
theorem JChg.own {base : Nat} {w w' : World} (h : JChg base w w') {b : Nat} {v : Value} {bs : List UInt8} (ho : OwnB w b v bs) : OwnB w' b v bs := h.row ho ⟨by decide, by decide, by decide⟩
theorem JChg.isB {base : Nat} {w w' : World} (h : JChg base w w') {v : Value} {bs : List UInt8} (ho : IsB w 5 v bs) : IsB w' 5 v bs := by
  obtain ⟨ao, cap, hv, hl, hm, hz, hb⟩ := ho
  refine ⟨ao, cap, hv, hl, hm, hz, fun h0 => ?_⟩
  obtain ⟨g, off, cur, fr, ha, hg, hcells⟩ := hb h0
  exact ⟨g, off, cur, fr, ha, h.heap hg ⟨by decide, by decide, by decide⟩, hcells⟩

/-- What a journal is. -/
structure Jn where
  area : Nat
  gen : Nat
  bodies : List (List UInt8)
  used : Nat
  lost : Bool

def Jn.cells (S : Nat) (v : Value) (j : Jn) : List Value := [.pointer (some ⟨S, 0, none⟩), .int .i64 j.area, .int .i64 j.gen, v, .int .i64 j.used, .bool j.lost]
/-- Block J is a journal on the store S: the store lies ahead of it, its bodies behind it. -/
def JournalAt (w : World) (top J S : Nat) (j : Jn) : Prop :=
  S < J ∧ ∃ v, w.heap[J]? = some (.cells (j.cells S v).toArray 98 (0, 0)) ∧ ListB w (J + 1) top v j.bodies

/-- Rows that are none of the list's. -/
theorem ListB.other {w w' : World} {base top : Nat} {v : Value} {l : List (List UInt8)} {r : List Nat} (h : ListB w base top v l) (hc : Chg r w w') (hr : ∀ x ∈ r, x < base ∨ top ≤ x) : ListB w' base top v l := by
  obtain ⟨vs, h1, h2, h3⟩ := h
  have hn : ∀ {e size n : Nat} {x : Value} {xs : List Value}, w.ownsRow base e size x n xs → (∀ k, x.ownBlock = some k → k < top) → ∀ k, x.ownBlock = some k → k ∉ r := by
    intro e size n x xs ho ht k hk hm
    rcases hr k hm with h | h
    · have := (World.ownsRow.lt ho k hk).1; omega
    · have := ht k hk; omega
  refine ⟨vs, ⟨h1.1, ?_⟩, h2, fun i x b hx hb => ⟨(h3 i x b hx hb).1.chg hc (hn (h3 i x b hx hb).1 (h3 i x b hx hb).2), (h3 i x b hx hb).2⟩⟩
  rcases h1.2 with h | ⟨g, cap, cur, hv, hg, hh, rest⟩
  · exact .inl h
  · exact .inr ⟨g, cap, cur, hv, hg, hc.heap hh (hn h1 h2 g (by rw [hv]; rfl)), rest⟩
theorem JournalAt.mono {w : World} {top top' J S : Nat} {j : Jn} (h : JournalAt w top J S j) (ht : top ≤ top') : JournalAt w top' J S j := by
  obtain ⟨hb, v, h1, h2⟩ := h
  exact ⟨hb, v, h1, h2.mono (Nat.le_refl _) ht⟩
/-- Rows that are none of the journal's. -/
theorem JournalAt.other {w w' : World} {top J S : Nat} {j : Jn} {r : List Nat} (h : JournalAt w top J S j) (hc : Chg r w w') (hr : ∀ x ∈ r, x < J ∨ top ≤ x) (hJ : J < top) : JournalAt w' top J S j := by
  obtain ⟨hb, v, h1, h2⟩ := h
  exact ⟨hb, v, hc.heap h1 (fun hm => by rcases hr J hm with h | h <;> omega), h2.other hc (fun x hx => (hr x hx).imp (fun h => by omega) id)⟩
theorem JournalAt.then {w w' : World} {top J S : Nat} {j : Jn} (h : JournalAt w top J S j) (hc : Chg [] w w') : JournalAt w' top J S j := by
  obtain ⟨hb, v, h1, h2⟩ := h
  exact ⟨hb, v, hc.heap h1 (by simp), h2.other hc (by simp)⟩
/-- The store was written. -/
theorem JournalAt.stored {w w' : World} {top J S : Nat} {j : Jn} (h : JournalAt w top J S j) (hc : Chg [S] w w') : JournalAt w' top J S j := by
  obtain ⟨hb, v, h1, h2⟩ := h
  exact ⟨hb, v, hc.heap h1 (by simp; omega), h2.other hc (fun x hx => by simp at hx; subst hx; left; omega)⟩
theorem JournalAt.lt {w : World} {top J S : Nat} {j : Jn} (h : JournalAt w top J S j) : S < J ∧ J < w.heap.size := by
  obtain ⟨hb, v, h1, _⟩ := h
  exact ⟨hb, heap_lt h1⟩
theorem StoreAt.row {w : World} {S : Nat} {st : St} (h : StoreAt w S st) : JRow w S := ⟨_, _, _, h.2, .inl rfl⟩
theorem StoreAt.lt {w : World} {S : Nat} {st : St} (h : StoreAt w S st) : S < w.heap.size := heap_lt h.2
theorem JournalAt.row {w : World} {top J S : Nat} {j : Jn} (h : JournalAt w top J S j) : JRow w J := by
  obtain ⟨_, v, h1, _⟩ := h
  exact ⟨_, _, _, h1, .inr (.inl rfl)⟩
theorem ListB.row {w : World} {base top : Nat} {v : Value} {l : List (List UInt8)} (h : ListB w base top v l) : ∀ k ∈ v.ownBlock.toList, base ≤ k ∧ JRow w k := by
  intro k hk
  have hk' : v.ownBlock = some k := by simpa using hk
  obtain ⟨vs, h1, _⟩ := h
  obtain ⟨cur, e⟩ := row_type h1 hk'
  exact ⟨(World.ownsRow.lt h1 k hk').1, ⟨_, _, _, e, .inr (.inr rfl)⟩⟩
theorem JChg.store {base : Nat} {w w' : World} {S : Nat} {st : St} (hs : StoreAt w S st) (hb : base ≤ S) (hc : Chg [S] w w') : JChg base w w' :=
  JChg.of hc (fun x hx => by simp at hx; subst hx; exact .inl ⟨hb, hs.row⟩)

/-- A journal's cells, for a walk. -/
theorem JournalAt.facts {w : World} {top J S : Nat} {j : Jn} (h : JournalAt w top J S j) : ∃ v, ListB w (J + 1) top v j.bodies ∧
    w.cell? ⟨J, 0, none⟩ = some (.pointer (some ⟨S, 0, none⟩)) ∧ w.cell? ⟨J, 1, none⟩ = some (.int .i64 j.area) ∧ w.cell? ⟨J, 2, none⟩ = some (.int .i64 j.gen) ∧ w.cell? ⟨J, 3, none⟩ = some v ∧
    w.cell? ⟨J, 4, none⟩ = some (.int .i64 j.used) ∧ w.cell? ⟨J, 5, none⟩ = some (.bool j.lost) ∧ ∀ i, w.frozen? ⟨J, i, none⟩ = false := by
  obtain ⟨_, v, h1, h2⟩ := h
  exact ⟨v, h2, cell_of_heap h1 rfl, cell_of_heap h1 rfl, cell_of_heap h1 rfl, cell_of_heap h1 rfl, cell_of_heap h1 rfl, cell_of_heap h1 rfl, fun i => frozen_of_heap h1⟩
theorem JournalAt.set_lost {w : World} {top J S : Nat} {j : Jn} (h : JournalAt w top J S j) : JournalAt (w.setCell ⟨J, 5, none⟩ (.bool true)) top J S { j with lost := true } := by
  obtain ⟨hb, v, h1, h2⟩ := h
  exact ⟨hb, v, by rw [setCell_heap h1]; rfl, h2.other ((Chg.refl [J] w).setCell (p := ⟨J, 5, none⟩) (.inl (by simp)) (.bool true)) (fun x hx => by simp at hx; subst hx; left; omega)⟩

set_option maxHeartbeats 400000 in
theorem place_calls (a i : Nat) (w : World) (ha : a ≤ 1) (hi : i ≤ 512) : Calls Try.prog 72 #[.int .i64 a, .int .i64 i] w fun e w' => e = .returned (.int .i64 (a * 512 + i : Nat)) ∧ w = w' := by
  have e : ((a * 512 + i : Nat) : Int) = (a : Int) * 512 + (i : Int) := by omega
  rw [e]
  clear e
  go_enter Try.func72, Try.ntmps72
  go_wp2
  go_ret
  exact ⟨rfl, rfl⟩

/-- What size answers. -/
def sizeAns (n : Nat) (most : Int) : Int := if 32768 < n then 4 else if most < (nBlocks n : Int) then 10 else 0
set_option maxHeartbeats 400000 in
theorem size_calls (T : TypeId) (v : Value) (b : List UInt8) (most : Int) (w : World) (h : IsB w T v b) : Calls Try.prog 69 #[v, .int .i64 most] w fun e w' => e = .returned (.int .i64 (sizeAns b.length most)) ∧ w = w' := by
  obtain ⟨ao, cap, rfl, hl, hm, -, -⟩ := h.cells
  unfold maxLen at hm
  obtain ⟨n, hn⟩ : ∃ n, b.length = n := ⟨_, rfl⟩
  rw [hn] at hl ⊢
  clear h
  by_cases h1 : 32768 < n
  · have h1i : 32768 < (n : Int) := by omega
    have e : sizeAns n most = 4 := by unfold sizeAns; rw [if_pos h1]
    rw [e]
    clear e
    go_enter Try.func69, Try.ntmps69
    go_wp2
    go_ret
    exact ⟨rfl, rfl⟩
  · have h1i : ¬ 32768 < (n : Int) := by omega
    have HB := Lib.hid (Blocks_calls n w (by omega))
    by_cases h2 : most < (nBlocks n : Int)
    · have e : sizeAns n most = 10 := by unfold sizeAns; rw [if_neg h1, if_pos h2]
      rw [e]
      clear e
      go_enter Try.func69, Try.ntmps69
      go_wp2_with (go_at_call 64; refine HB.out.mono ?_; rintro e w' ⟨rfl, rfl⟩)
      go_ret
      exact ⟨rfl, rfl⟩
    · have e : sizeAns n most = 0 := by unfold sizeAns; rw [if_neg h1, if_neg h2]
      rw [e]
      clear e
      go_enter Try.func69, Try.ntmps69
      go_wp2_with (go_at_call 64; refine HB.out.mono ?_; rintro e w' ⟨rfl, rfl⟩)
      go_ret
      exact ⟨rfl, rfl⟩

set_option maxHeartbeats 400000 in
theorem ready_calls (top J S : Nat) (j : Jn) (w : World) (h : JournalAt w top J S j) : Calls Try.prog 75 #[.pointer (some ⟨J, 0, none⟩)] w fun e w' => e = .returned (.int .i64 (if j.lost then 13 else 0)) ∧ w = w' := by
  obtain ⟨v, -, c0, c1, c2, c3, c4, c5, -⟩ := h.facts
  clear h
  obtain ⟨d, hd⟩ : ∃ d, j.lost = d := ⟨_, rfl⟩
  rw [hd] at c5 ⊢
  clear hd
  cases d
  all_goals
    go_enter Try.func75, Try.ntmps75
    go_wp2
    go_ret
    exact ⟨rfl, rfl⟩

set_option maxHeartbeats 400000 in
theorem ends_calls (n : Int) (top J S : Nat) (j : Jn) (w : World) (h : JournalAt w top J S j) : Calls Try.prog 76 #[.pointer (some ⟨J, 0, none⟩), .int .i64 n] w fun e w' => e = .returned (.int .i64 n) ∧ JournalAt w' top J S (if n = 0 then j else { j with lost := true }) ∧ Chg [J] w w' := by
  obtain ⟨v, -, c0, c1, c2, c3, c4, c5, hf⟩ := h.facts
  have f5 := hf 5
  have H1 := Lib.hid h
  have H2 := Lib.hid h.set_lost
  clear h hf
  by_cases hn : n = 0
  · have hn1 : (n != 0) = false := by simp [hn]
    rw [if_pos hn]
    clear hn
    go_enter Try.func76, Try.ntmps76
    go_wp2
    go_ret
    exact ⟨rfl, H1.out, Chg.refl _ _⟩
  · have hn1 : (n != 0) = true := by simp [hn]
    rw [if_neg hn]
    clear hn
    go_enter Try.func76, Try.ntmps76
    go_wp2
    go_ret
    exact ⟨rfl, H2.out, (Chg.refl [J] w).setCell (p := ⟨J, 5, none⟩) (.inl (by simp)) (.bool true)⟩

set_option maxHeartbeats 400000 in
theorem Left_calls (top J S : Nat) (j : Jn) (w : World) (h : JournalAt w top J S j) (hu : j.used ≤ 511) : Calls Try.prog 50 #[.pointer (some ⟨J, 0, none⟩)] w fun e w' => e = .returned (.int .i64 (511 - j.used : Nat)) ∧ w = w' := by
  obtain ⟨v, -, c0, c1, c2, c3, c4, c5, -⟩ := h.facts
  have e : ((511 - j.used : Nat) : Int) = 511 - (j.used : Int) := by omega
  rw [e]
  obtain ⟨d, hd⟩ : ∃ d, j.used = d := ⟨_, rfl⟩
  rw [hd] at c4 hu ⊢
  clear h hd e
  go_enter Try.func50, Try.ntmps50
  go_wp2
  go_ret
  exact ⟨rfl, rfl⟩

set_option maxHeartbeats 400000 in
theorem Generation_calls (top J S : Nat) (j : Jn) (w : World) (h : JournalAt w top J S j) : Calls Try.prog 51 #[.pointer (some ⟨J, 0, none⟩)] w fun e w' => e = .returned (.int .i64 j.gen) ∧ w = w' := by
  obtain ⟨v, -, c0, c1, c2, c3, c4, c5, -⟩ := h.facts
  clear h
  go_enter Try.func51, Try.ntmps51
  go_wp2
  go_ret
  exact ⟨rfl, rfl⟩

set_option maxHeartbeats 400000 in
theorem Snapshot_calls (top J S : Nat) (j : Jn) (b : List UInt8) (w : World) (h : JournalAt w top J S j) (hb : j.bodies[0]? = some b) (hl : b.length ≤ 32768) : Calls Try.prog 65 #[.pointer (some ⟨J, 0, none⟩)] w fun e w' => ∃ v, e = .returned v ∧ OwnB w' w.heap.size v b ∧ Chg [] w w' := by
  obtain ⟨v, hL, c0, c1, c2, c3, c4, c5, -⟩ := h.facts
  obtain ⟨ao, cap, rfl, hlc, hcells⟩ := hL.cells
  obtain ⟨g, x, rfl, hx, ho⟩ := hcells 0 b hb
  have hlen : 0 < j.bodies.length := (List.getElem?_eq_some_iff.1 hb).1
  have HC := Lib.hid (Clone_calls 5 x b w ho.isB (by omega))
  obtain ⟨n, hn⟩ : ∃ n, j.bodies.length = n := ⟨_, rfl⟩
  rw [hn] at c3 hlen hlc
  have hn0 : ((n : Int) == 0) = false := by simp; omega
  have hn1 : (0 : Int) < (n : Int) := by omega
  clear h hL hcells hb ho hn
  go_enter Try.func65, Try.ntmps65
  go_wp2_with (go_at_call 68; refine HC.out.mono ?_; rintro e w' ⟨v', rfl, hown, hch⟩)
  go_ret
  exact ⟨_, rfl, hown, hch⟩
end Go.Proofs.Ytgmgmjljjbcgjaa

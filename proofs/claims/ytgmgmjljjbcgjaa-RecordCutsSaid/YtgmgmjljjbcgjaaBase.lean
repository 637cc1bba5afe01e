/- Words for the walks: what a call changes ('Chg'), a slice of bytes that can be read ('IsB'), one that the call owns. -/
import Derived.Test.YtgmgmjljjbcgjaaZero
import Derived.WalkKit
import Derived.WalkSpells
import Derived.WalkLawsBesides
import Derived.Lib.Hide
import Derived.Laws.CopyOwn
namespace Go.Proofs.Ytgmgmjljjbcgjaa
open Go Go.RowKit

/-- w' is w but for the blocks 'rows', and for new ones. -/
structure Chg (rows : List Nat) (w w' : World) : Prop where
  os : w'.os = w.os
  tape : w'.tape = w.tape
  output : w'.output = w.output
  size : w.heap.size ≤ w'.heap.size
  block : ∀ k, k < w.heap.size → k ∉ rows → w'.heap[k]? = w.heap[k]?

theorem Chg.refl (rows : List Nat) (w : World) : Chg rows w w := ⟨rfl, rfl, rfl, Nat.le_refl _, fun _ _ _ => rfl⟩
theorem Chg.trans {r r' : List Nat} {a b c : World} (h : Chg r a b) (k : Chg r' b c) (hr : ∀ x ∈ r', x ∈ r ∨ a.heap.size ≤ x) : Chg r a c :=
  ⟨k.os.trans h.os, k.tape.trans h.tape, k.output.trans h.output, Nat.le_trans h.size k.size,
    fun i hi hn => (k.block i (Nat.lt_of_lt_of_le hi h.size) (fun hm => (hr i hm).elim hn (fun h' => by omega))).trans (h.block i hi hn)⟩
theorem Chg.then {r : List Nat} {a b c : World} (h : Chg r a b) (k : Chg [] b c) : Chg r a c := h.trans k (fun _ hx => by cases hx)
theorem Chg.same {r : List Nat} {a b c : World} (h : Chg r a b) (k : Chg r b c) : Chg r a c := h.trans k (fun _ hx => .inl hx)
theorem Chg.mono {r r' : List Nat} {a b : World} (h : Chg r a b) (hr : ∀ x ∈ r, x ∈ r') : Chg r' a b :=
  ⟨h.os, h.tape, h.output, h.size, fun k hk hn => h.block k hk (fun hm => hn (hr k hm))⟩
theorem Chg.drew {r : List Nat} {a w : World} (h : Chg r a w) : Chg r a w.drew := ⟨h.os, h.tape, h.output, h.size, h.block⟩
theorem Chg.drewN {r : List Nat} {a w : World} (h : Chg r a w) (n : Nat) : Chg r a (w.drewN n) := ⟨h.os, h.tape, h.output, h.size, h.block⟩
theorem Chg.alloc {r : List Nat} {a w : World} (h : Chg r a w) (o : Obj) : Chg r a (w.alloc o) :=
  h.then ⟨rfl, rfl, rfl, by simp, fun k hk _ => Below.heap_alloc _ _ _ hk⟩
theorem Chg.setCell {r : List Nat} {a w : World} (h : Chg r a w) {p : Addr} (hp : p.block ∈ r ∨ a.heap.size ≤ p.block) (u : Value) : Chg r a (w.setCell p u) :=
  h.trans (r' := [p.block]) ⟨rfl, rfl, rfl, by simp [World.setCell], fun k _ hk => Below.heap_setCell _ _ _ _ (by simpa using hk)⟩ (fun x hx => by simp at hx; subst hx; exact hp)
theorem Chg.setRow {r : List Nat} {a w : World} (h : Chg r a w) {g : Nat} (hp : g ∈ r ∨ a.heap.size ≤ g) (cs : Array Value) : Chg r a (w.setRow g cs) :=
  h.trans (r' := [g]) ⟨rfl, rfl, rfl, by simp, fun k _ hk => setRow_other _ _ _ _ (by simpa using hk)⟩ (fun x hx => by simp at hx; subst hx; exact hp)
theorem Chg.grown {r : List Nat} {a w w' : World} {row : Option Nat} (h : Chg r a w) (hg : w.grownBy w' row) (hr : ∀ k, row = some k → k ∈ r ∨ a.heap.size ≤ k) : Chg r a w' :=
  h.trans (r' := row.toList) ⟨hg.os, hg.tape, hg.output, hg.size, fun k hk hn => hg.block k hk (fun e => hn (by rw [← e]; simp))⟩ (fun x hx => hr x (by simpa using hx))
theorem Chg.below {r : List Nat} {w w' : World} (h : Chg r w w') (B : Nat) (hB : B ≤ w.heap.size) (hr : ∀ k ∈ r, B ≤ k) : Below B w w' :=
  ⟨h.os, h.tape, h.output, h.size, fun k hk => h.block k (by omega) (fun hm => by have := hr k hm; omega)⟩
theorem Chg.of_below {w w' : World} {B : Nat} (h : Below B w w') (hB : w.heap.size ≤ B) : Chg [] w w' := ⟨h.os, h.tape, h.output, h.size, fun k hk _ => h.block k (by omega)⟩
theorem Chg.heap {r : List Nat} {w w' : World} (h : Chg r w w') {g : Nat} {o : Obj} (ho : w.heap[g]? = some o) (hn : g ∉ r) : w'.heap[g]? = some o :=
  (h.block g (Array.getElem?_eq_some_iff.1 ho).1 hn).trans ho
theorem Chg.cell {r : List Nat} {w w' : World} (h : Chg r w w') {a : Addr} {v : Value} (hv : w.cell? a = some v) (hn : a.block ∉ r) : w'.cell? a = some v :=
  (World.cell?_of_block (h.block a.block (World.block_lt_of_cell? w a hv) hn)).trans hv

theorem heap_lt {w : World} {g : Nat} {o : Obj} (h : w.heap[g]? = some o) : g < w.heap.size := (Array.getElem?_eq_some_iff.1 h).1
theorem cell_of_heap {w : World} {g i : Nat} {cur : Array Value} {T : TypeId} {fr : Nat × Nat} {v : Value} (h : w.heap[g]? = some (.cells cur T fr)) (hv : cur[i]? = some v) : w.cell? ⟨g, i, none⟩ = some v := by
  simp [World.cell?, h, hv]
theorem frozen_of_heap {w : World} {g i : Nat} {cur : Array Value} {T : TypeId} (h : w.heap[g]? = some (.cells cur T (0, 0))) : w.frozen? ⟨g, i, none⟩ = false := by
  simp [World.frozen?, h]
theorem setCell_heap {w : World} {g i : Nat} {cur : Array Value} {T : TypeId} {fr : Nat × Nat} (h : w.heap[g]? = some (.cells cur T fr)) (v : Value) :
    (w.setCell ⟨g, i, none⟩ v).heap[g]? = some (.cells (cur.setIfInBounds i v) T fr) := by
  rw [setCell_eq_setRow w g i cur T fr v h]
  exact setRow_heap _ _ _ _ _ _ h

/-- A byte as a cell holds it. -/
abbrev u8 (c : UInt8) : Value := .int .u8 (c.toNat : Int)
theorem u8_one (c : UInt8) : (u8 c).oneCell' = true := rfl
theorem u8s_one (l : List UInt8) : ∀ v ∈ l.map u8, v.oneCell' = true := by
  intro v hv
  obtain ⟨c, _, rfl⟩ := List.mem_map.1 hv
  rfl

/-- A slice of bytes that can be read: it lies in a block of elements of type T. -/
def IsB (w : World) (T : TypeId) (v : Value) (bs : List UInt8) : Prop :=
  ∃ ao cap, v = .slice ao bs.length cap ∧ bs.length ≤ cap ∧ cap ≤ maxLen ∧ (ao = none → cap = 0) ∧ (bs ≠ [] → ∃ g off cur fr, ao = some ⟨g, off, none⟩ ∧ w.heap[g]? = some (.cells cur T fr) ∧ ∀ i c, bs[i]? = some c → cur[off + i]? = some (u8 c))

/-- A beginning of a slice. -/
theorem IsB.take {w : World} {T : TypeId} {ao : Option Addr} {n cap : Nat} {bs : List UInt8} (h : IsB w T (.slice ao n cap) bs) (k : Nat) (hk : k ≤ bs.length) : IsB w T (.slice ao k cap) (bs.take k) := by
  obtain ⟨ao', cap', hv, hl, hm, hz, hb⟩ := h
  simp only [Value.slice.injEq] at hv
  obtain ⟨rfl, rfl, rfl⟩ := hv
  have hlen : (bs.take k).length = k := by simp; omega
  refine ⟨ao, cap, by rw [hlen], by omega, hm, hz, fun h0 => ?_⟩
  obtain ⟨g, off, cur, fr, ha, hg, hc⟩ := hb (fun e => h0 (by rw [e]; simp))
  refine ⟨g, off, cur, fr, ha, hg, fun i c hi => hc i c ?_⟩
  rw [List.getElem?_take] at hi
  split at hi
  · exact hi
  · cases hi
/-- The rest of a slice. -/
theorem IsB.drop {w : World} {T : TypeId} {ao : Option Addr} {n cap : Nat} {bs : List UInt8} (h : IsB w T (.slice ao n cap) bs) (k : Nat) (hk : k ≤ bs.length) :
    IsB w T (.slice (if cap = k then ao else ao.map fun x => x.add k) (n - k) (cap - k)) (bs.drop k) := by
  obtain ⟨ao', cap', hv, hl, hm, hz, hb⟩ := h
  simp only [Value.slice.injEq] at hv
  obtain ⟨rfl, rfl, rfl⟩ := hv
  have hlen : (bs.drop k).length = bs.length - k := by simp
  refine ⟨_, _, by rw [hlen], by omega, by omega, fun e => ?_, fun h0 => ?_⟩
  · split at e
    · omega
    · cases ao with
      | none => have := hz rfl; omega
      | some a => simp at e
  · obtain ⟨g, off, cur, fr, ha, hg, hc⟩ := hb (fun e => h0 (by rw [e]; simp))
    have hne : cap ≠ k := by
      intro e
      apply h0
      apply List.drop_eq_nil_of_le; omega
    refine ⟨g, off + k, cur, fr, ?_, hg, fun i c hi => ?_⟩
    · rw [if_neg hne, ha]
      simp [Addr.add]
    · rw [List.getElem?_drop] at hi
      rw [← hc (k + i) c hi]; congr 1; omega

theorem IsB.nil (w : World) (T : TypeId) : IsB w T (.slice none 0 0) [] := ⟨none, 0, rfl, Nat.le_refl _, Nat.zero_le _, fun _ => rfl, fun h => absurd rfl h⟩

theorem IsB.chg {w w' : World} {T : TypeId} {v : Value} {bs : List UInt8} {r : List Nat} (h : IsB w T v bs) (hc : Chg r w w') (hn : ∀ g cur fr, w.heap[g]? = some (.cells cur T fr) → g ∉ r) : IsB w' T v bs := by
  obtain ⟨ao, cap, hv, hl, hm, hz, hb⟩ := h
  refine ⟨ao, cap, hv, hl, hm, hz, fun h0 => ?_⟩
  obtain ⟨g, off, cur, fr, ha, hg, hcells⟩ := hb h0
  exact ⟨g, off, cur, fr, ha, hc.heap hg (hn g cur fr hg), hcells⟩
theorem IsB.then {w w' : World} {T : TypeId} {v : Value} {bs : List UInt8} (h : IsB w T v bs) (hc : Chg [] w w') : IsB w' T v bs := h.chg hc (fun _ _ _ _ hm => by cases hm)

/-- What the slice is, with its cells, for a walk. -/
theorem IsB.cells {w : World} {T : TypeId} {v : Value} {bs : List UInt8} (h : IsB w T v bs) : ∃ ao cap, v = .slice ao bs.length cap ∧ bs.length ≤ cap ∧ cap ≤ maxLen ∧ (ao = none → cap = 0) ∧
    ∀ i, i < bs.length → ∃ g off, ao = some ⟨g, off, none⟩ ∧ w.cell? ⟨g, off + i, none⟩ = some (u8 (bs.getD i 0)) := by
  obtain ⟨ao, cap, hv, hl, hm, hz, hb⟩ := h
  refine ⟨ao, cap, hv, hl, hm, hz, fun i hi => ?_⟩
  obtain ⟨g, off, cur, fr, ha, hg, hc⟩ := hb (fun e => by rw [e] at hi; simp at hi)
  refine ⟨g, off, ha, cell_of_heap hg (hc i _ ?_)⟩
  rw [List.getD_eq_getElem?_getD, List.getElem?_eq_getElem hi]; rfl

/-- Bytes that the call owns: they begin a row of bytes from block 'base' on. -/
def OwnB (w : World) (base : Nat) (v : Value) (bs : List UInt8) : Prop := w.ownsRow base 5 1 v bs.length (bs.map u8)

theorem OwnB.isB {w : World} {base : Nat} {v : Value} {bs : List UInt8} (h : OwnB w base v bs) : IsB w 5 v bs := by
  obtain ⟨_, h2⟩ := h
  rcases h2 with ⟨hv, hn⟩ | ⟨g, cap, cur, hv, hg, hh, hnc, hcm, hcs, htake⟩
  · have : bs = [] := List.eq_nil_of_length_eq_zero hn
    subst this
    rw [hv]; exact IsB.nil w 5
  · refine ⟨_, cap, hv, hnc, hcm, (fun e => by cases e), fun _ => ⟨g, 0, cur, (0, 0), rfl, hh, fun i c hi => ?_⟩⟩
    have hlt : i < bs.length := (List.getElem?_eq_some_iff.1 hi).1
    have h1 : (bs.map u8)[i]? = some (u8 c) := by rw [List.getElem?_map, hi]; rfl
    rw [← htake, List.getElem?_take] at h1
    rw [if_pos (by simpa using hlt)] at h1
    rw [Nat.zero_add]; simpa using h1
theorem OwnB.chg {w w' : World} {base : Nat} {v : Value} {bs : List UInt8} {r : List Nat} (h : OwnB w base v bs) (hc : Chg r w w') (hn : ∀ k, v.ownBlock = some k → k ∉ r) : OwnB w' base v bs := by
  refine ⟨h.1, ?_⟩
  rcases h.2 with h2 | ⟨g, cap, cur, hv, hg, hh, rest⟩
  · exact .inl h2
  · exact .inr ⟨g, cap, cur, hv, hg, hc.heap hh (hn g (by rw [hv]; rfl)), rest⟩
theorem OwnB.then {w w' : World} {base : Nat} {v : Value} {bs : List UInt8} (h : OwnB w base v bs) (hc : Chg [] w w') : OwnB w' base v bs := h.chg hc (fun _ _ hm => by cases hm)
theorem OwnB.mono {w : World} {base base' : Nat} {v : Value} {bs : List UInt8} (h : OwnB w base v bs) (hb : base' ≤ base) : OwnB w base' v bs := by
  refine ⟨h.1, ?_⟩
  rcases h.2 with h2 | ⟨g, cap, cur, hv, hg, rest⟩
  · exact .inl h2
  · exact .inr ⟨g, cap, cur, hv, by omega, rest⟩

/-- Some bytes of a row: what an append reads. -/
theorem IsB.news {w : World} {T : TypeId} {v : Value} {bs : List UInt8} (h : IsB w T v bs) (h0 : bs ≠ []) : ∃ a cap, v = .slice (some a) bs.length cap ∧ ∀ j u, (bs.map u8)[j]? = some u → w.cell? (a.add j) = some u := by
  obtain ⟨ao, cap, hv, hl, hm, _, hb⟩ := h
  obtain ⟨g, off, cur, fr, ha, hg, hc⟩ := hb h0
  subst ha
  refine ⟨_, cap, hv, fun j u hu => ?_⟩
  rw [List.getElem?_map] at hu
  cases hj : bs[j]? with
  | none => rw [hj] at hu; cases hu
  | some c =>
    rw [hj] at hu
    simp only [Option.map_some, Option.some.injEq] at hu
    have : (⟨g, off, none⟩ : Addr).add j = ⟨g, off + j, none⟩ := by unfold Addr.add; split <;> simp_all
    rw [this, ← hu]
    exact cell_of_heap hg (hc j c hj)

/-- A byte of the call's own is read, and written. -/
theorem OwnB.cell {w : World} {base g n cap : Nat} {bs : List UInt8} (h : OwnB w base (.slice (some ⟨g, 0, none⟩) n cap) bs) (i : Nat) (hi : i < bs.length) :
    w.cell? ⟨g, i, none⟩ = some (u8 (bs.getD i 0)) ∧ w.frozen? ⟨g, i, none⟩ = false := by
  obtain ⟨_, h2⟩ := h
  rcases h2 with ⟨h', _⟩ | ⟨g', cap', cur, h', _, hg, _, _, _, htake⟩
  · simp at h'
  · simp only [Value.slice.injEq, Option.some.injEq, Addr.mk.injEq, and_true] at h'
    obtain ⟨rfl, rfl, rfl⟩ := h'
    refine ⟨?_, frozen_of_heap hg⟩
    have h1 : (bs.map u8)[i]? = some (u8 (bs.getD i 0)) := by rw [List.getElem?_map, List.getD_eq_getElem?_getD, List.getElem?_eq_getElem hi]; rfl
    rw [← htake, List.getElem?_take, if_pos (by simpa using hi)] at h1
    exact cell_of_heap hg (by simpa using h1)
theorem OwnB.stored {w : World} {base g n cap : Nat} {bs : List UInt8} (h : OwnB w base (.slice (some ⟨g, 0, none⟩) n cap) bs) (i : Nat) (c : UInt8) :
    OwnB (w.setCell ⟨g, i, none⟩ (u8 c)) base (.slice (some ⟨g, 0, none⟩) n cap) (bs.set i c) := by
  obtain ⟨h1, h2⟩ := h
  rcases h2 with ⟨h', _⟩ | ⟨g', cap', cur, h', hb, hg, hnc, hcm, hcs, htake⟩
  · simp at h'
  · simp only [Value.slice.injEq, Option.some.injEq, Addr.mk.injEq, and_true] at h'
    obtain ⟨rfl, rfl, rfl⟩ := h'
    refine ⟨by simp, .inr ⟨g, cap, cur.setIfInBounds i (u8 c), by simp, hb, setCell_heap hg _, by simpa using hnc, hcm, by simpa using hcs, ?_⟩⟩
    rw [List.length_set, List.map_set, ← htake, Array.toList_setIfInBounds]
    apply List.ext_getElem?
    intro j
    simp only [List.getElem?_take, List.getElem?_set, List.length_take]
    by_cases h1 : j < bs.length * 1
    · simp only [h1, if_true]
      by_cases h2 : i = j
      · subst h2
        simp only [if_true]
        by_cases h3 : i < cur.toList.length
        · rw [if_pos h3, if_pos (by omega)]
        · rw [if_neg h3, if_neg (by omega)]
      · simp only [h2, if_false]
    · simp only [h1, if_false]
      by_cases h2 : i = j
      · subst h2
        rw [if_pos rfl, if_neg (by omega)]
      · simp only [h2, if_false]
theorem OwnB.lt {w : World} {base : Nat} {v : Value} {bs : List UInt8} (h : OwnB w base v bs) : ∀ k, v.ownBlock = some k → base ≤ k ∧ k < w.heap.size := World.ownsRow.lt h
theorem OwnB.nil (w : World) (base : Nat) : OwnB w base (.slice none 0 0) [] := World.ownsRow_nil _ _ _ _
/-- Own bytes that are some: where they lie. -/
theorem OwnB.at {w : World} {base : Nat} {v : Value} {bs : List UInt8} (h : OwnB w base v bs) (h0 : bs ≠ []) : ∃ g cap, v = .slice (some ⟨g, 0, none⟩) bs.length cap ∧ base ≤ g ∧ bs.length ≤ cap ∧ cap ≤ maxLen := by
  obtain ⟨_, h2⟩ := h
  rcases h2 with ⟨_, hn⟩ | ⟨g, cap, cur, hv, hb, _, hnc, hcm, _⟩
  · exact absurd (List.eq_nil_of_length_eq_zero hn) h0
  · exact ⟨g, cap, hv, hb, hnc, hcm⟩

theorem Try.info5p : (Try.prog.info? 5).map (fun i => (i.zero, i.size, i.bytes)) = some (some (.int .u8 0), 1, 1) := by kernel_rfl
theorem u8_zero : u8 0 = .int .u8 0 := rfl
theorem made_zero (n : Nat) : (madeCells (Value.int .u8 0).cells (n * 1)).toList = (List.replicate n (0 : UInt8)).map u8 := by
  apply List.ext_getElem
  · simp [madeCells]
  · intro i h1 h2
    have h3 : [Value.int IntKind.u8 0][i % 1]?.getD default = Value.int IntKind.u8 0 := by rw [Nat.mod_one]; rfl
    simp [madeCells, Value.cells, u8, h3]

/-- 'make([]byte, n)'. -/
theorem wpList_bmake (w : World) {ops : Array Oper} {rest : List Oper} {o : Oper} {a : Act} {Q : Exit → Act → World → Prop}
    (hg : o.guard = none) (l c : Operand) (hop : o.op = Op.makeSlice 26 l c) (base : Nat) (L C : Int) (n : Nat) (hl : a.eval l = .int .i64 L) (hc : a.eval c = .int .i64 C) (hL : L = (n : Int)) (hC : C = (n : Int)) (b2 : n ≤ 281474976710656) (b4 : base ≤ w.heap.size)
    (hK : ∀ w', OwnB w' base (.slice (some ⟨w.heap.size, 0, none⟩) n n) (List.replicate n 0) → Chg [] w w' → wpList Try.prog ops Q rest (a.put o.dst (.slice (some ⟨w.heap.size, 0, none⟩) n n)) w') :
    wpList Try.prog ops Q (o :: rest) a w := by
  obtain ⟨i0, hi, hz0, hz1, hz2⟩ := info_parts Try.info5p
  refine wpList_make_full w hg l c 26 hop base 5 i0 (.int .u8 0) 1 Try.underlying26 hi hz0 hz1 .i64 .i64 L C n hl hc hL hC (by rw [hz2]; omega) (by unfold maxLen; omega) b4 ?_
  intro w' hown hgr
  rw [made_zero] at hown
  exact hK w' (by unfold OwnB; rw [List.length_replicate]; exact hown) ((Chg.refl [] w).grown hgr (fun k e => by cases e))

/-- 'make([]byte, 0, n)'. -/
theorem wpList_bmake0 (w : World) {ops : Array Oper} {rest : List Oper} {o : Oper} {a : Act} {Q : Exit → Act → World → Prop}
    (hg : o.guard = none) (l c : Operand) (hop : o.op = Op.makeSlice 26 l c) (base : Nat) (C : Int) (n : Nat) (hl : a.eval l = .int .i64 0) (hc : a.eval c = .int .i64 C) (hC : C = (n : Int)) (b2 : n ≤ 281474976710656) (b4 : base ≤ w.heap.size)
    (hK : ∀ w', OwnB w' base (.slice (some ⟨w.heap.size, 0, none⟩) 0 n) [] → Chg [] w w' → wpList Try.prog ops Q rest (a.put o.dst (.slice (some ⟨w.heap.size, 0, none⟩) 0 n)) w') :
    wpList Try.prog ops Q (o :: rest) a w := by
  obtain ⟨i0, hi, hz0, hz1, hz2⟩ := info_parts Try.info5p
  refine wpList_make_own w hg l c 26 hop base 5 i0 (.int .u8 0) 1 Try.underlying26 hi hz0 hz1 .i64 .i64 C n hl hc hC (by rw [hz2]; omega) (by unfold maxLen; omega) b4 ?_
  intro w' hown hgr
  exact hK w' hown ((Chg.refl [] w).grown hgr (fun k e => by cases e))

/-- What an append hands back lies where it lay, or in a new block. -/
theorem run_append_where {P : Program} (w : World) (base : Nat) (t ty e : TypeId) (i : TypeInfo) (z : Value) (size bytes : Nat) (ht : P.underlying t = some (.slice e)) (hi : P.info? e = some i) (hz : i.zero = some z)
    (hsize : i.size = size) (hby : i.bytes = bytes)
    (v : Value) (n : Nat) (xs : List Value) (hown : w.ownsRow base e size v n xs)
    (a : Addr) (m c : Nat) (news : List Value) (hl : news.length = m * size) (hnews : ∀ j u, news[j]? = some u → w.cell? (a.add j) = some u) (h1 : ∀ u ∈ news, u.oneCell' = true)
    (h63 : n + m ≤ maxLen) (hbytes : (n + m) * bytes ≤ 140737488355328) (v' : Value) (w' : World)
    (hr : (Builtin.append_ #[t, t] ty #[v, .slice (some a) m c]).run P w = .ok v' w') : ∀ k, v'.ownBlock = some k → v.ownBlock = some k ∨ w.heap.size ≤ k := by
  subst hsize
  subst hby
  have hsmall : n + m ≤ 9223372036854775807 := by simp only [maxLen] at h63; omega
  intro k hk
  rcases hown.2 with ⟨rfl, rfl⟩ | ⟨g, cap, cur, rfl, hbg, hg, hnc, hcm, hcs, htake⟩
  · by_cases hm : m = 0
    · subst hm
      have e1 : (Builtin.append_ #[t, t] ty #[.slice none 0 0, .slice (some a) 0 c]).run P w = .ok (.slice none 0 0) w := by
        simp [Builtin.append_, run_underlying ht, sizeOf, typeInfo, hi, Builtin.lenOf, Builtin.firstCells, loadCells, loadCellsFrom]
      rw [e1] at hr
      simp only [Result.ok.injEq] at hr
      rw [← hr.1] at hk
      cases hk
    · rw [run_append_nil (P := P) w t ty e i z ht hi hz a m c news hl hnews (by omega) (by omega) (by have hb := hbytes; simp only [Nat.zero_add] at hb; omega)] at hr
      simp only [Result.ok.injEq] at hr
      rw [← hr.1] at hk
      simp [Value.ownBlock] at hk
      right; omega
  · by_cases hroom : n + m ≤ cap
    · have hfit : n * i.size + news.length ≤ cur.size := by rw [hl, hcs, ← Nat.add_mul]; exact Nat.mul_le_mul_right _ hroom
      rw [run_append_room (P := P) w t ty e i ht hi g n cap cur hg a m c news hl hnews h1 hroom hfit] at hr
      simp only [Result.ok.injEq] at hr
      rw [← hr.1] at hk
      left; exact hk
    · have holds : ∀ j u, xs[j]? = some u → w.cell? ((⟨g, 0, none⟩ : Addr).add j) = some u := hown.cells (g := g) rfl
      rw [run_append_grow (P := P) w t ty e i z ht hi hz ⟨g, 0, none⟩ n cap xs hown.1 holds a m c news hl hnews (by omega) (by omega) (growslice_fits (by omega) hbytes)] at hr
      simp only [Result.ok.injEq] at hr
      rw [← hr.1] at hk
      simp [Value.ownBlock] at hk
      right; omega

/-- What 'append(s, x...)' does: s is nil or the call's own. -/
theorem run_bappend (w : World) (ty : TypeId) (base : Nat) (v : Value) (xs : List UInt8) (hown : OwnB w base v xs) (T : TypeId) (x : Value) (ys : List UInt8) (hx : IsB w T x ys)
    (hb : xs.length + ys.length ≤ 140737488355328) (hbase : base ≤ w.heap.size) :
    ∃ v' w', (Builtin.append_ #[26, 26] ty #[v, x]).run Try.prog w = .ok v' w' ∧ OwnB w' base v' (xs ++ ys) ∧ Chg v.ownBlock.toList w w' ∧ (∀ k, v'.ownBlock = some k → v.ownBlock = some k ∨ w.heap.size ≤ k) := by
  obtain ⟨i0, hi, hz0, hz1, hz2⟩ := info_parts Try.info5p
  have hchg : ∀ w', w.grownBy w' v.ownBlock → Chg v.ownBlock.toList w w' := fun w' hg => (Chg.refl _ w).grown hg (fun k hk => .inl (by rw [hk]; simp))
  by_cases h0 : ys = []
  · subst h0
    obtain ⟨ao, cap, rfl, _, hm, hz, _⟩ := hx
    cases ao with
    | none =>
      obtain rfl := hz rfl
      refine ⟨v, w, run_append_owned_none (P := Try.prog) (w := w) base 26 ty 5 i0 1 Try.underlying26 hi v xs.length (xs.map u8) hown, ?_, Chg.refl _ _, fun k hk => .inl hk⟩
      simpa using hown
    | some a =>
      obtain ⟨v', w', hr, ho, hg, _⟩ := run_append_own (P := Try.prog) w base 26 ty 5 i0 (.int .u8 0) 1 1 Try.underlying26 hi hz0 hz1 hz2 rfl (by decide) v xs.length (xs.map u8) hown a 0 cap [] rfl (by simp) (by simp) (by unfold maxLen; omega) (by omega) hbase
      exact ⟨v', w', hr, by simpa [OwnB] using ho, hchg _ hg, run_append_where (P := Try.prog) w base 26 ty 5 i0 (.int .u8 0) 1 1 Try.underlying26 hi hz0 hz1 hz2 v xs.length (xs.map u8) hown a 0 cap [] rfl (by simp) (by simp) (by unfold maxLen; omega) (by omega) v' w' hr⟩
  · obtain ⟨a, cap, rfl, hc⟩ := hx.news h0
    obtain ⟨v', w', hr, ho, hg, _⟩ := run_append_own (P := Try.prog) w base 26 ty 5 i0 (.int .u8 0) 1 1 Try.underlying26 hi hz0 hz1 hz2 rfl (by decide) v xs.length (xs.map u8) hown a ys.length cap (ys.map u8) (by simp) hc (u8s_one ys) (by unfold maxLen; omega) (by omega) hbase
    exact ⟨v', w', hr, by simpa [OwnB] using ho, hchg _ hg, run_append_where (P := Try.prog) w base 26 ty 5 i0 (.int .u8 0) 1 1 Try.underlying26 hi hz0 hz1 hz2 v xs.length (xs.map u8) hown a ys.length cap (ys.map u8) (by simp) hc (u8s_one ys) (by unfold maxLen; omega) (by omega) v' w' hr⟩

theorem wpList_bappend {w : World} {ops : Array Oper} {rest : List Oper} {o : Oper} {a : Act} {Q : Exit → Act → World → Prop} (hgd : o.guard = none) (s x : Operand)
    (ho : o.op = .call { callee := .builtin .append, args := #[s, x], argTypes := #[26, 26] })
    (base : Nat) (v : Value) (xs : List UInt8) (hs : a.eval s = v) (hown : OwnB w base v xs) (T : TypeId) (vx : Value) (ys : List UInt8) (hvx : a.eval x = vx) (hx : IsB w T vx ys)
    (hb : xs.length + ys.length ≤ 140737488355328) (hbase : base ≤ w.heap.size)
    (h : ∀ v' w', OwnB w' base v' (xs ++ ys) → Chg v.ownBlock.toList w w' → (∀ k, v'.ownBlock = some k → v.ownBlock = some k ∨ w.heap.size ≤ k) → wpList Try.prog ops Q rest (a.put o.dst v') w') : wpList Try.prog ops Q (o :: rest) a w := by
  refine wpList_plain hgd fun K hK => ?_
  obtain ⟨v', w', hr, h1, h2, h3⟩ := run_bappend w o.type base v xs hown T vx ys hx hb hbase
  unfold Oper.wp
  simp [execOp, ho, resolve, invoke, builtin, hs, hvx, hr, Result.andThen]
  exact hK _ _ (h v' w' h1 h2 h3)
end Go.Proofs.Ytgmgmjljjbcgjaa

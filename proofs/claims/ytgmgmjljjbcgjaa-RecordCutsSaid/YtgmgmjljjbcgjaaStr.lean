/- Strings and bytes: the two conversions. -/
import Derived.Test.YtgmgmjljjbcgjaaBase
namespace Go.Proofs.Ytgmgmjljjbcgjaa
open Go Go.RowKit

theorem IsB.dropH {w : World} {T : TypeId} {g n cap : Nat} {bs : List UInt8} (h : IsB w T (.slice (some ⟨g, 0, none⟩) n cap) bs) (k : Nat) (hk : k ≤ bs.length) :
    IsB w T (.slice (if cap = k then some ⟨g, 0, none⟩ else some ⟨g, k, none⟩) (n - k) (cap - k)) (bs.drop k) := by
  have := h.drop k hk
  have e : (if cap = k then (some ⟨g, 0, none⟩ : Option Addr) else (some ⟨g, 0, none⟩ : Option Addr).map fun x => x.add k) = (if cap = k then some ⟨g, 0, none⟩ else some ⟨g, k, none⟩) := by
    by_cases h0 : k = 0
    · subst h0; simp [Addr.add]
    · simp [Addr.add, h0]
  rw [e] at this
  exact this

/-- The string of some bytes. -/
def strOf (bs : List UInt8) : ByteArray := ⟨bs.toArray⟩
theorem strOf_toList (bs : List UInt8) : (strOf bs).data.toList = bs := by simp [strOf]
theorem strOf_size (bs : List UInt8) : (strOf bs).size = bs.length := by simp [strOf, ByteArray.size]
theorem strOf_of (s : ByteArray) : strOf s.data.toList = s := by simp [strOf]
theorem strOf_inj {a b : List UInt8} (h : strOf a = strOf b) : a = b := by
  have := congrArg (fun s => s.data.toList) h
  simpa [strOf] using this
theorem strOf_append (a b : List UInt8) : strOf a ++ strOf b = strOf (a ++ b) := by
  unfold strOf
  rw [ByteArray.mk_append_mk]
theorem nums_strOf (bs : List UInt8) : strOfNums (bs.map fun c => (c.toNat : Int)) = strOf bs := by
  unfold strOf
  have h1 : (strOfNums (bs.map fun c => (c.toNat : Int))).data.toList = bs := by
    rw [strOfNums_data, List.map_map]
    have : ((fun n : Int => UInt8.ofNat n.toNat) ∘ fun c : UInt8 => (c.toNat : Int)) = id := by
      funext c; simp
    rw [this, List.map_id]
  have h2 : (strOfNums (bs.map fun c => (c.toNat : Int))).data = bs.toArray := by
    apply Array.toList_inj.1; simpa using h1
  cases h3 : strOfNums (bs.map fun c => (c.toNat : Int)) with
  | mk d => rw [h3] at h2; simp only at h2; rw [h2]

/-- 'string(b)'. -/
theorem run_toString (w : World) (T : TypeId) (v : Value) (bs : List UInt8) (h : IsB w T v bs) : (convert 26 9 v).run Try.prog w = .ok (.string (strOf bs)) w := by
  by_cases h0 : bs = []
  · subst h0
    obtain ⟨ao, cap, rfl, _, _, hz, _⟩ := h
    cases ao with
    | none =>
      obtain rfl := hz rfl
      have := run_convert_bytes_nil (P := Try.prog) (w := w) 26 5 Try.underlying26 Try.underlying5 0 0 9 Try.underlying9
      exact this
    | some a =>
      obtain ⟨b, off, sp⟩ := a
      have e : (convert 26 9 (.slice (some ⟨b, off, sp⟩) 0 cap)).run Try.prog w = (Conv.bytesToString (.slice (some ⟨b, off, sp⟩) 0 cap)).run Try.prog w := run_convert_bytes_string w 26 9 5 _ 0 cap Try.underlying26 Try.underlying5 Try.underlying9
      show (convert 26 9 (.slice (some ⟨b, off, sp⟩) 0 cap)).run Try.prog w = _
      rw [e, run_bytesToString w ⟨b, off, sp⟩ 0 cap [] (by simp [loadCells, loadCellsFrom, Sem.run_pure])]
      rfl
  · obtain ⟨ao, cap, rfl, _, _, _, hb⟩ := h
    obtain ⟨g, off, cur, fr, rfl, hg, hc⟩ := hb h0
    have := run_convert_bytes_arg (P := Try.prog) w 26 5 Try.underlying26 Try.underlying5 g off bs.length cap (bs.map fun c => (c.toNat : Int)) (by simp) (fun i hi => by
      refine cell_of_heap hg ?_
      have h1 : bs[i]? = some bs[i] := List.getElem?_eq_getElem hi
      rw [hc i _ h1]
      simp [List.getD_eq_getElem?_getD, h1]) 9 Try.underlying9
    rw [this, nums_strOf]

theorem wpList_toString {w : World} {ops : Array Oper} {rest : List Oper} {o : Oper} {a : Act} {Q : Exit → Act → World → Prop} (hgd : o.guard = none) (x : Operand)
    (ho : o.op = .convert 26 9 x) (T : TypeId) (v : Value) (bs : List UInt8) (hx : a.eval x = v) (hv : IsB w T v bs)
    (h : wpList Try.prog ops Q rest (a.put o.dst (.string (strOf bs))) w) : wpList Try.prog ops Q (o :: rest) a w := by
  refine wpList_plain hgd fun K hK => ?_
  have hr := run_toString w T v bs hv
  unfold Oper.wp
  simp [execOp, ho, hx, hr, Result.andThen]
  exact hK _ _ h

/-- '[]byte(s)'. -/
theorem run_ofString (w : World) (s : ByteArray) (hs : s.size ≤ maxLen) : ∃ cap w', (convert 9 26 (.string s)).run Try.prog w = .ok (.slice (some ⟨w.heap.size, 0, none⟩) s.size cap) w' ∧ IsB w' 5 (.slice (some ⟨w.heap.size, 0, none⟩) s.size cap) s.data.toList ∧ Chg [] w w' ∧
    ∃ cur lo, w'.heap[w.heap.size]? = some (.cells cur 5 (lo, lo + 1)) ∧ s.size ≤ lo ∧ cur.size = lo := by
  have hrun := run_bytes_of_string (P := Try.prog) w 9 26 5 s Try.underlying9 Try.underlying26 Try.underlying5
  have hge := grownCap_ge w s.size 0 5
  have hle := grownCap_le_maxLen w s.size 0 5 hs
  have hsz : s.data.toList.length = s.size := Array.length_toList
  have hrow : (bytesRow s (grownCap w s.size 0 5)).size = grownCap w s.size 0 5 := by
    have h1 : s.data.size = s.size := rfl
    simp only [bytesRow, Array.size_append, Array.size_map, Array.size_replicate]
    omega
  refine ⟨_, _, hrun, ?_, ((Chg.refl [] w).drew).alloc _, _, _, heap_alloc_new _ _, by omega, rfl⟩
  refine ⟨_, _, by rw [hsz], by omega, hle, (fun e => by cases e), fun _ => ⟨w.heap.size, 0, _, _, rfl, heap_alloc_new _ _, fun i c hi => ?_⟩⟩
  have hlt : i < s.size := by have := (List.getElem?_eq_some_iff.1 hi).1; omega
  have hd : s.data[i]? = some c := by simpa using hi
  have hlt' : i < s.data.size := hlt
  simp only [bytesRow, Nat.zero_add]
  rw [Array.getElem?_append_left (by simpa using hlt')]
  simp [hd]

theorem wpList_ofString {w : World} {ops : Array Oper} {rest : List Oper} {o : Oper} {a : Act} {Q : Exit → Act → World → Prop} (hgd : o.guard = none) (x : Operand)
    (ho : o.op = .convert 9 26 x) (s : ByteArray) (hx : a.eval x = .string s) (hs : s.size ≤ maxLen)
    (h : ∀ cap w', IsB w' 5 (.slice (some ⟨w.heap.size, 0, none⟩) s.size cap) s.data.toList → Chg [] w w' → (∃ cur lo, w'.heap[w.heap.size]? = some (.cells cur 5 (lo, lo + 1)) ∧ s.size ≤ lo ∧ cur.size = lo) →
      wpList Try.prog ops Q rest (a.put o.dst (.slice (some ⟨w.heap.size, 0, none⟩) s.size cap)) w') : wpList Try.prog ops Q (o :: rest) a w := by
  refine wpList_plain hgd fun K hK => ?_
  obtain ⟨cap, w', hr, h1, h2, h3⟩ := run_ofString w s hs
  unfold Oper.wp
  simp [execOp, ho, hx, hr, Result.andThen]
  exact hK _ _ (h cap w' h1 h2 h3)
end Go.Proofs.Ytgmgmjljjbcgjaa

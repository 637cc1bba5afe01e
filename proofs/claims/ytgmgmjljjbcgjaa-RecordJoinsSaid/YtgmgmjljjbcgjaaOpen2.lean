/- Arguments that are slices of strings. -/
import Derived.Test.YtgmgmjljjbcgjaaTexts
import Derived.SliceStrings
import Derived.OpenShut
namespace Go.Proofs.Ytgmgmjljjbcgjaa
open Go Go.RowKit Go.ChangeShapes Go.WideShapes

set_option maxRecDepth 100000 in
theorem open_strs {H : Type} {enc : TypeId × Value → H} {w : World} {spare : Nat → Bool} {held : Bool} {v : Value} {d : DataW H} {p : List MemPlace} {r : Reach} {b0 : Nat} (hv : Value.okWide Try.prog w r b0 61 v)
    (h : DataW.Trod enc Try.prog w 0 spare held 61 v d p) : ∃ ss, StrsAt w v ss := by
  obtain ⟨fuel, hf⟩ := h
  have ht : Try.prog.underlying 61 = some (.slice 9) := by kernel_rfl
  obtain ⟨ao, len', cap', rfl⟩ := okWide_slice ht hv
  rcases open_strings ht Try.underlying9 (by kernel_rfl) hf with ⟨h0, _⟩ | ⟨a, len, cap, ss, hcs, _, hl, hm, hz, _, hcell, hsz⟩
  · simp only [Value.cells, List.cons.injEq, Value.slice.injEq, and_true] at h0
    obtain ⟨rfl, rfl, rfl⟩ := h0
    exact ⟨[], none, 0, rfl, Nat.le_refl _, by decide, fun i o hi => by simp at hi⟩
  · simp only [Value.cells, List.cons.injEq, Value.slice.injEq, and_true] at hcs
    obtain ⟨rfl, rfl, rfl⟩ := hcs
    have hle : len' ≤ ss.length := by rw [hz]; split <;> omega
    have hlen : (ss.take len').length = len' := by rw [List.length_take]; omega
    refine ⟨ss.take len', some a, cap', by rw [hlen], by rw [hlen]; exact hl, hm, fun i s hi => ⟨a, rfl, ?_⟩⟩
    have hlt := (List.getElem?_eq_some_iff.1 hi).1
    rw [hlen] at hlt
    rw [List.getElem?_take, if_pos hlt] at hi
    have := hcell i (by omega)
    rw [List.getD_eq_getElem?_getD, hi] at this
    exact this
end Go.Proofs.Ytgmgmjljjbcgjaa

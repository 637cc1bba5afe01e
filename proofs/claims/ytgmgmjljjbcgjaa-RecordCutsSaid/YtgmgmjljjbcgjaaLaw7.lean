/- The laws of records: what they share. -/
import Derived.Test.YtgmgmjljjbcgjaaRead
import Derived.Test.YtgmgmjljjbcgjaaLaw2
namespace Go.Proofs.Ytgmgmjljjbcgjaa
open Go Go.RowKit NSX

/-- A list's element: where it lies. -/
theorem ListB.cells {w : World} {base top : Nat} {v : Value} {l : List (List UInt8)} (h : ListB w base top v l) : ∃ ao cap, v = .slice ao l.length cap ∧ l.length ≤ cap ∧
    ∀ (i : Nat) (b : List UInt8), l[i]? = some b → ∃ g x, ao = some ⟨g, 0, none⟩ ∧ w.cell? ⟨g, i, none⟩ = some x ∧ OwnB w base x b := by
  obtain ⟨vs, h1, h2, h3⟩ := h
  have hlen : vs.length = l.length := by have := h1.1; simpa using this
  rcases h1.2 with ⟨rfl, hn⟩ | ⟨g, cap, cur, rfl, hb, hh, hnc, hcm, hcs, htake⟩
  · refine ⟨none, 0, by rw [hn], by omega, fun i b hi => ?_⟩
    have := (List.getElem?_eq_some_iff.1 hi).1
    omega
  · refine ⟨_, cap, rfl, hnc, fun i b hi => ?_⟩
    have hlt := (List.getElem?_eq_some_iff.1 hi).1
    obtain ⟨x, hx⟩ : ∃ x, vs[i]? = some x := ⟨_, List.getElem?_eq_getElem (by omega)⟩
    refine ⟨g, x, rfl, ?_, (h3 i _ b hx hi).1⟩
    have hx2 := hx
    rw [← htake, List.getElem?_take, if_pos (by omega)] at hx2
    exact cell_of_heap hh (by rw [← Array.getElem?_toList]; exact hx2)

theorem twoB (w : World) : IsB (w.alloc (.cells #[.int .u8 97, .int .u8 98] 5 (2, 3))) 5 (.slice (some ⟨w.heap.size, 0, none⟩) 2 2) [97, 98] := by
  refine ⟨_, 2, rfl, Nat.le_refl _, by decide, (fun e => by cases e), fun _ => ⟨_, 0, _, _, rfl, heap_alloc_new _ _, fun i c hi => ?_⟩⟩
  have hlt : i < 2 := (List.getElem?_eq_some_iff.1 hi).1
  have h9 : i = 0 ∨ i = 1 := by omega
  rcases h9 with h | h <;> subst h <;> simp at hi <;> subst hi <;> rfl

theorem readB_cut (l : List UInt8) (h : l.length ≤ 32768) : readB (cutB l) = ([l], nBlocks l.length) := by
  unfold readB cutB
  have hc := NSX.chunks_flatten (cutL l) [] (cutL_each l)
  have h0 : chunks [] = [] := by rw [chunks, dif_neg (by simp)]
  rw [List.append_nil, h0, List.append_nil] at hc
  rw [hc]
  have := readL_cut l [] [] 0 0 (by simpa using h)
  rw [List.append_nil] at this
  rw [this]
  simp [readL]

set_option maxRecDepth 100000 in
set_option maxHeartbeats 800000 in
theorem awake7_calls (w : World) : Calls Try.prog 57 #[] w fun e w' => e = .returned (.bool true) ∧ Chg [] w w' := by
  have HN := Lib.hid (twoB w)
  have hc : Chg [] w (w.alloc (.cells #[.int .u8 97, .int .u8 98] 5 (2, 3))) := (Chg.refl [] w).alloc _
  have HO := Lib.hid (Cut_calls 5 _ _ _ HN.out (by decide))
  have HC := Lib.hid hc
  have kc := fun (w : World) (C : Array Value) (n c : Nat) => Lib.run_convert_bytes_const (P := Try.prog) w 26 5 C n c Try.underlying26 Try.underlying5
  clear hc
  go_enter Try.func57, Try.ntmps57
  go_wp2_with fail
  refine HO.out.mono ?_
  rintro e w1 ⟨v, rfl, hv, hc1⟩
  have hl : (cutB [97, 98]).length = 64 := by rw [cutB_length]; rfl
  obtain ⟨g, cap, rfl, -, -, -⟩ := hv.at (by intro h; rw [h] at hl; simp at hl)
  have HR := Lib.hid (Read_bytes 5 _ _ w1 hv.isB (by rw [hl]; decide))
  rw [hl] at HR ⊢
  have HC1 := Lib.hid (HC.out.then hc1)
  clear hv hc1 hl
  go_wp2_with fail
  refine HR.out.mono ?_
  rintro e w2 ⟨lv, rfl, hlv, hc2⟩
  have hrd := readB_cut [97, 98] (by decide)
  rw [hrd] at hlv ⊢
  obtain ⟨ao, lcap, rfl, -, hcells⟩ := hlv.cells
  obtain ⟨g2, x, rfl, hx, hxo⟩ := hcells 0 [97, 98] rfl
  have hq := run_toString w2 5 _ _ hxo.isB
  have hstr : strOf [97, 98] = (⟨#[97, 98]⟩ : ByteArray) := rfl
  rw [hstr] at hq
  have HC2 := Lib.hid (HC1.out.then hc2)
  have hn1 : nBlocks [(97 : UInt8), 98].length = 1 := by decide
  rw [hn1]
  have hl1 : ([[(97 : UInt8), 98]] : List (List UInt8)).length = 1 := rfl
  rw [hl1]
  clear hlv hc2 hcells hxo hrd hstr hn1 hl1
  simp only []
  go_wp2
  go_ret
  exact ⟨rfl, HC2.out⟩
end Go.Proofs.Ytgmgmjljjbcgjaa

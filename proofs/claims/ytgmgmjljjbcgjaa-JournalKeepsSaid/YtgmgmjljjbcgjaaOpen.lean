/- Arguments that are slices of structs. -/
import Derived.Test.YtgmgmjljjbcgjaaOps
import Derived.Deep.Slices
import Derived.Deep.Fields
import Derived.ChangeSame
import Derived.OpenShut
namespace Go.Proofs.Ytgmgmjljjbcgjaa
open Go Go.RowKit Go.ChangeShapes Go.WideShapes Go.Deep

section
variable {H : Type} {enc : TypeId × Value → H} {P : Program} {w : World} {base : Nat} {spare : Nat → Bool} {held : Bool}
theorem open_slice_fields {t e : TypeId} {fs : Array Field} {fuel : Nat} {cs : List Value} {x : DataW H × List MemPlace} (ht : P.underlying t = some (.slice e)) (he : P.underlying e = some (.struct fs))
    (hone : oneCellFields P fs = true) (hC : P.cellsOf e = fs.size) (h : DataW.trod enc P w base spare held fuel t cs = some x) :
    (cs = [.slice none 0 0] ∧ x = (.nil, [])) ∨
    ∃ (a : Addr) (len cap m : Nat) (D : Nat → DataW H) (Pl : Nat → List MemPlace), cs = [.slice (some a) len cap] ∧ base ≤ a.block ∧ len ≤ cap ∧ cap ≤ maxLen ∧ m = (if spare a.block then cap else len) ∧
      x = (.slice ((List.range len).map D) ((List.range (m - len)).map fun j => D (len + j)), MemPlace.row a (m * fs.size) ++ (List.range m).flatMap Pl) ∧
      ∀ i, i < m → ∃ (ys : List (DataW H × List MemPlace)) (n : Nat), D i = .agg (ys.map (·.1)) ∧ Pl i = ys.flatMap (·.2) ∧ ys.length = fs.size ∧
        ∀ (j : Nat) (f : Field), fs[j]? = some f → ∃ (v : Value) (y : DataW H × List MemPlace), w.cell? (a.add (i * fs.size + j)) = some v ∧ ys[j]? = some y ∧ DataW.trod enc P w base spare held n f.type [v] = some y := by
  rcases open_slice ht h with h0 | ⟨a, len, cap, m, n, D, Pl, hcs, hb, hl, hm, hmm, hx, hi⟩
  · exact .inl h0
  · refine .inr ⟨a, len, cap, m, D, Pl, hcs, hb, hl, hm, hmm, by rw [hC] at hx; exact hx, fun i him => ?_⟩
    obtain ⟨cs', hc, ht'⟩ := hi i him
    rw [hC] at hc
    obtain ⟨ys, n', hn', hy, hlen, hyl, hf⟩ := DataW.trod_struct he ht'
    obtain ⟨_, hcl, hat⟩ := World.cells?_some hc
    simp only [Prod.mk.injEq] at hy
    refine ⟨ys, n', hy.1, hy.2, hyl, fun j f hj => ?_⟩
    obtain ⟨ho, hk⟩ := hone_of hone j f hj
    have hjl : j < fs.size := (Array.getElem?_eq_some_iff.1 hj).1
    have hcell := hat j hjl
    have hv : cs'[j]? = some (cs'[j]'(by omega)) := List.getElem?_eq_getElem (by omega)
    have h1 := hf j f hj
    rw [ho, hk] at h1
    have hone' : (cs'.drop j).take 1 = [cs'[j]'(by omega)] := by
      rw [List.drop_eq_getElem_cons (by omega)]
      rfl
    rw [hone'] at h1
    have hys : ys[j]? = some (ys[j]'(by omega)) := List.getElem?_eq_getElem (by omega)
    refine ⟨_, _, ?_, hys, h1.trans hys⟩
    rw [← Go.Deep.add_add, hcell, hv]
end

theorem Try.struct46 : ∃ fs : Array Field, Try.prog.underlying 46 = some (.struct fs) ∧ oneCellFields Try.prog fs = true ∧ Try.prog.cellsOf 46 = fs.size ∧ fs.size = 4 ∧ (fs.map (·.type)) = #[3, 3, 3, 9] := ⟨_, Try.underlying46, by kernel_rfl, by kernel_rfl, by kernel_rfl, by kernel_rfl⟩

set_option maxRecDepth 100000 in
theorem open_ops8 {H : Type} {enc : TypeId × Value → H} {w : World} {spare : Nat → Bool} {held : Bool} {v : Value} {d : DataW H} {p : List MemPlace} {r : Reach} {b0 : Nat} (hv : Value.okWide Try.prog w r b0 37 v)
    (h : DataW.Trod enc Try.prog w 0 spare held 37 v d p) : ∃ l, OpsAt w v l := by
  obtain ⟨fuel, hf⟩ := h
  obtain ⟨fs, hu, hone, hC, h4, hfs⟩ := Try.struct46
  have ht : Try.prog.underlying 37 = some (.slice 46) := by kernel_rfl
  obtain ⟨ao, len', cap', rfl⟩ := okWide_slice ht hv
  rcases open_slice_fields ht hu hone hC hf with ⟨h0, _⟩ | ⟨a, len, cap, m, D, Pl, hcs, _, hl, hm, hmm, _, hi⟩
  · simp only [Value.cells, List.cons.injEq, Value.slice.injEq, and_true] at h0
    obtain ⟨rfl, rfl, rfl⟩ := h0
    exact ⟨[], none, 0, rfl, Nat.le_refl _, fun i o hi => by simp at hi⟩
  · simp only [Value.cells, List.cons.injEq, Value.slice.injEq, and_true] at hcs
    obtain ⟨rfl, rfl, rfl⟩ := hcs
    have hlm : len' ≤ m := by rw [hmm]; split <;> omega
    have hty : ∀ (j : Nat) (t : TypeId), (#[3, 3, 3, 9] : Array TypeId)[j]? = some t → ∃ f : Field, fs[j]? = some f ∧ f.type = t := by
      intro j t hj
      rw [← hfs, Array.getElem?_map] at hj
      cases hx : fs[j]? with
      | none => rw [hx] at hj; cases hj
      | some f => rw [hx] at hj; exact ⟨f, rfl, by simpa using hj⟩
    have hex : ∀ i : Nat, i < len' → ∃ o : OpV, ∀ (j : Nat) (u : Value), o.cells[j]? = some u → w.cell? (a.add (i * 4 + j)) = some u := by
      intro i hil
      obtain ⟨ys, n, _, _, _, hfld⟩ := hi i (by omega)
      rw [h4] at hfld
      obtain ⟨f0, g0, e0⟩ := hty 0 3 rfl
      obtain ⟨f1, g1, e1⟩ := hty 1 3 rfl
      obtain ⟨f2, g2, e2⟩ := hty 2 3 rfl
      obtain ⟨f3, g3, e3⟩ := hty 3 9 rfl
      obtain ⟨v0, y0, c0, _, t0⟩ := hfld 0 f0 g0
      obtain ⟨v1, y1, c1, _, t1⟩ := hfld 1 f1 g1
      obtain ⟨v2, y2, c2, _, t2⟩ := hfld 2 f2 g2
      obtain ⟨v3, y3, c3, _, t3⟩ := hfld 3 f3 g3
      rw [e0] at t0; rw [e1] at t1; rw [e2] at t2; rw [e3] at t3
      obtain ⟨k0, q0, -, -⟩ := DataW.trod_int Try.underlying3 t0
      obtain ⟨k1, q1, -, -⟩ := DataW.trod_int Try.underlying3 t1
      obtain ⟨k2, q2, -, -⟩ := DataW.trod_int Try.underlying3 t2
      obtain ⟨k3, q3, -, -⟩ := DataW.trod_string Try.underlying9 t3
      simp only [List.cons.injEq, and_true] at q0 q1 q2 q3
      subst q0 q1 q2 q3
      refine ⟨⟨k0, k1, k2, k3⟩, fun j u hu => ?_⟩
      match j with
      | 0 => simp [OpV.cells] at hu; rw [← hu]; exact c0
      | 1 => simp [OpV.cells] at hu; rw [← hu]; exact c1
      | 2 => simp [OpV.cells] at hu; rw [← hu]; exact c2
      | 3 => simp [OpV.cells] at hu; rw [← hu]; exact c3
      | j + 4 => simp [OpV.cells] at hu
    refine ⟨List.ofFn fun i : Fin len' => (hex i.1 i.2).choose, some a, cap', by rw [List.length_ofFn], by rw [List.length_ofFn]; exact hl, fun i o hi => ⟨a, rfl, ?_⟩⟩
    have hlt : i < len' := by have := (List.getElem?_eq_some_iff.1 hi).1; rwa [List.length_ofFn] at this
    have : o = (hex i hlt).choose := by
      rw [List.getElem?_ofFn] at hi
      simp [hlt] at hi
      exact hi.symm
    rw [this]
    exact (hex i hlt).choose_spec
end Go.Proofs.Ytgmgmjljjbcgjaa

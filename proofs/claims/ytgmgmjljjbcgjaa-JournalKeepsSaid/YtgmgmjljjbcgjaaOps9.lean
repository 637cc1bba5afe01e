/- The laws of the journal: slices of calls. -/
import Derived.Test.YtgmgmjljjbcgjaaOpen
namespace Go.Proofs.Ytgmgmjljjbcgjaa
open Go Go.RowKit Go.ChangeShapes Go.WideShapes Go.Deep

/-- The call lies in block B. -/
def BoxAt9 (w : World) (B : Nat) (o : OpV) : Prop := w.heap[B]? = some (.cells o.cells.toArray 62)
theorem BoxAt9.then {w w' : World} {B : Nat} {o : OpV} (h : BoxAt9 w B o) (hc : Chg [] w w') : BoxAt9 w' B o := hc.heap h (by simp)

def few9 (l : List OpV) : Bool := decide (l.length ≤ 60) && l.all fun o => decide (o.b.size ≤ 3000)

set_option maxHeartbeats 400000 in
theorem few9_calls (l : List OpV) (v : Value) (w : World) (h : OpsAt w v l) : Calls Try.prog 42 #[v] w fun e w' => e = .returned (.bool (few9 l)) ∧ w = w' := by
  obtain ⟨ao, cap, rfl, hl, hb⟩ := h
  have HB := Lib.hid hb
  clear hb
  go_enter Try.func42, Try.ntmps42
  by_cases h60 : l.length ≤ 60
  · have h60' : ¬ ((60 : Int) < (l.length : Int)) := by omega
    go_wp2
    go_loop [9] (fun i => ∃ k : Nat, k ≤ l.length ∧ i = .int .i64 k ∧ (l.take k).all (fun o => decide (o.b.size ≤ 3000)) = true) (fun i => l.length - (intOf i).toNat)
    case atStart => exact ⟨0, by omega, rfl, by simp⟩
    case round =>
      obtain ⟨k, hk, rfl, hall⟩ := hrel
      have HA := Lib.hid hall
      clear hall
      by_cases hlt : k < l.length
      · have hi2 : (k : Int) < (l.length : Int) := by omega
        obtain ⟨o, ho⟩ : ∃ o, l[k]? = some o := ⟨_, List.getElem?_eq_getElem hlt⟩
        obtain ⟨a, rfl, hcs⟩ := HB.out k o ho
        have hc3 := hcs 3 _ rfl
        rw [add_at] at hc3
        have HO := Lib.hid ho
        clear hcs ho
        by_cases hbig : o.b.size ≤ 3000
        · have hbig' : ¬ ((3000 : Int) < (o.b.size : Int)) := by omega
          go_wp2
          go_round
          case rel =>
            refine ⟨k + 1, by omega, by go_num, ?_⟩
            rw [List.take_add_one, HO.out, List.all_append, HA.out]
            simp [hbig]
          case measure => simp [intOf]; omega
        · have hbig' : ((3000 : Int) < (o.b.size : Int)) := by omega
          go_wp2
          go_ret
          have : few9 l = false := by
            unfold few9
            rw [Bool.and_eq_false_iff]
            right
            rw [List.all_eq_false]
            exact ⟨o, List.mem_of_getElem? HO.out, by simpa using hbig⟩
          rw [this]
          exact ⟨rfl, rfl⟩
      · obtain rfl : k = l.length := by omega
        go_wp2
        go_ret
        have : few9 l = true := by
          have h1 := HA.out
          rw [List.take_length] at h1
          unfold few9
          rw [h1]; simp [h60]
        rw [this]
        exact ⟨rfl, rfl⟩
  · have h60' : (60 : Int) < (l.length : Int) := by omega
    go_wp2
    go_ret
    have : few9 l = false := by unfold few9; simp; omega
    rw [this]
    exact ⟨rfl, rfl⟩

theorem Try.struct62 : ∃ fs : Array Field, Try.prog.underlying 62 = some (.struct fs) ∧ oneCellFields Try.prog fs = true ∧ Try.prog.cellsOf 62 = fs.size ∧ fs.size = 4 ∧ (fs.map (·.type)) = #[3, 3, 3, 9] := ⟨_, Try.underlying62, by kernel_rfl, by kernel_rfl, by kernel_rfl, by kernel_rfl⟩

set_option maxRecDepth 100000 in
theorem open_ops9 {H : Type} {enc : TypeId × Value → H} {w : World} {spare : Nat → Bool} {held : Bool} {v : Value} {d : DataW H} {p : List MemPlace} {r : Reach} {b0 : Nat} (hv : Value.okWide Try.prog w r b0 55 v)
    (h : DataW.Trod enc Try.prog w 0 spare held 55 v d p) : ∃ l, OpsAt w v l := by
  obtain ⟨fuel, hf⟩ := h
  obtain ⟨fs, hu, hone, hC, h4, hfs⟩ := Try.struct62
  have ht : Try.prog.underlying 55 = some (.slice 62) := by kernel_rfl
  obtain ⟨ao, len', cap', rfl⟩ := okWide_slice ht hv
  rcases open_slice_fields ht hu hone hC hf with ⟨h0, _⟩ | ⟨a, len, cap, m, D, Pl, hcs, _, hl, hm, hmm, _, hi⟩
  · simp only [Value.cells, List.cons.injEq, Value.slice.injEq, and_true] at h0
    obtain ⟨rfl, rfl, rfl⟩ := h0
    exact ⟨[], none, 0, rfl, Nat.le_refl _, fun i o hi => by simp at hi⟩
  · simp only [Value.cells, List.cons.injEq, Value.slice.injEq, and_true] at hcs
    obtain ⟨rfl, rfl, rfl⟩ := hcs
    have hlm : len' ≤ m := by rw [hmm]; split <;> omega
    have hty : ∀ (j : Nat) (t : TypeId), (#[3, 3, 3, 9] : Array TypeId)[j]? = some t → ∃ f : Field, fs[j]? = some f ∧ f.type = t := by
      intro j t hj
      rw [← hfs, Array.getElem?_map] at hj
      cases hx : fs[j]? with
      | none => rw [hx] at hj; cases hj
      | some f => rw [hx] at hj; exact ⟨f, rfl, by simpa using hj⟩
    have hex : ∀ i : Nat, i < len' → ∃ o : OpV, ∀ (j : Nat) (u : Value), o.cells[j]? = some u → w.cell? (a.add (i * 4 + j)) = some u := by
      intro i hil
      obtain ⟨ys, n, _, _, _, hfld⟩ := hi i (by omega)
      rw [h4] at hfld
      obtain ⟨f0, g0, e0⟩ := hty 0 3 rfl
      obtain ⟨f1, g1, e1⟩ := hty 1 3 rfl
      obtain ⟨f2, g2, e2⟩ := hty 2 3 rfl
      obtain ⟨f3, g3, e3⟩ := hty 3 9 rfl
      obtain ⟨v0, y0, c0, _, t0⟩ := hfld 0 f0 g0
      obtain ⟨v1, y1, c1, _, t1⟩ := hfld 1 f1 g1
      obtain ⟨v2, y2, c2, _, t2⟩ := hfld 2 f2 g2
      obtain ⟨v3, y3, c3, _, t3⟩ := hfld 3 f3 g3
      rw [e0] at t0; rw [e1] at t1; rw [e2] at t2; rw [e3] at t3
      obtain ⟨k0, q0, -, -⟩ := DataW.trod_int Try.underlying3 t0
      obtain ⟨k1, q1, -, -⟩ := DataW.trod_int Try.underlying3 t1
      obtain ⟨k2, q2, -, -⟩ := DataW.trod_int Try.underlying3 t2
      obtain ⟨k3, q3, -, -⟩ := DataW.trod_string Try.underlying9 t3
      simp only [List.cons.injEq, and_true] at q0 q1 q2 q3
      subst q0 q1 q2 q3
      refine ⟨⟨k0, k1, k2, k3⟩, fun j u hu => ?_⟩
      match j with
      | 0 => simp [OpV.cells] at hu; rw [← hu]; exact c0
      | 1 => simp [OpV.cells] at hu; rw [← hu]; exact c1
      | 2 => simp [OpV.cells] at hu; rw [← hu]; exact c2
      | 3 => simp [OpV.cells] at hu; rw [← hu]; exact c3
      | j + 4 => simp [OpV.cells] at hu
    refine ⟨List.ofFn fun i : Fin len' => (hex i.1 i.2).choose, some a, cap', by rw [List.length_ofFn], by rw [List.length_ofFn]; exact hl, fun i o hi => ⟨a, rfl, ?_⟩⟩
    have hlt : i < len' := by have := (List.getElem?_eq_some_iff.1 hi).1; rwa [List.length_ofFn] at this
    have : o = (hex i hlt).choose := by
      rw [List.getElem?_ofFn] at hi
      simp [hlt] at hi
      exact hi.symm
    rw [this]
    exact (hex i hlt).choose_spec
end Go.Proofs.Ytgmgmjljjbcgjaa

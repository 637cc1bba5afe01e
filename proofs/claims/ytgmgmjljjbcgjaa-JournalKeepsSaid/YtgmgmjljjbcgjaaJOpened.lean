/- The laws of the journal: opened; lists of strings beside a journal. -/
import Derived.Test.YtgmgmjljjbcgjaaJSteps
import Derived.Test.YtgmgmjljjbcgjaaOps9
import Derived.ChangeSlices
namespace Go.Proofs.Ytgmgmjljjbcgjaa
open Go Go.RowKit NSX

/-- v is a slice of these numbers. -/
def IntsAt (w : World) (v : Value) (ns : List Int) : Prop :=
  ∃ ao cap, v = .slice ao ns.length cap ∧ ns.length ≤ cap ∧ ∀ (i : Nat) (n : Int), ns[i]? = some n → ∃ a, ao = some a ∧ w.cell? (a.add i) = some (.int .i64 n)
set_option maxRecDepth 100000 in
theorem open_cuts {H : Type} {enc : TypeId × Value → H} {w : World} {spare : Nat → Bool} {held : Bool} {v : Value} {d : Go.DataW H} {p : List MemPlace} {r : Go.Reach} {b0 : Nat} (hv : Value.okWide Try.prog w r b0 56 v)
    (h : Go.DataW.Trod enc Try.prog w 0 spare held 56 v d p) : ∃ ns, IntsAt w v ns := by
  obtain ⟨fuel, hf⟩ := h
  have ht : Try.prog.underlying 56 = some (.slice 3) := by kernel_rfl
  obtain ⟨ao, len', cap', rfl⟩ := Go.WideShapes.okWide_slice ht hv
  rcases Go.ChangeShapes.open_ints ht Try.underlying3 (by kernel_rfl) hf with ⟨h0, _⟩ | ⟨a, len, cap, zs, hcs, _, hl, hm, hz, _, hcell, _⟩
  · simp only [Value.cells, List.cons.injEq, Value.slice.injEq, and_true] at h0
    obtain ⟨rfl, rfl, rfl⟩ := h0
    exact ⟨[], none, 0, rfl, Nat.le_refl _, fun i o hi => by simp at hi⟩
  · simp only [Value.cells, List.cons.injEq, Value.slice.injEq, and_true] at hcs
    obtain ⟨rfl, rfl, rfl⟩ := hcs
    have hle : len' ≤ zs.length := by rw [hz]; split <;> omega
    have hlen : (zs.take len').length = len' := by rw [List.length_take]; omega
    refine ⟨zs.take len', some a, cap', by rw [hlen], by rw [hlen]; exact hl, fun i s hi => ⟨a, rfl, ?_⟩⟩
    have hlt := (List.getElem?_eq_some_iff.1 hi).1
    rw [hlen] at hlt
    rw [List.getElem?_take, if_pos hlt] at hi
    have := hcell i (by omega)
    rw [List.getD_eq_getElem?_getD, hi] at this
    exact this
theorem IntsAt.then {w w' : World} {v : Value} {ns : List Int} (h : IntsAt w v ns) (hc : Chg [] w w') : IntsAt w' v ns := by
  obtain ⟨ao, cap, hv, hl, hb⟩ := h
  exact ⟨ao, cap, hv, hl, fun i s hi => by
    obtain ⟨a, ha, hx⟩ := hb i s hi
    exact ⟨a, ha, hc.cell hx (by simp)⟩⟩

set_option maxRecDepth 100000 in
set_option maxHeartbeats 2000000 in
theorem opened_calls (S : Nat) (st : St) (u : Value) (ns : List Int) (a g : Nat) (l : List (List UInt8)) (w0 w : World) (hst : StoreAt w S st) (hu : IntsAt w0 u ns) (hc0 : Chg [] w0 w) (hS : w0.heap.size ≤ S) (hn5 : ns.length ≤ 100) (hw : Weak st.bytes a g l) :
    Calls Try.prog 46 #[.pointer (some ⟨S, 0, none⟩), u] w fun e w' => ∃ J st', e = .returned (.pointer (some ⟨J, 0, none⟩)) ∧ StoreAt w' S st' ∧ st'.down = false ∧ st'.armed = false ∧ Clean st'.bytes a g l ∧ (∃ t, JournalAt w' t J S (jnOf a g l)) ∧ Chg [S] w w' := by
  obtain ⟨uo, ucap, rfl, hul, hus⟩ := hu
  have HUs := Lib.hid hus
  have HC0 := Lib.hid hc0
  have HSt := Lib.hid hst
  have HW := Lib.hid hw
  clear hus hc0 hst hw
  go_enter Try.func46, Try.ntmps46
  go_wp2_with fail
  go_loopw [12] (fun i wr => ∃ (k : Nat) (sk : St), k ≤ ns.length ∧ i = .int .i64 k ∧ StoreAt wr S sk ∧ Weak sk.bytes a g l ∧ Chg [S] w wr) (fun i _ => ns.length - (intOf i).toNat)
  case atStart => exact ⟨0, st, by omega, rfl, HSt.out, HW.out, Chg.refl _ _⟩
  case round =>
    obtain ⟨k, sk, hk, rfl, hsk, hwk, hc⟩ := hrel
    clear HSt HW
    have HSk := Lib.hid hsk
    have HWk := Lib.hid hwk
    have HC := Lib.hid hc
    clear hsk hwk hc
    have hrow : ∀ x ∈ [S], x ∈ ([] : List Nat) ∨ w0.heap.size ≤ x := fun x hx => by simp at hx; subst hx; exact .inr hS
    have HRow := Lib.hid hrow
    clear hrow
    by_cases hlt : k < ns.length
    · have hi2 : (k : Int) < (ns.length : Int) := by omega
      obtain ⟨n, hn⟩ : ∃ n, ns[k]? = some n := ⟨_, List.getElem?_eq_getElem hlt⟩
      obtain ⟨A, rfl, hx⟩ := HUs.out k n hn
      have HX := Lib.hid hx
      clear hx hn
      go_wp2_with fail
      refine (Power_calls S sk wr HSk.out).mono ?_
      rintro e w1 ⟨rfl, hs1, hc1⟩
      have HC1 := Lib.hid (HC.out.same hc1)
      have HS1 := Lib.hid hs1
      have hx1 := (HC0.out.trans HC1.out HRow.out).cell HX.out (by simp)
      clear hs1 hc1
      simp only []
      go_wp2_with fail
      refine (Arm_calls S 0 n _ w1 HS1.out).mono ?_
      rintro e w2 ⟨rfl, hs2, hc2⟩
      have HC2 := Lib.hid (HC1.out.same hc2)
      have HOp := Lib.hid (Open_weak S _ (.slice none 0 0) [] a g l w2 hs2 rfl (IsB.nil _ 5) (by simp) HWk.out)
      clear hs2 hc2 hx1
      simp only []
      go_wp2_with fail
      refine HOp.out.mono ?_
      rintro e w3 ⟨J, s3, r, rfl, -, hs3, hc3, hcase⟩
      have HC3 := Lib.hid (HC2.out.same hc3)
      have HS3 := Lib.hid hs3
      simp only []
      rcases hcase with ⟨rfl, -, -, hcl, -⟩ | ⟨rfl, -, hw3⟩
      · have HW3 := Lib.hid hcl.1
        rw [optPtr_yes]
        clear hs3 hc3 hcl
        go_wp2_with fail
        go_roundw
        case rel => exact ⟨k + 1, s3, by omega, by go_num, HS3.out, HW3.out, HC3.out⟩
        case measure => simp [intOf]; omega
      · have HW3 := Lib.hid hw3
        rw [optPtr_no (by decide)]
        clear hs3 hc3 hw3
        go_wp2_with fail
        go_roundw
        case rel => exact ⟨k + 1, s3, by omega, by go_num, HS3.out, HW3.out, HC3.out⟩
        case measure => simp [intOf]; omega
    · obtain rfl : k = ns.length := by omega
      have hi2 : ¬ ((ns.length : Int) < (ns.length : Int)) := by omega
      go_wp2_with fail
      refine (Power_calls S sk wr HSk.out).mono ?_
      rintro e w1 ⟨rfl, hs1, hc1⟩
      have HC1 := Lib.hid (HC.out.same hc1)
      have HOp := Lib.hid (Open_weak S _ (.slice none 0 0) [] a g l w1 hs1 rfl (IsB.nil _ 5) (by simp) HWk.out)
      clear hs1 hc1
      simp only []
      go_wp2_with fail
      refine HOp.out.mono ?_
      rintro e w3 ⟨J, s3, r, rfl, -, hs3, hc3, hcase⟩
      have HC3 := Lib.hid (HC1.out.same hc3)
      have HS3 := Lib.hid hs3
      simp only []
      rcases hcase with ⟨rfl, hd, ha, hcl, hj, -⟩ | ⟨-, h, -⟩
      · have H3 := Lib.hid (And.intro hd (And.intro ha (And.intro hcl hj)))
        rw [optPtr_yes]
        clear hs3 hc3 hcl hd ha hj
        go_wp2_with fail
        go_ret
        exact ⟨J, s3, rfl, HS3.out, H3.out.1, H3.out.2.1, H3.out.2.2.1, H3.out.2.2.2, HC3.out⟩
      · cases h

theorem oneS (w : World) (s : ByteArray) : OwnS (w.alloc (.cells #[.string s] 9)) w.heap.size (.slice (some ⟨w.heap.size, 0, none⟩) 1 1) [s] :=
  ⟨rfl, .inr ⟨w.heap.size, 1, #[.string s], rfl, Nat.le_refl _, heap_alloc_new _ _, Nat.le_refl _, by decide, rfl, rfl⟩⟩
theorem emptyS9 (w : World) : OwnS (w.alloc (.cells #[] 9)) w.heap.size (.slice (some ⟨w.heap.size, 0, none⟩) 0 0) [] :=
  ⟨rfl, .inr ⟨w.heap.size, 0, #[], rfl, Nat.le_refl _, heap_alloc_new _ _, Nat.le_refl _, by decide, rfl, rfl⟩⟩
/-- Rows that hold strings. -/
def Row9 (w : World) (r : List Nat) : Prop := ∀ x ∈ r, ∃ cur, w.heap[x]? = some (.cells cur 9 (0, 0))
theorem OwnS.row9 {w : World} {base : Nat} {v : Value} {ss : List ByteArray} (h : OwnS w base v ss) : Row9 w v.ownBlock.toList := by
  intro x hx
  have hx' : v.ownBlock = some x := by simpa using hx
  exact row_type h hx'
theorem JournalAt.texts {w w' : World} {t J S : Nat} {j : Jn} {r : List Nat} (h : JournalAt w t J S j) (hc : Chg r w w') (hr : Row9 w r) : JournalAt w' t J S j := by
  obtain ⟨hb, v, h1, vs, h2, h3, h4⟩ := h
  have hn : ∀ {e size n : Nat} {x : Value} {xs : List Value} {b : Nat}, w.ownsRow b e size x n xs → e ≠ 9 → ∀ k, x.ownBlock = some k → k ∉ r := by
    intro e size n x xs b ho he k hk hm
    obtain ⟨c1, e1⟩ := row_type ho hk
    obtain ⟨c2, e2⟩ := hr k hm
    rw [e1] at e2
    simp only [Option.some.injEq, Obj.cells.injEq] at e2
    exact he e2.2.1
  have hJ : J ∉ r := by
    intro hm
    obtain ⟨c2, e2⟩ := hr J hm
    rw [h1] at e2
    simp at e2
  refine ⟨hb, v, hc.heap h1 hJ, vs, ⟨h2.1, ?_⟩, h3, fun i x b hx hbb => ⟨(h4 i x b hx hbb).1.chg hc (hn (h4 i x b hx hbb).1 (by decide)), (h4 i x b hx hbb).2⟩⟩
  rcases h2.2 with h | ⟨g, cap, cur, hv, hg, hh, rest⟩
  · exact .inl h
  · exact .inr ⟨g, cap, cur, hv, hg, hc.heap hh (hn h2 (by decide) g (by rw [hv]; rfl)), rest⟩
theorem StoreAt.texts {w w' : World} {S : Nat} {st : St} {r : List Nat} (h : StoreAt w S st) (hc : Chg r w w') (hr : Row9 w r) : StoreAt w' S st :=
  h.chg hc (fun hm => by
    obtain ⟨c2, e2⟩ := hr S hm
    rw [h.2] at e2
    simp at e2)
theorem OwnS.journal {base : Nat} {w w' : World} {b : Nat} {v : Value} {ss : List ByteArray} (h : OwnS w b v ss) (hc : JChg base w w') : OwnS w' b v ss := hc.row h ⟨by decide, by decide, by decide⟩
theorem OwnS.stored {w w' : World} {b S : Nat} {v : Value} {ss : List ByteArray} {st : St} (h : OwnS w b v ss) (hs : StoreAt w S st) (hc : Chg [S] w w') : OwnS w' b v ss :=
  h.chg hc (fun k hk hm => by
    obtain ⟨cur, e⟩ := row_type h hk
    simp at hm
    subst hm
    rw [hs.2] at e
    simp at e)
/-- An open journal: what the laws' loops hold of it. -/
structure Held (w wr : World) (S J : Nat) (lv : Value) (ls : List ByteArray) (st : St) (a g t : Nat) : Prop where
  store : StoreAt wr S st
  up : st.down = false
  clean : Clean st.bytes a g (asBytes ls)
  at' : JournalAt wr t J S (jnOf a g (asBytes ls))
  list : OwnS wr w.heap.size lv ls
  chg : Chg [] w wr
theorem Held.then {w wr w' : World} {S J : Nat} {lv : Value} {ls : List ByteArray} {st : St} {a g t : Nat} (h : Held w wr S J lv ls st a g t) (hc : Chg [] wr w') : Held w w' S J lv ls st a g t :=
  ⟨h.store.chg hc (by simp), h.up, h.clean, h.at'.then hc, h.list.then hc, h.chg.then hc⟩
theorem Held.some {w wr : World} {S J : Nat} {lv : Value} {ls : List ByteArray} {st : St} {a g t : Nat} (h : Held w wr S J lv ls st a g t) : ∃ s0 srest, ls = s0 :: srest := by
  cases ls with
  | nil => exact absurd rfl h.clean.1.some
  | cons s0 srest => exact ⟨s0, srest, rfl⟩
theorem asBytes_one (ls : List ByteArray) (s : ByteArray) : asBytes (ls ++ [s]) = asBytes ls ++ [s.data.toList] := by simp [asBytes]
theorem asBytes_len (ls : List ByteArray) : (asBytes ls).length = ls.length := by simp [asBytes]

/-- Add, of what is held. -/
theorem held_add {w wr : World} {S J : Nat} {lv : Value} {ls : List ByteArray} {st : St} {a g t : Nat} (h : Held w wr S J lv ls st a g t) (v : Value) (b : ByteArray) (hv : IsB wr 5 v b.data.toList) (hS : w.heap.size ≤ S) :
    Calls Try.prog 44 #[.pointer (some ⟨J, 0, none⟩), v] wr fun e w' => ∃ n : Int, e = .returned (.int .i64 n) ∧ JChg S wr w' ∧ Chg [] w w' ∧
      ((n = 0 ∧ ∃ st' t', StoreAt w' S st' ∧ st'.down = false ∧ st'.armed = st.armed ∧ Clean st'.bytes a g (asBytes (ls ++ [b])) ∧ JournalAt w' t' J S (jnOf a g (asBytes (ls ++ [b]))) ∧ OwnS w' w.heap.size lv ls) ∨
       (n = 13 ∧ st.armed = true ∧ OwnS w' w.heap.size lv ls ∧ ∃ st', StoreAt w' S st' ∧ (Weak st'.bytes a g (asBytes ls) ∨ Weak st'.bytes a g (asBytes (ls ++ [b])))) ∨
       (n ≠ 0 ∧ n ≠ 13 ∧ ∃ t', Held w w' S J lv ls st a g t')) := by
  have hfit := h.clean.1.fits
  have hcnt := length_le_nAll (asBytes ls)
  refine (Add_calls t J S (jnOf a g (asBytes ls)) st v b.data.toList wr h.store h.up h.at' rfl hv (by show a ≤ 1; have := h.clean.1.area; omega) hfit (by show (asBytes ls).length ≤ 1000; omega)).mono ?_
  rintro e w' ⟨he, hs, ⟨t', hj⟩, hc⟩
  have hchg := hc.chg h.chg hS
  refine ⟨_, he, hc, hchg, ?_⟩
  rcases add_step a g (asBytes ls) b.data.toList st h.clean h.up with ⟨_, h1, h2, h3, h4, h5, _⟩ | ⟨_, h1, h2, h3⟩ | ⟨h0, h1⟩
  · left
    exact ⟨h1, _, t', hs, h3, h4, by rw [asBytes_one]; exact h5, by rw [asBytes_one, ← h2]; exact hj, h.list.journal hc⟩
  · right; left
    exact ⟨h1, h2, h.list.journal hc, _, hs, by rw [asBytes_one]; exact h3⟩
  · right; right
    rw [h1] at hs hj ⊢
    exact ⟨h0, sizeAns_not13 _ _, t', hs, h.up, h.clean, hj, h.list.journal hc, hchg⟩
/-- Rewrite, of what is held. -/
theorem held_rewrite {w wr : World} {S J : Nat} {lv : Value} {ls : List ByteArray} {st : St} {a g t : Nat} (h : Held w wr S J lv ls st a g t) (v : Value) (b : ByteArray) (hv : IsB wr 5 v b.data.toList) (hS : w.heap.size ≤ S) (hg : g < 255) :
    Calls Try.prog 45 #[.pointer (some ⟨J, 0, none⟩), v] wr fun e w' => ∃ n : Int, e = .returned (.int .i64 n) ∧ JChg S wr w' ∧ Chg [] w w' ∧
      ((n = 0 ∧ ∃ st' t', StoreAt w' S st' ∧ st'.down = false ∧ st'.armed = st.armed ∧ Clean st'.bytes (1 - a) (g + 1) (asBytes [b]) ∧ JournalAt w' t' J S (jnOf (1 - a) (g + 1) (asBytes [b])) ∧ OwnS w' w.heap.size lv ls) ∨
       (n = 13 ∧ st.armed = true ∧ OwnS w' w.heap.size lv ls ∧ ∃ st', StoreAt w' S st' ∧ (Weak st'.bytes a g (asBytes ls) ∨ Weak st'.bytes (1 - a) (g + 1) (asBytes [b]))) ∨
       (n ≠ 0 ∧ n ≠ 13 ∧ ∃ t', Held w w' S J lv ls st a g t')) := by
  refine (Rewrite_calls t J S (jnOf a g (asBytes ls)) st v b.data.toList wr h.store h.up h.at' rfl hv (by show a ≤ 1; have := h.clean.1.area; omega) ⟨h.clean.1.gen1, hg⟩).mono ?_
  rintro e w' ⟨he, hs, ⟨t', hj⟩, hc⟩
  have hchg := hc.chg h.chg hS
  refine ⟨_, he, hc, hchg, ?_⟩
  rcases rewrite_step a g (asBytes ls) b.data.toList st h.clean h.up hg with ⟨h1, h2, h3, h4, h5⟩ | ⟨h1, h2, h3⟩ | ⟨h0, h1⟩
  · left
    exact ⟨h1, _, t', hs, h3, h4, h5, by rw [← show jnOf (1 - a) (g + 1) [b.data.toList] = jnOf (1 - a) (g + 1) (asBytes [b]) from rfl, ← h2]; exact hj, h.list.journal hc⟩
  · right; left
    exact ⟨h1, h2, h.list.journal hc, _, hs, h3⟩
  · right; right
    rw [h1] at hs hj ⊢
    exact ⟨h0, sizeAns_not13 _ _, t', hs, h.up, h.clean, hj, h.list.journal hc, hchg⟩
end Go.Proofs.Ytgmgmjljjbcgjaa

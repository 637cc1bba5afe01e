/- BlockPlays: its walk. -/
import Derived.Test.YtgmgmjljjbcgjaaRef8
import Derived.Test.YtgmgmjljjbcgjaaReg2
import Derived.Deep.CutBlock
namespace Go.Proofs.Ytgmgmjljjbcgjaa
open Go Go.RowKit

/-- The store and the document's are in one state. -/
structure SameSt (a b : St) : Prop where
  bytes : a.bytes = b.bytes
  armed : a.armed = b.armed
  left : a.armed = true → a.left = b.left
  part : a.part = b.part
  down : a.down = b.down
  writes : a.writes = b.writes

theorem SameSt.write {a b : St} (h : SameSt a b) (i : Int) (bs : List UInt8) : SameSt (a.write i bs).1 (b.rwrite i bs).1 ∧ (a.write i bs).2 = (b.rwrite i bs).2 := by
  obtain ⟨h1, h2, h3, h4, h5, h6⟩ := h
  unfold St.write St.rwrite
  rw [← h5, ← h2, ← h4, ← h6, ← h1]
  by_cases c1 : a.down = true
  · rw [if_pos c1, if_pos c1]; exact ⟨⟨h1, h2, h3, h4, h5, h6⟩, rfl⟩
  · rw [if_neg c1, if_neg c1]
    by_cases c2 : i < 0 ∨ 1024 ≤ i
    · rw [if_pos c2, if_pos c2]; exact ⟨⟨h1, h2, h3, h4, h5, h6⟩, rfl⟩
    · rw [if_neg c2, if_neg c2]
      by_cases c3 : bs.length ≠ 64
      · rw [if_pos c3, if_pos c3]; exact ⟨⟨h1, h2, h3, h4, h5, h6⟩, rfl⟩
      · rw [if_neg c3, if_neg c3]
        by_cases c4 : a.armed = true ∧ a.left = 0
        · have c5 : a.armed = true ∧ b.left = 0 := ⟨c4.1, by rw [← h3 c4.1]; exact c4.2⟩
          rw [if_pos c4, if_pos c5]
          exact ⟨⟨rfl, rfl, fun h => by simp at h, rfl, rfl, rfl⟩, rfl⟩
        · have c5 : ¬ (a.armed = true ∧ b.left = 0) := fun h => c4 ⟨h.1, by rw [h3 h.1]; exact h.2⟩
          rw [if_neg c4, if_neg c5]
          exact ⟨⟨rfl, rfl, fun h => by rw [h3 h], rfl, rfl, rfl⟩, rfl⟩
theorem SameSt.arm {a b : St} (h : SameSt a b) (n p : Int) : SameSt { a with armed := decide (0 ≤ n), left := n, part := p } { b with armed := decide (0 ≤ n), left := n, part := p } :=
  ⟨h.bytes, rfl, fun _ => rfl, rfl, h.down, h.writes⟩
theorem SameSt.power {a b : St} (h : SameSt a b) : SameSt { a with down := false, armed := false } { b with down := false, armed := false } :=
  ⟨h.bytes, rfl, fun h => by simp at h, h.part, rfl, h.writes⟩

theorem SameSt.rread {a b : St} (h : SameSt a b) (i : Int) : a.rread i = b.rread i := by
  unfold St.rread St.block
  rw [h.down, h.bytes]

/-- Read, whatever it answers. -/
theorem Read_calls (S : Nat) (i : Int) (st : St) (w : World) (hs : StoreAt w S st) :
    Calls Try.prog 29 #[.pointer (some ⟨S, 0, none⟩), .int .i64 i] w fun e w' => ∃ v bs, e = .returned (.tuple #[v, .int .i64 (st.rread i).2]) ∧ IsB w' 5 v bs ∧ strOf bs = (st.rread i).1 ∧ Chg [] w w' := by
  by_cases h1 : st.down = true
  · have e1 : st.rread i = (strOf [], 13) := by unfold St.rread; rw [if_pos h1]
    rw [e1]
    refine (Read_no S i st w hs 13 (by rw [if_pos h1]) (by decide)).mono ?_
    rintro e w' ⟨rfl, rfl⟩
    exact ⟨_, [], rfl, IsB.nil _ _, rfl, Chg.refl _ _⟩
  · by_cases h2 : i < 0 ∨ 1024 ≤ i
    · have e1 : st.rread i = (strOf [], 1) := by unfold St.rread; rw [if_neg h1, if_pos h2]
      rw [e1]
      refine (Read_no S i st w hs 1 (by rw [if_neg h1, if_pos h2]) (by decide)).mono ?_
      rintro e w' ⟨rfl, rfl⟩
      exact ⟨_, [], rfl, IsB.nil _ _, rfl, Chg.refl _ _⟩
    · obtain ⟨n, rfl⟩ : ∃ n : Nat, i = (n : Int) := ⟨i.toNat, by omega⟩
      have e1 : st.rread n = (strOf (st.block n), 0) := by unfold St.rread; rw [if_neg h1, if_neg h2]; rfl
      rw [e1]
      refine (Read_yes S n st w hs (by simpa using h1) (by omega)).mono ?_
      rintro e w' ⟨v, rfl, hv, hc⟩
      exact ⟨_, _, rfl, hv.isB, rfl, hc⟩

theorem IsB.chgAt {w w' : World} {T : TypeId} {v : Value} {bs : List UInt8} {g n cap : Nat} {r : List Nat} (h : IsB w T v bs) (hv : v = .slice (some ⟨g, 0, none⟩) n cap) (hc : Chg r w w') (hg : g ∉ r) : IsB w' T v bs := by
  obtain ⟨ao, cap', hv', hl, hm, hz, hb⟩ := h
  refine ⟨ao, cap', hv', hl, hm, hz, fun h0 => ?_⟩
  obtain ⟨g', off, cur, fr, ha, hh, hcells⟩ := hb h0
  refine ⟨g', off, cur, fr, ha, hc.heap hh ?_, hcells⟩
  rw [hv'] at hv
  subst ha
  simp only [Value.slice.injEq, Option.some.injEq, Addr.mk.injEq] at hv
  rw [hv.1.1]; exact hg

set_option maxRecDepth 100000 in
set_option maxHeartbeats 1000000 in
theorem BlockPlays_calls (l : List OpV) (v : Value) (zero : Bool) (w : World) (hops : OpsAt w v l) : Calls Try.prog 5 #[v, .bool zero] w fun e w' => e = .returned (.bool true) ∧ Chg [] w w' := by
  have hv2 := hops
  obtain ⟨ao, cap, rfl, hlc, -⟩ := hv2
  have HV := Lib.hid hops
  clear hops
  go_enter Try.func5, Try.ntmps5
  go_wp2_with fail
  refine (awake8_calls _).mono ?_
  rintro e w1 ⟨rfl, hc1⟩
  have HC1 := Lib.hid hc1
  clear hc1
  simp only []
  go_wp2_with fail
  refine (few8_calls l _ _ (HV.out.chg HC1.out)).mono ?_
  rintro e w2 ⟨rfl, rfl⟩
  simp only []
  cases hf : few8 l with
  | false =>
    go_wp2_with fail
    refine (awake8_calls _).mono ?_
    rintro e w5 ⟨rfl, hc5⟩
    have HC5 := Lib.hid (HC1.out.then hc5)
    clear hc5
    go_wp2
    go_ret
    exact ⟨rfl, HC5.out⟩
  | true =>
    go_wp2_with fail
    refine (New_calls _).mono ?_
    rintro e w3 ⟨rfl, hs3, hc3⟩
    have HS3 := Lib.hid hs3
    have HC3 := Lib.hid (HC1.out.then hc3)
    have HSz := Lib.hid (heap_lt hs3.2)
    obtain ⟨S0, hS0⟩ : ∃ S, w1.heap.size = S := ⟨_, rfl⟩
    have HS0 := Lib.hid (show w.heap.size ≤ S0 from by rw [← hS0]; exact HC1.out.size)
    rw [hS0] at HS3 HSz ⊢
    clear hs3 hc3 hS0
    go_wp2_with fail
    refine (rNew_calls _).mono ?_
    rintro e w4 ⟨R, B, hR, hB, rfl, hr, hc4⟩
    have HS4 := Lib.hid (HS3.out.chg hc4 (by simp))
    have HR := Lib.hid hr
    have HC4 := Lib.hid (HC3.out.then hc4)
    have HN := Lib.hid (show S0 ≠ R ∧ S0 ≠ B ∧ w.heap.size ≤ R ∧ w.heap.size ≤ B from by have := HSz.out; have := HC3.out.size; omega)
    clear hr hc4 HS3 HC3 HSz hR hB
    have hl200 : l.length ≤ 200 := by unfold few8 at hf; simp at hf; omega
    have hsmall : ∀ o ∈ l, o.b.size ≤ maxLen := by
      intro o ho
      unfold few8 at hf
      simp at hf
      have := hf.2 o ho
      unfold maxLen; omega
    have HSm := Lib.hid hsmall
    clear hsmall hf
    go_upto_if 23 with fail
    go_cut [5] from 23 (fun s5 wx => ∃ S, s5 = .pointer (some ⟨S, 0, none⟩) ∧ StoreAt wx S St.new ∧ RefAt wx R B St.new ∧ Chg [] w wx ∧ (S ≠ R ∧ S ≠ B ∧ w.heap.size ≤ R ∧ w.heap.size ≤ B ∧ w.heap.size ≤ S))
    case first =>
      cases zero with
      | true =>
        have hs5 : StoreAt (w4.alloc (.cells Try.zeroCells44 44)) w4.heap.size St.new := ⟨List.length_replicate, by rw [newCells]; exact heap_alloc_new _ _⟩
        have hc5 : Chg [] w4 (w4.alloc (.cells Try.zeroCells44 44)) := (Chg.refl [] w4).alloc _
        have hrl := heap_lt HR.out.2.2.1
        have hbl : B < w4.heap.size := (HR.out.2.2.2.lt _ rfl).2
        have HH := Lib.hid (show StoreAt (w4.alloc (.cells Try.zeroCells44 44)) w4.heap.size St.new ∧ RefAt (w4.alloc (.cells Try.zeroCells44 44)) R B St.new ∧ Chg [] w (w4.alloc (.cells Try.zeroCells44 44)) ∧ (w4.heap.size ≠ R ∧ w4.heap.size ≠ B ∧ w.heap.size ≤ R ∧ w.heap.size ≤ B ∧ w.heap.size ≤ w4.heap.size) from
          ⟨hs5, HR.out.chg hc5 (by simp) (by simp), HC4.out.then hc5, by have := HN.out; have := HC4.out.size; omega⟩)
        clear hs5 hc5 hrl hbl
        go_wp2_with fail
        go_meet
        exact ⟨_, rfl, HH.out⟩
      | false =>
        go_wp2_with fail
        go_meet
        exact ⟨_, rfl, HS4.out, HR.out, HC4.out, by have := HN.out; have := HS0.out; omega⟩
    case rest =>
      obtain ⟨S, rfl, hs5, hr5, hc5, hn5⟩ := hcut
      have HS5 := Lib.hid hs5
      have HR5 := Lib.hid hr5
      have HC5 := Lib.hid hc5
      have HN5 := Lib.hid hn5
      clear hs5 hr5 hc5 hn5 HS4 HR HC4 HN HS0
      go_wp2_with fail
      go_loopw [30] (fun j wr => ∃ k st rt, k ≤ l.length ∧ j = .int .i64 (k : Nat) ∧ StoreAt wr S st ∧ RefAt wr R B rt ∧ SameSt st rt ∧ Chg [] w wr) (fun j _ => l.length - (intOf j).toNat)
      case atStart => exact ⟨0, St.new, St.new, by omega, rfl, HS5.out, HR5.out, ⟨rfl, rfl, fun _ => rfl, rfl, rfl, rfl⟩, HC5.out⟩
      case round =>
        obtain ⟨k, st, rt, hk, rfl, hs, hr, hsame, hc⟩ := hrel
        clear HS5 HR5 HC5
        by_cases hlt : k < l.length
        · have hi2 : (k : Int) < (l.length : Int) := by omega
          obtain ⟨o, ho⟩ : ∃ o, l[k]? = some o := ⟨_, List.getElem?_eq_getElem hlt⟩
          have hv2 := HV.out.chg hc
          obtain ⟨ao', cap', hv, -, hcs⟩ := hv2
          simp only [Value.slice.injEq] at hv
          obtain ⟨rfl, -, rfl⟩ := hv
          obtain ⟨a, rfl, hcs2⟩ := hcs k o ho
          have hx0 := hcs2 0 _ rfl
          have hx1 := hcs2 1 _ rfl
          have hx2 := hcs2 2 _ rfl
          have hx3 := hcs2 3 _ rfl
          rw [Nat.add_zero] at hx0
          rw [add_at] at hx1 hx2 hx3
          have HO := Lib.hid (HSm.out o (List.mem_of_getElem? ho))
          have HS := Lib.hid hs
          have HR := Lib.hid hr
          have HSame := Lib.hid hsame
          have HC := Lib.hid hc
          clear hs hr hsame hc hcs hcs2 ho
          have hbox : BoxAt (wr.alloc (.cells #[.int .i64 o.kind, .int .i64 o.i, .int .i64 o.n, .string o.b] 46)) wr.heap.size o := heap_alloc_new _ _
          have hc6 : Chg [] wr (wr.alloc (.cells #[.int .i64 o.kind, .int .i64 o.i, .int .i64 o.n, .string o.b] 46)) := (Chg.refl [] wr).alloc _
          go_upto_block 2 with fail
          generalize hw6 : wr.alloc (.cells #[.int .i64 o.kind, .int .i64 o.i, .int .i64 o.n, .string o.b] 46) = w6 at hbox hc6 ⊢
          have hx : S < wr.heap.size ∧ R < wr.heap.size ∧ B < wr.heap.size := ⟨heap_lt HS.out.2, heap_lt HR.out.2.2.1, (HR.out.2.2.2.lt _ rfl).2⟩
          obtain ⟨X, hX⟩ : ∃ X, wr.heap.size = X := ⟨_, rfl⟩
          have HX := Lib.hid (show X ≠ S ∧ X ≠ R ∧ X ≠ B from by omega)
          have HLt := Lib.hid (show S < w6.heap.size ∧ R < w6.heap.size ∧ B < w6.heap.size from by have := hc6.size; omega)
          have HS := Lib.hid (HS.out.chg hc6 (by simp))
          have HR := Lib.hid (HR.out.chg hc6 (by simp) (by simp))
          have HC6 := Lib.hid (HC.out.then hc6)
          rw [hX] at hbox ⊢
          have HBox := Lib.hid hbox
          have HN := Lib.hid (show S ≠ R ∧ S ≠ B from ⟨HN5.out.1, HN5.out.2.1⟩)
          clear hbox hc6 hw6 hx hX hx0 hx1 hx2 hx3
          go_cut [30, 9, 10, 11, 12] from 30 to 116 (fun s30 s9 s10 s11 s12 wx => s30 = .int .i64 k ∧ ∃ st rt, StoreAt wx S st ∧ RefAt wx R B rt ∧ SameSt st rt ∧ Chg [] w wx)
          case first =>
            by_cases h1 : (o.kind == 1) = true
            · go_wp2_with fail
              obtain ⟨E, hE⟩ : ∃ E, (rt.rwrite o.i o.b.data.toList).2 = E := ⟨_, rfl⟩
              have HE := Lib.hid (show (st.write o.i o.b.data.toList).2 = E ∧ (rt.rwrite o.i o.b.data.toList).2 = E from ⟨(HSame.out.write o.i o.b.data.toList).2.trans hE, hE⟩)
              clear hE
              let p : Plan := {
                rows := fun j => if j = 6 then [S] else if j = 12 then [R, B] else []
                all := [S, R, B]
                Pre := fun i w => match i with
                  | 2 => BoxAt w X o
                  | 4 => BoxAt w X o
                  | 6 => StoreAt w S st
                  | 9 => BoxAt w X o
                  | 11 => BoxAt w X o
                  | 12 => RefAt w R B rt
                  | _ => True
                Φ := fun i v w => match i with
                  | 0 => v = .pointer (some ⟨S, 0, none⟩)
                  | 1 => v = .pointer (some ⟨X, 1, none⟩)
                  | 2 => v = .int .i64 o.i
                  | 3 => v = .pointer (some ⟨X, 3, none⟩)
                  | 4 => v = .string o.b
                  | 5 => ∃ g n cap, v = .slice (some ⟨g, 0, none⟩) n cap ∧ g ∉ [S, R, B] ∧ IsB w 5 v o.b.data.toList
                  | 6 => v = .int .i64 E
                  | 7 => v = .pointer (some ⟨R, 0, none⟩)
                  | 8 => v = .pointer (some ⟨X, 1, none⟩)
                  | 9 => v = .int .i64 o.i
                  | 10 => v = .pointer (some ⟨X, 3, none⟩)
                  | 11 => v = .string o.b
                  | 12 => v = .int .i64 E
                  | 13 => v = .bool false
                  | _ => True
                Ψ := fun i w => match i with
                  | 6 => StoreAt w S (st.write o.i o.b.data.toList).1
                  | 12 => RefAt w R B (rt.rwrite o.i o.b.data.toList).1
                  | _ => True
                sub := by
                  intro j x hx
                  split at hx
                  · simp at hx; simp [hx]
                  · split at hx
                    · simp at hx; rcases hx with hx | hx <;> simp [hx]
                    · simp at hx
                pre := by
                  intro i j w w1 hij h hc
                  match i, h, hij with
                  | 0, h, hij => exact trivial
                  | 1, h, hij => exact trivial
                  | 2, h, hij => exact hc.heap h (by split; simp [HX.out]; split; simp [HX.out]; simp)
                  | 3, h, hij => exact trivial
                  | 4, h, hij => exact hc.heap h (by split; simp [HX.out]; split; simp [HX.out]; simp)
                  | 5, h, hij => exact trivial
                  | 6, h, hij => exact h.chg hc (by rw [if_neg (fun e => hij e.symm)]; split; simp [HN.out]; simp)
                  | 7, h, hij => exact trivial
                  | 8, h, hij => exact trivial
                  | 9, h, hij => exact hc.heap h (by split; simp [HX.out]; split; simp [HX.out]; simp)
                  | 10, h, hij => exact trivial
                  | 11, h, hij => exact hc.heap h (by split; simp [HX.out]; split; simp [HX.out]; simp)
                  | 12, h, hij => exact h.chg hc (by split; simp; exact fun e => HN.out.1 e.symm; rw [if_neg (fun e => hij e.symm)]; simp) (by split; simp; exact fun e => HN.out.2 e.symm; rw [if_neg (fun e => hij e.symm)]; simp)
                  | 13, h, hij => exact trivial
                  | _ + 14, _, _ => trivial
                phi := by
                  intro i j v w w1 hij h hc
                  match i, h, hij with
                  | 0, h, hij => exact h
                  | 1, h, hij => exact h
                  | 2, h, hij => exact h
                  | 3, h, hij => exact h
                  | 4, h, hij => exact h
                  | 5, h, hij => exact (by obtain ⟨g, n, cap, hv, hg, hi⟩ := h; exact ⟨g, n, cap, hv, hg, hi.chgAt hv hc (fun hm => hg (by split at hm; simp at hm; simp [hm]; split at hm; simp at hm; rcases hm with hm | hm <;> simp [hm]; simp at hm))⟩)
                  | 6, h, hij => exact h
                  | 7, h, hij => exact h
                  | 8, h, hij => exact h
                  | 9, h, hij => exact h
                  | 10, h, hij => exact h
                  | 11, h, hij => exact h
                  | 12, h, hij => exact h
                  | 13, h, hij => exact h
                  | _ + 14, _, _ => trivial
                psi := by
                  intro i j w w1 hij h hc
                  match i, h, hij with
                  | 0, h, hij => exact trivial
                  | 1, h, hij => exact trivial
                  | 2, h, hij => exact trivial
                  | 3, h, hij => exact trivial
                  | 4, h, hij => exact trivial
                  | 5, h, hij => exact trivial
                  | 6, h, hij => exact h.chg hc (by rw [if_neg (fun e => hij e.symm)]; split; simp [HN.out]; simp)
                  | 7, h, hij => exact trivial
                  | 8, h, hij => exact trivial
                  | 9, h, hij => exact trivial
                  | 10, h, hij => exact trivial
                  | 11, h, hij => exact trivial
                  | 12, h, hij => exact h.chg hc (by split; simp; exact fun e => HN.out.1 e.symm; rw [if_neg (fun e => hij e.symm)]; simp) (by split; simp; exact fun e => HN.out.2 e.symm; rw [if_neg (fun e => hij e.symm)]; simp)
                  | 13, h, hij => exact trivial
                  | _ + 14, _, _ => trivial }
              refine wp_region_each3 (by kernel_rfl) p ?_ (by kernel_rfl) (by kernel_rfl) (by kernel_rfl) ?_ ?_
              · intro i
                match i with
                | 0 => exact trivial
                | 1 => exact trivial
                | 2 => exact HBox.out
                | 3 => exact trivial
                | 4 => exact HBox.out
                | 5 => exact trivial
                | 6 => exact HS.out
                | 7 => exact trivial
                | 8 => exact trivial
                | 9 => exact HBox.out
                | 10 => exact trivial
                | 11 => exact HBox.out
                | 12 => exact HR.out
                | 13 => exact trivial
                | _ + 14 => trivial
              · intro ac wc hc hall hpsi hput
                obtain ⟨x5, e5, d5⟩ : ∃ x, ac.tmps.getD 46 undef = x ∧ (fun (v : Value) (w : World) => ∃ g n cap, v = .slice (some ⟨g, 0, none⟩) n cap ∧ g ∉ [S, R, B] ∧ IsB w 5 v o.b.data.toList) x wc := ⟨_, rfl, hall 5 46 rfl⟩
                have hact := hput [(41, .pointer (some ⟨S, 0, none⟩)), (42, .pointer (some ⟨X, 1, none⟩)), (43, .int .i64 o.i), (44, .pointer (some ⟨X, 3, none⟩)), (45, .string o.b), (46, x5), (47, .int .i64 E), (48, .pointer (some ⟨R, 0, none⟩)), (49, .pointer (some ⟨X, 1, none⟩)), (50, .int .i64 o.i), (51, .pointer (some ⟨X, 3, none⟩)), (52, .string o.b), (53, .int .i64 E), (54, .bool false)] rfl ⟨hall 0 41 rfl, hall 1 42 rfl, hall 2 43 rfl, hall 3 44 rfl, hall 4 45 rfl, e5, hall 6 47 rfl, hall 7 48 rfl, hall 8 49 rfl, hall 9 50 rfl, hall 10 51 rfl, hall 11 52 rfl, hall 12 53 rfl, hall 13 54 rfl, trivial⟩
                clear hput hall
                subst hact
                have hs2 : StoreAt wc S (st.write o.i o.b.data.toList).1 := hpsi 6 (by decide)
                have hr2 : RefAt wc R B (rt.rwrite o.i o.b.data.toList).1 := hpsi 12 (by decide)
                have hc2 := HC6.out.trans hc (by have := HN5.out; have := HC6.out.size; intro x hx; simp [p] at hx; right; omega)
                have HH := Lib.hid (show ∃ st rt, StoreAt wc S st ∧ RefAt wc R B rt ∧ SameSt st rt ∧ Chg [] w wc from ⟨_, _, hs2, hr2, (HSame.out.write o.i o.b.data.toList).1, hc2⟩)
                clear hpsi hc d5 hs2 hr2 hc2
                clear p
                simp only [Act.puts, Act.put]
                go_simp
                go_wp2_with fail
                go_meet
                exact ⟨rfl, HH.out⟩
              · refine ⟨?_, ?_, ?_, ?_, ?_, ?_, ?_, ?_, ?_, ?_, ?_, ?_, ?_, ?_, trivial⟩
                · intro ac wc h K hK
                  have b5 : ac.tmps.getD 5 undef = .pointer (some ⟨S, 0, none⟩) := (h.base 5 (by decide)).trans rfl
                  go_simp
                  exact hK (.pointer (some ⟨S, 0, none⟩)) wc (Chg.refl _ wc) rfl trivial
                · intro ac wc h K hK
                  have b8 : ac.tmps.getD 8 undef = .pointer (some ⟨X, 0, none⟩) := (h.base 8 (by decide)).trans rfl
                  go_simp
                  exact hK (.pointer (some ⟨X, 1, none⟩)) wc (Chg.refl _ wc) rfl trivial
                · intro ac wc h K hK
                  have d42 : ac.tmps.getD 42 undef = .pointer (some ⟨X, 1, none⟩) := h.dep ⟨1, .data⟩ (by simp) rfl 42 rfl
                  have hq : wc.cell? ⟨X, 1, none⟩ = some (.int .i64 o.i) := cell_of_heap h.pre rfl
                  go_simp
                  exact hK (.int .i64 o.i) wc (Chg.refl _ wc) rfl trivial
                · intro ac wc h K hK
                  have b8 : ac.tmps.getD 8 undef = .pointer (some ⟨X, 0, none⟩) := (h.base 8 (by decide)).trans rfl
                  go_simp
                  exact hK (.pointer (some ⟨X, 3, none⟩)) wc (Chg.refl _ wc) rfl trivial
                · intro ac wc h K hK
                  have d44 : ac.tmps.getD 44 undef = .pointer (some ⟨X, 3, none⟩) := h.dep ⟨3, .data⟩ (by simp) rfl 44 rfl
                  have hq : wc.cell? ⟨X, 3, none⟩ = some (.string o.b) := cell_of_heap h.pre rfl
                  go_simp
                  exact hK (.string o.b) wc (Chg.refl _ wc) rfl trivial
                · intro ac wc h K hK
                  have d45 : ac.tmps.getD 45 undef = .string o.b := h.dep ⟨4, .data⟩ (by simp) rfl 45 rfl
                  obtain ⟨cap, w1, hr, hib, hc1, -⟩ := run_ofString wc o.b HO.out
                  go_simp
                  refine hK _ w1 hc1 ⟨wc.heap.size, _, _, rfl, ?_, hib⟩ trivial
                  have := h.chg.size
                  have := HLt.out
                  simp
                  omega
                · intro ac wc h K hK
                  have d41 : ac.tmps.getD 41 undef = .pointer (some ⟨S, 0, none⟩) := h.dep ⟨0, .data⟩ (by simp) rfl 41 rfl
                  have d43 : ac.tmps.getD 43 undef = .int .i64 o.i := h.dep ⟨2, .data⟩ (by simp) rfl 43 rfl
                  obtain ⟨v46, e46, d46⟩ : ∃ x, ac.tmps.getD 46 undef = x ∧ (fun (v : Value) (w : World) => ∃ g n cap, v = .slice (some ⟨g, 0, none⟩) n cap ∧ g ∉ [S, R, B] ∧ IsB w 5 v o.b.data.toList) x wc := ⟨_, rfl, h.dep ⟨5, .data⟩ (by simp) rfl 46 rfl⟩
                  obtain ⟨g, n, cap, rfl, hg, hi⟩ := d46
                  go_simp
                  refine (Write_calls S o.i st _ _ wc h.pre hi).mono ?_
                  rintro e w1 ⟨rfl, hs1, hc1⟩
                  rw [HE.out.1]
                  exact hK _ w1 hc1 rfl hs1
                · intro ac wc h K hK
                  have b6 : ac.tmps.getD 6 undef = .pointer (some ⟨R, 0, none⟩) := (h.base 6 (by decide)).trans rfl
                  go_simp
                  exact hK (.pointer (some ⟨R, 0, none⟩)) wc (Chg.refl _ wc) rfl trivial
                · intro ac wc h K hK
                  have b8 : ac.tmps.getD 8 undef = .pointer (some ⟨X, 0, none⟩) := (h.base 8 (by decide)).trans rfl
                  go_simp
                  exact hK (.pointer (some ⟨X, 1, none⟩)) wc (Chg.refl _ wc) rfl trivial
                · intro ac wc h K hK
                  have d49 : ac.tmps.getD 49 undef = .pointer (some ⟨X, 1, none⟩) := h.dep ⟨8, .data⟩ (by simp) rfl 49 rfl
                  have hq : wc.cell? ⟨X, 1, none⟩ = some (.int .i64 o.i) := cell_of_heap h.pre rfl
                  go_simp
                  exact hK (.int .i64 o.i) wc (Chg.refl _ wc) rfl trivial
                · intro ac wc h K hK
                  have b8 : ac.tmps.getD 8 undef = .pointer (some ⟨X, 0, none⟩) := (h.base 8 (by decide)).trans rfl
                  go_simp
                  exact hK (.pointer (some ⟨X, 3, none⟩)) wc (Chg.refl _ wc) rfl trivial
                · intro ac wc h K hK
                  have d51 : ac.tmps.getD 51 undef = .pointer (some ⟨X, 3, none⟩) := h.dep ⟨10, .data⟩ (by simp) rfl 51 rfl
                  have hq : wc.cell? ⟨X, 3, none⟩ = some (.string o.b) := cell_of_heap h.pre rfl
                  go_simp
                  exact hK (.string o.b) wc (Chg.refl _ wc) rfl trivial
                · intro ac wc h K hK
                  have d48 : ac.tmps.getD 48 undef = .pointer (some ⟨R, 0, none⟩) := h.dep ⟨7, .data⟩ (by simp) rfl 48 rfl
                  have d50 : ac.tmps.getD 50 undef = .int .i64 o.i := h.dep ⟨9, .data⟩ (by simp) rfl 50 rfl
                  have d52 : ac.tmps.getD 52 undef = .string o.b := h.dep ⟨11, .data⟩ (by simp) rfl 52 rfl
                  go_simp
                  refine (rWrite_calls R B o.i rt _ wc h.pre).mono ?_
                  rintro e w1 ⟨rfl, hs1, hc1⟩
                  rw [HE.out.2]
                  exact hK _ w1 hc1 rfl hs1
                · intro ac wc h K hK
                  have d47 : ac.tmps.getD 47 undef = .int .i64 E := h.dep ⟨6, .data⟩ (by simp) rfl 47 rfl
                  have d53 : ac.tmps.getD 53 undef = .int .i64 E := h.dep ⟨12, .data⟩ (by simp) rfl 53 rfl
                  go_simp
                  exact hK (.bool false) wc (Chg.refl _ wc) rfl trivial
            · have h1 : (o.kind == 1) = false := by simpa using h1
              have hx0 : w6.cell? ⟨X, 0, none⟩ = some (.int .i64 o.kind) := cell_of_heap HBox.out rfl
              have hx1 : w6.cell? ⟨X, 1, none⟩ = some (.int .i64 o.i) := cell_of_heap HBox.out rfl
              have hx2 : w6.cell? ⟨X, 2, none⟩ = some (.int .i64 o.n) := cell_of_heap HBox.out rfl
              by_cases h2 : (o.kind == 2) = true
              · go_wp2_with fail
                refine (Read_calls S o.i st _ HS.out).mono ?_
                rintro e w7 ⟨v, bs, rfl, hib, hbs, hc7⟩
                have hq := run_toString w7 5 _ _ hib
                rw [hbs, HSame.out.rread] at hq
                have hrr := rRead_calls R B o.i rt w7 (HR.out.chg hc7 (by simp) (by simp))
                rw [HSame.out.rread]
                have HRR := Lib.hid hrr
                have hx1 : w7.cell? ⟨X, 1, none⟩ = some (.int .i64 o.i) := hc7.cell hx1 (by simp)
                have HH := Lib.hid (show ∃ st rt, StoreAt w7 S st ∧ RefAt w7 R B rt ∧ SameSt st rt ∧ Chg [] w w7 from ⟨_, _, HS.out.chg hc7 (by simp), HR.out.chg hc7 (by simp) (by simp), HSame.out, HC6.out.then hc7⟩)
                clear hib hbs hc7 hrr
                obtain ⟨E, hE⟩ : ∃ E, rt.rread o.i = E := ⟨_, rfl⟩
                rw [hE] at HRR hq ⊢
                clear hE
                obtain ⟨T, E⟩ := E
                simp only [] at HRR hq ⊢
                go_wp2_with fail
                refine HRR.out.mono ?_
                rintro e w8 ⟨rfl, rfl⟩
                simp only []
                go_wp2_with fail
                go_meet
                exact ⟨rfl, HH.out⟩
              · have h2 : (o.kind == 2) = false := by simpa using h2
                by_cases h3 : (o.kind == 3) = true
                · go_wp2_with fail
                  refine (Arm_calls S o.i o.n st _ HS.out).mono ?_
                  rintro e w7 ⟨rfl, hs7, hc7⟩
                  have hr7 := HR.out.chg hc7 (by simp; exact fun e => HN.out.1 e.symm) (by simp; exact fun e => HN.out.2 e.symm)
                  have hra := rArm_calls R B o.i o.n rt w7 hr7
                  have HRA := Lib.hid hra
                  have HS7 := Lib.hid hs7
                  have HC7 := Lib.hid (HC6.out.trans hc7 (by have := HN5.out; have := HC6.out.size; intro x hx; simp at hx; right; omega))
                  have hx1 : w7.cell? ⟨X, 1, none⟩ = some (.int .i64 o.i) := hc7.cell hx1 (by simp [HX.out])
                  have hx2 : w7.cell? ⟨X, 2, none⟩ = some (.int .i64 o.n) := hc7.cell hx2 (by simp [HX.out])
                  clear hs7 hc7 hr7 hra
                  go_wp2_with fail
                  refine HRA.out.mono ?_
                  rintro e w8 ⟨rfl, hr8, hc8⟩
                  have HH := Lib.hid (show ∃ st rt, StoreAt w8 S st ∧ RefAt w8 R B rt ∧ SameSt st rt ∧ Chg [] w w8 from ⟨_, _, HS7.out.chg hc8 (by simp [HN.out]), hr8, HSame.out.arm o.i o.n, HC7.out.trans hc8 (by have := HN5.out; have := HC7.out.size; intro x hx; simp at hx; right; omega)⟩)
                  clear hr8 hc8
                  go_wp2_with fail
                  go_meet
                  exact ⟨rfl, HH.out⟩
                · have h3 : (o.kind == 3) = false := by simpa using h3
                  by_cases h4 : (o.kind == 4) = true
                  · go_wp2_with fail
                    refine (Power_calls S st _ HS.out).mono ?_
                    rintro e w7 ⟨rfl, hs7, hc7⟩
                    have hr7 := HR.out.chg hc7 (by simp; exact fun e => HN.out.1 e.symm) (by simp; exact fun e => HN.out.2 e.symm)
                    have hra := rPower_calls R B rt w7 hr7
                    have HRA := Lib.hid hra
                    have HS7 := Lib.hid hs7
                    have HC7 := Lib.hid (HC6.out.trans hc7 (by have := HN5.out; have := HC6.out.size; intro x hx; simp at hx; right; omega))
                    clear hs7 hc7 hr7 hra hx0 hx1 hx2
                    go_wp2_with fail
                    refine HRA.out.mono ?_
                    rintro e w8 ⟨rfl, hr8, hc8⟩
                    have HH := Lib.hid (show ∃ st rt, StoreAt w8 S st ∧ RefAt w8 R B rt ∧ SameSt st rt ∧ Chg [] w w8 from ⟨_, _, HS7.out.chg hc8 (by simp [HN.out]), hr8, HSame.out.power, HC7.out.trans hc8 (by have := HN5.out; have := HC7.out.size; intro x hx; simp at hx; right; omega)⟩)
                    clear hr8 hc8
                    go_wp2_with fail
                    go_meet
                    exact ⟨rfl, HH.out⟩
                  · have h4 : (o.kind == 4) = false := by simpa using h4
                    have HH := Lib.hid (show ∃ st rt, StoreAt w6 S st ∧ RefAt w6 R B rt ∧ SameSt st rt ∧ Chg [] w w6 from ⟨_, _, HS.out, HR.out, HSame.out, HC6.out⟩)
                    go_wp2_with fail
                    go_meet
                    exact ⟨rfl, HH.out⟩
          case rest =>
            obtain ⟨rfl, st2, rt2, hs2, hr2, hsame2, hc2⟩ := hcut
            have HS2 := Lib.hid hs2
            have HR2 := Lib.hid hr2
            have HC2 := Lib.hid hc2
            have HSame2 := Lib.hid hsame2
            clear hs2 hr2 hc2 hsame2 HS HR HC HC6 HBox HLt HSame HX
            obtain ⟨D, hD⟩ : ∃ D, rt2.down = D := ⟨_, rfl⟩
            obtain ⟨N, hN⟩ : ∃ N, rt2.writes = N := ⟨_, rfl⟩
            have HD := Lib.hid (show st2.down = D ∧ rt2.down = D ∧ st2.writes = N ∧ rt2.writes = N from ⟨HSame2.out.down.trans hD, hD, HSame2.out.writes.trans hN, hN⟩)
            clear hD hN
            go_wp2_with fail
            let p : Plan := {
              rows := fun _ => []
              all := []
              Pre := fun i w => match i with
                | 1 => StoreAt w S st2
                | 5 => RefAt w R B rt2
                | 9 => StoreAt w S st2
                | 13 => RefAt w R B rt2
                | _ => True
              Φ := fun i v w => match i with
                | 0 => v = .pointer (some ⟨S, 0, none⟩)
                | 1 => v = .bool D
                | 2 => v = .pointer (some ⟨R, 0, none⟩)
                | 3 => v = .pointer (some ⟨R, 0, none⟩)
                | 4 => v = .pointer (some ⟨R, 4, none⟩)
                | 5 => v = .bool D
                | 6 => v = .bool false
                | 7 => v = .bool false
                | 8 => v = .pointer (some ⟨S, 0, none⟩)
                | 9 => v = .int .i64 N
                | 10 => v = .pointer (some ⟨R, 0, none⟩)
                | 11 => v = .pointer (some ⟨R, 0, none⟩)
                | 12 => v = .pointer (some ⟨R, 5, none⟩)
                | 13 => v = .int .i64 N
                | 14 => v = .bool false
                | 15 => v = .bool false
                | _ => True
              Ψ := fun i w => match i with
                | _ => True
              sub := by
                intro j x hx
                exact hx
              pre := by
                intro i j w w1 hij h hc
                match i, h, hij with
                | 0, h, hij => exact trivial
                | 1, h, hij => exact h.chg hc (by simp)
                | 2, h, hij => exact trivial
                | 3, h, hij => exact trivial
                | 4, h, hij => exact trivial
                | 5, h, hij => exact h.chg hc (by simp) (by simp)
                | 6, h, hij => exact trivial
                | 7, h, hij => exact trivial
                | 8, h, hij => exact trivial
                | 9, h, hij => exact h.chg hc (by simp)
                | 10, h, hij => exact trivial
                | 11, h, hij => exact trivial
                | 12, h, hij => exact trivial
                | 13, h, hij => exact h.chg hc (by simp) (by simp)
                | 14, h, hij => exact trivial
                | 15, h, hij => exact trivial
                | _ + 16, _, _ => trivial
              phi := by
                intro i j v w w1 hij h hc
                match i, h, hij with
                | 0, h, hij => exact h
                | 1, h, hij => exact h
                | 2, h, hij => exact h
                | 3, h, hij => exact h
                | 4, h, hij => exact h
                | 5, h, hij => exact h
                | 6, h, hij => exact h
                | 7, h, hij => exact h
                | 8, h, hij => exact h
                | 9, h, hij => exact h
                | 10, h, hij => exact h
                | 11, h, hij => exact h
                | 12, h, hij => exact h
                | 13, h, hij => exact h
                | 14, h, hij => exact h
                | 15, h, hij => exact h
                | _ + 16, _, _ => trivial
              psi := by
                intro i j w w1 hij h hc
                match i, h, hij with
                | 0, h, hij => exact trivial
                | 1, h, hij => exact trivial
                | 2, h, hij => exact trivial
                | 3, h, hij => exact trivial
                | 4, h, hij => exact trivial
                | 5, h, hij => exact trivial
                | 6, h, hij => exact trivial
                | 7, h, hij => exact trivial
                | 8, h, hij => exact trivial
                | 9, h, hij => exact trivial
                | 10, h, hij => exact trivial
                | 11, h, hij => exact trivial
                | 12, h, hij => exact trivial
                | 13, h, hij => exact trivial
                | 14, h, hij => exact trivial
                | 15, h, hij => exact trivial
                | _ + 16, _, _ => trivial }
            refine wp_region_each3 (by kernel_rfl) p ?_ (by kernel_rfl) (by kernel_rfl) (by kernel_rfl) ?_ ?_
            · intro i
              match i with
              | 0 => exact trivial
              | 1 => exact HS2.out
              | 2 => exact trivial
              | 3 => exact trivial
              | 4 => exact trivial
              | 5 => exact HR2.out
              | 6 => exact trivial
              | 7 => exact trivial
              | 8 => exact trivial
              | 9 => exact HS2.out
              | 10 => exact trivial
              | 11 => exact trivial
              | 12 => exact trivial
              | 13 => exact HR2.out
              | 14 => exact trivial
              | 15 => exact trivial
              | _ + 16 => trivial
            · intro ac wc hc hall hpsi hput
              have hact := hput [(100, .pointer (some ⟨S, 0, none⟩)), (101, .bool D), (102, .pointer (some ⟨R, 0, none⟩)), (103, .pointer (some ⟨R, 0, none⟩)), (104, .pointer (some ⟨R, 4, none⟩)), (105, .bool D), (106, .bool false), (107, .bool false), (108, .pointer (some ⟨S, 0, none⟩)), (109, .int .i64 N), (110, .pointer (some ⟨R, 0, none⟩)), (111, .pointer (some ⟨R, 0, none⟩)), (112, .pointer (some ⟨R, 5, none⟩)), (113, .int .i64 N), (114, .bool false), (115, .bool false)] rfl ⟨hall 0 100 rfl, hall 1 101 rfl, hall 2 102 rfl, hall 3 103 rfl, hall 4 104 rfl, hall 5 105 rfl, hall 6 106 rfl, hall 7 107 rfl, hall 8 108 rfl, hall 9 109 rfl, hall 10 110 rfl, hall 11 111 rfl, hall 12 112 rfl, hall 13 113 rfl, hall 14 114 rfl, hall 15 115 rfl, trivial⟩
              clear hput hall
              subst hact
              have HC3 := Lib.hid (HC2.out.then hc)
              have HS3 := Lib.hid (HS2.out.chg hc (by simp [p]))
              have HR3 := Lib.hid (HR2.out.chg hc (by simp [p]) (by simp [p]))
              clear hpsi hc p
              simp only [Act.puts, Act.put]
              go_simp
              go_wp2_with fail
              go_roundw
              case rel => exact ⟨k + 1, st2, rt2, by omega, by go_num, HS3.out, HR3.out, HSame2.out, HC3.out⟩
              case measure => simp [intOf]; omega
            · refine ⟨?_, ?_, ?_, ?_, ?_, ?_, ?_, ?_, ?_, ?_, ?_, ?_, ?_, ?_, ?_, ?_, trivial⟩
              · intro ac wc h K hK
                have b5 : ac.tmps.getD 5 undef = .pointer (some ⟨S, 0, none⟩) := (h.base 5 (by decide)).trans rfl
                go_simp
                exact hK (.pointer (some ⟨S, 0, none⟩)) wc (Chg.refl _ wc) rfl trivial
              · intro ac wc h K hK
                have d100 : ac.tmps.getD 100 undef = .pointer (some ⟨S, 0, none⟩) := h.dep ⟨0, .data⟩ (by simp) rfl 100 rfl
                go_simp
                refine (Down_calls S st2 wc h.pre).mono ?_
                rintro e w1 ⟨rfl, rfl⟩
                rw [HD.out.1]
                exact hK _ wc (Chg.refl _ wc) rfl trivial
              · intro ac wc h K hK
                have b6 : ac.tmps.getD 6 undef = .pointer (some ⟨R, 0, none⟩) := (h.base 6 (by decide)).trans rfl
                go_simp
                exact hK (.pointer (some ⟨R, 0, none⟩)) wc (Chg.refl _ wc) rfl trivial
              · intro ac wc h K hK
                have d102 : ac.tmps.getD 102 undef = .pointer (some ⟨R, 0, none⟩) := h.dep ⟨2, .data⟩ (by simp) rfl 102 rfl
                go_simp
                exact hK (.pointer (some ⟨R, 0, none⟩)) wc (Chg.refl _ wc) rfl trivial
              · intro ac wc h K hK
                have d103 : ac.tmps.getD 103 undef = .pointer (some ⟨R, 0, none⟩) := h.dep ⟨3, .data⟩ (by simp) rfl 103 rfl
                go_simp
                exact hK (.pointer (some ⟨R, 4, none⟩)) wc (Chg.refl _ wc) rfl trivial
              · intro ac wc h K hK
                have d104 : ac.tmps.getD 104 undef = .pointer (some ⟨R, 4, none⟩) := h.dep ⟨4, .data⟩ (by simp) rfl 104 rfl
                have hq := h.pre.facts.2.2.2.2.1
                rw [HD.out.2.1] at hq
                go_simp
                exact hK (.bool D) wc (Chg.refl _ wc) rfl trivial
              · intro ac wc h K hK
                have d101 : ac.tmps.getD 101 undef = .bool D := h.dep ⟨1, .data⟩ (by simp) rfl 101 rfl
                have d105 : ac.tmps.getD 105 undef = .bool D := h.dep ⟨5, .data⟩ (by simp) rfl 105 rfl
                go_simp
                exact hK (.bool false) wc (Chg.refl _ wc) rfl trivial
              · intro ac wc h K hK
                have d106 : ac.tmps.getD 106 undef = .bool false := h.dep ⟨6, .data⟩ (by simp) rfl 106 rfl
                go_simp
                exact hK (.bool false) wc (Chg.refl _ wc) rfl trivial
              · intro ac wc h K hK
                have b5 : ac.tmps.getD 5 undef = .pointer (some ⟨S, 0, none⟩) := (h.base 5 (by decide)).trans rfl
                have g107 : ac.tmps[107]? = some (.bool false) := getElem_of_getD (h.dep ⟨7, .guard⟩ (by simp) rfl 107 rfl)
                go_simp
                exact hK (.pointer (some ⟨S, 0, none⟩)) wc (Chg.refl _ wc) rfl trivial
              · intro ac wc h K hK
                have d108 : ac.tmps.getD 108 undef = .pointer (some ⟨S, 0, none⟩) := h.dep ⟨8, .data⟩ (by simp) rfl 108 rfl
                have g107 : ac.tmps[107]? = some (.bool false) := getElem_of_getD (h.dep ⟨7, .guard⟩ (by simp) rfl 107 rfl)
                go_simp
                refine (Writes_calls S st2 wc h.pre).mono ?_
                rintro e w1 ⟨rfl, rfl⟩
                rw [HD.out.2.2.1]
                exact hK _ wc (Chg.refl _ wc) rfl trivial
              · intro ac wc h K hK
                have b6 : ac.tmps.getD 6 undef = .pointer (some ⟨R, 0, none⟩) := (h.base 6 (by decide)).trans rfl
                have g107 : ac.tmps[107]? = some (.bool false) := getElem_of_getD (h.dep ⟨7, .guard⟩ (by simp) rfl 107 rfl)
                go_simp
                exact hK (.pointer (some ⟨R, 0, none⟩)) wc (Chg.refl _ wc) rfl trivial
              · intro ac wc h K hK
                have d110 : ac.tmps.getD 110 undef = .pointer (some ⟨R, 0, none⟩) := h.dep ⟨10, .data⟩ (by simp) rfl 110 rfl
                have g107 : ac.tmps[107]? = some (.bool false) := getElem_of_getD (h.dep ⟨7, .guard⟩ (by simp) rfl 107 rfl)
                go_simp
                exact hK (.pointer (some ⟨R, 0, none⟩)) wc (Chg.refl _ wc) rfl trivial
              · intro ac wc h K hK
                have d111 : ac.tmps.getD 111 undef = .pointer (some ⟨R, 0, none⟩) := h.dep ⟨11, .data⟩ (by simp) rfl 111 rfl
                have g107 : ac.tmps[107]? = some (.bool false) := getElem_of_getD (h.dep ⟨7, .guard⟩ (by simp) rfl 107 rfl)
                go_simp
                exact hK (.pointer (some ⟨R, 5, none⟩)) wc (Chg.refl _ wc) rfl trivial
              · intro ac wc h K hK
                have d112 : ac.tmps.getD 112 undef = .pointer (some ⟨R, 5, none⟩) := h.dep ⟨12, .data⟩ (by simp) rfl 112 rfl
                have g107 : ac.tmps[107]? = some (.bool false) := getElem_of_getD (h.dep ⟨7, .guard⟩ (by simp) rfl 107 rfl)
                have hq := h.pre.facts.2.2.2.2.2.1
                rw [HD.out.2.2.2] at hq
                go_simp
                exact hK (.int .i64 N) wc (Chg.refl _ wc) rfl trivial
              · intro ac wc h K hK
                have d109 : ac.tmps.getD 109 undef = .int .i64 N := h.dep ⟨9, .data⟩ (by simp) rfl 109 rfl
                have d113 : ac.tmps.getD 113 undef = .int .i64 N := h.dep ⟨13, .data⟩ (by simp) rfl 113 rfl
                have g107 : ac.tmps[107]? = some (.bool false) := getElem_of_getD (h.dep ⟨7, .guard⟩ (by simp) rfl 107 rfl)
                go_simp
                exact hK (.bool false) wc (Chg.refl _ wc) rfl trivial
              · intro ac wc h K hK
                have d107 : ac.tmps.getD 107 undef = .bool false := h.dep ⟨7, .data⟩ (by simp) rfl 107 rfl
                have d114 : ac.tmps.getD 114 undef = .bool false := h.dep ⟨14, .data⟩ (by simp) rfl 114 rfl
                go_simp
                exact hK (.bool false) wc (Chg.refl _ wc) rfl trivial
        · obtain rfl : k = l.length := by omega
          have HS := Lib.hid hs
          have HR := Lib.hid hr
          have HC := Lib.hid hc
          obtain ⟨T, hT⟩ : ∃ T, strOf rt.bytes = T := ⟨_, rfl⟩
          have HT := Lib.hid (show strOf st.bytes = T ∧ strOf rt.bytes = T from ⟨by rw [hsame.bytes]; exact hT, hT⟩)
          clear hs hr hc hT hsame
          go_wp2_with fail
          let p : Plan := {
            rows := fun _ => []
            all := []
            Pre := fun i w => match i with
              | 1 => StoreAt w S st
              | 6 => RefAt w R B rt
              | 7 => RefAt w R B rt
              | _ => True
            Φ := fun i v w => match i with
              | 0 => v = .pointer (some ⟨S, 0, none⟩)
              | 1 => ∃ b, OwnB w b v st.bytes
              | 2 => v = .string T
              | 3 => v = .pointer (some ⟨R, 0, none⟩)
              | 4 => v = .pointer (some ⟨R, 0, none⟩)
              | 5 => v = .pointer (some ⟨R, 0, none⟩)
              | 6 => v = rowB B
              | 7 => v = .string T
              | 8 => v = .bool true
              | 9 => v = .bool true
              | _ => True
            Ψ := fun i w => match i with
              | _ => True
            sub := by
              intro j x hx
              exact hx
            pre := by
              intro i j w w1 hij h hc
              match i, h, hij with
              | 0, h, hij => exact trivial
              | 1, h, hij => exact h.chg hc (by simp)
              | 2, h, hij => exact trivial
              | 3, h, hij => exact trivial
              | 4, h, hij => exact trivial
              | 5, h, hij => exact trivial
              | 6, h, hij => exact h.chg hc (by simp) (by simp)
              | 7, h, hij => exact h.chg hc (by simp) (by simp)
              | 8, h, hij => exact trivial
              | 9, h, hij => exact trivial
              | _ + 10, _, _ => trivial
            phi := by
              intro i j v w w1 hij h hc
              match i, h, hij with
              | 0, h, hij => exact h
              | 1, h, hij => exact (h.elim fun b hb => ⟨b, hb.then hc⟩)
              | 2, h, hij => exact h
              | 3, h, hij => exact h
              | 4, h, hij => exact h
              | 5, h, hij => exact h
              | 6, h, hij => exact h
              | 7, h, hij => exact h
              | 8, h, hij => exact h
              | 9, h, hij => exact h
              | _ + 10, _, _ => trivial
            psi := by
              intro i j w w1 hij h hc
              match i, h, hij with
              | 0, h, hij => exact trivial
              | 1, h, hij => exact trivial
              | 2, h, hij => exact trivial
              | 3, h, hij => exact trivial
              | 4, h, hij => exact trivial
              | 5, h, hij => exact trivial
              | 6, h, hij => exact trivial
              | 7, h, hij => exact trivial
              | 8, h, hij => exact trivial
              | 9, h, hij => exact trivial
              | _ + 10, _, _ => trivial }
          refine wp_region_each3 (by kernel_rfl) p ?_ (by kernel_rfl) (by kernel_rfl) (by kernel_rfl) ?_ ?_
          · intro i
            match i with
            | 0 => exact trivial
            | 1 => exact HS.out
            | 2 => exact trivial
            | 3 => exact trivial
            | 4 => exact trivial
            | 5 => exact trivial
            | 6 => exact HR.out
            | 7 => exact HR.out
            | 8 => exact trivial
            | 9 => exact trivial
            | _ + 10 => trivial
          · intro ac wc hc hall hpsi hput
            obtain ⟨x1, e1, d1⟩ : ∃ x, ac.tmps.getD 118 undef = x ∧ (fun (v : Value) (w : World) => ∃ b, OwnB w b v st.bytes) x wc := ⟨_, rfl, hall 1 118 rfl⟩
            have hact := hput [(117, .pointer (some ⟨S, 0, none⟩)), (118, x1), (119, .string T), (120, .pointer (some ⟨R, 0, none⟩)), (121, .pointer (some ⟨R, 0, none⟩)), (122, .pointer (some ⟨R, 0, none⟩)), (123, rowB B), (124, .string T), (125, .bool true), (4, .bool true)] rfl ⟨hall 0 117 rfl, e1, hall 2 119 rfl, hall 3 120 rfl, hall 4 121 rfl, hall 5 122 rfl, hall 6 123 rfl, hall 7 124 rfl, hall 8 125 rfl, hall 9 4 rfl, trivial⟩
            clear hput hall
            subst hact
            have HC3 := Lib.hid (HC.out.then hc)
            clear hpsi hc d1 p
            simp only [Act.puts, Act.put]
            go_simp
            go_wp2_with fail
            go_ret
            exact ⟨rfl, HC3.out⟩
          · refine ⟨?_, ?_, ?_, ?_, ?_, ?_, ?_, ?_, ?_, ?_, trivial⟩
            · intro ac wc h K hK
              have b5 : ac.tmps.getD 5 undef = .pointer (some ⟨S, 0, none⟩) := (h.base 5 (by decide)).trans rfl
              go_simp
              exact hK (.pointer (some ⟨S, 0, none⟩)) wc (Chg.refl _ wc) rfl trivial
            · intro ac wc h K hK
              have d117 : ac.tmps.getD 117 undef = .pointer (some ⟨S, 0, none⟩) := h.dep ⟨0, .data⟩ (by simp) rfl 117 rfl
              go_simp
              refine (Bytes_calls S st wc h.pre).mono ?_
              rintro e w1 ⟨v, rfl, hv, hc1⟩
              exact hK v w1 hc1 ⟨_, hv⟩ trivial
            · intro ac wc h K hK
              obtain ⟨v118, e118, d118⟩ : ∃ x, ac.tmps.getD 118 undef = x ∧ (fun (v : Value) (w : World) => ∃ b, OwnB w b v st.bytes) x wc := ⟨_, rfl, h.dep ⟨1, .data⟩ (by simp) rfl 118 rfl⟩
              obtain ⟨b, hb⟩ := d118
              have hq := run_toString wc 5 _ _ hb.isB
              rw [HT.out.1] at hq
              clear hb
              go_simp
              exact hK (.string T) wc (Chg.refl _ wc) rfl trivial
            · intro ac wc h K hK
              have b6 : ac.tmps.getD 6 undef = .pointer (some ⟨R, 0, none⟩) := (h.base 6 (by decide)).trans rfl
              go_simp
              exact hK (.pointer (some ⟨R, 0, none⟩)) wc (Chg.refl _ wc) rfl trivial
            · intro ac wc h K hK
              have d120 : ac.tmps.getD 120 undef = .pointer (some ⟨R, 0, none⟩) := h.dep ⟨3, .data⟩ (by simp) rfl 120 rfl
              go_simp
              exact hK (.pointer (some ⟨R, 0, none⟩)) wc (Chg.refl _ wc) rfl trivial
            · intro ac wc h K hK
              have d121 : ac.tmps.getD 121 undef = .pointer (some ⟨R, 0, none⟩) := h.dep ⟨4, .data⟩ (by simp) rfl 121 rfl
              go_simp
              exact hK (.pointer (some ⟨R, 0, none⟩)) wc (Chg.refl _ wc) rfl trivial
            · intro ac wc h K hK
              have d122 : ac.tmps.getD 122 undef = .pointer (some ⟨R, 0, none⟩) := h.dep ⟨5, .data⟩ (by simp) rfl 122 rfl
              have hq := h.pre.facts.1
              go_simp
              exact hK (rowB B) wc (Chg.refl _ wc) rfl trivial
            · intro ac wc h K hK
              have d123 : ac.tmps.getD 123 undef = rowB B := h.dep ⟨6, .data⟩ (by simp) rfl 123 rfl
              have hq := run_toString wc 5 _ _ h.pre.2.2.2.isB
              rw [HT.out.2] at hq
              go_simp
              exact hK (.string T) wc (Chg.refl _ wc) rfl trivial
            · intro ac wc h K hK
              have d119 : ac.tmps.getD 119 undef = .string T := h.dep ⟨2, .data⟩ (by simp) rfl 119 rfl
              have d124 : ac.tmps.getD 124 undef = .string T := h.dep ⟨7, .data⟩ (by simp) rfl 124 rfl
              go_simp
              exact hK (.bool true) wc (Chg.refl _ wc) rfl trivial
            · intro ac wc h K hK
              have d125 : ac.tmps.getD 125 undef = .bool true := h.dep ⟨8, .data⟩ (by simp) rfl 125 rfl
              go_simp
              exact hK (.bool true) wc (Chg.refl _ wc) rfl trivial
end Go.Proofs.Ytgmgmjljjbcgjaa

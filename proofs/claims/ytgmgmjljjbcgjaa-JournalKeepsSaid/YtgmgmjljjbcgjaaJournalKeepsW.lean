/- JournalKeeps: its walk. -/
import Derived.Test.YtgmgmjljjbcgjaaJOpened
import Derived.Test.YtgmgmjljjbcgjaaReg4
namespace Go.Proofs.Ytgmgmjljjbcgjaa
open Go Go.RowKit NSX

theorem few9_sizes {l : List OpV} (h : few9 l = true) : l.length ≤ 60 ∧ ∀ o ∈ l, o.b.size ≤ 3000 := by
  unfold few9 at h
  rw [Bool.and_eq_true, decide_eq_true_iff, List.all_eq_true] at h
  exact ⟨h.1, fun o ho => by simpa using h.2 o ho⟩
theorem asBytes_les {ss : List ByteArray} (h : ∀ s ∈ ss, s.size ≤ 3000) : ∀ b ∈ asBytes ss, b.length ≤ 3000 := by
  intro b hb
  obtain ⟨s, hs, rfl⟩ := List.mem_map.1 hb
  rw [str_len]; exact h s hs

/-- 'append([]string{}, l...)': what is appended to has no room. -/
theorem step_sgrow {ops : Array Oper} {o : Oper} {a : Act} {w : World} {K : Act → World → Prop} {Q : Exit → Act → World → Prop} {E : Prop} (hgd : o.guard = none) (s e : Operand)
    (ho : o.op = .call { callee := .builtin .append, args := #[s, e], argTypes := #[61, 61] })
    (base : Nat) (l : List ByteArray) (g : Nat) (hs : a.eval s = .slice (some ⟨g, 0, none⟩) 0 0) (hv : OwnS w base (.slice (some ⟨g, 0, none⟩) 0 0) []) (x : Value) (hx : StrsAt w x l)
    (he : a.eval e = x) (hne : l ≠ []) (hl : l.length ≤ 1000000) (hbase : base ≤ w.heap.size)
    (h : ∀ v' w', OwnS w' base v' l → Chg [] w w' → K (a.put o.dst v') w') :
    if Region.wanted o (yielded ops a.tmps) = true then Oper.wp Try.prog o a w K Q else E := by
  have hw : Region.wanted o (yielded ops a.tmps) = true := by simp [Region.wanted, hgd]
  rw [if_pos hw]
  obtain ⟨v', w', hr, h1, h2⟩ := run_sappend w o.type base _ [] hv x l hx (by simpa using hl) hbase
  have hc : Chg [] w w' := by
    obtain ⟨i0, hi, hz0, hz1, hz2⟩ := info_parts Try.info9p
    have hund : Try.prog.underlying 61 = some (.slice 9) := by kernel_rfl
    obtain ⟨ao, cap, rfl, hl1, hm, hss⟩ := hx
    cases ao with
    | none =>
      cases l with
      | nil => exact absurd rfl hne
      | cons y ys => obtain ⟨a, ha, _⟩ := hss 0 y rfl; cases ha
    | some b =>
      have hlp : 0 < l.length := List.length_pos_iff.2 hne
      rw [run_append_grow (P := Try.prog) w 61 o.type 9 i0 _ hund hi hz0 ⟨g, 0, none⟩ 0 0 [] (by simp) (by simp) b l.length cap (l.map Value.string) (by rw [List.length_map, hz1, Nat.mul_one]) (by
        intro j u hj
        rw [List.getElem?_map] at hj
        cases hy : l[j]? with
        | none => rw [hy] at hj; cases hj
        | some s =>
          rw [hy] at hj
          simp only [Option.map_some, Option.some.injEq] at hj
          obtain ⟨a', ha', hc⟩ := hss j s hy
          simp only [Option.some.injEq] at ha'
          subst ha'
          rw [← hj]; exact hc) (by omega) (by omega) (growslice_fits (by omega) (by rw [hz2]; omega))] at hr
      simp only [Result.ok.injEq] at hr
      rw [← hr.2]
      exact ((Chg.refl [] w).drew).alloc _
  unfold Oper.wp
  simp [execOp, ho, resolve, invoke, builtin, hs, he, hr, Result.andThen]
  exact h v' w' (by simpa using h1) hc
theorem step_sappend {ops : Array Oper} {o : Oper} {a : Act} {w : World} {K : Act → World → Prop} {Q : Exit → Act → World → Prop} {E : Prop} (hgd : o.guard = none) (s e : Operand)
    (ho : o.op = .call { callee := .builtin .append, args := #[s, e], argTypes := #[61, 61] })
    (base : Nat) (v : Value) (l : List ByteArray) (hs : a.eval s = v) (hv : OwnS w base v l) (x : Value) (ys : List ByteArray) (hx : StrsAt w x ys)
    (he : a.eval e = x) (hl : l.length + ys.length ≤ 1000000) (hbase : base ≤ w.heap.size)
    (h : ∀ v' w', OwnS w' base v' (l ++ ys) → Chg v.ownBlock.toList w w' → K (a.put o.dst v') w') :
    if Region.wanted o (yielded ops a.tmps) = true then Oper.wp Try.prog o a w K Q else E := by
  have hw : Region.wanted o (yielded ops a.tmps) = true := by simp [Region.wanted, hgd]
  rw [if_pos hw]
  obtain ⟨v', w', hr, h1, h2⟩ := run_sappend w o.type base v l hv x ys hx hl hbase
  unfold Oper.wp
  simp [execOp, ho, resolve, invoke, builtin, hs, he, hr, Result.andThen]
  exact h v' w' h1 h2

theorem alloc_size (w : World) (o : Obj) : (w.alloc o).heap.size = w.heap.size + 1 := by simp

/-- holds, of a journal. -/
theorem jholds {t J S a g : Nat} {bs ls : List ByteArray} {v : Value} (w : World) (h : JournalAt w t J S (jnOf a g (asBytes bs))) (hfit : nAll (asBytes bs) ≤ 511) (hss : ∀ s ∈ bs, s.size ≤ 3000) (hb : bs ≠ []) (hl : StrsAt w v ls) (hne : ls ≠ []) :
    Calls Try.prog 47 #[.pointer (some ⟨J, 0, none⟩), v] w fun e w' => e = .returned (.bool (decide (asBytes bs = asBytes ls))) ∧ Chg [] w w' := by
  obtain ⟨b0, br, rfl⟩ : ∃ s0 sr, bs = s0 :: sr := by cases bs with | nil => exact absurd rfl hb | cons x y => exact ⟨x, y, rfl⟩
  obtain ⟨s0, sr, rfl⟩ : ∃ s0 sr, ls = s0 :: sr := by cases ls with | nil => exact absurd rfl hne | cons x y => exact ⟨x, y, rfl⟩
  have hle := asBytes_les hss
  have hcnt := length_le_nAll (asBytes (b0 :: br))
  exact holds_calls t J S (jnOf a g (asBytes (b0 :: br))) b0.data.toList (asBytes br) s0 sr v w h rfl (fun b hm => by have := hle b hm; omega) (by simp only [asBytes_cons, List.length_cons] at hcnt hfit; omega) hl
theorem held_holds {w wr : World} {S J : Nat} {lv : Value} {ls : List ByteArray} {st : St} {a g t : Nat} (h : Held w wr S J lv ls st a g t) (hss : ∀ s ∈ ls, s.size ≤ 3000) :
    Calls Try.prog 47 #[.pointer (some ⟨J, 0, none⟩), lv] wr fun e w' => e = .returned (.bool true) ∧ Chg [] wr w' := by
  obtain ⟨s0, sr, hls⟩ := h.some
  have h1 := jholds wr h.at' h.clean.1.fits hss (by rw [hls]; simp) h.list.strs (by rw [hls]; simp)
  rwa [show decide (asBytes ls = asBytes ls) = true from decide_eq_true rfl] at h1
theorem held_holdsNo {w wr : World} {S J : Nat} {lv : Value} {ls : List ByteArray} {st : St} {a g t : Nat} (h : Held w wr S J lv ls st a g t) (hss : ∀ s ∈ ls, s.size ≤ 3000) {v : Value} {vs : List ByteArray} (hv : StrsAt wr v vs) (hne : vs ≠ []) (hd : asBytes ls ≠ asBytes vs) :
    Calls Try.prog 47 #[.pointer (some ⟨J, 0, none⟩), v] wr fun e w' => e = .returned (.bool false) ∧ Chg [] wr w' := by
  obtain ⟨s0, sr, hls⟩ := h.some
  have h1 := jholds wr h.at' h.clean.1.fits hss (by rw [hls]; simp) hv hne
  rwa [decide_eq_false hd] at h1
/-- What opened leaves. -/
theorem held_opened {w w7 : World} {S : Nat} {ns : List Int} {u : Value} {st : St} {a g : Nat} {bs : List ByteArray} (hst : StoreAt w7 S st) (hu : IntsAt w u ns) (hc0 : Chg [] w w7) (hS : w.heap.size ≤ S) (hn5 : ns.length ≤ 100) (hw : Weak st.bytes a g (asBytes bs)) :
    Calls Try.prog 46 #[.pointer (some ⟨S, 0, none⟩), u] w7 fun e w' => ∃ J', e = .returned (.pointer (some ⟨J', 0, none⟩)) ∧ Chg [] w w' ∧ (∀ b v vs, OwnS w7 b v vs → OwnS w' b v vs) ∧
      ∃ st' t, ∀ v vs, OwnS w7 w.heap.size v vs → asBytes vs = asBytes bs → Held w w' S J' v vs st' a g t := by
  refine (opened_calls S st u ns a g (asBytes bs) w w7 hst hu hc0 hS hn5 hw).mono ?_
  rintro e w' ⟨J', st', rfl, hs', hd, -, hcl, ⟨t, hj⟩, hc⟩
  have hcw := hc0.trans hc (fun x hx => by simp at hx; subst hx; exact .inr hS)
  exact ⟨J', rfl, hcw, fun b v vs h => h.stored hst hc, st', t, fun v vs h e => ⟨hs', hd, by rw [e]; exact hcl, by rw [e]; exact hj, h.stored hst hc, hcw⟩⟩


set_option maxRecDepth 100000 in
set_option maxHeartbeats 8000000 in
theorem JournalKeeps_calls (f : ByteArray) (u : Value) (l : List OpV) (u2 : Value) (ns : List Int) (w : World) (hu : OpsAt w u l) (hcu : IntsAt w u2 ns) :
    Calls Try.prog 8 #[.string f, u, u2] w fun e w' => e = .returned (.bool true) ∧ Chg [] w w' := by
  have hu2 := hu
  obtain ⟨uo, ucap, rfl, hul, hb⟩ := hu2
  have hcu2 := hcu
  obtain ⟨no, ncap, rfl, hnl, -⟩ := hcu2
  have HU := Lib.hid hu
  have HCu := Lib.hid hcu
  clear hu hb hcu
  go_enter Try.func8, Try.ntmps8
  go_wp2_with fail
  refine (awake9_calls _).mono ?_
  rintro e w1 ⟨rfl, hc1⟩
  have HC1 := Lib.hid hc1
  have HFew := Lib.hid (few9_calls l _ w1 (HU.out.chg hc1))
  clear hc1
  simp only []
  go_wp2_with fail
  refine HFew.out.mono ?_
  rintro e w' ⟨rfl, rfl⟩
  simp only []
  by_cases hg : few9 l = true ∧ f.size ≤ 3000 ∧ ns.length ≤ 5
  · obtain ⟨hg1, hg2, hg3⟩ := hg
    have hf1 : ¬ ((3000 : Int) < (f.size : Int)) := by omega
    have hf2 : ¬ ((5 : Int) < (ns.length : Int)) := by omega
    obtain ⟨hl60, hsz⟩ := few9_sizes hg1
    have HSzs := Lib.hid hsz
    rw [hg1]
    clear hg1 hsz
    go_wp2_with fail
    refine (New_calls w1).mono ?_
    rintro e w2 ⟨rfl, hs2, hc2⟩
    obtain ⟨S, hS⟩ : ∃ S, w1.heap.size = S := ⟨_, rfl⟩
    rw [hS] at hs2 ⊢
    obtain ⟨cap, w3, hr, hib, hc3, -⟩ := run_ofString w2 f (by unfold maxLen; omega)
    have HO := Lib.hid (Open_new S _ f.data.toList w3 (hs2.chg hc3 (by simp)) hib (by rw [str_len]; omega))
    have HC3 := Lib.hid ((HC1.out.then hc2).then hc3)
    have hSw : w.heap.size ≤ S := by rw [← hS]; exact HC1.out.size
    clear hs2 hib hc2 hc3 hS
    simp only []
    go_wp2_with fail
    refine HO.out.mono ?_
    rintro e w4 ⟨J, st4, rfl, -, hs4, hd4, -, hcl4, -, ⟨t4, hj4⟩, hc4⟩
    have hC4 := HC3.out.trans hc4 (fun x hx => by simp at hx; subst hx; exact .inr hSw)
    have hAl := (Chg.refl [] w4).alloc (.cells #[.string f] 9)
    have hH0 : Held w (w4.alloc (.cells #[.string f] 9)) S J (.slice (some ⟨w4.heap.size, 0, none⟩) 1 1) [f] st4 0 1 t4 :=
      ⟨hs4.chg hAl (by simp), hd4, hcl4, by
        have e : jnOf 0 1 (asBytes [f]) = ⟨0, 1, [f.data.toList], nBlocks f.data.toList.length, false⟩ := by unfold jnOf; simp [nAll, asBytes]
        rw [e]; exact hj4.then hAl, (oneS w4 f).mono hC4.size, hC4.then hAl⟩
    have HH0 := Lib.hid hH0
    clear hs4 hd4 hcl4 hj4 hc4 hH0 hC4 hAl hr
    simp only []
    go_wp2_with fail
    go_loopw [51, 8, 10] (fun i jv lv wr => ∃ (k J : Nat) (ls : List ByteArray) (st : St) (a g t : Nat), k ≤ l.length ∧ i = .int .i64 k ∧ jv = .pointer (some ⟨J, 0, none⟩) ∧ Held w wr S J lv ls st a g t ∧ g ≤ k + 1 ∧ (∀ s ∈ ls, s.size ≤ 3000)) (fun i _ _ _ => l.length - (intOf i).toNat)
    case atStart => exact ⟨0, J, [f], st4, 0, 1, t4, by omega, rfl, rfl, HH0.out, by omega, by simp; omega⟩
    case round =>
      clear HH0
      obtain ⟨k, J, ls, st, a, g, t, hk, rfl, rfl, hh, hgk, hss⟩ := hrel
      obtain ⟨lo, lcap, hlv, -, -, -⟩ := hh.list.strs
      subst hlv
      have HH := Lib.hid hh
      have HSs := Lib.hid hss
      clear hh hss
      by_cases hlt : k < l.length
      · have hi2 : (k : Int) < (l.length : Int) := by omega
        obtain ⟨o, ho⟩ : ∃ o, l[k]? = some o := ⟨_, List.getElem?_eq_getElem hlt⟩
        have hob : o.b.size ≤ 3000 := HSzs.out o (List.mem_of_getElem? ho)
        obtain ⟨uo', ucap', hv, -, h3⟩ := HU.out
        simp only [Value.slice.injEq] at hv
        obtain ⟨rfl, -, rfl⟩ := hv
        obtain ⟨A, rfl, hx⟩ := h3 k o ho
        have hx0 := HH.out.chg.cell (hx 0 _ rfl) (by simp)
        have hx1 := HH.out.chg.cell (hx 1 _ rfl) (by simp)
        have hx2 := HH.out.chg.cell (hx 2 _ rfl) (by simp)
        have hx3 := HH.out.chg.cell (hx 3 _ rfl) (by simp)
        rw [Nat.add_zero] at hx0
        rw [add_at] at hx1 hx2 hx3
        clear ho h3 hx
        have hbox : BoxAt9 (wr.alloc (.cells #[.int .i64 o.kind, .int .i64 o.i, .int .i64 o.n, .string o.b] 62)) wr.heap.size o := heap_alloc_new _ _
        have hh6 := HH.out.then ((Chg.refl [] wr).alloc (.cells #[.int .i64 o.kind, .int .i64 o.i, .int .i64 o.n, .string o.b] 62))
        go_upto_region 12 with fail
        generalize wr.alloc (.cells #[.int .i64 o.kind, .int .i64 o.i, .int .i64 o.n, .string o.b] 62) = w6 at hbox hh6 ⊢
        obtain ⟨X, hX⟩ : ∃ X, wr.heap.size = X := ⟨_, rfl⟩
        rw [hX] at hbox ⊢
        obtain ⟨M, hM⟩ : ∃ M, w6.heap.size = M := ⟨_, rfl⟩
        have HM := Lib.hid hM
        obtain ⟨W0, hW0⟩ : ∃ W0, w.heap.size = W0 := ⟨_, rfl⟩
        have HMW := Lib.hid (show w.heap.size ≤ M from by rw [← hM]; exact hh6.chg.size)
        have HOL := Lib.hid (show OwnS w6 W0 (.slice lo ls.length lcap) ls from by rw [← hW0]; exact hh6.list)
        have HX3 := Lib.hid (show w6.cell? ⟨X, 3, none⟩ = some (.string o.b) from cell_of_heap hbox rfl)
        obtain ⟨s0, sr, hls⟩ := hh6.some
        have HNe := Lib.hid (show ls ≠ [] from by rw [hls]; simp)
        have HLl := Lib.hid (show ls.length ≤ 511 from by have h8 := length_le_nAll (asBytes ls); have h9 := hh6.clean.1.fits; rw [asBytes_len] at h8; omega)
        have HH6 := Lib.hid hh6
        have HBox := Lib.hid hbox
        clear HH hh6 hbox hX hM hW0 hls hx0 hx1 hx2 hx3
        let p : Plan4 := {
          anc := [[], [], [0, 1], [], [3], [3, 4], [0, 1, 2, 3, 4, 5], [0, 1, 2, 3, 4, 5, 6]]
          last := 6
          rows := fun j => []
          all := []
          Pre := fun i w => match i with
            | 2 => OwnS w W0 (.slice lo ls.length lcap) ls
            | 4 => w.cell? ⟨X, 3, none⟩ = some (.string o.b)
            | _ => True
          Φ := fun i v w => match i with
            | 0 => ∃ g, v = .slice (some ⟨g, 0, none⟩) 0 0 ∧ OwnS w M v []
            | 1 => v = .slice lo ls.length lcap
            | 2 => OwnS w M v ls
            | 3 => v = .pointer (some ⟨X, 3, none⟩)
            | 4 => v = .string o.b
            | 5 => ∃ x, v = .slice (some ⟨x, 0, none⟩) 1 1 ∧ OwnS w M v [o.b]
            | 6 => OwnS w M v (ls ++ [o.b])
            | 7 => OwnS w M v (ls ++ [o.b])
            | _ => True
          Ψ := fun i w => match i with
            | _ => True
          sub := by
            intro j x hx
            exact hx
          pre := by
            intro i j w w1 hij hn h hc
            match i, h, hij, hn with
            | 0, h, hij, hn => exact trivial
            | 1, h, hij, hn => exact trivial
            | 2, h, hij, hn => exact (by exact h.then hc)
            | 3, h, hij, hn => exact trivial
            | 4, h, hij, hn => exact (by exact hc.cell h (by simp))
            | 5, h, hij, hn => exact trivial
            | 6, h, hij, hn => exact trivial
            | 7, h, hij, hn => exact trivial
            | _ + 8, _, _, _ => trivial
          phi := by
            intro i j v w w1 hij hn hlast h hc
            match i, h, hij, hn, hlast with
            | 0, h, hij, hn, hlast => exact (by exact (by obtain ⟨g, h1, h2⟩ := h; exact ⟨g, h1, h2.then hc⟩))
            | 1, h, hij, hn, hlast => exact h
            | 2, h, hij, hn, hlast => exact (by exact OwnS.then h hc)
            | 3, h, hij, hn, hlast => exact h
            | 4, h, hij, hn, hlast => exact h
            | 5, h, hij, hn, hlast => exact (by exact (by obtain ⟨g, h1, h2⟩ := h; exact ⟨g, h1, h2.then hc⟩))
            | 6, h, hij, hn, hlast => exact (by exact OwnS.then h hc)
            | 7, h, hij, hn, hlast => exact (by exact OwnS.then h hc)
            | _ + 8, _, _, _, _ => trivial
          psi := by
            intro i j w w1 hij hn h hc
            match i, h, hij, hn with
            | 0, h, hij, hn => exact trivial
            | 1, h, hij, hn => exact trivial
            | 2, h, hij, hn => exact trivial
            | 3, h, hij, hn => exact trivial
            | 4, h, hij, hn => exact trivial
            | 5, h, hij, hn => exact trivial
            | 6, h, hij, hn => exact trivial
            | 7, h, hij, hn => exact trivial
            | _ + 8, _, _, _ => trivial
          freePre := by
            intro i w w' h1 h2 h
            match i, h1, h2, h with
            | 0, h1, h2, h => exact absurd (by decide) h2
            | 1, h1, h2, h => exact absurd (by decide) h2
            | 2, h1, h2, h => exact absurd (by decide) h2
            | 3, h1, h2, h => exact absurd (by decide) h2
            | 4, h1, h2, h => exact absurd (by decide) h2
            | 5, h1, h2, h => exact absurd (by decide) h2
            | 6, h1, h2, h => exact absurd rfl h1
            | 7, h1, h2, h => exact trivial
            | _ + 8, _, _, _ => trivial
          freePhi := by
            intro i v w w' h1 h2 h3 h
            match i, h1, h2, h3, h with
            | 0, h1, h2, h3, h => exact absurd (by decide) h2
            | 1, h1, h2, h3, h => exact absurd (by decide) h2
            | 2, h1, h2, h3, h => exact absurd (by decide) h2
            | 3, h1, h2, h3, h => exact absurd (by decide) h2
            | 4, h1, h2, h3, h => exact absurd (by decide) h2
            | 5, h1, h2, h3, h => exact absurd (by decide) h2
            | 6, h1, h2, h3, h => exact absurd rfl h1
            | 7, h1, h2, h3, h => exact absurd (by decide) h3
            | _ + 8, _, _, _, _ => trivial
          freePsi := by
            intro i w w' h1 h3 h
            match i, h1, h3, h with
            | 0, h1, h3, h => exact trivial
            | 1, h1, h3, h => exact trivial
            | 2, h1, h3, h => exact trivial
            | 3, h1, h3, h => exact trivial
            | 4, h1, h3, h => exact trivial
            | 5, h1, h3, h => exact trivial
            | 6, h1, h3, h => exact absurd rfl h1
            | 7, h1, h3, h => exact absurd (by decide) h3
            | _ + 8, _, _, _ => trivial }
        refine wp_region_each8 (by kernel_rfl) p ?hpreM (by kernel_rfl) (by kernel_rfl) (by kernel_rfl) (by kernel_rfl) ?hendM ?hstepsM
        case hpreM =>
          intro i
          match i with
          | 0 => exact trivial
          | 1 => exact trivial
          | 2 => exact HOL.out
          | 3 => exact trivial
          | 4 => exact HX3.out
          | 5 => exact trivial
          | 6 => exact trivial
          | 7 => exact trivial
          | _ + 8 => trivial
        case hstepsM =>
          refine ⟨?_, ?_, ?_, ?_, ?_, ?_, ?_, ?_, trivial⟩
          · intro ac wc h K hK
            go_simp
            exact hK _ _ (.inl ((Chg.refl [] wc).alloc (.cells #[] 9))) ⟨wc.heap.size, rfl, (emptyS9 wc).mono (by have := h.chg.size; have := HM.out; omega)⟩ trivial
          · intro ac wc h K hK
            have b10 : ac.tmps.getD 10 undef = .slice lo ls.length lcap := (h.base 10 (by decide)).trans rfl
            go_simp
            exact hK (.slice lo ls.length lcap) wc (.inl (Chg.refl _ wc)) rfl trivial
          · intro ac wc h K hK
            obtain ⟨v58, e58, d58⟩ : ∃ x, ac.tmps.getD 58 undef = x ∧ (fun (v : Value) (w : World) => ∃ g, v = .slice (some ⟨g, 0, none⟩) 0 0 ∧ OwnS w M v []) x wc := ⟨_, rfl, h.dep (.inr (show (2 : Nat) ∈ ([0, 1, 2, 3, 4, 5] : List Nat) by decide)) ⟨0, .data⟩ (by simp) rfl 58 rfl⟩
            have d59 : ac.tmps.getD 59 undef = .slice lo ls.length lcap := h.dep (.inr (show (2 : Nat) ∈ ([0, 1, 2, 3, 4, 5] : List Nat) by decide)) ⟨1, .data⟩ (by simp) rfl 59 rfl
            obtain ⟨g, rfl, hg⟩ := d58
            refine step_sgrow rfl (.tmp 58) (.tmp 59) rfl M ls g e58 hg _ (OwnS.strs h.pre) d59 HNe.out (by have := HLl.out; omega) (by have := h.chg.size; have := HM.out; omega) ?_
            intro v9 w9 ho9 hc9
            exact hK v9 w9 (.inl hc9) ho9 trivial
          · intro ac wc h K hK
            have b12 : ac.tmps.getD 12 undef = .pointer (some ⟨X, 0, none⟩) := (h.base 12 (by decide)).trans rfl
            go_simp
            exact hK (.pointer (some ⟨X, 3, none⟩)) wc (.inl (Chg.refl _ wc)) rfl trivial
          · intro ac wc h K hK
            have d61 : ac.tmps.getD 61 undef = .pointer (some ⟨X, 3, none⟩) := h.dep (.inr (show (4 : Nat) ∈ ([0, 1, 2, 3, 4, 5] : List Nat) by decide)) ⟨3, .data⟩ (by simp) rfl 61 rfl
            have hq : wc.cell? ⟨X, 3, none⟩ = some (.string o.b) := h.pre
            go_simp
            exact hK (.string o.b) wc (.inl (Chg.refl _ wc)) rfl trivial
          · intro ac wc h K hK
            have d62 : ac.tmps.getD 62 undef = .string o.b := h.dep (.inr (show (5 : Nat) ∈ ([0, 1, 2, 3, 4, 5] : List Nat) by decide)) ⟨4, .data⟩ (by simp) rfl 62 rfl
            have e62b : ac.tmps[62]?.getD undef = .string o.b := by simpa [Array.getD_eq_getD_getElem?] using d62
            clear d62
            go_simp
            exact hK _ _ (.inl ((Chg.refl [] wc).alloc (.cells #[.string o.b] 9))) ⟨wc.heap.size, rfl, (oneS wc o.b).mono (by have := h.chg.size; have := HM.out; omega)⟩ trivial
          · intro ac wc h K hK
            obtain ⟨v60, e60, d60⟩ : ∃ x, ac.tmps.getD 60 undef = x ∧ (fun (v : Value) (w : World) => OwnS w M v ls) x wc := ⟨_, rfl, h.dep (.inl rfl) ⟨2, .data⟩ (by simp) rfl 60 rfl⟩
            obtain ⟨v63, e63, d63⟩ : ∃ x, ac.tmps.getD 63 undef = x ∧ (fun (v : Value) (w : World) => ∃ x, v = .slice (some ⟨x, 0, none⟩) 1 1 ∧ OwnS w M v [o.b]) x wc := ⟨_, rfl, h.dep (.inl rfl) ⟨5, .data⟩ (by simp) rfl 63 rfl⟩
            obtain ⟨x, rfl, hx⟩ := d63
            refine step_sappend rfl (.tmp 60) (.tmp 63) rfl M _ ls e60 d60 _ [o.b] hx.strs e63 (by have := HLl.out; simp; omega) (by have := h.chg.size; have := HM.out; omega) ?_
            intro v9 w9 ho9 hc9
            refine hK v9 w9 (.inr ⟨rfl, _, hc9, fun x hx => .inr ?_⟩) ho9 trivial
            have := (d60.lt x (by simpa using hx)).1
            have := HM.out
            omega
          · intro ac wc h K hK
            obtain ⟨v64, e64, d64⟩ : ∃ x, ac.tmps.getD 64 undef = x ∧ (fun (v : Value) (w : World) => OwnS w M v (ls ++ [o.b])) x wc := ⟨_, rfl, h.dep2 ⟨6, .data⟩ (by simp) rfl (show (6 : Nat) ∉ ([0, 1, 2, 3, 4, 5] : List Nat) by decide) 64 rfl⟩
            go_simp
            exact hK _ wc (.inl (Chg.refl _ wc)) d64 trivial
        intro acM wcM hc hall hpsi hput
        obtain ⟨x0, e0⟩ : ∃ x, acM.tmps.getD 58 undef = x := ⟨_, rfl⟩
        obtain ⟨x1, e1⟩ : ∃ x, acM.tmps.getD 59 undef = x := ⟨_, rfl⟩
        obtain ⟨x2, e2⟩ : ∃ x, acM.tmps.getD 60 undef = x := ⟨_, rfl⟩
        obtain ⟨x3, e3⟩ : ∃ x, acM.tmps.getD 61 undef = x := ⟨_, rfl⟩
        obtain ⟨x4, e4⟩ : ∃ x, acM.tmps.getD 62 undef = x := ⟨_, rfl⟩
        obtain ⟨x5, e5⟩ : ∃ x, acM.tmps.getD 63 undef = x := ⟨_, rfl⟩
        obtain ⟨x6, e6, d6⟩ : ∃ x, acM.tmps.getD 64 undef = x ∧ (fun (v : Value) (w : World) => OwnS w M v (ls ++ [o.b])) x wcM := ⟨_, rfl, hall 6 64 (show (6 : Nat) ∉ ([0, 1, 2, 3, 4, 5] : List Nat) by decide) rfl⟩
        obtain ⟨x7, e7, d7⟩ : ∃ x, acM.tmps.getD 13 undef = x ∧ (fun (v : Value) (w : World) => OwnS w M v (ls ++ [o.b])) x wcM := ⟨_, rfl, hall 7 13 (show (7 : Nat) ∉ ([0, 1, 2, 3, 4, 5] : List Nat) by decide) rfl⟩
        have hact := hput [(58, x0), (59, x1), (60, x2), (61, x3), (62, x4), (63, x5), (64, x6), (13, x7)] rfl ⟨e0, e1, e2, e3, e4, e5, e6, e7, trivial⟩
        clear hput hall
        subst hact
        have HMo := Lib.hid (show OwnS wcM M x7 (ls ++ [o.b]) from d7)
        have HCM := Lib.hid (show Chg [] w6 wcM from hc)
        clear hpsi hc p d6 d7
        simp only [Act.puts, Act.put]
        go_simp
        have HBx := Lib.hid (HBox.out.then HCM.out)
        have HHM := Lib.hid (HH6.out.then HCM.out)
        have HMo2 := Lib.hid (HMo.out.mono HMW.out)
        have hm0 : wcM.cell? ⟨X, 0, none⟩ = some (.int .i64 o.kind) := cell_of_heap HBx.out rfl
        clear HMo HH6 HOL HX3 HBox HCM HM HMW
        have HSm := Lib.hid (show ∀ s ∈ ls ++ [o.b], s.size ≤ 3000 from fun s hs => (List.mem_append.1 hs).elim (HSs.out s) (fun h => by simp at h; subst h; exact hob))
        have HSo := Lib.hid (show ∀ s ∈ [o.b], s.size ≤ 3000 from fun s hs => by simp at hs; subst hs; exact hob)
        by_cases hk1 : o.kind = 1
        · have hk1i : (o.kind == 1) = true := by simp [hk1]
          have hm3 : wcM.cell? ⟨X, 3, none⟩ = some (.string o.b) := cell_of_heap HBx.out rfl
          obtain ⟨bcap, w5, hr5, hib5, hc5, -⟩ := run_ofString wcM o.b (by unfold maxLen; omega)
          have HAdd := Lib.hid (held_add (HHM.out.then hc5) _ o.b hib5 hSw)
          have HOM5 := Lib.hid (HMo2.out.then hc5)
          clear hib5 hc5 hk1
          go_wp2_with fail
          refine HAdd.out.mono ?_
          rintro e w7 ⟨n, rfl, hjc, hc7, hcase⟩
          have HOM7 := Lib.hid (HOM5.out.journal hjc)
          clear hm0 hm3
          rcases hcase with ⟨rfl, st', t', hs', hd', ha', hcl', hj', hl'⟩ | ⟨rfl, -, hl', st7, hs7, hwk⟩ | ⟨hn0, hn13, t', hh'⟩
          · have HH2 := Lib.hid (show Held w w7 S J _ (ls ++ [o.b]) st' a g t' from ⟨hs', hd', hcl', hj', HOM7.out, hc7⟩)
            clear hs' hd' ha' hcl' hj' hl' hjc hc7 hr5
            simp only []
            go_wp2_with fail
            refine (held_holds HH2.out HSm.out).mono ?_
            rintro e wz ⟨rfl, hcz⟩
            have HHz := Lib.hid (HH2.out.then hcz)
            clear hcz
            simp only []
            go_wp2_with fail
            go_roundw
            case rel => exact ⟨k + 1, _, ls ++ [o.b], st', a, g, t', by omega, by go_num, rfl, HHz.out, by omega, HSm.out⟩
            case measure => simp [intOf]; omega
          · have HOL7 := Lib.hid hl'
            clear hl' hjc hr5
            rcases hwk with hwk | hwk
            · have HOp := Lib.hid (held_opened hs7 HCu.out hc7 hSw (by omega) hwk)
              clear hs7 hc7 hwk
              simp only []
              go_wp2_with fail
              refine HOp.out.mono ?_
              rintro e w8 ⟨J8, rfl, -, -, st8, t8, hh8⟩
              have HA0 := Lib.hid (hh8 _ _ HOL7.out rfl)
              clear hh8
              simp only []
              go_wp2_with fail
              refine (held_holds HA0.out HSs.out).mono ?_
              rintro e w9 ⟨rfl, hc9⟩
              have HA1 := Lib.hid (HA0.out.then hc9)
              clear hc9
              simp only []
              go_wp2_with fail
              refine (held_holds HA1.out HSs.out).mono ?_
              rintro e w10 ⟨rfl, hc10⟩
              have HA2 := Lib.hid (HA1.out.then hc10)
              clear hc10
              simp only []
              go_wp2_with fail
              refine (held_holds HA2.out HSs.out).mono ?_
              rintro e wz ⟨rfl, hcz⟩
              have HHz := Lib.hid (HA2.out.then hcz)
              clear hcz
              simp only []
              go_wp2_with fail
              go_roundw
              case rel => exact ⟨k + 1, _, ls, st8, a, g, t8, by omega, by go_num, rfl, HHz.out, by omega, HSs.out⟩
              case measure => simp [intOf]; omega
            · have HOp := Lib.hid (held_opened hs7 HCu.out hc7 hSw (by omega) hwk)
              clear hs7 hc7 hwk
              simp only []
              go_wp2_with fail
              refine HOp.out.mono ?_
              rintro e w8 ⟨J8, rfl, -, ho8, st8, t8, hh8⟩
              by_cases hsame : asBytes (ls ++ [o.b]) = asBytes ls
              · have HA0 := Lib.hid (hh8 _ _ HOL7.out hsame.symm)
                clear hh8 ho8 hsame
                simp only []
                go_wp2_with fail
                refine (held_holds HA0.out HSs.out).mono ?_
                rintro e w9 ⟨rfl, hc9⟩
                have HA1 := Lib.hid (HA0.out.then hc9)
                clear hc9
                simp only []
                go_wp2_with fail
                refine (held_holds HA1.out HSs.out).mono ?_
                rintro e w10 ⟨rfl, hc10⟩
                have HA2 := Lib.hid (HA1.out.then hc10)
                clear hc10
                simp only []
                go_wp2_with fail
                refine (held_holds HA2.out HSs.out).mono ?_
                rintro e wz ⟨rfl, hcz⟩
                have HHz := Lib.hid (HA2.out.then hcz)
                clear hcz
                simp only []
                go_wp2_with fail
                go_roundw
                case rel => exact ⟨k + 1, _, ls, st8, a, g, t8, by omega, by go_num, rfl, HHz.out, by omega, HSs.out⟩
                case measure => simp [intOf]; omega
              · have HA0 := Lib.hid (hh8 _ _ HOM7.out rfl)
                have HB0 := Lib.hid (ho8 _ _ _ HOL7.out)
                have HDif := Lib.hid hsame
                clear hh8 ho8 hsame
                simp only []
                go_wp2_with fail
                refine (held_holdsNo HA0.out HSm.out HB0.out.strs HNe.out HDif.out).mono ?_
                rintro e w9 ⟨rfl, hc9⟩
                have HA1 := Lib.hid (HA0.out.then hc9)
                have HB1 := Lib.hid (HB0.out.then hc9)
                clear hc9
                simp only []
                go_wp2_with fail
                refine (held_holds HA1.out HSm.out).mono ?_
                rintro e w10 ⟨rfl, hc10⟩
                have HA2 := Lib.hid (HA1.out.then hc10)
                have HB2 := Lib.hid (HB1.out.then hc10)
                clear hc10
                simp only []
                go_wp2_with fail
                refine (held_holdsNo HA2.out HSm.out HB2.out.strs HNe.out HDif.out).mono ?_
                rintro e w11 ⟨rfl, hc11⟩
                have HA3 := Lib.hid (HA2.out.then hc11)
                clear hc11
                simp only []
                go_wp2_with fail
                refine (held_holds HA3.out HSm.out).mono ?_
                rintro e wz ⟨rfl, hcz⟩
                have HHz := Lib.hid (HA3.out.then hcz)
                clear hcz
                simp only []
                go_wp2_with fail
                go_roundw
                case rel => exact ⟨k + 1, _, ls ++ [o.b], st8, a, g, t8, by omega, by go_num, rfl, HHz.out, by omega, HSm.out⟩
                case measure => simp [intOf]; omega
          · have hn0i : (n == 0) = false := by simp [hn0]
            have hn13i : (n == 13) = false := by simp [hn13]
            have HH2 := Lib.hid hh'
            clear hh' hjc hc7 hn0 hn13 hr5
            simp only []
            go_wp2_with fail
            refine (held_holds HH2.out HSs.out).mono ?_
            rintro e wz ⟨rfl, hcz⟩
            have HHz := Lib.hid (HH2.out.then hcz)
            clear hcz
            simp only []
            go_wp2_with fail
            go_roundw
            case rel => exact ⟨k + 1, _, ls, st, a, g, t', by omega, by go_num, rfl, HHz.out, by omega, HSs.out⟩
            case measure => simp [intOf]; omega
        · have hk1i : (o.kind == 1) = false := by simp [hk1]
          by_cases hk2 : o.kind = 2
          · have hk2i : (o.kind == 2) = true := by simp [hk2]
            have hm3 : wcM.cell? ⟨X, 3, none⟩ = some (.string o.b) := cell_of_heap HBx.out rfl
            have hal := (Chg.refl [] wcM).alloc (.cells #[.string o.b] 9)
            have hm3a := hal.cell hm3 (by simp)
            obtain ⟨bcap, w5, hr5, hib5, hc5, -⟩ := run_ofString (wcM.alloc (.cells #[.string o.b] 9)) o.b (by unfold maxLen; omega)
            rw [show (wcM.alloc (.cells #[.string o.b] 9)).heap.size = wcM.heap.size + 1 from alloc_size _ _] at hr5 hib5
            have HAdd := Lib.hid (held_rewrite ((HHM.out.then hal).then hc5) _ o.b hib5 hSw (by omega))
            have HOM5 := Lib.hid (((oneS wcM o.b).mono HHM.out.chg.size).then hc5)
            clear hib5 hc5 hk1 hk2 hal
            go_wp2_with fail
            refine HAdd.out.mono ?_
            rintro e w7 ⟨n, rfl, hjc, hc7, hcase⟩
            have HOM7 := Lib.hid (HOM5.out.journal hjc)
            clear hm0 hm3 hm3a
            rcases hcase with ⟨rfl, st', t', hs', hd', ha', hcl', hj', hl'⟩ | ⟨rfl, -, hl', st7, hs7, hwk⟩ | ⟨hn0, hn13, t', hh'⟩
            · have HH2 := Lib.hid (show Held w w7 S J _ ([o.b]) st' (1 - a) (g + 1) t' from ⟨hs', hd', hcl', hj', HOM7.out, hc7⟩)
              clear hs' hd' ha' hcl' hj' hl' hjc hc7 hr5
              simp only []
              go_wp2_with fail
              refine (held_holds HH2.out HSo.out).mono ?_
              rintro e wz ⟨rfl, hcz⟩
              have HHz := Lib.hid (HH2.out.then hcz)
              clear hcz
              simp only []
              go_wp2_with fail
              go_roundw
              case rel => exact ⟨k + 1, _, [o.b], st', (1 - a), (g + 1), t', by omega, by go_num, rfl, HHz.out, by omega, HSo.out⟩
              case measure => simp [intOf]; omega
            · have HOL7 := Lib.hid hl'
              clear hl' hjc hr5
              rcases hwk with hwk | hwk
              · have HOp := Lib.hid (held_opened hs7 HCu.out hc7 hSw (by omega) hwk)
                clear hs7 hc7 hwk
                simp only []
                go_wp2_with fail
                refine HOp.out.mono ?_
                rintro e w8 ⟨J8, rfl, -, -, st8, t8, hh8⟩
                have HA0 := Lib.hid (hh8 _ _ HOL7.out rfl)
                clear hh8
                simp only []
                go_wp2_with fail
                refine (held_holds HA0.out HSs.out).mono ?_
                rintro e w9 ⟨rfl, hc9⟩
                have HA1 := Lib.hid (HA0.out.then hc9)
                clear hc9
                simp only []
                go_wp2_with fail
                refine (held_holds HA1.out HSs.out).mono ?_
                rintro e w10 ⟨rfl, hc10⟩
                have HA2 := Lib.hid (HA1.out.then hc10)
                clear hc10
                simp only []
                go_wp2_with fail
                refine (held_holds HA2.out HSs.out).mono ?_
                rintro e wz ⟨rfl, hcz⟩
                have HHz := Lib.hid (HA2.out.then hcz)
                clear hcz
                simp only []
                go_wp2_with fail
                go_roundw
                case rel => exact ⟨k + 1, _, ls, st8, a, g, t8, by omega, by go_num, rfl, HHz.out, by omega, HSs.out⟩
                case measure => simp [intOf]; omega
              · have HOp := Lib.hid (held_opened hs7 HCu.out hc7 hSw (by omega) hwk)
                clear hs7 hc7 hwk
                simp only []
                go_wp2_with fail
                refine HOp.out.mono ?_
                rintro e w8 ⟨J8, rfl, -, ho8, st8, t8, hh8⟩
                by_cases hsame : asBytes ([o.b]) = asBytes ls
                · have HA0 := Lib.hid (hh8 _ _ HOL7.out hsame.symm)
                  clear hh8 ho8 hsame
                  simp only []
                  go_wp2_with fail
                  refine (held_holds HA0.out HSs.out).mono ?_
                  rintro e w9 ⟨rfl, hc9⟩
                  have HA1 := Lib.hid (HA0.out.then hc9)
                  clear hc9
                  simp only []
                  go_wp2_with fail
                  refine (held_holds HA1.out HSs.out).mono ?_
                  rintro e w10 ⟨rfl, hc10⟩
                  have HA2 := Lib.hid (HA1.out.then hc10)
                  clear hc10
                  simp only []
                  go_wp2_with fail
                  refine (held_holds HA2.out HSs.out).mono ?_
                  rintro e wz ⟨rfl, hcz⟩
                  have HHz := Lib.hid (HA2.out.then hcz)
                  clear hcz
                  simp only []
                  go_wp2_with fail
                  go_roundw
                  case rel => exact ⟨k + 1, _, ls, st8, (1 - a), (g + 1), t8, by omega, by go_num, rfl, HHz.out, by omega, HSs.out⟩
                  case measure => simp [intOf]; omega
                · have HA0 := Lib.hid (hh8 _ _ HOM7.out rfl)
                  have HB0 := Lib.hid (ho8 _ _ _ HOL7.out)
                  have HDif := Lib.hid hsame
                  clear hh8 ho8 hsame
                  simp only []
                  go_wp2_with fail
                  refine (held_holdsNo HA0.out HSo.out HB0.out.strs HNe.out HDif.out).mono ?_
                  rintro e w9 ⟨rfl, hc9⟩
                  have HA1 := Lib.hid (HA0.out.then hc9)
                  have HB1 := Lib.hid (HB0.out.then hc9)
                  clear hc9
                  simp only []
                  go_wp2_with fail
                  refine (held_holds HA1.out HSo.out).mono ?_
                  rintro e w10 ⟨rfl, hc10⟩
                  have HA2 := Lib.hid (HA1.out.then hc10)
                  have HB2 := Lib.hid (HB1.out.then hc10)
                  clear hc10
                  simp only []
                  go_wp2_with fail
                  refine (held_holdsNo HA2.out HSo.out HB2.out.strs HNe.out HDif.out).mono ?_
                  rintro e w11 ⟨rfl, hc11⟩
                  have HA3 := Lib.hid (HA2.out.then hc11)
                  clear hc11
                  simp only []
                  go_wp2_with fail
                  refine (held_holds HA3.out HSo.out).mono ?_
                  rintro e wz ⟨rfl, hcz⟩
                  have HHz := Lib.hid (HA3.out.then hcz)
                  clear hcz
                  simp only []
                  go_wp2_with fail
                  go_roundw
                  case rel => exact ⟨k + 1, _, [o.b], st8, (1 - a), (g + 1), t8, by omega, by go_num, rfl, HHz.out, by omega, HSo.out⟩
                  case measure => simp [intOf]; omega
            · have hn0i : (n == 0) = false := by simp [hn0]
              have hn13i : (n == 13) = false := by simp [hn13]
              have HH2 := Lib.hid hh'
              clear hh' hjc hc7 hn0 hn13 hr5
              simp only []
              go_wp2_with fail
              refine (held_holds HH2.out HSs.out).mono ?_
              rintro e wz ⟨rfl, hcz⟩
              have HHz := Lib.hid (HH2.out.then hcz)
              clear hcz
              simp only []
              go_wp2_with fail
              go_roundw
              case rel => exact ⟨k + 1, _, ls, st, a, g, t', by omega, by go_num, rfl, HHz.out, by omega, HSs.out⟩
              case measure => simp [intOf]; omega
          · have hk2i : (o.kind == 2) = false := by simp [hk2]
            by_cases hk4 : o.kind = 4
            · have hk4i : (o.kind == 4) = true := by simp [hk4]
              have hm1 : wcM.cell? ⟨X, 1, none⟩ = some (.int .i64 o.i) := cell_of_heap HBx.out rfl
              have hm2 : wcM.cell? ⟨X, 2, none⟩ = some (.int .i64 o.n) := cell_of_heap HBx.out rfl
              clear hk1 hk2 hk4
              go_wp2_with fail
              refine (Arm_calls S o.i o.n st wcM HHM.out.store).mono ?_
              rintro e w7 ⟨rfl, hs7, hc7⟩
              have HHz := Lib.hid (show Held w w7 S J (.slice lo ls.length lcap) ls { st with armed := decide (0 ≤ o.i), left := o.i, part := o.n } a g t from
                ⟨hs7, HHM.out.up, HHM.out.clean, HHM.out.at'.stored hc7, HHM.out.list.stored HHM.out.store hc7, HHM.out.chg.trans hc7 (fun x hx => by simp at hx; subst hx; exact .inr hSw)⟩)
              clear hs7 hc7
              simp only []
              go_wp2_with fail
              go_roundw
              case rel => exact ⟨k + 1, J, ls, _, a, g, t, by omega, by go_num, rfl, HHz.out, by omega, HSs.out⟩
              case measure => simp [intOf]; omega
            · have hk4i : (o.kind == 4) = false := by simp [hk4]
              clear hk1 hk2 hk4
              go_wp2_with fail
              go_roundw
              case rel => exact ⟨k + 1, J, ls, st, a, g, t, by omega, by go_num, rfl, HHM.out, by omega, HSs.out⟩
              case measure => simp [intOf]; omega
      · obtain rfl : k = l.length := by omega
        have hi2 : ¬ ((l.length : Int) < (l.length : Int)) := by omega
        have HOp := Lib.hid (held_opened HH.out.store HCu.out HH.out.chg hSw (by omega) HH.out.clean.1)
        go_wp2_with fail
        refine HOp.out.mono ?_
        rintro e w8 ⟨J8, rfl, -, -, st8, t8, hh8⟩
        have HA0 := Lib.hid (hh8 _ _ HH.out.list rfl)
        clear hh8
        simp only []
        go_wp2_with fail
        refine (held_holds HA0.out HSs.out).mono ?_
        rintro e w9 ⟨rfl, hc9⟩
        have HA1 := Lib.hid (HA0.out.then hc9)
        clear hc9
        simp only []
        go_wp2_with fail
        go_ret
        exact ⟨rfl, HA1.out.chg⟩
  · have hdone : ∀ wz, Chg [] w wz → Calls Try.prog 41 #[] wz fun e w' => e = .returned (.bool true) ∧ Chg [] w w' := fun wz hz => (awake9_calls wz).mono fun e w' ⟨he, hc⟩ => ⟨he, hz.then hc⟩
    have HDone := Lib.hid (hdone w1 HC1.out)
    clear hdone
    cases hfe : few9 l with
    | false =>
      go_wp2_with fail
      refine HDone.out.mono ?_
      rintro e w5 ⟨rfl, hc5⟩
      have HC5 := Lib.hid hc5
      clear hc5
      go_wp2
      go_ret
      exact ⟨rfl, HC5.out⟩
    | true =>
      by_cases hf1 : f.size ≤ 3000
      · have h1 : ¬ ((3000 : Int) < (f.size : Int)) := by omega
        have h2 : ((5 : Int) < (ns.length : Int)) := by
          have : ¬ ns.length ≤ 5 := fun h => hg ⟨hfe, hf1, h⟩
          omega
        clear hg
        go_wp2_with fail
        refine HDone.out.mono ?_
        rintro e w5 ⟨rfl, hc5⟩
        have HC5 := Lib.hid hc5
        clear hc5
        go_wp2
        go_ret
        exact ⟨rfl, HC5.out⟩
      · have h1 : ((3000 : Int) < (f.size : Int)) := by omega
        clear hg
        go_wp2_with fail
        refine HDone.out.mono ?_
        rintro e w5 ⟨rfl, hc5⟩
        have HC5 := Lib.hid hc5
        clear hc5
        go_wp2
        go_ret
        exact ⟨rfl, HC5.out⟩
end Go.Proofs.Ytgmgmjljjbcgjaa

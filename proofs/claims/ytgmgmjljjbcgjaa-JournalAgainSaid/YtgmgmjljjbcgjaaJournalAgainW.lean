/- JournalAgain: its walk. -/
import Derived.Test.YtgmgmjljjbcgjaaJOpened
namespace Go.Proofs.Ytgmgmjljjbcgjaa
open Go Go.RowKit NSX

theorem few9_size {l : List OpV} (h : few9 l = true) : l.length ≤ 60 ∧ ∀ o ∈ l, o.b.size ≤ 3000 := by
  unfold few9 at h
  rw [Bool.and_eq_true, decide_eq_true_iff, List.all_eq_true] at h
  exact ⟨h.1, fun o ho => by simpa using h.2 o ho⟩
theorem asBytes_le {ss : List ByteArray} (h : ∀ s ∈ ss, s.size ≤ 3000) : ∀ b ∈ asBytes ss, b.length ≤ 3000 := by
  intro b hb
  obtain ⟨s, hs, rfl⟩ := List.mem_map.1 hb
  rw [str_len]; exact h s hs

set_option maxRecDepth 100000 in
set_option maxHeartbeats 4000000 in
theorem JournalAgain_calls (f : ByteArray) (u : Value) (l : List OpV) (other : ByteArray) (w : World) (hu : OpsAt w u l) :
    Calls Try.prog 10 #[.string f, u, .string other] w fun e w' => e = .returned (.bool true) ∧ Chg [] w w' := by
  have hu2 := hu
  obtain ⟨uo, ucap, rfl, hul, hb⟩ := hu2
  have HU := Lib.hid hu
  clear hu hb
  go_enter Try.func10, Try.ntmps10
  go_wp2_with fail
  refine (awake9_calls _).mono ?_
  rintro e w1 ⟨rfl, hc1⟩
  have HC1 := Lib.hid hc1
  have HFew := Lib.hid (few9_calls l _ w1 (HU.out.chg hc1))
  clear hc1
  simp only []
  go_wp2_with fail
  refine HFew.out.mono ?_
  rintro e w' ⟨rfl, rfl⟩
  simp only []
  by_cases hg : few9 l = true ∧ f.size ≤ 3000 ∧ other.size ≤ 3000
  · obtain ⟨hg1, hg2, hg3⟩ := hg
    have hf1 : ¬ ((3000 : Int) < (f.size : Int)) := by omega
    have hf2 : ¬ ((3000 : Int) < (other.size : Int)) := by omega
    obtain ⟨hl60, hsz⟩ := few9_size hg1
    have HSzs := Lib.hid hsz
    rw [hg1]
    clear hg1 hsz
    go_wp2_with fail
    refine (New_calls w1).mono ?_
    rintro e w2 ⟨rfl, hs2, hc2⟩
    obtain ⟨S, hS⟩ : ∃ S, w1.heap.size = S := ⟨_, rfl⟩
    rw [hS] at hs2 ⊢
    obtain ⟨cap, w3, hr, hib, hc3, -⟩ := run_ofString w2 f (by unfold maxLen; omega)
    have HO := Lib.hid (Open_new S _ f.data.toList w3 (hs2.chg hc3 (by simp)) hib (by rw [str_len]; omega))
    have HC3 := Lib.hid ((HC1.out.then hc2).then hc3)
    have hSw : w.heap.size ≤ S := by rw [← hS]; exact HC1.out.size
    clear hs2 hib hc2 hc3 hS
    simp only []
    go_wp2_with fail
    refine HO.out.mono ?_
    rintro e w4 ⟨J, st4, rfl, -, hs4, hd4, ha4, hcl4, -, ⟨t4, hj4⟩, hc4⟩
    have hC4 := HC3.out.trans hc4 (fun x hx => by simp at hx; subst hx; exact .inr hSw)
    have hAl := (Chg.refl [] w4).alloc (.cells #[.string f] 9)
    have hH0 : Held w (w4.alloc (.cells #[.string f] 9)) S J (.slice (some ⟨w4.heap.size, 0, none⟩) 1 1) [f] st4 0 1 t4 :=
      ⟨hs4.chg hAl (by simp), hd4, hcl4, by
        have e : jnOf 0 1 (asBytes [f]) = ⟨0, 1, [f.data.toList], nBlocks f.data.toList.length, false⟩ := by unfold jnOf; simp [nAll, asBytes]
        rw [e]; exact hj4.then hAl, (oneS w4 f).mono hC4.size, hC4.then hAl⟩
    have HH0 := Lib.hid hH0
    have HA4 := Lib.hid ha4
    clear hs4 hd4 ha4 hcl4 hj4 hc4 hH0 hC4 hAl hr
    simp only []
    go_wp2_with fail
    go_loopw [52, 10] (fun i lv wr => ∃ (k : Nat) (ls : List ByteArray) (st : St) (a g t : Nat), k ≤ l.length ∧ i = .int .i64 k ∧ Held w wr S J lv ls st a g t ∧ st.armed = false ∧ g ≤ k + 1 ∧ (∀ s ∈ ls, s.size ≤ 3000)) (fun i _ _ => l.length - (intOf i).toNat)
    case atStart => exact ⟨0, [f], st4, 0, 1, t4, by omega, rfl, HH0.out, HA4.out, by omega, by simp; omega⟩
    case round =>
      obtain ⟨k, ls, st, a, g, t, hk, rfl, hh, ha, hgk, hss⟩ := hrel
      clear HH0 HA4
      obtain ⟨lo, lcap, hlv, -, -, -⟩ := hh.list.strs
      subst hlv
      have HH := Lib.hid hh
      have HA := Lib.hid ha
      have HSs := Lib.hid hss
      clear hh ha hss
      by_cases hlt : k < l.length
      · have hi2 : (k : Int) < (l.length : Int) := by omega
        obtain ⟨o, ho⟩ : ∃ o, l[k]? = some o := ⟨_, List.getElem?_eq_getElem hlt⟩
        have hob : o.b.size ≤ 3000 := HSzs.out o (List.mem_of_getElem? ho)
        obtain ⟨uo', ucap', hv, -, h3⟩ := HU.out
        simp only [Value.slice.injEq] at hv
        obtain ⟨rfl, -, rfl⟩ := hv
        obtain ⟨A, rfl, hx⟩ := h3 k o ho
        have HX := Lib.hid hx
        have hx0 := HH.out.chg.cell (hx 0 _ rfl) (by simp)
        rw [Nat.add_zero] at hx0
        have hx3 := HH.out.chg.cell (hx 3 _ rfl) (by simp)
        rw [add_at] at hx3
        clear ho h3 hx
        by_cases hk1 : o.kind = 1
        · have hk1i : (o.kind == 1) = true := by simp [hk1]
          obtain ⟨bcap, w5, hr5, hib5, hc5, -⟩ := run_ofString wr o.b (by unfold maxLen; omega)
          have HAdd := Lib.hid (held_add (HH.out.then hc5) _ o.b hib5 hSw)
          clear hib5 hc5 hk1
          go_wp2_with fail
          refine HAdd.out.mono ?_
          rintro e w6 ⟨n, rfl, hjc, hc6, hcase⟩
          rcases hcase with ⟨rfl, st', t', hs', hd', ha', hcl', hj', hl'⟩ | ⟨-, h, -⟩ | ⟨hn0, -, t', hh'⟩
          · have hx36 := hc6.cell (HX.out 3 _ rfl) (by simp)
            rw [add_at] at hx36
            obtain ⟨v8, w8, hr8, hown8, hch8⟩ := run_sappend (w6.alloc (.cells #[.string o.b] 9)) 61 w.heap.size _ ls (hl'.then ((Chg.refl [] w6).alloc _)) _ [o.b] (oneS w6 o.b).strs (by have h8 := length_le_nAll (asBytes ls); have h9 := HH.out.clean.1.fits; rw [asBytes_len] at h8; simp; omega) ((hc6.alloc _).size)
            have hAl := (Chg.refl [] w6).alloc (.cells #[.string o.b] 9)
            have hrow := (hl'.then hAl).row9
            have HH2 := Lib.hid (show Held w w8 S J v8 (ls ++ [o.b]) st' a g t' from
              ⟨(hs'.chg hAl (by simp)).texts hch8 hrow, hd', hcl', (hj'.then hAl).texts hch8 hrow, hown8, (hc6.alloc _).trans hch8 ((hl'.then hAl).rows (Nat.le_refl _))⟩)
            have HA2 := Lib.hid (ha'.trans HA.out)
            have HR8 := Lib.hid hr8
            clear hs' hd' ha' hcl' hj' hl' hjc hc6 hown8 hch8 hAl hrow hr8 hr5
            simp only []
            go_wp2_with (at_builtin; refine wpList_append_any 61 (by simp [Region.wanted]) (.tmp 71) (.tmp 77) rfl _ _ v8 w8 rfl rfl HR8.out ?_)
            go_roundw
            case rel => exact ⟨k + 1, ls ++ [o.b], st', a, g, t', by omega, by go_num, HH2.out, HA2.out, by omega, fun s hs => (List.mem_append.1 hs).elim (HSs.out s) (fun h => by simp at h; subst h; exact hob)⟩
            case measure => simp [intOf]; omega
          · rw [HA.out] at h; cases h
          · have hn0i : (n == 0) = false := by simp [hn0]
            have HH2 := Lib.hid hh'
            clear hh' hjc hc6 hn0 hr5
            simp only []
            go_wp2_with fail
            go_roundw
            case rel => exact ⟨k + 1, ls, st, a, g, t', by omega, by go_num, HH2.out, HA.out, by omega, HSs.out⟩
            case measure => simp [intOf]; omega
        · have hk1i : (o.kind == 1) = false := by simp [hk1]
          by_cases hk2 : o.kind = 2
          · have hk2i : (o.kind == 2) = true := by simp [hk2]
            obtain ⟨bcap, w5, hr5, hib5, hc5, -⟩ := run_ofString wr o.b (by unfold maxLen; omega)
            have HAdd := Lib.hid (held_rewrite (HH.out.then hc5) _ o.b hib5 hSw (by omega))
            clear hib5 hc5 hk1 hk2
            go_wp2_with fail
            refine HAdd.out.mono ?_
            rintro e w6 ⟨n, rfl, hjc, hc6, hcase⟩
            rcases hcase with ⟨rfl, st', t', hs', hd', ha', hcl', hj', hl'⟩ | ⟨-, h, -⟩ | ⟨hn0, -, t', hh'⟩
            · have hx36 := hc6.cell (HX.out 3 _ rfl) (by simp)
              rw [add_at] at hx36
              have hAl := (Chg.refl [] w6).alloc (.cells #[.string o.b] 9)
              have HH2 := Lib.hid (show Held w (w6.alloc (.cells #[.string o.b] 9)) S J (.slice (some ⟨w6.heap.size, 0, none⟩) 1 1) [o.b] st' (1 - a) (g + 1) t' from
                ⟨hs'.chg hAl (by simp), hd', hcl', hj'.then hAl, (oneS w6 o.b).mono hc6.size, hc6.alloc _⟩)
              have HA2 := Lib.hid (ha'.trans HA.out)
              clear hs' hd' ha' hcl' hj' hl' hjc hc6 hAl hr5
              simp only []
              go_wp2_with fail
              go_roundw
              case rel => exact ⟨k + 1, [o.b], st', 1 - a, g + 1, t', by omega, by go_num, HH2.out, HA2.out, by omega, fun s hs => by simp at hs; subst hs; exact hob⟩
              case measure => simp [intOf]; omega
            · rw [HA.out] at h; cases h
            · have hn0i : (n == 0) = false := by simp [hn0]
              have HH2 := Lib.hid hh'
              clear hh' hjc hc6 hn0 hr5
              simp only []
              go_wp2_with fail
              go_roundw
              case rel => exact ⟨k + 1, ls, st, a, g, t', by omega, by go_num, HH2.out, HA.out, by omega, HSs.out⟩
              case measure => simp [intOf]; omega
          · have hk2i : (o.kind == 2) = false := by simp [hk2]
            clear hk1 hk2
            go_wp2_with fail
            go_roundw
            case rel => exact ⟨k + 1, ls, st, a, g, t, by omega, by go_num, HH.out, HA.out, by omega, HSs.out⟩
            case measure => simp [intOf]; omega
      · obtain rfl : k = l.length := by omega
        have hi2 : ¬ ((l.length : Int) < (l.length : Int)) := by omega
        go_wp2_with fail
        let p : Plan3 := {
          anc := [[], [0], [0, 1], [], [3], [0, 1, 2], [3, 4]]
          rows := fun j => []
          all := []
          Pre := fun i w => match i with
            | 1 => StoreAt w S st
            | 4 => StoreAt w S st
            | _ => True
          Φ := fun i v w => match i with
            | 0 => v = .pointer (some ⟨S, 0, none⟩)
            | 1 => ∃ b, OwnB w b v st.bytes
            | 2 => v = .string (strOf st.bytes)
            | 3 => v = .pointer (some ⟨S, 0, none⟩)
            | 4 => v = .int .i64 st.writes
            | 5 => v = .string (strOf st.bytes)
            | 6 => v = .int .i64 st.writes
            | _ => True
          Ψ := fun i w => match i with
            | _ => True
          sub := by
            intro j x hx
            exact hx
          pre := by
            intro i j w w1 hij hn h hc
            match i, h, hij, hn with
            | 0, h, hij, hn => exact trivial
            | 1, h, hij, hn => exact (by exact h.chg hc (by simp))
            | 2, h, hij, hn => exact trivial
            | 3, h, hij, hn => exact trivial
            | 4, h, hij, hn => exact (by exact h.chg hc (by simp))
            | 5, h, hij, hn => exact trivial
            | 6, h, hij, hn => exact trivial
            | _ + 7, _, _, _ => trivial
          phi := by
            intro i j v w w1 hij hn h hc
            match i, h, hij, hn with
            | 0, h, hij, hn => exact h
            | 1, h, hij, hn => exact (by exact (h.elim fun b hb => ⟨b, hb.then hc⟩))
            | 2, h, hij, hn => exact h
            | 3, h, hij, hn => exact h
            | 4, h, hij, hn => exact h
            | 5, h, hij, hn => exact h
            | 6, h, hij, hn => exact h
            | _ + 7, _, _, _ => trivial
          psi := by
            intro i j w w1 hij hn h hc
            match i, h, hij, hn with
            | 0, h, hij, hn => exact trivial
            | 1, h, hij, hn => exact trivial
            | 2, h, hij, hn => exact trivial
            | 3, h, hij, hn => exact trivial
            | 4, h, hij, hn => exact trivial
            | 5, h, hij, hn => exact trivial
            | 6, h, hij, hn => exact trivial
            | _ + 7, _, _, _ => trivial }
        refine wp_region_each6 (by kernel_rfl) p ?hpreA (by kernel_rfl) (by kernel_rfl) (by kernel_rfl) (by kernel_rfl) ?hendA ?hstepsA
        case hpreA =>
          intro i
          match i with
          | 0 => exact trivial
          | 1 => exact HH.out.store
          | 2 => exact trivial
          | 3 => exact trivial
          | 4 => exact HH.out.store
          | 5 => exact trivial
          | 6 => exact trivial
          | _ + 7 => trivial
        case hstepsA =>
          refine ⟨?_, ?_, ?_, ?_, ?_, ?_, ?_, trivial⟩
          · intro ac wc h K hK
            have b7 : ac.tmps.getD 7 undef = .pointer (some ⟨S, 0, none⟩) := (h.base 7 (by decide)).trans rfl
            go_simp
            exact hK (.pointer (some ⟨S, 0, none⟩)) wc (Chg.refl _ wc) rfl trivial
          · intro ac wc h K hK
            have d97 : ac.tmps.getD 97 undef = .pointer (some ⟨S, 0, none⟩) := h.dep ⟨0, .data⟩ (by simp) rfl 97 rfl
            go_simp
            refine (Bytes_calls S st wc h.pre).mono ?_
            rintro e w1 ⟨v, rfl, hv, hc1⟩
            exact hK v w1 hc1 ⟨_, hv⟩ trivial
          · intro ac wc h K hK
            obtain ⟨v98, e98, d98⟩ : ∃ x, ac.tmps.getD 98 undef = x ∧ (fun (v : Value) (w : World) => ∃ b, OwnB w b v st.bytes) x wc := ⟨_, rfl, h.dep ⟨1, .data⟩ (by simp) rfl 98 rfl⟩
            obtain ⟨b, hb⟩ := d98
            have hq := run_toString wc 5 _ _ hb.isB
            clear hb
            go_simp
            exact hK (.string (strOf st.bytes)) wc (Chg.refl _ wc) rfl trivial
          · intro ac wc h K hK
            have b7 : ac.tmps.getD 7 undef = .pointer (some ⟨S, 0, none⟩) := (h.base 7 (by decide)).trans rfl
            go_simp
            exact hK (.pointer (some ⟨S, 0, none⟩)) wc (Chg.refl _ wc) rfl trivial
          · intro ac wc h K hK
            have d100 : ac.tmps.getD 100 undef = .pointer (some ⟨S, 0, none⟩) := h.dep ⟨3, .data⟩ (by simp) rfl 100 rfl
            go_simp
            refine (Writes_calls S st wc h.pre).mono ?_
            rintro e w1 ⟨rfl, rfl⟩
            exact hK _ wc (Chg.refl _ wc) rfl trivial
          · intro ac wc h K hK
            have d99 : ac.tmps.getD 99 undef = .string (strOf st.bytes) := h.dep ⟨2, .data⟩ (by simp) rfl 99 rfl
            go_simp
            exact hK (.string (strOf st.bytes)) wc (Chg.refl _ wc) rfl trivial
          · intro ac wc h K hK
            have d101 : ac.tmps.getD 101 undef = .int .i64 st.writes := h.dep ⟨4, .data⟩ (by simp) rfl 101 rfl
            go_simp
            exact hK (.int .i64 st.writes) wc (Chg.refl _ wc) rfl trivial
        intro acA wcA hc hall hpsi hput
        obtain ⟨x1, e1, d1⟩ : ∃ x, acA.tmps.getD 98 undef = x ∧ (fun (v : Value) (w : World) => ∃ b, OwnB w b v st.bytes) x wcA := ⟨_, rfl, hall 1 98 rfl⟩
        have hact := hput [(97, .pointer (some ⟨S, 0, none⟩)), (98, x1), (99, .string (strOf st.bytes)), (100, .pointer (some ⟨S, 0, none⟩)), (101, .int .i64 st.writes), (12, .string (strOf st.bytes)), (13, .int .i64 st.writes)] rfl ⟨hall 0 97 rfl, e1, hall 2 99 rfl, hall 3 100 rfl, hall 4 101 rfl, hall 5 12 rfl, hall 6 13 rfl, trivial⟩
        clear hput hall
        subst hact
        have HCR := Lib.hid (show Chg [] wr wcA from hc)
        clear hpsi hc d1 p
        simp only [Act.puts, Act.put]
        go_simp
        have HH2 := Lib.hid (HH.out.then HCR.out)
        obtain ⟨ocap, w5, hr5, hib5, hc5, -⟩ := run_ofString wcA other (by unfold maxLen; omega)
        have HH5 := Lib.hid (HH2.out.then hc5)
        have HOp := Lib.hid (Open_weak S st _ other.data.toList a g (asBytes ls) w5 HH5.out.store HH5.out.up hib5 (by rw [str_len]; omega) HH5.out.clean.1)
        clear hib5 hc5
        go_wp2_with fail
        refine HOp.out.mono ?_
        rintro e w6 ⟨K, st6, r, rfl, -, hs6, hc6, hcase⟩
        rcases hcase with ⟨rfl, -, -, -, ⟨t6, hk6⟩, hsame⟩ | ⟨-, h, -⟩
        · obtain rfl := hsame HH5.out.clean
          have HS6 := Lib.hid hs6
          have HK6 := Lib.hid (show JournalAt w6 t6 K S (jnOf a g (asBytes ls)) from hk6)
          have HJ6 := Lib.hid (HH5.out.at'.stored hc6)
          have hc6w : Chg [] w w6 := HH5.out.chg.trans hc6 (fun x hx => by simp at hx; subst hx; exact .inr hSw)
          have HC6 := Lib.hid hc6w
          obtain ⟨s0, srest, hls⟩ := HH5.out.some
          have hst6 := (HH5.out.list.stored HH5.out.store hc6).strs
          have hfit := HH5.out.clean.1.fits
          have hcnt := length_le_nAll (asBytes ls)
          have hle := asBytes_le HSs.out
          have hst7 : StrsAt w6 (.slice lo ls.length lcap) (s0 :: srest) := by rw [← hls]; exact hst6
          have hho := holds_calls t6 K S (jnOf a g (asBytes ls)) s0.data.toList (asBytes srest) s0 srest _ w6 hk6 (by show asBytes ls = _; rw [hls]; rfl) (fun b hb => by have := hle b hb; omega) (by rw [hls] at hcnt hfit; simp only [asBytes_cons, List.length_cons] at hcnt; simp only [asBytes_cons] at hfit; omega) hst7
          rw [show decide ((jnOf a g (asBytes ls)).bodies = asBytes (s0 :: srest)) = true from decide_eq_true (by rw [← hls]; rfl)] at hho
          have HHo := Lib.hid hho
          have hu1 : (jnOf a g (asBytes ls)).used ≤ 511 := hfit
          have HFit := Lib.hid hu1
          rw [optPtr_yes]
          clear hs6 hk6 hc6 hc6w hst6 hfit hcnt hle hst7 hho hu1 hsame hls hr5
          simp only []
          go_wp2_with fail
          refine HHo.out.mono ?_
          rintro e w7 ⟨rfl, hc7⟩
          have HS7 := Lib.hid (HS6.out.chg hc7 (by simp))
          have HK7 := Lib.hid (HK6.out.then hc7)
          have HJ7 := Lib.hid (HJ6.out.then hc7)
          have HC7 := Lib.hid (HC6.out.then hc7)
          have HL1 := Lib.hid (Left_calls t6 K S _ w7 HK7.out HFit.out)
          have HL2 := Lib.hid (Left_calls t J S _ w7 HJ7.out HFit.out)
          have HG1 := Lib.hid (Generation_calls t6 K S _ w7 HK7.out)
          have HG2 := Lib.hid (Generation_calls t J S _ w7 HJ7.out)
          obtain ⟨q, hq⟩ : ∃ q : Nat, 511 - (jnOf a g (asBytes ls)).used = q := ⟨_, rfl⟩
          rw [hq] at HL1 HL2
          rw [show (jnOf a g (asBytes ls)).gen = g from rfl] at HG1 HG2
          clear hc7 hq
          simp only []
          go_wp2_with fail
          refine HL1.out.mono ?_
          rintro e w' ⟨rfl, rfl⟩
          simp only []
          go_wp2_with fail
          refine HL2.out.mono ?_
          rintro e w' ⟨rfl, rfl⟩
          simp only []
          go_wp2_with fail
          refine HG1.out.mono ?_
          rintro e w' ⟨rfl, rfl⟩
          simp only []
          go_wp2_with fail
          refine HG2.out.mono ?_
          rintro e w' ⟨rfl, rfl⟩
          simp only []
          go_wp2_with fail
          refine (Bytes_calls S st6 w7 HS7.out).mono ?_
          rintro e w8 ⟨bv, rfl, hb8, hc8⟩
          have hq := run_toString w8 5 _ _ hb8.isB
          have HS8 := Lib.hid (HS7.out.chg hc8 (by simp))
          have HC8 := Lib.hid (HC7.out.then hc8)
          clear hb8 hc8
          simp only []
          go_wp2_with fail
          refine (Writes_calls S st6 w8 HS8.out).mono ?_
          rintro e w' ⟨rfl, rfl⟩
          simp only []
          go_wp2_with fail
          go_ret
          exact ⟨rfl, HC8.out⟩
        · rw [HA.out] at h; cases h
  · have hdone : ∀ wz, Chg [] w wz → Calls Try.prog 41 #[] wz fun e w' => e = .returned (.bool true) ∧ Chg [] w w' := fun wz hz => (awake9_calls wz).mono fun e w' ⟨he, hc⟩ => ⟨he, hz.then hc⟩
    have HDone := Lib.hid (hdone w1 HC1.out)
    clear hdone
    cases hfe : few9 l with
    | false =>
      go_wp2_with fail
      refine HDone.out.mono ?_
      rintro e w5 ⟨rfl, hc5⟩
      have HC5 := Lib.hid hc5
      clear hc5
      go_wp2
      go_ret
      exact ⟨rfl, HC5.out⟩
    | true =>
      by_cases hf1 : f.size ≤ 3000
      · have h1 : ¬ ((3000 : Int) < (f.size : Int)) := by omega
        have h2 : ((3000 : Int) < (other.size : Int)) := by
          have : ¬ other.size ≤ 3000 := fun h => hg ⟨hfe, hf1, h⟩
          omega
        clear hg
        go_wp2_with fail
        refine HDone.out.mono ?_
        rintro e w5 ⟨rfl, hc5⟩
        have HC5 := Lib.hid hc5
        clear hc5
        go_wp2
        go_ret
        exact ⟨rfl, HC5.out⟩
      · have h1 : ((3000 : Int) < (f.size : Int)) := by omega
        clear hg
        go_wp2_with fail
        refine HDone.out.mono ?_
        rintro e w5 ⟨rfl, hc5⟩
        have HC5 := Lib.hid hc5
        clear hc5
        go_wp2
        go_ret
        exact ⟨rfl, HC5.out⟩
end Go.Proofs.Ytgmgmjljjbcgjaa

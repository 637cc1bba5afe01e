/- The journal package: begins. -/
import Derived.Test.YtgmgmjljjbcgjaaReg3
import Derived.Test.YtgmgmjljjbcgjaaJLay
namespace Go.Proofs.Ytgmgmjljjbcgjaa
open Go Go.RowKit NSX

theorem IsB.stored {w w' : World} {S : Nat} {st : St} {v : Value} {bs : List UInt8} (h : IsB w 5 v bs) (hs : StoreAt w S st) (hc : Chg [S] w w') : IsB w' 5 v bs := h.chg hc hs.apart

/-- A list of one body. -/
theorem listB_one (w : World) (base x : Nat) (cv : Value) (b : List UInt8) (hx : w.heap[x]? = some (.cells #[cv] 26)) (hb : base ≤ x) (ho : OwnB w base cv b) : ListB w base w.heap.size (.slice (some ⟨x, 0, none⟩) 1 1) [b] := by
  refine ⟨[cv], ⟨rfl, .inr ⟨x, 1, #[cv], rfl, hb, hx, Nat.le_refl _, by decide, rfl, rfl⟩⟩, fun k hk => ?_, fun i y c hy hc => ?_⟩
  · simp [Value.ownBlock] at hk
    subst hk
    exact heap_lt hx
  · have hi : i = 0 := by have := (List.getElem?_eq_some_iff.1 hy).1; simpa using this
    subst hi
    simp at hy hc
    subst hy hc
    exact ⟨ho, fun k hk => (ho.lt k hk).2⟩
/-- The journal that begins leaves. -/
def Jn.begun (jn : Jn) (snap : List UInt8) (a g : Nat) (r : Int) : Jn := if r = 0 then ⟨a, g, [snap], nBlocks snap.length, jn.lost⟩ else jn
def begRows (S J : Nat) (r : Int) : List Nat := if r = 0 then [S, J] else [S]
theorem begRows_no {S J : Nat} {r : Int} (h : r ≠ 0) : begRows S J r = [S] := if_neg h
theorem Jn.begun_no {jn : Jn} {snap : List UInt8} {a g : Nat} {r : Int} (h : r ≠ 0) : jn.begun snap a g r = jn := if_neg h

set_option maxRecDepth 100000 in
set_option maxHeartbeats 2000000 in
theorem begins_calls (top J S a g : Nat) (jn : Jn) (st : St) (v : Value) (snap : List UInt8) (w : World) (hs : StoreAt w S st) (hd : st.down = false) (hj : JournalAt w top J S jn) (hv : IsB w 5 v snap) (hl : snap.length ≤ 32768) (hn : nBlocks snap.length ≤ 511) (ha : a ≤ 1) (hg : 1 ≤ g ∧ g < 256) :
    Calls Try.prog 73 #[.pointer (some ⟨J, 0, none⟩), v, .int .i64 a, .int .i64 g] w fun e w' => e = .returned (.int .i64 (st.begins snap a g).2) ∧ StoreAt w' S (st.begins snap a g).1 ∧
      JournalAt w' (max top w'.heap.size) J S (jn.begun snap a g (st.begins snap a g).2) ∧ Chg (begRows S J (st.begins snap a g).2) w w' := by
  obtain ⟨so, scap, rfl, -, hsm, -, -⟩ := hv.cells
  unfold maxLen at hsm
  obtain ⟨bv, hL, c0, c1, c2, c3, c4, c5, hf⟩ := hj.facts
  have hlen := hs.1
  obtain ⟨r1, hr1⟩ : ∃ r1, st.erase (a * 512) 512 = r1 := ⟨_, rfl⟩
  obtain ⟨r2, hr2⟩ : ∃ r2, r1.1.lay (a * 512 + 1) (cutL snap) = r2 := ⟨_, rfl⟩
  obtain ⟨r3, hr3⟩ : ∃ r3, r2.1.lay (a * 512) [headBlock g] = r3 := ⟨_, rfl⟩
  have hbeg : st.begins snap a g = if r1.2 ≠ 0 then r1 else if r2.2 ≠ 0 then r2 else r3 := by
    unfold St.begins
    rw [hr1, hr2, hr3]
  have he := erase_law 512 st (a * 512) hd hlen (by omega)
  rw [hr1] at he
  have hd1 : r1.2 ≠ 0 ∨ (r1.2 = 0 ∧ r1.1.down = false ∧ r1.1.bytes.length = 65536) := by
    rcases he with ⟨h1, ⟨h2, h3, _⟩ | ⟨h2, _⟩⟩
    · exact .inr ⟨h2, h3, h1⟩
    · exact .inl (by rw [h2]; simp)
  have hd2 : r1.2 = 0 → r2.2 ≠ 0 ∨ (r2.2 = 0 ∧ r2.1.down = false) := by
    intro h
    rcases hd1 with h' | ⟨_, h2, h3⟩
    · exact absurd h h'
    · have hq := lay_law (cutL snap) r1.1 (a * 512 + 1) (cutL_each snap) h2 h3 (by rw [cutL_length]; omega)
      rw [hr2] at hq
      rcases hq with ⟨_, ⟨q2, q3, _⟩ | ⟨q2, _⟩⟩
      · exact .inr ⟨q2, q3⟩
      · exact .inl (by rw [q2]; simp)
  have HS := Lib.hid hs
  have HD := Lib.hid hd
  have HJ := Lib.hid hj
  have HV := Lib.hid hv
  have HL := Lib.hid hl
  have HN := Lib.hid hn
  have HA := Lib.hid ha
  have HG := Lib.hid hg
  have HC0 := Lib.hid c0
  have HR1 := Lib.hid hr1
  have HR2 := Lib.hid hr2
  have HR3 := Lib.hid hr3
  have HBeg := Lib.hid hbeg
  have HD1' := Lib.hid hd1
  have HD2' := Lib.hid hd2
  clear hs hd hj hv hl hn ha hg c0 hr1 hr2 hr3 hbeg hd1 hd2 he hL c1 c2 c3 c4 c5 hf hlen
  go_enter Try.func73, Try.ntmps73
  go_wp2_with fail
  let p : Plan3 := {
    anc := [[], [0], [0, 1], [0, 1, 2], [], [4], [], [6], [0, 1, 2, 3, 4, 5, 6, 7], [0, 1, 2, 3, 4, 5, 6, 7, 8]]
    rows := fun j => if j = 8 then [S] else []
    all := [S]
    Pre := fun i w => match i with
      | 3 => w.cell? ⟨J, 0, none⟩ = some (.pointer (some ⟨S, 0, none⟩))
      | 8 => StoreAt w S st
      | _ => True
    Φ := fun i v w => match i with
      | 0 => v = .pointer (some ⟨J, 0, none⟩)
      | 1 => v = .pointer (some ⟨J, 0, none⟩)
      | 2 => v = .pointer (some ⟨J, 0, none⟩)
      | 3 => v = .pointer (some ⟨S, 0, none⟩)
      | 4 => v = .int .i64 (a : Int)
      | 5 => v = .int .i64 ((a * 512 : Nat) : Int)
      | 6 => v = .int .i64 (a : Int)
      | 7 => v = .int .i64 ((a * 512 + 512 : Nat) : Int)
      | 8 => v = .int .i64 r1.2
      | 9 => v = .int .i64 r1.2
      | _ => True
    Ψ := fun i w => match i with
      | 8 => StoreAt w S r1.1
      | _ => True
    sub := by
      intro j x hx
      split at hx
      · exact hx
      · simp at hx
    pre := by
      intro i j w w1 hij hn h hc
      match i, h, hij, hn with
      | 0, h, hij, hn => exact trivial
      | 1, h, hij, hn => exact trivial
      | 2, h, hij, hn => exact trivial
      | 3, h, hij, hn => exact (if h8 : j = 8 then (by subst h8; exact absurd (by decide) hn) else (by rw [if_neg h8] at hc; exact hc.cell h (by simp)))
      | 4, h, hij, hn => exact trivial
      | 5, h, hij, hn => exact trivial
      | 6, h, hij, hn => exact trivial
      | 7, h, hij, hn => exact trivial
      | 8, h, hij, hn => exact (by rw [if_neg (fun e => hij e.symm)] at hc; exact h.chg hc (by simp))
      | 9, h, hij, hn => exact trivial
      | _ + 10, _, _, _ => trivial
    phi := by
      intro i j v w w1 hij hn h hc
      match i, h, hij, hn with
      | 0, h, hij, hn => exact h
      | 1, h, hij, hn => exact h
      | 2, h, hij, hn => exact h
      | 3, h, hij, hn => exact h
      | 4, h, hij, hn => exact h
      | 5, h, hij, hn => exact h
      | 6, h, hij, hn => exact h
      | 7, h, hij, hn => exact h
      | 8, h, hij, hn => exact h
      | 9, h, hij, hn => exact h
      | _ + 10, _, _, _ => trivial
    psi := by
      intro i j w w1 hij hn h hc
      match i, h, hij, hn with
      | 0, h, hij, hn => exact trivial
      | 1, h, hij, hn => exact trivial
      | 2, h, hij, hn => exact trivial
      | 3, h, hij, hn => exact trivial
      | 4, h, hij, hn => exact trivial
      | 5, h, hij, hn => exact trivial
      | 6, h, hij, hn => exact trivial
      | 7, h, hij, hn => exact trivial
      | 8, h, hij, hn => exact (by rw [if_neg (fun e => hij e.symm)] at hc; exact h.chg hc (by simp))
      | 9, h, hij, hn => exact trivial
      | _ + 10, _, _, _ => trivial }
  refine wp_region_each6 (by kernel_rfl) p ?hpre1 (by kernel_rfl) (by kernel_rfl) (by kernel_rfl) (by kernel_rfl) ?hend1 ?hsteps1
  case hpre1 =>
    intro i
    match i with
    | 0 => exact trivial
    | 1 => exact trivial
    | 2 => exact trivial
    | 3 => exact HC0.out
    | 4 => exact trivial
    | 5 => exact trivial
    | 6 => exact trivial
    | 7 => exact trivial
    | 8 => exact HS.out
    | 9 => exact trivial
    | _ + 10 => trivial
  case hsteps1 =>
    refine ⟨?_, ?_, ?_, ?_, ?_, ?_, ?_, ?_, ?_, ?_, trivial⟩
    · intro ac wc h K hK
      have b0 : ac.tmps.getD 0 undef = .pointer (some ⟨J, 0, none⟩) := (h.base 0 (by decide)).trans rfl
      go_simp
      exact hK (.pointer (some ⟨J, 0, none⟩)) wc (Chg.refl _ wc) rfl trivial
    · intro ac wc h K hK
      have d12 : ac.tmps.getD 12 undef = .pointer (some ⟨J, 0, none⟩) := h.dep ⟨0, .data⟩ (by simp) rfl 12 rfl
      go_simp
      exact hK (.pointer (some ⟨J, 0, none⟩)) wc (Chg.refl _ wc) rfl trivial
    · intro ac wc h K hK
      have d13 : ac.tmps.getD 13 undef = .pointer (some ⟨J, 0, none⟩) := h.dep ⟨1, .data⟩ (by simp) rfl 13 rfl
      go_simp
      exact hK (.pointer (some ⟨J, 0, none⟩)) wc (Chg.refl _ wc) rfl trivial
    · intro ac wc h K hK
      have d14 : ac.tmps.getD 14 undef = .pointer (some ⟨J, 0, none⟩) := h.dep ⟨2, .data⟩ (by simp) rfl 14 rfl
      have hq : wc.cell? ⟨J, 0, none⟩ = some (.pointer (some ⟨S, 0, none⟩)) := h.pre
      go_simp
      exact hK (.pointer (some ⟨S, 0, none⟩)) wc (Chg.refl _ wc) rfl trivial
    · intro ac wc h K hK
      have b2 : ac.tmps.getD 2 undef = .int .i64 (a : Int) := (h.base 2 (by decide)).trans rfl
      go_simp
      exact hK (.int .i64 (a : Int)) wc (Chg.refl _ wc) rfl trivial
    · intro ac wc h K hK
      have d16 : ac.tmps.getD 16 undef = .int .i64 (a : Int) := h.dep ⟨4, .data⟩ (by simp) rfl 16 rfl
      go_simp
      refine (place_calls a 0 wc HA.out (by omega)).mono ?_
      rintro e w1 ⟨rfl, rfl⟩
      exact hK _ wc (Chg.refl _ wc) rfl trivial
    · intro ac wc h K hK
      have b2 : ac.tmps.getD 2 undef = .int .i64 (a : Int) := (h.base 2 (by decide)).trans rfl
      go_simp
      exact hK (.int .i64 (a : Int)) wc (Chg.refl _ wc) rfl trivial
    · intro ac wc h K hK
      have d18 : ac.tmps.getD 18 undef = .int .i64 (a : Int) := h.dep ⟨6, .data⟩ (by simp) rfl 18 rfl
      go_simp
      refine (place_calls a 512 wc HA.out (by omega)).mono ?_
      rintro e w1 ⟨rfl, rfl⟩
      exact hK _ wc (Chg.refl _ wc) rfl trivial
    · intro ac wc h K hK
      have d15 : ac.tmps.getD 15 undef = .pointer (some ⟨S, 0, none⟩) := h.dep ⟨3, .data⟩ (by simp) rfl 15 rfl
      have d17 : ac.tmps.getD 17 undef = .int .i64 ((a * 512 : Nat) : Int) := h.dep ⟨5, .data⟩ (by simp) rfl 17 rfl
      have d19 : ac.tmps.getD 19 undef = .int .i64 ((a * 512 + 512 : Nat) : Int) := h.dep ⟨7, .data⟩ (by simp) rfl 19 rfl
      go_simp
      refine (erase_calls S (a * 512) 512 st wc h.pre HD.out (by have := HA.out; omega)).mono ?_
      rintro e w1 ⟨rfl, hs1, hc1⟩
      rw [HR1.out] at hs1 ⊢
      exact hK _ w1 hc1 rfl hs1
    · intro ac wc h K hK
      have d20 : ac.tmps.getD 20 undef = .int .i64 r1.2 := h.dep ⟨8, .data⟩ (by simp) rfl 20 rfl
      go_simp
      exact hK (.int .i64 r1.2) wc (Chg.refl _ wc) rfl trivial
  intro ac1 wc1 hc hall hpsi hput
  have hact := hput [(12, .pointer (some ⟨J, 0, none⟩)), (13, .pointer (some ⟨J, 0, none⟩)), (14, .pointer (some ⟨J, 0, none⟩)), (15, .pointer (some ⟨S, 0, none⟩)), (16, .int .i64 (a : Int)), (17, .int .i64 ((a * 512 : Nat) : Int)), (18, .int .i64 (a : Int)), (19, .int .i64 ((a * 512 + 512 : Nat) : Int)), (20, .int .i64 r1.2), (9, .int .i64 r1.2)] rfl ⟨hall 0 12 rfl, hall 1 13 rfl, hall 2 14 rfl, hall 3 15 rfl, hall 4 16 rfl, hall 5 17 rfl, hall 6 18 rfl, hall 7 19 rfl, hall 8 20 rfl, hall 9 9 rfl, trivial⟩
  clear hput hall
  subst hact
  have HS1 := Lib.hid (show StoreAt wc1 S r1.1 from hpsi 8 (by decide))
  have HC1 := Lib.hid (show Chg [S] w wc1 from hc)
  clear hpsi hc p
  simp only [Act.puts, Act.put]
  go_simp
  have HV1 := Lib.hid (HV.out.stored HS.out HC1.out)
  have HJ1 := Lib.hid (HJ.out.stored HC1.out)
  have HC01 := Lib.hid (show wc1.cell? ⟨J, 0, none⟩ = some (.pointer (some ⟨S, 0, none⟩)) from by obtain ⟨_, _, h, _⟩ := HJ1.out.facts; exact h)
  rcases HD1'.out with h1 | ⟨h1, h1d, h1l⟩
  · have h1i : (r1.2 != 0) = true := by simp [h1]
    have hb := HBeg.out
    rw [if_pos h1] at hb
    have HB := Lib.hid hb
    have H1 := Lib.hid h1
    clear hb h1
    go_wp2_with fail
    go_ret
    rw [HB.out, Jn.begun_no H1.out, begRows_no H1.out]
    exact ⟨rfl, HS1.out, HJ1.out.mono (Nat.le_max_left _ _), HC1.out⟩
  · have HD1 := Lib.hid h1d
    have H1 := Lib.hid h1
    have hd2 := HD2'.out h1
    have hb := HBeg.out
    rw [if_neg (by simp [h1])] at hb
    have HBeg2 := Lib.hid hb
    have HD2'' := Lib.hid hd2
    rw [h1]
    clear h1 h1d h1l hd2 hb
    go_wp2_with fail
    let p : Plan3 := {
      anc := [[], [0], [0, 1], [0, 1, 2], [], [4], [], [0, 1, 2, 3, 4, 5, 6], [0, 1, 2, 3, 4, 5, 6, 7]]
      rows := fun j => if j = 7 then [S] else []
      all := [S]
      Pre := fun i w => match i with
        | 3 => w.cell? ⟨J, 0, none⟩ = some (.pointer (some ⟨S, 0, none⟩))
        | 7 => StoreAt w S r1.1 ∧ IsB w 5 (.slice so snap.length scap) snap
        | _ => True
      Φ := fun i v w => match i with
        | 0 => v = .pointer (some ⟨J, 0, none⟩)
        | 1 => v = .pointer (some ⟨J, 0, none⟩)
        | 2 => v = .pointer (some ⟨J, 0, none⟩)
        | 3 => v = .pointer (some ⟨S, 0, none⟩)
        | 4 => v = .int .i64 (a : Int)
        | 5 => v = .int .i64 ((a * 512 + 1 : Nat) : Int)
        | 6 => v = .slice so snap.length scap
        | 7 => v = .int .i64 r2.2
        | 8 => v = .int .i64 r2.2
        | _ => True
      Ψ := fun i w => match i with
        | 7 => StoreAt w S r2.1
        | _ => True
      sub := by
        intro j x hx
        split at hx
        · exact hx
        · simp at hx
      pre := by
        intro i j w w1 hij hn h hc
        match i, h, hij, hn with
        | 0, h, hij, hn => exact trivial
        | 1, h, hij, hn => exact trivial
        | 2, h, hij, hn => exact trivial
        | 3, h, hij, hn => exact (if h7 : j = 7 then (by subst h7; exact absurd (by decide) hn) else (by rw [if_neg h7] at hc; exact hc.cell h (by simp)))
        | 4, h, hij, hn => exact trivial
        | 5, h, hij, hn => exact trivial
        | 6, h, hij, hn => exact trivial
        | 7, h, hij, hn => exact (by rw [if_neg (fun e => hij e.symm)] at hc; exact ⟨h.1.chg hc (by simp), h.2.then hc⟩)
        | 8, h, hij, hn => exact trivial
        | _ + 9, _, _, _ => trivial
      phi := by
        intro i j v w w1 hij hn h hc
        match i, h, hij, hn with
        | 0, h, hij, hn => exact h
        | 1, h, hij, hn => exact h
        | 2, h, hij, hn => exact h
        | 3, h, hij, hn => exact h
        | 4, h, hij, hn => exact h
        | 5, h, hij, hn => exact h
        | 6, h, hij, hn => exact h
        | 7, h, hij, hn => exact h
        | 8, h, hij, hn => exact h
        | _ + 9, _, _, _ => trivial
      psi := by
        intro i j w w1 hij hn h hc
        match i, h, hij, hn with
        | 0, h, hij, hn => exact trivial
        | 1, h, hij, hn => exact trivial
        | 2, h, hij, hn => exact trivial
        | 3, h, hij, hn => exact trivial
        | 4, h, hij, hn => exact trivial
        | 5, h, hij, hn => exact trivial
        | 6, h, hij, hn => exact trivial
        | 7, h, hij, hn => exact (by rw [if_neg (fun e => hij e.symm)] at hc; exact h.chg hc (by simp))
        | 8, h, hij, hn => exact trivial
        | _ + 9, _, _, _ => trivial }
    refine wp_region_each6 (by kernel_rfl) p ?hpre2 (by kernel_rfl) (by kernel_rfl) (by kernel_rfl) (by kernel_rfl) ?hend2 ?hsteps2
    case hpre2 =>
      intro i
      match i with
      | 0 => exact trivial
      | 1 => exact trivial
      | 2 => exact trivial
      | 3 => exact HC01.out
      | 4 => exact trivial
      | 5 => exact trivial
      | 6 => exact trivial
      | 7 => exact ⟨HS1.out, HV1.out⟩
      | 8 => exact trivial
      | _ + 9 => trivial
    case hsteps2 =>
      refine ⟨?_, ?_, ?_, ?_, ?_, ?_, ?_, ?_, ?_, trivial⟩
      · intro ac wc h K hK
        have b0 : ac.tmps.getD 0 undef = .pointer (some ⟨J, 0, none⟩) := (h.base 0 (by decide)).trans rfl
        go_simp
        exact hK (.pointer (some ⟨J, 0, none⟩)) wc (Chg.refl _ wc) rfl trivial
      · intro ac wc h K hK
        have d24 : ac.tmps.getD 24 undef = .pointer (some ⟨J, 0, none⟩) := h.dep ⟨0, .data⟩ (by simp) rfl 24 rfl
        go_simp
        exact hK (.pointer (some ⟨J, 0, none⟩)) wc (Chg.refl _ wc) rfl trivial
      · intro ac wc h K hK
        have d25 : ac.tmps.getD 25 undef = .pointer (some ⟨J, 0, none⟩) := h.dep ⟨1, .data⟩ (by simp) rfl 25 rfl
        go_simp
        exact hK (.pointer (some ⟨J, 0, none⟩)) wc (Chg.refl _ wc) rfl trivial
      · intro ac wc h K hK
        have d26 : ac.tmps.getD 26 undef = .pointer (some ⟨J, 0, none⟩) := h.dep ⟨2, .data⟩ (by simp) rfl 26 rfl
        have hq : wc.cell? ⟨J, 0, none⟩ = some (.pointer (some ⟨S, 0, none⟩)) := h.pre
        go_simp
        exact hK (.pointer (some ⟨S, 0, none⟩)) wc (Chg.refl _ wc) rfl trivial
      · intro ac wc h K hK
        have b2 : ac.tmps.getD 2 undef = .int .i64 (a : Int) := (h.base 2 (by decide)).trans rfl
        go_simp
        exact hK (.int .i64 (a : Int)) wc (Chg.refl _ wc) rfl trivial
      · intro ac wc h K hK
        have d28 : ac.tmps.getD 28 undef = .int .i64 (a : Int) := h.dep ⟨4, .data⟩ (by simp) rfl 28 rfl
        go_simp
        refine (place_calls a 1 wc HA.out (by omega)).mono ?_
        rintro e w1 ⟨rfl, rfl⟩
        exact hK _ wc (Chg.refl _ wc) rfl trivial
      · intro ac wc h K hK
        have b1 : ac.tmps.getD 1 undef = .slice so snap.length scap := (h.base 1 (by decide)).trans rfl
        go_simp
        exact hK (.slice so snap.length scap) wc (Chg.refl _ wc) rfl trivial
      · intro ac wc h K hK
        have d27 : ac.tmps.getD 27 undef = .pointer (some ⟨S, 0, none⟩) := h.dep ⟨3, .data⟩ (by simp) rfl 27 rfl
        have d29 : ac.tmps.getD 29 undef = .int .i64 ((a * 512 + 1 : Nat) : Int) := h.dep ⟨5, .data⟩ (by simp) rfl 29 rfl
        have d30 : ac.tmps.getD 30 undef = .slice so snap.length scap := h.dep ⟨6, .data⟩ (by simp) rfl 30 rfl
        go_simp
        refine (lay_calls S (a * 512 + 1) r1.1 _ snap wc h.pre.1 HD1.out h.pre.2 HL.out (by have := HA.out; have := HN.out; omega)).mono ?_
        rintro e w1 ⟨rfl, hs1, hc1⟩
        rw [HR2.out] at hs1 ⊢
        exact hK _ w1 hc1 rfl hs1
      · intro ac wc h K hK
        have d31 : ac.tmps.getD 31 undef = .int .i64 r2.2 := h.dep ⟨7, .data⟩ (by simp) rfl 31 rfl
        go_simp
        exact hK (.int .i64 r2.2) wc (Chg.refl _ wc) rfl trivial
    intro ac2 wc2 hc hall hpsi hput
    have hact := hput [(24, .pointer (some ⟨J, 0, none⟩)), (25, .pointer (some ⟨J, 0, none⟩)), (26, .pointer (some ⟨J, 0, none⟩)), (27, .pointer (some ⟨S, 0, none⟩)), (28, .int .i64 (a : Int)), (29, .int .i64 ((a * 512 + 1 : Nat) : Int)), (30, .slice so snap.length scap), (31, .int .i64 r2.2), (10, .int .i64 r2.2)] rfl ⟨hall 0 24 rfl, hall 1 25 rfl, hall 2 26 rfl, hall 3 27 rfl, hall 4 28 rfl, hall 5 29 rfl, hall 6 30 rfl, hall 7 31 rfl, hall 8 10 rfl, trivial⟩
    clear hput hall
    subst hact
    have HS2 := Lib.hid (show StoreAt wc2 S r2.1 from hpsi 7 (by decide))
    have HC2 := Lib.hid (show Chg [S] wc1 wc2 from hc)
    clear hpsi hc p
    simp only [Act.puts, Act.put]
    go_simp
    have HC12 := Lib.hid (HC1.out.same HC2.out)
    have HV2 := Lib.hid (HV1.out.stored HS1.out HC2.out)
    have HJ2 := Lib.hid (HJ1.out.stored HC2.out)
    have HC02 := Lib.hid (show wc2.cell? ⟨J, 0, none⟩ = some (.pointer (some ⟨S, 0, none⟩)) from by obtain ⟨_, _, h, _⟩ := HJ2.out.facts; exact h)
    rcases HD2''.out with h1 | ⟨h1, h1d⟩
    · have h1i : (r2.2 != 0) = true := by simp [h1]
      have hb := HBeg2.out
      rw [if_pos h1] at hb
      have HB := Lib.hid hb
      have H1 := Lib.hid h1
      clear hb h1
      go_wp2_with fail
      go_ret
      rw [HB.out, Jn.begun_no H1.out, begRows_no H1.out]
      exact ⟨rfl, HS2.out, HJ2.out.mono (Nat.le_max_left _ _), HC12.out⟩
    · have HD2 := Lib.hid h1d
      have H1 := Lib.hid h1
      have hb := HBeg2.out
      rw [if_neg (by simp [h1])] at hb
      have HBeg3 := Lib.hid hb
      have HSl := Lib.hid HS2.out.lt
      rw [h1]
      clear h1 h1d hb
      go_wp2_with fail
      let p : Plan3 := {
        anc := [[], [0], [0, 1], [0, 1, 2], [], [4], [], [6], [6, 7], [0, 1, 2, 3, 4, 5, 6, 7, 8], [0, 1, 2, 3, 4, 5, 6, 7, 8, 9]]
        rows := fun j => if j = 9 then [S] else []
        all := [S]
        Pre := fun i w => match i with
          | 3 => w.cell? ⟨J, 0, none⟩ = some (.pointer (some ⟨S, 0, none⟩))
          | 9 => StoreAt w S r2.1
          | _ => True
        Φ := fun i v w => match i with
          | 0 => v = .pointer (some ⟨J, 0, none⟩)
          | 1 => v = .pointer (some ⟨J, 0, none⟩)
          | 2 => v = .pointer (some ⟨J, 0, none⟩)
          | 3 => v = .pointer (some ⟨S, 0, none⟩)
          | 4 => v = .int .i64 (a : Int)
          | 5 => v = .int .i64 ((a * 512 : Nat) : Int)
          | 6 => v = .int .i64 (g : Int)
          | 7 => v = .int .u64 (g : Int)
          | 8 => ∃ b, OwnB w b v [1, UInt8.ofNat g] ∧ S < b
          | 9 => v = .int .i64 r3.2
          | 10 => v = .int .i64 r3.2
          | _ => True
        Ψ := fun i w => match i with
          | 9 => StoreAt w S r3.1
          | _ => True
        sub := by
          intro j x hx
          split at hx
          · exact hx
          · simp at hx
        pre := by
          intro i j w w1 hij hn h hc
          match i, h, hij, hn with
          | 0, h, hij, hn => exact trivial
          | 1, h, hij, hn => exact trivial
          | 2, h, hij, hn => exact trivial
          | 3, h, hij, hn => exact (if h9 : j = 9 then (by subst h9; exact absurd (by decide) hn) else (by rw [if_neg h9] at hc; exact hc.cell h (by simp)))
          | 4, h, hij, hn => exact trivial
          | 5, h, hij, hn => exact trivial
          | 6, h, hij, hn => exact trivial
          | 7, h, hij, hn => exact trivial
          | 8, h, hij, hn => exact trivial
          | 9, h, hij, hn => exact (by rw [if_neg (fun e => hij e.symm)] at hc; exact h.chg hc (by simp))
          | 10, h, hij, hn => exact trivial
          | _ + 11, _, _, _ => trivial
        phi := by
          intro i j v w w1 hij hn h hc
          match i, h, hij, hn with
          | 0, h, hij, hn => exact h
          | 1, h, hij, hn => exact h
          | 2, h, hij, hn => exact h
          | 3, h, hij, hn => exact h
          | 4, h, hij, hn => exact h
          | 5, h, hij, hn => exact h
          | 6, h, hij, hn => exact h
          | 7, h, hij, hn => exact h
          | 8, h, hij, hn => exact (if h9 : j = 9 then (by subst h9; have hc : Chg ([S]) w w1 := hc; exact (h.elim fun b hb => ⟨b, hb.1.chg hc (fun k hk hm => by have := (hb.1.lt k hk).1; have := hb.2; simp at hm; omega), hb.2⟩)) else (by rw [if_neg h9] at hc; exact (h.elim fun b hb => ⟨b, hb.1.then hc, hb.2⟩)))
          | 9, h, hij, hn => exact h
          | 10, h, hij, hn => exact h
          | _ + 11, _, _, _ => trivial
        psi := by
          intro i j w w1 hij hn h hc
          match i, h, hij, hn with
          | 0, h, hij, hn => exact trivial
          | 1, h, hij, hn => exact trivial
          | 2, h, hij, hn => exact trivial
          | 3, h, hij, hn => exact trivial
          | 4, h, hij, hn => exact trivial
          | 5, h, hij, hn => exact trivial
          | 6, h, hij, hn => exact trivial
          | 7, h, hij, hn => exact trivial
          | 8, h, hij, hn => exact trivial
          | 9, h, hij, hn => exact (by rw [if_neg (fun e => hij e.symm)] at hc; exact h.chg hc (by simp))
          | 10, h, hij, hn => exact trivial
          | _ + 11, _, _, _ => trivial }
      refine wp_region_each6 (by kernel_rfl) p ?hpre3 (by kernel_rfl) (by kernel_rfl) (by kernel_rfl) (by kernel_rfl) ?hend3 ?hsteps3
      case hpre3 =>
        intro i
        match i with
        | 0 => exact trivial
        | 1 => exact trivial
        | 2 => exact trivial
        | 3 => exact HC02.out
        | 4 => exact trivial
        | 5 => exact trivial
        | 6 => exact trivial
        | 7 => exact trivial
        | 8 => exact trivial
        | 9 => exact HS2.out
        | 10 => exact trivial
        | _ + 11 => trivial
      case hsteps3 =>
        refine ⟨?_, ?_, ?_, ?_, ?_, ?_, ?_, ?_, ?_, ?_, ?_, trivial⟩
        · intro ac wc h K hK
          have b0 : ac.tmps.getD 0 undef = .pointer (some ⟨J, 0, none⟩) := (h.base 0 (by decide)).trans rfl
          go_simp
          exact hK (.pointer (some ⟨J, 0, none⟩)) wc (Chg.refl _ wc) rfl trivial
        · intro ac wc h K hK
          have d35 : ac.tmps.getD 35 undef = .pointer (some ⟨J, 0, none⟩) := h.dep ⟨0, .data⟩ (by simp) rfl 35 rfl
          go_simp
          exact hK (.pointer (some ⟨J, 0, none⟩)) wc (Chg.refl _ wc) rfl trivial
        · intro ac wc h K hK
          have d36 : ac.tmps.getD 36 undef = .pointer (some ⟨J, 0, none⟩) := h.dep ⟨1, .data⟩ (by simp) rfl 36 rfl
          go_simp
          exact hK (.pointer (some ⟨J, 0, none⟩)) wc (Chg.refl _ wc) rfl trivial
        · intro ac wc h K hK
          have d37 : ac.tmps.getD 37 undef = .pointer (some ⟨J, 0, none⟩) := h.dep ⟨2, .data⟩ (by simp) rfl 37 rfl
          have hq : wc.cell? ⟨J, 0, none⟩ = some (.pointer (some ⟨S, 0, none⟩)) := h.pre
          go_simp
          exact hK (.pointer (some ⟨S, 0, none⟩)) wc (Chg.refl _ wc) rfl trivial
        · intro ac wc h K hK
          have b2 : ac.tmps.getD 2 undef = .int .i64 (a : Int) := (h.base 2 (by decide)).trans rfl
          go_simp
          exact hK (.int .i64 (a : Int)) wc (Chg.refl _ wc) rfl trivial
        · intro ac wc h K hK
          have d39 : ac.tmps.getD 39 undef = .int .i64 (a : Int) := h.dep ⟨4, .data⟩ (by simp) rfl 39 rfl
          go_simp
          refine (place_calls a 0 wc HA.out (by omega)).mono ?_
          rintro e w1 ⟨rfl, rfl⟩
          exact hK _ wc (Chg.refl _ wc) rfl trivial
        · intro ac wc h K hK
          have b3 : ac.tmps.getD 3 undef = .int .i64 (g : Int) := (h.base 3 (by decide)).trans rfl
          go_simp
          exact hK (.int .i64 (g : Int)) wc (Chg.refl _ wc) rfl trivial
        · intro ac wc h K hK
          have d41 : ac.tmps.getD 41 undef = .int .i64 (g : Int) := h.dep ⟨6, .data⟩ (by simp) rfl 41 rfl
          have hw : IntKind.u64.wrap (g : Int) = g := by have := HG.out; simp [IntKind.wrap, IntKind.bits, IntKind.signed]; omega
          go_simp
          exact hK (.int .u64 (g : Int)) wc (Chg.refl _ wc) rfl trivial
        · intro ac wc h K hK
          have d42 : ac.tmps.getD 42 undef = .int .u64 (g : Int) := h.dep ⟨7, .data⟩ (by simp) rfl 42 rfl
          go_simp
          refine (Put8_calls g wc HG.out.1 HG.out.2).mono ?_
          rintro e w1 ⟨v, rfl, hv, hc1⟩
          exact hK v w1 hc1 ⟨_, hv, Nat.lt_of_lt_of_le HSl.out h.chg.size⟩ trivial
        · intro ac wc h K hK
          have d38 : ac.tmps.getD 38 undef = .pointer (some ⟨S, 0, none⟩) := h.dep ⟨3, .data⟩ (by simp) rfl 38 rfl
          have d40 : ac.tmps.getD 40 undef = .int .i64 ((a * 512 : Nat) : Int) := h.dep ⟨5, .data⟩ (by simp) rfl 40 rfl
          obtain ⟨v43, e43, d43⟩ : ∃ x, ac.tmps.getD 43 undef = x ∧ (fun (v : Value) (w : World) => ∃ b, OwnB w b v [1, UInt8.ofNat g] ∧ S < b) x wc := ⟨_, rfl, h.dep ⟨8, .data⟩ (by simp) rfl 43 rfl⟩
          obtain ⟨b, hb, -⟩ := d43
          go_simp
          have hlay := lay_calls S (a * 512) r2.1 v43 [1, UInt8.ofNat g] wc h.pre HD2.out hb.isB (by simp) (by have := HA.out; simp [nBlocks]; omega)
          rw [cut_head, HR3.out] at hlay
          refine hlay.mono ?_
          rintro e w1 ⟨rfl, hs1, hc1⟩
          exact hK _ w1 hc1 rfl hs1
        · intro ac wc h K hK
          have d44 : ac.tmps.getD 44 undef = .int .i64 r3.2 := h.dep ⟨9, .data⟩ (by simp) rfl 44 rfl
          go_simp
          exact hK (.int .i64 r3.2) wc (Chg.refl _ wc) rfl trivial
      intro ac3 wc3 hc hall hpsi hput
      obtain ⟨x8, e8, d8⟩ : ∃ x, ac3.tmps.getD 43 undef = x ∧ (fun (v : Value) (w : World) => ∃ b, OwnB w b v [1, UInt8.ofNat g] ∧ S < b) x wc3 := ⟨_, rfl, hall 8 43 rfl⟩
      have hact := hput [(35, .pointer (some ⟨J, 0, none⟩)), (36, .pointer (some ⟨J, 0, none⟩)), (37, .pointer (some ⟨J, 0, none⟩)), (38, .pointer (some ⟨S, 0, none⟩)), (39, .int .i64 (a : Int)), (40, .int .i64 ((a * 512 : Nat) : Int)), (41, .int .i64 (g : Int)), (42, .int .u64 (g : Int)), (43, x8), (44, .int .i64 r3.2), (11, .int .i64 r3.2)] rfl ⟨hall 0 35 rfl, hall 1 36 rfl, hall 2 37 rfl, hall 3 38 rfl, hall 4 39 rfl, hall 5 40 rfl, hall 6 41 rfl, hall 7 42 rfl, e8, hall 9 44 rfl, hall 10 11 rfl, trivial⟩
      clear hput hall
      subst hact
      have HS3 := Lib.hid (show StoreAt wc3 S r3.1 from hpsi 9 (by decide))
      have HC3 := Lib.hid (show Chg [S] wc2 wc3 from hc)
      clear hpsi hc d8 p
      simp only [Act.puts, Act.put]
      go_simp
      have HC13 := Lib.hid (HC12.out.same HC3.out)
      have HV3 := Lib.hid (HV2.out.stored HS2.out HC3.out)
      have HJ3 := Lib.hid (HJ2.out.stored HC3.out)
      by_cases h1 : r3.2 = 0
      · have H1 := Lib.hid h1
        rw [h1]
        obtain ⟨hSJ, v0, hh, -⟩ := HJ3.out
        have f1 : ∀ i, wc3.frozen? ⟨J, i, none⟩ = false := fun i => frozen_of_heap hh
        have c1 : wc3.cell? ⟨J, 1, none⟩ = some (.int .i64 jn.area) := cell_of_heap hh rfl
        have c2 : wc3.cell? ⟨J, 2, none⟩ = some (.int .i64 jn.gen) := cell_of_heap hh rfl
        have f11 := f1 1
        have f12 := f1 2
        have hJ5 : ∀ g' cur fr, wc3.heap[g']? = some (.cells cur 5 fr) → g' ∉ [J] := by
          intro g' cur fr hg' hm
          simp at hm
          subst hm
          rw [hh] at hg'
          simp at hg'
        have hh1 := setCell_heap hh (i := 1) (.int .i64 a)
        have hh2 := setCell_heap hh1 (i := 2) (.int .i64 g)
        have hch2 : Chg [J] wc3 ((wc3.setCell ⟨J, 1, none⟩ (.int .i64 a)).setCell ⟨J, 2, none⟩ (.int .i64 g)) := ((Chg.refl [J] wc3).setCell (p := ⟨J, 1, none⟩) (.inl (by simp)) _).setCell (p := ⟨J, 2, none⟩) (.inl (by simp)) _
        have HCl := Lib.hid (Clone_calls 5 _ snap _ (HV3.out.chg hch2 hJ5) (by have := HL.out; omega))
        have HH2 := Lib.hid hh2
        have HCh2 := Lib.hid hch2
        have HSJ := Lib.hid hSJ
        clear hh hh1 hh2 hch2 hJ5 f1 h1 hSJ
        go_wp2_with fail
        refine HCl.out.mono ?_
        rintro e w5 ⟨cv, rfl, hown, hch⟩
        obtain ⟨co, cn, cc, rfl⟩ := hown.slice
        have hh5 := hch.heap HH2.out (by simp)
        have hsz : J < w5.heap.size := heap_lt hh5
        have hszw : J < ((wc3.setCell ⟨J, 1, none⟩ (.int .i64 a)).setCell ⟨J, 2, none⟩ (.int .i64 g)).heap.size := heap_lt HH2.out
        have c3 : w5.cell? ⟨J, 3, none⟩ = some v0 := cell_of_heap hh5 rfl
        have f3 : w5.frozen? ⟨J, 3, none⟩ = false := frozen_of_heap hh5
        have c4 : w5.cell? ⟨J, 4, none⟩ = some (.int .i64 jn.used) := cell_of_heap hh5 rfl
        have f4 : w5.frozen? ⟨J, 4, none⟩ = false := frozen_of_heap hh5
        obtain ⟨X, hX⟩ : ∃ X : Value, X = .slice (some ⟨w5.heap.size, 0, none⟩) 1 1 := ⟨_, rfl⟩
        obtain ⟨Y, hY⟩ : ∃ Y : Value, Y = .int .i64 (nBlocks snap.length : Nat) := ⟨_, rfl⟩
        have hh7 := setCell_heap hh5 (i := 3) X
        have hh8 := setCell_heap hh7 (i := 4) Y
        have hch8 : Chg [J] w5 ((w5.setCell ⟨J, 3, none⟩ X).setCell ⟨J, 4, none⟩ Y) := ((Chg.refl [J] _).setCell (p := ⟨J, 3, none⟩) (.inl (by simp)) _).setCell (p := ⟨J, 4, none⟩) (.inl (by simp)) _
        have hsz8 : ((w5.setCell ⟨J, 3, none⟩ X).setCell ⟨J, 4, none⟩ Y).heap.size = w5.heap.size := by simp [World.setCell]
        have hchA := (Chg.refl [] ((w5.setCell ⟨J, 3, none⟩ X).setCell ⟨J, 4, none⟩ Y)).alloc (.cells #[.slice co cn cc] 26)
        have hhA := hchA.heap hh8 (by simp)
        have hhx := heap_alloc_new ((w5.setCell ⟨J, 3, none⟩ X).setCell ⟨J, 4, none⟩ Y) (.cells #[.slice co cn cc] 26)
        rw [hsz8] at hhx
        have hx5 := ((hown.mono (show J + 1 ≤ _ by omega)).chg hch8 (fun k hk hm => by have := (hown.lt k hk).1; simp at hm; omega)).then hchA
        have hList := listB_one _ (J + 1) _ _ snap hhx (by omega) hx5
        have hC5 := HCh2.out.then hch
        have hC6 := (hC5.same hch8).then hchA
        subst hX
        subst hY
        have HL8 := Lib.hid hList
        have HH8 := Lib.hid hhA
        have HC6 := Lib.hid hC6
        have HS8 := Lib.hid (HS3.out.chg hC6 (by simp; have := HSJ.out; omega))
        clear hown hch hh5 hx5 hhx hhA hchA hList hh7 hh8 hch8 hC5 hC6 hszw hsz8
        go_wp2_with (go_at_call 64; refine (Blocks_calls snap.length _ HL.out).mono ?_; rintro e w' ⟨rfl, rfl⟩)
        go_ret
        rw [HBeg3.out, H1.out, show begRows S J 0 = [S, J] from rfl]
        refine ⟨rfl, HS8.out, ⟨HSJ.out, _, HH8.out, ?_⟩, (HC13.out.mono (by simp)).trans HC6.out (by simp)⟩
        exact HL8.out.mono (Nat.le_refl _) (by simp; omega)
      · have h1i : (r3.2 != 0) = true := by simp [h1]
        have H1 := Lib.hid h1
        clear h1
        go_wp2_with fail
        go_ret
        rw [HBeg3.out, Jn.begun_no H1.out, begRows_no H1.out]
        exact ⟨rfl, HS3.out, HJ3.out.mono (Nat.le_max_left _ _), HC13.out⟩
end Go.Proofs.Ytgmgmjljjbcgjaa

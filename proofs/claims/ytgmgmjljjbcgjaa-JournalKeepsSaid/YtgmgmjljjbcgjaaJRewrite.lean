/- The journal package: Rewrite. -/
import Derived.Test.YtgmgmjljjbcgjaaJBegins
namespace Go.Proofs.Ytgmgmjljjbcgjaa
open Go Go.RowKit NSX

set_option maxHeartbeats 400000 in
theorem ends_ok (J : Nat) (w : World) : Calls Try.prog 76 #[.pointer (some ⟨J, 0, none⟩), .int .i64 0] w fun e w' => e = .returned (.int .i64 0) ∧ w = w' := by
  go_enter Try.func76, Try.ntmps76
  go_wp2
  go_ret
  exact ⟨rfl, rfl⟩
theorem JChg.mono {base base' : Nat} {w w' : World} (h : JChg base w w') (hb : base' ≤ base) : JChg base' w w' :=
  ⟨h.os, h.tape, h.output, h.size, fun k hk hn => h.block k hk (hn.imp (fun h => by omega) id)⟩
/-- What size lets in. -/
theorem sizeAns_ok {n : Nat} {m : Int} (h : sizeAns n m = 0) : n ≤ 32768 ∧ (nBlocks n : Int) ≤ m := by
  unfold sizeAns at h
  split at h
  · cases h
  · split at h
    · cases h
    · omega

/-- What Rewrite does: the journal, the store, the answer. -/
def Jn.rewrite (jn : Jn) (st : St) (snap : List UInt8) : Jn × St × Int :=
  if sizeAns snap.length 511 = 0 then
    (if (st.begins snap (1 - jn.area) (jn.gen + 1)).2 = 0 then jn.begun snap (1 - jn.area) (jn.gen + 1) 0 else { jn with lost := true }, (st.begins snap (1 - jn.area) (jn.gen + 1)).1, (st.begins snap (1 - jn.area) (jn.gen + 1)).2)
  else (jn, st, sizeAns snap.length 511)

set_option maxRecDepth 100000 in
set_option maxHeartbeats 2000000 in
theorem Rewrite_calls (top J S : Nat) (jn : Jn) (st : St) (v : Value) (snap : List UInt8) (w : World) (hs : StoreAt w S st) (hd : st.down = false) (hj : JournalAt w top J S jn) (hlost : jn.lost = false) (hv : IsB w 5 v snap) (ha : jn.area ≤ 1) (hg : 1 ≤ jn.gen ∧ jn.gen < 255) :
    Calls Try.prog 45 #[.pointer (some ⟨J, 0, none⟩), v] w fun e w' => e = .returned (.int .i64 (jn.rewrite st snap).2.2) ∧ StoreAt w' S (jn.rewrite st snap).2.1 ∧ (∃ t, JournalAt w' t J S (jn.rewrite st snap).1) ∧ JChg S w w' := by
  obtain ⟨so, scap, rfl, -, hsm, -, -⟩ := hv.cells
  have hrd := ready_calls top J S jn w hj
  rw [hlost] at hrd
  have hrows : ∀ w', Chg [S, J] w w' → JChg S w w' := fun w' h => JChg.of h (fun x hx => by
    simp at hx
    rcases hx with rfl | rfl
    · exact .inl ⟨Nat.le_refl _, hs.row⟩
    · exact .inl ⟨by have := hj.lt; omega, hj.row⟩)
  have HRd := Lib.hid hrd
  have HRows := Lib.hid hrows
  have HSz := Lib.hid (size_calls 5 _ snap 511 w hv)
  have HS := Lib.hid hs
  have HD := Lib.hid hd
  have HJ := Lib.hid hj
  have HV := Lib.hid hv
  have HA := Lib.hid ha
  have HG := Lib.hid hg
  have HSJ := Lib.hid hj.lt.1
  clear hs hd hj hv ha hg hrd hrows hlost
  by_cases h0 : sizeAns snap.length 511 = 0
  · obtain ⟨hl, hn⟩ := sizeAns_ok h0
    have HL := Lib.hid hl
    have HN := Lib.hid (show nBlocks snap.length ≤ 511 by omega)
    obtain ⟨r, hr⟩ : ∃ r, st.begins snap (1 - jn.area) (jn.gen + 1) = r := ⟨_, rfl⟩
    have HR := Lib.hid hr
    have hrw : jn.rewrite st snap = (if r.2 = 0 then jn.begun snap (1 - jn.area) (jn.gen + 1) 0 else { jn with lost := true }, r.1, r.2) := by
      unfold Jn.rewrite
      rw [if_pos h0, hr]
    rw [h0] at HSz
    rw [hrw]
    by_cases h1 : r.2 = 0
    · have H1 := Lib.hid h1
      rw [if_pos h1, h1]
      clear h0 h1 hl hn hr hrw
      go_enter Try.func45, Try.ntmps45
      go_wp2_with (first | (go_at_call 75; refine HRd.out.mono ?_; rintro e w' ⟨rfl, rfl⟩) | (go_at_call 69; refine HSz.out.mono ?_; rintro e w' ⟨rfl, rfl⟩))
      let p : Plan3 := {
        anc := [[], [], [], [], [3], [3, 4], [3, 4, 5], [3, 4, 5, 6], [], [8], [8, 9], [8, 9, 10], [8, 9, 10, 11], [1, 2, 3, 4, 5, 6, 7, 8, 9, 10, 11, 12], [0, 1, 2, 3, 4, 5, 6, 7, 8, 9, 10, 11, 12, 13], [0, 1, 2, 3, 4, 5, 6, 7, 8, 9, 10, 11, 12, 13, 14]]
        rows := fun j => if j = 13 then [S, J] else []
        all := [S, J]
        Pre := fun i w => match i with
          | 6 => JournalAt w top J S jn
          | 11 => JournalAt w top J S jn
          | 13 => StoreAt w S st ∧ JournalAt w top J S jn ∧ IsB w 5 (.slice so snap.length scap) snap
          | _ => True
        Φ := fun i v w => match i with
          | 0 => v = .pointer (some ⟨J, 0, none⟩)
          | 1 => v = .pointer (some ⟨J, 0, none⟩)
          | 2 => v = .slice so snap.length scap
          | 3 => v = .pointer (some ⟨J, 0, none⟩)
          | 4 => v = .pointer (some ⟨J, 0, none⟩)
          | 5 => v = .pointer (some ⟨J, 1, none⟩)
          | 6 => v = .int .i64 (jn.area : Int)
          | 7 => v = .int .i64 ((1 - jn.area : Nat) : Int)
          | 8 => v = .pointer (some ⟨J, 0, none⟩)
          | 9 => v = .pointer (some ⟨J, 0, none⟩)
          | 10 => v = .pointer (some ⟨J, 2, none⟩)
          | 11 => v = .int .i64 (jn.gen : Int)
          | 12 => v = .int .i64 ((jn.gen + 1 : Nat) : Int)
          | 13 => v = .int .i64 r.2
          | 14 => v = .int .i64 r.2
          | 15 => v = .int .i64 r.2
          | _ => True
        Ψ := fun i w => match i with
          | 13 => StoreAt w S r.1 ∧ ∃ t, JournalAt w t J S (jn.begun snap (1 - jn.area) (jn.gen + 1) 0)
          | _ => True
        sub := by
          intro j x hx
          split at hx
          · exact hx
          · simp at hx
        pre := by
          intro i j w w1 hij hn h hc
          match i, h, hij, hn with
          | 0, h, hij, hn => exact trivial
          | 1, h, hij, hn => exact trivial
          | 2, h, hij, hn => exact trivial
          | 3, h, hij, hn => exact trivial
          | 4, h, hij, hn => exact trivial
          | 5, h, hij, hn => exact trivial
          | 6, h, hij, hn => exact (if h13 : j = 13 then (by subst h13; exact absurd (by decide) hn) else (by rw [if_neg h13] at hc; exact h.then hc))
          | 7, h, hij, hn => exact trivial
          | 8, h, hij, hn => exact trivial
          | 9, h, hij, hn => exact trivial
          | 10, h, hij, hn => exact trivial
          | 11, h, hij, hn => exact (if h13 : j = 13 then (by subst h13; exact absurd (by decide) hn) else (by rw [if_neg h13] at hc; exact h.then hc))
          | 12, h, hij, hn => exact trivial
          | 13, h, hij, hn => exact (by rw [if_neg (fun e => hij e.symm)] at hc; exact ⟨h.1.chg hc (by simp), h.2.1.then hc, h.2.2.then hc⟩)
          | 14, h, hij, hn => exact trivial
          | 15, h, hij, hn => exact trivial
          | _ + 16, _, _, _ => trivial
        phi := by
          intro i j v w w1 hij hn h hc
          match i, h, hij, hn with
          | 0, h, hij, hn => exact h
          | 1, h, hij, hn => exact h
          | 2, h, hij, hn => exact h
          | 3, h, hij, hn => exact h
          | 4, h, hij, hn => exact h
          | 5, h, hij, hn => exact h
          | 6, h, hij, hn => exact h
          | 7, h, hij, hn => exact h
          | 8, h, hij, hn => exact h
          | 9, h, hij, hn => exact h
          | 10, h, hij, hn => exact h
          | 11, h, hij, hn => exact h
          | 12, h, hij, hn => exact h
          | 13, h, hij, hn => exact h
          | 14, h, hij, hn => exact h
          | 15, h, hij, hn => exact h
          | _ + 16, _, _, _ => trivial
        psi := by
          intro i j w w1 hij hn h hc
          match i, h, hij, hn with
          | 0, h, hij, hn => exact trivial
          | 1, h, hij, hn => exact trivial
          | 2, h, hij, hn => exact trivial
          | 3, h, hij, hn => exact trivial
          | 4, h, hij, hn => exact trivial
          | 5, h, hij, hn => exact trivial
          | 6, h, hij, hn => exact trivial
          | 7, h, hij, hn => exact trivial
          | 8, h, hij, hn => exact trivial
          | 9, h, hij, hn => exact trivial
          | 10, h, hij, hn => exact trivial
          | 11, h, hij, hn => exact trivial
          | 12, h, hij, hn => exact trivial
          | 13, h, hij, hn => exact (by rw [if_neg (fun e => hij e.symm)] at hc; exact ⟨h.1.chg hc (by simp), h.2.elim fun t ht => ⟨t, ht.then hc⟩⟩)
          | 14, h, hij, hn => exact trivial
          | 15, h, hij, hn => exact trivial
          | _ + 16, _, _, _ => trivial }
      refine wp_region_each6 (by kernel_rfl) p ?hpreG (by kernel_rfl) (by kernel_rfl) (by kernel_rfl) (by kernel_rfl) ?hendG ?hstepsG
      case hpreG =>
        intro i
        match i with
        | 0 => exact trivial
        | 1 => exact trivial
        | 2 => exact trivial
        | 3 => exact trivial
        | 4 => exact trivial
        | 5 => exact trivial
        | 6 => exact HJ.out
        | 7 => exact trivial
        | 8 => exact trivial
        | 9 => exact trivial
        | 10 => exact trivial
        | 11 => exact HJ.out
        | 12 => exact trivial
        | 13 => exact ⟨HS.out, HJ.out, HV.out⟩
        | 14 => exact trivial
        | 15 => exact trivial
        | _ + 16 => trivial
      case hstepsG =>
        refine ⟨?_, ?_, ?_, ?_, ?_, ?_, ?_, ?_, ?_, ?_, ?_, ?_, ?_, ?_, ?_, ?_, trivial⟩
        · intro ac wc h K hK
          have b0 : ac.tmps.getD 0 undef = .pointer (some ⟨J, 0, none⟩) := (h.base 0 (by decide)).trans rfl
          go_simp
          exact hK (.pointer (some ⟨J, 0, none⟩)) wc (Chg.refl _ wc) rfl trivial
        · intro ac wc h K hK
          have b0 : ac.tmps.getD 0 undef = .pointer (some ⟨J, 0, none⟩) := (h.base 0 (by decide)).trans rfl
          go_simp
          exact hK (.pointer (some ⟨J, 0, none⟩)) wc (Chg.refl _ wc) rfl trivial
        · intro ac wc h K hK
          have b1 : ac.tmps.getD 1 undef = .slice so snap.length scap := (h.base 1 (by decide)).trans rfl
          go_simp
          exact hK (.slice so snap.length scap) wc (Chg.refl _ wc) rfl trivial
        · intro ac wc h K hK
          have b0 : ac.tmps.getD 0 undef = .pointer (some ⟨J, 0, none⟩) := (h.base 0 (by decide)).trans rfl
          go_simp
          exact hK (.pointer (some ⟨J, 0, none⟩)) wc (Chg.refl _ wc) rfl trivial
        · intro ac wc h K hK
          have d20 : ac.tmps.getD 20 undef = .pointer (some ⟨J, 0, none⟩) := h.dep ⟨3, .data⟩ (by simp) rfl 20 rfl
          go_simp
          exact hK (.pointer (some ⟨J, 0, none⟩)) wc (Chg.refl _ wc) rfl trivial
        · intro ac wc h K hK
          have d21 : ac.tmps.getD 21 undef = .pointer (some ⟨J, 0, none⟩) := h.dep ⟨4, .data⟩ (by simp) rfl 21 rfl
          go_simp
          exact hK (.pointer (some ⟨J, 1, none⟩)) wc (Chg.refl _ wc) rfl trivial
        · intro ac wc h K hK
          have d22 : ac.tmps.getD 22 undef = .pointer (some ⟨J, 1, none⟩) := h.dep ⟨5, .data⟩ (by simp) rfl 22 rfl
          have hpre : JournalAt wc top J S jn := h.pre
          obtain ⟨v9, -, c0, hq, c2, c3, c4, c5, -⟩ := hpre.facts
          go_simp
          exact hK (.int .i64 (jn.area : Int)) wc (Chg.refl _ wc) rfl trivial
        · intro ac wc h K hK
          have d23 : ac.tmps.getD 23 undef = .int .i64 (jn.area : Int) := h.dep ⟨6, .data⟩ (by simp) rfl 23 rfl
          have hA1 := HA.out
          have hw : IntKind.i64.wrap (1 - (jn.area : Int)) = ((1 - jn.area : Nat) : Int) := by simp [IntKind.wrap, IntKind.bits, IntKind.signed]; omega
          have HW := Lib.hid hw
          clear hw
          go_simp
          exact hK _ wc (Chg.refl _ wc) (congrArg (Value.int .i64) HW.out) trivial
        · intro ac wc h K hK
          have b0 : ac.tmps.getD 0 undef = .pointer (some ⟨J, 0, none⟩) := (h.base 0 (by decide)).trans rfl
          go_simp
          exact hK (.pointer (some ⟨J, 0, none⟩)) wc (Chg.refl _ wc) rfl trivial
        · intro ac wc h K hK
          have d25 : ac.tmps.getD 25 undef = .pointer (some ⟨J, 0, none⟩) := h.dep ⟨8, .data⟩ (by simp) rfl 25 rfl
          go_simp
          exact hK (.pointer (some ⟨J, 0, none⟩)) wc (Chg.refl _ wc) rfl trivial
        · intro ac wc h K hK
          have d26 : ac.tmps.getD 26 undef = .pointer (some ⟨J, 0, none⟩) := h.dep ⟨9, .data⟩ (by simp) rfl 26 rfl
          go_simp
          exact hK (.pointer (some ⟨J, 2, none⟩)) wc (Chg.refl _ wc) rfl trivial
        · intro ac wc h K hK
          have d27 : ac.tmps.getD 27 undef = .pointer (some ⟨J, 2, none⟩) := h.dep ⟨10, .data⟩ (by simp) rfl 27 rfl
          have hpre : JournalAt wc top J S jn := h.pre
          obtain ⟨v9, -, c0, c1, hq, c3, c4, c5, -⟩ := hpre.facts
          go_simp
          exact hK (.int .i64 (jn.gen : Int)) wc (Chg.refl _ wc) rfl trivial
        · intro ac wc h K hK
          have d28 : ac.tmps.getD 28 undef = .int .i64 (jn.gen : Int) := h.dep ⟨11, .data⟩ (by simp) rfl 28 rfl
          have hG1 := HG.out
          have hw : IntKind.i64.wrap ((jn.gen : Int) + 1) = ((jn.gen + 1 : Nat) : Int) := by simp [IntKind.wrap, IntKind.bits, IntKind.signed]; omega
          have HW := Lib.hid hw
          clear hw
          go_simp
          exact hK _ wc (Chg.refl _ wc) (congrArg (Value.int .i64) HW.out) trivial
        · intro ac wc h K hK
          have d18 : ac.tmps.getD 18 undef = .pointer (some ⟨J, 0, none⟩) := h.dep ⟨1, .data⟩ (by simp) rfl 18 rfl
          have d19 : ac.tmps.getD 19 undef = .slice so snap.length scap := h.dep ⟨2, .data⟩ (by simp) rfl 19 rfl
          have d24 : ac.tmps.getD 24 undef = .int .i64 ((1 - jn.area : Nat) : Int) := h.dep ⟨7, .data⟩ (by simp) rfl 24 rfl
          have d29 : ac.tmps.getD 29 undef = .int .i64 ((jn.gen + 1 : Nat) : Int) := h.dep ⟨12, .data⟩ (by simp) rfl 29 rfl
          have hp : StoreAt wc S st ∧ JournalAt wc top J S jn ∧ IsB wc 5 (.slice so snap.length scap) snap := h.pre
          go_simp
          refine (begins_calls top J S (1 - jn.area) (jn.gen + 1) jn st _ snap wc hp.1 HD.out hp.2.1 hp.2.2 HL.out HN.out (by omega) (by have := HG.out; omega)).mono ?_
          rintro e w1 ⟨rfl, hs1, hj1, hc1⟩
          rw [HR.out] at hs1 hj1 hc1 ⊢
          rw [H1.out] at hj1 hc1
          exact hK _ w1 hc1 rfl ⟨hs1, _, hj1⟩
        · intro ac wc h K hK
          have d17 : ac.tmps.getD 17 undef = .pointer (some ⟨J, 0, none⟩) := h.dep ⟨0, .data⟩ (by simp) rfl 17 rfl
          have d30 : ac.tmps.getD 30 undef = .int .i64 r.2 := h.dep ⟨13, .data⟩ (by simp) rfl 30 rfl
          rw [H1.out] at d30
          go_simp
          refine (ends_ok J wc).mono ?_
          rintro e w1 ⟨rfl, rfl⟩
          exact hK _ wc (Chg.refl _ wc) (congrArg (Value.int .i64) H1.out.symm) trivial
        · intro ac wc h K hK
          have d31 : ac.tmps.getD 31 undef = .int .i64 r.2 := h.dep ⟨14, .data⟩ (by simp) rfl 31 rfl
          go_simp
          exact hK (.int .i64 r.2) wc (Chg.refl _ wc) rfl trivial
      intro acG wcG hc hall hpsi hput
      have hact := hput [(17, .pointer (some ⟨J, 0, none⟩)), (18, .pointer (some ⟨J, 0, none⟩)), (19, .slice so snap.length scap), (20, .pointer (some ⟨J, 0, none⟩)), (21, .pointer (some ⟨J, 0, none⟩)), (22, .pointer (some ⟨J, 1, none⟩)), (23, .int .i64 (jn.area : Int)), (24, .int .i64 ((1 - jn.area : Nat) : Int)), (25, .pointer (some ⟨J, 0, none⟩)), (26, .pointer (some ⟨J, 0, none⟩)), (27, .pointer (some ⟨J, 2, none⟩)), (28, .int .i64 (jn.gen : Int)), (29, .int .i64 ((jn.gen + 1 : Nat) : Int)), (30, .int .i64 r.2), (31, .int .i64 r.2), (4, .int .i64 r.2)] rfl ⟨hall 0 17 rfl, hall 1 18 rfl, hall 2 19 rfl, hall 3 20 rfl, hall 4 21 rfl, hall 5 22 rfl, hall 6 23 rfl, hall 7 24 rfl, hall 8 25 rfl, hall 9 26 rfl, hall 10 27 rfl, hall 11 28 rfl, hall 12 29 rfl, hall 13 30 rfl, hall 14 31 rfl, hall 15 4 rfl, trivial⟩
      clear hput hall
      subst hact
      have hs9 : StoreAt wcG S r.1 := (hpsi 13 (by decide)).1
      have hj9 : ∃ t, JournalAt wcG t J S (jn.begun snap (1 - jn.area) (jn.gen + 1) 0) := (hpsi 13 (by decide)).2
      have hc9 : Chg [S, J] w wcG := hc
      obtain ⟨t9, hj9⟩ := hj9
      have HS9 := Lib.hid hs9
      have HJ9 := Lib.hid hj9
      have HC9 := Lib.hid hc9
      clear hpsi hc p hs9 hj9 hc9
      simp only [Act.puts, Act.put]
      go_simp
      rw [H1.out]
      go_wp2_with fail
      go_ret
      exact ⟨rfl, HS9.out, ⟨_, HJ9.out⟩, HRows.out _ HC9.out⟩
    · have H1 := Lib.hid h1
      rw [if_neg h1]
      clear h0 h1 hl hn hr hrw
      go_enter Try.func45, Try.ntmps45
      go_wp2_with (first | (go_at_call 75; refine HRd.out.mono ?_; rintro e w' ⟨rfl, rfl⟩) | (go_at_call 69; refine HSz.out.mono ?_; rintro e w' ⟨rfl, rfl⟩))
      let p : Plan3 := {
        anc := [[], [], [], [], [3], [3, 4], [3, 4, 5], [3, 4, 5, 6], [], [8], [8, 9], [8, 9, 10], [8, 9, 10, 11], [1, 2, 3, 4, 5, 6, 7, 8, 9, 10, 11, 12], [0, 1, 2, 3, 4, 5, 6, 7, 8, 9, 10, 11, 12, 13], [0, 1, 2, 3, 4, 5, 6, 7, 8, 9, 10, 11, 12, 13, 14]]
        rows := fun j => if j = 13 then [S] else if j = 14 then [J] else []
        all := [S, J]
        Pre := fun i w => match i with
          | 6 => JournalAt w top J S jn
          | 11 => JournalAt w top J S jn
          | 13 => StoreAt w S st ∧ JournalAt w top J S jn ∧ IsB w 5 (.slice so snap.length scap) snap
          | 14 => JournalAt w top J S jn
          | _ => True
        Φ := fun i v w => match i with
          | 0 => v = .pointer (some ⟨J, 0, none⟩)
          | 1 => v = .pointer (some ⟨J, 0, none⟩)
          | 2 => v = .slice so snap.length scap
          | 3 => v = .pointer (some ⟨J, 0, none⟩)
          | 4 => v = .pointer (some ⟨J, 0, none⟩)
          | 5 => v = .pointer (some ⟨J, 1, none⟩)
          | 6 => v = .int .i64 (jn.area : Int)
          | 7 => v = .int .i64 ((1 - jn.area : Nat) : Int)
          | 8 => v = .pointer (some ⟨J, 0, none⟩)
          | 9 => v = .pointer (some ⟨J, 0, none⟩)
          | 10 => v = .pointer (some ⟨J, 2, none⟩)
          | 11 => v = .int .i64 (jn.gen : Int)
          | 12 => v = .int .i64 ((jn.gen + 1 : Nat) : Int)
          | 13 => v = .int .i64 r.2
          | 14 => v = .int .i64 r.2
          | 15 => v = .int .i64 r.2
          | _ => True
        Ψ := fun i w => match i with
          | 13 => StoreAt w S r.1
          | 14 => ∃ t, JournalAt w t J S { jn with lost := true }
          | _ => True
        sub := by
          intro j x hx
          split at hx
          · simp at hx; simp [hx]
          · split at hx
            · simp at hx; simp [hx]
            · simp at hx
        pre := by
          intro i j w w1 hij hn h hc
          match i, h, hij, hn with
          | 0, h, hij, hn => exact trivial
          | 1, h, hij, hn => exact trivial
          | 2, h, hij, hn => exact trivial
          | 3, h, hij, hn => exact trivial
          | 4, h, hij, hn => exact trivial
          | 5, h, hij, hn => exact trivial
          | 6, h, hij, hn => exact (if h13 : j = 13 then (by subst h13; exact absurd (by decide) hn) else (if h14 : j = 14 then (by subst h14; exact absurd (by decide) hn) else (by rw [if_neg h13, if_neg h14] at hc; exact h.then hc)))
          | 7, h, hij, hn => exact trivial
          | 8, h, hij, hn => exact trivial
          | 9, h, hij, hn => exact trivial
          | 10, h, hij, hn => exact trivial
          | 11, h, hij, hn => exact (if h13 : j = 13 then (by subst h13; exact absurd (by decide) hn) else (if h14 : j = 14 then (by subst h14; exact absurd (by decide) hn) else (by rw [if_neg h13, if_neg h14] at hc; exact h.then hc)))
          | 12, h, hij, hn => exact trivial
          | 13, h, hij, hn => exact (if h14 : j = 14 then (by subst h14; exact absurd (by decide) hn) else (by rw [if_neg (fun e => hij e.symm), if_neg h14] at hc; exact ⟨h.1.chg hc (by simp), h.2.1.then hc, h.2.2.then hc⟩))
          | 14, h, hij, hn => exact (if h13 : j = 13 then (by subst h13; have hc : Chg ([S]) w w1 := hc; exact h.stored hc) else (by rw [if_neg h13, if_neg (fun e => hij e.symm)] at hc; exact h.then hc))
          | 15, h, hij, hn => exact trivial
          | _ + 16, _, _, _ => trivial
        phi := by
          intro i j v w w1 hij hn h hc
          match i, h, hij, hn with
          | 0, h, hij, hn => exact h
          | 1, h, hij, hn => exact h
          | 2, h, hij, hn => exact h
          | 3, h, hij, hn => exact h
          | 4, h, hij, hn => exact h
          | 5, h, hij, hn => exact h
          | 6, h, hij, hn => exact h
          | 7, h, hij, hn => exact h
          | 8, h, hij, hn => exact h
          | 9, h, hij, hn => exact h
          | 10, h, hij, hn => exact h
          | 11, h, hij, hn => exact h
          | 12, h, hij, hn => exact h
          | 13, h, hij, hn => exact h
          | 14, h, hij, hn => exact h
          | 15, h, hij, hn => exact h
          | _ + 16, _, _, _ => trivial
        psi := by
          intro i j w w1 hij hn h hc
          match i, h, hij, hn with
          | 0, h, hij, hn => exact trivial
          | 1, h, hij, hn => exact trivial
          | 2, h, hij, hn => exact trivial
          | 3, h, hij, hn => exact trivial
          | 4, h, hij, hn => exact trivial
          | 5, h, hij, hn => exact trivial
          | 6, h, hij, hn => exact trivial
          | 7, h, hij, hn => exact trivial
          | 8, h, hij, hn => exact trivial
          | 9, h, hij, hn => exact trivial
          | 10, h, hij, hn => exact trivial
          | 11, h, hij, hn => exact trivial
          | 12, h, hij, hn => exact trivial
          | 13, h, hij, hn => exact (if h14 : j = 14 then (by subst h14; have hc : Chg ([J]) w w1 := hc; exact h.chg hc (by simp; have := HSJ.out; omega)) else (by rw [if_neg (fun e => hij e.symm), if_neg h14] at hc; exact h.chg hc (by simp)))
          | 14, h, hij, hn => exact (if h13 : j = 13 then (by subst h13; exact absurd (by decide) hn) else (by rw [if_neg h13, if_neg (fun e => hij e.symm)] at hc; exact (h.elim fun t ht => ⟨t, ht.then hc⟩)))
          | 15, h, hij, hn => exact trivial
          | _ + 16, _, _, _ => trivial }
      refine wp_region_each6 (by kernel_rfl) p ?hpreF (by kernel_rfl) (by kernel_rfl) (by kernel_rfl) (by kernel_rfl) ?hendF ?hstepsF
      case hpreF =>
        intro i
        match i with
        | 0 => exact trivial
        | 1 => exact trivial
        | 2 => exact trivial
        | 3 => exact trivial
        | 4 => exact trivial
        | 5 => exact trivial
        | 6 => exact HJ.out
        | 7 => exact trivial
        | 8 => exact trivial
        | 9 => exact trivial
        | 10 => exact trivial
        | 11 => exact HJ.out
        | 12 => exact trivial
        | 13 => exact ⟨HS.out, HJ.out, HV.out⟩
        | 14 => exact HJ.out
        | 15 => exact trivial
        | _ + 16 => trivial
      case hstepsF =>
        refine ⟨?_, ?_, ?_, ?_, ?_, ?_, ?_, ?_, ?_, ?_, ?_, ?_, ?_, ?_, ?_, ?_, trivial⟩
        · intro ac wc h K hK
          have b0 : ac.tmps.getD 0 undef = .pointer (some ⟨J, 0, none⟩) := (h.base 0 (by decide)).trans rfl
          go_simp
          exact hK (.pointer (some ⟨J, 0, none⟩)) wc (Chg.refl _ wc) rfl trivial
        · intro ac wc h K hK
          have b0 : ac.tmps.getD 0 undef = .pointer (some ⟨J, 0, none⟩) := (h.base 0 (by decide)).trans rfl
          go_simp
          exact hK (.pointer (some ⟨J, 0, none⟩)) wc (Chg.refl _ wc) rfl trivial
        · intro ac wc h K hK
          have b1 : ac.tmps.getD 1 undef = .slice so snap.length scap := (h.base 1 (by decide)).trans rfl
          go_simp
          exact hK (.slice so snap.length scap) wc (Chg.refl _ wc) rfl trivial
        · intro ac wc h K hK
          have b0 : ac.tmps.getD 0 undef = .pointer (some ⟨J, 0, none⟩) := (h.base 0 (by decide)).trans rfl
          go_simp
          exact hK (.pointer (some ⟨J, 0, none⟩)) wc (Chg.refl _ wc) rfl trivial
        · intro ac wc h K hK
          have d20 : ac.tmps.getD 20 undef = .pointer (some ⟨J, 0, none⟩) := h.dep ⟨3, .data⟩ (by simp) rfl 20 rfl
          go_simp
          exact hK (.pointer (some ⟨J, 0, none⟩)) wc (Chg.refl _ wc) rfl trivial
        · intro ac wc h K hK
          have d21 : ac.tmps.getD 21 undef = .pointer (some ⟨J, 0, none⟩) := h.dep ⟨4, .data⟩ (by simp) rfl 21 rfl
          go_simp
          exact hK (.pointer (some ⟨J, 1, none⟩)) wc (Chg.refl _ wc) rfl trivial
        · intro ac wc h K hK
          have d22 : ac.tmps.getD 22 undef = .pointer (some ⟨J, 1, none⟩) := h.dep ⟨5, .data⟩ (by simp) rfl 22 rfl
          have hpre : JournalAt wc top J S jn := h.pre
          obtain ⟨v9, -, c0, hq, c2, c3, c4, c5, -⟩ := hpre.facts
          go_simp
          exact hK (.int .i64 (jn.area : Int)) wc (Chg.refl _ wc) rfl trivial
        · intro ac wc h K hK
          have d23 : ac.tmps.getD 23 undef = .int .i64 (jn.area : Int) := h.dep ⟨6, .data⟩ (by simp) rfl 23 rfl
          have hA1 := HA.out
          have hw : IntKind.i64.wrap (1 - (jn.area : Int)) = ((1 - jn.area : Nat) : Int) := by simp [IntKind.wrap, IntKind.bits, IntKind.signed]; omega
          have HW := Lib.hid hw
          clear hw
          go_simp
          exact hK _ wc (Chg.refl _ wc) (congrArg (Value.int .i64) HW.out) trivial
        · intro ac wc h K hK
          have b0 : ac.tmps.getD 0 undef = .pointer (some ⟨J, 0, none⟩) := (h.base 0 (by decide)).trans rfl
          go_simp
          exact hK (.pointer (some ⟨J, 0, none⟩)) wc (Chg.refl _ wc) rfl trivial
        · intro ac wc h K hK
          have d25 : ac.tmps.getD 25 undef = .pointer (some ⟨J, 0, none⟩) := h.dep ⟨8, .data⟩ (by simp) rfl 25 rfl
          go_simp
          exact hK (.pointer (some ⟨J, 0, none⟩)) wc (Chg.refl _ wc) rfl trivial
        · intro ac wc h K hK
          have d26 : ac.tmps.getD 26 undef = .pointer (some ⟨J, 0, none⟩) := h.dep ⟨9, .data⟩ (by simp) rfl 26 rfl
          go_simp
          exact hK (.pointer (some ⟨J, 2, none⟩)) wc (Chg.refl _ wc) rfl trivial
        · intro ac wc h K hK
          have d27 : ac.tmps.getD 27 undef = .pointer (some ⟨J, 2, none⟩) := h.dep ⟨10, .data⟩ (by simp) rfl 27 rfl
          have hpre : JournalAt wc top J S jn := h.pre
          obtain ⟨v9, -, c0, c1, hq, c3, c4, c5, -⟩ := hpre.facts
          go_simp
          exact hK (.int .i64 (jn.gen : Int)) wc (Chg.refl _ wc) rfl trivial
        · intro ac wc h K hK
          have d28 : ac.tmps.getD 28 undef = .int .i64 (jn.gen : Int) := h.dep ⟨11, .data⟩ (by simp) rfl 28 rfl
          have hG1 := HG.out
          have hw : IntKind.i64.wrap ((jn.gen : Int) + 1) = ((jn.gen + 1 : Nat) : Int) := by simp [IntKind.wrap, IntKind.bits, IntKind.signed]; omega
          have HW := Lib.hid hw
          clear hw
          go_simp
          exact hK _ wc (Chg.refl _ wc) (congrArg (Value.int .i64) HW.out) trivial
        · intro ac wc h K hK
          have d18 : ac.tmps.getD 18 undef = .pointer (some ⟨J, 0, none⟩) := h.dep ⟨1, .data⟩ (by simp) rfl 18 rfl
          have d19 : ac.tmps.getD 19 undef = .slice so snap.length scap := h.dep ⟨2, .data⟩ (by simp) rfl 19 rfl
          have d24 : ac.tmps.getD 24 undef = .int .i64 ((1 - jn.area : Nat) : Int) := h.dep ⟨7, .data⟩ (by simp) rfl 24 rfl
          have d29 : ac.tmps.getD 29 undef = .int .i64 ((jn.gen + 1 : Nat) : Int) := h.dep ⟨12, .data⟩ (by simp) rfl 29 rfl
          have hp : StoreAt wc S st ∧ JournalAt wc top J S jn ∧ IsB wc 5 (.slice so snap.length scap) snap := h.pre
          go_simp
          refine (begins_calls top J S (1 - jn.area) (jn.gen + 1) jn st _ snap wc hp.1 HD.out hp.2.1 hp.2.2 HL.out HN.out (by omega) (by have := HG.out; omega)).mono ?_
          rintro e w1 ⟨rfl, hs1, hj1, hc1⟩
          rw [HR.out] at hs1 hj1 hc1 ⊢
          rw [begRows_no H1.out] at hc1
          exact hK _ w1 hc1 rfl hs1
        · intro ac wc h K hK
          have d17 : ac.tmps.getD 17 undef = .pointer (some ⟨J, 0, none⟩) := h.dep ⟨0, .data⟩ (by simp) rfl 17 rfl
          have d30 : ac.tmps.getD 30 undef = .int .i64 r.2 := h.dep ⟨13, .data⟩ (by simp) rfl 30 rfl
          have hp : JournalAt wc top J S jn := h.pre
          go_simp
          refine (ends_calls r.2 top J S jn wc hp).mono ?_
          rintro e w1 ⟨rfl, hj1, hc1⟩
          rw [if_neg H1.out] at hj1
          exact hK _ w1 hc1 rfl ⟨_, hj1⟩
        · intro ac wc h K hK
          have d31 : ac.tmps.getD 31 undef = .int .i64 r.2 := h.dep ⟨14, .data⟩ (by simp) rfl 31 rfl
          go_simp
          exact hK (.int .i64 r.2) wc (Chg.refl _ wc) rfl trivial
      intro acF wcF hc hall hpsi hput
      have hact := hput [(17, .pointer (some ⟨J, 0, none⟩)), (18, .pointer (some ⟨J, 0, none⟩)), (19, .slice so snap.length scap), (20, .pointer (some ⟨J, 0, none⟩)), (21, .pointer (some ⟨J, 0, none⟩)), (22, .pointer (some ⟨J, 1, none⟩)), (23, .int .i64 (jn.area : Int)), (24, .int .i64 ((1 - jn.area : Nat) : Int)), (25, .pointer (some ⟨J, 0, none⟩)), (26, .pointer (some ⟨J, 0, none⟩)), (27, .pointer (some ⟨J, 2, none⟩)), (28, .int .i64 (jn.gen : Int)), (29, .int .i64 ((jn.gen + 1 : Nat) : Int)), (30, .int .i64 r.2), (31, .int .i64 r.2), (4, .int .i64 r.2)] rfl ⟨hall 0 17 rfl, hall 1 18 rfl, hall 2 19 rfl, hall 3 20 rfl, hall 4 21 rfl, hall 5 22 rfl, hall 6 23 rfl, hall 7 24 rfl, hall 8 25 rfl, hall 9 26 rfl, hall 10 27 rfl, hall 11 28 rfl, hall 12 29 rfl, hall 13 30 rfl, hall 14 31 rfl, hall 15 4 rfl, trivial⟩
      clear hput hall
      subst hact
      have hs9 : StoreAt wcF S r.1 := hpsi 13 (by decide)
      have hj9 : ∃ t, JournalAt wcF t J S { jn with lost := true } := hpsi 14 (by decide)
      have hc9 : Chg [S, J] w wcF := hc
      obtain ⟨t9, hj9⟩ := hj9
      have HS9 := Lib.hid hs9
      have HJ9 := Lib.hid hj9
      have HC9 := Lib.hid hc9
      clear hpsi hc p hs9 hj9 hc9
      simp only [Act.puts, Act.put]
      go_simp
      go_wp2_with fail
      go_ret
      exact ⟨rfl, HS9.out, ⟨_, HJ9.out⟩, HRows.out _ HC9.out⟩
  · have hrw : jn.rewrite st snap = (jn, st, sizeAns snap.length 511) := by
      unfold Jn.rewrite
      rw [if_neg h0]
    rw [hrw]
    obtain ⟨q, hq⟩ : ∃ q, sizeAns snap.length 511 = q := ⟨_, rfl⟩
    rw [hq] at h0 HSz ⊢
    have h0i : (q != 0) = true := by simp [h0]
    clear h0 hrw hq
    go_enter Try.func45, Try.ntmps45
    go_wp2_with (first | (go_at_call 75; refine HRd.out.mono ?_; rintro e w' ⟨rfl, rfl⟩) | (go_at_call 69; refine HSz.out.mono ?_; rintro e w' ⟨rfl, rfl⟩))
    go_ret
    exact ⟨rfl, HS.out, ⟨_, HJ.out⟩, JChg.refl _ _⟩
end Go.Proofs.Ytgmgmjljjbcgjaa

/- The journal package: Add. -/
import Derived.Test.YtgmgmjljjbcgjaaJRewrite
namespace Go.Proofs.Ytgmgmjljjbcgjaa
open Go Go.RowKit NSX

theorem step_push {ops : Array Oper} {o : Oper} {a : Act} {w : World} {K : Act → World → Prop} {Q : Exit → Act → World → Prop} {E : Prop} (hgd : o.guard = none) (s e : Operand)
    (ho : o.op = .call { callee := .builtin .append, args := #[s, e], argTypes := #[81, 81] })
    (base top : Nat) (v : Value) (l : List (List UInt8)) (hs : a.eval s = v) (hv : ListB w base top v l) (body : Value) (bs : List UInt8) (hb : OwnB w base body bs) (x : Nat) (hx : w.cell? ⟨x, 0, none⟩ = some body)
    (he : a.eval e = .slice (some ⟨x, 0, none⟩) 1 1) (hl : l.length ≤ 1000000) (hbase : base ≤ w.heap.size)
    (h : ∀ v' w', ListB w' base w'.heap.size v' (l ++ [bs]) → Chg v.ownBlock.toList w w' → K (a.put o.dst v') w') :
    if Region.wanted o (yielded ops a.tmps) = true then Oper.wp Try.prog o a w K Q else E := by
  have hw : Region.wanted o (yielded ops a.tmps) = true := by simp [Region.wanted, hgd]
  rw [if_pos hw]
  obtain ⟨v', w', hr, h1, h2⟩ := run_push w o.type base top v l hv body bs hb x hx hl hbase
  unfold Oper.wp
  simp [execOp, ho, resolve, invoke, builtin, hs, he, hr, Result.andThen]
  exact h v' w' h1 h2

/-- What Add does: the journal, the store, the answer. -/
def Jn.add (jn : Jn) (st : St) (body : List UInt8) : Jn × St × Int :=
  if sizeAns body.length ((511 - jn.used : Nat) : Int) = 0 then
    (if (st.lay (jn.area * 512 + 1 + jn.used) (cutL body)).2 = 0 then { jn with bodies := jn.bodies ++ [body], used := jn.used + nBlocks body.length } else { jn with lost := true }, (st.lay (jn.area * 512 + 1 + jn.used) (cutL body)).1, (st.lay (jn.area * 512 + 1 + jn.used) (cutL body)).2)
  else (jn, st, sizeAns body.length ((511 - jn.used : Nat) : Int))

set_option maxRecDepth 100000 in
set_option maxHeartbeats 2000000 in
theorem Add_calls (top J S : Nat) (jn : Jn) (st : St) (v : Value) (body : List UInt8) (w : World) (hs : StoreAt w S st) (hd : st.down = false) (hj : JournalAt w top J S jn) (hlost : jn.lost = false) (hv : IsB w 5 v body) (ha : jn.area ≤ 1) (hu : jn.used ≤ 511) (hbl : jn.bodies.length ≤ 1000) :
    Calls Try.prog 44 #[.pointer (some ⟨J, 0, none⟩), v] w fun e w' => e = .returned (.int .i64 (jn.add st body).2.2) ∧ StoreAt w' S (jn.add st body).2.1 ∧ (∃ t, JournalAt w' t J S (jn.add st body).1) ∧ JChg S w w' := by
  obtain ⟨so, scap, rfl, -, hsm, -, -⟩ := hv.cells
  unfold maxLen at hsm
  have hrd := ready_calls top J S jn w hj
  rw [hlost] at hrd
  have hrows : ∀ w', Chg [S, J] w w' → JChg S w w' := fun w' h => JChg.of h (fun x hx => by
    simp at hx
    rcases hx with rfl | rfl
    · exact .inl ⟨Nat.le_refl _, hs.row⟩
    · exact .inl ⟨by have := hj.lt; omega, hj.row⟩)
  have HRd := Lib.hid hrd
  have HRows := Lib.hid hrows
  have HLf := Lib.hid (Left_calls top J S jn w hj hu)
  have HSz := Lib.hid (size_calls 5 _ body ((511 - jn.used : Nat) : Int) w hv)
  have HS := Lib.hid hs
  have HD := Lib.hid hd
  have HJ := Lib.hid hj
  have HV := Lib.hid hv
  have HA := Lib.hid ha
  have HU := Lib.hid hu
  have HBl := Lib.hid hbl
  have HSJ := Lib.hid hj.lt.1
  clear hs hd hj hv ha hu hbl hrd hrows hlost
  obtain ⟨lf, hlf⟩ : ∃ lf : Int, ((511 - jn.used : Nat) : Int) = lf := ⟨_, rfl⟩
  by_cases h0 : sizeAns body.length ((511 - jn.used : Nat) : Int) = 0
  · obtain ⟨hl, hn⟩ := sizeAns_ok h0
    have HL := Lib.hid hl
    have HN := Lib.hid (show jn.used + nBlocks body.length ≤ 511 by have := HU.out; omega)
    obtain ⟨r, hr⟩ : ∃ r, st.lay (jn.area * 512 + 1 + jn.used) (cutL body) = r := ⟨_, rfl⟩
    have HR := Lib.hid hr
    have hrw : jn.add st body = (if r.2 = 0 then { jn with bodies := jn.bodies ++ [body], used := jn.used + nBlocks body.length } else { jn with lost := true }, r.1, r.2) := by
      unfold Jn.add
      rw [if_pos h0, hr]
    rw [h0] at HSz
    rw [hlf] at HLf HSz
    rw [hrw]
    by_cases h1 : r.2 = 0
    · have H1 := Lib.hid h1
      rw [if_pos h1, h1]
      clear h0 h1 hl hn hr hrw hlf
      go_enter Try.func44, Try.ntmps44
      go_wp2_with (first | (go_at_call 75; refine HRd.out.mono ?_; rintro e w' ⟨rfl, rfl⟩) | (go_at_call 50; refine HLf.out.mono ?_; rintro e w' ⟨rfl, rfl⟩) | (go_at_call 69; refine HSz.out.mono ?_; rintro e w' ⟨rfl, rfl⟩))
      let p : Plan3 := {
        anc := [[], [], [1], [1, 2], [1, 2, 3], [], [5], [5, 6], [5, 6, 7], [], [9], [9, 10], [9, 10, 11], [9, 10, 11, 12], [5, 6, 7, 8, 9, 10, 11, 12, 13], [], [1, 2, 3, 4, 5, 6, 7, 8, 9, 10, 11, 12, 13, 14, 15], [0, 1, 2, 3, 4, 5, 6, 7, 8, 9, 10, 11, 12, 13, 14, 15, 16], [0, 1, 2, 3, 4, 5, 6, 7, 8, 9, 10, 11, 12, 13, 14, 15, 16, 17]]
        rows := fun j => if j = 16 then [S] else []
        all := [S]
        Pre := fun i w => match i with
          | 4 => JournalAt w top J S jn
          | 8 => JournalAt w top J S jn
          | 12 => JournalAt w top J S jn
          | 16 => StoreAt w S st ∧ IsB w 5 (.slice so body.length scap) body
          | _ => True
        Φ := fun i v w => match i with
          | 0 => v = .pointer (some ⟨J, 0, none⟩)
          | 1 => v = .pointer (some ⟨J, 0, none⟩)
          | 2 => v = .pointer (some ⟨J, 0, none⟩)
          | 3 => v = .pointer (some ⟨J, 0, none⟩)
          | 4 => v = .pointer (some ⟨S, 0, none⟩)
          | 5 => v = .pointer (some ⟨J, 0, none⟩)
          | 6 => v = .pointer (some ⟨J, 0, none⟩)
          | 7 => v = .pointer (some ⟨J, 1, none⟩)
          | 8 => v = .int .i64 (jn.area : Int)
          | 9 => v = .pointer (some ⟨J, 0, none⟩)
          | 10 => v = .pointer (some ⟨J, 0, none⟩)
          | 11 => v = .pointer (some ⟨J, 4, none⟩)
          | 12 => v = .int .i64 (jn.used : Int)
          | 13 => v = .int .i64 ((1 + jn.used : Nat) : Int)
          | 14 => v = .int .i64 ((jn.area * 512 + 1 + jn.used : Nat) : Int)
          | 15 => v = .slice so body.length scap
          | 16 => v = .int .i64 r.2
          | 17 => v = .int .i64 r.2
          | 18 => v = .int .i64 r.2
          | _ => True
        Ψ := fun i w => match i with
          | 16 => StoreAt w S r.1
          | _ => True
        sub := by
          intro j x hx
          split at hx
          · simp at hx; simp [hx]
          · simp at hx
        pre := by
          intro i j w w1 hij hn h hc
          match i, h, hij, hn with
          | 0, h, hij, hn => exact trivial
          | 1, h, hij, hn => exact trivial
          | 2, h, hij, hn => exact trivial
          | 3, h, hij, hn => exact trivial
          | 4, h, hij, hn => exact (if h16 : j = 16 then (by subst h16; exact absurd (by decide) hn) else (by rw [if_neg h16] at hc; exact h.then hc))
          | 5, h, hij, hn => exact trivial
          | 6, h, hij, hn => exact trivial
          | 7, h, hij, hn => exact trivial
          | 8, h, hij, hn => exact (if h16 : j = 16 then (by subst h16; exact absurd (by decide) hn) else (by rw [if_neg h16] at hc; exact h.then hc))
          | 9, h, hij, hn => exact trivial
          | 10, h, hij, hn => exact trivial
          | 11, h, hij, hn => exact trivial
          | 12, h, hij, hn => exact (if h16 : j = 16 then (by subst h16; exact absurd (by decide) hn) else (by rw [if_neg h16] at hc; exact h.then hc))
          | 13, h, hij, hn => exact trivial
          | 14, h, hij, hn => exact trivial
          | 15, h, hij, hn => exact trivial
          | 16, h, hij, hn => exact (by rw [if_neg (fun e => hij e.symm)] at hc; exact ⟨h.1.chg hc (by simp), h.2.then hc⟩)
          | 17, h, hij, hn => exact trivial
          | 18, h, hij, hn => exact trivial
          | _ + 19, _, _, _ => trivial
        phi := by
          intro i j v w w1 hij hn h hc
          match i, h, hij, hn with
          | 0, h, hij, hn => exact h
          | 1, h, hij, hn => exact h
          | 2, h, hij, hn => exact h
          | 3, h, hij, hn => exact h
          | 4, h, hij, hn => exact h
          | 5, h, hij, hn => exact h
          | 6, h, hij, hn => exact h
          | 7, h, hij, hn => exact h
          | 8, h, hij, hn => exact h
          | 9, h, hij, hn => exact h
          | 10, h, hij, hn => exact h
          | 11, h, hij, hn => exact h
          | 12, h, hij, hn => exact h
          | 13, h, hij, hn => exact h
          | 14, h, hij, hn => exact h
          | 15, h, hij, hn => exact h
          | 16, h, hij, hn => exact h
          | 17, h, hij, hn => exact h
          | 18, h, hij, hn => exact h
          | _ + 19, _, _, _ => trivial
        psi := by
          intro i j w w1 hij hn h hc
          match i, h, hij, hn with
          | 0, h, hij, hn => exact trivial
          | 1, h, hij, hn => exact trivial
          | 2, h, hij, hn => exact trivial
          | 3, h, hij, hn => exact trivial
          | 4, h, hij, hn => exact trivial
          | 5, h, hij, hn => exact trivial
          | 6, h, hij, hn => exact trivial
          | 7, h, hij, hn => exact trivial
          | 8, h, hij, hn => exact trivial
          | 9, h, hij, hn => exact trivial
          | 10, h, hij, hn => exact trivial
          | 11, h, hij, hn => exact trivial
          | 12, h, hij, hn => exact trivial
          | 13, h, hij, hn => exact trivial
          | 14, h, hij, hn => exact trivial
          | 15, h, hij, hn => exact trivial
          | 16, h, hij, hn => exact (by rw [if_neg (fun e => hij e.symm)] at hc; exact h.chg hc (by simp))
          | 17, h, hij, hn => exact trivial
          | 18, h, hij, hn => exact trivial
          | _ + 19, _, _, _ => trivial }
      refine wp_region_each6 (by kernel_rfl) p ?hpreG (by kernel_rfl) (by kernel_rfl) (by kernel_rfl) (by kernel_rfl) ?hendG ?hstepsG
      case hpreG =>
        intro i
        match i with
        | 0 => exact trivial
        | 1 => exact trivial
        | 2 => exact trivial
        | 3 => exact trivial
        | 4 => exact HJ.out
        | 5 => exact trivial
        | 6 => exact trivial
        | 7 => exact trivial
        | 8 => exact HJ.out
        | 9 => exact trivial
        | 10 => exact trivial
        | 11 => exact trivial
        | 12 => exact HJ.out
        | 13 => exact trivial
        | 14 => exact trivial
        | 15 => exact trivial
        | 16 => exact ⟨HS.out, HV.out⟩
        | 17 => exact trivial
        | 18 => exact trivial
        | _ + 19 => trivial
      case hstepsG =>
        refine ⟨?_, ?_, ?_, ?_, ?_, ?_, ?_, ?_, ?_, ?_, ?_, ?_, ?_, ?_, ?_, ?_, ?_, ?_, ?_, trivial⟩
        · intro ac wc h K hK
          have b0 : ac.tmps.getD 0 undef = .pointer (some ⟨J, 0, none⟩) := (h.base 0 (by decide)).trans rfl
          go_simp
          exact hK (.pointer (some ⟨J, 0, none⟩)) wc (Chg.refl _ wc) rfl trivial
        · intro ac wc h K hK
          have b0 : ac.tmps.getD 0 undef = .pointer (some ⟨J, 0, none⟩) := (h.base 0 (by decide)).trans rfl
          go_simp
          exact hK (.pointer (some ⟨J, 0, none⟩)) wc (Chg.refl _ wc) rfl trivial
        · intro ac wc h K hK
          have d21 : ac.tmps.getD 21 undef = .pointer (some ⟨J, 0, none⟩) := h.dep ⟨1, .data⟩ (by simp) rfl 21 rfl
          go_simp
          exact hK (.pointer (some ⟨J, 0, none⟩)) wc (Chg.refl _ wc) rfl trivial
        · intro ac wc h K hK
          have d22 : ac.tmps.getD 22 undef = .pointer (some ⟨J, 0, none⟩) := h.dep ⟨2, .data⟩ (by simp) rfl 22 rfl
          go_simp
          exact hK (.pointer (some ⟨J, 0, none⟩)) wc (Chg.refl _ wc) rfl trivial
        · intro ac wc h K hK
          have d23 : ac.tmps.getD 23 undef = .pointer (some ⟨J, 0, none⟩) := h.dep ⟨3, .data⟩ (by simp) rfl 23 rfl
          have hpre : JournalAt wc top J S jn := h.pre
          obtain ⟨v9, -, hq, c1, c2, c3, c4, c5, -⟩ := hpre.facts
          go_simp
          exact hK (.pointer (some ⟨S, 0, none⟩)) wc (Chg.refl _ wc) rfl trivial
        · intro ac wc h K hK
          have b0 : ac.tmps.getD 0 undef = .pointer (some ⟨J, 0, none⟩) := (h.base 0 (by decide)).trans rfl
          go_simp
          exact hK (.pointer (some ⟨J, 0, none⟩)) wc (Chg.refl _ wc) rfl trivial
        · intro ac wc h K hK
          have d25 : ac.tmps.getD 25 undef = .pointer (some ⟨J, 0, none⟩) := h.dep ⟨5, .data⟩ (by simp) rfl 25 rfl
          go_simp
          exact hK (.pointer (some ⟨J, 0, none⟩)) wc (Chg.refl _ wc) rfl trivial
        · intro ac wc h K hK
          have d26 : ac.tmps.getD 26 undef = .pointer (some ⟨J, 0, none⟩) := h.dep ⟨6, .data⟩ (by simp) rfl 26 rfl
          go_simp
          exact hK (.pointer (some ⟨J, 1, none⟩)) wc (Chg.refl _ wc) rfl trivial
        · intro ac wc h K hK
          have d27 : ac.tmps.getD 27 undef = .pointer (some ⟨J, 1, none⟩) := h.dep ⟨7, .data⟩ (by simp) rfl 27 rfl
          have hpre : JournalAt wc top J S jn := h.pre
          obtain ⟨v9, -, c0, hq, c2, c3, c4, c5, -⟩ := hpre.facts
          go_simp
          exact hK (.int .i64 (jn.area : Int)) wc (Chg.refl _ wc) rfl trivial
        · intro ac wc h K hK
          have b0 : ac.tmps.getD 0 undef = .pointer (some ⟨J, 0, none⟩) := (h.base 0 (by decide)).trans rfl
          go_simp
          exact hK (.pointer (some ⟨J, 0, none⟩)) wc (Chg.refl _ wc) rfl trivial
        · intro ac wc h K hK
          have d29 : ac.tmps.getD 29 undef = .pointer (some ⟨J, 0, none⟩) := h.dep ⟨9, .data⟩ (by simp) rfl 29 rfl
          go_simp
          exact hK (.pointer (some ⟨J, 0, none⟩)) wc (Chg.refl _ wc) rfl trivial
        · intro ac wc h K hK
          have d30 : ac.tmps.getD 30 undef = .pointer (some ⟨J, 0, none⟩) := h.dep ⟨10, .data⟩ (by simp) rfl 30 rfl
          go_simp
          exact hK (.pointer (some ⟨J, 4, none⟩)) wc (Chg.refl _ wc) rfl trivial
        · intro ac wc h K hK
          have d31 : ac.tmps.getD 31 undef = .pointer (some ⟨J, 4, none⟩) := h.dep ⟨11, .data⟩ (by simp) rfl 31 rfl
          have hpre : JournalAt wc top J S jn := h.pre
          obtain ⟨v9, -, c0, c1, c2, c3, hq, c5, -⟩ := hpre.facts
          go_simp
          exact hK (.int .i64 (jn.used : Int)) wc (Chg.refl _ wc) rfl trivial
        · intro ac wc h K hK
          have d32 : ac.tmps.getD 32 undef = .int .i64 (jn.used : Int) := h.dep ⟨12, .data⟩ (by simp) rfl 32 rfl
          have hU1 := HU.out
          have hw : IntKind.i64.wrap (1 + (jn.used : Int)) = ((1 + jn.used : Nat) : Int) := by simp [IntKind.wrap, IntKind.bits, IntKind.signed]; omega
          have HW := Lib.hid hw
          clear hw
          go_simp
          exact hK _ wc (Chg.refl _ wc) (congrArg (Value.int .i64) HW.out) trivial
        · intro ac wc h K hK
          have d28 : ac.tmps.getD 28 undef = .int .i64 (jn.area : Int) := h.dep ⟨8, .data⟩ (by simp) rfl 28 rfl
          have d33 : ac.tmps.getD 33 undef = .int .i64 ((1 + jn.used : Nat) : Int) := h.dep ⟨13, .data⟩ (by simp) rfl 33 rfl
          go_simp
          refine (place_calls jn.area (1 + jn.used) wc HA.out (by have := HU.out; omega)).mono ?_
          rintro e w1 ⟨rfl, rfl⟩
          exact hK _ wc (Chg.refl _ wc) (congrArg (fun x : Nat => Value.int .i64 x) (Nat.add_assoc _ _ _).symm) trivial
        · intro ac wc h K hK
          have b1 : ac.tmps.getD 1 undef = .slice so body.length scap := (h.base 1 (by decide)).trans rfl
          go_simp
          exact hK (.slice so body.length scap) wc (Chg.refl _ wc) rfl trivial
        · intro ac wc h K hK
          have d24 : ac.tmps.getD 24 undef = .pointer (some ⟨S, 0, none⟩) := h.dep ⟨4, .data⟩ (by simp) rfl 24 rfl
          have d34 : ac.tmps.getD 34 undef = .int .i64 ((jn.area * 512 + 1 + jn.used : Nat) : Int) := h.dep ⟨14, .data⟩ (by simp) rfl 34 rfl
          have d35 : ac.tmps.getD 35 undef = .slice so body.length scap := h.dep ⟨15, .data⟩ (by simp) rfl 35 rfl
          have hp : StoreAt wc S st ∧ IsB wc 5 (.slice so body.length scap) body := h.pre
          go_simp
          refine (lay_calls S (jn.area * 512 + 1 + jn.used) st _ body wc hp.1 HD.out hp.2 HL.out (by have := HA.out; have := HN.out; have := HU.out; omega)).mono ?_
          rintro e w1 ⟨rfl, hs1, hc1⟩
          rw [HR.out] at hs1 ⊢
          exact hK _ w1 hc1 rfl hs1
        · intro ac wc h K hK
          have d20 : ac.tmps.getD 20 undef = .pointer (some ⟨J, 0, none⟩) := h.dep ⟨0, .data⟩ (by simp) rfl 20 rfl
          have d36 : ac.tmps.getD 36 undef = .int .i64 r.2 := h.dep ⟨16, .data⟩ (by simp) rfl 36 rfl
          rw [H1.out] at d36
          go_simp
          refine (ends_ok J wc).mono ?_
          rintro e w1 ⟨rfl, rfl⟩
          exact hK _ wc (Chg.refl _ wc) (congrArg (Value.int .i64) H1.out.symm) trivial
        · intro ac wc h K hK
          have d37 : ac.tmps.getD 37 undef = .int .i64 r.2 := h.dep ⟨17, .data⟩ (by simp) rfl 37 rfl
          go_simp
          exact hK (.int .i64 r.2) wc (Chg.refl _ wc) rfl trivial
      intro acG wcG hc hall hpsi hput
      have hact := hput [(20, .pointer (some ⟨J, 0, none⟩)), (21, .pointer (some ⟨J, 0, none⟩)), (22, .pointer (some ⟨J, 0, none⟩)), (23, .pointer (some ⟨J, 0, none⟩)), (24, .pointer (some ⟨S, 0, none⟩)), (25, .pointer (some ⟨J, 0, none⟩)), (26, .pointer (some ⟨J, 0, none⟩)), (27, .pointer (some ⟨J, 1, none⟩)), (28, .int .i64 (jn.area : Int)), (29, .pointer (some ⟨J, 0, none⟩)), (30, .pointer (some ⟨J, 0, none⟩)), (31, .pointer (some ⟨J, 4, none⟩)), (32, .int .i64 (jn.used : Int)), (33, .int .i64 ((1 + jn.used : Nat) : Int)), (34, .int .i64 ((jn.area * 512 + 1 + jn.used : Nat) : Int)), (35, .slice so body.length scap), (36, .int .i64 r.2), (37, .int .i64 r.2), (7, .int .i64 r.2)] rfl ⟨hall 0 20 rfl, hall 1 21 rfl, hall 2 22 rfl, hall 3 23 rfl, hall 4 24 rfl, hall 5 25 rfl, hall 6 26 rfl, hall 7 27 rfl, hall 8 28 rfl, hall 9 29 rfl, hall 10 30 rfl, hall 11 31 rfl, hall 12 32 rfl, hall 13 33 rfl, hall 14 34 rfl, hall 15 35 rfl, hall 16 36 rfl, hall 17 37 rfl, hall 18 7 rfl, trivial⟩
      clear hput hall
      subst hact
      have hs9 : StoreAt wcG S r.1 := hpsi 16 (by decide)
      have hc9 : Chg [S] w wcG := hc
      have HC9 := Lib.hid hc9
      clear hc9
      have HS9 := Lib.hid hs9
      clear hpsi hc p hs9
      simp only [Act.puts, Act.put]
      go_simp
      rw [H1.out]
      have hjG := HJ.out.stored HC9.out
      have HVG := Lib.hid (HV.out.stored HS.out HC9.out)
      obtain ⟨-, bv, hhG, hLG⟩ := hjG
      obtain ⟨bo, bcap, rfl⟩ := hLG.slice
      obtain ⟨B8, hB8⟩ : ∃ l, (Value.slice bo jn.bodies.length bcap).ownBlock.toList = l := ⟨_, rfl⟩
      obtain ⟨M, hM⟩ : ∃ M, wcG.heap.size = M := ⟨_, rfl⟩
      have HB8 := Lib.hid (show ∀ x ∈ B8, J + 1 ≤ x ∧ x < M from fun x hx => by
        rw [← hB8] at hx
        rw [← hM]
        exact hLG.lt x (by simpa using hx))
      have HB8r := Lib.hid (show ∀ x ∈ B8, JRow wcG x from fun x hx => by
        rw [← hB8] at hx
        exact (hLG.row x hx).2)
      have HB8e := Lib.hid hB8
      have HC3 := Lib.hid (show wcG.cell? ⟨J, 3, none⟩ = some (.slice bo jn.bodies.length bcap) from cell_of_heap hhG rfl)
      have HHG := Lib.hid hhG
      have HLG := Lib.hid hLG
      have HSJ2 := Lib.hid (show J < M from by rw [← hM]; exact heap_lt hhG)
      have HM := Lib.hid hM
      clear hhG hLG hB8 hM
      go_wp2_with fail
      let p : Plan3 := {
        anc := [[], [], [1], [1, 2], [1, 2, 3], [], [5], [5, 6], [1, 2, 3, 4, 5, 6, 7], [0], [0, 9], [0, 1, 2, 3, 4, 5, 6, 7, 8, 9, 10]]
        rows := fun j => if j = 8 then B8 else if j = 11 then [J] else []
        all := (J :: B8)
        Pre := fun i w => match i with
          | 4 => w.cell? ⟨J, 3, none⟩ = some (.slice bo jn.bodies.length bcap)
          | 6 => IsB w 5 (.slice so body.length scap) body
          | 8 => ListB w (J + 1) top (.slice bo jn.bodies.length bcap) jn.bodies
          | 11 => w.heap[J]? = some (.cells (jn.cells S (.slice bo jn.bodies.length bcap)).toArray 98 (0, 0))
          | _ => True
        Φ := fun i v w => match i with
          | 0 => v = .pointer (some ⟨J, 0, none⟩)
          | 1 => v = .pointer (some ⟨J, 0, none⟩)
          | 2 => v = .pointer (some ⟨J, 0, none⟩)
          | 3 => v = .pointer (some ⟨J, 3, none⟩)
          | 4 => v = .slice bo jn.bodies.length bcap
          | 5 => v = .slice so body.length scap
          | 6 => OwnB w M v body
          | 7 => ∃ x cv, v = .slice (some ⟨x, 0, none⟩) 1 1 ∧ M ≤ x ∧ w.cell? ⟨x, 0, none⟩ = some cv ∧ OwnB w M cv body
          | 8 => ∃ t, ListB w (J + 1) t v (jn.bodies ++ [body])
          | 9 => v = .pointer (some ⟨J, 0, none⟩)
          | 10 => v = .pointer (some ⟨J, 3, none⟩)
          | _ => True
        Ψ := fun i w => match i with
          | 11 => ∃ t, JournalAt w t J S { jn with bodies := jn.bodies ++ [body] }
          | _ => True
        sub := by
          intro j x hx
          split at hx
          · simp [hx]
          · split at hx
            · simp at hx; simp [hx]
            · simp at hx
        pre := by
          intro i j w w1 hij hn h hc
          match i, h, hij, hn with
          | 0, h, hij, hn => exact trivial
          | 1, h, hij, hn => exact trivial
          | 2, h, hij, hn => exact trivial
          | 3, h, hij, hn => exact trivial
          | 4, h, hij, hn => exact (if h8 : j = 8 then (by subst h8; exact absurd (by decide) hn) else (if h11 : j = 11 then (by subst h11; exact absurd (by decide) hn) else (by rw [if_neg h8, if_neg h11] at hc; exact hc.cell h (by simp))))
          | 5, h, hij, hn => exact trivial
          | 6, h, hij, hn => exact (if h8 : j = 8 then (by subst h8; exact absurd (by decide) hn) else (if h11 : j = 11 then (by subst h11; exact absurd (by decide) hn) else (by rw [if_neg h8, if_neg h11] at hc; exact h.then hc)))
          | 7, h, hij, hn => exact trivial
          | 8, h, hij, hn => exact (if h11 : j = 11 then (by subst h11; exact absurd (by decide) hn) else (by rw [if_neg (fun e => hij e.symm), if_neg h11] at hc; exact h.chg hc (by simp)))
          | 9, h, hij, hn => exact trivial
          | 10, h, hij, hn => exact trivial
          | 11, h, hij, hn => exact (if h8 : j = 8 then (by subst h8; have hc : Chg (B8) w w1 := hc; exact hc.heap h (fun hm => by have := (HB8.out J hm).1; omega)) else (by rw [if_neg h8, if_neg (fun e => hij e.symm)] at hc; exact hc.heap h (by simp)))
          | _ + 12, _, _, _ => trivial
        phi := by
          intro i j v w w1 hij hn h hc
          match i, h, hij, hn with
          | 0, h, hij, hn => exact h
          | 1, h, hij, hn => exact h
          | 2, h, hij, hn => exact h
          | 3, h, hij, hn => exact h
          | 4, h, hij, hn => exact h
          | 5, h, hij, hn => exact h
          | 6, h, hij, hn => exact (if h8 : j = 8 then (by subst h8; have hc : Chg (B8) w w1 := hc; exact OwnB.chg h hc (fun k hk hm => by have := (h.lt k hk).1; have := (HB8.out k hm).2; omega)) else (if h11 : j = 11 then (by subst h11; have hc : Chg ([J]) w w1 := hc; exact OwnB.chg h hc (fun k hk hm => by have := (h.lt k hk).1; have := HSJ2.out; simp at hm; omega)) else (by rw [if_neg h8, if_neg h11] at hc; exact OwnB.then h hc)))
          | 7, h, hij, hn => exact (if h8 : j = 8 then (by subst h8; have hc : Chg (B8) w w1 := hc; exact (by obtain ⟨x, cv, a1, a2, a3, a4⟩ := h; exact ⟨x, cv, a1, a2, hc.cell a3 (fun hm => by have := (HB8.out x hm).2; omega), a4.chg hc (fun k hk hm => by have := (a4.lt k hk).1; have := (HB8.out k hm).2; omega)⟩)) else (if h11 : j = 11 then (by subst h11; have hc : Chg ([J]) w w1 := hc; exact (by obtain ⟨x, cv, a1, a2, a3, a4⟩ := h; exact ⟨x, cv, a1, a2, hc.cell a3 (fun hm => by have := HSJ2.out; simp at hm; omega), a4.chg hc (fun k hk hm => by have := (a4.lt k hk).1; have := HSJ2.out; simp at hm; omega)⟩)) else (by rw [if_neg h8, if_neg h11] at hc; exact (by obtain ⟨x, cv, a1, a2, a3, a4⟩ := h; exact ⟨x, cv, a1, a2, hc.cell a3 (by simp), a4.then hc⟩))))
          | 8, h, hij, hn => exact (if h11 : j = 11 then (by subst h11; have hc : Chg ([J]) w w1 := hc; exact (h.elim fun t ht => ⟨t, ht.other hc (fun x hx => by simp at hx; subst hx; left; omega)⟩)) else (by rw [if_neg (fun e => hij e.symm), if_neg h11] at hc; exact (h.elim fun t ht => ⟨t, ht.chg hc (by simp)⟩)))
          | 9, h, hij, hn => exact h
          | 10, h, hij, hn => exact h
          | 11, h, hij, hn => exact trivial
          | _ + 12, _, _, _ => trivial
        psi := by
          intro i j w w1 hij hn h hc
          match i, h, hij, hn with
          | 0, h, hij, hn => exact trivial
          | 1, h, hij, hn => exact trivial
          | 2, h, hij, hn => exact trivial
          | 3, h, hij, hn => exact trivial
          | 4, h, hij, hn => exact trivial
          | 5, h, hij, hn => exact trivial
          | 6, h, hij, hn => exact trivial
          | 7, h, hij, hn => exact trivial
          | 8, h, hij, hn => exact trivial
          | 9, h, hij, hn => exact trivial
          | 10, h, hij, hn => exact trivial
          | 11, h, hij, hn => exact (if h8 : j = 8 then (by subst h8; exact absurd (by decide) hn) else (by rw [if_neg h8, if_neg (fun e => hij e.symm)] at hc; exact (h.elim fun t ht => ⟨t, ht.then hc⟩)))
          | _ + 12, _, _, _ => trivial }
      refine wp_region_each6 (by kernel_rfl) p ?hpreH (by kernel_rfl) (by kernel_rfl) (by kernel_rfl) (by kernel_rfl) ?hendH ?hstepsH
      case hpreH =>
        intro i
        match i with
        | 0 => exact trivial
        | 1 => exact trivial
        | 2 => exact trivial
        | 3 => exact trivial
        | 4 => exact HC3.out
        | 5 => exact trivial
        | 6 => exact HVG.out
        | 7 => exact trivial
        | 8 => exact HLG.out
        | 9 => exact trivial
        | 10 => exact trivial
        | 11 => exact HHG.out
        | _ + 12 => trivial
      case hstepsH =>
        refine ⟨?_, ?_, ?_, ?_, ?_, ?_, ?_, ?_, ?_, ?_, ?_, ?_, trivial⟩
        · intro ac wc h K hK
          have b0 : ac.tmps.getD 0 undef = .pointer (some ⟨J, 0, none⟩) := (h.base 0 (by decide)).trans rfl
          go_simp
          exact hK (.pointer (some ⟨J, 0, none⟩)) wc (Chg.refl _ wc) rfl trivial
        · intro ac wc h K hK
          have b0 : ac.tmps.getD 0 undef = .pointer (some ⟨J, 0, none⟩) := (h.base 0 (by decide)).trans rfl
          go_simp
          exact hK (.pointer (some ⟨J, 0, none⟩)) wc (Chg.refl _ wc) rfl trivial
        · intro ac wc h K hK
          have d42 : ac.tmps.getD 42 undef = .pointer (some ⟨J, 0, none⟩) := h.dep ⟨1, .data⟩ (by simp) rfl 42 rfl
          go_simp
          exact hK (.pointer (some ⟨J, 0, none⟩)) wc (Chg.refl _ wc) rfl trivial
        · intro ac wc h K hK
          have d43 : ac.tmps.getD 43 undef = .pointer (some ⟨J, 0, none⟩) := h.dep ⟨2, .data⟩ (by simp) rfl 43 rfl
          go_simp
          exact hK (.pointer (some ⟨J, 3, none⟩)) wc (Chg.refl _ wc) rfl trivial
        · intro ac wc h K hK
          have d44 : ac.tmps.getD 44 undef = .pointer (some ⟨J, 3, none⟩) := h.dep ⟨3, .data⟩ (by simp) rfl 44 rfl
          have hq : wc.cell? ⟨J, 3, none⟩ = some (.slice bo jn.bodies.length bcap) := h.pre
          go_simp
          exact hK (.slice bo jn.bodies.length bcap) wc (Chg.refl _ wc) rfl trivial
        · intro ac wc h K hK
          have b1 : ac.tmps.getD 1 undef = .slice so body.length scap := (h.base 1 (by decide)).trans rfl
          go_simp
          exact hK (.slice so body.length scap) wc (Chg.refl _ wc) rfl trivial
        · intro ac wc h K hK
          have d46 : ac.tmps.getD 46 undef = .slice so body.length scap := h.dep ⟨5, .data⟩ (by simp) rfl 46 rfl
          go_simp
          refine (Clone_calls 5 _ body wc h.pre (by have := HL.out; omega)).mono ?_
          rintro e w1 ⟨v, rfl, hv, hc1⟩
          exact hK v w1 hc1 (OwnB.mono hv (by have := h.chg.size; have := HM.out; omega)) trivial
        · intro ac wc h K hK
          obtain ⟨v47, e47, d47⟩ : ∃ x, ac.tmps.getD 47 undef = x ∧ (fun (v : Value) (w : World) => OwnB w M v body) x wc := ⟨_, rfl, h.dep ⟨6, .data⟩ (by simp) rfl 47 rfl⟩
          obtain ⟨co, cn, cc, rfl⟩ := OwnB.slice d47
          have e47b : ac.tmps[47]?.getD undef = .slice co cn cc := by simpa [Array.getD_eq_getD_getElem?] using e47
          have HD47 := Lib.hid d47
          clear d47
          go_simp
          exact hK _ _ ((Chg.refl [] wc).alloc (.cells #[.slice co cn cc] 26)) ⟨wc.heap.size, _, rfl, by have := h.chg.size; have := HM.out; omega, cell_of_heap (heap_alloc_new wc (.cells #[.slice co cn cc] 26)) rfl, OwnB.then HD47.out ((Chg.refl [] wc).alloc (.cells #[.slice co cn cc] 26))⟩ trivial
        · intro ac wc h K hK
          have d45 : ac.tmps.getD 45 undef = .slice bo jn.bodies.length bcap := h.dep ⟨4, .data⟩ (by simp) rfl 45 rfl
          obtain ⟨v48, e48, d48⟩ : ∃ x, ac.tmps.getD 48 undef = x ∧ (fun (v : Value) (w : World) => ∃ x cv, v = .slice (some ⟨x, 0, none⟩) 1 1 ∧ M ≤ x ∧ w.cell? ⟨x, 0, none⟩ = some cv ∧ OwnB w M cv body) x wc := ⟨_, rfl, h.dep ⟨7, .data⟩ (by simp) rfl 48 rfl⟩
          obtain ⟨x, cv, rfl, a2, a3, a4⟩ := d48
          refine step_push rfl (.tmp 45) (.tmp 48) rfl (J + 1) top _ jn.bodies d45 h.pre cv body (a4.mono (by have := HSJ2.out; omega)) x a3 e48 (by have := HBl.out; omega) (by have := h.chg.size; have := HSJ2.out; have := HM.out; omega) ?_
          intro v9 w9 hl9 hch9
          rw [HB8e.out] at hch9
          exact hK v9 w9 hch9 ⟨_, hl9⟩ trivial
        · intro ac wc h K hK
          have d41 : ac.tmps.getD 41 undef = .pointer (some ⟨J, 0, none⟩) := h.dep ⟨0, .data⟩ (by simp) rfl 41 rfl
          go_simp
          exact hK (.pointer (some ⟨J, 0, none⟩)) wc (Chg.refl _ wc) rfl trivial
        · intro ac wc h K hK
          have d50 : ac.tmps.getD 50 undef = .pointer (some ⟨J, 0, none⟩) := h.dep ⟨9, .data⟩ (by simp) rfl 50 rfl
          go_simp
          exact hK (.pointer (some ⟨J, 3, none⟩)) wc (Chg.refl _ wc) rfl trivial
        · intro ac wc h K hK
          have d51 : ac.tmps.getD 51 undef = .pointer (some ⟨J, 3, none⟩) := h.dep ⟨10, .data⟩ (by simp) rfl 51 rfl
          obtain ⟨v49, e49, d49⟩ : ∃ x, ac.tmps.getD 49 undef = x ∧ (fun (v : Value) (w : World) => ∃ t, ListB w (J + 1) t v (jn.bodies ++ [body])) x wc := ⟨_, rfl, h.dep ⟨8, .data⟩ (by simp) rfl 49 rfl⟩
          obtain ⟨t, ht⟩ := d49
          obtain ⟨ao9, ac9, rfl⟩ := ht.slice
          obtain ⟨n9, hn9⟩ : ∃ n, (jn.bodies ++ [body]).length = n := ⟨_, rfl⟩
          rw [hn9] at ht e49
          have hp : wc.heap[J]? = some (.cells (jn.cells S (.slice bo jn.bodies.length bcap)).toArray 98 (0, 0)) := h.pre
          have hcl : wc.cell? ⟨J, 3, none⟩ = some (.slice bo jn.bodies.length bcap) := cell_of_heap hp rfl
          have hfz : wc.frozen? ⟨J, 3, none⟩ = false := frozen_of_heap hp
          have hst9 := setCell_heap hp (i := 3) (.slice ao9 n9 ac9)
          have hch9 := (Chg.refl [J] wc).setCell (p := ⟨J, 3, none⟩) (.inl (by simp)) (.slice ao9 n9 ac9)
          have hl9 := ht.other hch9 (fun x hx => by simp at hx; left; omega)
          have HST := Lib.hid hst9
          have HCH := Lib.hid hch9
          have HL9 := Lib.hid hl9
          clear hst9 hch9 hl9 ht hn9
          go_simp
          exact hK undef _ HCH.out trivial ⟨t, HSJ.out, _, HST.out.trans rfl, HL9.out⟩
      intro acH wcH hc hall hpsi hput
      obtain ⟨x6, e6, d6⟩ : ∃ x, acH.tmps.getD 47 undef = x ∧ (fun (v : Value) (w : World) => OwnB w M v body) x wcH := ⟨_, rfl, hall 6 47 rfl⟩
      obtain ⟨x7, e7, d7⟩ : ∃ x, acH.tmps.getD 48 undef = x ∧ (fun (v : Value) (w : World) => ∃ x cv, v = .slice (some ⟨x, 0, none⟩) 1 1 ∧ M ≤ x ∧ w.cell? ⟨x, 0, none⟩ = some cv ∧ OwnB w M cv body) x wcH := ⟨_, rfl, hall 7 48 rfl⟩
      obtain ⟨x8, e8, d8⟩ : ∃ x, acH.tmps.getD 49 undef = x ∧ (fun (v : Value) (w : World) => ∃ t, ListB w (J + 1) t v (jn.bodies ++ [body])) x wcH := ⟨_, rfl, hall 8 49 rfl⟩
      have hact := hput [(41, .pointer (some ⟨J, 0, none⟩)), (42, .pointer (some ⟨J, 0, none⟩)), (43, .pointer (some ⟨J, 0, none⟩)), (44, .pointer (some ⟨J, 3, none⟩)), (45, .slice bo jn.bodies.length bcap), (46, .slice so body.length scap), (47, x6), (48, x7), (49, x8), (50, .pointer (some ⟨J, 0, none⟩)), (51, .pointer (some ⟨J, 3, none⟩))] rfl ⟨hall 0 41 rfl, hall 1 42 rfl, hall 2 43 rfl, hall 3 44 rfl, hall 4 45 rfl, hall 5 46 rfl, e6, e7, e8, hall 9 50 rfl, hall 10 51 rfl, trivial⟩
      clear hput hall
      subst hact
      have hj9 : ∃ t, JournalAt wcH t J S { jn with bodies := jn.bodies ++ [body] } := hpsi 11 (by decide)
      have hc9 : Chg (J :: B8) wcG wcH := hc
      obtain ⟨t9, hj9⟩ := hj9
      have HJ10 := Lib.hid hj9
      have HC10 := Lib.hid hc9
      clear hpsi hc d6 d7 d8 p hj9 hc9
      simp only [Act.puts, Act.put]
      go_simp
      go_wp2_with fail
      let p : Plan3 := {
        anc := [[], [0], [0, 1], [0, 1, 2], [], [4], [4, 5], [0, 1, 2, 3, 4, 5, 6], [0], [0, 8], [0, 1, 2, 3, 4, 5, 6, 7, 8, 9]]
        rows := fun j => if j = 10 then [J] else []
        all := [J]
        Pre := fun i w => match i with
          | 3 => JournalAt w t9 J S { jn with bodies := jn.bodies ++ [body] }
          | 10 => JournalAt w t9 J S { jn with bodies := jn.bodies ++ [body] }
          | _ => True
        Φ := fun i v w => match i with
          | 0 => v = .pointer (some ⟨J, 0, none⟩)
          | 1 => v = .pointer (some ⟨J, 0, none⟩)
          | 2 => v = .pointer (some ⟨J, 4, none⟩)
          | 3 => v = .int .i64 (jn.used : Int)
          | 4 => v = .slice so body.length scap
          | 5 => v = .int .i64 (body.length : Int)
          | 6 => v = .int .i64 (nBlocks body.length : Nat)
          | 7 => v = .int .i64 ((jn.used + nBlocks body.length : Nat) : Int)
          | 8 => v = .pointer (some ⟨J, 0, none⟩)
          | 9 => v = .pointer (some ⟨J, 4, none⟩)
          | _ => True
        Ψ := fun i w => match i with
          | 10 => ∃ t, JournalAt w t J S { jn with bodies := jn.bodies ++ [body], used := jn.used + nBlocks body.length }
          | _ => True
        sub := by
          intro j x hx
          split at hx
          · exact hx
          · simp at hx
        pre := by
          intro i j w w1 hij hn h hc
          match i, h, hij, hn with
          | 0, h, hij, hn => exact trivial
          | 1, h, hij, hn => exact trivial
          | 2, h, hij, hn => exact trivial
          | 3, h, hij, hn => exact (if h10 : j = 10 then (by subst h10; exact absurd (by decide) hn) else (by rw [if_neg h10] at hc; exact h.then hc))
          | 4, h, hij, hn => exact trivial
          | 5, h, hij, hn => exact trivial
          | 6, h, hij, hn => exact trivial
          | 7, h, hij, hn => exact trivial
          | 8, h, hij, hn => exact trivial
          | 9, h, hij, hn => exact trivial
          | 10, h, hij, hn => exact (by rw [if_neg (fun e => hij e.symm)] at hc; exact h.then hc)
          | _ + 11, _, _, _ => trivial
        phi := by
          intro i j v w w1 hij hn h hc
          match i, h, hij, hn with
          | 0, h, hij, hn => exact h
          | 1, h, hij, hn => exact h
          | 2, h, hij, hn => exact h
          | 3, h, hij, hn => exact h
          | 4, h, hij, hn => exact h
          | 5, h, hij, hn => exact h
          | 6, h, hij, hn => exact h
          | 7, h, hij, hn => exact h
          | 8, h, hij, hn => exact h
          | 9, h, hij, hn => exact h
          | 10, h, hij, hn => exact trivial
          | _ + 11, _, _, _ => trivial
        psi := by
          intro i j w w1 hij hn h hc
          match i, h, hij, hn with
          | 0, h, hij, hn => exact trivial
          | 1, h, hij, hn => exact trivial
          | 2, h, hij, hn => exact trivial
          | 3, h, hij, hn => exact trivial
          | 4, h, hij, hn => exact trivial
          | 5, h, hij, hn => exact trivial
          | 6, h, hij, hn => exact trivial
          | 7, h, hij, hn => exact trivial
          | 8, h, hij, hn => exact trivial
          | 9, h, hij, hn => exact trivial
          | 10, h, hij, hn => exact (by rw [if_neg (fun e => hij e.symm)] at hc; exact (h.elim fun t ht => ⟨t, ht.then hc⟩))
          | _ + 11, _, _, _ => trivial }
      refine wp_region_each6 (by kernel_rfl) p ?hpreI (by kernel_rfl) (by kernel_rfl) (by kernel_rfl) (by kernel_rfl) ?hendI ?hstepsI
      case hpreI =>
        intro i
        match i with
        | 0 => exact trivial
        | 1 => exact trivial
        | 2 => exact trivial
        | 3 => exact HJ10.out
        | 4 => exact trivial
        | 5 => exact trivial
        | 6 => exact trivial
        | 7 => exact trivial
        | 8 => exact trivial
        | 9 => exact trivial
        | 10 => exact HJ10.out
        | _ + 11 => trivial
      case hstepsI =>
        refine ⟨?_, ?_, ?_, ?_, ?_, ?_, ?_, ?_, ?_, ?_, ?_, trivial⟩
        · intro ac wc h K hK
          have b0 : ac.tmps.getD 0 undef = .pointer (some ⟨J, 0, none⟩) := (h.base 0 (by decide)).trans rfl
          go_simp
          exact hK (.pointer (some ⟨J, 0, none⟩)) wc (Chg.refl _ wc) rfl trivial
        · intro ac wc h K hK
          have d52 : ac.tmps.getD 52 undef = .pointer (some ⟨J, 0, none⟩) := h.dep ⟨0, .data⟩ (by simp) rfl 52 rfl
          go_simp
          exact hK (.pointer (some ⟨J, 0, none⟩)) wc (Chg.refl _ wc) rfl trivial
        · intro ac wc h K hK
          have d53 : ac.tmps.getD 53 undef = .pointer (some ⟨J, 0, none⟩) := h.dep ⟨1, .data⟩ (by simp) rfl 53 rfl
          go_simp
          exact hK (.pointer (some ⟨J, 4, none⟩)) wc (Chg.refl _ wc) rfl trivial
        · intro ac wc h K hK
          have d54 : ac.tmps.getD 54 undef = .pointer (some ⟨J, 4, none⟩) := h.dep ⟨2, .data⟩ (by simp) rfl 54 rfl
          have hpre : JournalAt wc t9 J S { jn with bodies := jn.bodies ++ [body] } := h.pre
          obtain ⟨v9, -, c0, c1, c2, c3, hq, c5, -⟩ := hpre.facts
          go_simp
          exact hK (.int .i64 (jn.used : Int)) wc (Chg.refl _ wc) rfl trivial
        · intro ac wc h K hK
          have b1 : ac.tmps.getD 1 undef = .slice so body.length scap := (h.base 1 (by decide)).trans rfl
          go_simp
          exact hK (.slice so body.length scap) wc (Chg.refl _ wc) rfl trivial
        · intro ac wc h K hK
          have d56 : ac.tmps.getD 56 undef = .slice so body.length scap := h.dep ⟨4, .data⟩ (by simp) rfl 56 rfl
          go_simp
          exact hK (.int .i64 (body.length : Int)) wc (Chg.refl _ wc) rfl trivial
        · intro ac wc h K hK
          have d57 : ac.tmps.getD 57 undef = .int .i64 (body.length : Int) := h.dep ⟨5, .data⟩ (by simp) rfl 57 rfl
          go_simp
          refine (Blocks_calls body.length wc HL.out).mono ?_
          rintro e w1 ⟨rfl, rfl⟩
          exact hK _ wc (Chg.refl _ wc) rfl trivial
        · intro ac wc h K hK
          have d55 : ac.tmps.getD 55 undef = .int .i64 (jn.used : Int) := h.dep ⟨3, .data⟩ (by simp) rfl 55 rfl
          have d58 : ac.tmps.getD 58 undef = .int .i64 (nBlocks body.length : Nat) := h.dep ⟨6, .data⟩ (by simp) rfl 58 rfl
          have hU1 := HU.out
          have hN1 := HN.out
          have hw : IntKind.i64.wrap ((jn.used : Int) + (nBlocks body.length : Nat)) = ((jn.used + nBlocks body.length : Nat) : Int) := by simp [IntKind.wrap, IntKind.bits, IntKind.signed]; omega
          have HW := Lib.hid hw
          clear hw
          go_simp
          exact hK _ wc (Chg.refl _ wc) (congrArg (Value.int .i64) HW.out) trivial
        · intro ac wc h K hK
          have d52 : ac.tmps.getD 52 undef = .pointer (some ⟨J, 0, none⟩) := h.dep ⟨0, .data⟩ (by simp) rfl 52 rfl
          go_simp
          exact hK (.pointer (some ⟨J, 0, none⟩)) wc (Chg.refl _ wc) rfl trivial
        · intro ac wc h K hK
          have d60 : ac.tmps.getD 60 undef = .pointer (some ⟨J, 0, none⟩) := h.dep ⟨8, .data⟩ (by simp) rfl 60 rfl
          go_simp
          exact hK (.pointer (some ⟨J, 4, none⟩)) wc (Chg.refl _ wc) rfl trivial
        · intro ac wc h K hK
          have d61 : ac.tmps.getD 61 undef = .pointer (some ⟨J, 4, none⟩) := h.dep ⟨9, .data⟩ (by simp) rfl 61 rfl
          have d59 : ac.tmps.getD 59 undef = .int .i64 ((jn.used + nBlocks body.length : Nat) : Int) := h.dep ⟨7, .data⟩ (by simp) rfl 59 rfl
          have hpre : JournalAt wc t9 J S { jn with bodies := jn.bodies ++ [body] } := h.pre
          obtain ⟨-, v9, hp, ht⟩ := hpre
          have hcl : wc.cell? ⟨J, 4, none⟩ = some (.int .i64 jn.used) := cell_of_heap hp rfl
          have hfz : wc.frozen? ⟨J, 4, none⟩ = false := frozen_of_heap hp
          go_simp
          exact hK undef _ ((Chg.refl [J] wc).setCell (p := ⟨J, 4, none⟩) (.inl (by simp)) _) trivial ⟨t9, HSJ.out, _, (setCell_heap hp _).trans rfl, ht.other ((Chg.refl [J] wc).setCell (p := ⟨J, 4, none⟩) (.inl (by simp)) _) (fun x hx => by simp at hx; subst hx; left; omega)⟩
      intro acI wcI hc hall hpsi hput
      have hact := hput [(52, .pointer (some ⟨J, 0, none⟩)), (53, .pointer (some ⟨J, 0, none⟩)), (54, .pointer (some ⟨J, 4, none⟩)), (55, .int .i64 (jn.used : Int)), (56, .slice so body.length scap), (57, .int .i64 (body.length : Int)), (58, .int .i64 (nBlocks body.length : Nat)), (59, .int .i64 ((jn.used + nBlocks body.length : Nat) : Int)), (60, .pointer (some ⟨J, 0, none⟩)), (61, .pointer (some ⟨J, 4, none⟩))] rfl ⟨hall 0 52 rfl, hall 1 53 rfl, hall 2 54 rfl, hall 3 55 rfl, hall 4 56 rfl, hall 5 57 rfl, hall 6 58 rfl, hall 7 59 rfl, hall 8 60 rfl, hall 9 61 rfl, trivial⟩
      clear hput hall
      subst hact
      have hj9 : ∃ t, JournalAt wcI t J S { jn with bodies := jn.bodies ++ [body], used := jn.used + nBlocks body.length } := hpsi 10 (by decide)
      have hc9 : Chg [J] wcH wcI := hc
      obtain ⟨t11, hj9⟩ := hj9
      have HJ11 := Lib.hid hj9
      have HC11 := Lib.hid hc9
      clear hpsi hc p hj9 hc9
      simp only [Act.puts, Act.put]
      go_simp
      go_wp2_with fail
      go_ret
      have hS3 : StoreAt wcI S r.1 := (HS9.out.chg HC10.out (fun hm => by
        rcases List.mem_cons.1 hm with h | h
        · have := HSJ.out; omega
        · have := (HB8.out S h).1; have := HSJ.out; omega)).chg HC11.out (by simp; have := HSJ.out; omega)
      refine ⟨rfl, hS3, ⟨_, HJ11.out⟩, ((HRows.out _ (HC9.out.mono (by simp))).trans (JChg.of HC10.out (fun x hx => ?_))).trans (JChg.of HC11.out (fun x hx => ?_))⟩
      · rcases List.mem_cons.1 hx with h | h
        · left; rw [h]; exact ⟨by have := HSJ.out; omega, ⟨_, _, _, HHG.out, .inr (.inl rfl)⟩⟩
        · left; exact ⟨by have := (HB8.out x h).1; have := HSJ.out; omega, HB8r.out x h⟩
      · simp at hx
        left; rw [hx]; exact ⟨by have := HSJ.out; omega, HJ10.out.row⟩
    · have H1 := Lib.hid h1
      have h1i : (r.2 != 0) = true := by simp [h1]
      rw [if_neg h1]
      clear h0 h1 hl hn hr hrw hlf
      go_enter Try.func44, Try.ntmps44
      go_wp2_with (first | (go_at_call 75; refine HRd.out.mono ?_; rintro e w' ⟨rfl, rfl⟩) | (go_at_call 50; refine HLf.out.mono ?_; rintro e w' ⟨rfl, rfl⟩) | (go_at_call 69; refine HSz.out.mono ?_; rintro e w' ⟨rfl, rfl⟩))
      let p : Plan3 := {
        anc := [[], [], [1], [1, 2], [1, 2, 3], [], [5], [5, 6], [5, 6, 7], [], [9], [9, 10], [9, 10, 11], [9, 10, 11, 12], [5, 6, 7, 8, 9, 10, 11, 12, 13], [], [1, 2, 3, 4, 5, 6, 7, 8, 9, 10, 11, 12, 13, 14, 15], [0, 1, 2, 3, 4, 5, 6, 7, 8, 9, 10, 11, 12, 13, 14, 15, 16], [0, 1, 2, 3, 4, 5, 6, 7, 8, 9, 10, 11, 12, 13, 14, 15, 16, 17]]
        rows := fun j => if j = 16 then [S] else if j = 17 then [J] else []
        all := [S, J]
        Pre := fun i w => match i with
          | 4 => JournalAt w top J S jn
          | 8 => JournalAt w top J S jn
          | 12 => JournalAt w top J S jn
          | 16 => StoreAt w S st ∧ IsB w 5 (.slice so body.length scap) body
          | 17 => JournalAt w top J S jn
          | _ => True
        Φ := fun i v w => match i with
          | 0 => v = .pointer (some ⟨J, 0, none⟩)
          | 1 => v = .pointer (some ⟨J, 0, none⟩)
          | 2 => v = .pointer (some ⟨J, 0, none⟩)
          | 3 => v = .pointer (some ⟨J, 0, none⟩)
          | 4 => v = .pointer (some ⟨S, 0, none⟩)
          | 5 => v = .pointer (some ⟨J, 0, none⟩)
          | 6 => v = .pointer (some ⟨J, 0, none⟩)
          | 7 => v = .pointer (some ⟨J, 1, none⟩)
          | 8 => v = .int .i64 (jn.area : Int)
          | 9 => v = .pointer (some ⟨J, 0, none⟩)
          | 10 => v = .pointer (some ⟨J, 0, none⟩)
          | 11 => v = .pointer (some ⟨J, 4, none⟩)
          | 12 => v = .int .i64 (jn.used : Int)
          | 13 => v = .int .i64 ((1 + jn.used : Nat) : Int)
          | 14 => v = .int .i64 ((jn.area * 512 + 1 + jn.used : Nat) : Int)
          | 15 => v = .slice so body.length scap
          | 16 => v = .int .i64 r.2
          | 17 => v = .int .i64 r.2
          | 18 => v = .int .i64 r.2
          | _ => True
        Ψ := fun i w => match i with
          | 16 => StoreAt w S r.1
          | 17 => ∃ t, JournalAt w t J S { jn with lost := true }
          | _ => True
        sub := by
          intro j x hx
          split at hx
          · simp at hx; simp [hx]
          · split at hx
            · simp at hx; simp [hx]
            · simp at hx
        pre := by
          intro i j w w1 hij hn h hc
          match i, h, hij, hn with
          | 0, h, hij, hn => exact trivial
          | 1, h, hij, hn => exact trivial
          | 2, h, hij, hn => exact trivial
          | 3, h, hij, hn => exact trivial
          | 4, h, hij, hn => exact (if h16 : j = 16 then (by subst h16; exact absurd (by decide) hn) else (if h17 : j = 17 then (by subst h17; exact absurd (by decide) hn) else (by rw [if_neg h16, if_neg h17] at hc; exact h.then hc)))
          | 5, h, hij, hn => exact trivial
          | 6, h, hij, hn => exact trivial
          | 7, h, hij, hn => exact trivial
          | 8, h, hij, hn => exact (if h16 : j = 16 then (by subst h16; exact absurd (by decide) hn) else (if h17 : j = 17 then (by subst h17; exact absurd (by decide) hn) else (by rw [if_neg h16, if_neg h17] at hc; exact h.then hc)))
          | 9, h, hij, hn => exact trivial
          | 10, h, hij, hn => exact trivial
          | 11, h, hij, hn => exact trivial
          | 12, h, hij, hn => exact (if h16 : j = 16 then (by subst h16; exact absurd (by decide) hn) else (if h17 : j = 17 then (by subst h17; exact absurd (by decide) hn) else (by rw [if_neg h16, if_neg h17] at hc; exact h.then hc)))
          | 13, h, hij, hn => exact trivial
          | 14, h, hij, hn => exact trivial
          | 15, h, hij, hn => exact trivial
          | 16, h, hij, hn => exact (if h17 : j = 17 then (by subst h17; exact absurd (by decide) hn) else (by rw [if_neg (fun e => hij e.symm), if_neg h17] at hc; exact ⟨h.1.chg hc (by simp), h.2.then hc⟩))
          | 17, h, hij, hn => exact (if h16 : j = 16 then (by subst h16; have hc : Chg ([S]) w w1 := hc; exact h.stored hc) else (by rw [if_neg h16, if_neg (fun e => hij e.symm)] at hc; exact h.then hc))
          | 18, h, hij, hn => exact trivial
          | _ + 19, _, _, _ => trivial
        phi := by
          intro i j v w w1 hij hn h hc
          match i, h, hij, hn with
          | 0, h, hij, hn => exact h
          | 1, h, hij, hn => exact h
          | 2, h, hij, hn => exact h
          | 3, h, hij, hn => exact h
          | 4, h, hij, hn => exact h
          | 5, h, hij, hn => exact h
          | 6, h, hij, hn => exact h
          | 7, h, hij, hn => exact h
          | 8, h, hij, hn => exact h
          | 9, h, hij, hn => exact h
          | 10, h, hij, hn => exact h
          | 11, h, hij, hn => exact h
          | 12, h, hij, hn => exact h
          | 13, h, hij, hn => exact h
          | 14, h, hij, hn => exact h
          | 15, h, hij, hn => exact h
          | 16, h, hij, hn => exact h
          | 17, h, hij, hn => exact h
          | 18, h, hij, hn => exact h
          | _ + 19, _, _, _ => trivial
        psi := by
          intro i j w w1 hij hn h hc
          match i, h, hij, hn with
          | 0, h, hij, hn => exact trivial
          | 1, h, hij, hn => exact trivial
          | 2, h, hij, hn => exact trivial
          | 3, h, hij, hn => exact trivial
          | 4, h, hij, hn => exact trivial
          | 5, h, hij, hn => exact trivial
          | 6, h, hij, hn => exact trivial
          | 7, h, hij, hn => exact trivial
          | 8, h, hij, hn => exact trivial
          | 9, h, hij, hn => exact trivial
          | 10, h, hij, hn => exact trivial
          | 11, h, hij, hn => exact trivial
          | 12, h, hij, hn => exact trivial
          | 13, h, hij, hn => exact trivial
          | 14, h, hij, hn => exact trivial
          | 15, h, hij, hn => exact trivial
          | 16, h, hij, hn => exact (if h17 : j = 17 then (by subst h17; have hc : Chg ([J]) w w1 := hc; exact h.chg hc (by simp; have := HSJ.out; omega)) else (by rw [if_neg (fun e => hij e.symm), if_neg h17] at hc; exact h.chg hc (by simp)))
          | 17, h, hij, hn => exact (if h16 : j = 16 then (by subst h16; exact absurd (by decide) hn) else (by rw [if_neg h16, if_neg (fun e => hij e.symm)] at hc; exact (h.elim fun t ht => ⟨t, ht.then hc⟩)))
          | 18, h, hij, hn => exact trivial
          | _ + 19, _, _, _ => trivial }
      refine wp_region_each6 (by kernel_rfl) p ?hpreF (by kernel_rfl) (by kernel_rfl) (by kernel_rfl) (by kernel_rfl) ?hendF ?hstepsF
      case hpreF =>
        intro i
        match i with
        | 0 => exact trivial
        | 1 => exact trivial
        | 2 => exact trivial
        | 3 => exact trivial
        | 4 => exact HJ.out
        | 5 => exact trivial
        | 6 => exact trivial
        | 7 => exact trivial
        | 8 => exact HJ.out
        | 9 => exact trivial
        | 10 => exact trivial
        | 11 => exact trivial
        | 12 => exact HJ.out
        | 13 => exact trivial
        | 14 => exact trivial
        | 15 => exact trivial
        | 16 => exact ⟨HS.out, HV.out⟩
        | 17 => exact HJ.out
        | 18 => exact trivial
        | _ + 19 => trivial
      case hstepsF =>
        refine ⟨?_, ?_, ?_, ?_, ?_, ?_, ?_, ?_, ?_, ?_, ?_, ?_, ?_, ?_, ?_, ?_, ?_, ?_, ?_, trivial⟩
        · intro ac wc h K hK
          have b0 : ac.tmps.getD 0 undef = .pointer (some ⟨J, 0, none⟩) := (h.base 0 (by decide)).trans rfl
          go_simp
          exact hK (.pointer (some ⟨J, 0, none⟩)) wc (Chg.refl _ wc) rfl trivial
        · intro ac wc h K hK
          have b0 : ac.tmps.getD 0 undef = .pointer (some ⟨J, 0, none⟩) := (h.base 0 (by decide)).trans rfl
          go_simp
          exact hK (.pointer (some ⟨J, 0, none⟩)) wc (Chg.refl _ wc) rfl trivial
        · intro ac wc h K hK
          have d21 : ac.tmps.getD 21 undef = .pointer (some ⟨J, 0, none⟩) := h.dep ⟨1, .data⟩ (by simp) rfl 21 rfl
          go_simp
          exact hK (.pointer (some ⟨J, 0, none⟩)) wc (Chg.refl _ wc) rfl trivial
        · intro ac wc h K hK
          have d22 : ac.tmps.getD 22 undef = .pointer (some ⟨J, 0, none⟩) := h.dep ⟨2, .data⟩ (by simp) rfl 22 rfl
          go_simp
          exact hK (.pointer (some ⟨J, 0, none⟩)) wc (Chg.refl _ wc) rfl trivial
        · intro ac wc h K hK
          have d23 : ac.tmps.getD 23 undef = .pointer (some ⟨J, 0, none⟩) := h.dep ⟨3, .data⟩ (by simp) rfl 23 rfl
          have hpre : JournalAt wc top J S jn := h.pre
          obtain ⟨v9, -, hq, c1, c2, c3, c4, c5, -⟩ := hpre.facts
          go_simp
          exact hK (.pointer (some ⟨S, 0, none⟩)) wc (Chg.refl _ wc) rfl trivial
        · intro ac wc h K hK
          have b0 : ac.tmps.getD 0 undef = .pointer (some ⟨J, 0, none⟩) := (h.base 0 (by decide)).trans rfl
          go_simp
          exact hK (.pointer (some ⟨J, 0, none⟩)) wc (Chg.refl _ wc) rfl trivial
        · intro ac wc h K hK
          have d25 : ac.tmps.getD 25 undef = .pointer (some ⟨J, 0, none⟩) := h.dep ⟨5, .data⟩ (by simp) rfl 25 rfl
          go_simp
          exact hK (.pointer (some ⟨J, 0, none⟩)) wc (Chg.refl _ wc) rfl trivial
        · intro ac wc h K hK
          have d26 : ac.tmps.getD 26 undef = .pointer (some ⟨J, 0, none⟩) := h.dep ⟨6, .data⟩ (by simp) rfl 26 rfl
          go_simp
          exact hK (.pointer (some ⟨J, 1, none⟩)) wc (Chg.refl _ wc) rfl trivial
        · intro ac wc h K hK
          have d27 : ac.tmps.getD 27 undef = .pointer (some ⟨J, 1, none⟩) := h.dep ⟨7, .data⟩ (by simp) rfl 27 rfl
          have hpre : JournalAt wc top J S jn := h.pre
          obtain ⟨v9, -, c0, hq, c2, c3, c4, c5, -⟩ := hpre.facts
          go_simp
          exact hK (.int .i64 (jn.area : Int)) wc (Chg.refl _ wc) rfl trivial
        · intro ac wc h K hK
          have b0 : ac.tmps.getD 0 undef = .pointer (some ⟨J, 0, none⟩) := (h.base 0 (by decide)).trans rfl
          go_simp
          exact hK (.pointer (some ⟨J, 0, none⟩)) wc (Chg.refl _ wc) rfl trivial
        · intro ac wc h K hK
          have d29 : ac.tmps.getD 29 undef = .pointer (some ⟨J, 0, none⟩) := h.dep ⟨9, .data⟩ (by simp) rfl 29 rfl
          go_simp
          exact hK (.pointer (some ⟨J, 0, none⟩)) wc (Chg.refl _ wc) rfl trivial
        · intro ac wc h K hK
          have d30 : ac.tmps.getD 30 undef = .pointer (some ⟨J, 0, none⟩) := h.dep ⟨10, .data⟩ (by simp) rfl 30 rfl
          go_simp
          exact hK (.pointer (some ⟨J, 4, none⟩)) wc (Chg.refl _ wc) rfl trivial
        · intro ac wc h K hK
          have d31 : ac.tmps.getD 31 undef = .pointer (some ⟨J, 4, none⟩) := h.dep ⟨11, .data⟩ (by simp) rfl 31 rfl
          have hpre : JournalAt wc top J S jn := h.pre
          obtain ⟨v9, -, c0, c1, c2, c3, hq, c5, -⟩ := hpre.facts
          go_simp
          exact hK (.int .i64 (jn.used : Int)) wc (Chg.refl _ wc) rfl trivial
        · intro ac wc h K hK
          have d32 : ac.tmps.getD 32 undef = .int .i64 (jn.used : Int) := h.dep ⟨12, .data⟩ (by simp) rfl 32 rfl
          have hU1 := HU.out
          have hw : IntKind.i64.wrap (1 + (jn.used : Int)) = ((1 + jn.used : Nat) : Int) := by simp [IntKind.wrap, IntKind.bits, IntKind.signed]; omega
          have HW := Lib.hid hw
          clear hw
          go_simp
          exact hK _ wc (Chg.refl _ wc) (congrArg (Value.int .i64) HW.out) trivial
        · intro ac wc h K hK
          have d28 : ac.tmps.getD 28 undef = .int .i64 (jn.area : Int) := h.dep ⟨8, .data⟩ (by simp) rfl 28 rfl
          have d33 : ac.tmps.getD 33 undef = .int .i64 ((1 + jn.used : Nat) : Int) := h.dep ⟨13, .data⟩ (by simp) rfl 33 rfl
          go_simp
          refine (place_calls jn.area (1 + jn.used) wc HA.out (by have := HU.out; omega)).mono ?_
          rintro e w1 ⟨rfl, rfl⟩
          exact hK _ wc (Chg.refl _ wc) (congrArg (fun x : Nat => Value.int .i64 x) (Nat.add_assoc _ _ _).symm) trivial
        · intro ac wc h K hK
          have b1 : ac.tmps.getD 1 undef = .slice so body.length scap := (h.base 1 (by decide)).trans rfl
          go_simp
          exact hK (.slice so body.length scap) wc (Chg.refl _ wc) rfl trivial
        · intro ac wc h K hK
          have d24 : ac.tmps.getD 24 undef = .pointer (some ⟨S, 0, none⟩) := h.dep ⟨4, .data⟩ (by simp) rfl 24 rfl
          have d34 : ac.tmps.getD 34 undef = .int .i64 ((jn.area * 512 + 1 + jn.used : Nat) : Int) := h.dep ⟨14, .data⟩ (by simp) rfl 34 rfl
          have d35 : ac.tmps.getD 35 undef = .slice so body.length scap := h.dep ⟨15, .data⟩ (by simp) rfl 35 rfl
          have hp : StoreAt wc S st ∧ IsB wc 5 (.slice so body.length scap) body := h.pre
          go_simp
          refine (lay_calls S (jn.area * 512 + 1 + jn.used) st _ body wc hp.1 HD.out hp.2 HL.out (by have := HA.out; have := HN.out; have := HU.out; omega)).mono ?_
          rintro e w1 ⟨rfl, hs1, hc1⟩
          rw [HR.out] at hs1 ⊢
          exact hK _ w1 hc1 rfl hs1
        · intro ac wc h K hK
          have d20 : ac.tmps.getD 20 undef = .pointer (some ⟨J, 0, none⟩) := h.dep ⟨0, .data⟩ (by simp) rfl 20 rfl
          have d36 : ac.tmps.getD 36 undef = .int .i64 r.2 := h.dep ⟨16, .data⟩ (by simp) rfl 36 rfl
          have hp : JournalAt wc top J S jn := h.pre
          go_simp
          refine (ends_calls r.2 top J S jn wc hp).mono ?_
          rintro e w1 ⟨rfl, hj1, hc1⟩
          rw [if_neg H1.out] at hj1
          exact hK _ w1 hc1 rfl ⟨_, hj1⟩
        · intro ac wc h K hK
          have d37 : ac.tmps.getD 37 undef = .int .i64 r.2 := h.dep ⟨17, .data⟩ (by simp) rfl 37 rfl
          go_simp
          exact hK (.int .i64 r.2) wc (Chg.refl _ wc) rfl trivial
      intro acF wcF hc hall hpsi hput
      have hact := hput [(20, .pointer (some ⟨J, 0, none⟩)), (21, .pointer (some ⟨J, 0, none⟩)), (22, .pointer (some ⟨J, 0, none⟩)), (23, .pointer (some ⟨J, 0, none⟩)), (24, .pointer (some ⟨S, 0, none⟩)), (25, .pointer (some ⟨J, 0, none⟩)), (26, .pointer (some ⟨J, 0, none⟩)), (27, .pointer (some ⟨J, 1, none⟩)), (28, .int .i64 (jn.area : Int)), (29, .pointer (some ⟨J, 0, none⟩)), (30, .pointer (some ⟨J, 0, none⟩)), (31, .pointer (some ⟨J, 4, none⟩)), (32, .int .i64 (jn.used : Int)), (33, .int .i64 ((1 + jn.used : Nat) : Int)), (34, .int .i64 ((jn.area * 512 + 1 + jn.used : Nat) : Int)), (35, .slice so body.length scap), (36, .int .i64 r.2), (37, .int .i64 r.2), (7, .int .i64 r.2)] rfl ⟨hall 0 20 rfl, hall 1 21 rfl, hall 2 22 rfl, hall 3 23 rfl, hall 4 24 rfl, hall 5 25 rfl, hall 6 26 rfl, hall 7 27 rfl, hall 8 28 rfl, hall 9 29 rfl, hall 10 30 rfl, hall 11 31 rfl, hall 12 32 rfl, hall 13 33 rfl, hall 14 34 rfl, hall 15 35 rfl, hall 16 36 rfl, hall 17 37 rfl, hall 18 7 rfl, trivial⟩
      clear hput hall
      subst hact
      have hs9 : StoreAt wcF S r.1 := hpsi 16 (by decide)
      have hj9 : ∃ t, JournalAt wcF t J S { jn with lost := true } := hpsi 17 (by decide)
      obtain ⟨t9, hj9⟩ := hj9
      have HJ9 := Lib.hid hj9
      have hc9 : Chg [S, J] w wcF := hc
      have HC9 := Lib.hid hc9
      clear hj9 hc9
      have HS9 := Lib.hid hs9
      clear hpsi hc p hs9
      simp only [Act.puts, Act.put]
      go_simp
      go_wp2_with fail
      go_ret
      exact ⟨rfl, HS9.out, ⟨_, HJ9.out⟩, HRows.out _ HC9.out⟩
  · have hrw : jn.add st body = (jn, st, sizeAns body.length ((511 - jn.used : Nat) : Int)) := by
      unfold Jn.add
      rw [if_neg h0]
    rw [hrw]
    obtain ⟨q, hq⟩ : ∃ q, sizeAns body.length ((511 - jn.used : Nat) : Int) = q := ⟨_, rfl⟩
    rw [hq] at h0 HSz ⊢
    rw [hlf] at HLf HSz
    have h0i : (q != 0) = true := by simp [h0]
    clear h0 hrw hq hlf
    go_enter Try.func44, Try.ntmps44
    go_wp2_with (first | (go_at_call 75; refine HRd.out.mono ?_; rintro e w' ⟨rfl, rfl⟩) | (go_at_call 50; refine HLf.out.mono ?_; rintro e w' ⟨rfl, rfl⟩) | (go_at_call 69; refine HSz.out.mono ?_; rintro e w' ⟨rfl, rfl⟩))
    go_ret
    exact ⟨rfl, HS.out, ⟨_, HJ.out⟩, JChg.refl _ _⟩
end Go.Proofs.Ytgmgmjljjbcgjaa

/- The laws of the journal: holds. -/
import Derived.Test.YtgmgmjljjbcgjaaJWork
import Derived.Test.YtgmgmjljjbcgjaaStrs
namespace Go.Proofs.Ytgmgmjljjbcgjaa
open Go Go.RowKit NSX

theorem add_zero (A : Addr) : A.add 0 = A := by unfold Addr.add; simp
theorem add_succ_at (A : Addr) (k : Nat) : A.add (k + 1) = ⟨A.block, A.off + (k + 1), none⟩ := by
  unfold Addr.add
  rw [if_neg (by omega)]
theorem asBytes_cons (s : ByteArray) (ss : List ByteArray) : asBytes (s :: ss) = s.data.toList :: asBytes ss := rfl

set_option maxRecDepth 100000 in
set_option maxHeartbeats 2000000 in
theorem holds_calls (t J S : Nat) (jn : Jn) (b0 : List UInt8) (rest : List (List UInt8)) (s0 : ByteArray) (srest : List ByteArray) (u : Value) (w : World) (hj : JournalAt w t J S jn) (hb : jn.bodies = b0 :: rest) (hl : ∀ b ∈ jn.bodies, b.length ≤ 32768) (hn1 : rest.length ≤ 511) (hu : StrsAt w u (s0 :: srest)) :
    Calls Try.prog 47 #[.pointer (some ⟨J, 0, none⟩), u] w fun e w' => e = .returned (.bool (decide (jn.bodies = asBytes (s0 :: srest)))) ∧ Chg [] w w' := by
  obtain ⟨uo, ucap, rfl, hul, hum, hus⟩ := hu
  obtain ⟨A, rfl, hA⟩ := hus 0 s0 rfl
  rw [add_zero] at hA
  unfold maxLen at hum
  have hb0l : b0.length ≤ 32768 := hl b0 (by rw [hb]; simp)
  have HRec := Lib.hid (Records_calls t J S jn b0 rest w hj hb (fun b hm => hl b (by rw [hb]; simp [hm])) hn1)
  have HJ := Lib.hid hj
  have HB0 := Lib.hid (show jn.bodies[0]? = some b0 by rw [hb]; rfl)
  have HBL := Lib.hid hb0l
  have HBe := Lib.hid hb
  have HA := Lib.hid hA
  have HUs := Lib.hid (show ∀ (i : Nat) (s : ByteArray), srest[i]? = some s → w.cell? (A.add (1 + i)) = some (.string s) from fun i s hi => by
    obtain ⟨a, ha, hc⟩ := hus (1 + i) s (by rw [Nat.add_comm]; simpa using hi)
    simp only [Option.some.injEq] at ha
    subst ha
    exact hc)
  rw [List.length_cons] at hul ⊢
  obtain ⟨n, hn⟩ : ∃ n, srest.length + 1 = n := ⟨_, rfl⟩
  obtain ⟨m, hm⟩ : ∃ m, rest.length = m := ⟨_, rfl⟩
  rw [hn] at hul ⊢
  rw [hm] at hn1
  have HNe := Lib.hid hn
  have HMe := Lib.hid hm
  have HN0 := Lib.hid (show ((n : Int) == 0) = false by simp; omega)
  have HN1 := Lib.hid (show 1 ≤ n ∧ n ≤ 9223372036854775807 by omega)
  have hn0 : ((n : Int) == 0) = false := by simp; omega
  clear hj hb hl hA hus hb0l hn hm
  go_enter Try.func47, Try.ntmps47
  go_wp2_with fail
  refine HRec.out.mono ?_
  rintro e w1 ⟨rv, rfl, hrl, hc1⟩
  obtain ⟨ro, rc, hrc, hrle, hrcells⟩ := hrl.cells
  rw [HMe.out] at hrc hrle
  subst hrc
  have HJ1 := Lib.hid (HJ.out.then hc1)
  have HCA := Lib.hid (hc1.cell HA.out (by simp))
  have HC1 := Lib.hid hc1
  have HRc := Lib.hid (show ∀ (i : Nat) (b : List UInt8), rest[i]? = some b → ∃ g x, ro = some ⟨g, 0, none⟩ ∧ w1.cell? ⟨g, i, none⟩ = some x ∧ IsB w1 5 x b from fun i b hi => by
    obtain ⟨g, x, h1, h2, h3⟩ := hrcells i b hi
    exact ⟨g, x, h1, h2, h3.isB⟩)
  clear hrl hrcells hc1
  go_wp2_with fail
  by_cases hE : b0 = s0.data.toList
  · have hbs : strOf b0 = s0 := by rw [hE, strOf_of]
    have HX := Lib.hid (show ((strOf b0).toList == s0.toList) = true by rw [hbs]; simp)
    by_cases hmn : m + 1 = n
    · have HY := Lib.hid (show ((m : Int) != (n : Int) - 1) = false by rw [bne_eq_false_iff_eq]; omega)
      have HE := Lib.hid hE
      clear hE hbs
      let p : Plan3 := {
        anc := [[], [0], [0, 1], [0, 1, 2], [0, 1, 2, 3], [0, 1, 2, 3, 4], [0, 1, 2, 3, 4, 5], [0, 1, 2, 3], [0, 1, 2, 3, 7], [0, 1, 2, 3, 7, 8], [0, 1, 2, 3, 4, 5, 6, 7, 8, 9], [0, 1, 2, 3, 4, 5, 6, 7, 8, 9, 10], [0, 1, 2, 3, 4, 5, 6, 7, 8, 9, 10, 11], [0, 1, 2, 3, 4, 5, 6, 7, 8, 9, 10, 11, 12], [0, 1, 2, 3, 4, 5, 6, 7, 8, 9, 10, 11, 12, 13], [0, 1, 2, 3, 4, 5, 6, 7, 8, 9, 10, 11, 12], [0, 1, 2, 3, 4, 5, 6, 7, 8, 9, 10, 11, 12, 15], [0, 1, 2, 3, 4, 5, 6, 7, 8, 9, 10, 11, 12, 15, 16], [0, 1, 2, 3, 4, 5, 6, 7, 8, 9, 10, 11, 12, 13, 14, 15, 16, 17], [0, 1, 2, 3, 4, 5, 6, 7, 8, 9, 10, 11, 12, 13, 14, 15, 16, 17, 18]]
        rows := fun j => []
        all := []
        Pre := fun i w => match i with
          | 5 => JournalAt w t J S jn
          | 9 => w.cell? A = some (.string s0)
          | _ => True
        Φ := fun i v w => match i with
          | 0 => v = .slice (some A) n ucap
          | 1 => v = .int .i64 (n : Int)
          | 2 => v = .bool false
          | 3 => v = .bool false
          | 4 => v = .pointer (some ⟨J, 0, none⟩)
          | 5 => ∃ b, OwnB w b v b0
          | 6 => v = .string (strOf b0)
          | 7 => v = .slice (some A) n ucap
          | 8 => v = .pointer (some A)
          | 9 => v = .string s0
          | 10 => v = .bool false
          | 11 => v = .bool false
          | 12 => v = .bool false
          | 13 => v = .slice ro m rc
          | 14 => v = .int .i64 (m : Int)
          | 15 => v = .slice (some A) n ucap
          | 16 => v = .int .i64 (n : Int)
          | 17 => v = .int .i64 ((n : Int) - 1)
          | 18 => v = .bool false
          | 19 => v = .bool false
          | _ => True
        Ψ := fun i w => match i with
          | _ => True
        sub := by
          intro j x hx
          exact hx
        pre := by
          intro i j w w1 hij hn h hc
          match i, h, hij, hn with
          | 0, h, hij, hn => exact trivial
          | 1, h, hij, hn => exact trivial
          | 2, h, hij, hn => exact trivial
          | 3, h, hij, hn => exact trivial
          | 4, h, hij, hn => exact trivial
          | 5, h, hij, hn => exact (by exact h.then hc)
          | 6, h, hij, hn => exact trivial
          | 7, h, hij, hn => exact trivial
          | 8, h, hij, hn => exact trivial
          | 9, h, hij, hn => exact (by exact hc.cell h (by simp))
          | 10, h, hij, hn => exact trivial
          | 11, h, hij, hn => exact trivial
          | 12, h, hij, hn => exact trivial
          | 13, h, hij, hn => exact trivial
          | 14, h, hij, hn => exact trivial
          | 15, h, hij, hn => exact trivial
          | 16, h, hij, hn => exact trivial
          | 17, h, hij, hn => exact trivial
          | 18, h, hij, hn => exact trivial
          | 19, h, hij, hn => exact trivial
          | _ + 20, _, _, _ => trivial
        phi := by
          intro i j v w w1 hij hn h hc
          match i, h, hij, hn with
          | 0, h, hij, hn => exact h
          | 1, h, hij, hn => exact h
          | 2, h, hij, hn => exact h
          | 3, h, hij, hn => exact h
          | 4, h, hij, hn => exact h
          | 5, h, hij, hn => exact (by exact (h.elim fun b hb => ⟨b, hb.then hc⟩))
          | 6, h, hij, hn => exact h
          | 7, h, hij, hn => exact h
          | 8, h, hij, hn => exact h
          | 9, h, hij, hn => exact h
          | 10, h, hij, hn => exact h
          | 11, h, hij, hn => exact h
          | 12, h, hij, hn => exact h
          | 13, h, hij, hn => exact h
          | 14, h, hij, hn => exact h
          | 15, h, hij, hn => exact h
          | 16, h, hij, hn => exact h
          | 17, h, hij, hn => exact h
          | 18, h, hij, hn => exact h
          | 19, h, hij, hn => exact h
          | _ + 20, _, _, _ => trivial
        psi := by
          intro i j w w1 hij hn h hc
          match i, h, hij, hn with
          | 0, h, hij, hn => exact trivial
          | 1, h, hij, hn => exact trivial
          | 2, h, hij, hn => exact trivial
          | 3, h, hij, hn => exact trivial
          | 4, h, hij, hn => exact trivial
          | 5, h, hij, hn => exact trivial
          | 6, h, hij, hn => exact trivial
          | 7, h, hij, hn => exact trivial
          | 8, h, hij, hn => exact trivial
          | 9, h, hij, hn => exact trivial
          | 10, h, hij, hn => exact trivial
          | 11, h, hij, hn => exact trivial
          | 12, h, hij, hn => exact trivial
          | 13, h, hij, hn => exact trivial
          | 14, h, hij, hn => exact trivial
          | 15, h, hij, hn => exact trivial
          | 16, h, hij, hn => exact trivial
          | 17, h, hij, hn => exact trivial
          | 18, h, hij, hn => exact trivial
          | 19, h, hij, hn => exact trivial
          | _ + 20, _, _, _ => trivial }
      refine wp_region_each6 (by kernel_rfl) p ?hpreP (by kernel_rfl) (by kernel_rfl) (by kernel_rfl) (by kernel_rfl) ?hendP ?hstepsP
      case hpreP =>
        intro i
        match i with
        | 0 => exact trivial
        | 1 => exact trivial
        | 2 => exact trivial
        | 3 => exact trivial
        | 4 => exact trivial
        | 5 => exact HJ1.out
        | 6 => exact trivial
        | 7 => exact trivial
        | 8 => exact trivial
        | 9 => exact HCA.out
        | 10 => exact trivial
        | 11 => exact trivial
        | 12 => exact trivial
        | 13 => exact trivial
        | 14 => exact trivial
        | 15 => exact trivial
        | 16 => exact trivial
        | 17 => exact trivial
        | 18 => exact trivial
        | 19 => exact trivial
        | _ + 20 => trivial
      case hstepsP =>
        refine ⟨?_, ?_, ?_, ?_, ?_, ?_, ?_, ?_, ?_, ?_, ?_, ?_, ?_, ?_, ?_, ?_, ?_, ?_, ?_, ?_, trivial⟩
        · intro ac wc h K hK
          have b1 : ac.tmps.getD 1 undef = .slice (some A) n ucap := (h.base 1 (by decide)).trans rfl
          go_simp
          exact hK (.slice (some A) n ucap) wc (Chg.refl _ wc) rfl trivial
        · intro ac wc h K hK
          have d9 : ac.tmps.getD 9 undef = .slice (some A) n ucap := h.dep ⟨0, .data⟩ (by simp) rfl 9 rfl
          go_simp
          exact hK (.int .i64 (n : Int)) wc (Chg.refl _ wc) rfl trivial
        · intro ac wc h K hK
          have d10 : ac.tmps.getD 10 undef = .int .i64 (n : Int) := h.dep ⟨1, .data⟩ (by simp) rfl 10 rfl
          have hn0 := HN0.out
          go_simp
          exact hK (.bool false) wc (Chg.refl _ wc) rfl trivial
        · intro ac wc h K hK
          have d11 : ac.tmps.getD 11 undef = .bool false := h.dep ⟨2, .data⟩ (by simp) rfl 11 rfl
          go_simp
          exact hK (.bool false) wc (Chg.refl _ wc) rfl trivial
        · intro ac wc h K hK
          have b0 : ac.tmps.getD 0 undef = .pointer (some ⟨J, 0, none⟩) := (h.base 0 (by decide)).trans rfl
          have g12 : ac.tmps[12]? = some (.bool false) := getElem_of_getD (h.dep ⟨3, .guard⟩ (by simp) rfl 12 rfl)
          go_simp
          exact hK (.pointer (some ⟨J, 0, none⟩)) wc (Chg.refl _ wc) rfl trivial
        · intro ac wc h K hK
          have d13 : ac.tmps.getD 13 undef = .pointer (some ⟨J, 0, none⟩) := h.dep ⟨4, .data⟩ (by simp) rfl 13 rfl
          have g12 : ac.tmps[12]? = some (.bool false) := getElem_of_getD (h.dep ⟨3, .guard⟩ (by simp) rfl 12 rfl)
          go_simp
          refine (Snapshot_calls t J S jn b0 wc h.pre HB0.out HBL.out).mono ?_
          rintro e w1 ⟨v, rfl, hv, hc1⟩
          exact hK v w1 hc1 ⟨_, hv⟩ trivial
        · intro ac wc h K hK
          obtain ⟨v14, e14, d14⟩ : ∃ x, ac.tmps.getD 14 undef = x ∧ (fun (v : Value) (w : World) => ∃ b, OwnB w b v b0) x wc := ⟨_, rfl, h.dep ⟨5, .data⟩ (by simp) rfl 14 rfl⟩
          have g12 : ac.tmps[12]? = some (.bool false) := getElem_of_getD (h.dep ⟨3, .guard⟩ (by simp) rfl 12 rfl)
          obtain ⟨b, hb⟩ := d14
          have hq := run_toString wc 5 _ _ hb.isB
          clear hb
          go_simp
          exact hK (.string (strOf b0)) wc (Chg.refl _ wc) rfl trivial
        · intro ac wc h K hK
          have b1 : ac.tmps.getD 1 undef = .slice (some A) n ucap := (h.base 1 (by decide)).trans rfl
          have g12 : ac.tmps[12]? = some (.bool false) := getElem_of_getD (h.dep ⟨3, .guard⟩ (by simp) rfl 12 rfl)
          go_simp
          exact hK (.slice (some A) n ucap) wc (Chg.refl _ wc) rfl trivial
        · intro ac wc h K hK
          have d16 : ac.tmps.getD 16 undef = .slice (some A) n ucap := h.dep ⟨7, .data⟩ (by simp) rfl 16 rfl
          have g12 : ac.tmps[12]? = some (.bool false) := getElem_of_getD (h.dep ⟨3, .guard⟩ (by simp) rfl 12 rfl)
          have hn1 := HN1.out
          have hpos : 0 < n := by omega
          go_simp
          exact hK (.pointer (some A)) wc (Chg.refl _ wc) rfl trivial
        · intro ac wc h K hK
          have d17 : ac.tmps.getD 17 undef = .pointer (some A) := h.dep ⟨8, .data⟩ (by simp) rfl 17 rfl
          have g12 : ac.tmps[12]? = some (.bool false) := getElem_of_getD (h.dep ⟨3, .guard⟩ (by simp) rfl 12 rfl)
          have hq : wc.cell? A = some (.string s0) := h.pre
          go_simp
          exact hK (.string s0) wc (Chg.refl _ wc) rfl trivial
        · intro ac wc h K hK
          have d15 : ac.tmps.getD 15 undef = .string (strOf b0) := h.dep ⟨6, .data⟩ (by simp) rfl 15 rfl
          have d18 : ac.tmps.getD 18 undef = .string s0 := h.dep ⟨9, .data⟩ (by simp) rfl 18 rfl
          have g12 : ac.tmps[12]? = some (.bool false) := getElem_of_getD (h.dep ⟨3, .guard⟩ (by simp) rfl 12 rfl)
          have hq := HX.out
          go_simp
          exact hK (.bool false) wc (Chg.refl _ wc) rfl trivial
        · intro ac wc h K hK
          have d12 : ac.tmps.getD 12 undef = .bool false := h.dep ⟨3, .data⟩ (by simp) rfl 12 rfl
          have d19 : ac.tmps.getD 19 undef = .bool false := h.dep ⟨10, .data⟩ (by simp) rfl 19 rfl
          go_simp
          exact hK (.bool false) wc (Chg.refl _ wc) rfl trivial
        · intro ac wc h K hK
          have d20 : ac.tmps.getD 20 undef = .bool false := h.dep ⟨11, .data⟩ (by simp) rfl 20 rfl
          go_simp
          exact hK (.bool false) wc (Chg.refl _ wc) rfl trivial
        · intro ac wc h K hK
          have b5 : ac.tmps.getD 5 undef = .slice ro m rc := (h.base 5 (by decide)).trans rfl
          have g21 : ac.tmps[21]? = some (.bool false) := getElem_of_getD (h.dep ⟨12, .guard⟩ (by simp) rfl 21 rfl)
          go_simp
          exact hK (.slice ro m rc) wc (Chg.refl _ wc) rfl trivial
        · intro ac wc h K hK
          have d22 : ac.tmps.getD 22 undef = .slice ro m rc := h.dep ⟨13, .data⟩ (by simp) rfl 22 rfl
          have g21 : ac.tmps[21]? = some (.bool false) := getElem_of_getD (h.dep ⟨12, .guard⟩ (by simp) rfl 21 rfl)
          go_simp
          exact hK (.int .i64 (m : Int)) wc (Chg.refl _ wc) rfl trivial
        · intro ac wc h K hK
          have b1 : ac.tmps.getD 1 undef = .slice (some A) n ucap := (h.base 1 (by decide)).trans rfl
          have g21 : ac.tmps[21]? = some (.bool false) := getElem_of_getD (h.dep ⟨12, .guard⟩ (by simp) rfl 21 rfl)
          go_simp
          exact hK (.slice (some A) n ucap) wc (Chg.refl _ wc) rfl trivial
        · intro ac wc h K hK
          have d24 : ac.tmps.getD 24 undef = .slice (some A) n ucap := h.dep ⟨15, .data⟩ (by simp) rfl 24 rfl
          have g21 : ac.tmps[21]? = some (.bool false) := getElem_of_getD (h.dep ⟨12, .guard⟩ (by simp) rfl 21 rfl)
          go_simp
          exact hK (.int .i64 (n : Int)) wc (Chg.refl _ wc) rfl trivial
        · intro ac wc h K hK
          have d25 : ac.tmps.getD 25 undef = .int .i64 (n : Int) := h.dep ⟨16, .data⟩ (by simp) rfl 25 rfl
          have g21 : ac.tmps[21]? = some (.bool false) := getElem_of_getD (h.dep ⟨12, .guard⟩ (by simp) rfl 21 rfl)
          have hn1 := HN1.out
          have hw : IntKind.i64.wrap ((n : Int) - 1) = (n : Int) - 1 := by simp [IntKind.wrap, IntKind.bits, IntKind.signed]; omega
          go_simp
          exact hK (.int .i64 ((n : Int) - 1)) wc (Chg.refl _ wc) rfl trivial
        · intro ac wc h K hK
          have d23 : ac.tmps.getD 23 undef = .int .i64 (m : Int) := h.dep ⟨14, .data⟩ (by simp) rfl 23 rfl
          have d26 : ac.tmps.getD 26 undef = .int .i64 ((n : Int) - 1) := h.dep ⟨17, .data⟩ (by simp) rfl 26 rfl
          have g21 : ac.tmps[21]? = some (.bool false) := getElem_of_getD (h.dep ⟨12, .guard⟩ (by simp) rfl 21 rfl)
          have hq := HY.out
          go_simp
          exact hK (.bool false) wc (Chg.refl _ wc) rfl trivial
        · intro ac wc h K hK
          have d21 : ac.tmps.getD 21 undef = .bool false := h.dep ⟨12, .data⟩ (by simp) rfl 21 rfl
          have d27 : ac.tmps.getD 27 undef = .bool false := h.dep ⟨18, .data⟩ (by simp) rfl 27 rfl
          go_simp
          exact hK (.bool false) wc (Chg.refl _ wc) rfl trivial
      intro acP wcP hc hall hpsi hput
      obtain ⟨x5, e5, d5⟩ : ∃ x, acP.tmps.getD 14 undef = x ∧ (fun (v : Value) (w : World) => ∃ b, OwnB w b v b0) x wcP := ⟨_, rfl, hall 5 14 rfl⟩
      have hact := hput [(9, .slice (some A) n ucap), (10, .int .i64 (n : Int)), (11, .bool false), (12, .bool false), (13, .pointer (some ⟨J, 0, none⟩)), (14, x5), (15, .string (strOf b0)), (16, .slice (some A) n ucap), (17, .pointer (some A)), (18, .string s0), (19, .bool false), (20, .bool false), (21, .bool false), (22, .slice ro m rc), (23, .int .i64 (m : Int)), (24, .slice (some A) n ucap), (25, .int .i64 (n : Int)), (26, .int .i64 ((n : Int) - 1)), (27, .bool false), (28, .bool false)] rfl ⟨hall 0 9 rfl, hall 1 10 rfl, hall 2 11 rfl, hall 3 12 rfl, hall 4 13 rfl, e5, hall 6 15 rfl, hall 7 16 rfl, hall 8 17 rfl, hall 9 18 rfl, hall 10 19 rfl, hall 11 20 rfl, hall 12 21 rfl, hall 13 22 rfl, hall 14 23 rfl, hall 15 24 rfl, hall 16 25 rfl, hall 17 26 rfl, hall 18 27 rfl, hall 19 28 rfl, trivial⟩
      clear hput hall
      subst hact
      have HRP := Lib.hid (show Chg [] w1 wcP from hc)
      have HC2 := Lib.hid (HC1.out.then (show Chg [] w1 wcP from hc))
      clear hpsi hc d5 p
      simp only [Act.puts, Act.put]
      go_simp
      go_wp2_with fail
      go_loopw [31] (fun i wr => ∃ k : Nat, k ≤ m ∧ i = .int .i64 k ∧ rest.take k = asBytes (srest.take k) ∧ Chg [] wcP wr) (fun i _ => m - (intOf i).toNat)
      case atStart => exact ⟨0, by omega, rfl, rfl, Chg.refl _ _⟩
      case round =>
        obtain ⟨k, hk, rfl, hsame, hc⟩ := hrel
        have HSame := Lib.hid hsame
        have HC := Lib.hid hc
        clear hsame hc
        by_cases hlt : k < m
        · have hi2 : (k : Int) < (m : Int) := by omega
          have hi3 : (k : Int) + 1 < (n : Int) := by omega
          obtain ⟨b, hb⟩ : ∃ b, rest[k]? = some b := ⟨_, List.getElem?_eq_getElem (by rw [HMe.out]; exact hlt)⟩
          obtain ⟨s, hs⟩ : ∃ s, srest[k]? = some s := ⟨_, List.getElem?_eq_getElem (by have := HNe.out; omega)⟩
          obtain ⟨g, x, rfl, hx, hxb⟩ := HRc.out k b hb
          have ha := HUs.out k s hs
          have hcw := HC2.out.then HC.out
          have hx2 := ((HC.out.cell ((show Chg [] w1 wcP from HRP.out).cell hx (by simp)) (by simp)))
          have ha2 := hcw.cell ha (by simp)
          have hq : ∀ m, (convert 26 9 x).run Try.prog (wr.drewN m) = .ok (.string (strOf b)) (wr.drewN m) := fun m => run_toString _ 5 _ _ (((hxb.then HRP.out).then HC.out).then ((Chg.refl [] wr).drewN m))
          have HB := Lib.hid hb
          have HSs := Lib.hid hs
          have hbs2 : asBytes (srest.take (k + 1)) = asBytes (srest.take k) ++ [s.data.toList] := by
            unfold asBytes
            rw [List.take_add_one, HSs.out, List.map_append]; rfl
          have hlk2 : rest.take (k + 1) = rest.take k ++ [b] := by rw [List.take_add_one, HB.out]; rfl
          have H2 := Lib.hid (And.intro hbs2 hlk2)
          clear hbs2 hlk2 hb hs hx ha hcw
          rw [Nat.add_comm 1 k] at ha2
          have HX2 := Lib.hid hx2
          have HXB2 := Lib.hid ((hxb.then HRP.out).then HC.out)
          have HA2 := Lib.hid ha2
          have HK := Lib.hid hlt
          have HK2 := Lib.hid (show k + 1 < n by omega)
          clear hxb hx2 ha2 hq
          by_cases heq : b = s.data.toList
          · have hbs : strOf b = s := by rw [heq, strOf_of]
            have HE2 := Lib.hid heq
            have HZ := Lib.hid (show ((strOf b).toList == s.toList) = true by rw [hbs]; simp)
            clear heq hbs
            go_wp2_with fail
            let p : Plan3 := {
              anc := [[], [], [0, 1], [0, 1, 2], [0, 1, 2, 3], [], [], [6], [5, 6, 7], [5, 6, 7, 8], [0, 1, 2, 3, 4, 5, 6, 7, 8, 9]]
              rows := fun j => []
              all := []
              Pre := fun i w => match i with
                | 3 => w.cell? ⟨g, k, none⟩ = some x
                | 4 => IsB w 5 x b
                | 9 => w.cell? (A.add (k + 1)) = some (.string s)
                | _ => True
              Φ := fun i v w => match i with
                | 0 => v = .slice (some ⟨g, 0, none⟩) m rc
                | 1 => v = .int .i64 (k : Int)
                | 2 => v = .pointer (some ⟨g, k, none⟩)
                | 3 => v = x
                | 4 => v = .string (strOf b)
                | 5 => v = .slice (some A) n ucap
                | 6 => v = .int .i64 (k : Int)
                | 7 => v = .int .i64 ((k + 1 : Nat) : Int)
                | 8 => v = .pointer (some (A.add (k + 1)))
                | 9 => v = .string s
                | 10 => v = .bool false
                | _ => True
              Ψ := fun i w => match i with
                | _ => True
              sub := by
                intro j x hx
                exact hx
              pre := by
                intro i j w w1 hij hn h hc
                match i, h, hij, hn with
                | 0, h, hij, hn => exact trivial
                | 1, h, hij, hn => exact trivial
                | 2, h, hij, hn => exact trivial
                | 3, h, hij, hn => exact (by exact hc.cell h (by simp))
                | 4, h, hij, hn => exact (by exact h.then hc)
                | 5, h, hij, hn => exact trivial
                | 6, h, hij, hn => exact trivial
                | 7, h, hij, hn => exact trivial
                | 8, h, hij, hn => exact trivial
                | 9, h, hij, hn => exact (by exact hc.cell h (by simp))
                | 10, h, hij, hn => exact trivial
                | _ + 11, _, _, _ => trivial
              phi := by
                intro i j v w w1 hij hn h hc
                match i, h, hij, hn with
                | 0, h, hij, hn => exact h
                | 1, h, hij, hn => exact h
                | 2, h, hij, hn => exact h
                | 3, h, hij, hn => exact h
                | 4, h, hij, hn => exact h
                | 5, h, hij, hn => exact h
                | 6, h, hij, hn => exact h
                | 7, h, hij, hn => exact h
                | 8, h, hij, hn => exact h
                | 9, h, hij, hn => exact h
                | 10, h, hij, hn => exact h
                | _ + 11, _, _, _ => trivial
              psi := by
                intro i j w w1 hij hn h hc
                match i, h, hij, hn with
                | 0, h, hij, hn => exact trivial
                | 1, h, hij, hn => exact trivial
                | 2, h, hij, hn => exact trivial
                | 3, h, hij, hn => exact trivial
                | 4, h, hij, hn => exact trivial
                | 5, h, hij, hn => exact trivial
                | 6, h, hij, hn => exact trivial
                | 7, h, hij, hn => exact trivial
                | 8, h, hij, hn => exact trivial
                | 9, h, hij, hn => exact trivial
                | 10, h, hij, hn => exact trivial
                | _ + 11, _, _, _ => trivial }
            refine wp_region_each6 (by kernel_rfl) p ?hpreU (by kernel_rfl) (by kernel_rfl) (by kernel_rfl) (by kernel_rfl) ?hendU ?hstepsU
            case hpreU =>
              intro i
              match i with
              | 0 => exact trivial
              | 1 => exact trivial
              | 2 => exact trivial
              | 3 => exact HX2.out
              | 4 => exact HXB2.out
              | 5 => exact trivial
              | 6 => exact trivial
              | 7 => exact trivial
              | 8 => exact trivial
              | 9 => exact HA2.out
              | 10 => exact trivial
              | _ + 11 => trivial
            case hstepsU =>
              refine ⟨?_, ?_, ?_, ?_, ?_, ?_, ?_, ?_, ?_, ?_, ?_, trivial⟩
              · intro ac wc h K hK
                have b5 : ac.tmps.getD 5 undef = .slice (some ⟨g, 0, none⟩) m rc := (h.base 5 (by decide)).trans rfl
                go_simp
                exact hK (.slice (some ⟨g, 0, none⟩) m rc) wc (Chg.refl _ wc) rfl trivial
              · intro ac wc h K hK
                have b6 : ac.tmps.getD 6 undef = .int .i64 (k : Int) := (h.base 6 (by decide)).trans rfl
                go_simp
                exact hK (.int .i64 (k : Int)) wc (Chg.refl _ wc) rfl trivial
              · intro ac wc h K hK
                have d34 : ac.tmps.getD 34 undef = .slice (some ⟨g, 0, none⟩) m rc := h.dep ⟨0, .data⟩ (by simp) rfl 34 rfl
                have d35 : ac.tmps.getD 35 undef = .int .i64 (k : Int) := h.dep ⟨1, .data⟩ (by simp) rfl 35 rfl
                have hq := HK.out
                go_simp
                exact hK (.pointer (some ⟨g, k, none⟩)) wc (Chg.refl _ wc) rfl trivial
              · intro ac wc h K hK
                have d36 : ac.tmps.getD 36 undef = .pointer (some ⟨g, k, none⟩) := h.dep ⟨2, .data⟩ (by simp) rfl 36 rfl
                have hq : wc.cell? ⟨g, k, none⟩ = some x := h.pre
                go_simp
                exact hK (x) wc (Chg.refl _ wc) rfl trivial
              · intro ac wc h K hK
                have d37 : ac.tmps.getD 37 undef = x := h.dep ⟨3, .data⟩ (by simp) rfl 37 rfl
                have hq := run_toString wc 5 x b h.pre
                go_simp
                exact hK (.string (strOf b)) wc (Chg.refl _ wc) rfl trivial
              · intro ac wc h K hK
                have b1 : ac.tmps.getD 1 undef = .slice (some A) n ucap := (h.base 1 (by decide)).trans rfl
                go_simp
                exact hK (.slice (some A) n ucap) wc (Chg.refl _ wc) rfl trivial
              · intro ac wc h K hK
                have b6 : ac.tmps.getD 6 undef = .int .i64 (k : Int) := (h.base 6 (by decide)).trans rfl
                go_simp
                exact hK (.int .i64 (k : Int)) wc (Chg.refl _ wc) rfl trivial
              · intro ac wc h K hK
                have d40 : ac.tmps.getD 40 undef = .int .i64 (k : Int) := h.dep ⟨6, .data⟩ (by simp) rfl 40 rfl
                have hn9 := HN1.out
                have hk9 := HK.out
                have hw : IntKind.i64.wrap ((k : Int) + 1) = ((k + 1 : Nat) : Int) := by simp [IntKind.wrap, IntKind.bits, IntKind.signed]; omega
                have HW := Lib.hid hw
                clear hw
                go_simp
                exact hK _ wc (Chg.refl _ wc) (congrArg (Value.int .i64) HW.out) trivial
              · intro ac wc h K hK
                have d39 : ac.tmps.getD 39 undef = .slice (some A) n ucap := h.dep ⟨5, .data⟩ (by simp) rfl 39 rfl
                have d41 : ac.tmps.getD 41 undef = .int .i64 ((k + 1 : Nat) : Int) := h.dep ⟨7, .data⟩ (by simp) rfl 41 rfl
                have hq := HK2.out
                go_simp
                exact hK (.pointer (some (A.add (k + 1)))) wc (Chg.refl _ wc) rfl trivial
              · intro ac wc h K hK
                have d42 : ac.tmps.getD 42 undef = .pointer (some (A.add (k + 1))) := h.dep ⟨8, .data⟩ (by simp) rfl 42 rfl
                have h9 : wc.cell? (A.add (k + 1)) = some (.string s) := h.pre
                rw [add_succ_at] at h9
                go_simp
                exact hK (.string s) wc (Chg.refl _ wc) rfl trivial
              · intro ac wc h K hK
                have d38 : ac.tmps.getD 38 undef = .string (strOf b) := h.dep ⟨4, .data⟩ (by simp) rfl 38 rfl
                have d43 : ac.tmps.getD 43 undef = .string s := h.dep ⟨9, .data⟩ (by simp) rfl 43 rfl
                have hq := HZ.out
                go_simp
                exact hK (.bool false) wc (Chg.refl _ wc) rfl trivial
            intro acU wcU hc hall hpsi hput
            have hact := hput [(34, .slice (some ⟨g, 0, none⟩) m rc), (35, .int .i64 (k : Int)), (36, .pointer (some ⟨g, k, none⟩)), (37, x), (38, .string (strOf b)), (39, .slice (some A) n ucap), (40, .int .i64 (k : Int)), (41, .int .i64 ((k + 1 : Nat) : Int)), (42, .pointer (some (A.add (k + 1)))), (43, .string s), (44, .bool false)] rfl ⟨hall 0 34 rfl, hall 1 35 rfl, hall 2 36 rfl, hall 3 37 rfl, hall 4 38 rfl, hall 5 39 rfl, hall 6 40 rfl, hall 7 41 rfl, hall 8 42 rfl, hall 9 43 rfl, hall 10 44 rfl, trivial⟩
            clear hput hall
            subst hact
            have HCR := Lib.hid (show Chg [] wr wcU from hc)
            clear hpsi hc p
            simp only [Act.puts, Act.put]
            go_simp
            go_wp2_with fail
            go_roundw
            case rel =>
              refine ⟨k + 1, by omega, by go_num, ?_, HC.out.then HCR.out⟩
              rw [H2.out.1, H2.out.2, HSame.out, HE2.out]
            case measure => simp [intOf]; omega
          · have HZ := Lib.hid (show ((strOf b).toList == s.toList) = false by
              rw [ByteArray.toList_eq, ByteArray.toList_eq, strOf_toList, beq_eq_false_iff_ne]; exact heq)
            have hdec : decide (jn.bodies = asBytes (s0 :: srest)) = false := by
              rw [decide_eq_false_iff_not, HBe.out, asBytes_cons]
              intro h
              simp only [List.cons.injEq] at h
              have h3 : rest.take (k + 1) = asBytes (srest.take (k + 1)) := by rw [h.2]; unfold asBytes; rw [List.map_take]
              rw [H2.out.1, H2.out.2, HSame.out] at h3
              have := List.append_cancel_left h3
              simp at this
              exact heq this
            have HD := Lib.hid hdec
            clear heq hdec
            go_wp2_with fail
            let p : Plan3 := {
              anc := [[], [], [0, 1], [0, 1, 2], [0, 1, 2, 3], [], [], [6], [5, 6, 7], [5, 6, 7, 8], [0, 1, 2, 3, 4, 5, 6, 7, 8, 9]]
              rows := fun j => []
              all := []
              Pre := fun i w => match i with
                | 3 => w.cell? ⟨g, k, none⟩ = some x
                | 4 => IsB w 5 x b
                | 9 => w.cell? (A.add (k + 1)) = some (.string s)
                | _ => True
              Φ := fun i v w => match i with
                | 0 => v = .slice (some ⟨g, 0, none⟩) m rc
                | 1 => v = .int .i64 (k : Int)
                | 2 => v = .pointer (some ⟨g, k, none⟩)
                | 3 => v = x
                | 4 => v = .string (strOf b)
                | 5 => v = .slice (some A) n ucap
                | 6 => v = .int .i64 (k : Int)
                | 7 => v = .int .i64 ((k + 1 : Nat) : Int)
                | 8 => v = .pointer (some (A.add (k + 1)))
                | 9 => v = .string s
                | 10 => v = .bool true
                | _ => True
              Ψ := fun i w => match i with
                | _ => True
              sub := by
                intro j x hx
                exact hx
              pre := by
                intro i j w w1 hij hn h hc
                match i, h, hij, hn with
                | 0, h, hij, hn => exact trivial
                | 1, h, hij, hn => exact trivial
                | 2, h, hij, hn => exact trivial
                | 3, h, hij, hn => exact (by exact hc.cell h (by simp))
                | 4, h, hij, hn => exact (by exact h.then hc)
                | 5, h, hij, hn => exact trivial
                | 6, h, hij, hn => exact trivial
                | 7, h, hij, hn => exact trivial
                | 8, h, hij, hn => exact trivial
                | 9, h, hij, hn => exact (by exact hc.cell h (by simp))
                | 10, h, hij, hn => exact trivial
                | _ + 11, _, _, _ => trivial
              phi := by
                intro i j v w w1 hij hn h hc
                match i, h, hij, hn with
                | 0, h, hij, hn => exact h
                | 1, h, hij, hn => exact h
                | 2, h, hij, hn => exact h
                | 3, h, hij, hn => exact h
                | 4, h, hij, hn => exact h
                | 5, h, hij, hn => exact h
                | 6, h, hij, hn => exact h
                | 7, h, hij, hn => exact h
                | 8, h, hij, hn => exact h
                | 9, h, hij, hn => exact h
                | 10, h, hij, hn => exact h
                | _ + 11, _, _, _ => trivial
              psi := by
                intro i j w w1 hij hn h hc
                match i, h, hij, hn with
                | 0, h, hij, hn => exact trivial
                | 1, h, hij, hn => exact trivial
                | 2, h, hij, hn => exact trivial
                | 3, h, hij, hn => exact trivial
                | 4, h, hij, hn => exact trivial
                | 5, h, hij, hn => exact trivial
                | 6, h, hij, hn => exact trivial
                | 7, h, hij, hn => exact trivial
                | 8, h, hij, hn => exact trivial
                | 9, h, hij, hn => exact trivial
                | 10, h, hij, hn => exact trivial
                | _ + 11, _, _, _ => trivial }
            refine wp_region_each6 (by kernel_rfl) p ?hpreV (by kernel_rfl) (by kernel_rfl) (by kernel_rfl) (by kernel_rfl) ?hendV ?hstepsV
            case hpreV =>
              intro i
              match i with
              | 0 => exact trivial
              | 1 => exact trivial
              | 2 => exact trivial
              | 3 => exact HX2.out
              | 4 => exact HXB2.out
              | 5 => exact trivial
              | 6 => exact trivial
              | 7 => exact trivial
              | 8 => exact trivial
              | 9 => exact HA2.out
              | 10 => exact trivial
              | _ + 11 => trivial
            case hstepsV =>
              refine ⟨?_, ?_, ?_, ?_, ?_, ?_, ?_, ?_, ?_, ?_, ?_, trivial⟩
              · intro ac wc h K hK
                have b5 : ac.tmps.getD 5 undef = .slice (some ⟨g, 0, none⟩) m rc := (h.base 5 (by decide)).trans rfl
                go_simp
                exact hK (.slice (some ⟨g, 0, none⟩) m rc) wc (Chg.refl _ wc) rfl trivial
              · intro ac wc h K hK
                have b6 : ac.tmps.getD 6 undef = .int .i64 (k : Int) := (h.base 6 (by decide)).trans rfl
                go_simp
                exact hK (.int .i64 (k : Int)) wc (Chg.refl _ wc) rfl trivial
              · intro ac wc h K hK
                have d34 : ac.tmps.getD 34 undef = .slice (some ⟨g, 0, none⟩) m rc := h.dep ⟨0, .data⟩ (by simp) rfl 34 rfl
                have d35 : ac.tmps.getD 35 undef = .int .i64 (k : Int) := h.dep ⟨1, .data⟩ (by simp) rfl 35 rfl
                have hq := HK.out
                go_simp
                exact hK (.pointer (some ⟨g, k, none⟩)) wc (Chg.refl _ wc) rfl trivial
              · intro ac wc h K hK
                have d36 : ac.tmps.getD 36 undef = .pointer (some ⟨g, k, none⟩) := h.dep ⟨2, .data⟩ (by simp) rfl 36 rfl
                have hq : wc.cell? ⟨g, k, none⟩ = some x := h.pre
                go_simp
                exact hK (x) wc (Chg.refl _ wc) rfl trivial
              · intro ac wc h K hK
                have d37 : ac.tmps.getD 37 undef = x := h.dep ⟨3, .data⟩ (by simp) rfl 37 rfl
                have hq := run_toString wc 5 x b h.pre
                go_simp
                exact hK (.string (strOf b)) wc (Chg.refl _ wc) rfl trivial
              · intro ac wc h K hK
                have b1 : ac.tmps.getD 1 undef = .slice (some A) n ucap := (h.base 1 (by decide)).trans rfl
                go_simp
                exact hK (.slice (some A) n ucap) wc (Chg.refl _ wc) rfl trivial
              · intro ac wc h K hK
                have b6 : ac.tmps.getD 6 undef = .int .i64 (k : Int) := (h.base 6 (by decide)).trans rfl
                go_simp
                exact hK (.int .i64 (k : Int)) wc (Chg.refl _ wc) rfl trivial
              · intro ac wc h K hK
                have d40 : ac.tmps.getD 40 undef = .int .i64 (k : Int) := h.dep ⟨6, .data⟩ (by simp) rfl 40 rfl
                have hn9 := HN1.out
                have hk9 := HK.out
                have hw : IntKind.i64.wrap ((k : Int) + 1) = ((k + 1 : Nat) : Int) := by simp [IntKind.wrap, IntKind.bits, IntKind.signed]; omega
                have HW := Lib.hid hw
                clear hw
                go_simp
                exact hK _ wc (Chg.refl _ wc) (congrArg (Value.int .i64) HW.out) trivial
              · intro ac wc h K hK
                have d39 : ac.tmps.getD 39 undef = .slice (some A) n ucap := h.dep ⟨5, .data⟩ (by simp) rfl 39 rfl
                have d41 : ac.tmps.getD 41 undef = .int .i64 ((k + 1 : Nat) : Int) := h.dep ⟨7, .data⟩ (by simp) rfl 41 rfl
                have hq := HK2.out
                go_simp
                exact hK (.pointer (some (A.add (k + 1)))) wc (Chg.refl _ wc) rfl trivial
              · intro ac wc h K hK
                have d42 : ac.tmps.getD 42 undef = .pointer (some (A.add (k + 1))) := h.dep ⟨8, .data⟩ (by simp) rfl 42 rfl
                have h9 : wc.cell? (A.add (k + 1)) = some (.string s) := h.pre
                rw [add_succ_at] at h9
                go_simp
                exact hK (.string s) wc (Chg.refl _ wc) rfl trivial
              · intro ac wc h K hK
                have d38 : ac.tmps.getD 38 undef = .string (strOf b) := h.dep ⟨4, .data⟩ (by simp) rfl 38 rfl
                have d43 : ac.tmps.getD 43 undef = .string s := h.dep ⟨9, .data⟩ (by simp) rfl 43 rfl
                have hq := HZ.out
                go_simp
                exact hK (.bool true) wc (Chg.refl _ wc) rfl trivial
            intro acV wcV hc hall hpsi hput
            have hact := hput [(34, .slice (some ⟨g, 0, none⟩) m rc), (35, .int .i64 (k : Int)), (36, .pointer (some ⟨g, k, none⟩)), (37, x), (38, .string (strOf b)), (39, .slice (some A) n ucap), (40, .int .i64 (k : Int)), (41, .int .i64 ((k + 1 : Nat) : Int)), (42, .pointer (some (A.add (k + 1)))), (43, .string s), (44, .bool true)] rfl ⟨hall 0 34 rfl, hall 1 35 rfl, hall 2 36 rfl, hall 3 37 rfl, hall 4 38 rfl, hall 5 39 rfl, hall 6 40 rfl, hall 7 41 rfl, hall 8 42 rfl, hall 9 43 rfl, hall 10 44 rfl, trivial⟩
            clear hput hall
            subst hact
            have HCR := Lib.hid (show Chg [] wr wcV from hc)
            clear hpsi hc p
            simp only [Act.puts, Act.put]
            go_simp
            go_wp2_with fail
            go_ret
            rw [HD.out]
            exact ⟨rfl, (HC2.out.then HC.out).then HCR.out⟩
        · obtain rfl : k = m := by omega
          have hi2 : ¬ (k : Int) < (k : Int) := by omega
          have hdec : decide (jn.bodies = asBytes (s0 :: srest)) = true := by
            rw [decide_eq_true_iff, HBe.out, asBytes_cons, HE.out]
            have h := HSame.out
            rw [List.take_of_length_le (by rw [HMe.out]; exact Nat.le_refl _), List.take_of_length_le (by have := HNe.out; omega)] at h
            rw [h]
          have HD := Lib.hid hdec
          clear hdec
          go_wp2_with fail
          go_ret
          rw [HD.out]
          exact ⟨rfl, HC2.out.then HC.out⟩
    · have HY := Lib.hid (show ((m : Int) != (n : Int) - 1) = true by rw [bne_iff_ne]; omega)
      have hdec : decide (jn.bodies = asBytes (s0 :: srest)) = false := by
        rw [decide_eq_false_iff_not, HBe.out]
        intro h
        have h1 := congrArg List.length h
        simp [asBytes] at h1
        have := HMe.out
        have := HNe.out
        omega
      have HD := Lib.hid hdec
      clear hE hbs hdec
      let p : Plan3 := {
        anc := [[], [0], [0, 1], [0, 1, 2], [0, 1, 2, 3], [0, 1, 2, 3, 4], [0, 1, 2, 3, 4, 5], [0, 1, 2, 3], [0, 1, 2, 3, 7], [0, 1, 2, 3, 7, 8], [0, 1, 2, 3, 4, 5, 6, 7, 8, 9], [0, 1, 2, 3, 4, 5, 6, 7, 8, 9, 10], [0, 1, 2, 3, 4, 5, 6, 7, 8, 9, 10, 11], [0, 1, 2, 3, 4, 5, 6, 7, 8, 9, 10, 11, 12], [0, 1, 2, 3, 4, 5, 6, 7, 8, 9, 10, 11, 12, 13], [0, 1, 2, 3, 4, 5, 6, 7, 8, 9, 10, 11, 12], [0, 1, 2, 3, 4, 5, 6, 7, 8, 9, 10, 11, 12, 15], [0, 1, 2, 3, 4, 5, 6, 7, 8, 9, 10, 11, 12, 15, 16], [0, 1, 2, 3, 4, 5, 6, 7, 8, 9, 10, 11, 12, 13, 14, 15, 16, 17], [0, 1, 2, 3, 4, 5, 6, 7, 8, 9, 10, 11, 12, 13, 14, 15, 16, 17, 18]]
        rows := fun j => []
        all := []
        Pre := fun i w => match i with
          | 5 => JournalAt w t J S jn
          | 9 => w.cell? A = some (.string s0)
          | _ => True
        Φ := fun i v w => match i with
          | 0 => v = .slice (some A) n ucap
          | 1 => v = .int .i64 (n : Int)
          | 2 => v = .bool false
          | 3 => v = .bool false
          | 4 => v = .pointer (some ⟨J, 0, none⟩)
          | 5 => ∃ b, OwnB w b v b0
          | 6 => v = .string (strOf b0)
          | 7 => v = .slice (some A) n ucap
          | 8 => v = .pointer (some A)
          | 9 => v = .string s0
          | 10 => v = .bool false
          | 11 => v = .bool false
          | 12 => v = .bool false
          | 13 => v = .slice ro m rc
          | 14 => v = .int .i64 (m : Int)
          | 15 => v = .slice (some A) n ucap
          | 16 => v = .int .i64 (n : Int)
          | 17 => v = .int .i64 ((n : Int) - 1)
          | 18 => v = .bool true
          | 19 => v = .bool true
          | _ => True
        Ψ := fun i w => match i with
          | _ => True
        sub := by
          intro j x hx
          exact hx
        pre := by
          intro i j w w1 hij hn h hc
          match i, h, hij, hn with
          | 0, h, hij, hn => exact trivial
          | 1, h, hij, hn => exact trivial
          | 2, h, hij, hn => exact trivial
          | 3, h, hij, hn => exact trivial
          | 4, h, hij, hn => exact trivial
          | 5, h, hij, hn => exact (by exact h.then hc)
          | 6, h, hij, hn => exact trivial
          | 7, h, hij, hn => exact trivial
          | 8, h, hij, hn => exact trivial
          | 9, h, hij, hn => exact (by exact hc.cell h (by simp))
          | 10, h, hij, hn => exact trivial
          | 11, h, hij, hn => exact trivial
          | 12, h, hij, hn => exact trivial
          | 13, h, hij, hn => exact trivial
          | 14, h, hij, hn => exact trivial
          | 15, h, hij, hn => exact trivial
          | 16, h, hij, hn => exact trivial
          | 17, h, hij, hn => exact trivial
          | 18, h, hij, hn => exact trivial
          | 19, h, hij, hn => exact trivial
          | _ + 20, _, _, _ => trivial
        phi := by
          intro i j v w w1 hij hn h hc
          match i, h, hij, hn with
          | 0, h, hij, hn => exact h
          | 1, h, hij, hn => exact h
          | 2, h, hij, hn => exact h
          | 3, h, hij, hn => exact h
          | 4, h, hij, hn => exact h
          | 5, h, hij, hn => exact (by exact (h.elim fun b hb => ⟨b, hb.then hc⟩))
          | 6, h, hij, hn => exact h
          | 7, h, hij, hn => exact h
          | 8, h, hij, hn => exact h
          | 9, h, hij, hn => exact h
          | 10, h, hij, hn => exact h
          | 11, h, hij, hn => exact h
          | 12, h, hij, hn => exact h
          | 13, h, hij, hn => exact h
          | 14, h, hij, hn => exact h
          | 15, h, hij, hn => exact h
          | 16, h, hij, hn => exact h
          | 17, h, hij, hn => exact h
          | 18, h, hij, hn => exact h
          | 19, h, hij, hn => exact h
          | _ + 20, _, _, _ => trivial
        psi := by
          intro i j w w1 hij hn h hc
          match i, h, hij, hn with
          | 0, h, hij, hn => exact trivial
          | 1, h, hij, hn => exact trivial
          | 2, h, hij, hn => exact trivial
          | 3, h, hij, hn => exact trivial
          | 4, h, hij, hn => exact trivial
          | 5, h, hij, hn => exact trivial
          | 6, h, hij, hn => exact trivial
          | 7, h, hij, hn => exact trivial
          | 8, h, hij, hn => exact trivial
          | 9, h, hij, hn => exact trivial
          | 10, h, hij, hn => exact trivial
          | 11, h, hij, hn => exact trivial
          | 12, h, hij, hn => exact trivial
          | 13, h, hij, hn => exact trivial
          | 14, h, hij, hn => exact trivial
          | 15, h, hij, hn => exact trivial
          | 16, h, hij, hn => exact trivial
          | 17, h, hij, hn => exact trivial
          | 18, h, hij, hn => exact trivial
          | 19, h, hij, hn => exact trivial
          | _ + 20, _, _, _ => trivial }
      refine wp_region_each6 (by kernel_rfl) p ?hpreQ (by kernel_rfl) (by kernel_rfl) (by kernel_rfl) (by kernel_rfl) ?hendQ ?hstepsQ
      case hpreQ =>
        intro i
        match i with
        | 0 => exact trivial
        | 1 => exact trivial
        | 2 => exact trivial
        | 3 => exact trivial
        | 4 => exact trivial
        | 5 => exact HJ1.out
        | 6 => exact trivial
        | 7 => exact trivial
        | 8 => exact trivial
        | 9 => exact HCA.out
        | 10 => exact trivial
        | 11 => exact trivial
        | 12 => exact trivial
        | 13 => exact trivial
        | 14 => exact trivial
        | 15 => exact trivial
        | 16 => exact trivial
        | 17 => exact trivial
        | 18 => exact trivial
        | 19 => exact trivial
        | _ + 20 => trivial
      case hstepsQ =>
        refine ⟨?_, ?_, ?_, ?_, ?_, ?_, ?_, ?_, ?_, ?_, ?_, ?_, ?_, ?_, ?_, ?_, ?_, ?_, ?_, ?_, trivial⟩
        · intro ac wc h K hK
          have b1 : ac.tmps.getD 1 undef = .slice (some A) n ucap := (h.base 1 (by decide)).trans rfl
          go_simp
          exact hK (.slice (some A) n ucap) wc (Chg.refl _ wc) rfl trivial
        · intro ac wc h K hK
          have d9 : ac.tmps.getD 9 undef = .slice (some A) n ucap := h.dep ⟨0, .data⟩ (by simp) rfl 9 rfl
          go_simp
          exact hK (.int .i64 (n : Int)) wc (Chg.refl _ wc) rfl trivial
        · intro ac wc h K hK
          have d10 : ac.tmps.getD 10 undef = .int .i64 (n : Int) := h.dep ⟨1, .data⟩ (by simp) rfl 10 rfl
          have hn0 := HN0.out
          go_simp
          exact hK (.bool false) wc (Chg.refl _ wc) rfl trivial
        · intro ac wc h K hK
          have d11 : ac.tmps.getD 11 undef = .bool false := h.dep ⟨2, .data⟩ (by simp) rfl 11 rfl
          go_simp
          exact hK (.bool false) wc (Chg.refl _ wc) rfl trivial
        · intro ac wc h K hK
          have b0 : ac.tmps.getD 0 undef = .pointer (some ⟨J, 0, none⟩) := (h.base 0 (by decide)).trans rfl
          have g12 : ac.tmps[12]? = some (.bool false) := getElem_of_getD (h.dep ⟨3, .guard⟩ (by simp) rfl 12 rfl)
          go_simp
          exact hK (.pointer (some ⟨J, 0, none⟩)) wc (Chg.refl _ wc) rfl trivial
        · intro ac wc h K hK
          have d13 : ac.tmps.getD 13 undef = .pointer (some ⟨J, 0, none⟩) := h.dep ⟨4, .data⟩ (by simp) rfl 13 rfl
          have g12 : ac.tmps[12]? = some (.bool false) := getElem_of_getD (h.dep ⟨3, .guard⟩ (by simp) rfl 12 rfl)
          go_simp
          refine (Snapshot_calls t J S jn b0 wc h.pre HB0.out HBL.out).mono ?_
          rintro e w1 ⟨v, rfl, hv, hc1⟩
          exact hK v w1 hc1 ⟨_, hv⟩ trivial
        · intro ac wc h K hK
          obtain ⟨v14, e14, d14⟩ : ∃ x, ac.tmps.getD 14 undef = x ∧ (fun (v : Value) (w : World) => ∃ b, OwnB w b v b0) x wc := ⟨_, rfl, h.dep ⟨5, .data⟩ (by simp) rfl 14 rfl⟩
          have g12 : ac.tmps[12]? = some (.bool false) := getElem_of_getD (h.dep ⟨3, .guard⟩ (by simp) rfl 12 rfl)
          obtain ⟨b, hb⟩ := d14
          have hq := run_toString wc 5 _ _ hb.isB
          clear hb
          go_simp
          exact hK (.string (strOf b0)) wc (Chg.refl _ wc) rfl trivial
        · intro ac wc h K hK
          have b1 : ac.tmps.getD 1 undef = .slice (some A) n ucap := (h.base 1 (by decide)).trans rfl
          have g12 : ac.tmps[12]? = some (.bool false) := getElem_of_getD (h.dep ⟨3, .guard⟩ (by simp) rfl 12 rfl)
          go_simp
          exact hK (.slice (some A) n ucap) wc (Chg.refl _ wc) rfl trivial
        · intro ac wc h K hK
          have d16 : ac.tmps.getD 16 undef = .slice (some A) n ucap := h.dep ⟨7, .data⟩ (by simp) rfl 16 rfl
          have g12 : ac.tmps[12]? = some (.bool false) := getElem_of_getD (h.dep ⟨3, .guard⟩ (by simp) rfl 12 rfl)
          have hn1 := HN1.out
          have hpos : 0 < n := by omega
          go_simp
          exact hK (.pointer (some A)) wc (Chg.refl _ wc) rfl trivial
        · intro ac wc h K hK
          have d17 : ac.tmps.getD 17 undef = .pointer (some A) := h.dep ⟨8, .data⟩ (by simp) rfl 17 rfl
          have g12 : ac.tmps[12]? = some (.bool false) := getElem_of_getD (h.dep ⟨3, .guard⟩ (by simp) rfl 12 rfl)
          have hq : wc.cell? A = some (.string s0) := h.pre
          go_simp
          exact hK (.string s0) wc (Chg.refl _ wc) rfl trivial
        · intro ac wc h K hK
          have d15 : ac.tmps.getD 15 undef = .string (strOf b0) := h.dep ⟨6, .data⟩ (by simp) rfl 15 rfl
          have d18 : ac.tmps.getD 18 undef = .string s0 := h.dep ⟨9, .data⟩ (by simp) rfl 18 rfl
          have g12 : ac.tmps[12]? = some (.bool false) := getElem_of_getD (h.dep ⟨3, .guard⟩ (by simp) rfl 12 rfl)
          have hq := HX.out
          go_simp
          exact hK (.bool false) wc (Chg.refl _ wc) rfl trivial
        · intro ac wc h K hK
          have d12 : ac.tmps.getD 12 undef = .bool false := h.dep ⟨3, .data⟩ (by simp) rfl 12 rfl
          have d19 : ac.tmps.getD 19 undef = .bool false := h.dep ⟨10, .data⟩ (by simp) rfl 19 rfl
          go_simp
          exact hK (.bool false) wc (Chg.refl _ wc) rfl trivial
        · intro ac wc h K hK
          have d20 : ac.tmps.getD 20 undef = .bool false := h.dep ⟨11, .data⟩ (by simp) rfl 20 rfl
          go_simp
          exact hK (.bool false) wc (Chg.refl _ wc) rfl trivial
        · intro ac wc h K hK
          have b5 : ac.tmps.getD 5 undef = .slice ro m rc := (h.base 5 (by decide)).trans rfl
          have g21 : ac.tmps[21]? = some (.bool false) := getElem_of_getD (h.dep ⟨12, .guard⟩ (by simp) rfl 21 rfl)
          go_simp
          exact hK (.slice ro m rc) wc (Chg.refl _ wc) rfl trivial
        · intro ac wc h K hK
          have d22 : ac.tmps.getD 22 undef = .slice ro m rc := h.dep ⟨13, .data⟩ (by simp) rfl 22 rfl
          have g21 : ac.tmps[21]? = some (.bool false) := getElem_of_getD (h.dep ⟨12, .guard⟩ (by simp) rfl 21 rfl)
          go_simp
          exact hK (.int .i64 (m : Int)) wc (Chg.refl _ wc) rfl trivial
        · intro ac wc h K hK
          have b1 : ac.tmps.getD 1 undef = .slice (some A) n ucap := (h.base 1 (by decide)).trans rfl
          have g21 : ac.tmps[21]? = some (.bool false) := getElem_of_getD (h.dep ⟨12, .guard⟩ (by simp) rfl 21 rfl)
          go_simp
          exact hK (.slice (some A) n ucap) wc (Chg.refl _ wc) rfl trivial
        · intro ac wc h K hK
          have d24 : ac.tmps.getD 24 undef = .slice (some A) n ucap := h.dep ⟨15, .data⟩ (by simp) rfl 24 rfl
          have g21 : ac.tmps[21]? = some (.bool false) := getElem_of_getD (h.dep ⟨12, .guard⟩ (by simp) rfl 21 rfl)
          go_simp
          exact hK (.int .i64 (n : Int)) wc (Chg.refl _ wc) rfl trivial
        · intro ac wc h K hK
          have d25 : ac.tmps.getD 25 undef = .int .i64 (n : Int) := h.dep ⟨16, .data⟩ (by simp) rfl 25 rfl
          have g21 : ac.tmps[21]? = some (.bool false) := getElem_of_getD (h.dep ⟨12, .guard⟩ (by simp) rfl 21 rfl)
          have hn1 := HN1.out
          have hw : IntKind.i64.wrap ((n : Int) - 1) = (n : Int) - 1 := by simp [IntKind.wrap, IntKind.bits, IntKind.signed]; omega
          go_simp
          exact hK (.int .i64 ((n : Int) - 1)) wc (Chg.refl _ wc) rfl trivial
        · intro ac wc h K hK
          have d23 : ac.tmps.getD 23 undef = .int .i64 (m : Int) := h.dep ⟨14, .data⟩ (by simp) rfl 23 rfl
          have d26 : ac.tmps.getD 26 undef = .int .i64 ((n : Int) - 1) := h.dep ⟨17, .data⟩ (by simp) rfl 26 rfl
          have g21 : ac.tmps[21]? = some (.bool false) := getElem_of_getD (h.dep ⟨12, .guard⟩ (by simp) rfl 21 rfl)
          have hq := HY.out
          go_simp
          exact hK (.bool true) wc (Chg.refl _ wc) rfl trivial
        · intro ac wc h K hK
          have d21 : ac.tmps.getD 21 undef = .bool false := h.dep ⟨12, .data⟩ (by simp) rfl 21 rfl
          have d27 : ac.tmps.getD 27 undef = .bool true := h.dep ⟨18, .data⟩ (by simp) rfl 27 rfl
          go_simp
          exact hK (.bool true) wc (Chg.refl _ wc) rfl trivial
      intro acQ wcQ hc hall hpsi hput
      obtain ⟨x5, e5, d5⟩ : ∃ x, acQ.tmps.getD 14 undef = x ∧ (fun (v : Value) (w : World) => ∃ b, OwnB w b v b0) x wcQ := ⟨_, rfl, hall 5 14 rfl⟩
      have hact := hput [(9, .slice (some A) n ucap), (10, .int .i64 (n : Int)), (11, .bool false), (12, .bool false), (13, .pointer (some ⟨J, 0, none⟩)), (14, x5), (15, .string (strOf b0)), (16, .slice (some A) n ucap), (17, .pointer (some A)), (18, .string s0), (19, .bool false), (20, .bool false), (21, .bool false), (22, .slice ro m rc), (23, .int .i64 (m : Int)), (24, .slice (some A) n ucap), (25, .int .i64 (n : Int)), (26, .int .i64 ((n : Int) - 1)), (27, .bool true), (28, .bool true)] rfl ⟨hall 0 9 rfl, hall 1 10 rfl, hall 2 11 rfl, hall 3 12 rfl, hall 4 13 rfl, e5, hall 6 15 rfl, hall 7 16 rfl, hall 8 17 rfl, hall 9 18 rfl, hall 10 19 rfl, hall 11 20 rfl, hall 12 21 rfl, hall 13 22 rfl, hall 14 23 rfl, hall 15 24 rfl, hall 16 25 rfl, hall 17 26 rfl, hall 18 27 rfl, hall 19 28 rfl, trivial⟩
      clear hput hall
      subst hact
      have HRP := Lib.hid (show Chg [] w1 wcQ from hc)
      have HC2 := Lib.hid (HC1.out.then (show Chg [] w1 wcQ from hc))
      clear hpsi hc d5 p
      simp only [Act.puts, Act.put]
      go_simp
      go_wp2_with fail
      go_ret
      rw [HD.out]
      exact ⟨rfl, HC2.out⟩
  · have HX := Lib.hid (show ((strOf b0).toList == s0.toList) = false by
      rw [ByteArray.toList_eq, ByteArray.toList_eq, strOf_toList, beq_eq_false_iff_ne]; exact hE)
    have hdec : decide (jn.bodies = asBytes (s0 :: srest)) = false := by
      rw [decide_eq_false_iff_not, HBe.out, asBytes_cons]
      intro h
      simp only [List.cons.injEq] at h
      exact hE h.1
    have HD := Lib.hid hdec
    clear hE hdec
    let p : Plan3 := {
      anc := [[], [0], [0, 1], [0, 1, 2], [0, 1, 2, 3], [0, 1, 2, 3, 4], [0, 1, 2, 3, 4, 5], [0, 1, 2, 3], [0, 1, 2, 3, 7], [0, 1, 2, 3, 7, 8], [0, 1, 2, 3, 4, 5, 6, 7, 8, 9], [0, 1, 2, 3, 4, 5, 6, 7, 8, 9, 10], [0, 1, 2, 3, 4, 5, 6, 7, 8, 9, 10, 11], [0, 1, 2, 3, 4, 5, 6, 7, 8, 9, 10, 11, 12], [0, 1, 2, 3, 4, 5, 6, 7, 8, 9, 10, 11, 12, 13], [0, 1, 2, 3, 4, 5, 6, 7, 8, 9, 10, 11, 12], [0, 1, 2, 3, 4, 5, 6, 7, 8, 9, 10, 11, 12, 15], [0, 1, 2, 3, 4, 5, 6, 7, 8, 9, 10, 11, 12, 15, 16], [0, 1, 2, 3, 4, 5, 6, 7, 8, 9, 10, 11, 12, 13, 14, 15, 16, 17], [0, 1, 2, 3, 4, 5, 6, 7, 8, 9, 10, 11, 12, 13, 14, 15, 16, 17, 18]]
      rows := fun j => []
      all := []
      Pre := fun i w => match i with
        | 5 => JournalAt w t J S jn
        | 9 => w.cell? A = some (.string s0)
        | _ => True
      Φ := fun i v w => match i with
        | 0 => v = .slice (some A) n ucap
        | 1 => v = .int .i64 (n : Int)
        | 2 => v = .bool false
        | 3 => v = .bool false
        | 4 => v = .pointer (some ⟨J, 0, none⟩)
        | 5 => ∃ b, OwnB w b v b0
        | 6 => v = .string (strOf b0)
        | 7 => v = .slice (some A) n ucap
        | 8 => v = .pointer (some A)
        | 9 => v = .string s0
        | 10 => v = .bool true
        | 11 => v = .bool true
        | 12 => v = .bool true
        | 13 => v = undef
        | 14 => v = undef
        | 15 => v = undef
        | 16 => v = undef
        | 17 => v = undef
        | 18 => v = undef
        | 19 => v = .bool true
        | _ => True
      Ψ := fun i w => match i with
        | _ => True
      sub := by
        intro j x hx
        exact hx
      pre := by
        intro i j w w1 hij hn h hc
        match i, h, hij, hn with
        | 0, h, hij, hn => exact trivial
        | 1, h, hij, hn => exact trivial
        | 2, h, hij, hn => exact trivial
        | 3, h, hij, hn => exact trivial
        | 4, h, hij, hn => exact trivial
        | 5, h, hij, hn => exact (by exact h.then hc)
        | 6, h, hij, hn => exact trivial
        | 7, h, hij, hn => exact trivial
        | 8, h, hij, hn => exact trivial
        | 9, h, hij, hn => exact (by exact hc.cell h (by simp))
        | 10, h, hij, hn => exact trivial
        | 11, h, hij, hn => exact trivial
        | 12, h, hij, hn => exact trivial
        | 13, h, hij, hn => exact trivial
        | 14, h, hij, hn => exact trivial
        | 15, h, hij, hn => exact trivial
        | 16, h, hij, hn => exact trivial
        | 17, h, hij, hn => exact trivial
        | 18, h, hij, hn => exact trivial
        | 19, h, hij, hn => exact trivial
        | _ + 20, _, _, _ => trivial
      phi := by
        intro i j v w w1 hij hn h hc
        match i, h, hij, hn with
        | 0, h, hij, hn => exact h
        | 1, h, hij, hn => exact h
        | 2, h, hij, hn => exact h
        | 3, h, hij, hn => exact h
        | 4, h, hij, hn => exact h
        | 5, h, hij, hn => exact (by exact (h.elim fun b hb => ⟨b, hb.then hc⟩))
        | 6, h, hij, hn => exact h
        | 7, h, hij, hn => exact h
        | 8, h, hij, hn => exact h
        | 9, h, hij, hn => exact h
        | 10, h, hij, hn => exact h
        | 11, h, hij, hn => exact h
        | 12, h, hij, hn => exact h
        | 13, h, hij, hn => exact h
        | 14, h, hij, hn => exact h
        | 15, h, hij, hn => exact h
        | 16, h, hij, hn => exact h
        | 17, h, hij, hn => exact h
        | 18, h, hij, hn => exact h
        | 19, h, hij, hn => exact h
        | _ + 20, _, _, _ => trivial
      psi := by
        intro i j w w1 hij hn h hc
        match i, h, hij, hn with
        | 0, h, hij, hn => exact trivial
        | 1, h, hij, hn => exact trivial
        | 2, h, hij, hn => exact trivial
        | 3, h, hij, hn => exact trivial
        | 4, h, hij, hn => exact trivial
        | 5, h, hij, hn => exact trivial
        | 6, h, hij, hn => exact trivial
        | 7, h, hij, hn => exact trivial
        | 8, h, hij, hn => exact trivial
        | 9, h, hij, hn => exact trivial
        | 10, h, hij, hn => exact trivial
        | 11, h, hij, hn => exact trivial
        | 12, h, hij, hn => exact trivial
        | 13, h, hij, hn => exact trivial
        | 14, h, hij, hn => exact trivial
        | 15, h, hij, hn => exact trivial
        | 16, h, hij, hn => exact trivial
        | 17, h, hij, hn => exact trivial
        | 18, h, hij, hn => exact trivial
        | 19, h, hij, hn => exact trivial
        | _ + 20, _, _, _ => trivial }
    refine wp_region_each6 (by kernel_rfl) p ?hpreR (by kernel_rfl) (by kernel_rfl) (by kernel_rfl) (by kernel_rfl) ?hendR ?hstepsR
    case hpreR =>
      intro i
      match i with
      | 0 => exact trivial
      | 1 => exact trivial
      | 2 => exact trivial
      | 3 => exact trivial
      | 4 => exact trivial
      | 5 => exact HJ1.out
      | 6 => exact trivial
      | 7 => exact trivial
      | 8 => exact trivial
      | 9 => exact HCA.out
      | 10 => exact trivial
      | 11 => exact trivial
      | 12 => exact trivial
      | 13 => exact trivial
      | 14 => exact trivial
      | 15 => exact trivial
      | 16 => exact trivial
      | 17 => exact trivial
      | 18 => exact trivial
      | 19 => exact trivial
      | _ + 20 => trivial
    case hstepsR =>
      refine ⟨?_, ?_, ?_, ?_, ?_, ?_, ?_, ?_, ?_, ?_, ?_, ?_, ?_, ?_, ?_, ?_, ?_, ?_, ?_, ?_, trivial⟩
      · intro ac wc h K hK
        have b1 : ac.tmps.getD 1 undef = .slice (some A) n ucap := (h.base 1 (by decide)).trans rfl
        go_simp
        exact hK (.slice (some A) n ucap) wc (Chg.refl _ wc) rfl trivial
      · intro ac wc h K hK
        have d9 : ac.tmps.getD 9 undef = .slice (some A) n ucap := h.dep ⟨0, .data⟩ (by simp) rfl 9 rfl
        go_simp
        exact hK (.int .i64 (n : Int)) wc (Chg.refl _ wc) rfl trivial
      · intro ac wc h K hK
        have d10 : ac.tmps.getD 10 undef = .int .i64 (n : Int) := h.dep ⟨1, .data⟩ (by simp) rfl 10 rfl
        have hn0 := HN0.out
        go_simp
        exact hK (.bool false) wc (Chg.refl _ wc) rfl trivial
      · intro ac wc h K hK
        have d11 : ac.tmps.getD 11 undef = .bool false := h.dep ⟨2, .data⟩ (by simp) rfl 11 rfl
        go_simp
        exact hK (.bool false) wc (Chg.refl _ wc) rfl trivial
      · intro ac wc h K hK
        have b0 : ac.tmps.getD 0 undef = .pointer (some ⟨J, 0, none⟩) := (h.base 0 (by decide)).trans rfl
        have g12 : ac.tmps[12]? = some (.bool false) := getElem_of_getD (h.dep ⟨3, .guard⟩ (by simp) rfl 12 rfl)
        go_simp
        exact hK (.pointer (some ⟨J, 0, none⟩)) wc (Chg.refl _ wc) rfl trivial
      · intro ac wc h K hK
        have d13 : ac.tmps.getD 13 undef = .pointer (some ⟨J, 0, none⟩) := h.dep ⟨4, .data⟩ (by simp) rfl 13 rfl
        have g12 : ac.tmps[12]? = some (.bool false) := getElem_of_getD (h.dep ⟨3, .guard⟩ (by simp) rfl 12 rfl)
        go_simp
        refine (Snapshot_calls t J S jn b0 wc h.pre HB0.out HBL.out).mono ?_
        rintro e w1 ⟨v, rfl, hv, hc1⟩
        exact hK v w1 hc1 ⟨_, hv⟩ trivial
      · intro ac wc h K hK
        obtain ⟨v14, e14, d14⟩ : ∃ x, ac.tmps.getD 14 undef = x ∧ (fun (v : Value) (w : World) => ∃ b, OwnB w b v b0) x wc := ⟨_, rfl, h.dep ⟨5, .data⟩ (by simp) rfl 14 rfl⟩
        have g12 : ac.tmps[12]? = some (.bool false) := getElem_of_getD (h.dep ⟨3, .guard⟩ (by simp) rfl 12 rfl)
        obtain ⟨b, hb⟩ := d14
        have hq := run_toString wc 5 _ _ hb.isB
        clear hb
        go_simp
        exact hK (.string (strOf b0)) wc (Chg.refl _ wc) rfl trivial
      · intro ac wc h K hK
        have b1 : ac.tmps.getD 1 undef = .slice (some A) n ucap := (h.base 1 (by decide)).trans rfl
        have g12 : ac.tmps[12]? = some (.bool false) := getElem_of_getD (h.dep ⟨3, .guard⟩ (by simp) rfl 12 rfl)
        go_simp
        exact hK (.slice (some A) n ucap) wc (Chg.refl _ wc) rfl trivial
      · intro ac wc h K hK
        have d16 : ac.tmps.getD 16 undef = .slice (some A) n ucap := h.dep ⟨7, .data⟩ (by simp) rfl 16 rfl
        have g12 : ac.tmps[12]? = some (.bool false) := getElem_of_getD (h.dep ⟨3, .guard⟩ (by simp) rfl 12 rfl)
        have hn1 := HN1.out
        have hpos : 0 < n := by omega
        go_simp
        exact hK (.pointer (some A)) wc (Chg.refl _ wc) rfl trivial
      · intro ac wc h K hK
        have d17 : ac.tmps.getD 17 undef = .pointer (some A) := h.dep ⟨8, .data⟩ (by simp) rfl 17 rfl
        have g12 : ac.tmps[12]? = some (.bool false) := getElem_of_getD (h.dep ⟨3, .guard⟩ (by simp) rfl 12 rfl)
        have hq : wc.cell? A = some (.string s0) := h.pre
        go_simp
        exact hK (.string s0) wc (Chg.refl _ wc) rfl trivial
      · intro ac wc h K hK
        have d15 : ac.tmps.getD 15 undef = .string (strOf b0) := h.dep ⟨6, .data⟩ (by simp) rfl 15 rfl
        have d18 : ac.tmps.getD 18 undef = .string s0 := h.dep ⟨9, .data⟩ (by simp) rfl 18 rfl
        have g12 : ac.tmps[12]? = some (.bool false) := getElem_of_getD (h.dep ⟨3, .guard⟩ (by simp) rfl 12 rfl)
        have hq := HX.out
        go_simp
        exact hK (.bool true) wc (Chg.refl _ wc) rfl trivial
      · intro ac wc h K hK
        have d12 : ac.tmps.getD 12 undef = .bool false := h.dep ⟨3, .data⟩ (by simp) rfl 12 rfl
        have d19 : ac.tmps.getD 19 undef = .bool true := h.dep ⟨10, .data⟩ (by simp) rfl 19 rfl
        go_simp
        exact hK (.bool true) wc (Chg.refl _ wc) rfl trivial
      · intro ac wc h K hK
        have d20 : ac.tmps.getD 20 undef = .bool true := h.dep ⟨11, .data⟩ (by simp) rfl 20 rfl
        go_simp
        exact hK (.bool true) wc (Chg.refl _ wc) rfl trivial
      · intro ac wc h K hK
        have b5 : ac.tmps.getD 5 undef = .slice ro m rc := (h.base 5 (by decide)).trans rfl
        have g21 : ac.tmps[21]? = some (.bool true) := getElem_of_getD (h.dep ⟨12, .guard⟩ (by simp) rfl 21 rfl)
        go_simp
        exact hK (undef) wc (Chg.refl _ wc) rfl trivial
      · intro ac wc h K hK
        have d22 : ac.tmps.getD 22 undef = undef := h.dep ⟨13, .data⟩ (by simp) rfl 22 rfl
        have g21 : ac.tmps[21]? = some (.bool true) := getElem_of_getD (h.dep ⟨12, .guard⟩ (by simp) rfl 21 rfl)
        go_simp
        exact hK (undef) wc (Chg.refl _ wc) rfl trivial
      · intro ac wc h K hK
        have b1 : ac.tmps.getD 1 undef = .slice (some A) n ucap := (h.base 1 (by decide)).trans rfl
        have g21 : ac.tmps[21]? = some (.bool true) := getElem_of_getD (h.dep ⟨12, .guard⟩ (by simp) rfl 21 rfl)
        go_simp
        exact hK (undef) wc (Chg.refl _ wc) rfl trivial
      · intro ac wc h K hK
        have d24 : ac.tmps.getD 24 undef = undef := h.dep ⟨15, .data⟩ (by simp) rfl 24 rfl
        have g21 : ac.tmps[21]? = some (.bool true) := getElem_of_getD (h.dep ⟨12, .guard⟩ (by simp) rfl 21 rfl)
        go_simp
        exact hK (undef) wc (Chg.refl _ wc) rfl trivial
      · intro ac wc h K hK
        have d25 : ac.tmps.getD 25 undef = undef := h.dep ⟨16, .data⟩ (by simp) rfl 25 rfl
        have g21 : ac.tmps[21]? = some (.bool true) := getElem_of_getD (h.dep ⟨12, .guard⟩ (by simp) rfl 21 rfl)
        go_simp
        exact hK (undef) wc (Chg.refl _ wc) rfl trivial
      · intro ac wc h K hK
        have d23 : ac.tmps.getD 23 undef = undef := h.dep ⟨14, .data⟩ (by simp) rfl 23 rfl
        have d26 : ac.tmps.getD 26 undef = undef := h.dep ⟨17, .data⟩ (by simp) rfl 26 rfl
        have g21 : ac.tmps[21]? = some (.bool true) := getElem_of_getD (h.dep ⟨12, .guard⟩ (by simp) rfl 21 rfl)
        go_simp
        exact hK (undef) wc (Chg.refl _ wc) rfl trivial
      · intro ac wc h K hK
        have d21 : ac.tmps.getD 21 undef = .bool true := h.dep ⟨12, .data⟩ (by simp) rfl 21 rfl
        have d27 : ac.tmps.getD 27 undef = undef := h.dep ⟨18, .data⟩ (by simp) rfl 27 rfl
        go_simp
        exact hK (.bool true) wc (Chg.refl _ wc) rfl trivial
    intro acR wcR hc hall hpsi hput
    obtain ⟨x5, e5, d5⟩ : ∃ x, acR.tmps.getD 14 undef = x ∧ (fun (v : Value) (w : World) => ∃ b, OwnB w b v b0) x wcR := ⟨_, rfl, hall 5 14 rfl⟩
    have hact := hput [(9, .slice (some A) n ucap), (10, .int .i64 (n : Int)), (11, .bool false), (12, .bool false), (13, .pointer (some ⟨J, 0, none⟩)), (14, x5), (15, .string (strOf b0)), (16, .slice (some A) n ucap), (17, .pointer (some A)), (18, .string s0), (19, .bool true), (20, .bool true), (21, .bool true), (22, undef), (23, undef), (24, undef), (25, undef), (26, undef), (27, undef), (28, .bool true)] rfl ⟨hall 0 9 rfl, hall 1 10 rfl, hall 2 11 rfl, hall 3 12 rfl, hall 4 13 rfl, e5, hall 6 15 rfl, hall 7 16 rfl, hall 8 17 rfl, hall 9 18 rfl, hall 10 19 rfl, hall 11 20 rfl, hall 12 21 rfl, hall 13 22 rfl, hall 14 23 rfl, hall 15 24 rfl, hall 16 25 rfl, hall 17 26 rfl, hall 18 27 rfl, hall 19 28 rfl, trivial⟩
    clear hput hall
    subst hact
    have HRP := Lib.hid (show Chg [] w1 wcR from hc)
    have HC2 := Lib.hid (HC1.out.then (show Chg [] w1 wcR from hc))
    clear hpsi hc d5 p
    simp only [Act.puts, Act.put]
    go_simp
    go_wp2_with fail
    go_ret
    rw [HD.out]
    exact ⟨rfl, HC2.out⟩
end Go.Proofs.Ytgmgmjljjbcgjaa

/- The document's answer for the records: Piece. -/
import Derived.Test.YtgmgmjljjbcgjaaRef7
import Derived.Test.YtgmgmjljjbcgjaaReg3
namespace Go.Proofs.Ytgmgmjljjbcgjaa
open Go Go.RowKit NSX

def pieceV : Option (List UInt8 × Bool) → Value
  | some (p, last) => .tuple #[.string (strOf p), .bool last, .bool true]
  | none => .tuple #[.string (strOf []), .bool false, .bool false]

theorem ref_piece {c : List UInt8} (hc : c.length = 64) :
    pieceOf c = if (c.getD 1 0).toNat ≤ 58 ∧ ((c.getD 0 0 == 2) = true ∨ (c.getD 1 0).toNat = 58) ∧ blockOf ((c.drop 2).take (c.getD 1 0).toNat) (c.getD 0 0 == 2) = c then some ((c.drop 2).take (c.getD 1 0).toNat, c.getD 0 0 == 2) else none := by
  cases hp : pieceOf c with
  | some x =>
    obtain ⟨p, last⟩ := x
    obtain ⟨h1, h2, h3⟩ := pieceOf_some hc hp
    have e0 : c.getD 0 0 = if last then 2 else 1 := by rw [h1]; rfl
    have e1 : (c.getD 1 0).toNat = p.length := by
      rw [h1]
      show (UInt8.ofNat p.length).toNat = p.length
      rw [UInt8.toNat_ofNat', Nat.mod_eq_of_lt (by omega)]
    have e2 : (c.getD 0 0 == 2) = last := by rw [e0]; cases last <;> rfl
    have e3 : (c.drop 2).take p.length = p := by
      rw [h1]
      show (((p ++ List.replicate (58 - p.length) 0) ++ _) ++ _).take p.length = p
      rw [List.append_assoc, List.append_assoc, List.take_left']
      rfl
    rw [e1, e2, e3, if_pos ⟨h2, h3, h1.symm⟩]
  | none =>
    rw [if_neg]
    rintro ⟨h1, h2, h3⟩
    have hl : ((c.drop 2).take (c.getD 1 0).toNat).length = (c.getD 1 0).toNat := by rw [List.length_take, List.length_drop]; omega
    have := pieceOf_blockOf ((c.drop 2).take (c.getD 1 0).toNat) (c.getD 0 0 == 2) (by omega) (h2.imp id (fun h => by omega))
    rw [h3, hp] at this
    cases this

set_option maxRecDepth 100000 in
set_option maxHeartbeats 1000000 in
theorem rPiece_calls (b : ByteArray) (h64 : b.size = 64) (w : World) :
    Calls Try.prog 81 #[.string b] w fun e w' => e = .returned (pieceV (pieceOf b.data.toList)) ∧ Chg [] w w' := by
  have hbl : b.data.toList.length = 64 := by rw [str_len]; exact h64
  have HR := Lib.hid (ref_piece hbl)
  have hi0 : 0 < b.data.size := by have : b.data.size = b.size := rfl; omega
  have hi1 : 1 < b.data.size := by have : b.data.size = b.size := rfl; omega
  have g0 : b.data[0] = b.data.toList.getD 0 0 := (str_get b 0 (by omega)).symm
  have g1 : b.data[1] = b.data.toList.getD 1 0 := (str_get b 1 (by omega)).symm
  obtain ⟨n, hn⟩ : ∃ n, (b.data[1]).toNat = n := ⟨_, rfl⟩
  have hnl : n < 256 := by rw [← hn]; exact UInt8.toNat_lt _
  obtain ⟨last, hla⟩ : ∃ last, ((b.data[0]) == 2) = last := ⟨_, rfl⟩
  obtain ⟨q, hp⟩ : ∃ q, (b.data.toList.drop 2).take n = q := ⟨_, rfl⟩
  rw [← g0, ← g1, hn, hla, hp] at HR
  have HP := Lib.hid hp
  have hb2 : (((b.data[0]).toNat : Int) == 2) = last := by
    rw [← hla]
    cases h : b.data[0] == 2 with
    | true => have := beq_iff_eq.1 h; rw [this]; rfl
    | false =>
      have h9 : b.data[0] ≠ 2 := fun e => by rw [e] at h; cases h
      rw [beq_eq_false_iff_ne]
      intro e
      exact h9 (UInt8.toNat_inj.1 (show (b.data[0]).toNat = (2 : UInt8).toNat from by show (b.data[0]).toNat = 2; omega))
  have hw : wrap64 (n : Int) = n := by unfold wrap64; omega
  have hn' : (b[1]'(by omega)).toNat = n := hn
  clear g0 g1 hla
  go_enter Try.func81, Try.ntmps81
  by_cases h58 : n ≤ 58
  · have hn58 : ¬ (58 : Int) < (n : Int) := by omega
    have hex : b.extract 2 (2 + n) = strOf q := by
      rw [← strOf_of (b.extract 2 (2 + n)), ← hp]
      congr 1
      rw [ByteArray.data_extract, Array.toList_extract, List.extract_eq_take_drop]
      congr 1; omega
    have hpl : q.length = n := by rw [← hp, List.length_take, List.length_drop]; omega
    go_upto_region 4 with fail
    clear hp
    let p : Plan3 := {
      anc := [[], [], [1], [0, 1, 2], [], [4], [4, 5], [0, 1, 2, 3], [4, 5, 6]]
      rows := fun j => []
      all := []
      Pre := fun i w => match i with
        | _ => True
      Φ := fun i v w => match i with
        | 0 => v = .string b
        | 1 => v = .int .i64 n
        | 2 => v = .int .i64 (2 + (n : Int))
        | 3 => v = .string (strOf q)
        | 4 => v = .string b
        | 5 => v = .int .u8 ((b.data[0]).toNat : Int)
        | 6 => v = .bool last
        | 7 => v = .string (strOf q)
        | 8 => v = .bool last
        | _ => True
      Ψ := fun i w => match i with
        | _ => True
      sub := by
        intro j x hx
        exact hx
      pre := by
        intro i j w w1 hij hn h hc
        match i, h, hij, hn with
        | 0, h, hij, hn => exact trivial
        | 1, h, hij, hn => exact trivial
        | 2, h, hij, hn => exact trivial
        | 3, h, hij, hn => exact trivial
        | 4, h, hij, hn => exact trivial
        | 5, h, hij, hn => exact trivial
        | 6, h, hij, hn => exact trivial
        | 7, h, hij, hn => exact trivial
        | 8, h, hij, hn => exact trivial
        | _ + 9, _, _, _ => trivial
      phi := by
        intro i j v w w1 hij hn h hc
        match i, h, hij, hn with
        | 0, h, hij, hn => exact h
        | 1, h, hij, hn => exact h
        | 2, h, hij, hn => exact h
        | 3, h, hij, hn => exact h
        | 4, h, hij, hn => exact h
        | 5, h, hij, hn => exact h
        | 6, h, hij, hn => exact h
        | 7, h, hij, hn => exact h
        | 8, h, hij, hn => exact h
        | _ + 9, _, _, _ => trivial
      psi := by
        intro i j w w1 hij hn h hc
        match i, h, hij, hn with
        | 0, h, hij, hn => exact trivial
        | 1, h, hij, hn => exact trivial
        | 2, h, hij, hn => exact trivial
        | 3, h, hij, hn => exact trivial
        | 4, h, hij, hn => exact trivial
        | 5, h, hij, hn => exact trivial
        | 6, h, hij, hn => exact trivial
        | 7, h, hij, hn => exact trivial
        | 8, h, hij, hn => exact trivial
        | _ + 9, _, _, _ => trivial }
    refine wp_region_each6 (by kernel_rfl) p ?hpreA (by kernel_rfl) (by kernel_rfl) (by kernel_rfl) (by kernel_rfl) ?hendA ?hstepsA
    case hpreA =>
      intro i
      match i with
      | 0 => exact trivial
      | 1 => exact trivial
      | 2 => exact trivial
      | 3 => exact trivial
      | 4 => exact trivial
      | 5 => exact trivial
      | 6 => exact trivial
      | 7 => exact trivial
      | 8 => exact trivial
      | _ + 9 => trivial
    case hstepsA =>
      refine ⟨?_, ?_, ?_, ?_, ?_, ?_, ?_, ?_, ?_, trivial⟩
      · intro ac wc h K hK
        have b0 : ac.tmps.getD 0 undef = .string b := (h.base 0 (by decide)).trans rfl
        go_simp
        exact hK (.string b) wc (Chg.refl _ wc) rfl trivial
      · intro ac wc h K hK
        have b5 : ac.tmps.getD 5 undef = .int .i64 n := (h.base 5 (by decide)).trans rfl
        go_simp
        exact hK (.int .i64 n) wc (Chg.refl _ wc) rfl trivial
      · intro ac wc h K hK
        have d14 : ac.tmps.getD 14 undef = .int .i64 n := h.dep ⟨1, .data⟩ (by simp) rfl 14 rfl
        go_simp
        rw [show IntKind.i64.wrap (2 + (n : Int)) = 2 + (n : Int) from by rw [IntKind.wrap_i64]; omega]
        exact hK _ wc (Chg.refl _ wc) rfl trivial
      · intro ac wc h K hK
        have d13 : ac.tmps.getD 13 undef = .string b := h.dep ⟨0, .data⟩ (by simp) rfl 13 rfl
        have d15 : ac.tmps.getD 15 undef = .int .i64 (2 + (n : Int)) := h.dep ⟨2, .data⟩ (by simp) rfl 15 rfl
        have q1 : 0 ≤ 2 + (n : Int) ∧ 2 + (n : Int) ≤ 64 := by omega
        have q2 : 2 ≤ 2 + (n : Int) := by omega
        have q3 : b.extract 2 (2 + (n : Int)).toNat = strOf q := by rw [← hex]; congr 1
        go_simp
        exact hK (.string (strOf q)) wc (Chg.refl _ wc) rfl trivial
      · intro ac wc h K hK
        have b0 : ac.tmps.getD 0 undef = .string b := (h.base 0 (by decide)).trans rfl
        go_simp
        exact hK (.string b) wc (Chg.refl _ wc) rfl trivial
      · intro ac wc h K hK
        have d17 : ac.tmps.getD 17 undef = .string b := h.dep ⟨4, .data⟩ (by simp) rfl 17 rfl
        go_simp
        exact hK (.int .u8 ((b.data[0]).toNat : Int)) wc (Chg.refl _ wc) rfl trivial
      · intro ac wc h K hK
        have d18 : ac.tmps.getD 18 undef = .int .u8 ((b.data[0]).toNat : Int) := h.dep ⟨5, .data⟩ (by simp) rfl 18 rfl
        go_simp
        exact hK (.bool last) wc (Chg.refl _ wc) rfl trivial
      · intro ac wc h K hK
        have d16 : ac.tmps.getD 16 undef = .string (strOf q) := h.dep ⟨3, .data⟩ (by simp) rfl 16 rfl
        go_simp
        exact hK (.string (strOf q)) wc (Chg.refl _ wc) rfl trivial
      · intro ac wc h K hK
        have d19 : ac.tmps.getD 19 undef = .bool last := h.dep ⟨6, .data⟩ (by simp) rfl 19 rfl
        go_simp
        exact hK (.bool last) wc (Chg.refl _ wc) rfl trivial
    intro acA wcA hc hall hpsi hput
    have hact := hput [(13, .string b), (14, .int .i64 n), (15, .int .i64 (2 + (n : Int))), (16, .string (strOf q)), (17, .string b), (18, .int .u8 ((b.data[0]).toNat : Int)), (19, .bool last), (6, .string (strOf q)), (7, .bool last)] rfl ⟨hall 0 13 rfl, hall 1 14 rfl, hall 2 15 rfl, hall 3 16 rfl, hall 4 17 rfl, hall 5 18 rfl, hall 6 19 rfl, hall 7 6 rfl, hall 8 7 rfl, trivial⟩
    clear hput hall
    subst hact
    have HCA := Lib.hid (show Chg [] w wcA from hc)
    clear hpsi hc p
    simp only [Act.puts, Act.put]
    go_simp
    have hbl7 := rBlock_calls (strOf q) last (by rw [strOf_size]; omega) wcA
    rw [strOf_toList] at hbl7
    have HBl := Lib.hid hbl7
    clear hbl7 hex
    by_cases hlt : last = true ∨ n = 58
    · by_cases hbk : blockOf q last = b.data.toList
      · rw [if_pos ⟨h58, hlt, hbk⟩] at HR
        have hcmp : ((strOf (blockOf q last)).toList == b.toList) = true := by rw [hbk, strOf_of]; simp
        clear hbk
        cases last with
        | true =>
          go_wp2_with fail
          refine HBl.out.mono ?_
          rintro e w1 ⟨rfl, hc1⟩
          have HC1 := Lib.hid (HCA.out.then hc1)
          clear hc1
          simp only []
          go_wp2_with fail
          go_ret3
          exact ⟨by rw [HR.out]; rfl, HC1.out⟩
        | false =>
          obtain rfl : n = 58 := hlt.elim (fun h => by cases h) id
          go_wp2_with fail
          refine HBl.out.mono ?_
          rintro e w1 ⟨rfl, hc1⟩
          have HC1 := Lib.hid (HCA.out.then hc1)
          clear hc1
          simp only []
          go_wp2_with fail
          go_ret3
          exact ⟨by rw [HR.out]; rfl, HC1.out⟩
      · rw [if_neg (fun h => hbk h.2.2)] at HR
        have hcmp : ((strOf (blockOf q last)).toList == b.toList) = false := by
          rw [ByteArray.toList_eq, ByteArray.toList_eq, strOf_toList]
          simpa using hbk
        clear hbk
        cases last with
        | true =>
          go_wp2_with fail
          refine HBl.out.mono ?_
          rintro e w1 ⟨rfl, hc1⟩
          have HC1 := Lib.hid (HCA.out.then hc1)
          clear hc1
          simp only []
          go_wp2_with fail
          go_ret3
          exact ⟨by rw [HR.out]; rfl, HC1.out⟩
        | false =>
          obtain rfl : n = 58 := hlt.elim (fun h => by cases h) id
          go_wp2_with fail
          refine HBl.out.mono ?_
          rintro e w1 ⟨rfl, hc1⟩
          have HC1 := Lib.hid (HCA.out.then hc1)
          clear hc1
          simp only []
          go_wp2_with fail
          go_ret3
          exact ⟨by rw [HR.out]; rfl, HC1.out⟩
    · rw [if_neg (fun h => hlt h.2.1)] at HR
      obtain rfl : last = false := by cases last with | true => exact absurd (.inl rfl) hlt | false => rfl
      have hn5 : ((n : Int) == 58) = false := by
        rw [beq_eq_false_iff_ne]; intro e; exact hlt (.inr (by omega))
      have hn6 : ¬ ((n : Int) = 58) := by intro e; exact hlt (.inr (by omega))
      clear hlt
      go_wp2_with fail
      go_ret3
      exact ⟨by rw [HR.out]; rfl, HCA.out⟩
  · have hn58 : (58 : Int) < (n : Int) := by omega
    rw [if_neg (fun h => h58 h.1)] at HR
    go_wp2_with fail
    go_ret3
    exact ⟨by rw [HR.out]; rfl, Chg.refl _ _⟩
end Go.Proofs.Ytgmgmjljjbcgjaa

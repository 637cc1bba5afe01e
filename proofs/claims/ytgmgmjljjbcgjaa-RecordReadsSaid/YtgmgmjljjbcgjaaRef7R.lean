/- The document's answer for the records: Read. -/
import Derived.Test.YtgmgmjljjbcgjaaRef7P
import Derived.Test.YtgmgmjljjbcgjaaStrs
namespace Go.Proofs.Ytgmgmjljjbcgjaa
open Go Go.RowKit NSX

theorem oneS7 (w : World) (s : ByteArray) : OwnS (w.alloc (.cells #[.string s] 9)) w.heap.size (.slice (some ⟨w.heap.size, 0, none⟩) 1 1) [s] :=
  ⟨rfl, .inr ⟨w.heap.size, 1, #[.string s], rfl, Nat.le_refl _, heap_alloc_new _ _, Nat.le_refl _, by decide, rfl, rfl⟩⟩
theorem extract_mid (s : ByteArray) (i j : Nat) : (s.extract i j).data.toList = (s.data.toList.drop i).take (j - i) := by
  rw [ByteArray.data_extract, Array.toList_extract, List.extract_eq_take_drop]

/-- What the loop of the document's Read holds. -/
structure RRel (w : World) (b : List UInt8) (k : Nat) (outs : List ByteArray) (body : List UInt8) (used : Nat) (ov : Value) (wr : World) : Prop where
  le : 64 * k ≤ b.length
  list : OwnS wr w.heap.size ov outs
  same : readB b = (asBytes outs ++ (readL ((chunks b).drop k) body k used).1, (readL ((chunks b).drop k) body k used).2)
  len : outs.length ≤ k
  short : body.length ≤ 32768
  usedLe : used ≤ k
  chg : Chg [] w wr

set_option maxRecDepth 100000 in
set_option maxHeartbeats 2000000 in
theorem rRead_calls (b : ByteArray) (hb : b.size ≤ 60000000) (w : World) :
    Calls Try.prog 59 #[.string b] w fun e w' => ∃ v ss, e = .returned (.tuple #[v, .int .i64 (readB b.data.toList).2]) ∧ asBytes ss = (readB b.data.toList).1 ∧ OwnS w' w.heap.size v ss ∧ Chg [] w w' := by
  have hbl := str_len b
  go_enter Try.func59, Try.ntmps59
  go_wp2_with fail
  go_loopw [4, 5, 6, 7] (fun ov uv av bv wr => ∃ (k : Nat) (outs : List ByteArray) (body : List UInt8) (used : Nat), uv = .int .i64 used ∧ av = .int .i64 k ∧ bv = .string (strOf body) ∧ RRel w b.data.toList k outs body used ov wr) (fun _ _ av _ _ => b.size + 2 - (intOf av).toNat)
  case atStart => exact ⟨0, [], [], 0, rfl, rfl, rfl, ⟨by omega, OwnS.nil _ _, rfl, Nat.le_refl _, by simp, Nat.le_refl _, Chg.refl _ _⟩⟩
  case round =>
    obtain ⟨k, outs, body, used, rfl, rfl, rfl, hrel⟩ := hrel
    obtain ⟨oo, ocap, rfl, -, -, -⟩ := hrel.list.strs
    have hshort := hrel.short
    have hkle := hrel.le
    rw [hbl] at hkle
    have HRel := Lib.hid hrel
    clear hrel
    obtain ⟨D, hD⟩ : ∃ D, strOf body = D := ⟨_, rfl⟩
    have hDs : D.size = body.length := by rw [← hD, strOf_size]
    have HD := Lib.hid hD
    rw [hD]
    clear hD
    by_cases hlt : 64 * (k + 1) ≤ b.size
    · have hi2 : 64 * ((k : Int) + 1) ≤ (b.size : Int) := by omega
      have hq1 : 0 ≤ 64 * ((k : Int) + 1) := by omega
      have hq2 : 64 * (k : Int) ≤ 64 * ((k : Int) + 1) := by omega
      have hq3 : 0 ≤ 64 * (k : Int) := by omega
      obtain ⟨C, hC⟩ : ∃ C, b.extract (64 * (k : Int)).toNat (64 * ((k : Int) + 1)).toNat = C := ⟨_, rfl⟩
      have hCl : C.data.toList = (b.data.toList.drop (64 * k)).take 64 := by
        rw [← hC, extract_mid]
        congr 1
        · omega
      have hCs : C.size = 64 := by rw [← str_len, hCl, List.length_take, List.length_drop, hbl]; omega
      have hnext := chunks_next k b.data.toList (by rw [hbl]; exact hlt)
      rw [← hCl] at hnext
      have hpc := rPiece_calls C hCs wr
      have hs := HRel.out.same
      rw [hnext] at hs
      clear hCl hnext
      cases hp : pieceOf C.data.toList with
      | none =>
        rw [hp] at hpc
        rw [readL, hp] at hs
        simp only [List.append_nil] at hs
        have HS := Lib.hid hs
        have HP := Lib.hid hpc
        clear hs hpc hp
        go_wp2_with fail
        refine HP.out.mono ?_
        rintro e w2 ⟨rfl, hc2⟩
        have HC2 := Lib.hid (HRel.out.chg.then hc2)
        have HL2 := Lib.hid (HRel.out.list.then hc2)
        clear hc2
        simp only [pieceV]
        go_wp2_with fail
        go_ret2
        exact ⟨_, outs, by rw [HS.out]; rfl, by rw [HS.out], HL2.out, HC2.out⟩
      | some x =>
        obtain ⟨p, last⟩ := x
        rw [hp] at hpc
        have hp58 : p.length ≤ 58 := (pieceOf_some (by rw [str_len]; exact hCs) hp).2.1
        rw [readL, hp] at hs
        simp only at hs
        obtain ⟨P, hP⟩ : ∃ P, strOf p = P := ⟨_, rfl⟩
        have hPs : P.size = p.length := by rw [← hP, strOf_size]
        have hcat : D ++ P = strOf (body ++ p) := by rw [← HD.out, ← hP, strOf_append]
        rw [show pieceV (some (p, last)) = .tuple #[.string P, .bool last, .bool true] from by rw [← hP]; rfl] at hpc
        have HP := Lib.hid hpc
        clear hpc hp hP
        have hw : wrap64 ((D.size : Int) + (P.size : Int)) = (D.size : Int) + (P.size : Int) := by unfold wrap64; omega
        by_cases hbig : 32768 < body.length + p.length
        · have hbigi : 32768 < (D.size : Int) + (P.size : Int) := by omega
          rw [if_pos hbig, List.append_nil] at hs
          have HS := Lib.hid hs
          clear hs hcat
          go_wp2_with fail
          refine HP.out.mono ?_
          rintro e w2 ⟨rfl, hc2⟩
          have HC2 := Lib.hid (HRel.out.chg.then hc2)
          have HL2 := Lib.hid (HRel.out.list.then hc2)
          clear hc2 hPs hDs
          simp only []
          go_wp2_with fail
          go_ret2
          exact ⟨_, outs, by rw [HS.out]; rfl, by rw [HS.out], HL2.out, HC2.out⟩
        · have hbigi : ¬ 32768 < (D.size : Int) + (P.size : Int) := by omega
          have hz : ¬ (9223372036854775807 < D.size + P.size) := by omega
          rw [if_neg hbig] at hs
          have HCat := Lib.hid hcat
          clear hcat hPs hDs
          cases last with
          | true =>
            simp only [if_true] at hs
            have HS := Lib.hid hs
            clear hs
            go_wp2_with fail
            refine HP.out.mono ?_
            rintro e w2 ⟨rfl, hc2⟩
            have HC2 := Lib.hid (HRel.out.chg.then hc2)
            have HL2 := Lib.hid (HRel.out.list.then hc2)
            obtain ⟨v8, w8, hr8, hown8, hch8⟩ := run_sappend (w2.alloc (.cells #[.string (D ++ P)] 9)) 61 w.heap.size _ outs (HL2.out.then ((Chg.refl [] w2).alloc _)) _ [D ++ P] (oneS7 w2 (D ++ P)).strs (by have := HRel.out.len; simp; omega) ((HC2.out.alloc _).size)
            have HR8 := Lib.hid hr8
            have HO8 := Lib.hid hown8
            have HC8 := Lib.hid ((HC2.out.alloc (.cells #[.string (D ++ P)] 9)).trans hch8 ((HL2.out.then ((Chg.refl [] w2).alloc (.cells #[.string (D ++ P)] 9))).rows (Nat.le_refl _)))
            clear hc2 hr8 hown8 hch8
            simp only []
            go_wp2_with (at_builtin; refine wpList_append_any 61 (by simp [Region.wanted]) (.tmp 45) (.tmp 47) rfl _ _ v8 w8 rfl rfl HR8.out ?_)
            go_roundw
            case rel =>
              refine ⟨k + 1, outs ++ [D ++ P], [], k + 1, by go_num, by go_num, rfl, ⟨by rw [hbl]; exact hlt, HO8.out, ?_, by rw [List.length_append]; have := HRel.out.len; simp; omega, by simp, Nat.le_refl _, HC8.out⟩⟩
              rw [HS.out, asBytes_append, HCat.out, List.append_assoc]
              simp [asBytes, strOf_toList]
            case measure => simp [intOf]; omega
          | false =>
            simp only [Bool.false_eq_true, if_false] at hs
            have HS := Lib.hid hs
            clear hs
            go_wp2_with fail
            refine HP.out.mono ?_
            rintro e w2 ⟨rfl, hc2⟩
            have HC2 := Lib.hid (HRel.out.chg.then hc2)
            have HL2 := Lib.hid (HRel.out.list.then hc2)
            clear hc2
            simp only []
            go_wp2_with fail
            go_roundw
            case rel => exact ⟨k + 1, outs, body ++ p, used, rfl, by go_num, by rw [← HCat.out], ⟨by rw [hbl]; exact hlt, HL2.out, HS.out, Nat.le_succ_of_le HRel.out.len, by rw [List.length_append]; omega, Nat.le_succ_of_le HRel.out.usedLe, HC2.out⟩⟩
            case measure => simp [intOf]; omega
    · have hi2 : ¬ 64 * ((k : Int) + 1) ≤ (b.size : Int) := by omega
      have hend := chunks_end k b.data.toList (by rw [hbl]; exact hlt)
      have hs := HRel.out.same
      rw [hend, readL, List.append_nil] at hs
      have HS := Lib.hid hs
      clear hend hs
      go_wp2_with fail
      go_ret2
      exact ⟨_, by rw [HS.out]; rfl, outs, by rw [HS.out], HRel.out.list, HRel.out.chg⟩
end Go.Proofs.Ytgmgmjljjbcgjaa

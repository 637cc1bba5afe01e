/- The document's answer for the records: Cut. -/
import Derived.Test.YtgmgmjljjbcgjaaRef7
namespace Go.Proofs.Ytgmgmjljjbcgjaa
open Go Go.RowKit NSX

theorem extract_drop (s : ByteArray) (n : Nat) : (s.extract n s.size).data.toList = s.data.toList.drop n := by
  rw [ByteArray.data_extract, Array.toList_extract, List.extract_eq_take_drop]
  rw [List.take_of_length_le (by rw [List.length_drop, str_len]; exact Nat.le_refl _)]

set_option maxRecDepth 100000 in
set_option maxHeartbeats 1000000 in
theorem rCut_calls (body : ByteArray) (hb : body.size ≤ 100000) (w : World) :
    Calls Try.prog 63 #[.string body] w fun e w' => e = .returned (.string (strOf (cutB body.data.toList))) ∧ Chg [] w w' := by
  go_enter Try.func63, Try.ntmps63
  go_wp2_with fail
  go_loopw [0, 3] (fun bv sv wr => ∃ (r : ByteArray) (d : List UInt8), bv = .string r ∧ sv = .string (strOf d) ∧ r.size ≤ body.size ∧ cutB body.data.toList = d ++ cutB r.data.toList ∧ Chg [] w wr) (fun bv _ _ => (match bv with | .string r => r.size | _ => 0))
  case atStart => exact ⟨body, [], rfl, rfl, Nat.le_refl _, rfl, Chg.refl _ _⟩
  case round =>
    obtain ⟨r, d, rfl, rfl, hr, hcut, hc⟩ := hrel
    have hlen := congrArg List.length hcut
    rw [cutB_length, List.length_append, cutB_length, str_len, str_len] at hlen
    have hn1 : nBlocks body.size ≤ 100000 := by unfold nBlocks; omega
    have hdl : d.length ≤ 6400000 := by omega
    have HCut := Lib.hid hcut
    have HC := Lib.hid hc
    obtain ⟨D, hD⟩ : ∃ D, strOf d = D := ⟨_, rfl⟩
    have hDs : D.size ≤ 6400000 := by rw [← hD, strOf_size]; exact hdl
    rw [hD]
    have HD := Lib.hid hD
    clear hcut hc hlen hn1 hdl hD
    by_cases hlt : 58 < r.size
    · have hi : (58 : Int) < (r.size : Int) := by omega
      have hle58 : 58 ≤ r.size := by omega
      obtain ⟨P, hP⟩ : ∃ P, r.extract 0 58 = P := ⟨_, rfl⟩
      have hPl : P.data.toList = r.data.toList.take 58 := by rw [← hP]; exact extract_take _ _ hle58
      have hPs : P.size = 58 := by rw [← str_len, hPl, List.length_take, str_len]; omega
      obtain ⟨R, hR⟩ : ∃ R, r.extract 58 r.size = R := ⟨_, rfl⟩
      have hRl : R.data.toList = r.data.toList.drop 58 := by rw [← hR]; exact extract_drop _ _
      have hRs : R.size = r.size - 58 := by rw [← str_len, hRl, List.length_drop, str_len]
      have hbk := rBlock_calls P false (by omega) wr
      obtain ⟨B, hB⟩ : ∃ B, strOf (blockOf P.data.toList false) = B := ⟨_, rfl⟩
      have hBs : B.size = 64 := by rw [← hB, strOf_size, blockOf_length _ _ (by rw [str_len]; omega)]
      rw [hB] at hbk
      have hnew : D ++ B = strOf (d ++ blockOf P.data.toList false) := by rw [← HD.out, ← hB, strOf_append]
      have hcut2 : cutB body.data.toList = (d ++ blockOf P.data.toList false) ++ cutB R.data.toList := by
        rw [HCut.out, cutB_more _ (by rw [str_len]; exact hlt), hPl, hRl, List.append_assoc]
      have HNew := Lib.hid hnew
      have HCut2 := Lib.hid hcut2
      have HBk := Lib.hid hbk
      have hz : ¬ (9223372036854775807 < D.size + B.size) := by omega
      clear hPl hRl hbk hB hnew hcut2
      go_wp2_with fail
      refine HBk.out.mono ?_
      rintro e w2 ⟨rfl, hc2⟩
      have HC2 := Lib.hid (HC.out.then hc2)
      clear hc2
      simp only []
      go_wp2_with fail
      go_roundw
      case rel => exact ⟨R, _, rfl, by rw [← HNew.out], by omega, HCut2.out, HC2.out⟩
      case measure =>
        show R.size < r.size
        omega
    · have hi : ¬ (58 : Int) < (r.size : Int) := by omega
      have hbk := rBlock_calls r true (by omega) wr
      obtain ⟨B, hB⟩ : ∃ B, strOf (blockOf r.data.toList true) = B := ⟨_, rfl⟩
      have hBs : B.size = 64 := by rw [← hB, strOf_size, blockOf_length _ _ (by rw [str_len]; omega)]
      rw [hB] at hbk
      have HNew := Lib.hid (show D ++ B = strOf (cutB body.data.toList) from by rw [HCut.out, cutB_last _ (by rw [str_len]; exact hlt), ← HD.out, ← hB, strOf_append])
      have HBk := Lib.hid hbk
      have hz : ¬ (9223372036854775807 < D.size + B.size) := by omega
      clear hbk hB
      go_wp2_with fail
      refine HBk.out.mono ?_
      rintro e w2 ⟨rfl, hc2⟩
      have HC2 := Lib.hid (HC.out.then hc2)
      clear hc2
      simp only []
      go_wp2_with fail
      go_ret
      exact ⟨by rw [← HNew.out]; rfl, HC2.out⟩
end Go.Proofs.Ytgmgmjljjbcgjaa

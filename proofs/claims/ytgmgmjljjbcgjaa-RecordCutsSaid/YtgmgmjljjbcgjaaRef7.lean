/- The document's answer for the records: Block, Cut, Piece. -/
import Derived.Test.YtgmgmjljjbcgjaaLaw7
import Derived.Test.YtgmgmjljjbcgjaaRef2
namespace Go.Proofs.Ytgmgmjljjbcgjaa
open Go Go.RowKit NSX

theorem strCat (a b : List UInt8) : strOf a ++ strOf b = strOf (a ++ b) := strOf_append a b
theorem strZero : (⟨#[0]⟩ : ByteArray) = strOf [0] := rfl
theorem strOne : (⟨#[1]⟩ : ByteArray) = strOf [1] := rfl
theorem strTwo : (⟨#[2]⟩ : ByteArray) = strOf [2] := rfl

set_option maxRecDepth 100000 in
set_option maxHeartbeats 1000000 in
theorem rBlock_calls (p : ByteArray) (last : Bool) (hp : p.size ≤ 58) (w : World) :
    Calls Try.prog 83 #[.string p, .bool last] w fun e w' => e = .returned (.string (strOf (blockOf p.data.toList last))) ∧ Chg [] w w' := by
  have hlen : u8 (UInt8.ofNat p.size) = .int .u8 (p.size : Int) := by
    unfold u8
    rw [UInt8.toNat_ofNat', Nat.mod_eq_of_lt (by omega)]
  have hone := oneB w (UInt8.ofNat p.size)
  rw [hlen] at hone
  have hq := run_toString _ 5 _ _ hone
  have hpl : p.data.toList.length = p.size := str_len p
  go_enter Try.func83, Try.ntmps83
  obtain ⟨hd, hhd⟩ : ∃ hd : UInt8, hd = if last then 2 else 1 := ⟨_, rfl⟩
  have hz1 : ¬ (9223372036854775807 < (strOf [hd]).size + (strOf [UInt8.ofNat p.size]).size) := by rw [strOf_size, strOf_size]; simp
  have hz2 : ¬ (9223372036854775807 < (strOf [hd] ++ strOf [UInt8.ofNat p.size]).size + p.size) := by rw [strOf_append, strOf_size]; simp; omega
  have hz3 : ¬ (9223372036854775807 < (strOf ([hd] ++ [UInt8.ofNat p.size])).size + p.size) := by rw [strOf_size]; simp; omega
  have HH := Lib.hid (show headOf p.data.toList last = hd :: UInt8.ofNat p.size :: (p.data.toList ++ List.replicate (58 - p.size) 0) from by unfold headOf; rw [hhd, hpl])
  cases last with
  | true =>
    simp only [if_true] at hhd
    subst hhd
    have e1 : (⟨#[1]⟩ : ByteArray) = strOf [1] := rfl
    have e2 : (⟨#[2]⟩ : ByteArray) = strOf [2] := rfl
    rw [← e2] at hz1 hz2
    --rw [← e1] at hz1 hz2
    go_wp2_with fail
    clear hz1 hz2 hz3 e1 e2 hq hone
    have hs0 : strOf [2] ++ strOf [UInt8.ofNat p.size] ++ p = strOf (2 :: UInt8.ofNat p.size :: (p.data.toList ++ List.replicate 0 0)) := by
      rw [strOf_append, show ∀ X : ByteArray, X ++ p = X ++ strOf p.data.toList from fun X => by rw [strOf_of], strOf_append]
      simp
    go_loop [5] (fun s => ∃ k : Nat, p.size + k ≤ 58 ∧ s = .string (strOf (2 :: UInt8.ofNat p.size :: (p.data.toList ++ List.replicate k 0)))) (fun s => 60 - (match s with | .string b => b.size | _ => 0))
    case atStart => exact ⟨0, by omega, by rw [hs0]⟩
    case round =>
      obtain ⟨k, hk, rfl⟩ := hrel
      clear hs0
      have hsz : (strOf (2 :: UInt8.ofNat p.size :: (p.data.toList ++ List.replicate k 0))).size = 2 + p.size + k := by rw [strOf_size]; simp; omega
      have hnx : strOf (2 :: UInt8.ofNat p.size :: (p.data.toList ++ List.replicate k 0)) ++ ⟨#[0]⟩ = strOf (2 :: UInt8.ofNat p.size :: (p.data.toList ++ List.replicate (k + 1) 0)) := by
        rw [show (⟨#[0]⟩ : ByteArray) = strOf [0] from rfl, strOf_append]
        simp [List.replicate_succ']
      obtain ⟨T, hT⟩ : ∃ T, strOf (2 :: UInt8.ofNat p.size :: (p.data.toList ++ List.replicate k 0)) = T := ⟨_, rfl⟩
      rw [hT] at hsz hnx ⊢
      have HNx := Lib.hid hnx
      by_cases hlt : p.size + k < 58
      · have hi : (T.size : Int) < 60 := by omega
        have hz : ¬ (9223372036854775807 < T.size + 1) := by omega
        clear hnx hT
        go_wp2_with fail
        go_round
        case rel => exact ⟨k + 1, by omega, by rw [← HNx.out]⟩
        case measure =>
          show 60 - (strOf _).size < 60 - T.size
          rw [strOf_size]; simp; omega
      · have hi : ¬ (T.size : Int) < 60 := by omega
        obtain rfl : k = 58 - p.size := by omega
        have hTh : T = strOf (headOf p.data.toList true) := by rw [HH.out, hT]
        have HP := Lib.hid (rPut_calls T (by omega) (w.alloc (.cells #[.int .u8 (p.size : Int)] 5)))
        have HT := Lib.hid hTh
        have h60 : T.size = 60 := by omega
        clear hnx hT hTh hsz hi hlt
        go_wp2_with fail
        refine HP.out.mono ?_
        rintro e w4 ⟨rfl, hc4⟩
        have HC4 := Lib.hid (((Chg.refl [] w).alloc (.cells #[.int .u8 (p.size : Int)] 5)).then hc4)
        clear hc4
        have hTl : T.data.toList = headOf p.data.toList true := by rw [HT.out, strOf_toList]
        have hz4 : ¬ (9223372036854775807 < (strOf (putSeal T.data.toList)).size + 1) := by rw [strOf_size, putSeal_length, hTl, headOf_length _ _ (by omega)]; omega
        have HF := Lib.hid (show strOf (putSeal T.data.toList) ++ ⟨#[1]⟩ = strOf (blockOf p.data.toList true) from by
          rw [hTl, show (⟨#[1]⟩ : ByteArray) = strOf [1] from rfl, strOf_append]; rfl)
        clear hTl
        simp only []
        go_wp2_with fail
        go_ret
        exact ⟨by rw [← HF.out]; rfl, HC4.out⟩
  | false =>
    simp only [Bool.false_eq_true, if_false] at hhd
    subst hhd
    have e1 : (⟨#[1]⟩ : ByteArray) = strOf [1] := rfl
    rw [← e1] at hz1 hz2
    go_wp2_with fail
    clear hz1 hz2 hz3 e1 hq hone
    have hs0 : strOf [1] ++ strOf [UInt8.ofNat p.size] ++ p = strOf (1 :: UInt8.ofNat p.size :: (p.data.toList ++ List.replicate 0 0)) := by
      rw [strOf_append, show ∀ X : ByteArray, X ++ p = X ++ strOf p.data.toList from fun X => by rw [strOf_of], strOf_append]
      simp
    go_loop [5] (fun s => ∃ k : Nat, p.size + k ≤ 58 ∧ s = .string (strOf (1 :: UInt8.ofNat p.size :: (p.data.toList ++ List.replicate k 0)))) (fun s => 60 - (match s with | .string b => b.size | _ => 0))
    case atStart => exact ⟨0, by omega, by rw [hs0]⟩
    case round =>
      obtain ⟨k, hk, rfl⟩ := hrel
      clear hs0
      have hsz : (strOf (1 :: UInt8.ofNat p.size :: (p.data.toList ++ List.replicate k 0))).size = 2 + p.size + k := by rw [strOf_size]; simp; omega
      have hnx : strOf (1 :: UInt8.ofNat p.size :: (p.data.toList ++ List.replicate k 0)) ++ ⟨#[0]⟩ = strOf (1 :: UInt8.ofNat p.size :: (p.data.toList ++ List.replicate (k + 1) 0)) := by
        rw [show (⟨#[0]⟩ : ByteArray) = strOf [0] from rfl, strOf_append]
        simp [List.replicate_succ']
      obtain ⟨T, hT⟩ : ∃ T, strOf (1 :: UInt8.ofNat p.size :: (p.data.toList ++ List.replicate k 0)) = T := ⟨_, rfl⟩
      rw [hT] at hsz hnx ⊢
      have HNx := Lib.hid hnx
      by_cases hlt : p.size + k < 58
      · have hi : (T.size : Int) < 60 := by omega
        have hz : ¬ (9223372036854775807 < T.size + 1) := by omega
        clear hnx hT
        go_wp2_with fail
        go_round
        case rel => exact ⟨k + 1, by omega, by rw [← HNx.out]⟩
        case measure =>
          show 60 - (strOf _).size < 60 - T.size
          rw [strOf_size]; simp; omega
      · have hi : ¬ (T.size : Int) < 60 := by omega
        obtain rfl : k = 58 - p.size := by omega
        have hTh : T = strOf (headOf p.data.toList false) := by rw [HH.out, hT]
        have HP := Lib.hid (rPut_calls T (by omega) (w.alloc (.cells #[.int .u8 (p.size : Int)] 5)))
        have HT := Lib.hid hTh
        have h60 : T.size = 60 := by omega
        clear hnx hT hTh hsz hi hlt
        go_wp2_with fail
        refine HP.out.mono ?_
        rintro e w4 ⟨rfl, hc4⟩
        have HC4 := Lib.hid (((Chg.refl [] w).alloc (.cells #[.int .u8 (p.size : Int)] 5)).then hc4)
        clear hc4
        have hTl : T.data.toList = headOf p.data.toList false := by rw [HT.out, strOf_toList]
        have hz4 : ¬ (9223372036854775807 < (strOf (putSeal T.data.toList)).size + 1) := by rw [strOf_size, putSeal_length, hTl, headOf_length _ _ (by omega)]; omega
        have HF := Lib.hid (show strOf (putSeal T.data.toList) ++ ⟨#[1]⟩ = strOf (blockOf p.data.toList false) from by
          rw [hTl, show (⟨#[1]⟩ : ByteArray) = strOf [1] from rfl, strOf_append]; rfl)
        clear hTl
        simp only []
        go_wp2_with fail
        go_ret
        exact ⟨by rw [← HF.out]; rfl, HC4.out⟩
end Go.Proofs.Ytgmgmjljjbcgjaa

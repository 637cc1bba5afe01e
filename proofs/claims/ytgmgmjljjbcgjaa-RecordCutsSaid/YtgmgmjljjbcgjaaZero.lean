/- The zero values of a store and of the seal's steps: what cells they have. -/
import Derived.Test.YtgmgmjljjbcgjaaHead
namespace Go.Proofs.Ytgmgmjljjbcgjaa
open Go
def isZero (k : IntKind) : Value → Bool
  | .int j n => j == k && n == 0
  | _ => false
theorem isZero_eq {k : IntKind} {v : Value} (h : isZero k v = true) : v = .int k 0 := by
  cases v <;> simp [isZero] at h
  obtain ⟨rfl, rfl⟩ := h; rfl
def zeros (k : IntKind) (t : List Value → Bool) : Nat → List Value → Bool
  | 0, l => t l
  | n + 1, v :: l => isZero k v && zeros k t n l
  | _ + 1, [] => false
theorem zeros_eq {k : IntKind} {t : List Value → Bool} : ∀ (n : Nat) (l : List Value), zeros k t n l = true → ∃ r, l = List.replicate n (.int k 0) ++ r ∧ t r = true
  | 0, l, h => ⟨l, rfl, h⟩
  | n + 1, [], h => by simp [zeros] at h
  | n + 1, v :: l, h => by
    simp only [zeros, Bool.and_eq_true] at h
    obtain ⟨r, hr, ht⟩ := zeros_eq n l h.2
    exact ⟨r, by rw [isZero_eq h.1, hr, List.replicate_succ, List.cons_append], ht⟩
def endStore : List Value → Bool
  | [.bool a, .int .i64 l, .int .i64 p, .bool d, .int .i64 w] => !a && l == 0 && p == 0 && !d && w == 0
  | _ => false
theorem zeroStore_zeros : zeros .u8 endStore 65536 Try.zeroCells44.toList = true := by kernel_rfl
theorem zeroSteps_zeros : zeros .u32 (fun l => zeros .i32 (fun l => zeros .u32 List.isEmpty 257 l) 1 l) 1 Try.zeroCells124.toList = true := by kernel_rfl
theorem zeroStore : Try.zeroCells44.toList = List.replicate 65536 (.int .u8 0) ++ [.bool false, .int .i64 0, .int .i64 0, .bool false, .int .i64 0] := by
  obtain ⟨r, hr, ht⟩ := zeros_eq _ _ zeroStore_zeros
  rw [hr]
  congr 1
  unfold endStore at ht
  split at ht
  · simp only [Bool.and_eq_true, beq_iff_eq, Bool.not_eq_true'] at ht
    obtain ⟨⟨⟨⟨rfl, rfl⟩, rfl⟩, rfl⟩, rfl⟩ := ht
    rfl
  · cases ht
theorem zeroSteps : Try.zeroCells124.toList = .int .u32 0 :: .int .i32 0 :: .int .u32 0 :: List.replicate 256 (.int .u32 0) := by
  obtain ⟨r, hr, ht⟩ := zeros_eq _ _ zeroSteps_zeros
  obtain ⟨r2, hr2, ht2⟩ := zeros_eq _ _ ht
  obtain ⟨r3, hr3, ht3⟩ := zeros_eq _ _ ht2
  have : r3 = [] := by cases r3 with | nil => rfl | cons _ _ => cases ht3
  rw [hr, hr2, hr3, this, List.append_nil]
  rfl
end Go.Proofs.Ytgmgmjljjbcgjaa

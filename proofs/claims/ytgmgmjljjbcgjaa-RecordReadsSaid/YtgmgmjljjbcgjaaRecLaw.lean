/- Plain laws of records: a beginning of bodies' blocks. -/
import Derived.Test.YtgmgmjljjbcgjaaTurnPure
namespace Go.Proofs.Ytgmgmjljjbcgjaa.NSX

theorem chunks_take : ∀ (n : Nat) (b : List UInt8) (k : Nat), b.length ≤ n → chunks (b.take k) = (chunks b).take (k / 64)
  | 0, b, k, h => by
    have : b = [] := List.eq_nil_of_length_eq_zero (by omega)
    subst this
    rw [List.take_nil, chunks, dif_neg (by simp), List.take_nil]
  | n + 1, b, k, h => by
    by_cases h64 : 64 ≤ b.length
    · by_cases hk : 64 ≤ k
      · have hc1 : chunks (b.take k) = (b.take k).take 64 :: chunks ((b.take k).drop 64) := by rw [chunks, dif_pos (by rw [List.length_take]; omega)]
        have hc2 : chunks b = b.take 64 :: chunks (b.drop 64) := by rw [chunks, dif_pos h64]
        rw [hc1, hc2]
        have e1 : (b.take k).take 64 = b.take 64 := by rw [List.take_take, Nat.min_eq_left hk]
        have e2 : (b.take k).drop 64 = (b.drop 64).take (k - 64) := by rw [List.drop_take]
        have e3 : k / 64 = (k - 64) / 64 + 1 := by omega
        rw [e1, e2, e3, List.take_succ_cons, chunks_take n (b.drop 64) (k - 64) (by simp; omega)]
      · have e3 : k / 64 = 0 := by omega
        rw [chunks, dif_neg (by rw [List.length_take]; omega), e3, List.take_zero]
    · have hc : chunks b = [] := by rw [chunks, dif_neg h64]
      rw [hc, List.take_nil, chunks, dif_neg (by rw [List.length_take]; omega)]

theorem read_take : ∀ (l : List (List UInt8)) (j k0 : Nat), (∀ b ∈ l, b.length ≤ 32768) →
    ∃ m, m ≤ l.length ∧ readL ((laidL l).take j) [] k0 k0 = (l.take m, k0 + nAll (l.take m)) ∧ nAll (l.take m) ≤ j ∧ (m = l.length ∨ ∃ b, l[m]? = some b ∧ j < nAll (l.take m) + nBlocks b.length)
  | [], j, k0, _ => ⟨0, Nat.le_refl _, by simp [laidL, readL, nAll], by simp [nAll], .inl rfl⟩
  | b :: l, j, k0, h => by
    have hb : b.length ≤ 32768 := h b (by simp)
    have hl : laidL (b :: l) = cutL b ++ laidL l := rfl
    have hn := cutL_length b
    by_cases hj : j < (cutL b).length
    · refine ⟨0, Nat.zero_le _, ?_, by simp [nAll], .inr ⟨b, rfl, by simp [nAll]; omega⟩⟩
      rw [hl, List.take_append_of_le_length (by omega)]
      have := readL_short b [] j k0 k0 (by simpa using hb) hj
      rw [this]
      simp [nAll]
    · obtain ⟨m, hm, h1, h2, h3⟩ := read_take l (j - nBlocks b.length) (k0 + nBlocks b.length) (fun x hx => h x (by simp [hx]))
      have hj2 : (cutL b).length ≤ j := by omega
      have e : (cutL b ++ laidL l).take j = cutL b ++ (laidL l).take (j - nBlocks b.length) := by
        rw [List.take_append, List.take_of_length_le hj2, hn]
      have hna : nAll ((b :: l).take (m + 1)) = nBlocks b.length + nAll (l.take m) := by simp [nAll]
      refine ⟨m + 1, by simp; omega, ?_, by rw [hna]; omega, ?_⟩
      · rw [hl, e, readL_cut _ _ _ _ _ (by simpa using hb), h1, hna]
        simp [Nat.add_assoc]
      · rcases h3 with h3 | ⟨c, hc, h3⟩
        · left; simp; omega
        · right
          refine ⟨c, by simpa using hc, ?_⟩
          rw [hna]; omega
end Go.Proofs.Ytgmgmjljjbcgjaa.NSX

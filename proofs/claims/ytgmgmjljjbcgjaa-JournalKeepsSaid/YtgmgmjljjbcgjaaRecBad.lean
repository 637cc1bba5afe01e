/- Plain laws of records: one block is none. -/
import Derived.Test.YtgmgmjljjbcgjaaRecLaw
namespace Go.Proofs.Ytgmgmjljjbcgjaa.NSX

/-- One block is none: the bodies ahead of its body are read, and no others. -/
theorem read_bad : ∀ (l : List (List UInt8)) (j k0 : Nat) (x : List UInt8), (∀ b ∈ l, b.length ≤ 32768) → j < (laidL l).length → pieceOf x = none →
    ∃ m, m < l.length ∧ readL ((laidL l).set j x) [] k0 k0 = (l.take m, k0 + nAll (l.take m)) ∧ nAll (l.take m) ≤ j ∧ ∃ b, l[m]? = some b ∧ j < nAll (l.take m) + nBlocks b.length
  | [], j, k0, x, _, hj, _ => by simp [laidL] at hj
  | b :: l, j, k0, x, h, hjl, hx => by
    have hb : b.length ≤ 32768 := h b (by simp)
    have hl : laidL (b :: l) = cutL b ++ laidL l := rfl
    have hn := cutL_length b
    by_cases hj : j < (cutL b).length
    · refine ⟨0, by simp, ?_, by simp [nAll], ⟨b, rfl, by simp [nAll]; omega⟩⟩
      have e : (cutL b ++ laidL l).set j x = (cutL b).take j ++ x :: ((cutL b).drop (j + 1) ++ laidL l) := by
        rw [List.set_append_left _ _ hj, List.set_eq_take_append_cons_drop, if_pos hj, List.append_assoc]
        rfl
      rw [hl, e]
      have := readL_upto b [] j ((cutL b).drop (j + 1) ++ laidL l) x k0 k0 (by simpa using hb) hj hx
      rw [this]
      simp [nAll]
    · have hj2 : (cutL b).length ≤ j := by omega
      rw [hl, List.length_append] at hjl
      obtain ⟨m, hm, h1, h2, c, hc, h3⟩ := read_bad l (j - nBlocks b.length) (k0 + nBlocks b.length) x (fun y hy => h y (by simp [hy])) (by omega) hx
      have e : (cutL b ++ laidL l).set j x = cutL b ++ (laidL l).set (j - nBlocks b.length) x := by
        rw [List.set_append_right _ _ hj2, hn]
      have hna : nAll ((b :: l).take (m + 1)) = nBlocks b.length + nAll (l.take m) := by simp [nAll]
      refine ⟨m + 1, by simp; omega, ?_, by rw [hna]; omega, ⟨c, by simpa using hc, by rw [hna]; omega⟩⟩
      rw [hl, e, readL_cut _ _ _ _ _ (by simpa using hb), h1, hna]
      simp [Nat.add_assoc]

theorem flatten_len : ∀ (l : List (List UInt8)), (∀ c ∈ l, c.length = 64) → l.flatten.length = 64 * l.length
  | [], _ => rfl
  | c :: l, h => by
    rw [List.flatten_cons, List.length_append, flatten_len l (fun x hx => h x (by simp [hx])), h c (by simp), List.length_cons]
    omega
theorem flatten_set : ∀ (l : List (List UInt8)) (k : Nat) (x : List UInt8), (∀ c ∈ l, c.length = 64) → k < l.length → (l.set k x).flatten = l.flatten.take (64 * k) ++ (x ++ l.flatten.drop (64 * (k + 1)))
  | [], k, x, _, hk => by simp at hk
  | c :: l, 0, x, h, _ => by
    have hc : c.length = 64 := h c (by simp)
    rw [List.set_cons_zero, List.flatten_cons, List.flatten_cons, Nat.mul_zero, List.take_zero, List.nil_append, List.drop_append, List.drop_of_length_le (by omega), hc]
    simp
  | c :: l, k + 1, x, h, hk => by
    have hc : c.length = 64 := h c (by simp)
    rw [List.set_cons_succ, List.flatten_cons, List.flatten_cons, flatten_set l k x (fun y hy => h y (by simp [hy])) (by simpa using hk)]
    have t1 : c.take (64 * (k + 1)) = c := List.take_of_length_le (by omega)
    have t2 : c.drop (64 * (k + 1 + 1)) = [] := List.drop_of_length_le (by omega)
    rw [List.take_append, t1, List.drop_append, t2, hc, List.nil_append]
    have e1 : 64 * (k + 1) - 64 = 64 * k := by omega
    have e2 : 64 * (k + 1 + 1) - 64 = 64 * (k + 1) := by omega
    rw [e1, e2, List.append_assoc]
end Go.Proofs.Ytgmgmjljjbcgjaa.NSX

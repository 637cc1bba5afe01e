/- Plain laws of records: bits turned in one block. -/
import Derived.Test.YtgmgmjljjbcgjaaTornLaw
namespace Go.Proofs.Ytgmgmjljjbcgjaa
open Go Go.RowKit NSX

theorem modify_left {α : Type} (f : α → α) (c : List α) : ∀ (b : List α) (i : Nat), i < b.length → (b ++ c).modify i f = b.modify i f ++ c
  | [], i, h => by simp at h
  | x :: b, 0, _ => rfl
  | x :: b, i + 1, h => by
    rw [List.cons_append, List.modify_succ_cons, List.modify_succ_cons, modify_left f c b i (by simpa using h), List.cons_append]
theorem modify_right {α : Type} (f : α → α) (b : List α) : ∀ (a : List α) (i : Nat), (a ++ b).modify (a.length + i) f = a ++ b.modify i f
  | [], i => by simp
  | x :: a, i => by
    rw [List.cons_append, List.length_cons, show a.length + 1 + i = (a.length + i) + 1 by omega, List.modify_succ_cons, modify_right f b a i, List.cons_append]
theorem flipBit_mid (a b c : List UInt8) (p : Nat) (h : p < 8 * b.length) : flipBit (a ++ (b ++ c)) (8 * a.length + p) = a ++ (flipBit b p ++ c) := by
  unfold flipBit
  have e1 : (8 * a.length + p) / 8 = a.length + p / 8 := by omega
  have e2 : (8 * a.length + p) % 8 = p % 8 := by omega
  rw [e1, e2, modify_right, modify_left _ _ _ _ (by omega)]
theorem flips_mid (a b c : List UInt8) (p t : Nat) : ∀ m, p + m ≤ 8 * b.length → flips (8 * a.length + p) t m (a ++ (b ++ c)) = a ++ (flips p t m b ++ c)
  | 0, _ => rfl
  | m + 1, h => by
    have ih := flips_mid a b c p t m (by omega)
    unfold flips
    rw [ih]
    split
    · rw [Nat.add_assoc, flipBit_mid _ _ _ _ (by rw [flips_length]; omega)]
    · rfl
theorem cutL_piece (body : List UInt8) : ∀ c ∈ cutL body, ∃ x, pieceOf c = some x := by
  induction body using cutL.induct with
  | case1 body h ih =>
    rw [cutL, dif_pos h]
    intro c hc
    rcases List.mem_cons.1 hc with rfl | hc
    · exact ⟨_, pieceOf_blockOf _ _ (by simp; omega) (by right; simp; omega)⟩
    · exact ih c hc
  | case2 body h =>
    rw [cutL, dif_neg h]
    intro c hc
    simp at hc
    subst hc
    exact ⟨_, pieceOf_blockOf _ _ (by omega) (by left; rfl)⟩
theorem flatten_mem : ∀ (l : List (List UInt8)) (k : Nat), (∀ c ∈ l, c.length = 64) → k < l.length → (l.flatten.drop (64 * k)).take 64 ∈ l
  | [], k, _, h => by simp at h
  | c :: l, 0, h, _ => by
    have hc : c.length = 64 := h c (by simp)
    rw [List.flatten_cons, Nat.mul_zero, List.drop_zero, List.take_append_of_le_length (by omega), List.take_of_length_le (by omega)]
    simp
  | c :: l, k + 1, h, hk => by
    have hc : c.length = 64 := h c (by simp)
    have e : (c ++ l.flatten).drop (64 * (k + 1)) = l.flatten.drop (64 * k) := by
      rw [List.drop_append, List.drop_of_length_le (by omega), List.nil_append]
      congr 1
      omega
    rw [List.flatten_cons, e]
    exact List.mem_cons_of_mem _ (flatten_mem l k (fun x hx => h x (by simp [hx])) (by simpa using hk))
theorem laid_piece (ss : List ByteArray) (k : Nat) (hk : k < nAll (asBytes ss)) : ∃ x, pieceOf (((laidB ss).drop (64 * k)).take 64) = some x := by
  have hm := flatten_mem (laidL (asBytes ss)) k (laidL_each _) (by rw [laidL_length]; exact hk)
  unfold laidB
  rw [flatMap_flatten]
  obtain ⟨b, -, hb⟩ := List.mem_flatMap.1 hm
  exact cutL_piece b _ hb
/-- The turned block, and what the whole is read as. -/
theorem turned_read (ss : List ByteArray) (h : ∀ s ∈ ss, s.size ≤ 1000) (k p t : Nat) (hp : p + 24 ≤ 512) (h0 : t ≠ 0) (ht : t < 16777216) (hk : k < nAll (asBytes ss)) :
    ∃ m, m < ss.length ∧ readB (flips (512 * k + p) t 24 (laidB ss)) = (asBytes (ss.take m), nAll (asBytes (ss.take m))) ∧ nAll (asBytes (ss.take m)) ≤ k ∧ ∃ s, ss[m]? = some s ∧ k < nAll (asBytes (ss.take m)) + nBlocks s.size := by
  have hl := laidB_length ss
  have hbl : (((laidB ss).drop (64 * k)).take 64).length = 64 := by rw [List.length_take, List.length_drop]; omega
  have hal : ((laidB ss).take (64 * k)).length = 64 * k := by rw [List.length_take]; omega
  have hx : (flips p t 24 (((laidB ss).drop (64 * k)).take 64)).length = 64 := by rw [flips_length, hbl]
  have hn := turned_none p t _ hbl hp h0 ht (laid_piece ss k hk)
  obtain ⟨m, h1, h2, h3, h4⟩ := bad_law ss h k _ hx hk hn
  refine ⟨m, h1, ?_, h3, h4⟩
  rw [← h2]
  congr 1
  have hsplit : laidB ss = (laidB ss).take (64 * k) ++ (((laidB ss).drop (64 * k)).take 64 ++ (laidB ss).drop (64 * (k + 1))) := by
    have e : (laidB ss).drop (64 * (k + 1)) = ((laidB ss).drop (64 * k)).drop 64 := by rw [List.drop_drop]; congr 1
    rw [e, List.take_append_drop, List.take_append_drop]
  have e8 : 512 * k + p = 8 * ((laidB ss).take (64 * k)).length + p := by rw [hal]; omega
  have := flips_mid ((laidB ss).take (64 * k)) (((laidB ss).drop (64 * k)).take 64) ((laidB ss).drop (64 * (k + 1))) p t 24 (by rw [hbl]; omega)
  rw [← hsplit, ← e8] at this
  exact this
end Go.Proofs.Ytgmgmjljjbcgjaa

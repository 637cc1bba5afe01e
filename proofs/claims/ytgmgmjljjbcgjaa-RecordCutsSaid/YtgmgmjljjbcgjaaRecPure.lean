/- RecPure: plain theory, no program in sight. -/
import Derived.Test.YtgmgmjljjbcgjaaSealPure
namespace Go.Proofs.Ytgmgmjljjbcgjaa.NSX
/-- A piece's block. -/
def headOf (piece : List UInt8) (last : Bool) : List UInt8 :=
  (if last then 2 else 1) :: UInt8.ofNat piece.length :: (piece ++ List.replicate (58 - piece.length) 0)
def blockOf (piece : List UInt8) (last : Bool) : List UInt8 := putSeal (headOf piece last) ++ [1]

theorem headOf_length (p : List UInt8) (last : Bool) (h : p.length ≤ 58) : (headOf p last).length = 60 := by
  simp [headOf]; omega
theorem putSeal_length (l : List UInt8) : (putSeal l).length = l.length + 3 := by simp [putSeal, sealBytes]
theorem blockOf_length (p : List UInt8) (last : Bool) (h : p.length ≤ 58) : (blockOf p last).length = 64 := by
  simp [blockOf, putSeal_length, headOf_length p last h]

/-- The blocks of a body, one list each. -/
def cutL (body : List UInt8) : List (List UInt8) :=
  if _h : 58 < body.length then blockOf (body.take 58) false :: cutL (body.drop 58) else [blockOf body true]
termination_by body.length
decreasing_by simp; omega
def cutB (body : List UInt8) : List UInt8 := (cutL body).flatten

/-- How many blocks. -/
def nBlocks (n : Nat) : Nat := max 1 ((n + 57) / 58)

theorem cutL_length (body : List UInt8) : (cutL body).length = nBlocks body.length := by
  induction body using cutL.induct with
  | case1 body h ih =>
    rw [cutL, dif_pos h, List.length_cons, ih]
    simp [nBlocks]; omega
  | case2 body h =>
    rw [cutL, dif_neg h]
    simp [nBlocks]; omega

theorem cutL_each (body : List UInt8) : ∀ c ∈ cutL body, c.length = 64 := by
  induction body using cutL.induct with
  | case1 body h ih =>
    rw [cutL, dif_pos h]
    intro c hc
    rcases List.mem_cons.1 hc with rfl | hc
    · exact blockOf_length _ _ (by simp; omega)
    · exact ih c hc
  | case2 body h =>
    rw [cutL, dif_neg h]
    intro c hc
    simp at hc
    subst hc
    exact blockOf_length _ _ (by omega)

/-- A block's piece and whether it is the last one; none: it isn't whole. -/
def inner (c : List UInt8) : List UInt8 := c.take 60
def pieceOf (c : List UInt8) : Option (List UInt8 × Bool) :=
  let s := c.take 63
  let i := c.take 60
  let n := (i.getD 1 0).toNat
  let last := i.getD 0 0 == 2
  if putSeal i = s ∧ c.getD 63 0 = 1 ∧ n ≤ 58 ∧ (last = true ∨ (i.getD 0 0 = 1 ∧ n = 58)) ∧ (i.drop (2 + n)).all (· == 0) = true then some ((i.drop 2).take n, last) else none

theorem pieceOf_blockOf (p : List UInt8) (last : Bool) (hp : p.length ≤ 58) (hl : last = true ∨ p.length = 58) : pieceOf (blockOf p last) = some (p, last) := by
  have hh := headOf_length p last hp
  have hs : (putSeal (headOf p last)).length = 63 := by rw [putSeal_length, hh]
  have e1 : (blockOf p last).take 63 = putSeal (headOf p last) := by
    unfold blockOf; rw [List.take_append_of_le_length (by omega), List.take_of_length_le (by omega)]
  have e2 : (blockOf p last).take 60 = headOf p last := by
    unfold blockOf putSeal
    rw [List.append_assoc, List.take_append_of_le_length (by omega), List.take_of_length_le (by omega)]
  have e3 : (blockOf p last).getD 63 0 = 1 := by
    unfold blockOf
    rw [List.getD_eq_getElem?_getD, List.getElem?_append_right (by omega), hs]; rfl
  have e4 : ((headOf p last).getD 1 0).toNat = p.length := by
    simp [headOf]; omega
  have e5 : (headOf p last).getD 0 0 = if last then 2 else 1 := by simp [headOf]
  unfold pieceOf
  simp only [e1, e2, e3, e4, e5]
  rw [if_pos]
  · have : ((headOf p last).drop 2).take p.length = p := by
      show (p ++ _).take p.length = p
      rw [List.take_append_of_le_length (by omega), List.take_of_length_le (by omega)]
    rw [this]
    cases last <;> rfl
  · refine ⟨trivial, trivial, hp, ?_, ?_⟩
    · rcases hl with h | h
      · subst h; left; rfl
      · cases last
        · right; exact ⟨rfl, h⟩
        · left; rfl
    · have : (headOf p last).drop (2 + p.length) = List.replicate (58 - p.length) 0 := by
        rw [Nat.add_comm]
        show (p ++ _).drop p.length = _
        simp
      rw [this]
      simp

theorem pieceOf_some {c : List UInt8} {p : List UInt8} {last : Bool} (hc : c.length = 64) (h : pieceOf c = some (p, last)) :
    c = blockOf p last ∧ p.length ≤ 58 ∧ (last = true ∨ p.length = 58) := by
  unfold pieceOf at h
  simp only at h
  split at h
  case isFalse => cases h
  case isTrue hcond =>
  obtain ⟨hs, h63, hn, hl, hz⟩ := hcond
  simp only [Option.some.injEq, Prod.mk.injEq] at h
  obtain ⟨hp, hlast⟩ := h
  have hi : (c.take 60).length = 60 := by simp; omega
  obtain ⟨i, hie⟩ : ∃ i, i = c.take 60 := ⟨_, rfl⟩
  rw [← hie] at hs hn hl hz hp hlast hi
  have hplen : p.length = (i.getD 1 0).toNat := by rw [← hp, List.length_take, List.length_drop]; omega
  have hi2 : i = i.getD 0 0 :: i.getD 1 0 :: i.drop 2 := by
    match i, hi with
    | a :: b :: r, _ => rfl
  have hhead : headOf p last = i := by
    rw [hi2]
    unfold headOf
    congr 1
    · rcases hl with h | ⟨h, _⟩
      · rw [← hlast, if_pos h]; exact (beq_iff_eq.1 h).symm
      · rw [← hlast, h]; rfl
    congr 1
    · rw [hplen]; simp
    · rw [← List.take_append_drop (i.getD 1 0).toNat (i.drop 2), hp, hplen]
      congr 1
      rw [List.drop_drop]
      apply List.ext_getElem
      · simp [hi]; omega
      · intro k h1 h2
        rw [List.getElem_replicate]
        have := List.all_eq_true.1 hz _ (List.getElem_mem (l := i.drop (2 + (i.getD 1 0).toNat)) (n := k) h2)
        simp only [beq_iff_eq] at this
        simp only [List.getElem_drop] at this ⊢
        exact this.symm
  refine ⟨?_, by omega, ?_⟩
  · have : c = c.take 63 ++ c.drop 63 := (List.take_append_drop _ _).symm
    have hd : c.drop 63 = [1] := by
      apply List.ext_getElem
      · simp; omega
      · intro k h1 h2
        have hk : k = 0 := by simp at h2; omega
        subst hk
        simp only [List.getElem_drop]
        rw [List.getD_eq_getElem?_getD, List.getElem?_eq_getElem (by omega)] at h63
        simpa using h63
    unfold blockOf
    rw [hhead, hs, ← hd]
    exact this
  · rcases hl with h | ⟨_, h⟩
    · left; rw [← hlast]; exact h
    · right; omega

/-- The bodies that blocks tell; how many blocks these take. 'k': the blocks before; 'used': those of the bodies before. -/
def readL : List (List UInt8) → List UInt8 → Nat → Nat → List (List UInt8) × Nat
  | [], _, _, used => ([], used)
  | c :: cs, body, k, used =>
    match pieceOf c with
    | none => ([], used)
    | some (p, last) =>
      if 32768 < body.length + p.length then ([], used)
      else if last then ((body ++ p) :: (readL cs [] (k + 1) (k + 1)).1, (readL cs [] (k + 1) (k + 1)).2)
      else readL cs (body ++ p) (k + 1) used

/-- Bytes as blocks; what is left is left out. -/
def chunks (b : List UInt8) : List (List UInt8) :=
  if _h : 64 ≤ b.length then b.take 64 :: chunks (b.drop 64) else []
termination_by b.length
decreasing_by simp; omega

def readB (b : List UInt8) : List (List UInt8) × Nat := readL (chunks b) [] 0 0

theorem chunks_flatten : ∀ (l : List (List UInt8)) (r : List UInt8), (∀ c ∈ l, c.length = 64) → chunks (l.flatten ++ r) = l ++ chunks r
  | [], r, _ => by simp
  | c :: l, r, h => by
    have hc : c.length = 64 := h c (by simp)
    rw [chunks, dif_pos (by simp [hc])]
    have e1 : ((c :: l).flatten ++ r).take 64 = c := by
      simp only [List.flatten_cons, List.append_assoc]
      rw [List.take_append_of_le_length (by omega), List.take_of_length_le (by omega)]
    have e2 : ((c :: l).flatten ++ r).drop 64 = l.flatten ++ r := by
      simp only [List.flatten_cons, List.append_assoc]
      rw [List.drop_append_of_le_length (by omega), List.drop_of_length_le (by omega), List.nil_append]
    rw [e1, e2, chunks_flatten l r (fun c hc => h c (by simp [hc]))]
    rfl

theorem readL_cut (body : List UInt8) : ∀ (pre : List UInt8) (rest : List (List UInt8)) (k used : Nat), pre.length + body.length ≤ 32768 →
    readL (cutL body ++ rest) pre k used = ((pre ++ body) :: (readL rest [] (k + nBlocks body.length) (k + nBlocks body.length)).1, (readL rest [] (k + nBlocks body.length) (k + nBlocks body.length)).2) := by
  induction body using cutL.induct with
  | case1 body h ih =>
    intro pre rest k used hlen
    rw [cutL, dif_pos h, List.cons_append, readL, pieceOf_blockOf _ _ (by simp; omega) (by right; simp; omega)]
    simp only
    rw [if_neg (by simp; omega), if_neg (by simp), ih _ _ _ _ (by simp; omega)]
    have e : k + 1 + nBlocks (body.drop 58).length = k + nBlocks body.length := by simp [nBlocks]; omega
    rw [e, List.append_assoc, List.take_append_drop]
  | case2 body h =>
    intro pre rest k used hlen
    rw [cutL, dif_neg h, List.cons_append, readL, pieceOf_blockOf _ _ (by omega) (by left; rfl)]
    simp only
    rw [if_neg (by omega), if_pos trivial]
    have e : nBlocks body.length = 1 := by simp [nBlocks]; omega
    rw [e]; rfl

/-- Bodies' blocks. -/
def laidL (l : List (List UInt8)) : List (List UInt8) := l.flatMap cutL
def nAll (l : List (List UInt8)) : Nat := (l.map fun b => nBlocks b.length).sum

theorem readL_laid : ∀ (l : List (List UInt8)) (rest : List (List UInt8)) (k : Nat), (∀ b ∈ l, b.length ≤ 32768) →
    readL (laidL l ++ rest) [] k k = (l ++ (readL rest [] (k + nAll l) (k + nAll l)).1, (readL rest [] (k + nAll l) (k + nAll l)).2)
  | [], rest, k, _ => by simp [laidL, nAll]
  | b :: l, rest, k, h => by
    show readL ((cutL b ++ laidL l) ++ rest) [] k k = _
    rw [List.append_assoc, readL_cut _ _ _ _ _ (by simpa using h b (by simp)), readL_laid l _ _ (fun b hb => h b (by simp [hb]))]
    simp [nAll, Nat.add_assoc]
end Go.Proofs.Ytgmgmjljjbcgjaa.NSX

/- Plain laws of the journal's blocks on a store: what an erasing and a laying do, whole or cut off. -/
import Derived.Test.YtgmgmjljjbcgjaaBlkW
import Derived.Test.YtgmgmjljjbcgjaaRecBad
namespace Go.Proofs.Ytgmgmjljjbcgjaa
open Go Go.RowKit NSX

def zero64 : List UInt8 := List.replicate 64 0
/-- A block of bytes. -/
def blockAt (b : List UInt8) (i : Nat) : List UInt8 := (b.drop (i * 64)).take 64

theorem blockAt_length (b : List UInt8) (i : Nat) (h : b.length = 65536) (hi : i < 1024) : (blockAt b i).length = 64 := by unfold blockAt; simp; omega
theorem blockAt_get (b : List UInt8) (i k : Nat) : (blockAt b i)[k]? = if k < 64 then b[i * 64 + k]? else none := by
  unfold blockAt
  rw [List.getElem?_take, List.getElem?_drop]
theorem patch_get (b c : List UInt8) (off p : Nat) (h : off ≤ b.length) : (patch b off c)[p]? = if p < off then b[p]? else if p < off + c.length then c[p - off]? else b[p]? := by
  unfold patch
  have hl : (b.take off).length = off := by rw [List.length_take]; omega
  by_cases h1 : p < off
  · rw [if_pos h1, List.getElem?_append_left (by omega), List.getElem?_take, if_pos h1]
  · rw [if_neg h1, List.getElem?_append_right (by omega), hl]
    by_cases h2 : p < off + c.length
    · rw [if_pos h2, List.getElem?_append_left (by omega)]
    · rw [if_neg h2, List.getElem?_append_right (by omega), List.getElem?_drop]
      congr 1
      omega
theorem block_other (b c : List UInt8) (i j : Nat) (hij : i ≠ j) (hc : c.length ≤ 64) (hb : b.length = 65536) (hi : i < 1024) : blockAt (patch b (i * 64) c) j = blockAt b j := by
  apply List.ext_getElem?
  intro k
  rw [blockAt_get, blockAt_get]
  by_cases hk : k < 64
  · rw [if_pos hk, if_pos hk, patch_get _ _ _ _ (by omega)]
    by_cases h1 : j * 64 + k < i * 64
    · rw [if_pos h1]
    · rw [if_neg h1, if_neg (by omega)]
  · rw [if_neg hk, if_neg hk]
theorem block_same (b c : List UInt8) (i : Nat) (hc : c.length ≤ 64) (hb : b.length = 65536) (hi : i < 1024) : blockAt (patch b (i * 64) c) i = c ++ (blockAt b i).drop c.length := by
  apply List.ext_getElem?
  intro k
  rw [blockAt_get]
  by_cases hkc : k < c.length
  · rw [if_pos (by omega), patch_get _ _ _ _ (by omega), if_neg (by omega), if_pos (by omega), List.getElem?_append_left hkc]
    congr 1
    omega
  · rw [List.getElem?_append_right (by omega), List.getElem?_drop, blockAt_get]
    have e : c.length + (k - c.length) = k := by omega
    rw [e]
    by_cases hk : k < 64
    · rw [if_pos hk, if_pos hk, patch_get _ _ _ _ (by omega), if_neg (by omega), if_neg (by omega)]
    · rw [if_neg hk, if_neg hk]

/-- What one write of a block does, the power being there. -/
theorem write_cases (st : St) (i : Nat) (c : List UInt8) (hd : st.down = false) (_hb : st.bytes.length = 65536) (hi : i < 1024) (hc : c.length = 64) :
    ((st.write i c).2 = 0 ∧ (st.write i c).1.down = false ∧ (st.write i c).1.bytes = patch st.bytes (i * 64) c ∧ (st.write i c).1.armed = st.armed ∧ (st.write i c).1.writes = wrap64 (st.writes + 1)) ∨
    ((st.write i c).2 = 13 ∧ st.armed = true ∧ ∃ q, q ≤ 64 ∧ (st.write i c).1.bytes = patch st.bytes (i * 64) (c.take q)) := by
  unfold St.write
  rw [if_neg (by simp [hd]), if_neg (by omega), if_neg (by omega)]
  by_cases h : st.armed = true ∧ st.left = 0
  · right
    rw [if_pos h]
    exact ⟨rfl, h.1, (max 0 (min st.part 64)).toNat, by omega, rfl⟩
  · left
    rw [if_neg h]
    exact ⟨rfl, hd, rfl, rfl, rfl⟩

/-- Blocks become bytes 0, one after the other. -/
def St.erase (st : St) (i : Nat) : Nat → St × Int
  | 0 => (st, 0)
  | n + 1 => if blockAt st.bytes i = zero64 then St.erase st (i + 1) n else if (st.write i zero64).2 ≠ 0 then st.write i zero64 else St.erase (st.write i zero64).1 (i + 1) n
/-- Blocks are laid, one after the other. -/
def St.lay (st : St) (i : Nat) : List (List UInt8) → St × Int
  | [] => (st, 0)
  | c :: cs => if (st.write i c).2 ≠ 0 then st.write i c else St.lay (st.write i c).1 (i + 1) cs

theorem zero64_length : zero64.length = 64 := List.length_replicate
theorem patch64 (b c : List UInt8) (i : Nat) (hb : b.length = 65536) (hi : i < 1024) (hc : c.length ≤ 64) : (patch b (i * 64) c).length = 65536 := by rw [patch_length _ _ _ (by omega), hb]

theorem erase_law : ∀ (n : Nat) (st : St) (i : Nat), st.down = false → st.bytes.length = 65536 → i + n ≤ 1024 →
    (st.erase i n).1.bytes.length = 65536 ∧
    (((st.erase i n).2 = 0 ∧ (st.erase i n).1.down = false ∧ (st.erase i n).1.armed = st.armed ∧ ∀ j, blockAt (st.erase i n).1.bytes j = if i ≤ j ∧ j < i + n then zero64 else blockAt st.bytes j) ∨
     ((st.erase i n).2 = 13 ∧ st.armed = true ∧ ∃ k q, k < n ∧ q ≤ 64 ∧ ∀ j, blockAt (st.erase i n).1.bytes j = if i ≤ j ∧ j < i + k then zero64 else if j = i + k then zero64.take q ++ (blockAt st.bytes j).drop q else blockAt st.bytes j))
  | 0, st, i, hd, hb, _ => by
    refine ⟨hb, .inl ⟨rfl, hd, rfl, fun j => ?_⟩⟩
    rw [if_neg (by omega)]; rfl
  | n + 1, st, i, hd, hb, hi => by
    by_cases hz : blockAt st.bytes i = zero64
    · have e : st.erase i (n + 1) = st.erase (i + 1) n := by rw [St.erase, if_pos hz]
      rw [e]
      obtain ⟨h1, h2⟩ := erase_law n st (i + 1) hd hb (by omega)
      refine ⟨h1, ?_⟩
      rcases h2 with ⟨a1, a2, a3, a4⟩ | ⟨a1, a2, k, q, hk, hq, a4⟩
      · refine .inl ⟨a1, a2, a3, fun j => ?_⟩
        rw [a4 j]
        by_cases hj : j = i
        · subst hj
          rw [if_neg (by omega), if_pos (by omega), hz]
        · by_cases h3 : i + 1 ≤ j ∧ j < i + 1 + n
          · rw [if_pos h3, if_pos (by omega)]
          · rw [if_neg h3, if_neg (by omega)]
      · refine .inr ⟨a1, a2, k + 1, q, by omega, hq, fun j => ?_⟩
        rw [a4 j]
        by_cases hj : j = i
        · subst hj
          rw [if_neg (by omega), if_neg (by omega), if_pos (by omega), hz]
        · by_cases h3 : i + 1 ≤ j ∧ j < i + 1 + k
          · rw [if_pos h3, if_pos (by omega)]
          · rw [if_neg h3, if_neg (by omega : ¬ (i ≤ j ∧ j < i + (k + 1)))]
            have e2 : i + 1 + k = i + (k + 1) := by omega
            rw [e2]
    · rcases write_cases st i zero64 hd hb (by omega) zero64_length with ⟨c1, c2, c3, c4, -⟩ | ⟨c1, c2, q, hq, c3⟩
      · have e : st.erase i (n + 1) = (st.write i zero64).1.erase (i + 1) n := by rw [St.erase, if_neg hz, if_neg (by rw [c1]; simp)]
        rw [e]
        have hb2 : (st.write i zero64).1.bytes.length = 65536 := by rw [c3]; exact patch64 _ _ _ hb (by omega) (by rw [zero64_length]; omega)
        have hsame : blockAt (st.write i zero64).1.bytes i = zero64 := by
          rw [c3, block_same _ _ _ (by rw [zero64_length]; omega) hb (by omega), List.drop_of_length_le (by rw [blockAt_length _ _ hb (by omega), zero64_length]; omega), List.append_nil]
        have hother : ∀ j, j ≠ i → blockAt (st.write i zero64).1.bytes j = blockAt st.bytes j := fun j hj => by
          rw [c3, block_other _ _ _ _ (Ne.symm hj) (by rw [zero64_length]; omega) hb (by omega)]
        obtain ⟨h1, h2⟩ := erase_law n (st.write i zero64).1 (i + 1) c2 hb2 (by omega)
        refine ⟨h1, ?_⟩
        rcases h2 with ⟨a1, a2, a3, a4⟩ | ⟨a1, a2, k, q, hk, hq, a4⟩
        · refine .inl ⟨a1, a2, a3.trans c4, fun j => ?_⟩
          rw [a4 j]
          by_cases hj : j = i
          · subst hj
            rw [if_neg (by omega), if_pos (by omega), hsame]
          · rw [hother j hj]
            by_cases h3 : i + 1 ≤ j ∧ j < i + 1 + n
            · rw [if_pos h3, if_pos (by omega)]
            · rw [if_neg h3, if_neg (by omega)]
        · refine .inr ⟨a1, by rw [← c4]; exact a2, k + 1, q, by omega, hq, fun j => ?_⟩
          rw [a4 j]
          by_cases hj : j = i
          · subst hj
            rw [if_neg (by omega), if_neg (by omega), if_pos (by omega), hsame]
          · rw [hother j hj]
            by_cases h3 : i + 1 ≤ j ∧ j < i + 1 + k
            · rw [if_pos h3, if_pos (by omega)]
            · rw [if_neg h3, if_neg (by omega : ¬ (i ≤ j ∧ j < i + (k + 1)))]
              have e2 : i + 1 + k = i + (k + 1) := by omega
              rw [e2]
      · have e : st.erase i (n + 1) = st.write i zero64 := by rw [St.erase, if_neg hz, if_pos (by rw [c1]; simp)]
        rw [e]
        have hzl : (zero64.take q).length = q := by rw [List.length_take, zero64_length]; omega
        refine ⟨by rw [c3]; exact patch64 _ _ _ hb (by omega) (by omega), .inr ⟨c1, c2, 0, q, by omega, hq, fun j => ?_⟩⟩
        rw [c3, if_neg (by omega)]
        by_cases hj : j = i
        · subst hj
          rw [if_pos (by omega), block_same _ _ _ (by omega) hb (by omega), hzl]
        · rw [if_neg (by omega), block_other _ _ _ _ (Ne.symm hj) (by omega) hb (by omega)]

theorem lay_law : ∀ (cs : List (List UInt8)) (st : St) (i : Nat), (∀ c ∈ cs, c.length = 64) → st.down = false → st.bytes.length = 65536 → i + cs.length ≤ 1024 →
    (st.lay i cs).1.bytes.length = 65536 ∧
    (((st.lay i cs).2 = 0 ∧ (st.lay i cs).1.down = false ∧ (st.lay i cs).1.armed = st.armed ∧ ∀ j, blockAt (st.lay i cs).1.bytes j = if i ≤ j ∧ j < i + cs.length then cs.getD (j - i) [] else blockAt st.bytes j) ∨
     ((st.lay i cs).2 = 13 ∧ st.armed = true ∧ ∃ k q, k < cs.length ∧ q ≤ 64 ∧ ∀ j, blockAt (st.lay i cs).1.bytes j = if i ≤ j ∧ j < i + k then cs.getD (j - i) [] else if j = i + k then (cs.getD k []).take q ++ (blockAt st.bytes j).drop q else blockAt st.bytes j))
  | [], st, i, _, hd, hb, _ => by
    refine ⟨hb, .inl ⟨rfl, hd, rfl, fun j => ?_⟩⟩
    rw [if_neg (by simp)]; rfl
  | c :: cs, st, i, hcs, hd, hb, hi => by
    have hc : c.length = 64 := hcs c (by simp)
    rw [List.length_cons] at hi
    rcases write_cases st i c hd hb (by omega) hc with ⟨c1, c2, c3, c4, -⟩ | ⟨c1, c2, q, hq, c3⟩
    · have e : st.lay i (c :: cs) = (st.write i c).1.lay (i + 1) cs := by rw [St.lay, if_neg (by rw [c1]; simp)]
      rw [e]
      have hb2 : (st.write i c).1.bytes.length = 65536 := by rw [c3]; exact patch64 _ _ _ hb (by omega) (by omega)
      have hsame : blockAt (st.write i c).1.bytes i = c := by
        rw [c3, block_same _ _ _ (by omega) hb (by omega), List.drop_of_length_le (by rw [blockAt_length _ _ hb (by omega)]; omega), List.append_nil]
      have hother : ∀ j, j ≠ i → blockAt (st.write i c).1.bytes j = blockAt st.bytes j := fun j hj => by
        rw [c3, block_other _ _ _ _ (Ne.symm hj) (by omega) hb (by omega)]
      have hget : ∀ j, i < j → (c :: cs).getD (j - i) [] = cs.getD (j - (i + 1)) [] := fun j hj => by
        have : j - i = (j - (i + 1)) + 1 := by omega
        rw [this]; rfl
      obtain ⟨h1, h2⟩ := lay_law cs (st.write i c).1 (i + 1) (fun x hx => hcs x (by simp [hx])) c2 hb2 (by omega)
      refine ⟨h1, ?_⟩
      rcases h2 with ⟨a1, a2, a3, a4⟩ | ⟨a1, a2, k, q, hk, hq, a4⟩
      · refine .inl ⟨a1, a2, a3.trans c4, fun j => ?_⟩
        rw [a4 j, List.length_cons]
        by_cases hj : j = i
        · subst hj
          rw [if_neg (by omega), if_pos (by omega), hsame, Nat.sub_self]; rfl
        · rw [hother j hj]
          by_cases h3 : i + 1 ≤ j ∧ j < i + 1 + cs.length
          · rw [if_pos h3, if_pos (by omega), hget j (by omega)]
          · rw [if_neg h3, if_neg (by omega)]
      · refine .inr ⟨a1, by rw [← c4]; exact a2, k + 1, q, by rw [List.length_cons]; omega, hq, fun j => ?_⟩
        rw [a4 j]
        by_cases hj : j = i
        · subst hj
          rw [if_neg (by omega), if_neg (by omega), if_pos (by omega), hsame, Nat.sub_self]; rfl
        · rw [hother j hj]
          by_cases h3 : i + 1 ≤ j ∧ j < i + 1 + k
          · rw [if_pos h3, if_pos (by omega), hget j (by omega)]
          · rw [if_neg h3, if_neg (by omega : ¬ (i ≤ j ∧ j < i + (k + 1)))]
            have e2 : i + 1 + k = i + (k + 1) := by omega
            rw [e2]
            rfl
    · have e : st.lay i (c :: cs) = st.write i c := by rw [St.lay, if_pos (by rw [c1]; simp)]
      rw [e]
      have hzl : (c.take q).length = q := by rw [List.length_take, hc]; omega
      refine ⟨by rw [c3]; exact patch64 _ _ _ hb (by omega) (by omega), .inr ⟨c1, c2, 0, q, by simp, hq, fun j => ?_⟩⟩
      rw [c3, if_neg (by omega)]
      by_cases hj : j = i
      · subst hj
        rw [if_pos (by omega), block_same _ _ _ (by omega) hb (by omega), hzl]
        rfl
      · rw [if_neg (by omega), block_other _ _ _ _ (Ne.symm hj) (by omega) hb (by omega)]

/-- How often a laying wrote. -/
theorem lay_writes : ∀ (cs : List (List UInt8)) (st : St) (i : Nat), (∀ c ∈ cs, c.length = 64) → st.down = false → st.armed = false → st.bytes.length = 65536 → i + cs.length ≤ 1024 → 0 ≤ st.writes → st.writes + cs.length < 1000000000000 →
    (st.lay i cs).1.writes = st.writes + cs.length
  | [], st, i, _, _, _, _, _, _, _ => by simp [St.lay]
  | c :: cs, st, i, hcs, hd, ha, hb, hi, h0, hw => by
    have hc : c.length = 64 := hcs c (by simp)
    rw [List.length_cons] at hi hw
    rcases write_cases st i c hd hb (by omega) hc with ⟨c1, c2, c3, c4, c5⟩ | ⟨_, c2, _⟩
    · have e : st.lay i (c :: cs) = (st.write i c).1.lay (i + 1) cs := by rw [St.lay, if_neg (by rw [c1]; simp)]
      have hb2 : (st.write i c).1.bytes.length = 65536 := by rw [c3]; exact patch64 _ _ _ hb (by omega) (by omega)
      have h5 : (st.write i c).1.writes = st.writes + 1 := by rw [c5]; unfold wrap64; omega
      rw [e, lay_writes cs _ (i + 1) (fun x hx => hcs x (by simp [hx])) c2 (c4.trans ha) hb2 (by omega) (by omega) (by rw [h5]; omega), h5, List.length_cons]
      omega
    · rw [ha] at c2; cases c2
/-- Nothing is erased where all is 0. -/
theorem erase_none : ∀ (n : Nat) (st : St) (i : Nat), (∀ j, i ≤ j → j < i + n → blockAt st.bytes j = zero64) → st.erase i n = (st, 0)
  | 0, _, _, _ => rfl
  | n + 1, st, i, h => by rw [St.erase, if_pos (h i (by omega) (by omega)), erase_none n st (i + 1) (fun j h1 h2 => h j (by omega) (by omega))]

/-- Blocks in a row. -/
def seg (b : List UInt8) (i n : Nat) : List (List UInt8) := (List.range' i n).map (blockAt b)
theorem seg_length (b : List UInt8) (i n : Nat) : (seg b i n).length = n := by simp [seg]
theorem seg_add (b : List UInt8) (i m n : Nat) : seg b i (m + n) = seg b i m ++ seg b (i + m) n := by
  unfold seg
  rw [← List.map_append, List.range'_append_1]
theorem seg_one (b : List UInt8) (i : Nat) : seg b i 1 = [blockAt b i] := rfl
theorem seg_congr (b b' : List UInt8) (i n : Nat) (h : ∀ j, i ≤ j → j < i + n → blockAt b' j = blockAt b j) : seg b' i n = seg b i n := by
  unfold seg
  refine List.map_congr_left (fun j hj => ?_)
  rw [List.mem_range'_1] at hj
  exact h j hj.1 hj.2
theorem seg_is (b : List UInt8) (i : Nat) (cs : List (List UInt8)) (h : ∀ j, j < cs.length → blockAt b (i + j) = cs.getD j []) : seg b i cs.length = cs := by
  apply List.ext_getElem?
  intro k
  unfold seg
  rw [List.getElem?_map]
  by_cases hk : k < cs.length
  · have e : (List.range' i cs.length)[k]? = some (i + k) := by rw [List.getElem?_range' hk, Nat.one_mul]
    rw [e, Option.map_some, h k hk, List.getD_eq_getElem?_getD, List.getElem?_eq_getElem hk]
    rfl
  · rw [List.getElem?_eq_none (by rw [List.length_range']; omega), List.getElem?_eq_none (by omega)]
    rfl
theorem seg_zero (b : List UInt8) (i n : Nat) (h : ∀ j, i ≤ j → j < i + n → blockAt b j = zero64) : seg b i n = List.replicate n zero64 := by
  have := seg_is b i (List.replicate n zero64) (fun j hj => by
    rw [List.length_replicate] at hj
    rw [h _ (by omega) (by omega), List.getD_eq_getElem?_getD, List.getElem?_replicate, if_pos hj]
    rfl)
  rwa [List.length_replicate] at this
theorem chunks_seg : ∀ (n : Nat) (b : List UInt8) (i : Nat), b.length = 65536 → i + n ≤ 1024 → chunks ((b.drop (i * 64)).take (n * 64)) = seg b i n
  | 0, b, i, _, _ => by rw [Nat.zero_mul, List.take_zero, chunks, dif_neg (by simp)]; rfl
  | n + 1, b, i, hb, hi => by
    rw [chunks, dif_pos (by rw [List.length_take, List.length_drop]; omega)]
    have e1 : ((b.drop (i * 64)).take ((n + 1) * 64)).take 64 = blockAt b i := by rw [List.take_take, Nat.min_eq_left (by omega)]; rfl
    have e2 : ((b.drop (i * 64)).take ((n + 1) * 64)).drop 64 = (b.drop ((i + 1) * 64)).take (n * 64) := by
      rw [List.drop_take, List.drop_drop]
      congr 1
      · omega
      · congr 1; omega
    rw [e1, e2, chunks_seg n b (i + 1) hb (by omega), Nat.add_comm n 1, seg_add]
    rfl
end Go.Proofs.Ytgmgmjljjbcgjaa

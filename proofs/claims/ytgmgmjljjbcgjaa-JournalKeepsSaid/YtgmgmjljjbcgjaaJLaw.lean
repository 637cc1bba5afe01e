/- Plain laws of the journal: what is found, whenever the power goes. -/
import Derived.Test.YtgmgmjljjbcgjaaJPure
import Derived.Test.YtgmgmjljjbcgjaaRecordBackW
namespace Go.Proofs.Ytgmgmjljjbcgjaa
open Go Go.RowKit NSX

def headBlock (g : Nat) : List UInt8 := blockOf [1, UInt8.ofNat g] true
/-- An area's head tells h; 0: it tells none. -/
def HeadIs (b : List UInt8) (a h : Nat) : Prop := (h = 0 ∧ pieceOf (blockAt b (a * 512)) = none) ∨ (1 ≤ h ∧ h < 256 ∧ blockAt b (a * 512) = headBlock h)
/-- Blocks that tell no body. -/
def Dead (l : List (List UInt8)) : Prop := ∀ k u, readL l [] k u = ([], u)

theorem headBlock_length (g : Nat) : (headBlock g).length = 64 := blockOf_length _ _ (by simp)
theorem Dead.none (x : List UInt8) (l : List (List UInt8)) (h : pieceOf x = none) : Dead (x :: l) := fun k u => by rw [readL, h]
theorem Dead.nil : Dead [] := fun _ _ => rfl
theorem zero_none (c : List UInt8) (h : c.length = 64) (h0 : c.getD 0 0 = 0) : pieceOf c = none := by
  cases hp : pieceOf c with
  | none => rfl
  | some x =>
    obtain ⟨p, last⟩ := x
    have hc := (pieceOf_some h hp).1
    rw [hc] at h0
    cases last <;> simp [blockOf, putSeal, headOf] at h0
theorem zero64_none : pieceOf zero64 = none := zero_none _ zero64_length rfl
theorem torn_zero_none (c : List UInt8) (q : Nat) (hq1 : 1 ≤ q) (hq : q ≤ 64) (hc : c.length = 64) : pieceOf (zero64.take q ++ c.drop q) = none := by
  refine zero_none _ (by rw [List.length_append, List.length_take, zero64_length, List.length_drop]; omega) ?_
  obtain ⟨m, rfl⟩ : ∃ m, q = m + 1 := ⟨q - 1, by omega⟩
  rfl
theorem torn_new_none (c : List UInt8) (q : Nat) (hq : q < 64) : pieceOf (c.take q ++ zero64.drop q) = none := by
  have e : zero64.drop q = List.replicate (64 - q) 0 := by unfold zero64; rw [List.drop_replicate]
  rw [e]
  exact torn_none c q (by omega)
theorem Dead.zeros (n : Nat) : Dead (List.replicate n zero64) := by
  cases n with
  | zero => exact Dead.nil
  | succ n => exact Dead.none _ _ zero64_none

theorem nAll_one (l : List (List UInt8)) (x : List UInt8) : nAll (l ++ [x]) = nAll l + nBlocks x.length := by
  unfold nAll
  rw [List.map_append, List.sum_append]
  simp
theorem laidL_one (l : List (List UInt8)) (x : List UInt8) : laidL (l ++ [x]) = laidL l ++ cutL x := by
  unfold laidL
  rw [List.flatMap_append]
  simp
theorem nBlocks_pos (n : Nat) : 1 ≤ nBlocks n := by unfold nBlocks; omega

/-- A store has a journal: the area a, of the generation g, with the bodies l; behind them there may be blocks that tell none. -/
structure Weak (b : List UInt8) (a g : Nat) (l : List (List UInt8)) : Prop where
  len : b.length = 65536
  area : a < 2
  gen1 : 1 ≤ g
  gen2 : g < 256
  head : blockAt b (a * 512) = headBlock g
  some : l ≠ []
  short : ∀ x ∈ l, x.length ≤ 32768
  fits : nAll l ≤ 511
  laid : seg b (a * 512 + 1) (nAll l) = laidL l
  dead : Dead (seg b (a * 512 + 1 + nAll l) (511 - nAll l))
  other : ∃ h, h < g ∧ HeadIs b (1 - a) h
/-- .. and behind them all is 0. -/
def Clean (b : List UInt8) (a g : Nat) (l : List (List UInt8)) : Prop := Weak b a g l ∧ ∀ j, a * 512 + 1 + nAll l ≤ j → j < a * 512 + 512 → blockAt b j = zero64

set_option maxRecDepth 100000 in
theorem Clean.mk {b : List UInt8} {a g : Nat} {l : List (List UInt8)} (len : b.length = 65536) (area : a < 2) (gen1 : 1 ≤ g) (gen2 : g < 256) (head : blockAt b (a * 512) = headBlock g) (hs : l ≠ []) (short : ∀ x ∈ l, x.length ≤ 32768)
    (fits : nAll l ≤ 511) (laid : seg b (a * 512 + 1) (nAll l) = laidL l) (zeros : ∀ j, a * 512 + 1 + nAll l ≤ j → j < a * 512 + 512 → blockAt b j = zero64) (other : ∃ h, h < g ∧ HeadIs b (1 - a) h) : Clean b a g l :=
  ⟨⟨len, area, gen1, gen2, head, hs, short, fits, laid, by rw [seg_zero b (a * 512 + 1 + nAll l) (511 - nAll l) (fun j h1 h2 => zeros j h1 (by omega))]; exact Dead.zeros _, other⟩, zeros⟩

theorem HeadIs.congr {b b' : List UInt8} {a h : Nat} (hh : HeadIs b a h) (e : blockAt b' (a * 512) = blockAt b (a * 512)) : HeadIs b' a h := by
  unfold HeadIs at *
  rw [e]; exact hh

/-- Add's blocks. -/
theorem add_law (st : St) (a g : Nat) (l : List (List UInt8)) (body : List UInt8) (hc : Clean st.bytes a g l) (hd : st.down = false) (hb : body.length ≤ 32768) (hn : nAll l + nBlocks body.length ≤ 511) :
    ((st.lay (a * 512 + 1 + nAll l) (cutL body)).2 = 0 ∧ (st.lay (a * 512 + 1 + nAll l) (cutL body)).1.down = false ∧ (st.lay (a * 512 + 1 + nAll l) (cutL body)).1.armed = st.armed ∧ Clean (st.lay (a * 512 + 1 + nAll l) (cutL body)).1.bytes a g (l ++ [body])) ∨
    ((st.lay (a * 512 + 1 + nAll l) (cutL body)).2 = 13 ∧ st.armed = true ∧ (Weak (st.lay (a * 512 + 1 + nAll l) (cutL body)).1.bytes a g l ∨ Weak (st.lay (a * 512 + 1 + nAll l) (cutL body)).1.bytes a g (l ++ [body]))) := by
  obtain ⟨hw, hz⟩ := hc
  obtain ⟨len, area, gen1, gen2, head, hs, short, fits, laid, -, h, hhg, other⟩ := hw
  obtain ⟨A, hA⟩ : ∃ A, A = a * 512 + 1 + nAll l := ⟨_, rfl⟩
  rw [← hA] at hz ⊢
  have hcl := cutL_length body
  have hpos := nBlocks_pos body.length
  obtain ⟨h1, h2⟩ := lay_law (cutL body) st A (cutL_each body) hd len (by omega)
  obtain ⟨r, hr⟩ : ∃ r, r = st.lay A (cutL body) := ⟨_, rfl⟩
  rw [← hr] at h1 h2 ⊢
  rw [hcl] at h2
  -- where all is laid
  have whole : (∀ j, blockAt r.1.bytes j = if A ≤ j ∧ j < A + nBlocks body.length then (cutL body).getD (j - A) [] else blockAt st.bytes j) → Clean r.1.bytes a g (l ++ [body]) := by
    intro f
    refine Clean.mk h1 area gen1 gen2 ?_ (by simp) ?_ (by rw [nAll_one]; exact hn) ?_ ?_ ⟨h, hhg, other.congr ?_⟩
    · rw [f, if_neg (by omega), head]
    · intro x hx
      rcases List.mem_append.1 hx with hx | hx
      · exact short x hx
      · simp at hx; subst hx; exact hb
    · rw [nAll_one, laidL_one, seg_add]
      congr 1
      · rw [← laid]
        exact seg_congr _ _ _ _ (fun j _ h4 => by rw [f, if_neg (by omega)])
      · rw [← hA, ← hcl]
        exact seg_is _ _ _ (fun j hj => by rw [f, if_pos (by omega)]; congr 1; omega)
    · intro j h3 h4
      rw [nAll_one] at h3
      rw [f, if_neg (by omega), hz j (by omega) (by omega)]
    · rw [f, if_neg (by omega)]
  rcases h2 with ⟨a1, a2, a3, f⟩ | ⟨a1, a2, k, q, hk, hq, f⟩
  · exact .inl ⟨a1, a2, a3, whole f⟩
  · refine .inr ⟨a1, a2, ?_⟩
    by_cases hall : q = 64 ∧ k + 1 = nBlocks body.length
    · right
      refine (whole (fun j => ?_)).1
      rw [f j]
      by_cases hj1 : A ≤ j ∧ j < A + k
      · rw [if_pos hj1, if_pos (by omega)]
      · rw [if_neg hj1]
        by_cases hj2 : j = A + k
        · subst hj2
          have e : A + k - A = k := by omega
          have hck : ((cutL body).getD k []).length = 64 := by
            rw [List.getD_eq_getElem?_getD, List.getElem?_eq_getElem (by omega)]
            exact cutL_each body _ (List.getElem_mem _)
          rw [if_pos rfl, if_pos (by omega), e, hall.1, List.take_of_length_le (by omega), List.drop_of_length_le (by rw [hz _ (by omega) (by omega), zero64_length]; omega), List.append_nil]
        · rw [if_neg hj2, if_neg (by omega)]
    · left
      have hdead : Dead (seg r.1.bytes A (511 - nAll l)) := by
        obtain ⟨k', hk', hseg, hnone⟩ : ∃ k', k' < nBlocks body.length ∧ seg r.1.bytes A k' = (cutL body).take k' ∧ pieceOf (blockAt r.1.bytes (A + k')) = none := by
          by_cases hq64 : q = 64
          · refine ⟨k + 1, by omega, ?_, ?_⟩
            · have e := seg_is r.1.bytes A ((cutL body).take (k + 1)) (fun j hj => by
                rw [List.length_take, hcl] at hj
                rw [f]
                have hget : ((cutL body).take (k + 1)).getD j [] = (cutL body).getD j [] := by
                  rw [List.getD_eq_getElem?_getD, List.getD_eq_getElem?_getD, List.getElem?_take, if_pos (by omega)]
                rw [hget]
                by_cases hjk : j < k
                · rw [if_pos (by omega)]; congr 1; omega
                · have hjk2 : j = k := by omega
                  subst hjk2
                  have hck : ((cutL body).getD j []).length = 64 := by
                    rw [List.getD_eq_getElem?_getD, List.getElem?_eq_getElem (by omega)]
                    exact cutL_each body _ (List.getElem_mem _)
                  rw [if_neg (by omega), if_pos rfl, hq64, List.take_of_length_le (by omega), List.drop_of_length_le (by rw [hz _ (by omega) (by omega), zero64_length]; omega), List.append_nil])
              rwa [List.length_take, hcl, Nat.min_eq_left (by omega)] at e
            · rw [f, if_neg (by omega), if_neg (by omega), hz _ (by omega) (by omega)]
              exact zero64_none
          · refine ⟨k, hk, ?_, ?_⟩
            · have e := seg_is r.1.bytes A ((cutL body).take k) (fun j hj => by
                rw [List.length_take, hcl] at hj
                rw [f]
                have hget : ((cutL body).take k).getD j [] = (cutL body).getD j [] := by
                  rw [List.getD_eq_getElem?_getD, List.getD_eq_getElem?_getD, List.getElem?_take, if_pos (by omega)]
                rw [hget, if_pos (by omega)]; congr 1; omega)
              rwa [List.length_take, hcl, Nat.min_eq_left (by omega)] at e
            · rw [f, if_neg (by omega), if_pos rfl, hz _ (by omega) (by omega)]
              exact torn_new_none _ q (by omega)
        intro u v
        have e : 511 - nAll l = k' + (1 + (511 - nAll l - k' - 1)) := by omega
        rw [e, seg_add, seg_add, hseg, seg_one]
        exact readL_upto body [] k' _ _ u v (by simpa using hb) (by omega) hnone
      refine ⟨h1, area, gen1, gen2, ?_, hs, short, fits, ?_, by rw [← hA]; exact hdead, h, hhg, other.congr ?_⟩
      · rw [f, if_neg (by omega), if_neg (by omega), head]
      · rw [← laid]
        exact seg_congr _ _ _ _ (fun j _ h4 => by rw [f, if_neg (by omega), if_neg (by omega)])
      · rw [f, if_neg (by omega), if_neg (by omega)]

/-- What begins does to a store. -/
def St.begins (st : St) (snap : List UInt8) (a g : Nat) : St × Int :=
  if (st.erase (a * 512) 512).2 ≠ 0 then st.erase (a * 512) 512
  else if ((st.erase (a * 512) 512).1.lay (a * 512 + 1) (cutL snap)).2 ≠ 0 then (st.erase (a * 512) 512).1.lay (a * 512 + 1) (cutL snap)
  else ((st.erase (a * 512) 512).1.lay (a * 512 + 1) (cutL snap)).1.lay (a * 512) [headBlock g]

set_option maxRecDepth 100000 in
theorem begins_law (st : St) (a g h h2 : Nat) (snap : List UInt8) (hd : st.down = false) (len : st.bytes.length = 65536) (area : a < 2) (gen1 : 1 ≤ g) (gen2 : g < 256) (hb : snap.length ≤ 32768) (hn : nBlocks snap.length ≤ 511)
    (hh : HeadIs st.bytes a h) (hh2 : HeadIs st.bytes (1 - a) h2) (hg2 : h2 < g) :
    ((st.begins snap a g).2 = 0 ∧ (st.begins snap a g).1.down = false ∧ (st.begins snap a g).1.armed = st.armed ∧ Clean (st.begins snap a g).1.bytes a g [snap]) ∨
    ((st.begins snap a g).2 = 13 ∧ st.armed = true ∧ (Weak (st.begins snap a g).1.bytes a g [snap] ∨ ((st.begins snap a g).1.bytes.length = 65536 ∧ (∃ h', h' ≤ h ∧ HeadIs (st.begins snap a g).1.bytes a h') ∧ ∀ j, (j < a * 512 ∨ a * 512 + 512 ≤ j) → blockAt (st.begins snap a g).1.bytes j = blockAt st.bytes j))) := by
  have hcl := cutL_length snap
  have hpos := nBlocks_pos snap.length
  have hna : nAll [snap] = nBlocks snap.length := by simp [nAll]
  have hla : laidL [snap] = cutL snap := by simp [laidL]
  obtain ⟨r1, hr1⟩ : ∃ r1, r1 = st.erase (a * 512) 512 := ⟨_, rfl⟩
  have he := erase_law 512 st (a * 512) hd len (by omega)
  unfold St.begins
  rw [← hr1] at he ⊢
  obtain ⟨l1, he⟩ := he
  rcases he with ⟨b1, b2, b3, f1⟩ | ⟨b1, b2, k, q, hk, hq, f1⟩
  · rw [if_neg (by rw [b1]; simp)]
    obtain ⟨r2, hr2⟩ : ∃ r2, r2 = r1.1.lay (a * 512 + 1) (cutL snap) := ⟨_, rfl⟩
    have hl := lay_law (cutL snap) r1.1 (a * 512 + 1) (cutL_each snap) b2 l1 (by omega)
    rw [← hr2] at hl ⊢
    obtain ⟨l2, hl⟩ := hl
    rw [hcl] at hl
    rcases hl with ⟨c1, c2, c3, f2⟩ | ⟨c1, c2, k, q, hk, hq, f2⟩
    · rw [if_neg (by rw [c1]; simp)]
      obtain ⟨r3, hr3⟩ : ∃ r3, r3 = r2.1.lay (a * 512) [headBlock g] := ⟨_, rfl⟩
      have hl := lay_law [headBlock g] r2.1 (a * 512) (by simp [headBlock_length]) c2 l2 (by simp; omega)
      rw [← hr3] at hl ⊢
      obtain ⟨l3, hl⟩ := hl
      simp only [List.length_singleton] at hl
      have whole : blockAt r3.1.bytes (a * 512) = headBlock g → (∀ j, j ≠ a * 512 → blockAt r3.1.bytes j = blockAt r2.1.bytes j) → Clean r3.1.bytes a g [snap] := by
        intro e f
        refine Clean.mk l3 area gen1 gen2 e (by simp) (by simpa using hb) (by rw [hna]; exact hn) ?_ ?_ ⟨h2, hg2, hh2.congr ?_⟩
        · rw [hna, hla, ← hcl]
          exact seg_is _ _ _ (fun j hj => by rw [f _ (by omega), f2, if_pos (by omega)]; congr 1; omega)
        · intro j h3 h4
          rw [hna] at h3
          rw [f _ (by omega), f2, if_neg (by omega), f1, if_pos (by omega)]
        · rw [f _ (by omega), f2, if_neg (by omega), f1, if_neg (by omega)]
      rcases hl with ⟨d1, d2, d3, f3⟩ | ⟨d1, d2, k, q, hk, hq, f3⟩
      · refine .inl ⟨d1, d2, d3.trans (c3.trans b3), whole ?_ (fun j hj => ?_)⟩
        · rw [f3, if_pos (by omega), Nat.sub_self]; rfl
        · rw [f3, if_neg (by omega)]
      · have hk0 : k = 0 := by omega
        subst hk0
        have hbl : blockAt r2.1.bytes (a * 512) = zero64 := by rw [f2, if_neg (by omega), f1, if_pos (by omega)]
        refine .inr ⟨d1, by rw [← b3, ← c3]; exact d2, ?_⟩
        by_cases hq64 : q = 64
        · left
          refine (whole ?_ (fun j hj => ?_)).1
          · rw [f3, if_neg (by omega), if_pos (by omega), hq64, hbl]
            show (headBlock g).take 64 ++ zero64.drop 64 = _
            rw [List.take_of_length_le (by rw [headBlock_length]; omega)]
            simp [zero64]
          · rw [f3, if_neg (by omega), if_neg (by omega)]
        · right
          refine ⟨l3, ⟨0, Nat.zero_le _, .inl ⟨rfl, ?_⟩⟩, fun j hj => ?_⟩
          · rw [f3, if_neg (by omega), if_pos (by omega), hbl]
            exact torn_new_none _ q (by omega)
          · rw [f3, if_neg (by omega), if_neg (by omega), f2, if_neg (by omega), f1, if_neg (by omega)]
    · rw [if_pos (by rw [c1]; simp)]
      refine .inr ⟨c1, by rw [← b3]; exact c2, .inr ⟨l2, ⟨0, Nat.zero_le _, .inl ⟨rfl, ?_⟩⟩, fun j hj => ?_⟩⟩
      · rw [f2, if_neg (by omega), if_neg (by omega), f1, if_pos (by omega)]
        exact zero64_none
      · rw [f2, if_neg (by omega), if_neg (by omega), f1, if_neg (by omega)]
  · rw [if_pos (by rw [b1]; simp)]
    refine .inr ⟨b1, b2, .inr ⟨l1, ?_, fun j hj => ?_⟩⟩
    · by_cases hk0 : k = 0
      · subst hk0
        by_cases hq0 : q = 0
        · subst hq0
          refine ⟨h, Nat.le_refl _, hh.congr ?_⟩
          rw [f1, if_neg (by omega), if_pos (by omega)]
          rfl
        · refine ⟨0, Nat.zero_le _, .inl ⟨rfl, ?_⟩⟩
          rw [f1, if_neg (by omega), if_pos (by omega)]
          exact torn_zero_none _ q (by omega) hq (blockAt_length _ _ len (by omega))
      · refine ⟨0, Nat.zero_le _, .inl ⟨rfl, ?_⟩⟩
        rw [f1, if_pos (by omega)]
        exact zero64_none
    · rw [f1, if_neg (by omega), if_neg (by omega)]

set_option maxRecDepth 100000 in
/-- A journal whose area is as it was, the other area's head telling less. -/
theorem Weak.away {b b' : List UInt8} {a g : Nat} {l : List (List UInt8)} (hw : Weak b a g l) (len : b'.length = 65536) (f : ∀ j, a * 512 ≤ j → j < a * 512 + 512 → blockAt b' j = blockAt b j) (ho : ∃ h, h < g ∧ HeadIs b' (1 - a) h) : Weak b' a g l := by
  obtain ⟨_, area, gen1, gen2, head, hs, short, fits, laid, dead, _⟩ := hw
  refine ⟨len, area, gen1, gen2, by rw [f _ (by omega) (by omega), head], hs, short, fits, ?_, ?_, ho⟩
  · rw [← laid]
    exact seg_congr _ _ _ _ (fun j _ _ => f j (by omega) (by omega))
  · rw [seg_congr b b' (a * 512 + 1 + nAll l) (511 - nAll l) (fun j _ _ => f j (by omega) (by omega))]
    exact dead
/-- Rewrite's blocks. -/
theorem rewrite_law (st : St) (a g : Nat) (l : List (List UInt8)) (snap : List UInt8) (hc : Clean st.bytes a g l) (hd : st.down = false) (hb : snap.length ≤ 32768) (hn : nBlocks snap.length ≤ 511) (hg : g < 255) :
    ((st.begins snap (1 - a) (g + 1)).2 = 0 ∧ (st.begins snap (1 - a) (g + 1)).1.down = false ∧ (st.begins snap (1 - a) (g + 1)).1.armed = st.armed ∧ Clean (st.begins snap (1 - a) (g + 1)).1.bytes (1 - a) (g + 1) [snap]) ∨
    ((st.begins snap (1 - a) (g + 1)).2 = 13 ∧ st.armed = true ∧ (Weak (st.begins snap (1 - a) (g + 1)).1.bytes a g l ∨ Weak (st.begins snap (1 - a) (g + 1)).1.bytes (1 - a) (g + 1) [snap])) := by
  have hw := hc.1
  have area := hw.area
  obtain ⟨h, hhg, ho⟩ := hw.other
  have e11 : 1 - (1 - a) = a := by omega
  have hhead : HeadIs st.bytes a g := .inr ⟨hw.gen1, hw.gen2, hw.head⟩
  rcases begins_law st (1 - a) (g + 1) h g snap hd hw.len (by omega) (by omega) (by omega) hb hn ho (by rw [e11]; exact hhead) (by omega) with h' | ⟨h1, h2, h3⟩
  · exact .inl h'
  · refine .inr ⟨h1, h2, ?_⟩
    rcases h3 with h3 | ⟨l3, ⟨h', hle, hh'⟩, f⟩
    · exact .inr h3
    · exact .inl (hw.away l3 (fun j _ _ => f j (by omega)) ⟨h', by omega, hh'⟩)

set_option maxRecDepth 100000 in
/-- Open's erasing. -/
theorem open_law (st : St) (a g : Nat) (l : List (List UInt8)) (hw : Weak st.bytes a g l) (hd : st.down = false) :
    ((st.erase (a * 512 + 1 + nAll l) (511 - nAll l)).2 = 0 ∧ (st.erase (a * 512 + 1 + nAll l) (511 - nAll l)).1.down = false ∧ (st.erase (a * 512 + 1 + nAll l) (511 - nAll l)).1.armed = st.armed ∧ Clean (st.erase (a * 512 + 1 + nAll l) (511 - nAll l)).1.bytes a g l) ∨
    ((st.erase (a * 512 + 1 + nAll l) (511 - nAll l)).2 = 13 ∧ st.armed = true ∧ Weak (st.erase (a * 512 + 1 + nAll l) (511 - nAll l)).1.bytes a g l) := by
  obtain ⟨len, area, gen1, gen2, head, hs, short, fits, laid, dead, h, hhg, other⟩ := hw
  obtain ⟨h1, h2⟩ := erase_law (511 - nAll l) st (a * 512 + 1 + nAll l) hd len (by omega)
  obtain ⟨r, hr⟩ : ∃ r, r = st.erase (a * 512 + 1 + nAll l) (511 - nAll l) := ⟨_, rfl⟩
  rw [← hr] at h1 h2 ⊢
  rcases h2 with ⟨a1, a2, a3, f⟩ | ⟨a1, a2, k, q, hk, hq, f⟩
  · refine .inl ⟨a1, a2, a3, Clean.mk h1 area gen1 gen2 ?_ hs short fits ?_ ?_ ⟨h, hhg, other.congr ?_⟩⟩
    · rw [f, if_neg (by omega), head]
    · rw [← laid]
      exact seg_congr _ _ _ _ (fun j _ _ => by rw [f, if_neg (by omega)])
    · intro j h3 h4
      rw [f, if_pos (by omega)]
    · rw [f, if_neg (by omega)]
  · refine .inr ⟨a1, a2, h1, area, gen1, gen2, ?_, hs, short, fits, ?_, ?_, h, hhg, other.congr ?_⟩
    · rw [f, if_neg (by omega), if_neg (by omega), head]
    · rw [← laid]
      exact seg_congr _ _ _ _ (fun j _ _ => by rw [f, if_neg (by omega), if_neg (by omega)])
    · have e : 511 - nAll l = 1 + (511 - nAll l - 1) := by omega
      by_cases hsame : k = 0 ∧ q = 0
      · obtain ⟨rfl, rfl⟩ := hsame
        rw [seg_congr st.bytes r.1.bytes _ _ (fun j _ _ => by
          rw [f, if_neg (by omega)]
          by_cases hj : j = a * 512 + 1 + nAll l + 0
          · rw [if_pos hj]; rfl
          · rw [if_neg hj])]
        exact dead
      · rw [e, seg_add, seg_one]
        refine Dead.none _ _ ?_
        rw [f]
        by_cases hk0 : k = 0
        · subst hk0
          rw [if_neg (by omega), if_pos (by omega)]
          exact torn_zero_none _ q (by omega) hq (blockAt_length _ _ len (by omega))
        · rw [if_pos (by omega)]
          exact zero64_none
    · rw [f, if_neg (by omega), if_neg (by omega)]
set_option maxRecDepth 100000 in
/-- An open journal that is as it should be is opened once more with no write. -/
theorem open_again (st : St) (a g : Nat) (l : List (List UInt8)) (hc : Clean st.bytes a g l) : st.erase (a * 512 + 1 + nAll l) (511 - nAll l) = (st, 0) := by
  have := hc.1.fits
  exact erase_none _ _ _ (fun j h1 h2 => hc.2 j h1 (by omega))

/-- What an area's blocks are read as. -/
def areaRead (b : List UInt8) (k : Nat) : List (List UInt8) × Nat := readL (seg b (k * 512 + 1) 511) [] 0 0
theorem Weak.read {b : List UInt8} {a g : Nat} {l : List (List UInt8)} (hw : Weak b a g l) : areaRead b a = (l, nAll l) := by
  have := hw.fits
  have e : 511 = nAll l + (511 - nAll l) := by omega
  unfold areaRead
  rw [e, seg_add, hw.laid, readL_laid _ _ _ hw.short, hw.dead]
  simp
/-- The area that Open takes, of the first k ones. -/
def pick (b : List UInt8) (hs : Nat → Nat) : Nat → Nat × Nat × List (List UInt8) × Nat
  | 0 => (0, 0, [], 0)
  | k + 1 => if (pick b hs k).2.1 < hs k ∧ (areaRead b k).1 ≠ [] then (k, hs k, (areaRead b k).1, (areaRead b k).2) else pick b hs k
theorem pick_law {b : List UInt8} {a g : Nat} {l : List (List UInt8)} (hw : Weak b a g l) : ∃ hs : Nat → Nat, (∀ k, k < 2 → HeadIs b k (hs k)) ∧ pick b hs 2 = (a, g, l, nAll l) := by
  obtain ⟨h, hhg, ho⟩ := hw.other
  have area := hw.area
  have gen := hw.gen1
  refine ⟨fun k => if k = a then g else h, fun k hk => ?_, ?_⟩
  · by_cases hka : k = a
    · subst hka
      simp only [if_pos]
      exact .inr ⟨hw.gen1, hw.gen2, hw.head⟩
    · simp only [if_neg hka]
      have : k = 1 - a := by omega
      rw [this]; exact ho
  · have hr := hw.read
    have hne := hw.some
    have ha : a = 0 ∨ a = 1 := by omega
    rcases ha with rfl | rfl
    · have e1 : pick b (fun k => if k = 0 then g else h) 1 = (0, g, l, nAll l) := by
        unfold pick
        rw [hr, if_pos ⟨by simp only [pick, if_pos]; omega, hne⟩]
        rfl
      unfold pick
      rw [e1, if_neg (by simp; omega)]
    · have e1 : (pick b (fun k => if k = 1 then g else h) 1).2.1 < g := by
        show (if (0 : Nat) < h ∧ (areaRead b 0).1 ≠ [] then (0, h, (areaRead b 0).1, (areaRead b 0).2) else ((0, 0, [], 0) : Nat × Nat × List (List UInt8) × Nat)).2.1 < g
        split
        · exact hhg
        · exact gen
      unfold pick
      rw [hr, if_pos ⟨by simpa using e1, hne⟩]
      rfl
/-- A store of bytes 0 has no journal. -/
theorem pick_none (b : List UInt8) (hs : Nat → Nat) (h0 : hs 0 = 0) (h1 : hs 1 = 0) : pick b hs 2 = (0, 0, [], 0) := by
  have e : pick b hs 1 = (0, 0, [], 0) := by unfold pick; rw [if_neg (by rw [h0]; simp)]; rfl
  unfold pick
  rw [e, if_neg (by rw [h1]; simp)]

/-- What one block is read as. -/
theorem read_one (c : List UInt8) (hc : c.length = 64) : readB c = readL [c] [] 0 0 := by
  unfold readB
  rw [chunks, dif_pos (by omega), chunks, dif_neg (by rw [List.length_drop]; omega), List.take_of_length_le (by omega)]
theorem read_head (b : List UInt8) (a h : Nat) (hl : (blockAt b (a * 512)).length = 64) (hh : HeadIs b a h) : (h = 0 ∧ readB (blockAt b (a * 512)) = ([], 0)) ∨ (1 ≤ h ∧ h < 256 ∧ readB (blockAt b (a * 512)) = ([[1, UInt8.ofNat h]], 1)) := by
  rw [read_one _ hl]
  rcases hh with ⟨h0, hn⟩ | ⟨h1, h2, e⟩
  · left
    refine ⟨h0, ?_⟩
    rw [readL, hn]
  · right
    refine ⟨h1, h2, ?_⟩
    rw [e, readL, headBlock, pieceOf_blockOf _ _ (by simp) (.inl rfl)]
    simp [readL]
theorem cut_head (g : Nat) : cutL [1, UInt8.ofNat g] = [headBlock g] := by
  rw [cutL, dif_neg (by simp)]
  rfl
end Go.Proofs.Ytgmgmjljjbcgjaa

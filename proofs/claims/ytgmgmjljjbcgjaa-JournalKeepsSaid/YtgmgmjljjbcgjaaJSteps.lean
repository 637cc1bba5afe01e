/- The journal's steps, in the laws' words. -/
import Derived.Test.YtgmgmjljjbcgjaaJHolds
namespace Go.Proofs.Ytgmgmjljjbcgjaa
open Go Go.RowKit NSX

theorem length_le_nAll : ∀ l : List (List UInt8), l.length ≤ nAll l
  | [] => Nat.zero_le _
  | b :: l => by
    have h1 := length_le_nAll l
    have h2 := nBlocks_pos b.length
    have e : nAll (b :: l) = nBlocks b.length + nAll l := by simp [nAll]
    rw [e, List.length_cons]
    omega

/-- The open journal of a store. -/
def jnOf (a g : Nat) (l : List (List UInt8)) : Jn := ⟨a, g, l, nAll l, false⟩

/-- Add. -/
theorem add_step (a g : Nat) (l : List (List UInt8)) (body : List UInt8) (st : St) (hc : Clean st.bytes a g l) (hd : st.down = false) :
    (sizeAns body.length ((511 - nAll l : Nat) : Int) = 0 ∧
      (((jnOf a g l).add st body).2.2 = 0 ∧ ((jnOf a g l).add st body).1 = jnOf a g (l ++ [body]) ∧ ((jnOf a g l).add st body).2.1.down = false ∧ ((jnOf a g l).add st body).2.1.armed = st.armed ∧ Clean ((jnOf a g l).add st body).2.1.bytes a g (l ++ [body]) ∧
        (st.armed = false → 0 ≤ st.writes → st.writes ≤ 100000000 → ((jnOf a g l).add st body).2.1.writes = st.writes + nBlocks body.length))) ∨
    (sizeAns body.length ((511 - nAll l : Nat) : Int) = 0 ∧ ((jnOf a g l).add st body).2.2 = 13 ∧ st.armed = true ∧ (Weak ((jnOf a g l).add st body).2.1.bytes a g l ∨ Weak ((jnOf a g l).add st body).2.1.bytes a g (l ++ [body]))) ∨
    (sizeAns body.length ((511 - nAll l : Nat) : Int) ≠ 0 ∧ (jnOf a g l).add st body = (jnOf a g l, st, sizeAns body.length ((511 - nAll l : Nat) : Int))) := by
  have hfit := hc.1.fits
  have harea := hc.1.area
  by_cases h0 : sizeAns body.length ((511 - nAll l : Nat) : Int) = 0
  · obtain ⟨hl, hn⟩ := sizeAns_ok h0
    have e : (jnOf a g l).add st body = (if (st.lay (a * 512 + 1 + nAll l) (cutL body)).2 = 0 then ⟨a, g, l ++ [body], nAll l + nBlocks body.length, false⟩ else ⟨a, g, l, nAll l, true⟩, (st.lay (a * 512 + 1 + nAll l) (cutL body)).1, (st.lay (a * 512 + 1 + nAll l) (cutL body)).2) := by
      unfold Jn.add
      rw [if_pos (show sizeAns body.length ((511 - (jnOf a g l).used : Nat) : Int) = 0 from h0)]
      rfl
    rcases add_law st a g l body hc hd hl (by omega) with ⟨a1, a2, a3, a4⟩ | ⟨a1, a2, a3⟩
    · left
      rw [e]
      refine ⟨h0, a1, ?_, a2, a3, a4, fun ha hw hw2 => ?_⟩
      · rw [if_pos a1]
        unfold jnOf
        rw [nAll_one]
      · have hcl := cutL_length body
        have := lay_writes (cutL body) st (a * 512 + 1 + nAll l) (cutL_each body) hd ha hc.1.len (by omega) hw (by omega)
        rw [this, hcl]
    · right; left
      rw [e]
      exact ⟨h0, a1, a2, a3⟩
  · right; right
    refine ⟨h0, ?_⟩
    unfold Jn.add
    rw [if_neg (show ¬ sizeAns body.length ((511 - (jnOf a g l).used : Nat) : Int) = 0 from h0)]
    rfl

/-- Rewrite. -/
theorem rewrite_step (a g : Nat) (l : List (List UInt8)) (snap : List UInt8) (st : St) (hc : Clean st.bytes a g l) (hd : st.down = false) (hg : g < 255) :
    (((jnOf a g l).rewrite st snap).2.2 = 0 ∧ ((jnOf a g l).rewrite st snap).1 = jnOf (1 - a) (g + 1) [snap] ∧ ((jnOf a g l).rewrite st snap).2.1.down = false ∧ ((jnOf a g l).rewrite st snap).2.1.armed = st.armed ∧ Clean ((jnOf a g l).rewrite st snap).2.1.bytes (1 - a) (g + 1) [snap]) ∨
    (((jnOf a g l).rewrite st snap).2.2 = 13 ∧ st.armed = true ∧ (Weak ((jnOf a g l).rewrite st snap).2.1.bytes a g l ∨ Weak ((jnOf a g l).rewrite st snap).2.1.bytes (1 - a) (g + 1) [snap])) ∨
    (sizeAns snap.length 511 ≠ 0 ∧ (jnOf a g l).rewrite st snap = (jnOf a g l, st, sizeAns snap.length 511)) := by
  by_cases h0 : sizeAns snap.length 511 = 0
  · obtain ⟨hl, hn⟩ := sizeAns_ok h0
    have e : (jnOf a g l).rewrite st snap = (if (st.begins snap (1 - a) (g + 1)).2 = 0 then (jnOf a g l).begun snap (1 - a) (g + 1) 0 else ⟨a, g, l, nAll l, true⟩, (st.begins snap (1 - a) (g + 1)).1, (st.begins snap (1 - a) (g + 1)).2) := by
      unfold Jn.rewrite
      rw [if_pos h0]
      rfl
    rcases rewrite_law st a g l snap hc hd hl (by omega) hg with ⟨a1, a2, a3, a4⟩ | ⟨a1, a2, a3⟩
    · left
      rw [e]
      refine ⟨a1, ?_, a2, a3, a4⟩
      rw [if_pos a1]
      unfold Jn.begun jnOf
      simp [nAll]
    · right; left
      rw [e]
      exact ⟨a1, a2, a3⟩
  · right; right
    refine ⟨h0, ?_⟩
    unfold Jn.rewrite
    rw [if_neg h0]
theorem sizeAns_not13 (n : Nat) (m : Int) : sizeAns n m ≠ 13 := by
  unfold sizeAns
  split
  · decide
  · split <;> decide
end Go.Proofs.Ytgmgmjljjbcgjaa

/- Plain laws of records: bytes of one block changed. -/
import Derived.Test.YtgmgmjljjbcgjaaRecBad
import Derived.Test.YtgmgmjljjbcgjaaRecordBackW
namespace Go.Proofs.Ytgmgmjljjbcgjaa
open Go Go.RowKit NSX

/-- Blocks of which one is replaced by one that is none. -/
theorem bad_law (ss : List ByteArray) (h : ∀ s ∈ ss, s.size ≤ 1000) (k : Nat) (x : List UInt8) (hx : x.length = 64) (hk : k < nAll (asBytes ss)) (hp : pieceOf x = none) :
    ∃ m, m < ss.length ∧ readB ((laidB ss).take (64 * k) ++ (x ++ (laidB ss).drop (64 * (k + 1)))) = (asBytes (ss.take m), nAll (asBytes (ss.take m))) ∧ nAll (asBytes (ss.take m)) ≤ k ∧ ∃ s, ss[m]? = some s ∧ k < nAll (asBytes (ss.take m)) + nBlocks s.size := by
  obtain ⟨m, hm, h1, h2, b, hb, h3⟩ := read_bad (asBytes ss) k 0 x (fun b hb => by have := asBytes_short h b hb; omega) (by rw [laidL_length]; exact hk) hp
  have hmap : (asBytes ss).take m = asBytes (ss.take m) := by unfold asBytes; rw [List.map_take]
  have hl : (asBytes ss).length = ss.length := by simp [asBytes]
  rw [hmap] at h1 h2 h3
  refine ⟨m, by omega, ?_, h2, ?_⟩
  · have e : (laidB ss).take (64 * k) ++ (x ++ (laidB ss).drop (64 * (k + 1))) = ((laidL (asBytes ss)).set k x).flatten := by
      rw [flatten_set _ k x (laidL_each _) (by rw [laidL_length]; exact hk)]
      unfold laidB
      rw [flatMap_flatten]
    have hc := NSX.chunks_flatten ((laidL (asBytes ss)).set k x) [] (fun c hc => by
      rcases List.mem_or_eq_of_mem_set hc with h' | h'
      · exact laidL_each _ c h'
      · rw [h', hx])
    have h0 : chunks [] = [] := by rw [chunks, dif_neg (by simp)]
    rw [List.append_nil, h0, List.append_nil] at hc
    unfold readB
    rw [e, hc, h1, Nat.zero_add]
  · unfold asBytes at hb
    rw [List.getElem?_map] at hb
    cases hs : ss[m]? with
    | none => rw [hs] at hb; cases hb
    | some s =>
      rw [hs] at hb
      simp only [Option.map_some, Option.some.injEq] at hb
      rw [← hb, str_len] at h3
      exact ⟨s, rfl, by omega⟩
end Go.Proofs.Ytgmgmjljjbcgjaa

/- RecordBack: its walk. -/
import Derived.Test.YtgmgmjljjbcgjaaLaid
import Derived.Test.YtgmgmjljjbcgjaaRecLaw
namespace Go.Proofs.Ytgmgmjljjbcgjaa
open Go Go.RowKit NSX

theorem flatMap_flatten : ∀ (l : List (List UInt8)), l.flatMap cutB = (laidL l).flatten
  | [] => rfl
  | b :: l => by
    have : laidL (b :: l) = cutL b ++ laidL l := rfl
    rw [List.flatMap_cons, flatMap_flatten l, this, List.flatten_append]
    rfl
theorem laidL_each (l : List (List UInt8)) : ∀ c ∈ laidL l, c.length = 64 := by
  intro c hc
  obtain ⟨b, _, hcb⟩ := List.mem_flatMap.1 hc
  exact cutL_each b c hcb
theorem laidL_length : ∀ (l : List (List UInt8)), (laidL l).length = nAll l
  | [] => rfl
  | b :: l => by
    have : laidL (b :: l) = cutL b ++ laidL l := rfl
    rw [this, List.length_append, laidL_length l, cutL_length]
    simp [nAll]
theorem chunks_laid (ss : List ByteArray) : chunks (laidB ss) = laidL (asBytes ss) := by
  unfold laidB
  rw [flatMap_flatten]
  have hc := NSX.chunks_flatten (laidL (asBytes ss)) [] (laidL_each _)
  have h0 : chunks [] = [] := by rw [chunks, dif_neg (by simp)]
  rw [List.append_nil, h0, List.append_nil] at hc
  exact hc
theorem laidB_length (ss : List ByteArray) : (laidB ss).length = 64 * nAll (asBytes ss) := by
  unfold laidB
  rw [flatMap_flatten, ← laidL_length]
  have : ∀ l : List (List UInt8), (∀ c ∈ l, c.length = 64) → l.flatten.length = 64 * l.length := by
    intro l
    induction l with
    | nil => intro _; rfl
    | cons c l ih =>
      intro hc
      rw [List.flatten_cons, List.length_append, ih (fun x hx => hc x (by simp [hx])), hc c (by simp), List.length_cons]
      omega
  exact this _ (laidL_each _)
theorem asBytes_short {ss : List ByteArray} (h : ∀ s ∈ ss, s.size ≤ 1000) : ∀ b ∈ asBytes ss, b.length ≤ 1000 := by
  intro b hb
  obtain ⟨s, hs, rfl⟩ := List.mem_map.1 hb
  rw [str_len]; exact h s hs

theorem nAll_le : ∀ (l : List (List UInt8)), (∀ b ∈ l, b.length ≤ 1000) → nAll l ≤ 18 * l.length
  | [], _ => by simp [nAll]
  | b :: l, h => by
    have h1 := h b (by simp)
    have h2 := nAll_le l (fun x hx => h x (by simp [hx]))
    have h3 : nBlocks b.length ≤ 18 := by unfold nBlocks; omega
    have h4 : nAll (b :: l) = nBlocks b.length + nAll l := by simp [nAll]
    rw [h4, List.length_cons]
    omega
/-- What a beginning of the blocks is read as. -/
theorem back_law (ss : List ByteArray) (h : ∀ s ∈ ss, s.size ≤ 1000) (k : Nat) :
    ∃ m, m ≤ ss.length ∧ readB ((laidB ss).take k) = (asBytes (ss.take m), nAll (asBytes (ss.take m))) ∧ nAll (asBytes (ss.take m)) * 64 ≤ k ∧ (m = ss.length ∨ ∃ s, ss[m]? = some s ∧ k < (nAll (asBytes (ss.take m)) + nBlocks s.size) * 64) := by
  obtain ⟨m, hm, h1, h2, h3⟩ := read_take (asBytes ss) (k / 64) 0 (fun b hb => by have := asBytes_short h b hb; omega)
  have hmap : (asBytes ss).take m = asBytes (ss.take m) := by unfold asBytes; rw [List.map_take]
  have hl : (asBytes ss).length = ss.length := by simp [asBytes]
  rw [hmap] at h1 h2 h3
  refine ⟨m, by omega, ?_, by omega, ?_⟩
  · unfold readB
    rw [chunks_take _ _ k (Nat.le_refl _), chunks_laid, h1, Nat.zero_add]
  · rcases h3 with h3 | ⟨b, hb, h3⟩
    · left; omega
    · right
      unfold asBytes at hb
      rw [List.getElem?_map] at hb
      cases hs : ss[m]? with
      | none => rw [hs] at hb; cases hb
      | some s =>
        rw [hs] at hb
        simp only [Option.map_some, Option.some.injEq] at hb
        rw [← hb, str_len] at h3
        exact ⟨s, rfl, by omega⟩
theorem whole_law (ss : List ByteArray) (h : ∀ s ∈ ss, s.size ≤ 1000) : readB (laidB ss) = (asBytes ss, nAll (asBytes ss)) := by
  unfold readB
  rw [chunks_laid]
  have := readL_laid (asBytes ss) [] 0 (fun b hb => by have := asBytes_short h b hb; omega)
  rw [List.append_nil] at this
  rw [this]
  simp [readL]

set_option maxRecDepth 100000 in
set_option maxHeartbeats 1000000 in
theorem RecordBack_calls (u : Value) (ss : List ByteArray) (cut : Nat) (hcut : cut < 18446744073709551616) (w : World) (hu : StrsAt w u ss) :
    Calls Try.prog 19 #[u, .int .u64 cut] w fun e w' => e = .returned (.bool true) ∧ Chg [] w w' := by
  have hu2 := hu
  obtain ⟨uo, ucap, rfl, hul, hum, -⟩ := hu2
  unfold maxLen at hum
  have HU := Lib.hid hu
  clear hu
  go_enter Try.func19, Try.ntmps19
  go_wp2_with fail
  refine (awake7_calls _).mono ?_
  rintro e w1 ⟨rfl, hc1⟩
  have HC1 := Lib.hid hc1
  clear hc1
  simp only []
  go_wp2_with fail
  refine (laid_calls _ ss _ (HU.out.then HC1.out)).mono ?_
  rintro e w2 ⟨bv, ok, rfl, hok, hc2⟩
  have HC2 := Lib.hid (HC1.out.then hc2)
  clear hc2
  cases ok with
  | false =>
    clear hok
    go_wp2
    go_ret
    exact ⟨rfl, HC2.out⟩
  | true =>
    obtain ⟨h50, hall, hb⟩ := hok rfl
    have hlen := laidB_length ss
    have hn50 : nAll (asBytes ss) ≤ 18 * (asBytes ss).length := nAll_le _ (asBytes_short hall)
    rw [show (asBytes ss).length = ss.length from by simp [asBytes]] at hn50
    obtain ⟨bo, bcap, rfl, hbc, hbm, -, -⟩ := hb.isB.cells
    rw [hlen] at hbc ⊢
    have hwhole := whole_law ss hall
    have HB := Lib.hid hb.isB
    rw [hlen] at HB
    have HR := Lib.hid (Read_bytes 5 _ _ w2 HB.out (by rw [hlen]; omega))
    rw [hwhole] at HR
    have HBack := Lib.hid (back_law ss hall)
    have HLen := Lib.hid hlen
    obtain ⟨N, hN⟩ : ∃ N, nAll (asBytes ss) = N := ⟨_, rfl⟩
    rw [hN] at HR HB HLen hbc hn50 ⊢
    have HN := Lib.hid hN
    have HAll := Lib.hid hall
    clear hok hlen hb hwhole hall hN
    go_wp2_with fail
    refine HR.out.mono ?_
    rintro e w3 ⟨lv, rfl, hl3, hc3⟩
    obtain ⟨lo, lcap, rfl⟩ := hl3.slice
    have HL3 := Lib.hid hl3
    have HC3 := Lib.hid (HC2.out.then hc3)
    have HB3 := Lib.hid (HB.out.then hc3)
    have HT := Lib.hid (texts_calls _ _ _ _ _ ss w3 hl3 (HU.out.then HC3.out))
    clear hl3 hc3
    go_wp2_with fail
    refine HT.out.mono ?_
    rintro e w4 ⟨rfl, hc4⟩
    have HC4 := Lib.hid (HC3.out.then hc4)
    have HB4 := Lib.hid (HB3.out.then hc4)
    clear hc4
    obtain ⟨k, hk⟩ : ∃ k : Nat, cut % (64 * N + 1) = k := ⟨_, rfl⟩
    have hkl : k ≤ 64 * N := by have := Nat.mod_lt cut (show 0 < 64 * N + 1 by omega); omega
    have hki : ((cut : Int) % (64 * (N : Int) + 1)) = (k : Int) := by
      rw [← hk, Int.natCast_emod]; congr 1
    have hk3 := HB4.out.take k (by rw [HLen.out]; exact hkl)
    have hNN : ((N : Int) * 64 != 64 * (N : Int)) = false := by rw [bne_eq_false_iff_eq]; omega
    clear hk
    simp only []
    obtain ⟨m, hm, hread, hMk, hend⟩ := HBack.out k
    have hR2 := Read_bytes 5 _ _ w4 hk3 (by rw [List.length_take, HLen.out]; omega)
    rw [hread] at hR2
    obtain ⟨M, hM⟩ : ∃ M, nAll (asBytes (ss.take m)) = M := ⟨_, rfl⟩
    rw [hM] at hR2 hMk hend
    have HR2 := Lib.hid hR2
    have HEnd := Lib.hid hend
    clear hk3 hread hR2 hM hend
    go_wp2_with fail
    refine HR2.out.mono ?_
    rintro e w5 ⟨pv, rfl, hp5, hc5⟩
    obtain ⟨po, pcap, rfl⟩ := hp5.slice
    have HC5 := Lib.hid (HC4.out.then hc5)
    have hlm : (asBytes (ss.take m)).length = m := by simp [asBytes]; omega
    rw [hlm]
    have hstr : StrsAt w5 (.slice uo m ucap) (ss.take m) := by
      obtain ⟨ao, cap', hv, h1, h2, h3⟩ := HU.out.then HC5.out
      simp only [Value.slice.injEq] at hv
      obtain ⟨rfl, -, rfl⟩ := hv
      have hl : (ss.take m).length = m := by rw [List.length_take]; omega
      refine ⟨uo, ucap, by rw [hl], by rw [hl]; omega, h2, fun i s hi => ?_⟩
      have hlt : i < m := by have := (List.getElem?_eq_some_iff.1 hi).1; omega
      rw [List.getElem?_take, if_pos hlt] at hi
      exact h3 i s hi
    have hT := texts_calls _ _ _ _ _ (ss.take m) w5 hp5 hstr
    rw [hlm] at hT
    have HT2 := Lib.hid hT
    have hmle : decide (ss.length < m) = false := by simp; omega
    have hmi : ((m : Int) ≤ (ucap : Int)) := by omega
    have hMki : ¬ ((k : Int) < (M : Int) * 64) := by omega
    clear hT hp5 hc5 hstr hlm
    go_wp2_with fail
    refine HT2.out.mono ?_
    rintro e w6 ⟨rfl, hc6⟩
    have HC6 := Lib.hid (HC5.out.then hc6)
    clear hc6
    simp only []
    by_cases hfull : m = ss.length
    · subst hfull
      go_wp2_with fail
      go_ret
      exact ⟨rfl, HC6.out⟩
    · rcases HEnd.out with h | ⟨s, hs, hks⟩
      · exact absurd h hfull
      · have hmm : decide (m = ss.length) = false := by simp [hfull]
        have hmm2 : ((m : Int) == (ss.length : Int)) = false := by rw [beq_eq_false_iff_ne]; omega
        obtain ⟨ao, cap', hv, h1, h2, h3⟩ := HU.out.then HC6.out
        simp only [Value.slice.injEq] at hv
        obtain ⟨rfl, -, rfl⟩ := hv
        obtain ⟨a, rfl, hx⟩ := h3 m s hs
        have hsz : s.size ≤ 32768 := by have := HAll.out s (List.mem_of_getElem? hs); omega
        have HBl := Lib.hid (Blocks_calls s.size w6 hsz)
        have hlt : (m : Int) < (ss.length : Int) := by omega
        have hki2 : (k : Int) < ((M : Int) + (nBlocks s.size : Int)) * 64 := by omega
        clear h3 hs
        have hnb : nBlocks s.size ≤ 600 := by unfold nBlocks; omega
        go_wp2_with fail
        refine HBl.out.mono ?_
        rintro e w7 ⟨rfl, rfl⟩
        simp only []
        go_wp2_with fail
        go_ret
        exact ⟨rfl, HC6.out⟩
end Go.Proofs.Ytgmgmjljjbcgjaa

/- The journal: Open in the laws' words; awake of law09. -/
import Derived.Test.YtgmgmjljjbcgjaaJOpen
namespace Go.Proofs.Ytgmgmjljjbcgjaa
open Go Go.RowKit NSX

theorem blockAt_new (i : Nat) (hi : i < 1024) : blockAt St.new.bytes i = zero64 := by
  show ((List.replicate 65536 (0 : UInt8)).drop (i * 64)).take 64 = List.replicate 64 0
  rw [List.drop_replicate, List.take_replicate]
  congr 1
  omega
theorem heads_new (k : Nat) (hk : k < 2) : HeadIs St.new.bytes k 0 := .inl ⟨rfl, by rw [blockAt_new _ (by omega)]; exact zero64_none⟩
theorem new_length : St.new.bytes.length = 65536 := List.length_replicate

/-- A new store is begun with a snapshot. -/
theorem new_law (first : List UInt8) (hl : first.length ≤ 20000) :
    openSt St.new (fun _ => 0) first = St.new.begins first 0 1 ∧ openJ St.new (fun _ => 0) first = ⟨0, 1, [first], nBlocks first.length, false⟩ ∧
    (St.new.begins first 0 1).2 = 0 ∧ (St.new.begins first 0 1).1.down = false ∧ (St.new.begins first 0 1).1.armed = false ∧ Clean (St.new.begins first 0 1).1.bytes 0 1 [first] := by
  have hp : pick St.new.bytes (fun _ => 0) 2 = (0, 0, [], 0) := pick_none _ _ rfl rfl
  have hg : (pickJ St.new.bytes (fun _ => 0) 2).gen = 0 := by unfold pickJ; rw [hp]
  refine ⟨by unfold openSt; rw [if_pos hg], by unfold openJ; rw [if_pos hg], ?_⟩
  rcases begins_law St.new 0 1 0 0 first rfl new_length (by omega) (by omega) (by omega) (by omega) (by unfold nBlocks; omega) (heads_new 0 (by omega)) (heads_new 1 (by omega)) (by omega) with h | ⟨_, h, _⟩
  · exact h
  · cases h
theorem new_writes (first : List UInt8) (hl : first.length ≤ 20000) : 0 ≤ (St.new.begins first 0 1).1.writes ∧ (St.new.begins first 0 1).1.writes ≤ 1000 := by
  have hn : nBlocks first.length ≤ 400 := by unfold nBlocks; omega
  have he : St.new.erase (0 * 512) 512 = (St.new, 0) := erase_none 512 St.new _ (fun j _ _ => blockAt_new j (by omega))
  have hcl := cutL_length first
  have hw0 : St.new.writes = 0 := rfl
  have h1 := lay_law (cutL first) St.new (0 * 512 + 1) (cutL_each first) rfl new_length (by omega)
  have h2 := lay_writes (cutL first) St.new (0 * 512 + 1) (cutL_each first) rfl rfl new_length (by omega) (by rw [hw0]; omega) (by rw [hw0]; omega)
  obtain ⟨r, hr⟩ : ∃ r, St.new.lay (0 * 512 + 1) (cutL first) = r := ⟨_, rfl⟩
  rw [hr] at h1 h2
  obtain ⟨hlen, ⟨a1, a2, a3, -⟩ | ⟨_, h, _⟩⟩ := h1
  · have h3 := lay_writes [headBlock 1] r.1 (0 * 512) (by simp [headBlock_length]) a2 a3 hlen (by simp) (by rw [h2, hw0]; omega) (by rw [h2, hw0]; simp; omega)
    have e : St.new.begins first 0 1 = r.1.lay (0 * 512) [headBlock 1] := by
      unfold St.begins
      rw [he]
      simp only
      rw [if_neg (by simp), hr, if_neg (by rw [a1]; simp)]
    rw [e, h3, h2, hw0]
    simp
    omega
  · cases h

theorem Open_new (S : Nat) (v : Value) (first : List UInt8) (w : World) (hst : StoreAt w S St.new) (hv : IsB w 5 v first) (hl : first.length ≤ 20000) :
    Calls Try.prog 43 #[.pointer (some ⟨S, 0, none⟩), v] w fun e w' => ∃ J st', e = .returned (.tuple #[.pointer (some ⟨J, 0, none⟩), .int .i64 0]) ∧ w.heap.size ≤ J ∧ StoreAt w' S st' ∧ st'.down = false ∧ st'.armed = false ∧ Clean st'.bytes 0 1 [first] ∧ (0 ≤ st'.writes ∧ st'.writes ≤ 1000) ∧
      (∃ t, JournalAt w' t J S ⟨0, 1, [first], nBlocks first.length, false⟩) ∧ Chg [S] w w' := by
  obtain ⟨h1, h2, h3, h4, h5, h6⟩ := new_law first hl
  have h7 := new_writes first hl
  refine (Open_calls_j S St.new v first (fun _ => 0) w hst rfl hv hl (fun k hk => heads_new k hk)).mono ?_
  rintro e w' ⟨J, he, hJ, hs, hj, hc⟩
  rw [h1, h3] at he
  rw [h1] at hs
  rw [h1, h2] at hj
  exact ⟨J, _, he, hJ, hs, h4, h5, h6, h7, hj h3, hc⟩

/-- Open of a store that has a journal. -/
theorem Open_weak (S : Nat) (st : St) (v : Value) (first : List UInt8) (a g : Nat) (l : List (List UInt8)) (w : World) (hst : StoreAt w S st) (hd : st.down = false) (hv : IsB w 5 v first) (hl : first.length ≤ 20000) (hw : Weak st.bytes a g l) :
    Calls Try.prog 43 #[.pointer (some ⟨S, 0, none⟩), v] w fun e w' => ∃ J st' r, e = .returned (.tuple #[optPtr r J, .int .i64 r]) ∧ w.heap.size ≤ J ∧ StoreAt w' S st' ∧ Chg [S] w w' ∧
      ((r = 0 ∧ st'.down = false ∧ st'.armed = st.armed ∧ Clean st'.bytes a g l ∧ (∃ t, JournalAt w' t J S ⟨a, g, l, nAll l, false⟩) ∧ (Clean st.bytes a g l → st' = st)) ∨ (r = 13 ∧ st.armed = true ∧ Weak st'.bytes a g l)) := by
  obtain ⟨hs, hh, hp⟩ := pick_law hw
  have hpj : pickJ st.bytes hs 2 = ⟨a, g, l, nAll l, false⟩ := by unfold pickJ; rw [hp]
  have hg : ¬ (pickJ st.bytes hs 2).gen = 0 := by rw [hpj]; have := hw.gen1; simp only; omega
  have h1 : openSt st hs first = st.erase (a * 512 + 1 + nAll l) (511 - nAll l) := by unfold openSt; rw [if_neg hg, hpj]
  have h2 : openJ st hs first = ⟨a, g, l, nAll l, false⟩ := by unfold openJ; rw [if_neg hg, hpj]
  refine (Open_calls_j S st v first hs w hst hd hv hl hh).mono ?_
  rintro e w' ⟨J, he, hJ, hss, hj, hc⟩
  rw [h1] at he hss hj
  rw [h2] at hj
  refine ⟨J, _, _, he, hJ, hss, hc, ?_⟩
  rcases open_law st a g l hw hd with ⟨a1, a2, a3, a4⟩ | ⟨a1, a2, a3⟩
  · refine .inl ⟨a1, a2, a3, a4, hj a1, fun hcl => ?_⟩
    rw [open_again st a g l hcl]
  · exact .inr ⟨a1, a2, a3⟩

theorem oneC (w : World) : IsB (w.alloc (.cells #[.int .u8 115] 5 (1, 2))) 5 (.slice (some ⟨w.heap.size, 0, none⟩) 1 1) [115] := by
  refine ⟨_, 1, rfl, Nat.le_refl _, by decide, (fun e => by cases e), fun _ => ⟨_, 0, _, _, rfl, heap_alloc_new _ _, fun i c hi => ?_⟩⟩
  have h9 : i = 0 := by have := (List.getElem?_eq_some_iff.1 hi).1; simpa using this
  subst h9
  simp at hi
  subst hi
  rfl

set_option maxRecDepth 100000 in
set_option maxHeartbeats 1000000 in
theorem awake9_calls (w : World) : Calls Try.prog 41 #[] w fun e w' => e = .returned (.bool true) ∧ Chg [] w w' := by
  have kc := fun (w : World) (C : Array Value) (n c : Nat) => Lib.run_convert_bytes_const (P := Try.prog) w 26 5 C n c Try.underlying26 Try.underlying5
  go_enter Try.func41, Try.ntmps41
  go_wp2_with fail
  refine (New_calls w).mono ?_
  rintro e w1 ⟨rfl, hs, hc1⟩
  have hs2 := hs.chg ((Chg.refl [] w1).alloc (.cells #[.int .u8 115] 5 (1, 2))) (by simp)
  have HO := Lib.hid (Open_new w.heap.size _ [115] _ hs2 (oneC w1) (by simp))
  have HC1 := Lib.hid (hc1.alloc (.cells #[.int .u8 115] 5 (1, 2)))
  clear hs hs2 hc1
  simp only []
  go_wp2_with fail
  refine HO.out.mono ?_
  rintro e w3 ⟨J, st', rfl, -, -, -, -, -, -, ⟨t, hj⟩, hc3⟩
  have HSn := Lib.hid (Snapshot_calls t J w.heap.size _ [115] w3 hj rfl (by simp))
  have HJ := Lib.hid hj
  have HC3 := Lib.hid (HC1.out.trans hc3 (fun x hx => by simp at hx; subst hx; right; exact Nat.le_refl _))
  clear hj hc3
  simp only []
  go_wp2_with fail
  refine HSn.out.mono ?_
  rintro e w4 ⟨sv, rfl, hown, hch⟩
  have hq := run_toString w4 5 _ _ hown.isB
  have hstr : strOf [115] = (⟨#[115]⟩ : ByteArray) := rfl
  rw [hstr] at hq
  have HG := Lib.hid (Generation_calls t J w.heap.size _ w4 (HJ.out.then hch))
  have HL := Lib.hid (Left_calls t J w.heap.size _ w4 (HJ.out.then hch) (by decide))
  have HC4 := Lib.hid (HC3.out.then hch)
  have hn : ((511 - nBlocks [(115 : UInt8)].length : Nat) : Int) = 510 := by decide
  rw [hn] at HL
  clear hown hch hstr hn
  simp only []
  go_wp2_with (first | (go_at_call 51; refine HG.out.mono ?_; rintro e w' ⟨rfl, rfl⟩) | (go_at_call 50; refine HL.out.mono ?_; rintro e w' ⟨rfl, rfl⟩))
  go_ret
  exact ⟨rfl, HC4.out⟩
end Go.Proofs.Ytgmgmjljjbcgjaa

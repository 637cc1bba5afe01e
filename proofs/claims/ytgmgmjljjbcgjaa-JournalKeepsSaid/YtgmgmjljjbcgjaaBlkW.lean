/- The block store's Write, Read and Bytes. -/
import Derived.Test.YtgmgmjljjbcgjaaBlk
import Derived.Deep.RegionLaw
namespace Go.Proofs.Ytgmgmjljjbcgjaa
open Go Go.RowKit

theorem Try.size5 : (Try.prog.info? 5).map (·.size) = some 1 := by kernel_rfl

theorem StoreAt.apart {w : World} {S : Nat} {st : St} (hs : StoreAt w S st) : ∀ g cur fr, w.heap[g]? = some (.cells cur 5 fr) → g ∉ [S] := by
  intro g cur fr hg hm
  simp at hm
  subst hm
  rw [hs.2] at hg
  simp at hg

/-- 'copy' into a store's block. -/
theorem run_store_copy (w : World) (ty : TypeId) (S off : Nat) (st : St) (hs : StoreAt w S st) (vx : Value) (cs : List UInt8) (hv : IsB w 5 vx cs) (h64 : cs.length ≤ 64) (hoff : off + 64 ≤ 65536) :
    ∃ w', (Builtin.copy_ #[26, 26] ty #[.slice (some ⟨S, off, none⟩) 64 64, vx]).run Try.prog w = .ok (goInt cs.length) w' ∧ StoreAt w' S { st with bytes := patch st.bytes off cs } ∧ Chg [S] w w' := by
  by_cases h0 : cs = []
  · subst h0
    obtain ⟨ao, cap, rfl, _, _, _, _⟩ := hv
    refine ⟨w, run_copy_none (P := Try.prog) w 26 26 ty 5 (some ⟨S, off, none⟩) ao 64 64 0 cap Try.underlying26 Try.size5 rfl, ?_, Chg.refl _ _⟩
    have : patch st.bytes off [] = st.bytes := by simp [patch]
    rw [this]; exact hs
  · obtain ⟨a, cap, rfl, hc⟩ := hv.news h0
    have hlen : st.cells.length = 65541 := by simp [St.cells, hs.1]
    refine ⟨_, by
      have := run_copy_row (P := Try.prog) w 26 26 ty 5 S off 64 64 a cs.length cap st.cells.toArray 44 (cs.map u8) Try.underlying26 Try.size5 hs.2 (by rw [List.length_map]; exact (Nat.min_eq_left h64).symm) hc (by simp [hlen]; omega) (u8s_one cs)
      rw [List.length_map, List.append_assoc] at this
      exact this, hs.patched off cs (by omega), (Chg.refl _ _).setRow (.inl (by simp)) _⟩

theorem wpList_store_copy {w : World} {ops : Array Oper} {rest : List Oper} {o : Oper} {a : Act} {Q : Exit → Act → World → Prop} (hgd : o.guard = none) (d s : Operand)
    (ho : o.op = .call { callee := .builtin .copy, args := #[d, s], argTypes := #[26, 26] }) (S off : Nat) (st : St) (hs : StoreAt w S st) (vx : Value) (cs : List UInt8) (hv : IsB w 5 vx cs) (h64 : cs.length ≤ 64) (hoff : off + 64 ≤ 65536)
    (hd : a.eval d = .slice (some ⟨S, off, none⟩) 64 64) (hx : a.eval s = vx)
    (h : ∀ w', StoreAt w' S { st with bytes := patch st.bytes off cs } → Chg [S] w w' → wpList Try.prog ops Q rest (a.put o.dst (goInt cs.length)) w') : wpList Try.prog ops Q (o :: rest) a w := by
  refine wpList_plain hgd fun K hK => ?_
  obtain ⟨w', hr, h1, h2⟩ := run_store_copy w o.type S off st hs vx cs hv h64 hoff
  unfold Oper.wp
  simp [execOp, ho, resolve, invoke, builtin, hd, hx, hr, Result.andThen]
  exact hK _ _ (h w' h1 h2)

theorem step_store_copy {ops : Array Oper} {o : Oper} {a : Act} {w : World} {K : Act → World → Prop} {Q : Exit → Act → World → Prop} {E : Prop} (hgd : o.guard = none) (d s : Operand)
    (ho : o.op = .call { callee := .builtin .copy, args := #[d, s], argTypes := #[26, 26] }) (S off : Nat) (st : St) (hs : StoreAt w S st) (vx : Value) (cs : List UInt8) (hv : IsB w 5 vx cs) (h64 : cs.length ≤ 64) (hoff : off + 64 ≤ 65536)
    (hd : a.eval d = .slice (some ⟨S, off, none⟩) 64 64) (hx : a.eval s = vx)
    (h : ∀ w', StoreAt w' S { st with bytes := patch st.bytes off cs } → Chg [S] w w' → K (a.put o.dst (goInt cs.length)) w') :
    if Region.wanted o (yielded ops a.tmps) = true then Oper.wp Try.prog o a w K Q else E := by
  have hw : Region.wanted o (yielded ops a.tmps) = true := by simp [Region.wanted, hgd]
  rw [if_pos hw]
  obtain ⟨w', hr, h1, h2⟩ := run_store_copy w o.type S off st hs vx cs hv h64 hoff
  unfold Oper.wp
  simp [execOp, ho, resolve, invoke, builtin, hd, hx, hr, Result.andThen]
  exact h w' h1 h2

set_option maxHeartbeats 400000 in
theorem Write_no (S : Nat) (i : Int) (st : St) (v : Value) (bs : List UInt8) (w : World) (hs : StoreAt w S st) (hv : IsB w 5 v bs) (hno : st.down = true ∨ (i < 0 ∨ 1024 ≤ i) ∨ bs.length ≠ 64) :
    Calls Try.prog 28 #[.pointer (some ⟨S, 0, none⟩), .int .i64 i, v] w fun e w' => e = .returned (.int .i64 (st.write i bs).2) ∧ st = (st.write i bs).1 ∧ w = w' := by
  obtain ⟨ao, cap, rfl, hl, hm, hz, hc⟩ := hv.cells
  clear hv hz hc
  unfold maxLen at hm
  by_cases hd : st.down = true ∨ (i < 0 ∨ 1024 ≤ i)
  · have hc : ∃ n : Int, (if st.down then (13 : Int) else if i < 0 ∨ 1024 ≤ i then 1 else 0) = n ∧ (n != 0) = true ∧ (st.write i bs).2 = n ∧ st = (st.write i bs).1 := by
      unfold St.write
      by_cases h1 : st.down = true
      · rw [if_pos h1, if_pos h1]; exact ⟨13, rfl, rfl, rfl, rfl⟩
      · rcases hd with hd | hd
        · exact absurd hd h1
        · rw [if_neg h1, if_pos hd, if_neg h1, if_pos hd]; exact ⟨1, rfl, rfl, rfl, rfl⟩
    obtain ⟨n, hn, hn0, hw2, hw1⟩ := hc
    rw [hw2]
    have hcan := can_calls S i st w hs
    rw [hn] at hcan
    have HC := Lib.hid hcan
    have H1 := Lib.hid hw1
    clear hd hno hcan hw1 hw2 hn hs
    go_enter Try.func28, Try.ntmps28
    go_wp2_with (go_at_call 67; refine HC.out.mono ?_; rintro e w' ⟨rfl, rfl⟩)
    go_ret
    exact ⟨rfl, H1.out, rfl⟩
  · have hlen : bs.length ≠ 64 := by rcases hno with h | h | h; exact absurd (.inl h) hd; exact absurd (.inr h) hd; exact h
    have hd1 : ¬ st.down = true := fun h => hd (.inl h)
    have hd2 : ¬ (i < 0 ∨ 1024 ≤ i) := fun h => hd (.inr h)
    have hw : st.write i bs = (st, 1) := by unfold St.write; rw [if_neg hd1, if_neg hd2, if_pos hlen]
    rw [hw]
    have hcan := can_calls S i st w hs
    rw [if_neg hd1, if_neg hd2] at hcan
    have HC := Lib.hid hcan
    have hl2 : ((bs.length : Int) != 64) = true := by rw [bne_iff_ne]; omega
    clear hd hd1 hd2 hno hcan hw hs
    go_enter Try.func28, Try.ntmps28
    go_wp2_with (go_at_call 67; refine HC.out.mono ?_; rintro e w' ⟨rfl, rfl⟩)
    go_ret
    exact ⟨rfl, trivial, rfl⟩

set_option maxRecDepth 100000 in
set_option maxHeartbeats 400000 in
theorem Write_yes (S : Nat) (i : Nat) (st : St) (v : Value) (bs : List UInt8) (w : World) (hs : StoreAt w S st) (hv : IsB w 5 v bs) (hd : st.down = false) (hi : i < 1024) (hlen : bs.length = 64) (hna : st.armed = false ∨ st.left ≠ 0) :
    Calls Try.prog 28 #[.pointer (some ⟨S, 0, none⟩), .int .i64 i, v] w fun e w' => e = .returned (.int .i64 0) ∧ StoreAt w' S { st with writes := wrap64 (st.writes + 1), left := wrap64 (st.left - 1), bytes := patch st.bytes (i * 64) bs } ∧ Chg [S] w w' := by
  obtain ⟨c1, c2, c3, c4, c5, cf⟩ := hs.facts
  have f2 := cf 65537
  have f5 := cf 65540
  have hs1 := (hs.set_writes (wrap64 (st.writes + 1)))
  have hs2 := (hs1.set_left (wrap64 (st.left - 1)))
  have hch := ((Chg.refl [S] w).setCell (p := ⟨S, 65540, none⟩) (.inl (by simp)) (.int .i64 (wrap64 (st.writes + 1)))).setCell (p := ⟨S, 65537, none⟩) (.inl (by simp)) (.int .i64 (wrap64 (st.left - 1)))
  have hv2 := hv.chg hch hs.apart
  obtain ⟨ao, cap, hve, _, hm, _, _⟩ := hv.cells
  unfold maxLen at hm
  rw [hve] at hv2 ⊢
  clear hve hv
  have hcan := can_calls S i st w hs
  rw [if_neg (by simp [hd]), if_neg (by omega)] at hcan
  have HC := Lib.hid hcan
  have H2 := Lib.hid hs2
  have HCh := Lib.hid hch
  have HV := Lib.hid hv2
  have hl2 : ((bs.length : Int) != 64) = false := by rw [hlen]; rfl
  have HL := Lib.hid hlen
  clear hs hs1 hs2 hch hv2 hcan cf hlen hd
  rcases hna with ha | ha
  · rw [ha] at c1
    have HA := Lib.hid ha
    clear ha
    go_enter Try.func28, Try.ntmps28
    go_wp2_with (first | (go_at_call 67; refine HC.out.mono ?_; rintro e w' ⟨rfl, rfl⟩) | (refine wpList_store_copy rfl (.tmp 70) (.tmp 71) rfl S (i * 64) _ H2.out _ bs HV.out (by rw [HL.out]; omega) (by omega) rfl rfl ?_; intro w2 hst2 hch2))
    go_ret
    exact ⟨rfl, hst2, HCh.out.same hch2⟩
  · have ha2 : (st.left == 0) = false := by simp [ha]
    rcases Bool.eq_false_or_eq_true st.armed with hb | hb
    all_goals
      rw [hb] at c1
      have HB := Lib.hid hb
      clear hb
      go_enter Try.func28, Try.ntmps28
      go_wp2_with (first | (go_at_call 67; refine HC.out.mono ?_; rintro e w' ⟨rfl, rfl⟩) | (refine wpList_store_copy rfl (.tmp 70) (.tmp 71) rfl S (i * 64) _ H2.out _ bs HV.out (by rw [HL.out]; omega) (by omega) rfl rfl ?_; intro w2 hst2 hch2))
      go_ret
      exact ⟨rfl, hst2, HCh.out.same hch2⟩

set_option maxRecDepth 100000 in
set_option maxHeartbeats 400000 in
theorem Write_cut (S : Nat) (i : Nat) (st : St) (v : Value) (bs : List UInt8) (w : World) (hs : StoreAt w S st) (hv : IsB w 5 v bs) (hd : st.down = false) (hi : i < 1024) (hlen : bs.length = 64) (ha : st.armed = true) (hl : st.left = 0) :
    Calls Try.prog 28 #[.pointer (some ⟨S, 0, none⟩), .int .i64 i, v] w fun e w' => e = .returned (.int .i64 13) ∧ StoreAt w' S { st with writes := wrap64 (st.writes + 1), armed := false, down := true, bytes := patch st.bytes (i * 64) (bs.take (max 0 (min st.part 64)).toNat) } ∧ Chg [S] w w' := by
  obtain ⟨c1, c2, c3, c4, c5, cf⟩ := hs.facts
  have f1 := cf 65536
  have f4 := cf 65539
  have f5 := cf 65540
  have hs1 := ((hs.set_writes (wrap64 (st.writes + 1))).set_armed false).set_down true
  have hch := (((Chg.refl [S] w).setCell (p := ⟨S, 65540, none⟩) (.inl (by simp)) (.int .i64 (wrap64 (st.writes + 1)))).setCell (p := ⟨S, 65536, none⟩) (.inl (by simp)) (.bool false)).setCell (p := ⟨S, 65539, none⟩) (.inl (by simp)) (.bool true)
  have hv2 := hv.chg hch hs.apart
  obtain ⟨ao, cap, hve, hcl, hm, _, _⟩ := hv.cells
  unfold maxLen at hm
  rw [hlen] at hve hcl
  rw [hve] at hv2 ⊢
  clear hve hv
  have hcan := can_calls S i st w hs
  rw [if_neg (by simp [hd]), if_neg (by omega)] at hcan
  have HC := Lib.hid hcan
  have H1 := Lib.hid (hs1.chg (r := []) ((Chg.refl [] _).drew) (by simp))
  have HCh := Lib.hid hch.drew
  have hl0 : (st.left == 0) = true := by rw [hl]; rfl
  rw [ha] at c1
  obtain ⟨k, hk⟩ : ∃ k, k = (max 0 (min st.part 64)).toNat := ⟨_, rfl⟩
  have hk64 : k ≤ 64 := by omega
  rw [← hk]
  have HV := Lib.hid ((hv2.take k (by omega)).then ((Chg.refl [] _).drew))
  have HL := Lib.hid (show (bs.take k).length ≤ 64 by simp; omega)
  have hmm : (if 0 < (if 64 < st.part then (64 : Int) else st.part) then (if 64 < st.part then (64 : Int) else st.part) else 0) = (k : Int) := by
    by_cases h1 : 64 < st.part
    · rw [if_pos h1, if_pos (by omega)]; omega
    · rw [if_neg h1]
      by_cases h2 : 0 < st.part
      · rw [if_pos h2]; omega
      · rw [if_neg h2]; omega
  have hi2 : (i : Int) < 1024 := by omega
  have hcap : (k : Int) ≤ cap := by omega
  clear hs hs1 hch hv2 hcan cf hlen hd ha hl hk
  go_enter Try.func28, Try.ntmps28
  go_wp2_with (first | (go_at_call 67; refine HC.out.mono ?_; rintro e w' ⟨rfl, rfl⟩))
  go_region_law (refine step_store_copy rfl (.tmp 46) (.tmp 56) rfl S (i * 64) _ H1.out _ _ HV.out HL.out (by omega) rfl rfl ?_; intro w2 hst2 hch2)
  all_goals go_wp2
  all_goals (go_ret; exact ⟨rfl, hst2, HCh.out.same hch2⟩)

/-- Write. -/
theorem Write_calls (S : Nat) (i : Int) (st : St) (v : Value) (bs : List UInt8) (w : World) (hs : StoreAt w S st) (hv : IsB w 5 v bs) :
    Calls Try.prog 28 #[.pointer (some ⟨S, 0, none⟩), .int .i64 i, v] w fun e w' => e = .returned (.int .i64 (st.write i bs).2) ∧ StoreAt w' S (st.write i bs).1 ∧ Chg [S] w w' := by
  by_cases hno : st.down = true ∨ (i < 0 ∨ 1024 ≤ i) ∨ bs.length ≠ 64
  · refine (Write_no S i st v bs w hs hv hno).mono ?_
    rintro e w' ⟨he, hst, rfl⟩
    exact ⟨he, by rw [← hst]; exact hs, Chg.refl _ _⟩
  · have h1 : ¬ st.down = true := fun h => hno (.inl h)
    have h2 : ¬ (i < 0 ∨ 1024 ≤ i) := fun h => hno (.inr (.inl h))
    have h3 : ¬ bs.length ≠ 64 := fun h => hno (.inr (.inr h))
    obtain ⟨n, rfl⟩ : ∃ n : Nat, i = (n : Int) := ⟨i.toNat, by omega⟩
    unfold St.write
    rw [if_neg h1, if_neg h2, if_neg h3]
    by_cases h4 : st.armed = true ∧ st.left = 0
    · rw [if_pos h4]
      exact Write_cut S n st v bs w hs hv (by simpa using h1) (by omega) (by omega) h4.1 h4.2
    · rw [if_neg h4]
      exact Write_yes S n st v bs w hs hv (by simpa using h1) (by omega) (by omega) (by
        by_cases ha : st.armed = true
        · right; exact fun h => h4 ⟨ha, h⟩
        · left; simpa using ha)

/-- A store's block. -/
def St.block (st : St) (i : Nat) : List UInt8 := (st.bytes.drop (i * 64)).take 64
theorem St.block_length (st : St) (h : st.bytes.length = 65536) (i : Nat) (hi : i < 1024) : (st.block i).length = 64 := by simp [St.block, h]; omega

theorem StoreAt.blockB {w : World} {S : Nat} {st : St} (h : StoreAt w S st) (i : Nat) (hi : i < 1024) : IsB w 44 (.slice (some ⟨S, i * 64, none⟩) 64 64) (st.block i) := by
  refine ⟨_, 64, by rw [st.block_length h.1 i hi], by rw [st.block_length h.1 i hi]; omega, by unfold maxLen; omega, (fun e => by cases e), fun _ => ⟨S, i * 64, _, _, rfl, h.2, fun j c hj => ?_⟩⟩
  have hlt : j < 64 := by have := (List.getElem?_eq_some_iff.1 hj).1; rw [st.block_length h.1 i hi] at this; exact this
  unfold St.block at hj
  rw [List.getElem?_take, if_pos hlt, List.getElem?_drop] at hj
  simp only [List.getElem?_toArray, St.cells]
  rw [List.getElem?_append_left (by simp [h.1]; omega), List.getElem?_map, hj]
  rfl

set_option maxHeartbeats 400000 in
theorem Read_no (S : Nat) (i : Int) (st : St) (w : World) (hs : StoreAt w S st) (n : Int) (hn : (if st.down then (13 : Int) else if i < 0 ∨ 1024 ≤ i then 1 else 0) = n) (hn0 : n ≠ 0) :
    Calls Try.prog 29 #[.pointer (some ⟨S, 0, none⟩), .int .i64 i] w fun e w' => e = .returned (.tuple #[.slice none 0 0, .int .i64 n]) ∧ w = w' := by
  have hcan := can_calls S i st w hs
  rw [hn] at hcan
  have HC := Lib.hid hcan
  have hn1 : (n != 0) = true := by simpa using hn0
  clear hn hcan hs hn0
  go_enter Try.func29, Try.ntmps29
  go_wp2_with (go_at_call 67; refine HC.out.mono ?_; rintro e w' ⟨rfl, rfl⟩)
  go_ret2
  exact ⟨rfl, rfl⟩

set_option maxHeartbeats 400000 in
theorem Read_yes (S : Nat) (i : Nat) (st : St) (w : World) (hs : StoreAt w S st) (hd : st.down = false) (hi : i < 1024) :
    Calls Try.prog 29 #[.pointer (some ⟨S, 0, none⟩), .int .i64 i] w fun e w' => ∃ v, e = .returned (.tuple #[v, .int .i64 0]) ∧ OwnB w' w.heap.size v (st.block i) ∧ Chg [] w w' := by
  have hcan := can_calls S i st w hs
  rw [if_neg (by simp [hd]), if_neg (by omega)] at hcan
  have HC := Lib.hid hcan
  have hcl := Clone_calls 44 _ _ w (hs.blockB i hi) (by rw [st.block_length hs.1 i hi]; omega)
  have HCl := Lib.hid hcl
  have hi2 : (i : Int) < 1024 := by omega
  clear hcan hcl hs
  go_enter Try.func29, Try.ntmps29
  go_wp2_with (first | (go_at_call 67; refine HC.out.mono ?_; rintro e w' ⟨rfl, rfl⟩) | (go_at_call 68; refine HCl.out.mono ?_; rintro e w' ⟨v, rfl, hown, hch⟩))
  go_ret2
  exact ⟨_, rfl, hown, hch⟩
end Go.Proofs.Ytgmgmjljjbcgjaa

/- The record package: piece's walk. -/
import Derived.Test.YtgmgmjljjbcgjaaPiece
import Derived.Test.YtgmgmjljjbcgjaaStr
namespace Go.Proofs.Ytgmgmjljjbcgjaa
open Go Go.RowKit NSX

theorem pieceOf_no {c : List UInt8} (h : ¬ (putSeal (c.take 60) = c.take 63 ∧ c.getD 63 0 = 1 ∧ ((c.take 60).getD 1 0).toNat ≤ 58 ∧ (((c.take 60).getD 0 0 == 2) = true ∨ ((c.take 60).getD 0 0 = 1 ∧ ((c.take 60).getD 1 0).toNat = 58)) ∧ ((c.take 60).drop (2 + ((c.take 60).getD 1 0).toNat)).all (· == 0) = true)) : pieceOf c = none := by
  unfold pieceOf
  simp only
  rw [if_neg h]
theorem pieceOf_yes {c : List UInt8} (h : putSeal (c.take 60) = c.take 63 ∧ c.getD 63 0 = 1 ∧ ((c.take 60).getD 1 0).toNat ≤ 58 ∧ (((c.take 60).getD 0 0 == 2) = true ∨ ((c.take 60).getD 0 0 = 1 ∧ ((c.take 60).getD 1 0).toNat = 58)) ∧ ((c.take 60).drop (2 + ((c.take 60).getD 1 0).toNat)).all (· == 0) = true) :
    pieceOf c = some (((c.take 60).drop 2).take ((c.take 60).getD 1 0).toNat, (c.take 60).getD 0 0 == 2) := by
  unfold pieceOf
  simp only
  rw [if_pos h]

/-- What piece answers. -/
def PieceAns (c : List UInt8) (w : World) (e : Ending) (w' : World) : Prop :=
  ∃ v' last ok, e = .returned (.tuple #[v', .bool last, .bool ok]) ∧ (ok = false → pieceOf c = none ∧ v' = .slice none 0 0 ∧ last = false) ∧ (ok = true → ∃ p, pieceOf c = some (p, last) ∧ IsB w' 5 v' p) ∧ Chg [] w w'
theorem PieceAns.no {c : List UInt8} {w w' : World} (h : pieceOf c = none) (hc : Chg [] w w') : PieceAns c w (.returned (.tuple #[.slice none 0 0, .bool false, .bool false])) w' :=
  ⟨_, _, _, rfl, fun _ => ⟨h, rfl, rfl⟩, (fun h => by cases h), hc⟩

/-- An append whose run is known, guarded or not. -/
theorem wpList_append_run {w : World} {ops : Array Oper} {rest : List Oper} {o : Oper} {a : Act} {Q : Exit → Act → World → Prop} (hw : Region.wanted o (yielded ops a.tmps) = true) (s x : Operand)
    (ho : o.op = .call { callee := .builtin .append, args := #[s, x], argTypes := #[26, 26] }) (vs vx v' : Value) (w' : World) (hs : a.eval s = vs) (hx : a.eval x = vx)
    (hr : (Builtin.append_ #[26, 26] o.type #[vs, vx]).run Try.prog w = .ok v' w') (h : wpList Try.prog ops Q rest (a.put o.dst v') w') : wpList Try.prog ops Q (o :: rest) a w := by
  refine wpList_step fun K hK => ?_
  rw [if_pos hw]
  unfold Oper.wp
  simp [execOp, ho, resolve, invoke, builtin, hs, hx, hr, Result.andThen]
  exact hK _ _ h

set_option maxRecDepth 100000 in
set_option maxHeartbeats 1000000 in
theorem piece_calls (T : TypeId) (v : Value) (c : List UInt8) (w : World) (h : IsB w T v c) (h64 : c.length = 64) : Calls Try.prog 80 #[v] w (PieceAns c w) := by
  obtain ⟨ao, cap, rfl, hl, hm, -, hcell⟩ := h.cells
  have ht := h.take 63 (by omega)
  have hopen := Open_calls T _ _ w ht (by simp; omega)
  obtain ⟨g0, off0, rfl, hc63⟩ := hcell 63 (by omega)
  have hl63 : (c.take 63).length = 63 := by simp; omega
  rw [hl63] at hopen
  have h60 : (c.take 63).take (63 - 3) = c.take 60 := by rw [List.take_take]; rfl
  rw [h60] at hopen
  have hseal : isSealed (c.take 63) ↔ putSeal (c.take 60) = c.take 63 := by
    unfold isSealed
    rw [hl63, h60]
    exact ⟨fun h => h.2, fun h => ⟨by omega, h⟩⟩
  have HO := Lib.hid hopen
  have HS := Lib.hid hseal
  rw [h64] at hl ⊢
  have hcap : (63 : Int) ≤ (cap : Int) := by omega
  clear h ht hopen hcell hseal h60 hl63
  go_enter Try.func80, Try.ntmps80
  go_wp2_with fail
  refine HO.out.mono ?_
  rintro e w1 ⟨iv, ok, rfl, h1, h2, hc1⟩
  have hb63 := hc1.cell hc63 (by simp)
  obtain ⟨q, hq⟩ : ∃ q, c.getD 63 0 = q := ⟨_, rfl⟩
  rw [hq] at hb63
  have HC1 := Lib.hid hc1
  clear hc1 hc63 HO
  cases ok with
  | false =>
    have hn : pieceOf c = none := pieceOf_no (fun h => (h2 rfl).1 (HS.out.2 h.1))
    have HN := Lib.hid hn
    clear hn h1 h2
    simp only []
    go_wp2_with fail
    go_ret3
    exact PieceAns.no HN.out HC1.out
  | true =>
    obtain ⟨hsl, hown⟩ := h1 rfl
    have hs := HS.out.1 hsl
    obtain ⟨i, hi⟩ : ∃ i, c.take 60 = i := ⟨_, rfl⟩
    have hil : i.length = 60 := by rw [← hi]; simp; omega
    rw [hi] at hown hs
    obtain ⟨g, icap, rfl, hg, hic, -⟩ := hown.at (by intro h; rw [h] at hil; simp at hil)
    rw [hil] at hown hic ⊢
    obtain ⟨hx0, -⟩ := hown.cell 0 (by omega)
    obtain ⟨hx1, -⟩ := hown.cell 1 (by omega)
    obtain ⟨c0, hc0⟩ : ∃ x, i.getD 0 0 = x := ⟨_, rfl⟩
    obtain ⟨c1, hc1⟩ : ∃ x, i.getD 1 0 = x := ⟨_, rfl⟩
    rw [hc0] at hx0
    rw [hc1] at hx1
    have hfacts := pieceOf_no (c := c)
    have hyes := pieceOf_yes (c := c)
    rw [hi, hc0, hc1, hq] at hfacts hyes
    have HNo := Lib.hid hfacts
    have HYes := Lib.hid hyes
    have HOwn := Lib.hid hown
    have HSl := Lib.hid hs
    have hc1l := c1.toNat_lt
    have hq2 : u8 1 = .int .u8 1 := rfl
    clear hfacts hyes hown hs hsl h1 h2 hi hc0 hc1
    by_cases hq1 : q = 1
    · subst hq1
      rw [hq2] at hb63
      by_cases hn58 : c1.toNat ≤ 58
      · have hn58i : ¬ (58 : Int) < (c1.toNat : Int) := by omega
        clear hq2
        simp only []
        have hshape : ((c0 == 2) = true ∨ (c0 = 1 ∧ c1.toNat = 58)) ∨ ¬ ((c0 == 2) = true ∨ (c0 = 1 ∧ c1.toNat = 58)) := Classical.em _
        rcases hshape with hsh | hsh
        · obtain ⟨lst, hlst⟩ : ∃ b, ((c0.toNat : Int) == 2) = b := ⟨_, rfl⟩
          have hl2 : (c0 == 2) = lst := by
            rw [← hlst]
            have : c0 = 2 ↔ c0.toNat = 2 := by rw [← UInt8.toNat_inj]; rfl
            by_cases h : c0.toNat = 2
            · rw [show c0 = 2 from this.2 h]; rfl
            · have h' : ¬ c0 = 2 := fun e => h (this.1 e)
              have h'' : ¬ (c0.toNat : Int) = 2 := by omega
              rw [beq_eq_false_iff_ne.2 h', beq_eq_false_iff_ne.2 h'']
          have hor : (lst = true) ∨ (lst = false ∧ ((c0.toNat : Int) != 1) = false ∧ ((c1.toNat : Int) != 58) = false) := by
            rcases hsh with h | ⟨h1, h2⟩
            · left; rw [← hl2]; exact h
            · subst h1
              cases lst with
              | true => left; rfl
              | false => right; exact ⟨rfl, rfl, by rw [h2]; rfl⟩
          have hxx : (w1.alloc (.cells #[.int .u8 0] 5)).cell? ⟨w1.heap.size, 0, none⟩ = some (u8 0) := cell_of_heap (heap_alloc_new _ _) rfl
          obtain ⟨v6, w6, hr, hib6, hown6, hc6⟩ := run_append_one (w1.alloc (.cells #[.int .u8 0] 5)) 26 _ g icap (2 + c1.toNat) i (by rw [hil]; exact HOwn.out.then ((Chg.refl [] w1).alloc _)) (by omega) (by omega) w1.heap.size 0 hxx
          rw [hil] at hr hown6
          have HC6 := Lib.hid (show Chg [] w w6 from (HC1.out.alloc _).trans hc6 (by intro x hx; simp at hx; right; rw [hx]; exact hg))
          have hd2 := (hown6.isB.dropH 2 (by omega))
          rw [if_neg (by omega)] at hd2
          have hpiece := hd2.take c1.toNat (by rw [List.length_drop]; omega)
          have HPc := Lib.hid hpiece
          have HMx := Lib.hid (Max_calls 5 v6 _ w6 hib6 (by simp))
          have HSh := Lib.hid hsh
          have HLst := Lib.hid hl2
          have hsl : 2 + c1.toNat - 2 = c1.toNat := by omega
          have hslt : ((2 : Int) + (c1.toNat : Int)) ≤ (icap : Int) := by omega
          clear hib6 hown6 hc6 hd2 hpiece hsh hl2 hxx
          by_cases hic2 : icap = 2 + c1.toNat
          · rw [if_pos hic2] at hr
            subst hic2
            rcases hor with hor | ⟨hor, hne1, hne2⟩
            · subst hor
              go_wp2_with (at_builtin; refine wpList_append_run ?_ (.tmp 54) (.tmp 55) rfl (.slice (some ⟨g, 0, none⟩) (60 - (2 + c1.toNat)) (2 + c1.toNat - (2 + c1.toNat))) (.slice (some ⟨w1.heap.size, 0, none⟩) 1 1) v6 w6 rfl rfl hr ?_; rotate_left)
              refine HMx.out.mono ?_
              rintro e w7 ⟨m, hm8, rfl, hmz, rfl⟩
              have hmz2 : m = 0 ↔ ((List.drop (2 + c1.toNat) i).all fun x => x == 0) = true := by
                rw [hmz, List.all_append]; simp
              by_cases hm0 : m = 0
              · have hmi : ((m : Int) != 0) = false := by simp [hm0]
                have HY := Lib.hid (HYes.out ⟨HSl.out, by first | trivial | rfl | exact hq, hn58, by first | exact HSh.out | trivial | simp [HLst.out], hmz2.1 hm0⟩)
                clear hmz hmz2 hr
                simp only []
                go_wp2_with fail
                go_ret3
                refine ⟨_, _, true, rfl, (fun h => by cases h), fun _ => ⟨_, by rw [HY.out, HLst.out], ?_⟩, HC6.out⟩
                have hp := HPc.out
                first | exact hp | (simp only [hsl] at hp ⊢; exact hp)
              · have hmi : ((m : Int) != 0) = true := by simp; omega
                have HN := Lib.hid (HNo.out (fun h => hm0 (hmz2.2 h.2.2.2.2)))
                clear hmz hmz2 hr
                simp only []
                go_wp2_with fail
                go_ret3
                exact PieceAns.no HN.out HC6.out
            · subst hor
              go_wp2_with (at_builtin; refine wpList_append_run ?_ (.tmp 54) (.tmp 55) rfl (.slice (some ⟨g, 0, none⟩) (60 - (2 + c1.toNat)) (2 + c1.toNat - (2 + c1.toNat))) (.slice (some ⟨w1.heap.size, 0, none⟩) 1 1) v6 w6 rfl rfl hr ?_; rotate_left)
              refine HMx.out.mono ?_
              rintro e w7 ⟨m, hm8, rfl, hmz, rfl⟩
              have hmz2 : m = 0 ↔ ((List.drop (2 + c1.toNat) i).all fun x => x == 0) = true := by
                rw [hmz, List.all_append]; simp
              by_cases hm0 : m = 0
              · have hmi : ((m : Int) != 0) = false := by simp [hm0]
                have HY := Lib.hid (HYes.out ⟨HSl.out, by first | trivial | rfl | exact hq, hn58, by first | exact HSh.out | trivial | simp [HLst.out], hmz2.1 hm0⟩)
                clear hmz hmz2 hr
                simp only []
                go_wp2_with fail
                go_ret3
                refine ⟨_, _, true, rfl, (fun h => by cases h), fun _ => ⟨_, by rw [HY.out, HLst.out], ?_⟩, HC6.out⟩
                have hp := HPc.out
                first | exact hp | (simp only [hsl] at hp ⊢; exact hp)
              · have hmi : ((m : Int) != 0) = true := by simp; omega
                have HN := Lib.hid (HNo.out (fun h => hm0 (hmz2.2 h.2.2.2.2)))
                clear hmz hmz2 hr
                simp only []
                go_wp2_with fail
                go_ret3
                exact PieceAns.no HN.out HC6.out
          · rw [if_neg hic2] at hr
            rcases hor with hor | ⟨hor, hne1, hne2⟩
            · subst hor
              go_wp2_with (at_builtin; refine wpList_append_run ?_ (.tmp 54) (.tmp 55) rfl (.slice (some ⟨g, 2 + c1.toNat, none⟩) (60 - (2 + c1.toNat)) (icap - (2 + c1.toNat))) (.slice (some ⟨w1.heap.size, 0, none⟩) 1 1) v6 w6 rfl rfl hr ?_; rotate_left)
              refine HMx.out.mono ?_
              rintro e w7 ⟨m, hm8, rfl, hmz, rfl⟩
              have hmz2 : m = 0 ↔ ((List.drop (2 + c1.toNat) i).all fun x => x == 0) = true := by
                rw [hmz, List.all_append]; simp
              by_cases hm0 : m = 0
              · have hmi : ((m : Int) != 0) = false := by simp [hm0]
                have HY := Lib.hid (HYes.out ⟨HSl.out, by first | trivial | rfl | exact hq, hn58, by first | exact HSh.out | trivial | simp [HLst.out], hmz2.1 hm0⟩)
                clear hmz hmz2 hr
                simp only []
                go_wp2_with fail
                go_ret3
                refine ⟨_, _, true, rfl, (fun h => by cases h), fun _ => ⟨_, by rw [HY.out, HLst.out], ?_⟩, HC6.out⟩
                have hp := HPc.out
                first | exact hp | (simp only [hsl] at hp ⊢; exact hp)
              · have hmi : ((m : Int) != 0) = true := by simp; omega
                have HN := Lib.hid (HNo.out (fun h => hm0 (hmz2.2 h.2.2.2.2)))
                clear hmz hmz2 hr
                simp only []
                go_wp2_with fail
                go_ret3
                exact PieceAns.no HN.out HC6.out
            · subst hor
              go_wp2_with (at_builtin; refine wpList_append_run ?_ (.tmp 54) (.tmp 55) rfl (.slice (some ⟨g, 2 + c1.toNat, none⟩) (60 - (2 + c1.toNat)) (icap - (2 + c1.toNat))) (.slice (some ⟨w1.heap.size, 0, none⟩) 1 1) v6 w6 rfl rfl hr ?_; rotate_left)
              refine HMx.out.mono ?_
              rintro e w7 ⟨m, hm8, rfl, hmz, rfl⟩
              have hmz2 : m = 0 ↔ ((List.drop (2 + c1.toNat) i).all fun x => x == 0) = true := by
                rw [hmz, List.all_append]; simp
              by_cases hm0 : m = 0
              · have hmi : ((m : Int) != 0) = false := by simp [hm0]
                have HY := Lib.hid (HYes.out ⟨HSl.out, by first | trivial | rfl | exact hq, hn58, by first | exact HSh.out | trivial | simp [HLst.out], hmz2.1 hm0⟩)
                clear hmz hmz2 hr
                simp only []
                go_wp2_with fail
                go_ret3
                refine ⟨_, _, true, rfl, (fun h => by cases h), fun _ => ⟨_, by rw [HY.out, HLst.out], ?_⟩, HC6.out⟩
                have hp := HPc.out
                first | exact hp | (simp only [hsl] at hp ⊢; exact hp)
              · have hmi : ((m : Int) != 0) = true := by simp; omega
                have HN := Lib.hid (HNo.out (fun h => hm0 (hmz2.2 h.2.2.2.2)))
                clear hmz hmz2 hr
                simp only []
                go_wp2_with fail
                go_ret3
                exact PieceAns.no HN.out HC6.out
        · have hne : ((c0.toNat : Int) == 2) = false := by
            have h1 : ¬ (c0 == 2) = true := fun h => hsh (.inl h)
            have h2 : ¬ c0.toNat = 2 := fun h => h1 (by rw [show c0 = 2 from UInt8.toNat_inj.1 h]; rfl)
            rw [beq_eq_false_iff_ne]; omega
          have hor : ((c0.toNat : Int) != 1) = true ∨ (((c0.toNat : Int) != 1) = false ∧ ((c1.toNat : Int) != 58) = true) := by
            by_cases h : c0.toNat = 1
            · right
              have h1 : c0 = 1 := UInt8.toNat_inj.1 h
              have h2 : ¬ c1.toNat = 58 := fun h => hsh (.inr ⟨h1, h⟩)
              refine ⟨by rw [h]; rfl, ?_⟩
              rw [bne_iff_ne]; omega
            · left
              rw [bne_iff_ne]; omega
          have HN := Lib.hid (HNo.out (fun h => hsh h.2.2.2.1))
          clear hsh
          rcases hor with hor | ⟨hor, hor2⟩
          all_goals
            go_wp2_with fail
            go_ret3
            exact PieceAns.no HN.out HC1.out
      · have hn58i : (58 : Int) < (c1.toNat : Int) := by omega
        have HN := Lib.hid (HNo.out (fun h => hn58 h.2.2.1))
        clear hq2
        simp only []
        go_wp2_with fail
        go_ret3
        exact PieceAns.no HN.out HC1.out
    · have hqn : ((q.toNat : Int) != 1) = true := by
        have : q.toNat ≠ 1 := fun h => hq1 (UInt8.toNat_inj.1 h)
        simp; omega
      have HN := Lib.hid (HNo.out (fun h => hq1 h.2.1))
      clear hq2
      simp only []
      go_wp2_with fail
      go_ret3
      exact PieceAns.no HN.out HC1.out
end Go.Proofs.Ytgmgmjljjbcgjaa

/- The laws of records: texts. -/
import Derived.Test.YtgmgmjljjbcgjaaLaw7
import Derived.Deep.QuietTactic
import Derived.BigQuiet
namespace Go.Proofs.Ytgmgmjljjbcgjaa
open Go Go.RowKit NSX

/-- v is a slice of these strings. -/
def StrsAt (w : World) (v : Value) (ss : List ByteArray) : Prop :=
  ∃ ao cap, v = .slice ao ss.length cap ∧ ss.length ≤ cap ∧ cap ≤ maxLen ∧ ∀ (i : Nat) (s : ByteArray), ss[i]? = some s → ∃ a, ao = some a ∧ w.cell? (a.add i) = some (.string s)
theorem StrsAt.then {w w' : World} {v : Value} {ss : List ByteArray} (h : StrsAt w v ss) (hc : Chg [] w w') : StrsAt w' v ss := by
  obtain ⟨ao, cap, hv, hl, hm, hb⟩ := h
  exact ⟨ao, cap, hv, hl, hm, fun i s hi => by
    obtain ⟨a, ha, hx⟩ := hb i s hi
    exact ⟨a, ha, hc.cell hx (by simp)⟩⟩
/-- Strings as bytes. -/
def asBytes (ss : List ByteArray) : List (List UInt8) := ss.map (·.data.toList)

set_option maxRecDepth 100000 in
set_option maxHeartbeats 800000 in
theorem texts_calls (base top : Nat) (v u : Value) (l : List (List UInt8)) (ss : List ByteArray) (w : World) (hv : ListB w base top v l) (hu : StrsAt w u ss) :
    Calls Try.prog 60 #[v, u] w fun e w' => e = .returned (.bool (decide (l = asBytes ss))) ∧ Chg [] w w' := by
  obtain ⟨ao, cap, rfl, hl, hcells⟩ := hv.cells
  obtain ⟨bo, bcap, rfl, hbl, hbm, hbs⟩ := hu
  unfold maxLen at hbm
  have HL := Lib.hid (show ∀ (i : Nat) (b : List UInt8), l[i]? = some b → ∃ g x, ao = some ⟨g, 0, none⟩ ∧ w.cell? ⟨g, i, none⟩ = some x ∧ IsB w 5 x b from fun i b hi => by
    obtain ⟨g, x, h1, h2, h3⟩ := hcells i b hi
    exact ⟨g, x, h1, h2, h3.isB⟩)
  have HS := Lib.hid hbs
  clear hcells hbs hv
  by_cases hlen : l.length = ss.length
  · obtain ⟨n, hn⟩ : ∃ n, ss.length = n := ⟨_, rfl⟩
    rw [hlen, hn]
    rw [hn] at hlen hbl
    have HLen := Lib.hid hlen
    have HN := Lib.hid hn
    clear hlen hn
    go_enter Try.func60, Try.ntmps60
    go_wp2
    go_loopw [13] (fun i wr => ∃ k : Nat, k ≤ n ∧ i = .int .i64 k ∧ l.take k = asBytes (ss.take k) ∧ Chg [] w wr) (fun i _ => n - (intOf i).toNat)
    case atStart => exact ⟨0, by omega, rfl, rfl, Chg.refl _ _⟩
    case round =>
      obtain ⟨k, hk, rfl, hsame, hc⟩ := hrel
      by_cases hlt : k < n
      · have hi2 : (k : Int) < (n : Int) := by omega
        obtain ⟨b, hb⟩ : ∃ b, l[k]? = some b := ⟨_, List.getElem?_eq_getElem (by rw [HLen.out]; exact hlt)⟩
        obtain ⟨s, hs⟩ : ∃ s, ss[k]? = some s := ⟨_, List.getElem?_eq_getElem (by rw [HN.out]; exact hlt)⟩
        obtain ⟨g, x, rfl, hx, hxb⟩ := HL.out k b hb
        obtain ⟨a, rfl, ha⟩ := HS.out k s hs
        have hx2 := hc.cell hx (by simp)
        have ha2 := hc.cell ha (by simp)
        have hq : ∀ m, (convert 26 9 x).run Try.prog (wr.drewN m) = .ok (.string (strOf b)) (wr.drewN m) := fun m => run_toString _ 5 _ _ ((hxb.then hc).then ((Chg.refl [] wr).drewN m))
        have HB := Lib.hid hb
        have HSs := Lib.hid hs
        have HSame := Lib.hid hsame
        have HC := Lib.hid hc
        clear hb hs hsame hc hx ha hxb
        have hbs2 : asBytes (ss.take (k + 1)) = asBytes (ss.take k) ++ [s.data.toList] := by
          unfold asBytes
          rw [List.take_add_one, HSs.out, List.map_append]; rfl
        have hlk2 : l.take (k + 1) = l.take k ++ [b] := by rw [List.take_add_one, HB.out]; rfl
        have H2 := Lib.hid (And.intro hbs2 hlk2)
        clear hbs2 hlk2
        by_cases heq : b = s.data.toList
        · have hbs : strOf b = s := by rw [heq, strOf_of]
          have HE := Lib.hid heq
          rw [hbs] at hq
          clear heq hbs
          go_wp2_with fail
          go_quiet (fail)
          go_wp2
          go_roundw
          case rel =>
            refine ⟨k + 1, by omega, by go_num, ?_, HC.out.drewN _⟩
            rw [H2.out.1, H2.out.2, HSame.out, HE.out]
          case measure => simp [intOf]; omega
        · have hne : ((strOf b).toList == s.toList) = false := by
            rw [ByteArray.toList_eq, ByteArray.toList_eq, strOf_toList, beq_eq_false_iff_ne]; exact heq
          have hdec : decide (l = asBytes ss) = false := by
            rw [decide_eq_false_iff_not]
            intro h
            have h1 := H2.out.2
            have h2 := H2.out.1
            have h3 : l.take (k + 1) = asBytes (ss.take (k + 1)) := by rw [h]; unfold asBytes; rw [List.map_take]
            rw [h1, h2, HSame.out] at h3
            have := List.append_cancel_left h3
            simp at this
            exact heq this
          have HD := Lib.hid hdec
          clear heq hdec
          go_wp2_with fail
          go_quiet (fail)
          go_wp2
          go_ret
          rw [HD.out]
          exact ⟨rfl, HC.out.drewN _⟩
      · obtain rfl : k = n := by omega
        have hdec : decide (l = asBytes ss) = true := by
          rw [decide_eq_true_iff]
          rw [List.take_of_length_le (by rw [HLen.out]; exact Nat.le_refl _), List.take_of_length_le (by rw [HN.out]; exact Nat.le_refl _)] at hsame
          exact hsame
        have HD := Lib.hid hdec
        have HC := Lib.hid hc
        clear hdec hsame hc
        go_wp2
        go_ret
        rw [HD.out]
        exact ⟨rfl, HC.out⟩
  · have hne : ((l.length : Int) != (ss.length : Int)) = true := by rw [bne_iff_ne]; omega
    have hdec : decide (l = asBytes ss) = false := by
      rw [decide_eq_false_iff_not]
      intro h
      apply hlen
      rw [h]; simp [asBytes]
    rw [hdec]
    clear hdec
    go_enter Try.func60, Try.ntmps60
    go_wp2
    go_ret
    exact ⟨rfl, Chg.refl _ _⟩
end Go.Proofs.Ytgmgmjljjbcgjaa

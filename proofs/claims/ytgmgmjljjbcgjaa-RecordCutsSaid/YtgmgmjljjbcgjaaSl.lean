/- Go's own slices.Clone, slices.Equal, slices.Max at bytes. -/
import Derived.Test.YtgmgmjljjbcgjaaBase
namespace Go.Proofs.Ytgmgmjljjbcgjaa
open Go Go.RowKit

set_option maxHeartbeats 400000 in
theorem Clone_calls (T : TypeId) (v : Value) (bs : List UInt8) (w : World) (hv : IsB w T v bs) (hlen : bs.length ≤ 140737488355328) :
    Calls Try.prog 68 #[v] w fun e w' => ∃ v', e = .returned v' ∧ OwnB w' w.heap.size v' bs ∧ Chg [] w w' := by
  have HV := Lib.hid hv
  obtain ⟨ao, cap, rfl, hl, hm, hz, hc⟩ := hv.cells
  clear hv
  cases ao with
  | none =>
    obtain rfl := hz rfl
    have h0 : bs = [] := List.eq_nil_of_length_eq_zero (by omega)
    subst h0
    have hn := OwnB.nil w w.heap.size
    have H1 := Lib.hid hn
    clear hn
    have heq := fun (w : World) => Lib.run_eql_slice_nil (P := Try.prog) w 26 5 none 0 0 0 0 Try.underlying26
    go_enter Try.func68, Try.ntmps68
    go_wp2
    go_ret
    exact ⟨_, rfl, H1.out, Chg.refl _ _⟩
  | some a =>
    clear hz hc
    have heq := fun (w : World) => Lib.run_eql_slice_nil (P := Try.prog) w 26 5 (some a) bs.length cap 0 0 Try.underlying26
    have hbs : ∀ w : World, (Instr.buildSlice 26 0 #[]).run Try.prog w = .ok (.slice (some ⟨w.heap.size, 0, none⟩) 0 0) (w.alloc (.cells #[] 5)) := fun w => by kernel_rfl
    have hown : OwnB (w.alloc (.cells #[] 5)) w.heap.size (.slice (some ⟨w.heap.size, 0, none⟩) 0 0) [] := World.ownsRow_made w #[] 0 (Nat.le_refl _) (Nat.zero_le _) rfl
    have hch : Chg [] w (w.alloc (.cells #[] 5)) := (Chg.refl [] w).alloc _
    have hx := HV.out.then hch
    have H1 := Lib.hid hown
    have H2 := Lib.hid hch
    have H3 := Lib.hid hx
    clear hown hch hx
    go_enter Try.func68, Try.ntmps68
    go_wp2_with (at_builtin; refine wpList_bappend rfl _ _ rfl w.heap.size (.slice (some ⟨w.heap.size, 0, none⟩) 0 0) [] rfl H1.out T _ bs rfl H3.out (by simpa using hlen) (by simp) ?_; intro v' w1 hown' hch' hwh)
    go_ret
    refine ⟨_, rfl, by simpa using hown', H2.out.trans hch' (fun x hx => ?_)⟩
    simp [Value.ownBlock] at hx
    exact .inr (by rw [← hx]; exact Nat.le_refl _)

theorem u8_inj (a b : UInt8) : ((a.toNat : Int) = (b.toNat : Int)) ↔ a = b := by
  constructor
  · intro h; exact UInt8.toNat_inj.1 (by omega)
  · rintro rfl; rfl

set_option maxHeartbeats 400000 in
theorem Equal_calls (T T' : TypeId) (v v' : Value) (xs ys : List UInt8) (w : World) (hv : IsB w T v xs) (hv' : IsB w T' v' ys) :
    Calls Try.prog 79 #[v, v'] w fun e w' => e = .returned (.bool (decide (xs = ys))) ∧ Chg [] w w' := by
  have HV := Lib.hid hv
  have HV' := Lib.hid hv'
  obtain ⟨ao, cap, rfl, hl, hm, hz, hc⟩ := hv.cells
  obtain ⟨ao', cap', rfl, hl', hm', hz', hc'⟩ := hv'.cells
  unfold maxLen at hm hm'
  clear hv hv' hc hc' hz hz'
  by_cases hlen : xs.length = ys.length
  · obtain ⟨n, hn⟩ : ∃ n, xs.length = n := ⟨_, rfl⟩
    have hn' : ys.length = n := hlen.symm.trans hn
    rw [hn] at hl ⊢
    rw [hn'] at hl' ⊢
    have HN := Lib.hid hn
    have HN' := Lib.hid hn'
    clear hn hn' hlen
    go_enter Try.func79, Try.ntmps79
    go_wp2
    go_loopw [13] (fun i wr => ∃ k : Nat, k ≤ n ∧ i = .int .i64 k ∧ xs.take k = ys.take k ∧ Chg [] w wr) (fun i _ => n - (intOf i).toNat)
    case atStart => exact ⟨0, by omega, rfl, by simp, Chg.refl _ _⟩
    case round =>
      obtain ⟨k, hk, rfl, htk, hch⟩ := hrel
      have HT := Lib.hid htk
      clear htk
      by_cases hlt : k < n
      · obtain ⟨a, c, e1, -, -, -, hcs⟩ := (HV.out.then hch).cells
        obtain ⟨a', c', e1', -, -, -, hcs'⟩ := (HV'.out.then hch).cells
        simp only [Value.slice.injEq] at e1 e1'
        obtain ⟨rfl, -, rfl⟩ := e1
        obtain ⟨rfl, -, rfl⟩ := e1'
        obtain ⟨g, off, rfl, hg⟩ := hcs k (by rw [HN.out]; exact hlt)
        obtain ⟨g', off', rfl, hg'⟩ := hcs' k (by rw [HN'.out]; exact hlt)
        clear hcs hcs'
        have hgx : xs[k]? = some (xs.getD k 0) := by rw [List.getD_eq_getElem?_getD, List.getElem?_eq_getElem (by rw [HN.out]; exact hlt)]; rfl
        have hgy : ys[k]? = some (ys.getD k 0) := by rw [List.getD_eq_getElem?_getD, List.getElem?_eq_getElem (by rw [HN'.out]; exact hlt)]; rfl
        have HX := Lib.hid hgx
        have HY := Lib.hid hgy
        clear hgx hgy
        generalize xs.getD k 0 = x at *
        generalize ys.getD k 0 = y at *
        have HC := Lib.hid hch
        clear hch
        by_cases hxy : x = y
        · have hne : ((x.toNat : Int) != (y.toNat : Int)) = false := by rw [hxy]; simp
          have HXY := Lib.hid hxy
          clear hxy
          go_wp2
          go_region
          all_goals go_wp2
          all_goals go_roundw
          case rel =>
            refine ⟨k + 1, by omega, by go_num, ?_, HC.out.drew⟩
            rw [List.take_add_one, List.take_add_one, HX.out, HY.out, HT.out, HXY.out]
          case measure => simp [intOf]; omega
        · have hne : ((x.toNat : Int) != (y.toNat : Int)) = true := by rw [bne_iff_ne]; intro e; exact hxy ((u8_inj x y).1 e)
          have HXY := Lib.hid hxy
          clear hxy
          have hf : Value.bool false = Value.bool (decide (xs = ys)) := by
            have : decide (xs = ys) = false := by
              simp only [decide_eq_false_iff_not]
              rintro rfl
              have h1 := HX.out
              rw [HY.out] at h1
              exact HXY.out (by simpa using h1.symm)
            rw [this]
          have HF := Lib.hid hf
          clear hf
          go_wp2
          go_region
          all_goals go_wp2
          all_goals go_ret
          all_goals exact ⟨congrArg Ending.returned HF.out, HC.out.drew⟩
      · have hkn : k = n := by omega
        have he : decide (xs = ys) = true := by
          simp only [decide_eq_true_eq]
          have := HT.out
          rw [hkn, List.take_of_length_le (by rw [HN.out]; exact Nat.le_refl _), List.take_of_length_le (by rw [HN'.out]; exact Nat.le_refl _)] at this
          exact this
        have hf : Value.bool true = Value.bool (decide (xs = ys)) := by rw [he]
        have HE := Lib.hid hf
        have HC := Lib.hid hch
        clear he hf hch hkn
        go_wp2
        go_ret
        exact ⟨congrArg Ending.returned HE.out, HC.out⟩
  · have hne : decide (xs = ys) = false := by simp; intro e; exact hlen (by rw [e])
    rw [hne]
    have h1 : ((xs.length : Int) != (ys.length : Int)) = true := by rw [bne_iff_ne]; omega
    clear hne hlen
    go_enter Try.func79, Try.ntmps79
    go_wp2
    go_ret
    exact ⟨rfl, Chg.refl _ _⟩
end Go.Proofs.Ytgmgmjljjbcgjaa

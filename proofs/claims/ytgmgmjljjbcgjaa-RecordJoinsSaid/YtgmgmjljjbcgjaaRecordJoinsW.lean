/- RecordJoins: its walk. -/
import Derived.Test.YtgmgmjljjbcgjaaRecordBackW
import Derived.Test.YtgmgmjljjbcgjaaStrs
namespace Go.Proofs.Ytgmgmjljjbcgjaa
open Go Go.RowKit NSX

theorem laidB_append (a b : List ByteArray) : laidB (a ++ b) = laidB a ++ laidB b := by
  unfold laidB
  rw [asBytes_append, List.flatMap_append]
theorem nAll_append (a b : List (List UInt8)) : nAll (a ++ b) = nAll a + nAll b := by
  unfold nAll
  rw [List.map_append, List.sum_append]
theorem emptyB (w : World) : OwnB (w.alloc (.cells #[] 5)) w.heap.size (.slice (some ⟨w.heap.size, 0, none⟩) 0 0) [] :=
  ⟨rfl, .inr ⟨w.heap.size, 0, #[], rfl, Nat.le_refl _, heap_alloc_new _ _, Nat.le_refl _, by decide, rfl, rfl⟩⟩
theorem emptyS (w : World) : OwnS (w.alloc (.cells #[] 9)) w.heap.size (.slice (some ⟨w.heap.size, 0, none⟩) 0 0) [] :=
  ⟨rfl, .inr ⟨w.heap.size, 0, #[], rfl, Nat.le_refl _, heap_alloc_new _ _, Nat.le_refl _, by decide, rfl, rfl⟩⟩

set_option maxRecDepth 100000 in
set_option maxHeartbeats 1000000 in
theorem RecordJoins_calls (u1 u2 : Value) (sa sb : List ByteArray) (w : World) (hu1 : StrsAt w u1 sa) (hu2 : StrsAt w u2 sb) :
    Calls Try.prog 16 #[u1, u2] w fun e w' => e = .returned (.bool true) ∧ Chg [] w w' := by
  have hu1' := hu1
  have hu2' := hu2
  obtain ⟨ao, acap, rfl, hal, ham, -⟩ := hu1'
  obtain ⟨bo, bcap, rfl, hbl, hbm, -⟩ := hu2'
  unfold maxLen at ham hbm
  have HU1 := Lib.hid hu1
  have HU2 := Lib.hid hu2
  clear hu1 hu2
  go_enter Try.func16, Try.ntmps16
  go_wp2_with fail
  refine (awake7_calls _).mono ?_
  rintro e w1 ⟨rfl, hc1⟩
  have HC1 := Lib.hid hc1
  clear hc1
  simp only []
  go_wp2_with fail
  refine (laid_calls _ sa _ (HU1.out.then HC1.out)).mono ?_
  rintro e w2 ⟨xv, ok1, rfl, hok1, hc2⟩
  have HC2 := Lib.hid (HC1.out.then hc2)
  clear hc2
  simp only []
  go_wp2_with fail
  refine (laid_calls _ sb _ (HU2.out.then HC2.out)).mono ?_
  rintro e w3 ⟨yv, ok2, rfl, hok2, hc3⟩
  have HC3 := Lib.hid (HC2.out.then hc3)
  simp only []
  cases ok1 with
  | false =>
    clear hok1 hok2 hc3
    go_wp2
    go_ret
    exact ⟨rfl, HC3.out⟩
  | true =>
    cases ok2 with
    | false =>
      clear hok1 hok2 hc3
      go_wp2
      go_ret
      exact ⟨rfl, HC3.out⟩
    | true =>
      obtain ⟨h50a, halla, hx⟩ := hok1 rfl
      obtain ⟨h50b, hallb, hy⟩ := hok2 rfl
      have hlx := laidB_length sa
      have hly := laidB_length sb
      have hna : nAll (asBytes sa) ≤ 18 * (asBytes sa).length := nAll_le _ (asBytes_short halla)
      have hnb : nAll (asBytes sb) ≤ 18 * (asBytes sb).length := nAll_le _ (asBytes_short hallb)
      rw [show (asBytes sa).length = sa.length from by simp [asBytes]] at hna
      rw [show (asBytes sb).length = sb.length from by simp [asBytes]] at hnb
      have hread := whole_law (sa ++ sb) (fun s hs => (List.mem_append.1 hs).elim (halla s) (hallb s))
      rw [laidB_append, asBytes_append, nAll_append] at hread
      obtain ⟨N1, hN1⟩ : ∃ N, nAll (asBytes sa) = N := ⟨_, rfl⟩
      obtain ⟨N2, hN2⟩ : ∃ N, nAll (asBytes sb) = N := ⟨_, rfl⟩
      rw [hN1] at hlx hna hread
      rw [hN2] at hly hnb hread
      have hx3 := (hx.isB.then hc3)
      obtain ⟨xo, xcap, rfl, hxc, hxm, -, -⟩ := hx3.cells
      obtain ⟨yo, ycap, rfl, hyc, hym, -, -⟩ := hy.isB.cells
      unfold maxLen at hxm hym
      have HX := Lib.hid hx3
      have HY := Lib.hid hy.isB
      have HLx := Lib.hid hlx
      have HLy := Lib.hid hly
      have HRd := Lib.hid hread
      rw [hlx] at hxc HX ⊢
      rw [hly] at hyc HY ⊢
      have HE := Lib.hid (emptyB w3)
      have HCe := Lib.hid ((Chg.refl [] w3).alloc (.cells #[] 5))
      clear hok1 hok2 hc3 hx hy hx3 hlx hly hread halla hallb hN1 hN2
      go_upto_region 7 with fail
      go_wp2_with (first
        | (at_builtin; refine wpList_bappend rfl (.tmp 30) (.tmp 31) rfl w3.heap.size _ _ rfl HE.out 5 _ _ rfl (HX.out.then HCe.out) (by rw [HLx.out]; simp; omega) HCe.out.size ?_; intro v5 w5 hown5 hch5 hwh5; have HC5 := Lib.hid (HCe.out.trans hch5 (HE.out.rows (Nat.le_refl _))); have HO5 := Lib.hid hown5; clear hown5 hch5 hwh5)
        | (at_builtin; refine wpList_bappend rfl (.tmp 32) (.tmp 33) rfl w3.heap.size _ _ rfl HO5.out 5 _ _ rfl (HY.out.then HC5.out) (by rw [List.nil_append, HLx.out, HLy.out]; omega) HC5.out.size ?_; intro v6 w6 hown6 hch6 hwh6; have HC6 := Lib.hid (HC5.out.trans hch6 (HO5.out.rows (Nat.le_refl _))); have HO6 := Lib.hid hown6; clear hown6 hch6 hwh6))
      have hrd := Read_bytes 5 _ _ w6 HO6.out.isB (by rw [List.nil_append, List.length_append, HLx.out, HLy.out]; omega)
      rw [List.nil_append, HRd.out] at hrd
      have HR := Lib.hid hrd
      clear hrd
      refine HR.out.mono ?_
      rintro e w7 ⟨lv, rfl, hl7, hc7⟩
      obtain ⟨lo, lc, rfl⟩ := hl7.slice
      have HL7 := Lib.hid hl7
      have HC7 := Lib.hid ((HC3.out.then HC6.out).then hc7)
      have HE7 := Lib.hid (emptyS w7)
      have HCa := Lib.hid ((Chg.refl [] w7).alloc (.cells #[] 9))
      clear hl7 hc7
      obtain ⟨v8, w8, hr8, hown8, hch8⟩ := run_sappend (w7.alloc (.cells #[] 9)) 61 w7.heap.size _ [] HE7.out _ sa (HU1.out.then (HC7.out.then HCa.out)) (by simp; omega) HCa.out.size
      have hc8 : Chg [] w7 w8 := HCa.out.trans hch8 (HE7.out.rows (Nat.le_refl _))
      obtain ⟨v9, w9, hr9, hown9, hch9⟩ := run_sappend w8 61 w7.heap.size _ _ hown8 _ sb (HU2.out.then (HC7.out.then hc8)) (by simp; omega) hc8.size
      have hc9 : Chg [] w7 w9 := hc8.trans hch9 (hown8.rows (Nat.le_refl _))
      have hl9 := HL7.out.chg hc9 (by simp)
      have htx := texts_calls _ _ _ _ _ (sa ++ sb) w9 hl9 (by simpa using hown9.strs)
      have HTx := Lib.hid htx
      have HC9 := Lib.hid (HC7.out.then hc9)
      have HR8 := Lib.hid hr8
      have HR9 := Lib.hid hr9
      clear hown8 hown9 hch8 hch9 hc8 hc9 hl9 htx hr8 hr9
      simp only []
      go_wp2_with (first
        | (at_builtin; refine wpList_append_any 61 (by simp [Region.wanted, yielded]) (.tmp 48) (.tmp 49) rfl _ _ v8 w8 rfl rfl HR8.out ?_)
        | (at_builtin; refine wpList_append_any 61 (by simp [Region.wanted, yielded]) (.tmp 50) (.tmp 51) rfl _ _ v9 w9 rfl rfl HR9.out ?_))
      have hlen9 : (asBytes sa ++ asBytes sb).length = (asBytes sa).length + (asBytes sb).length := List.length_append
      rw [hlen9, asBytes_append, decide_eq_true rfl] at HTx
      refine HTx.out.mono ?_
      rintro e w10 ⟨rfl, hc10⟩
      have HC10 := Lib.hid (HC9.out.then hc10)
      clear hc10
      simp only []
      go_wp2_with fail
      go_ret
      exact ⟨rfl, HC10.out⟩
end Go.Proofs.Ytgmgmjljjbcgjaa

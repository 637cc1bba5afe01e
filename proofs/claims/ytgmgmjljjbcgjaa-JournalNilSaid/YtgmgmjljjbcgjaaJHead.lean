/- The journal package: head. -/
import Derived.Test.YtgmgmjljjbcgjaaJPack
import Derived.Test.YtgmgmjljjbcgjaaRead
namespace Go.Proofs.Ytgmgmjljjbcgjaa
open Go Go.RowKit NSX

set_option maxRecDepth 100000 in
set_option maxHeartbeats 1000000 in
theorem head_calls (S a h : Nat) (st : St) (w : World) (hs : StoreAt w S st) (hd : st.down = false) (ha : a < 2) (hh : HeadIs st.bytes a h) :
    Calls Try.prog 70 #[.pointer (some ⟨S, 0, none⟩), .int .i64 a] w fun e w' => e = .returned (.int .i64 h) ∧ Chg [] w w' := by
  have hb1 : (st.bytes.drop (a * 512 * 64)).take (1 * 64) = blockAt st.bytes (a * 512) := rfl
  have hbl := blockAt_length st.bytes (a * 512) hs.1 (by omega)
  have hbk := blocks_calls S (a * 512) 1 st w hs hd (by omega)
  rw [hb1] at hbk
  have hread := read_head st.bytes a h hbl hh
  obtain ⟨c, hc⟩ : ∃ c, blockAt st.bytes (a * 512) = c := ⟨_, rfl⟩
  rw [hc] at hbl hbk hread
  have HB := Lib.hid hbk
  have HR := Lib.hid hread
  have HL := Lib.hid hbl
  clear hb1 hs hd hh hc hbk hread hbl
  go_enter Try.func70, Try.ntmps70
  go_wp2_with fail
  refine (place_calls a 0 w (by omega) (by omega)).mono ?_
  rintro e w' ⟨rfl, rfl⟩
  simp only []
  go_wp2_with fail
  refine (place_calls a 1 w (by omega) (by omega)).mono ?_
  rintro e w' ⟨rfl, rfl⟩
  simp only []
  go_wp2_with fail
  refine HB.out.mono ?_
  rintro e w1 ⟨bv, rfl, hown, hch⟩
  have HRd := Lib.hid (Read_bytes 5 _ _ w1 hown.isB (by rw [HL.out]; omega))
  have HC1 := Lib.hid hch
  clear hown hch
  simp only []
  go_wp2_with fail
  refine HRd.out.mono ?_
  rintro e w2 ⟨lv, rfl, hl, hch⟩
  have HC2 := Lib.hid (HC1.out.then hch)
  clear hch
  simp only []
  rcases HR.out with ⟨h0, hr⟩ | ⟨h1, h2, hr⟩
  · rw [hr] at hl ⊢
    obtain ⟨lo, lc, rfl⟩ := hl.slice
    subst h0
    clear hl hr
    go_wp2_with fail
    go_ret
    exact ⟨rfl, HC2.out⟩
  · rw [hr] at hl ⊢
    obtain ⟨lo, lc, rfl, hlc, hcells⟩ := hl.cells
    obtain ⟨g, x, rfl, hx, hxo⟩ := hcells 0 [1, UInt8.ofNat h] rfl
    obtain ⟨xo, xc, rfl, -, -, -, -⟩ := hxo.isB.cells
    have HT := Lib.hid (Take8_calls 5 _ h w2 h1 h2 hxo.isB)
    have hbig : ¬ (4611686018427387904 : Int) < (h : Int) := by omega
    clear hl hr hcells hxo
    go_wp2_with fail
    refine HT.out.mono ?_
    rintro e w3 ⟨rfl, rfl⟩
    simp only []
    go_wp2_with fail
    go_ret
    exact ⟨rfl, HC2.out⟩
end Go.Proofs.Ytgmgmjljjbcgjaa

/- BlockApart: its walk. -/
import Derived.Test.YtgmgmjljjbcgjaaL8
namespace Go.Proofs.Ytgmgmjljjbcgjaa
open Go Go.RowKit

theorem patch_get (l : List UInt8) (off : Nat) (cs : List UInt8) (h : off + cs.length ≤ l.length) (p : Nat) : (patch l off cs).getD p 0 = if off ≤ p ∧ p < off + cs.length then cs.getD (p - off) 0 else l.getD p 0 := by
  unfold patch
  simp only [List.getD_eq_getElem?_getD]
  by_cases h1 : p < off
  · rw [if_neg (by omega), List.getElem?_append_left (by simp; omega), List.getElem?_take, if_pos h1]
  · rw [List.getElem?_append_right (by simp; omega), List.length_take, Nat.min_eq_left (by omega)]
    by_cases h2 : p < off + cs.length
    · rw [if_pos ⟨by omega, h2⟩, List.getElem?_append_left (by omega)]
    · rw [if_neg (by omega), List.getElem?_append_right (by omega), List.getElem?_drop]
      congr 2; omega

theorem apart1 (part : Int) (y : Nat) (hy : y < 1024) (l b : List UInt8) (hb : b.length = 64) :
    ({ St.new with armed := decide ((0 : Int) ≤ 0), left := 0, part := part, writes := 1, bytes := l } : St).write y b = ({ St.new with armed := false, left := 0, part := part, down := true, writes := 2, bytes := patch l (y * 64) (b.take (max 0 (min part 64)).toNat) }, 13) := by
  unfold St.write
  have h1 : ¬ (St.new.down = true) := by show ¬ (false = true); simp
  have h3 : wrap64 ((1 : Int) + 1) = 2 := by unfold wrap64; omega
  simp only []
  rw [if_neg h1, if_neg (by omega), if_neg (by omega), if_pos (by simp), h3, Int.toNat_natCast]
theorem apart2 (st : St) (hd : st.down = true) (k : Int) (b : List UInt8) : st.write k b = (st, 13) := by
  unfold St.write
  rw [if_pos hd]

/-- What all bytes are then. -/
theorem apart_bytes (x y n : Nat) (hx : x < 1024) (hy : y < 1024) (hn : n ≤ 64) (ua ub : UInt8) (p : Nat) (hp : p < 65536) :
    (patch (patch St.new.bytes (x * 64) (List.replicate 64 ua)) (y * 64) ((List.replicate 64 ub).take n)).getD p 0 = if p / 64 = y ∧ p % 64 < n then ub else if p / 64 = x then ua else 0 := by
  have hl : St.new.bytes.length = 65536 := List.length_replicate
  have h1 : ((List.replicate 64 ub).take n).length = n := by simp; omega
  have h2 : (patch St.new.bytes (x * 64) (List.replicate 64 ua)).length = 65536 := by rw [patch_length _ _ _ (by rw [hl]; simp; omega), hl]
  rw [patch_get _ _ _ (by rw [h2, h1]; omega), h1]
  by_cases c1 : y * 64 ≤ p ∧ p < y * 64 + n
  · rw [if_pos c1, if_pos (by omega)]
    rw [List.getD_eq_getElem?_getD, List.getElem?_take, if_pos (by omega), List.getElem?_replicate, if_pos (by omega)]; rfl
  · rw [if_neg c1, if_neg (by omega), patch_get _ _ _ (by rw [hl]; simp; omega), List.length_replicate]
    by_cases c2 : x * 64 ≤ p ∧ p < x * 64 + 64
    · rw [if_pos c2, if_pos (by omega)]
      rw [List.getD_eq_getElem?_getD, List.getElem?_replicate, if_pos (by omega)]; rfl
    · rw [if_neg c2, if_neg (by omega)]
      unfold St.new
      simp only [List.getD_eq_getElem?_getD, List.getElem?_replicate]
      split <;> rfl

set_option maxRecDepth 100000 in
set_option maxHeartbeats 2000000 in
theorem BlockApart_calls (nx ny : Nat) (hnx : nx ≤ 65535) (hny : ny ≤ 65535) (a b : Int) (ua ub : UInt8) (ha : a = (ua.toNat : Int)) (hb : b = (ub.toNat : Int)) (part : Int) (w : World) :
    Calls Try.prog 6 #[.int .u16 nx, .int .u16 ny, .int .u8 a, .int .u8 b, .int .i64 part] w fun e w' => e = .returned (.bool true) ∧ Chg [] w w' := by
  obtain ⟨x, hx⟩ : ∃ k, nx % 1024 = k := ⟨_, rfl⟩
  have hx1 : x < 1024 := by omega
  have hxn : ((nx : Int) % 1024) = (x : Int) := by omega
  obtain ⟨y, hy⟩ : ∃ k, ny % 1024 = k := ⟨_, rfl⟩
  have hy1 : y < 1024 := by omega
  have hyn : ((ny : Int) % 1024) = (y : Int) := by omega
  have HA := Lib.hid ha
  have HB := Lib.hid hb
  clear ha hb hx hy
  go_enter Try.func6, Try.ntmps6
  go_wp2_with fail
  refine (awake8_calls _).mono ?_
  rintro e w1 ⟨rfl, hc1⟩
  have HC1 := Lib.hid hc1
  clear hc1
  go_wp2_with fail
  refine (New_calls _).mono ?_
  rintro e w2 ⟨rfl, hs, hc⟩
  obtain ⟨S, hS⟩ : ∃ S, w1.heap.size = S := ⟨_, rfl⟩
  rw [hS] at hs ⊢
  have hSw : w.heap.size ≤ S := by rw [← hS]; exact HC1.out.size
  have hrow : ∀ x ∈ [S], x ∈ ([] : List Nat) ∨ w.heap.size ≤ x := by intro x hx; simp at hx; subst hx; exact .inr hSw
  have HRow := Lib.hid hrow
  have HS := Lib.hid hs
  have HC2 := Lib.hid (HC1.out.then hc)
  clear hs hc HC1 hS hrow
  simp only []
  go_wp2_with fail
  refine (full_calls a ua HA.out _).mono ?_
  rintro e w3 ⟨v, rfl, hv, hc⟩
  have HW := Lib.hid (Write_calls S x _ v _ w3 (HS.out.chg hc (by simp)) hv.isB)
  have HC3 := Lib.hid (HC2.out.then hc)
  clear hv hc HC2 HS
  simp only []
  go_wp2_with fail
  refine HW.out.mono ?_
  rintro e w4 ⟨rfl, hs, hc⟩
  rw [write_new x hx1 _ List.length_replicate] at hs ⊢
  have HS4 := Lib.hid hs
  have HC4 := Lib.hid (HC3.out.trans hc HRow.out)
  clear hs hc HC3 HW
  simp only []
  go_wp2_with fail
  refine (Arm_calls S 0 part _ _ HS4.out).mono ?_
  rintro e w5 ⟨rfl, hs, hc⟩
  have HS5 := Lib.hid hs
  have HC5 := Lib.hid (HC4.out.trans hc HRow.out)
  clear hs hc HC4 HS4
  simp only []
  go_wp2_with fail
  refine (full_calls b ub HB.out _).mono ?_
  rintro e w6 ⟨v6, rfl, hv, hc⟩
  have HW := Lib.hid (Write_calls S y _ v6 _ w6 (HS5.out.chg hc (by simp)) hv.isB)
  have HC6 := Lib.hid (HC5.out.then hc)
  clear hv hc HC5 HS5
  simp only []
  go_wp2_with fail
  refine HW.out.mono ?_
  rintro e w7 ⟨rfl, hs, hc⟩
  rw [apart1 part y hy1 _ _ List.length_replicate] at hs ⊢
  have HS7 := Lib.hid hs
  have HC7 := Lib.hid (HC6.out.trans hc HRow.out)
  clear hs hc HC6 HW
  simp only []
  go_wp2_with fail
  refine (Down_calls S _ _ HS7.out).mono ?_
  rintro e w8 ⟨rfl, rfl⟩
  simp only []
  go_wp2_with fail
  refine (full_calls b ub HB.out _).mono ?_
  rintro e w8 ⟨v8, rfl, hv, hc⟩
  have HW := Lib.hid (Write_calls S x _ v8 _ w8 (HS7.out.chg hc (by simp)) hv.isB)
  have HC8 := Lib.hid (HC7.out.then hc)
  clear hv hc HC7 HS7
  simp only []
  go_wp2_with fail
  refine HW.out.mono ?_
  rintro e w9 ⟨rfl, hs, hc⟩
  rw [apart2 _ rfl] at hs ⊢
  have HS9 := Lib.hid hs
  have HC9 := Lib.hid (HC8.out.trans hc HRow.out)
  clear hs hc HC8 HW
  simp only []
  go_wp2_with fail
  refine (Power_calls S _ _ HS9.out).mono ?_
  rintro e w11 ⟨rfl, hs, hc⟩
  obtain ⟨m, hm⟩ : ∃ m, m = (max 0 (min part 64)).toNat := ⟨_, rfl⟩
  have hm64 : m ≤ 64 := by omega
  obtain ⟨mn, hmn⟩ : ∃ mn, (if 64 < part then (64 : Int) else part) = mn := ⟨_, rfl⟩
  have hmm : (if 0 < mn then mn else 0) = (m : Int) := by
    rw [← hmn]
    by_cases h1 : 64 < part
    · rw [if_pos h1, if_pos (by omega)]; omega
    · rw [if_neg h1]
      by_cases h2 : 0 < part
      · rw [if_pos h2]; omega
      · rw [if_neg h2]; omega
  rw [← hm] at hs
  have HBy := Lib.hid (Bytes_calls S _ w11 hs)
  have HC11 := Lib.hid (HC9.out.trans hc HRow.out)
  have hlen := hs.1
  clear hs hc HC9 HS9 hm
  simp only []
  go_wp2_with fail
  refine HBy.out.mono ?_
  rintro e w12 ⟨z, rfl, hz, hc⟩
  obtain ⟨L, hL⟩ : ∃ L, L = patch (patch St.new.bytes (x * 64) (List.replicate 64 ua)) (y * 64) ((List.replicate 64 ub).take m) := ⟨_, rfl⟩
  rw [← hL] at hz hlen
  obtain ⟨g, cap, hze, hg, hcap, _⟩ := hz.at (by intro e; rw [e] at hlen; simp at hlen)
  rw [hlen] at hze hcap
  subst hze
  have hget : ∀ p, p < 65536 → L.getD p 0 = if p / 64 = y ∧ p % 64 < m then ub else if p / 64 = x then ua else 0 := by
    intro p hp; rw [hL]; exact apart_bytes x y m hx1 hy1 hm64 ua ub p hp
  have HG := Lib.hid hget
  have HZ := Lib.hid hz
  have HL := Lib.hid hlen
  have HC12 := Lib.hid (HC11.out.then hc)
  clear hL hz hlen hget hc HC11 HBy
  simp only []
  go_wp2
  clear hmm hmn
  go_loop [68] (fun i => ∃ k : Nat, k ≤ 65536 ∧ i = .int .i64 k) (fun i => 65536 - (intOf i).toNat)
  case atStart => exact ⟨0, by omega, rfl⟩
  case round =>
    obtain ⟨k, hk, rfl⟩ := hrel
    by_cases hlt : k < 65536
    · have hki : (k : Int) < 65536 := by omega
      obtain ⟨hcell, _⟩ := HZ.out.cell k (by rw [HL.out]; exact hlt)
      rw [HG.out k hlt] at hcell
      obtain ⟨q, hq⟩ : ∃ q, k / 64 = q := ⟨_, rfl⟩
      obtain ⟨r, hr⟩ : ∃ r, k % 64 = r := ⟨_, rfl⟩
      rw [hq, hr] at hcell
      have hq2 : (k : Int) / 64 = (q : Int) := by omega
      have hr2 : (k : Int) % 64 = (r : Int) := by omega
      clear hq hr
      by_cases c1 : q = x
      · by_cases c2 : q = y
        · by_cases c3 : r < m
          · rw [if_pos ⟨c2, c3⟩] at hcell
            have b1 : ((q : Int) == (x : Int)) = true := by rw [c1]; simp
            have b2 : ((q : Int) == (y : Int)) = true := by rw [c2]; simp
            have b3 : decide (r < m) = true := by simp; omega
            have hne : ((ub.toNat : Int) != b) = false := by rw [HB.out]; simp
            clear c1 c2 c3
            go_wp2
            go_round
            case rel => exact ⟨k + 1, by omega, by go_num⟩
            case measure => simp [intOf]; omega
          · rw [if_neg (fun h => c3 h.2), if_pos c1] at hcell
            have b1 : ((q : Int) == (x : Int)) = true := by rw [c1]; simp
            have b2 : ((q : Int) == (y : Int)) = true := by rw [c2]; simp
            have b3 : decide (r < m) = false := by simp; omega
            have hne : ((ua.toNat : Int) != a) = false := by rw [HA.out]; simp
            clear c1 c2 c3
            go_wp2
            go_round
            case rel => exact ⟨k + 1, by omega, by go_num⟩
            case measure => simp [intOf]; omega
        · rw [if_neg (fun h => c2 h.1), if_pos c1] at hcell
          have b1 : ((q : Int) == (x : Int)) = true := by rw [c1]; simp
          have b2 : ((q : Int) == (y : Int)) = false := by rw [beq_eq_false_iff_ne]; omega
          have hne : ((ua.toNat : Int) != a) = false := by rw [HA.out]; simp
          clear c1 c2
          go_wp2
          go_round
          case rel => exact ⟨k + 1, by omega, by go_num⟩
          case measure => simp [intOf]; omega
      · by_cases c2 : q = y
        · by_cases c3 : r < m
          · rw [if_pos ⟨c2, c3⟩] at hcell
            have b1 : ((q : Int) == (x : Int)) = false := by rw [beq_eq_false_iff_ne]; omega
            have b2 : ((q : Int) == (y : Int)) = true := by rw [c2]; simp
            have b3 : decide (r < m) = true := by simp; omega
            have hne : ((ub.toNat : Int) != b) = false := by rw [HB.out]; simp
            clear c1 c2 c3
            go_wp2
            go_round
            case rel => exact ⟨k + 1, by omega, by go_num⟩
            case measure => simp [intOf]; omega
          · rw [if_neg (fun h => c3 h.2), if_neg c1] at hcell
            have b1 : ((q : Int) == (x : Int)) = false := by rw [beq_eq_false_iff_ne]; omega
            have b2 : ((q : Int) == (y : Int)) = true := by rw [c2]; simp
            have b3 : decide (r < m) = false := by simp; omega
            clear c1 c2 c3
            go_wp2
            go_round
            case rel => exact ⟨k + 1, by omega, by go_num⟩
            case measure => simp [intOf]; omega
        · rw [if_neg (fun h => c2 h.1), if_neg c1] at hcell
          have b1 : ((q : Int) == (x : Int)) = false := by rw [beq_eq_false_iff_ne]; omega
          have b2 : ((q : Int) == (y : Int)) = false := by rw [beq_eq_false_iff_ne]; omega
          clear c1 c2
          go_wp2
          go_round
          case rel => exact ⟨k + 1, by omega, by go_num⟩
          case measure => simp [intOf]; omega
    · have hk : k = 65536 := by omega
      subst hk
      go_wp2
      go_ret
      exact ⟨rfl, HC12.out⟩
end Go.Proofs.Ytgmgmjljjbcgjaa

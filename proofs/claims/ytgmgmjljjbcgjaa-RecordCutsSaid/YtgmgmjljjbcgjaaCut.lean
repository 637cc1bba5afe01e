/- The record package: Blocks, Cut. -/
import Derived.Test.YtgmgmjljjbcgjaaRec
namespace Go.Proofs.Ytgmgmjljjbcgjaa
open Go Go.RowKit NSX

set_option maxHeartbeats 400000 in
theorem Blocks_no (n : Int) (w : World) (h : n < 0 ∨ 32768 < n) : Calls Try.prog 64 #[.int .i64 n] w fun e w' => e = .returned (.int .i64 0) ∧ w = w' := by
  by_cases h0 : n < 0
  · clear h
    go_enter Try.func64, Try.ntmps64
    go_wp2
    go_ret
    exact ⟨rfl, rfl⟩
  · have h1 : 32768 < n := by omega
    clear h
    go_enter Try.func64, Try.ntmps64
    go_wp2
    go_ret
    exact ⟨rfl, rfl⟩
set_option maxHeartbeats 400000 in
theorem Blocks_calls (n : Nat) (w : World) (h : n ≤ 32768) : Calls Try.prog 64 #[.int .i64 n] w fun e w' => e = .returned (.int .i64 (nBlocks n : Nat)) ∧ w = w' := by
  have h1 : ¬ 32768 < (n : Int) := by omega
  have hm : (if 1 < ((n : Int) + 58 - 1) / 58 then ((n : Int) + 58 - 1) / 58 else 1) = (nBlocks n : Int) := by unfold nBlocks; split <;> omega
  go_enter Try.func64, Try.ntmps64
  go_wp2
  go_ret
  exact ⟨rfl, rfl⟩

/-- How long a slice is. -/
def vlen : Value → Nat
  | .slice _ n _ => n
  | _ => 0
theorem vlen_slice (a : Option Addr) (n c : Nat) : vlen (.slice a n c) = n := rfl

theorem cutB_more (bs : List UInt8) (h : 58 < bs.length) : cutB bs = blockOf (bs.take 58) false ++ cutB (bs.drop 58) := by
  unfold cutB
  rw [cutL, dif_pos h]; rfl
theorem cutB_last (bs : List UInt8) (h : ¬ 58 < bs.length) : cutB bs = blockOf bs true := by
  unfold cutB
  rw [cutL, dif_neg h]; simp
theorem cutB_length (bs : List UInt8) : (cutB bs).length = 64 * nBlocks bs.length := by
  unfold cutB
  have h := cutL_each bs
  have hl := cutL_length bs
  have : ∀ l : List (List UInt8), (∀ c ∈ l, c.length = 64) → l.flatten.length = 64 * l.length := by
    intro l
    induction l with
    | nil => intro _; rfl
    | cons c l ih =>
      intro hc
      rw [List.flatten_cons, List.length_append, ih (fun x hx => hc x (by simp [hx])), hc c (by simp), List.length_cons]
      omega
  rw [this _ h, hl]

set_option maxRecDepth 100000 in
set_option maxHeartbeats 800000 in
theorem Cut_long (T : TypeId) (v : Value) (bs : List UInt8) (w : World) (h : IsB w T v bs) (hl : 32768 < bs.length) :
    Calls Try.prog 62 #[v] w fun e w' => e = .returned (.tuple #[.slice none 0 0, .int .i64 4]) ∧ w = w' := by
  obtain ⟨ao, cap, rfl, -, -, -, -⟩ := h.cells
  have hl2 : 32768 < (bs.length : Int) := by omega
  clear h
  go_enter Try.func62, Try.ntmps62
  go_wp2
  go_ret2
  exact ⟨rfl, rfl⟩

set_option maxRecDepth 100000 in
set_option maxHeartbeats 800000 in
theorem Cut_calls (T : TypeId) (v : Value) (bs : List UInt8) (w : World) (h : IsB w T v bs) (hl : bs.length ≤ 32768) :
    Calls Try.prog 62 #[v] w fun e w' => ∃ v', e = .returned (.tuple #[v', .int .i64 0]) ∧ OwnB w' w.heap.size v' (cutB bs) ∧ Chg [] w w' := by
  obtain ⟨ao, cap, rfl, -, -, -, -⟩ := h.cells
  have hl2 : ¬ 32768 < (bs.length : Int) := by omega
  have HB := Lib.hid h
  obtain ⟨B, hB⟩ : ∃ B, w.heap.size = B := ⟨_, rfl⟩
  have HBs := Lib.hid hB
  rw [hB]
  clear h hB
  go_enter Try.func62, Try.ntmps62
  go_wp2
  go_loopw [0, 4] (fun b o wr => ∃ rest done, IsB w T b rest ∧ OwnB wr B o done ∧ done ++ cutB rest = cutB bs ∧ rest.length ≤ bs.length ∧ Chg [] w wr) (fun b _ _ => vlen b)
  case atStart => exact ⟨bs, [], HB.out, by rw [← HBs.out]; exact OwnB.nil w _, rfl, Nat.le_refl _, Chg.refl _ _⟩
  case round =>
    obtain ⟨rest, done, hr, ho, hd, hle, hc⟩ := hrel
    obtain ⟨ro, rcap, rfl, hrc, hrm, -, -⟩ := hr.cells
    have hlen := congrArg List.length hd
    rw [List.length_append, cutB_length, cutB_length] at hlen
    have hnb : nBlocks bs.length ≤ 600 := by unfold nBlocks; omega
    by_cases hlt : 58 < rest.length
    · have hi2 : 58 < (rest.length : Int) := by omega
      have ht := hr.take 58 (by omega)
      have hdr := hr.drop 58 (by omega)
      rw [if_neg (by omega)] at hdr
      have HT := Lib.hid (ht.then hc)
      have HD := Lib.hid hdr
      have HO := Lib.hid ho
      have HC := Lib.hid hc
      have HE := Lib.hid hd
      clear ht hdr ho hc hd hr
      go_wp2_with fail
      refine (block_calls T _ _ false _ HT.out (by simp; omega)).mono ?_
      rintro e w2 ⟨q, rfl, hq, hc2⟩
      have HQ := Lib.hid (hq.mono HC.out.size)
      have HC2 := Lib.hid (HC.out.then hc2)
      have HO2 := Lib.hid (HO.out.then hc2)
      clear hq hc2
      go_wp2_with (at_builtin; refine wpList_bappend rfl (.tmp 11) (.tmp 14) rfl B _ _ rfl HO2.out 5 _ _ rfl HQ.out.isB (by rw [blockOf_length _ _ (by simp; omega)]; omega) (by rw [← HBs.out]; exact HC2.out.size) ?_; intro v5 w5 hown5 hch5 hwh5)
      have HC5 := Lib.hid (HC2.out.trans hch5 (HO2.out.rows (by rw [HBs.out]; exact Nat.le_refl _)))
      have HO5 := Lib.hid hown5
      clear hown5 hch5 hwh5
      go_wp2
      go_roundw
      case rel =>
        refine ⟨rest.drop 58, _, HD.out, HO5.out, ?_, by rw [List.length_drop]; omega, HC5.out⟩
        rw [List.append_assoc, ← cutB_more _ hlt]
        exact HE.out
      case measure => rw [vlen_slice, vlen_slice]; omega
    · have hi2 : ¬ 58 < (rest.length : Int) := by omega
      have HR := Lib.hid (hr.then hc)
      have HO := Lib.hid ho
      have HC := Lib.hid hc
      have HE := Lib.hid hd
      clear ho hc hd hr
      go_wp2_with fail
      refine (block_calls T _ _ true _ HR.out (by omega)).mono ?_
      rintro e w2 ⟨q, rfl, hq, hc2⟩
      have HQ := Lib.hid (hq.mono HC.out.size)
      have HC2 := Lib.hid (HC.out.then hc2)
      have HO2 := Lib.hid (HO.out.then hc2)
      clear hq hc2
      go_wp2_with (at_builtin; refine wpList_bappend rfl (.tmp 18) (.tmp 20) rfl B _ _ rfl HO2.out 5 _ _ rfl HQ.out.isB (by rw [blockOf_length _ _ (by omega)]; omega) (by rw [← HBs.out]; exact HC2.out.size) ?_; intro v5 w5 hown5 hch5 hwh5)
      have HC5 := Lib.hid (HC2.out.trans hch5 (HO2.out.rows (by rw [HBs.out]; exact Nat.le_refl _)))
      have HO5 := Lib.hid hown5
      clear hown5 hch5 hwh5
      go_ret2
      refine ⟨_, rfl, ?_, HC5.out⟩
      rw [← HE.out, cutB_last _ hlt]
      exact HO5.out
end Go.Proofs.Ytgmgmjljjbcgjaa

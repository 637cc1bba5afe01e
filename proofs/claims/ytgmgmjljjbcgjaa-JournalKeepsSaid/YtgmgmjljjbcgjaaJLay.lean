/- The journal package: lay. -/
import Derived.Test.YtgmgmjljjbcgjaaChunk
import Derived.Test.YtgmgmjljjbcgjaaJPack
import Derived.Test.YtgmgmjljjbcgjaaCut
namespace Go.Proofs.Ytgmgmjljjbcgjaa
open Go Go.RowKit Go.Shelf NSX
attribute [local go_sem] Oper.semAt_some

theorem lay_cons (st : St) (i : Nat) (d : List UInt8) (cs : List (List UInt8)) : st.lay i (d :: cs) = if (st.write (i : Int) d).2 ≠ 0 then st.write (i : Int) d else (st.write (i : Int) d).1.lay (i + 1) cs := rfl
theorem lay_snoc : ∀ (cs : List (List UInt8)) (st : St) (i : Nat) (c : List UInt8), st.lay i (cs ++ [c]) = if (st.lay i cs).2 ≠ 0 then st.lay i cs else (st.lay i cs).1.write (i + cs.length : Nat) c
  | [], st, i, c => by
    refine Eq.trans ?_ (if_neg (by simp [St.lay])).symm
    rw [List.nil_append, lay_cons]
    show _ = st.write (i : Int) c
    by_cases h : (st.write (i : Int) c).2 = 0
    · rw [if_neg (by simp [h])]
      exact Prod.ext rfl h.symm
    · rw [if_pos h]
  | d :: cs, st, i, c => by
    rw [List.cons_append, lay_cons, lay_cons]
    by_cases h : (st.write (i : Int) d).2 = 0
    · have hn : ¬ (st.write (i : Int) d).2 ≠ 0 := by simp [h]
      simp only [if_neg hn]
      rw [lay_snoc cs _ (i + 1) c, List.length_cons]
      have e : i + 1 + cs.length = i + (cs.length + 1) := by omega
      rw [e]
    · have hn : (st.write (i : Int) d).2 ≠ 0 := h
      simp only [if_pos hn]
theorem lay_stop : ∀ (cs ds : List (List UInt8)) (st : St) (i : Nat), (st.lay i cs).2 ≠ 0 → st.lay i (cs ++ ds) = st.lay i cs
  | [], ds, st, i, h => by exact absurd rfl h
  | d :: cs, ds, st, i, h => by
    rw [List.cons_append, lay_cons, lay_cons]
    rw [lay_cons] at h
    by_cases h0 : (st.write (i : Int) d).2 = 0
    · have hn : ¬ (st.write (i : Int) d).2 ≠ 0 := by simp [h0]
      rw [if_neg hn] at h
      simp only [if_neg hn]
      exact lay_stop cs ds _ (i + 1) h
    · have hn : (st.write (i : Int) d).2 ≠ 0 := h0
      simp only [if_pos hn]

/-- The chunks of bytes, by number. -/
def chunkNo (b : List UInt8) (m x : Nat) : List UInt8 := (b.drop (64 * min x (m - 1))).take 64
theorem chunkNo_cut (l : List UInt8) (k : Nat) (hk : k ≤ nBlocks l.length) : (List.range k).map (chunkNo (cutB l) (nBlocks l.length)) = (cutL l).take k := by
  have hcl := cutL_length l
  apply List.ext_getElem?
  intro i
  rw [List.getElem?_map, List.getElem?_take]
  by_cases hi : i < k
  · have hL : i < (cutL l).length := by omega
    rw [List.getElem?_range hi, if_pos hi, Option.map_some, List.getElem?_eq_getElem hL]
    congr 1
    unfold chunkNo
    rw [show min i (nBlocks l.length - 1) = i from by omega]
    have hc : chunks (cutB l) = cutL l := by
      unfold cutB
      have hc := NSX.chunks_flatten (cutL l) [] (cutL_each l)
      have h0 : chunks [] = [] := by rw [chunks, dif_neg (by simp)]
      rw [List.append_nil, h0, List.append_nil] at hc
      exact hc
    have hlen : 64 * (i + 1) ≤ (cutB l).length := by rw [cutB_length]; omega
    have hn := chunks_next i (cutB l) hlen
    rw [hc, List.drop_eq_getElem_cons hL] at hn
    simp only [List.cons.injEq] at hn
    exact hn.1.symm
  · rw [if_neg hi, List.getElem?_eq_none (by rw [List.length_range]; omega)]
    rfl

theorem Chg.others {S : Nat} {w w' : World} {st : St} (h : Chg [S] w w') (hs : StoreAt w S st) : KeepsOthers w w' :=
  ⟨h.size, fun k o hk ho => (h.block k (heap_lt hk) (fun hm => by
    simp at hm
    subst hm
    rw [hs.2] at hk
    simp only [Option.some.injEq] at hk
    subst hk
    cases ho)).trans hk⟩
theorem StoreAt.kept {A B : World} {row : Option Nat} {S : Nat} {st : St} (h : StoreAt A S st) (hg : A.grownBy B row) (hr : ∀ r, row = some r → ∃ o : Obj, A.heap[r]? = some o ∧ o.isCells = false) : StoreAt B S st :=
  ⟨h.1, (grownBy_keeps_cells hg hr h.2 rfl).trans h.2⟩
theorem OwnB.kept {A B : World} {row : Option Nat} {base : Nat} {v : Value} {bs : List UInt8} (h : OwnB A base v bs) (hg : A.grownBy B row) (hr : ∀ r, row = some r → ∃ o : Obj, A.heap[r]? = some o ∧ o.isCells = false) : OwnB B base v bs := by
  refine ⟨h.1, ?_⟩
  rcases h.2 with h2 | ⟨g, cap, cur, hv, hb, hh, rest⟩
  · exact .inl h2
  · exact .inr ⟨g, cap, cur, hv, hb, (grownBy_keeps_cells hg hr hh rfl).trans hh, rest⟩

theorem Chg.frozen {r : List Nat} {w w' : World} (h : Chg r w w') {a : Addr} {v : Value} (hv : w.cell? a = some v) (hn : a.block ∉ r) : w'.frozen? a = w.frozen? a :=
  World.frozen?_of_block (h.block a.block (World.block_lt_of_cell? w a hv) hn)
theorem box_new (W : World) (v : Value) (t : TypeId) : (W.alloc (.cells #[v] t)).cell? ⟨W.heap.size, 0, none⟩ = some v ∧ (W.alloc (.cells #[v] t)).frozen? ⟨W.heap.size, 0, none⟩ = false :=
  ⟨cell_of_heap (heap_alloc_new _ _) rfl, frozen_of_heap (heap_alloc_new _ _)⟩
theorem box_cell {W : World} {a : Addr} {v : Value} (o : Obj) (h : W.cell? a = some v) : (W.alloc o).cell? a = some v := ((Chg.refl [] W).alloc o).cell h (by simp)
theorem box_frozen {W : World} {a : Addr} {v : Value} (o : Obj) (h : W.cell? a = some v) (hf : W.frozen? a = false) : (W.alloc o).frozen? a = false := (((Chg.refl [] W).alloc o).frozen h (by simp)).trans hf
/-- A piece of a slice, with its own length for capacity. -/
theorem OwnB.sub {w : World} {base g n cap : Nat} {bs : List UInt8} (h : OwnB w base (.slice (some ⟨g, 0, none⟩) n cap) bs) (k m : Nat) (hk : k + m ≤ bs.length) : IsB w 5 (.slice (some ⟨g, k, none⟩) m m) ((bs.drop k).take m) := by
  have hlen : ((bs.drop k).take m).length = m := by rw [List.length_take, List.length_drop]; omega
  obtain ⟨h1, h2⟩ := h
  rcases h2 with ⟨h', _⟩ | ⟨g', cap', cur, h', _, hg, hnc, hcm, _, htake⟩
  · simp at h'
  · simp only [Value.slice.injEq, Option.some.injEq, Addr.mk.injEq, and_true] at h'
    obtain ⟨rfl, rfl, rfl⟩ := h'
    refine ⟨_, m, by rw [hlen], by omega, by omega, (fun e => by cases e), fun _ => ⟨g, k, cur, _, rfl, hg, fun i c hi => ?_⟩⟩
    have hlt : i < m := by have := (List.getElem?_eq_some_iff.1 hi).1; omega
    rw [List.getElem?_take, if_pos hlt, List.getElem?_drop] at hi
    have h3 : (bs.map u8)[k + i]? = some (u8 c) := by rw [List.getElem?_map, hi]; rfl
    rw [← htake, List.getElem?_take, if_pos (by omega)] at h3
    simpa using h3

set_option maxRecDepth 100000 in
set_option maxHeartbeats 2000000 in
theorem lay_calls (S frm : Nat) (st : St) (v : Value) (body : List UInt8) (w : World) (hs : StoreAt w S st) (hd : st.down = false) (hb : IsB w 5 v body) (hl : body.length ≤ 32768) (hf : frm + nBlocks body.length ≤ 1024) :
    Calls Try.prog 77 #[.pointer (some ⟨S, 0, none⟩), .int .i64 frm, v] w fun e w' => e = .returned (.int .i64 (st.lay frm (cutL body)).2) ∧ StoreAt w' S (st.lay frm (cutL body)).1 ∧ Chg [S] w w' := by
  have hSw := hs.lt
  obtain ⟨ao, cap, rfl, -, -, -, -⟩ := hb.cells
  obtain ⟨W1, hW1⟩ : ∃ W1, ((w.alloc (.cells #[.pointer (some ⟨S, 0, none⟩)] 24)).alloc (.cells #[.int .i64 frm] 3)).alloc (.cells #[.int .i64 0] 28) = W1 := ⟨_, rfl⟩
  have hc1 : Chg [] w W1 := by rw [← hW1]; exact (((Chg.refl [] w).alloc _).alloc _).alloc _
  have hcut := Cut_calls 5 _ _ W1 (hb.then hc1) hl
  have hbl := cutB_length body
  refine (callsIn_wide (n := 3)).1 ?_
  refine callsIn_of_wp_marks Try.func77 rfl trivial ?_ rfl
  simp only [Try.ntmps77, List.size_toArray, List.length_cons, List.length_nil, Nat.reduceAdd, Nat.reduceSub, Array.replicate_succ, Array.replicate_zero, List.push_toArray, List.append_toArray, List.nil_append, List.cons_append]
  gi_wp2_with fail
  refine ⟨trivial, (callsIn_wide.2 hcut).mono ?_⟩
  rintro e w2 ⟨cv, rfl, hown, hc2⟩
  obtain ⟨g, ccap, rfl, hg, hcc, -⟩ := hown.at (by intro h; rw [h] at hbl; simp at hbl; have := nBlocks_pos body.length; omega)
  rw [hbl] at hcc hown ⊢
  simp only []
  obtain ⟨N, hN⟩ : ∃ N, nBlocks body.length = N := ⟨_, rfl⟩
  have hN1 : 1 ≤ N := by rw [← hN]; exact nBlocks_pos _
  have hN2 : N ≤ 1000 := by rw [← hN]; unfold nBlocks; omega
  rw [hN] at hcc hf hown hbl ⊢
  obtain ⟨W3, hW3⟩ : ∃ W3, (w2.alloc (.cells #[.slice (some ⟨g, 0, none⟩) (64 * N) ccap] 26)).alloc (.cells #[.int .i64 64] 3) = W3 := ⟨_, rfl⟩
  have hCh := Chunk_in Fence.wide 2 trivial rfl (some ⟨g, 0, none⟩) (64 * N) ccap w2
  rw [hW3] at hCh
  have hc3 : Chg [] w2 W3 := by rw [← hW3]; exact ((Chg.refl [] w2).alloc _).alloc _
  have hsz1 : W1.heap.size = w.heap.size + 1 + 1 + 1 := by rw [← hW1]; simp
  have hsz3 : W3.heap.size = w2.heap.size + 1 + 1 := by rw [← hW3]; simp
  have hsz2 := hc2.size
  -- the boxes
  have c0 := box_new w (.pointer (some ⟨S, 0, none⟩)) 24
  have c1 := box_new (w.alloc (.cells #[.pointer (some ⟨S, 0, none⟩)] 24)) (.int .i64 frm) 3
  have c2 := box_new ((w.alloc (.cells #[.pointer (some ⟨S, 0, none⟩)] 24)).alloc (.cells #[.int .i64 frm] 3)) (.int .i64 0) 28
  have d0 := box_new w2 (.slice (some ⟨g, 0, none⟩) (64 * N) ccap) 26
  have d1 := box_new (w2.alloc (.cells #[.slice (some ⟨g, 0, none⟩) (64 * N) ccap] 26)) (.int .i64 64) 3
  simp only [World.size_alloc] at c1 c2 d1
  have k3 : W1.cell? ⟨w.heap.size, 0, none⟩ = some (.pointer (some ⟨S, 0, none⟩)) := by rw [← hW1]; exact box_cell _ (box_cell _ c0.1)
  have k4 : W1.cell? ⟨w.heap.size + 1, 0, none⟩ = some (.int .i64 frm) := by rw [← hW1]; exact box_cell _ c1.1
  have k4f : W1.frozen? ⟨w.heap.size + 1, 0, none⟩ = false := by rw [← hW1]; exact box_frozen _ c1.1 c1.2
  have k6 : W1.cell? ⟨w.heap.size + 1 + 1, 0, none⟩ = some (.int .i64 0) := by rw [← hW1]; exact c2.1
  have k6f : W1.frozen? ⟨w.heap.size + 1 + 1, 0, none⟩ = false := by rw [← hW1]; exact c2.2
  have ks : W3.cell? ⟨w2.heap.size, 0, none⟩ = some (.slice (some ⟨g, 0, none⟩) (64 * N) ccap) := by rw [← hW3]; exact box_cell _ d0.1
  have kn : W3.cell? ⟨w2.heap.size + 1, 0, none⟩ = some (.int .i64 64) := by rw [← hW3]; exact d1.1
  have hc13 := hc2.then hc3
  have m3 := hc13.cell k3 (by simp)
  have m4 := hc13.cell k4 (by simp)
  have m4f := (hc13.frozen k4 (by simp)).trans k4f
  have m6 := hc13.cell k6 (by simp)
  have m6f := (hc13.frozen k6 (by simp)).trans k6f
  have hown3 := hown.then hc3
  have hst3 := (hs.chg (hc1.then hc13) (by simp))
  have hcw3 := hc1.then hc13
  clear c0 c1 c2 d0 d1 k3 k4 k4f k6 k6f hown hc2 hc3 hc1 hc13 hcut hs hb hW1 hW3
  gi_wp2_with (refine ⟨trivial, ?_⟩; gi_at_call 86; refine hCh.mono ?_; rintro e w' ⟨rfl, rfl⟩)
  clear hCh
  obtain ⟨ch, hch⟩ : ∃ ch, chunkNo (cutB body) N = ch := ⟨_, rfl⟩
  have hch64 : ∀ x, (ch x).length = 64 := fun x => by
    rw [← hch]; unfold chunkNo
    rw [List.length_take, List.length_drop, hbl]; omega
  refine wpIn_rangeFunc_ownF rfl (by omega) (gf := 92) (lb := #[.pointer (some ⟨w2.heap.size, 0, none⟩), .pointer (some ⟨w2.heap.size + 1, 0, none⟩)]) rfl trivial (enters_of Try.func92 (by kernel_rfl) rfl)
    (Chunk_stops Fence.wide _ trivial rfl (by omega) w2.heap.size (w2.heap.size + 1) g N ccap hN2 hcc w' (by omega) (by omega) ks kn)
    (fun h k => ⟨k.1.trans h.1, k.2.trans h.2⟩)
    (fun W l o o' hl _ _ _ => ⟨World.cell?_of_block (World.putObj_heap_other (by simp; omega)), World.cell?_of_block (World.putObj_heap_other (by simp; omega))⟩)
    (Below.refl _ _) (fun _ => rfl)
    (fun pre W => ((st.lay frm (pre.map ch)).2 = 0 ∧ (st.lay frm (pre.map ch)).1.down = false ∧ StoreAt W S (st.lay frm (pre.map ch)).1 ∧ W.cell? ⟨w.heap.size, 0, none⟩ = some (.pointer (some ⟨S, 0, none⟩)) ∧ W.cell? ⟨w.heap.size + 1, 0, none⟩ = some (.int .i64 ((frm : Int) + (pre.length : Int))) ∧ W.frozen? ⟨w.heap.size + 1, 0, none⟩ = false ∧
      W.cell? ⟨w.heap.size + 1 + 1, 0, none⟩ = some (.int .i64 0) ∧ W.frozen? ⟨w.heap.size + 1 + 1, 0, none⟩ = false ∧ OwnB W W1.heap.size (.slice (some ⟨g, 0, none⟩) (64 * N) ccap) (cutB body)) ∧ (Chg [S] w W ∧ w'.heap.size ≤ W.heap.size))
    (fun c pre W => (c = .ret ∧ (st.lay frm (pre.map ch)).2 = 13 ∧ StoreAt W S (st.lay frm (pre.map ch)).1 ∧ W.cell? ⟨w.heap.size + 1 + 1, 0, none⟩ = some (.int .i64 13)) ∧ (Chg [S] w W ∧ w'.heap.size ≤ W.heap.size))
    (OwnFrom.and (Own.from (fun s A B row hs hg hr => ⟨hs.1, hs.2.1, hs.2.2.1.kept hg hr, cell_kept hs.2.2.2.1 hg hr, cell_kept hs.2.2.2.2.1 hg hr, (frozen_kept hs.2.2.2.2.1 hg hr).trans hs.2.2.2.2.2.1, cell_kept hs.2.2.2.2.2.2.1 hg hr, (frozen_kept hs.2.2.2.2.2.2.1 hg hr).trans hs.2.2.2.2.2.2.2.1, hs.2.2.2.2.2.2.2.2.kept hg hr⟩) _)
      (fun s A B row hs hg hr => ⟨hs.1.grown hg (fun k e => .inr (by have := (hr k e).1; omega)), Nat.le_trans hs.2 hg.size⟩))
    (fun c => OwnFrom.and (Own.from (fun s A B row hs hg hr => ⟨hs.1, hs.2.1, hs.2.2.1.kept hg hr, cell_kept hs.2.2.2 hg hr⟩) _)
      (fun s A B row hs hg hr => ⟨hs.1.grown hg (fun k e => .inr (by have := (hr k e).1; omega)), Nat.le_trans hs.2 hg.size⟩))
    ⟨⟨rfl, hd, hst3, m3, by simpa using m4, m4f, m6, m6f, hown3⟩, hcw3.mono (by simp), Nat.le_refl _⟩
    (fun x => { tmps := #[.pointer (some ⟨S, 0, none⟩), .int .i64 frm, .slice ao body.length cap, .pointer (some ⟨w.heap.size, 0, none⟩), .pointer (some ⟨w.heap.size + 1, 0, none⟩), undef, .pointer (some ⟨w.heap.size + 1 + 1, 0, none⟩),
      .slice (some ⟨g, 0, none⟩) (64 * N) ccap, .int .i64 0, .slice (some ⟨g, 64 * min x (N - 1), none⟩) 64 64, undef, .tuple #[.slice (some ⟨g, 0, none⟩) (64 * N) ccap, .int .i64 0], .slice ao body.length cap, .tuple #[.slice (some ⟨g, 0, none⟩) (64 * N) ccap, .int .i64 0],
      .slice (some ⟨g, 0, none⟩) (64 * N) ccap, .int .i64 0, .int .i64 0, .bool false, undef, .slice (some ⟨g, 0, none⟩) (64 * N) ccap, .func (.func 92) #[] #[.pointer (some ⟨w2.heap.size, 0, none⟩), .pointer (some ⟨w2.heap.size + 1, 0, none⟩)],
      .slice (some ⟨g, 64 * min x (N - 1), none⟩) 64 64, undef, undef, undef, undef, undef, undef, undef, undef, undef], defers := [] }) ?assign ?body ?done ?stop
  case assign =>
    intro l x W K hK
    gi_wp2
    exact hK
  case body =>
    rintro l pre x W ⟨⟨h0, hdn, hst, b3, b4, f4, b6, f6, ho⟩, hc, hsz⟩ hlen
    have hib := ho.sub (64 * min x (N - 1)) 64 (by rw [hbl]; omega)
    have hcx : ((cutB body).drop (64 * min x (N - 1))).take 64 = ch x := by rw [← hch]; rfl
    rw [hcx] at hib
    have hwc := write_cases (st.lay frm (pre.map ch)).1 (frm + pre.length) (ch x) hdn hst.1 (by omega) (hch64 x)
    have hsn := lay_snoc (pre.map ch) st frm (ch x)
    rw [if_neg (by simp [h0]), List.length_map, show pre.map ch ++ [ch x] = (pre ++ [x]).map ch from by simp] at hsn
    rw [← hsn] at hwc
    have hwr := Write_calls S ((frm + pre.length : Nat) : Int) (st.lay frm (pre.map ch)).1 _ _ W hst hib
    rw [← hsn] at hwr
    rw [show ((frm + pre.length : Nat) : Int) = (frm : Int) + (pre.length : Int) from by omega] at hwr
    obtain ⟨r, hr⟩ : ∃ r, st.lay frm ((pre ++ [x]).map ch) = r := ⟨_, rfl⟩
    rw [hr] at hwc hwr
    have hlp : ((frm : Int) + (pre.length : Int) + 1) = ((frm : Int) + ((pre ++ [x]).length : Int)) := by rw [List.length_append]; simp; omega
    rcases hwc with ⟨w1, w2', w3', w4', -⟩ | ⟨w1, -, -⟩
    · rw [w1] at hwr
      have HW := Lib.hid hwr
      have HR := Lib.hid hr
      have HC := Lib.hid hc
      have HO := Lib.hid ho
      have HS := Lib.hid hst
      clear hwr hsn hib hcx hr hc ho hst
      gi_wp2_with (refine ⟨trivial, ?_⟩; gi_at_call 28; refine (CallsIn.inRound l (callsIn_wide.2 HW.out)).mono ?_; rintro e W' ⟨rfl, hs', hc'⟩; have b4' := hc'.cell b4 (by simp; omega); have b4f' := (hc'.frozen b4 (by simp; omega)).trans f4)
      have hq : Chg [w.heap.size + 1] W' (W'.setCell ⟨w.heap.size + 1, 0, none⟩ (.int .i64 ((frm : Int) + ((pre.length : Int) + 1)))) := (Chg.refl _ W').setCell (p := ⟨w.heap.size + 1, 0, none⟩) (.inl (by simp)) _
      have hsz' := hc'.size
      refine ⟨(hc'.others HS.out).trans (KeepsOthers.setCell _ _ _), ⟨?_, ?_⟩, ⟨?_, by rw [HR.out]; exact w2', by rw [HR.out]; exact hs'.other (a := ⟨w.heap.size + 1, 0, none⟩) (by simp; omega) _, hq.cell (hc'.cell b3 (by simp; omega)) (by simp), ?_, ?_, hq.cell (hc'.cell b6 (by simp; omega)) (by simp), ?_, ?_⟩, (HC.out.same hc').setCell (p := ⟨w.heap.size + 1, 0, none⟩) (.inr (by simp)) _, by simp; omega⟩
      · refine World.cell?_of_block ((hq.block _ (by simp; omega) (by simp; omega)).trans (hc'.block _ (by simp; omega) (by simp; omega)))
      · refine World.cell?_of_block ((hq.block _ (by simp; omega) (by simp; omega)).trans (hc'.block _ (by simp; omega) (by simp; omega)))
      · rw [HR.out]; exact w1
      · rw [← hlp, Int.add_assoc]
        exact World.cell?_setCell_same' _ _ _ (by rw [b4']; rfl)
      · rw [World.frozen?_setCell]; exact b4f'
      · exact (hq.frozen (hc'.cell b6 (by simp; omega)) (by simp)).trans ((hc'.frozen b6 (by simp; omega)).trans f6)
      · refine (HO.out.chg hc' (fun k hk hm => ?_)).chg hq (fun k hk hm => ?_)
        · have := (HO.out.lt k hk).1
          simp at hm
          omega
        · have := (HO.out.lt k hk).1
          simp at hm
          omega
    · rw [w1] at hwr
      have HW := Lib.hid hwr
      have HR := Lib.hid hr
      have HC := Lib.hid hc
      have HS := Lib.hid hst
      clear hwr hsn hib hcx hr hc ho hst
      gi_wp2_with (refine ⟨trivial, ?_⟩; gi_at_call 28; refine (CallsIn.inRound l (callsIn_wide.2 HW.out)).mono ?_; rintro e W' ⟨rfl, hs', hc'⟩; have b6' := hc'.cell b6 (by simp; omega); have b6f' := (hc'.frozen b6 (by simp; omega)).trans f6)
      have hsz' := hc'.size
      refine ⟨(hc'.others HS.out).trans (KeepsOthers.setCell _ _ _), ⟨rfl, ?_, by rw [HR.out]; exact hs'.other (a := ⟨w.heap.size + 1 + 1, 0, none⟩) (by simp; omega) _, ?_⟩, (HC.out.same hc').setCell (p := ⟨w.heap.size + 1 + 1, 0, none⟩) (.inr (by simp; omega)) _, by simp; omega⟩
      · rw [HR.out]; exact w1
      · exact World.cell?_setCell_same' _ _ _ (by rw [b6']; rfl)
  case done =>
    rintro D ys W hD rfl ⟨⟨h0, hdn, hst, b3, b4, f4, b6, f6, ho⟩, hc, hsz⟩ hK
    have hall := chunkNo_cut body N (by omega)
    rw [hN, hch, ← hN, ← cutL_length, List.take_length, cutL_length, hN] at hall
    rw [hall] at h0 hst
    gi_wp2
    have hK' := (KeepsOthers.setCell W ⟨w.heap.size + 1 + 1, 0, none⟩ (.int .i64 0)).same D _ hK rfl
    refine ⟨by simp, .inl ⟨_, _, rfl, run_takeDeferred hK', ?_⟩⟩
    have hc5 := cell_kept (World.cell?_setCell_same' W ⟨w.heap.size + 1 + 1, 0, none⟩ (.int .i64 0) (by rw [b6]; rfl)) (grownBy_putObj' _ D (.deferred none)) (fun r e => by cases e; exact ⟨_, hK', rfl⟩)
    refine ⟨.int .i64 0, ?_, by rw [h0], (hst.other (a := ⟨w.heap.size + 1 + 1, 0, none⟩) (by simp; omega) _).kept (grownBy_putObj' _ D (.deferred none)) (fun r e => by cases e; exact ⟨_, hK', rfl⟩), (hc.setCell (p := ⟨w.heap.size + 1 + 1, 0, none⟩) (.inr (by simp; omega)) _).grown (grownBy_putObj' _ D (.deferred none)) (fun k e => by cases e; right; have := hc.size; omega)⟩
    simp [results, Try.f77, go_sem, hc5]
  case stop =>
    rintro D c pre W hD ⟨k, hk, rfl⟩ ⟨⟨rfl, h13, hst, b6⟩, hc, hsz⟩ hK
    have hall := chunkNo_cut body k (by omega)
    rw [hN, hch] at hall
    rw [hall] at h13 hst
    have hstop := lay_stop ((cutL body).take k) ((cutL body).drop k) st frm (by rw [h13]; simp)
    rw [List.take_append_drop] at hstop
    rw [← hstop] at h13 hst
    gi_wp2
    refine ⟨by simp, .inl ⟨_, _, rfl, run_takeDeferred hK, ?_⟩⟩
    have hc5 := cell_kept b6 (grownBy_putObj' _ D (.deferred none)) (fun r e => by cases e; exact ⟨_, hK, rfl⟩)
    refine ⟨.int .i64 13, ?_, by rw [h13], hst.kept (grownBy_putObj' _ D (.deferred none)) (fun r e => by cases e; exact ⟨_, hK, rfl⟩), hc.grown (grownBy_putObj' _ D (.deferred none)) (fun k e => by cases e; right; have := hc.size; omega)⟩
    simp [results, Try.f77, go_sem, hc5]
end Go.Proofs.Ytgmgmjljjbcgjaa

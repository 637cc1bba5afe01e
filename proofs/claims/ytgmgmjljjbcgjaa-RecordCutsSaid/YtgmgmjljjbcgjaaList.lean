/- Lists of bytes that the call owns: [][]byte. -/
import Derived.Test.YtgmgmjljjbcgjaaSeal
namespace Go.Proofs.Ytgmgmjljjbcgjaa
open Go Go.RowKit NSX

theorem Try.info26p : (Try.prog.info? 26).map (fun i => (i.zero, i.size, i.bytes)) = some (some (.slice none 0 0), 1, 24) := by kernel_rfl

/-- v is the call's own list of the bodies, each the call's own; all lies in blocks from 'base' on, below 'top'. -/
def ListB (w : World) (base top : Nat) (v : Value) (bodies : List (List UInt8)) : Prop :=
  ∃ vs : List Value, w.ownsRow base 26 1 v bodies.length vs ∧ (∀ k, v.ownBlock = some k → k < top) ∧
    ∀ (i : Nat) (x : Value) (b : List UInt8), vs[i]? = some x → bodies[i]? = some b → OwnB w base x b ∧ ∀ k, x.ownBlock = some k → k < top

theorem ListB.nil (w : World) (base top : Nat) : ListB w base top (.slice none 0 0) [] :=
  ⟨[], World.ownsRow_nil w base 26 1, (fun k h => by cases h), fun i x b h => by simp at h⟩
theorem ListB.chg {w w' : World} {base top : Nat} {v : Value} {l : List (List UInt8)} {r : List Nat} (h : ListB w base top v l) (hc : Chg r w w') (hn : ∀ x ∈ r, top ≤ x) : ListB w' base top v l := by
  obtain ⟨vs, h1, h2, h3⟩ := h
  refine ⟨vs, ⟨h1.1, ?_⟩, h2, fun i x b hx hb => ⟨(h3 i x b hx hb).1.chg hc (fun k hk hm => ?_), (h3 i x b hx hb).2⟩⟩
  · rcases h1.2 with h | ⟨g, cap, cur, hv, hg, hh, rest⟩
    · exact .inl h
    · exact .inr ⟨g, cap, cur, hv, hg, hc.heap hh (fun hm => by have a := h2 g (by rw [hv]; rfl); have b := hn g hm; omega), rest⟩
  · have a := (h3 i x b hx hb).2 k hk
    have b := hn k hm
    omega
theorem ListB.mono {w : World} {base base' top top' : Nat} {v : Value} {l : List (List UInt8)} (h : ListB w base top v l) (hb : base' ≤ base) (ht : top ≤ top') : ListB w base' top' v l := by
  obtain ⟨vs, h1, h2, h3⟩ := h
  refine ⟨vs, ⟨h1.1, ?_⟩, fun k hk => Nat.lt_of_lt_of_le (h2 k hk) ht, fun i x b hx hbb => ⟨(h3 i x b hx hbb).1.mono hb, fun k hk => Nat.lt_of_lt_of_le ((h3 i x b hx hbb).2 k hk) ht⟩⟩
  rcases h1.2 with h | ⟨g, cap, cur, hv, hg, rest⟩
  · exact .inl h
  · exact .inr ⟨g, cap, cur, hv, by omega, rest⟩
theorem OwnB.slice {w : World} {base : Nat} {v : Value} {bs : List UInt8} (h : OwnB w base v bs) : ∃ a n c, v = .slice a n c := by
  obtain ⟨ao, cap, hv, _⟩ := h.isB.cells
  exact ⟨ao, _, cap, hv⟩

theorem row_type {w : World} {base e size n : Nat} {v : Value} {xs : List Value} (h : w.ownsRow base e size v n xs) {k : Nat} (hk : v.ownBlock = some k) : ∃ cur, w.heap[k]? = some (.cells cur e (0, 0)) := by
  rcases h.2 with ⟨rfl, _⟩ | ⟨g, cap, cur, rfl, _, hh, _⟩
  · cases hk
  · simp [Value.ownBlock] at hk
    subst hk
    exact ⟨cur, hh⟩

/-- 'append(out, body)'. -/
theorem run_push (w : World) (ty : TypeId) (base top : Nat) (v : Value) (l : List (List UInt8)) (h : ListB w base top v l) (body : Value) (bs : List UInt8) (hb : OwnB w base body bs) (x : Nat) (hx : w.cell? ⟨x, 0, none⟩ = some body)
    (hl : l.length ≤ 1000000) (hbase : base ≤ w.heap.size) :
    ∃ v' w', (Builtin.append_ #[81, 81] ty #[v, .slice (some ⟨x, 0, none⟩) 1 1]).run Try.prog w = .ok v' w' ∧ ListB w' base w'.heap.size v' (l ++ [bs]) ∧ Chg v.ownBlock.toList w w' := by
  obtain ⟨vs, h1, h2, h3⟩ := h
  obtain ⟨i0, hi, hz0, hz1, hz2⟩ := info_parts Try.info26p
  obtain ⟨v', w', hr, hown, hgr, -⟩ := run_append_own (P := Try.prog) w base 81 ty 26 i0 (.slice none 0 0) 1 24 (by kernel_rfl) hi hz0 hz1 hz2 rfl (by decide) v l.length vs h1 ⟨x, 0, none⟩ 1 1 [body] rfl (by
    intro j u hj
    have : j = 0 := by have := (List.getElem?_eq_some_iff.1 hj).1; simp at this; omega
    subst this
    simp at hj
    subst hj
    exact hx) (by
    intro u hu
    simp at hu
    subst hu
    obtain ⟨a, n, c, rfl⟩ := hb.slice
    rfl) (by unfold maxLen; omega) (by omega) hbase
  have hc : Chg v.ownBlock.toList w w' := (Chg.refl _ w).grown hgr (fun k hk => .inl (by rw [hk]; simp))
  have hapart : ∀ (y : Value) (b : List UInt8), OwnB w base y b → OwnB w' base y b := by
    intro y b hy
    refine hy.chg hc (fun k hk hm => ?_)
    obtain ⟨c1, e1⟩ := row_type hy hk
    obtain ⟨c2, e2⟩ := row_type h1 (k := k) (by simpa using hm)
    rw [e1] at e2
    simp at e2
  have hlen : vs.length = l.length := by have := h1.1; simpa using this
  refine ⟨v', w', hr, ⟨vs ++ [body], by rw [List.length_append]; exact hown, fun k hk => (World.ownsRow.lt hown k hk).2, fun i y b hy hbb => ?_⟩, hc⟩
  have hy2 : OwnB w' base y b := by
    by_cases hil : i < l.length
    · rw [List.getElem?_append_left (by omega)] at hy hbb
      exact hapart _ _ (h3 i y b hy hbb).1
    · rw [List.getElem?_append_right (by omega)] at hy hbb
      rw [hlen] at hy
      have hi0 : i - l.length = 0 := by have := (List.getElem?_eq_some_iff.1 hy).1; simp at this; omega
      rw [hi0] at hy hbb
      simp at hy hbb
      subst hy hbb
      exact hapart _ _ hb
  exact ⟨hy2, fun k hk => (hy2.lt k hk).2⟩

theorem wpList_push {w : World} {ops : Array Oper} {rest : List Oper} {o : Oper} {a : Act} {Q : Exit → Act → World → Prop} (hgd : o.guard = none) (s e : Operand)
    (ho : o.op = .call { callee := .builtin .append, args := #[s, e], argTypes := #[81, 81] })
    (base top : Nat) (v : Value) (l : List (List UInt8)) (hs : a.eval s = v) (hv : ListB w base top v l) (body : Value) (bs : List UInt8) (hb : OwnB w base body bs) (x : Nat) (hx : w.cell? ⟨x, 0, none⟩ = some body)
    (he : a.eval e = .slice (some ⟨x, 0, none⟩) 1 1) (hl : l.length ≤ 1000000) (hbase : base ≤ w.heap.size)
    (h : ∀ v' w', ListB w' base w'.heap.size v' (l ++ [bs]) → Chg v.ownBlock.toList w w' → wpList Try.prog ops Q rest (a.put o.dst v') w') : wpList Try.prog ops Q (o :: rest) a w := by
  refine wpList_plain hgd fun K hK => ?_
  obtain ⟨v', w', hr, h1, h2⟩ := run_push w o.type base top v l hv body bs hb x hx hl hbase
  unfold Oper.wp
  simp [execOp, ho, resolve, invoke, builtin, hs, he, hr, Result.andThen]
  exact hK _ _ (h v' w' h1 h2)
theorem ListB.lt {w : World} {base top : Nat} {v : Value} {l : List (List UInt8)} (h : ListB w base top v l) : ∀ k, v.ownBlock = some k → base ≤ k ∧ k < w.heap.size := by
  obtain ⟨vs, h1, _⟩ := h
  exact World.ownsRow.lt h1
theorem ListB.rows {w wr : World} {base top : Nat} {v : Value} {l : List (List UInt8)} {r : List Nat} (h : ListB wr base top v l) (hB : w.heap.size ≤ base) : ∀ x ∈ v.ownBlock.toList, x ∈ r ∨ w.heap.size ≤ x := by
  intro x hx
  have : v.ownBlock = some x := by simpa using hx
  exact .inr (Nat.le_trans hB (h.lt x this).1)
theorem ListB.slice {w : World} {base top : Nat} {v : Value} {l : List (List UInt8)} (h : ListB w base top v l) : ∃ a c, v = .slice a l.length c := by
  obtain ⟨vs, h1, _⟩ := h
  rcases h1.2 with ⟨rfl, hn⟩ | ⟨g, cap, cur, rfl, _⟩
  · exact ⟨none, 0, by rw [hn]⟩
  · exact ⟨_, cap, rfl⟩
end Go.Proofs.Ytgmgmjljjbcgjaa

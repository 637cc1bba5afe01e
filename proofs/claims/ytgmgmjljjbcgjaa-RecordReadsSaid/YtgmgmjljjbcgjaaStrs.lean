/- Lists of strings that the call owns: []string. -/
import Derived.Test.YtgmgmjljjbcgjaaTexts
namespace Go.Proofs.Ytgmgmjljjbcgjaa
open Go Go.RowKit NSX

theorem Try.info9p : (Try.prog.info? 9).map (fun i => (i.zero, i.size, i.bytes)) = some (some (.string ⟨#[]⟩), 1, 16) := by kernel_rfl

/-- v is the call's own list of these strings. -/
def OwnS (w : World) (base : Nat) (v : Value) (ss : List ByteArray) : Prop := w.ownsRow base 9 1 v ss.length (ss.map Value.string)

theorem OwnS.strs {w : World} {base : Nat} {v : Value} {ss : List ByteArray} (h : OwnS w base v ss) : StrsAt w v ss := by
  obtain ⟨_, h2⟩ := h
  rcases h2 with ⟨hv, hn⟩ | ⟨g, cap, cur, hv, hg, hh, hnc, hcm, hcs, htake⟩
  · have : ss = [] := List.eq_nil_of_length_eq_zero hn
    subst this
    exact ⟨none, 0, hv, Nat.le_refl _, Nat.zero_le _, fun i s hi => by simp at hi⟩
  · refine ⟨_, cap, hv, hnc, hcm, fun i s hi => ⟨_, rfl, ?_⟩⟩
    have hlt : i < ss.length := (List.getElem?_eq_some_iff.1 hi).1
    have h1 : (ss.map Value.string)[i]? = some (.string s) := by rw [List.getElem?_map, hi]; rfl
    rw [← htake, List.getElem?_take, if_pos (by simpa using hlt)] at h1
    have e : (⟨g, 0, none⟩ : Addr).add i = ⟨g, i, none⟩ := by unfold Addr.add; split <;> simp_all
    rw [e]
    exact cell_of_heap hh (by simpa using h1)
theorem OwnS.chg {w w' : World} {base : Nat} {v : Value} {ss : List ByteArray} {r : List Nat} (h : OwnS w base v ss) (hc : Chg r w w') (hn : ∀ k, v.ownBlock = some k → k ∉ r) : OwnS w' base v ss := by
  refine ⟨h.1, ?_⟩
  rcases h.2 with h2 | ⟨g, cap, cur, hv, hg, hh, rest⟩
  · exact .inl h2
  · exact .inr ⟨g, cap, cur, hv, hg, hc.heap hh (hn g (by rw [hv]; rfl)), rest⟩
theorem OwnS.then {w w' : World} {base : Nat} {v : Value} {ss : List ByteArray} (h : OwnS w base v ss) (hc : Chg [] w w') : OwnS w' base v ss := h.chg hc (fun _ _ hm => by cases hm)
theorem OwnS.lt {w : World} {base : Nat} {v : Value} {ss : List ByteArray} (h : OwnS w base v ss) : ∀ k, v.ownBlock = some k → base ≤ k ∧ k < w.heap.size := World.ownsRow.lt h
theorem OwnS.mono {w : World} {base base' : Nat} {v : Value} {ss : List ByteArray} (h : OwnS w base v ss) (hb : base' ≤ base) : OwnS w base' v ss := by
  refine ⟨h.1, ?_⟩
  rcases h.2 with h2 | ⟨g, cap, cur, hv, hg, rest⟩
  · exact .inl h2
  · exact .inr ⟨g, cap, cur, hv, by omega, rest⟩
theorem OwnS.nil (w : World) (base : Nat) : OwnS w base (.slice none 0 0) [] := World.ownsRow_nil _ _ _ _
theorem OwnS.rows {w wr : World} {base : Nat} {v : Value} {ss : List ByteArray} {r : List Nat} (h : OwnS wr base v ss) (hB : w.heap.size ≤ base) : ∀ x ∈ v.ownBlock.toList, x ∈ r ∨ w.heap.size ≤ x := by
  intro x hx
  have : v.ownBlock = some x := by simpa using hx
  exact .inr (Nat.le_trans hB (h.lt x this).1)

/-- 'append(s, x...)', of strings. -/
theorem run_sappend (w : World) (ty : TypeId) (base : Nat) (v : Value) (xs : List ByteArray) (hown : OwnS w base v xs) (x : Value) (ys : List ByteArray) (hx : StrsAt w x ys)
    (hb : xs.length + ys.length ≤ 1000000) (hbase : base ≤ w.heap.size) :
    ∃ v' w', (Builtin.append_ #[61, 61] ty #[v, x]).run Try.prog w = .ok v' w' ∧ OwnS w' base v' (xs ++ ys) ∧ Chg v.ownBlock.toList w w' := by
  obtain ⟨i0, hi, hz0, hz1, hz2⟩ := info_parts Try.info9p
  have hund : Try.prog.underlying 61 = some (.slice 9) := by kernel_rfl
  have hchg : ∀ w', w.grownBy w' v.ownBlock → Chg v.ownBlock.toList w w' := fun w' hg => (Chg.refl _ w).grown hg (fun k hk => .inl (by rw [hk]; simp))
  obtain ⟨ao, cap, rfl, hl, hm, hs⟩ := hx
  cases ao with
  | none =>
    have hy : ys = [] := by
      cases ys with
      | nil => rfl
      | cons y ys => obtain ⟨a, ha, _⟩ := hs 0 y rfl; cases ha
    subst hy
    refine ⟨v, w, ?_, by simpa using hown, Chg.refl _ _⟩
    have e : ∀ c, (Builtin.append_ #[61, 61] ty #[v, .slice none 0 c]).run Try.prog w = (Builtin.append_ #[61, 61] ty #[v, .slice none 0 0]).run Try.prog w := fun c => rfl
    rw [List.length_nil, e]
    exact run_append_owned_none (P := Try.prog) (w := w) base 61 ty 9 i0 1 hund hi v xs.length (xs.map Value.string) hown
  | some a =>
    obtain ⟨v', w', hr, ho, hg, _⟩ := run_append_own (P := Try.prog) w base 61 ty 9 i0 (.string ⟨#[]⟩) 1 16 hund hi hz0 hz1 hz2 rfl (by decide) v xs.length (xs.map Value.string) hown a ys.length cap (ys.map Value.string) (by simp) (by
      intro j u hj
      rw [List.getElem?_map] at hj
      cases hy : ys[j]? with
      | none => rw [hy] at hj; cases hj
      | some s =>
        rw [hy] at hj
        simp only [Option.map_some, Option.some.injEq] at hj
        obtain ⟨a', ha', hc⟩ := hs j s hy
        simp only [Option.some.injEq] at ha'
        subst ha'
        rw [← hj]; exact hc) (by
      intro u hu
      obtain ⟨s, _, rfl⟩ := List.mem_map.1 hu
      rfl) (by unfold maxLen; omega) (by omega) hbase
    exact ⟨v', w', hr, by simpa [OwnS] using ho, hchg _ hg⟩

/-- An append whose run is known, guarded or not, of any type. -/
theorem wpList_append_any {w : World} {ops : Array Oper} {rest : List Oper} {o : Oper} {a : Act} {Q : Exit → Act → World → Prop} (t : TypeId) (hw : Region.wanted o (yielded ops a.tmps) = true) (s x : Operand)
    (ho : o.op = .call { callee := .builtin .append, args := #[s, x], argTypes := #[t, t] }) (vs vx v' : Value) (w' : World) (hs : a.eval s = vs) (hx : a.eval x = vx)
    (hr : (Builtin.append_ #[t, t] o.type #[vs, vx]).run Try.prog w = .ok v' w') (h : wpList Try.prog ops Q rest (a.put o.dst v') w') : wpList Try.prog ops Q (o :: rest) a w := by
  refine wpList_step fun K hK => ?_
  rw [if_pos hw]
  unfold Oper.wp
  simp [execOp, ho, resolve, invoke, builtin, hs, hx, hr, Result.andThen]
  exact hK _ _ h
theorem asBytes_append (a b : List ByteArray) : asBytes (a ++ b) = asBytes a ++ asBytes b := by simp [asBytes]
end Go.Proofs.Ytgmgmjljjbcgjaa

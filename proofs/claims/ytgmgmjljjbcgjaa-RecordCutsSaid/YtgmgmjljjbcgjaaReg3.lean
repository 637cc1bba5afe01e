/- A region that draws its order, whose operations write: what goes ahead of an operation for sure need not bear with it. -/
import Derived.Test.YtgmgmjljjbcgjaaReg2
namespace Go.Proofs.Ytgmgmjljjbcgjaa
open Go Go.RowKit

/-- A table of ancestors: each of them goes ahead by an edge, or by one and the table. -/
def okAnc (A : List (List Nat)) (l : List Oper) : Bool :=
  (List.range l.length).all fun j => (A.getD j []).all fun a =>
    match l[j]? with
    | some o => o.after.toList.any fun e => Region.binds .any e && (e.on == a || (A.getD e.on []).contains a)
    | none => false
theorem anc_listed {A : List (List Nat)} {ops : Array Oper} {listed : Array Bool} (hed : edgesDown 0 ops.toList = true) (hok : okAnc A ops.toList = true)
    (hcl : ∀ (i : Nat) (o : Oper), listed.getD i false = true → ops[i]? = some o → ∀ e ∈ o.after.toList, Region.binds .any e = true → listed.getD e.on false = true) :
    ∀ (j : Nat) (o : Oper), ops[j]? = some o → (∀ e ∈ o.after.toList, Region.binds .any e = true → listed.getD e.on false = true) → ∀ a ∈ A.getD j [], listed.getD a false = true := by
  intro j
  induction j using Nat.strongRecOn with
  | ind j ih =>
    intro o ho hd a ha
    have hj : j < ops.size := (Array.getElem?_eq_some_iff.1 ho).1
    have h1 := List.all_eq_true.1 hok j (List.mem_range.2 (by simpa using hj))
    have h2 := List.all_eq_true.1 h1 a ha
    have ho' : ops.toList[j]? = some o := by simpa using ho
    rw [ho'] at h2
    simp only at h2
    obtain ⟨e, he, hb⟩ := List.any_eq_true.1 h2
    rw [Bool.and_eq_true, Bool.or_eq_true] at hb
    obtain ⟨hb, hc⟩ := hb
    rcases hc with hc | hc
    · have : e.on = a := by simpa using hc
      rw [← this]; exact hd e he hb
    · have hlt := edgesDown_spec hed ho' e he hb
      rw [Nat.zero_add] at hlt
      have hoe : ops[e.on]? = some ops[e.on] := Array.getElem?_eq_getElem (by omega)
      exact ih e.on hlt _ hoe (hcl e.on _ (hd e he hb) hoe) a (by simpa using hc)

/-- What an operation needs (Pre), what it leaves in its slot (Φ) and in the world (Ψ), which rows it writes. -/
structure Plan3 where
  anc : List (List Nat)
  rows : Nat → List Nat
  all : List Nat
  Pre : Nat → World → Prop
  Φ : Nat → Value → World → Prop
  Ψ : Nat → World → Prop
  sub : ∀ j, ∀ x ∈ rows j, x ∈ all
  pre : ∀ i j w w', i ≠ j → i ∉ anc.getD j [] → Pre i w → Chg (rows j) w w' → Pre i w'
  phi : ∀ i j v w w', i ≠ j → j ∉ anc.getD i [] → Φ i v w → Chg (rows j) w w' → Φ i v w'
  psi : ∀ i j w w', i ≠ j → j ∉ anc.getD i [] → Ψ i w → Chg (rows j) w w' → Ψ i w'

structure Comes3 (ops : Array Oper) (p : Plan3) (a0 : Act) (w0 : World) (i : Nat) (o : Oper) (a : Act) (w : World) : Prop where
  chg : Chg p.all w0 w
  defers : a.defers = a0.defers
  pre : p.Pre i w
  dep : ∀ e ∈ o.after.toList, Region.binds .any e = true → ∀ d, slotOf ops e.on = some d → p.Φ e.on (a.tmps.getD d undef) w
  base : ∀ t, (ops.toList.all fun o => o.dst != some t) = true → a.tmps.getD t undef = a0.tmps.getD t undef

def StepOk3 (P : Program) (ops : Array Oper) (Q : Exit → Act → World → Prop) (p : Plan3) (a0 : Act) (w0 : World) (i : Nat) (o : Oper) : Prop :=
  ∀ a w, Comes3 ops p a0 w0 i o a w → ∀ K : Act → World → Prop, (∀ v w', Chg (p.rows i) w w' → p.Φ i v w' → p.Ψ i w' → K (a.put o.dst v) w') →
    if Region.wanted o (yielded ops a.tmps) then Oper.wp P o a w K Q else K (a.put o.dst undef) w

structure Region.Good3 (ops : Array Oper) (p : Plan3) (a0 : Act) (w0 : World) (listed : Array Bool) (a : Act) (w : World) : Prop where
  chg : Chg p.all w0 w
  defers : a.defers = a0.defers
  size : a.tmps.size = a0.tmps.size
  pre : ∀ i, listed.getD i false = false → p.Pre i w
  done : ∀ i d, listed.getD i false = true → slotOf ops i = some d → p.Φ i (a.tmps.getD d undef) w
  did : ∀ i, listed.getD i false = true → p.Ψ i w
  closed : ∀ (i : Nat) (o : Oper), listed.getD i false = true → ops[i]? = some o → ∀ e ∈ o.after.toList, Region.binds .any e = true → listed.getD e.on false = true
  base : ∀ t, (ops.toList.all fun o => o.dst != some t) = true → a.tmps.getD t undef = a0.tmps.getD t undef

theorem wpAny_good3 {P : Program} {ops : Array Oper} {Q : Exit → Act → World → Prop} {p : Plan3} {a0 : Act} {w0 : World}
    (hp : apartDst ops.toList = true) (hed : edgesDown 0 ops.toList = true) (hok : okAnc p.anc ops.toList = true) (hin : (ops.toList.all fun o => match o.dst with | some d => decide (d < a0.tmps.size) | none => true) = true)
    (hall : ∀ i : Nat, i < ops.size → ∃ o, ops[i]? = some o ∧ StepOk3 P ops Q p a0 w0 i o)
    (hend : ∀ (listed : Array Bool) a w, listed.size = ops.size → Region.ready .any ops listed = [] → Region.Good3 ops p a0 w0 listed a w → Q .normal a w) :
    ∀ (fuel : Nat) (listed : Array Bool) (a : Act) (w : World), listed.size = ops.size → (listed.toList.filter (· == false)).length ≤ fuel → Region.Good3 ops p a0 w0 listed a w → wpAny P .any ops Q fuel listed a w := by
  intro fuel
  induction fuel with
  | zero =>
    intro listed a w hs hf hg
    have hr : Region.ready .any ops listed = [] := by
      unfold Region.ready
      rw [List.filter_eq_nil_iff]
      intro i hi
      have hlt : i < listed.size := by rw [hs]; exact List.mem_range.1 hi
      have : listed[i] = true := by
        cases hb : listed[i] with
        | true => rfl
        | false =>
          have hmem : false ∈ listed.toList := by rw [← hb]; exact Array.getElem_mem_toList ..
          have : false ∈ listed.toList.filter (· == false) := List.mem_filter.2 ⟨hmem, rfl⟩
          rw [List.eq_nil_of_length_eq_zero (Nat.le_zero.1 hf)] at this
          cases this
      simp [Array.getD_eq_getD_getElem?, hlt, this]
    exact ⟨hr, hend listed a w hs hr hg⟩
  | succ fuel ih =>
    intro listed a w hs hf hg
    refine ⟨fun hr => hend listed a w hs hr hg, fun i hi => ?_⟩
    unfold Region.ready at hi
    rw [List.mem_filter] at hi
    obtain ⟨hr, hi⟩ := hi
    have hlt : i < ops.size := List.mem_range.1 hr
    obtain ⟨o, ho, hstep⟩ := hall i hlt
    simp only [ho, Option.map_some, Option.getD_some, Bool.and_eq_true, Bool.not_eq_true'] at hi
    obtain ⟨hnl, hdeps⟩ := hi
    have hlast : listed.toList[i]? = some false := by
      have hlt' : i < listed.size := by omega
      simp only [Array.getD_eq_getD_getElem?, Array.getElem?_eq_getElem hlt', Option.getD_some] at hnl
      simp [Array.getElem?_eq_getElem hlt', hnl]
    have hcomes : Comes3 ops p a0 w0 i o a w := by
      refine ⟨hg.chg, hg.defers, hg.pre i (getD_false hnl (by omega)), fun e he hb d hd => hg.done _ _ ?_ hd, hg.base⟩
      have := Array.all_eq_true_iff_forall_mem.1 hdeps e (Array.mem_toList_iff.1 he)
      rw [hb] at this
      simpa using this
    have hdst : ∀ d, o.dst = some d → d < a.tmps.size := by
      intro d hd
      have := List.all_eq_true.1 hin o (by rw [Array.mem_toList_iff]; exact Array.mem_of_getElem? ho)
      rw [hd] at this
      rw [hg.size]; simpa using this
    have hnext : ∀ v w', Chg (p.rows i) w w' → p.Φ i v w' → p.Ψ i w' → wpAny P .any ops Q fuel (listed.setIfInBounds i true) (a.put o.dst v) w' := by
      intro v w' hc hv hv2
      have hdl : ∀ e ∈ o.after.toList, Region.binds .any e = true → listed.getD e.on false = true := fun e he hb => by
        have := Array.all_eq_true_iff_forall_mem.1 hdeps e (Array.mem_toList_iff.1 he)
        rw [hb] at this
        simpa using this
      have hanc := anc_listed (listed := listed) hed hok hg.closed i o ho hdl
      refine ih _ _ _ (by simpa using hs) ?_ ?_
      · have := filter_set listed.toList i hlast
        rw [Array.toList_setIfInBounds]
        omega
      · refine ⟨hg.chg.trans hc (fun x hx => .inl (p.sub i x hx)), ?_, ?_, ?_, ?_, ?_, ?_, ?_⟩
        · cases hd : o.dst <;> simp only [Act.put] <;> exact hg.defers
        · cases hd : o.dst <;> simp only [Act.put, Array.size_setIfInBounds] <;> exact hg.size
        · intro j hj
          have hij : j ≠ i := by
            intro e
            subst e
            simp only [Array.getD_eq_getD_getElem?, Array.getElem?_setIfInBounds] at hj
            have hlt2 : j < listed.size := by omega
            simp [hlt2] at hj
          have hjf : listed.getD j false = false := by
            simp only [Array.getD_eq_getD_getElem?, Array.getElem?_setIfInBounds] at hj ⊢
            rw [if_neg (fun e => hij e.symm)] at hj; exact hj
          exact p.pre j i _ _ hij (fun hm => by have := hanc j hm; rw [hjf] at this; cases this) (hg.pre j hjf) hc
        · intro j d hj hd
          by_cases hij : i = j
          · subst hij
            have hd' : o.dst = some d := by simpa [slotOf, ho] using hd
            rw [hd', put_getD a d d v (hdst d hd'), if_pos rfl]
            exact hv
          · have hj' : listed.getD j false = true := by
              simp only [Array.getD_eq_getD_getElem?, Array.getElem?_setIfInBounds] at hj ⊢
              rw [if_neg hij] at hj; exact hj
            have hni : i ∉ p.anc.getD j [] := by
              intro hm
              cases hoj : ops[j]? with
              | none => simp [slotOf, hoj] at hd
              | some oj =>
                have h9 := anc_listed (listed := listed) hed hok hg.closed j oj hoj (hg.closed j oj hj' hoj) i hm
                rw [getD_false hnl (by omega)] at h9
                cases h9
            have h1 := p.phi j i _ _ _ (fun e => hij e.symm) hni (hg.done j d hj' hd) hc
            cases hod : o.dst with
            | none => exact h1
            | some d' =>
              rw [put_getD a d' d v (hdst d' hod), if_neg]
              · exact h1
              · intro e
                subst e
                cases hoj : ops[j]? with
                | none => simp [slotOf, hoj] at hd
                | some oj =>
                  have hdj : oj.dst = some d' := by simpa [slotOf, hoj] using hd
                  exact hij (apartDst_spec hp (by simpa using ho) (by simpa using hoj) hod hdj)
        · intro j hj
          by_cases hij : i = j
          · subst hij; exact hv2
          · have hjt : listed.getD j false = true := by
              simp only [Array.getD_eq_getD_getElem?, Array.getElem?_setIfInBounds] at hj ⊢
              rw [if_neg hij] at hj; exact hj
            by_cases hjs : j < ops.size
            · have hni : i ∉ p.anc.getD j [] := by
                intro hm
                have hoj : ops[j]? = some ops[j] := Array.getElem?_eq_getElem hjs
                have h9 := anc_listed (listed := listed) hed hok hg.closed j _ hoj (hg.closed j _ hjt hoj) i hm
                rw [getD_false hnl (by omega)] at h9
                cases h9
              exact p.psi j i _ _ (fun e => hij e.symm) hni (hg.did j hjt) hc
            · exfalso
              have : listed.size ≤ j := by omega
              simp [Array.getD_eq_getD_getElem?, Array.getElem?_eq_none this] at hjt
        · intro j oj hj hoj e he hb
          have hset : ∀ x : Nat, listed.getD x false = true → (listed.setIfInBounds i true).getD x false = true := fun x hx => by
            simp only [Array.getD_eq_getD_getElem?, Array.getElem?_setIfInBounds] at hx ⊢
            by_cases hix : i = x
            · subst hix
              have : i < listed.size := by omega
              simp [this]
            · rw [if_neg hix]; exact hx
          by_cases hij : i = j
          · subst hij
            rw [ho] at hoj
            simp only [Option.some.injEq] at hoj
            subst hoj
            exact hset _ (hdl e he hb)
          · refine hset _ (hg.closed j oj ?_ hoj e he hb)
            simp only [Array.getD_eq_getD_getElem?, Array.getElem?_setIfInBounds] at hj ⊢
            rw [if_neg hij] at hj; exact hj
        · intro t ht
          cases hod : o.dst with
          | none => exact hg.base t ht
          | some d' =>
            rw [put_getD a d' t v (hdst d' hod), if_neg]
            · exact hg.base t ht
            · intro e
              have := List.all_eq_true.1 ht o (by rw [Array.mem_toList_iff]; exact Array.mem_of_getElem? ho)
              rw [hod, e] at this
              simp at this
    have := hstep a w hcomes (wpAny P .any ops Q fuel (listed.setIfInBounds i true)) hnext
    unfold wpOp
    rw [ho]
    simp only
    split
    · rename_i hw; rw [if_pos hw] at this; exact .inl this
    · rename_i hw; rw [if_neg hw] at this; exact this

/-- THE REGION: an operation at a time, whatever their order. -/
theorem wp_region_each5 {P : Program} {id : Nat} {l : List Oper} {Q : Exit → Act → World → Prop} {a0 : Act} {w0 : World} (hm : P.follows .mixedOrders = true) (p : Plan3) (hpre : ∀ i, p.Pre i w0.drew)
    (hp : apartDst l = true) (he : edgesDown 0 l = true) (hok : okAnc p.anc l = true) (hin : (l.all fun o => match o.dst with | some d => decide (d < a0.tmps.size) | none => true) = true)
    (hend : ∀ a w, Chg p.all w0 w → a.defers = a0.defers → a.tmps.size = a0.tmps.size → (∀ i d, slotOf l.toArray i = some d → p.Φ i (a.tmps.getD d undef) w) → (∀ i, i < l.length → p.Ψ i w) →
      (∀ t, (l.all fun o => o.dst != some t) = true → a.tmps.getD t undef = a0.tmps.getD t undef) → Q .normal a w)
    (hsteps : AllSteps (StepOk3 P l.toArray Q p a0 w0) 0 l) : (Code.region id l.toArray true).wp P Q a0 w0 := by
  refine wp_region_any hm ?_
  have h0 : Chg p.all w0 { w0 with drawn := w0.drawn + 1 } := (Chg.refl p.all w0).drew
  refine wpAny_good3 (p := p) (by simpa using hp) (by simpa using he) (by simpa using hok) (by simpa using hin) ?_ ?_ _ _ _ _ (by simp) (by simp) ⟨h0, rfl, rfl, fun i _ => hpre i, ?_, ?_, ?_, fun _ _ => rfl⟩
  · intro i hi
    obtain ⟨o, ho⟩ : ∃ o, l[i]? = some o := ⟨_, List.getElem?_eq_getElem (by simpa using hi)⟩
    refine ⟨o, by simpa using ho, ?_⟩
    have := hsteps.get i o ho
    rw [Nat.zero_add] at this
    exact this
  · intro listed a w hs hr hg
    have hall := ready_nil hs (by simpa using he) hr
    refine hend a w hg.chg hg.defers hg.size (fun i d hd => ?_) (fun i hi => hg.did i (hall i (by simpa using hi))) (fun t ht => hg.base t (by simpa using ht))
    refine hg.done i d (hall i ?_) hd
    simp only [slotOf] at hd
    cases ho : (l.toArray)[i]? with
    | none => rw [ho] at hd; cases hd
    | some o => exact (Array.getElem?_eq_some_iff.1 ho).1
  · intro i d hi _
    simp [Array.getD_eq_getD_getElem?, Array.getElem?_replicate] at hi
    split at hi <;> simp at hi
  · intro i hi
    simp [Array.getD_eq_getD_getElem?, Array.getElem?_replicate] at hi
    split at hi <;> simp at hi
  · intro i o hi
    simp [Array.getD_eq_getD_getElem?, Array.getElem?_replicate] at hi
    split at hi <;> simp at hi

/-- The region once more: its end hands the act over, written out. -/
theorem wp_region_each6 {P : Program} {id : Nat} {l : List Oper} {Q : Exit → Act → World → Prop} {a0 : Act} {w0 : World} (hm : P.follows .mixedOrders = true) (p : Plan3) (hpre : ∀ i, p.Pre i w0.drew)
    (hp : apartDst l = true) (he : edgesDown 0 l = true) (hok : okAnc p.anc l = true) (hin : (l.all fun o => match o.dst with | some d => decide (d < a0.tmps.size) | none => true) = true)
    (hend : ∀ a w, Chg p.all w0 w → (∀ i d, slotOf l.toArray i = some d → p.Φ i (a.tmps.getD d undef) w) → (∀ i, i < l.length → p.Ψ i w) →
      (∀ l' : List (Tmp × Value), l'.map (·.1) = l.filterMap (·.dst) → AllAt a l' → a = Act.puts a0 l') → Q .normal a w)
    (hsteps : AllSteps (StepOk3 P l.toArray Q p a0 w0) 0 l) : (Code.region id l.toArray true).wp P Q a0 w0 := by
  refine wp_region_each5 hm p hpre hp he hok hin ?_ hsteps
  intro a w hc hd hs hall hpsi hb
  refine hend a w hc hall hpsi fun l' hl' hat => act_eq l' hs hd (by rw [hl']; exact apartDst_nodup l hp) ?_ ?_ hat.get
  · intro q hq
    have h1 : q.1 ∈ l'.map (·.1) := List.mem_map.2 ⟨q, hq, rfl⟩
    rw [hl'] at h1
    obtain ⟨o, ho, hd'⟩ := List.mem_filterMap.1 h1
    have := List.all_eq_true.1 hin o ho
    rw [hd'] at this
    simpa using this
  · intro t ht
    rw [hl'] at ht
    refine hb t (List.all_eq_true.2 fun o ho => ?_)
    have : o.dst ≠ some t := fun e => ht (List.mem_filterMap.2 ⟨o, ho, e⟩)
    simpa using this
end Go.Proofs.Ytgmgmjljjbcgjaa

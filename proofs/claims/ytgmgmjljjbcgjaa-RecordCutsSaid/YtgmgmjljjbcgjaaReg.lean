/- A region that draws its order, each of whose operations leaves what the others need: walked once an operation, not once an order. -/
import Derived.Test.YtgmgmjljjbcgjaaBase
import Derived.Orders
namespace Go.Proofs.Ytgmgmjljjbcgjaa
open Go Go.RowKit

/-- The slot that operation j writes. -/
def slotOf (ops : Array Oper) (j : Nat) : Option Tmp := (ops[j]?).bind (·.dst)

/-- What is known when an operation comes up: the world has grown alone; each operation that it follows has left its value; the other slots hold what they held. -/
structure Comes0 (ops : Array Oper) (Φ : Nat → Value → World → Prop) (a0 : Act) (w0 : World) (o : Oper) (a : Act) (w : World) : Prop where
  chg : Chg [] w0 w
  defers : a.defers = a0.defers
  dep : ∀ e ∈ o.after.toList, Region.binds .any e = true → ∀ d, slotOf ops e.on = some d → Φ e.on (a.tmps.getD d undef) w
  base : ∀ t, (ops.toList.all fun o => o.dst != some t) = true → a.tmps.getD t undef = a0.tmps.getD t undef

/-- An operation's word. -/
def StepOk (P : Program) (ops : Array Oper) (Q : Exit → Act → World → Prop) (Φ : Nat → Value → World → Prop) (a0 : Act) (w0 : World) (i : Nat) (o : Oper) : Prop :=
  ∀ a w, Comes0 ops Φ a0 w0 o a w → ∀ K : Act → World → Prop, (∀ v w', Chg [] w w' → Φ i v w' → K (a.put o.dst v) w') →
    if Region.wanted o (yielded ops a.tmps) then Oper.wp P o a w K Q else K (a.put o.dst undef) w

def AllSteps (S : Nat → Oper → Prop) : Nat → List Oper → Prop
  | _, [] => True
  | k, o :: l => S k o ∧ AllSteps S (k + 1) l
theorem AllSteps.get {S : Nat → Oper → Prop} : ∀ {l : List Oper} {k : Nat}, AllSteps S k l → ∀ j o, l[j]? = some o → S (k + j) o
  | [], _, _, j, o, h => by simp at h
  | x :: l, k, hs, 0, o, h => by simp at h; subst h; exact hs.1
  | x :: l, k, hs, j + 1, o, h => by
    have := AllSteps.get hs.2 j o (by simpa using h)
    rw [show k + (j + 1) = k + 1 + j from by omega]; exact this

/-- No two operations write one slot. -/
def apartDst : List Oper → Bool
  | [] => true
  | o :: l => (match o.dst with | some d => l.all fun o' => o'.dst != some d | none => true) && apartDst l
theorem apartDst_spec : ∀ {l : List Oper}, apartDst l = true → ∀ {i j : Nat} {o o' : Oper} {d : Tmp}, l[i]? = some o → l[j]? = some o' → o.dst = some d → o'.dst = some d → i = j
  | [], _, i, j, o, o', d, h, _, _, _ => by simp at h
  | x :: l, hp, i, j, o, o', d, hi, hj, ho, ho' => by
    simp only [apartDst, Bool.and_eq_true] at hp
    cases i with
    | zero =>
      cases j with
      | zero => rfl
      | succ j =>
        simp at hi hj
        subst hi
        rw [ho] at hp
        have := List.all_eq_true.1 hp.1 o' (List.mem_of_getElem? hj)
        simp [ho'] at this
    | succ i =>
      cases j with
      | zero =>
        simp at hi hj
        subst hj
        rw [ho'] at hp
        have := List.all_eq_true.1 hp.1 o (List.mem_of_getElem? hi)
        simp [ho] at this
      | succ j =>
        simp at hi hj
        rw [apartDst_spec hp.2 hi hj ho ho']

structure Region.Good (ops : Array Oper) (Φ : Nat → Value → World → Prop) (a0 : Act) (w0 : World) (listed : Array Bool) (a : Act) (w : World) : Prop where
  chg : Chg [] w0 w
  defers : a.defers = a0.defers
  size : a.tmps.size = a0.tmps.size
  done : ∀ i d, listed.getD i false = true → slotOf ops i = some d → Φ i (a.tmps.getD d undef) w
  base : ∀ t, (ops.toList.all fun o => o.dst != some t) = true → a.tmps.getD t undef = a0.tmps.getD t undef

theorem put_getD (a : Act) (d t : Tmp) (v : Value) (hd : d < a.tmps.size) : (a.put (some d) v).tmps.getD t undef = if d = t then v else a.tmps.getD t undef := by
  simp only [Act.put, Array.getD_eq_getD_getElem?, Array.getElem?_setIfInBounds]
  by_cases h : d = t
  · subst h; simp [hd]
  · simp [h]

theorem filter_set : ∀ (l : List Bool) (i : Nat), l[i]? = some false → ((l.set i true).filter (· == false)).length + 1 = (l.filter (· == false)).length
  | [], i, h => by simp at h
  | b :: l, 0, h => by
    simp at h; subst h
    simp
  | b :: l, i + 1, h => by
    have ih := filter_set l i (by simpa using h)
    rw [List.set_cons_succ]
    cases b <;> simp_all

/-- Every edge that binds goes back. -/
def edgesDown : Nat → List Oper → Bool
  | _, [] => true
  | k, o :: l => (o.after.toList.all fun e => !Region.binds .any e || decide (e.on < k)) && edgesDown (k + 1) l
theorem edgesDown_spec : ∀ {l : List Oper} {k : Nat}, edgesDown k l = true → ∀ {j : Nat} {o : Oper}, l[j]? = some o → ∀ e ∈ o.after.toList, Region.binds .any e = true → e.on < k + j
  | [], _, _, j, o, h => by simp at h
  | x :: l, k, hp, 0, o, h => by
    simp at h; subst h
    simp only [edgesDown, Bool.and_eq_true] at hp
    intro e he hb
    have := List.all_eq_true.1 hp.1 e he
    simpa [hb] using this
  | x :: l, k, hp, j + 1, o, h => by
    simp only [edgesDown, Bool.and_eq_true] at hp
    intro e he hb
    have := edgesDown_spec hp.2 (j := j) (by simpa using h) e he hb
    omega

theorem ready_nil {ops : Array Oper} {listed : Array Bool} (hs : listed.size = ops.size) (he : edgesDown 0 ops.toList = true) (hr : Region.ready .any ops listed = []) : ∀ i : Nat, i < ops.size → listed.getD i false = true := by
  intro i
  induction i using Nat.strongRecOn with
  | ind i ih =>
    intro hi
    cases hb : listed.getD i false with
    | true => rfl
    | false =>
      exfalso
      unfold Region.ready at hr
      rw [List.filter_eq_nil_iff] at hr
      refine hr i (List.mem_range.2 hi) ?_
      have ho : ops[i]? = some ops[i] := Array.getElem?_eq_getElem hi
      rw [ho]
      simp only [Option.map_some, Option.getD_some, Bool.and_eq_true, Bool.not_eq_true']
      constructor
      · simp only [Array.getD_eq_getD_getElem?] at hb ⊢
        rw [Array.getElem?_eq_getElem (by omega)] at hb ⊢
        simpa using hb
      · rw [Array.all_eq_true_iff_forall_mem]
        intro e hm
        cases hbd : Region.binds .any e with
        | false => rfl
        | true =>
          have hlt := edgesDown_spec he (j := i) (by simp) e (Array.mem_toList_iff.2 hm) hbd
          simp only [Nat.zero_add] at hlt
          rw [ih e.on hlt (by omega)]; rfl

theorem wpAny_good {P : Program} {ops : Array Oper} {Q : Exit → Act → World → Prop} {Φ : Nat → Value → World → Prop} {a0 : Act} {w0 : World}
    (hΦ : ∀ i v w w', Φ i v w → Chg [] w w' → Φ i v w') (hp : apartDst ops.toList = true) (hin : (ops.toList.all fun o => match o.dst with | some d => decide (d < a0.tmps.size) | none => true) = true)
    (hall : ∀ i : Nat, i < ops.size → ∃ o, ops[i]? = some o ∧ StepOk P ops Q Φ a0 w0 i o)
    (hend : ∀ (listed : Array Bool) a w, listed.size = ops.size → Region.ready .any ops listed = [] → Region.Good ops Φ a0 w0 listed a w → Q .normal a w) :
    ∀ (fuel : Nat) (listed : Array Bool) (a : Act) (w : World), listed.size = ops.size → (listed.toList.filter (· == false)).length ≤ fuel → Region.Good ops Φ a0 w0 listed a w → wpAny P .any ops Q fuel listed a w := by
  intro fuel
  induction fuel with
  | zero =>
    intro listed a w hs hf hg
    have hr : Region.ready .any ops listed = [] := by
      unfold Region.ready
      rw [List.filter_eq_nil_iff]
      intro i hi
      have hlt : i < listed.size := by rw [hs]; exact List.mem_range.1 hi
      have : listed[i] = true := by
        cases hb : listed[i] with
        | true => rfl
        | false =>
          have hmem : false ∈ listed.toList := by rw [← hb]; exact Array.getElem_mem_toList ..
          have : false ∈ listed.toList.filter (· == false) := List.mem_filter.2 ⟨hmem, rfl⟩
          rw [List.eq_nil_of_length_eq_zero (Nat.le_zero.1 hf)] at this
          cases this
      simp [Array.getD_eq_getD_getElem?, hlt, this]
    exact ⟨hr, hend listed a w hs hr hg⟩
  | succ fuel ih =>
    intro listed a w hs hf hg
    refine ⟨fun hr => hend listed a w hs hr hg, fun i hi => ?_⟩
    unfold Region.ready at hi
    rw [List.mem_filter] at hi
    obtain ⟨hr, hi⟩ := hi
    have hlt : i < ops.size := List.mem_range.1 hr
    obtain ⟨o, ho, hstep⟩ := hall i hlt
    simp only [ho, Option.map_some, Option.getD_some, Bool.and_eq_true, Bool.not_eq_true'] at hi
    obtain ⟨hnl, hdeps⟩ := hi
    have hlast : listed.toList[i]? = some false := by
      have hlt' : i < listed.size := by omega
      simp only [Array.getD_eq_getD_getElem?, Array.getElem?_eq_getElem hlt', Option.getD_some] at hnl
      simp [Array.getElem?_eq_getElem hlt', hnl]
    have hcomes : Comes0 ops Φ a0 w0 o a w := by
      refine ⟨hg.chg, hg.defers, fun e he hb d hd => hg.done _ _ ?_ hd, hg.base⟩
      have := Array.all_eq_true_iff_forall_mem.1 hdeps e (Array.mem_toList_iff.1 he)
      rw [hb] at this
      simpa using this
    have hdst : ∀ d, o.dst = some d → d < a.tmps.size := by
      intro d hd
      have := List.all_eq_true.1 hin o (by rw [Array.mem_toList_iff]; exact Array.mem_of_getElem? ho)
      rw [hd] at this
      rw [hg.size]; simpa using this
    have hnext : ∀ v w', Chg [] w w' → Φ i v w' → wpAny P .any ops Q fuel (listed.setIfInBounds i true) (a.put o.dst v) w' := by
      intro v w' hc hv
      refine ih _ _ _ (by simpa using hs) ?_ ?_
      · have := filter_set listed.toList i hlast
        rw [Array.toList_setIfInBounds]
        omega
      · refine ⟨hg.chg.then hc, ?_, ?_, ?_, ?_⟩
        · cases hd : o.dst <;> simp only [Act.put] <;> exact hg.defers
        · cases hd : o.dst <;> simp only [Act.put, Array.size_setIfInBounds] <;> exact hg.size
        · intro j d hj hd
          by_cases hij : i = j
          · subst hij
            have hd' : o.dst = some d := by simpa [slotOf, ho] using hd
            rw [hd', put_getD a d d v (hdst d hd'), if_pos rfl]
            exact hv
          · have hj' : listed.getD j false = true := by
              simp only [Array.getD_eq_getD_getElem?, Array.getElem?_setIfInBounds] at hj ⊢
              rw [if_neg hij] at hj; exact hj
            have h1 := hΦ j _ _ _ (hg.done j d hj' hd) hc
            cases hod : o.dst with
            | none => exact h1
            | some d' =>
              rw [put_getD a d' d v (hdst d' hod), if_neg]
              · exact h1
              · intro e
                subst e
                cases hoj : ops[j]? with
                | none => simp [slotOf, hoj] at hd
                | some oj =>
                  have hdj : oj.dst = some d' := by simpa [slotOf, hoj] using hd
                  exact hij (apartDst_spec hp (by simpa using ho) (by simpa using hoj) hod hdj)
        · intro t ht
          cases hod : o.dst with
          | none => exact hg.base t ht
          | some d' =>
            rw [put_getD a d' t v (hdst d' hod), if_neg]
            · exact hg.base t ht
            · intro e
              have := List.all_eq_true.1 ht o (by rw [Array.mem_toList_iff]; exact Array.mem_of_getElem? ho)
              rw [hod, e] at this
              simp at this
    have := hstep a w hcomes (wpAny P .any ops Q fuel (listed.setIfInBounds i true)) hnext
    unfold wpOp
    rw [ho]
    simp only
    split
    · rename_i hw; rw [if_pos hw] at this; exact .inl this
    · rename_i hw; rw [if_neg hw] at this; exact this

/-- THE REGION: an operation at a time, whatever their order. -/
theorem wp_region_each {P : Program} {id : Nat} {l : List Oper} {Q : Exit → Act → World → Prop} {a0 : Act} {w0 : World} (hm : P.follows .mixedOrders = true) (Φ : Nat → Value → World → Prop)
    (hΦ : ∀ i v w w', Φ i v w → Chg [] w w' → Φ i v w') (hp : apartDst l = true) (he : edgesDown 0 l = true) (hin : (l.all fun o => match o.dst with | some d => decide (d < a0.tmps.size) | none => true) = true)
    (hend : ∀ a w, Chg [] w0 w → a.defers = a0.defers → a.tmps.size = a0.tmps.size → (∀ i d, slotOf l.toArray i = some d → Φ i (a.tmps.getD d undef) w) →
      (∀ t, (l.all fun o => o.dst != some t) = true → a.tmps.getD t undef = a0.tmps.getD t undef) → Q .normal a w)
    (hsteps : AllSteps (StepOk P l.toArray Q Φ a0 w0) 0 l) : (Code.region id l.toArray true).wp P Q a0 w0 := by
  refine wp_region_any hm ?_
  have h0 : Chg [] w0 { w0 with drawn := w0.drawn + 1 } := (Chg.refl [] w0).drew
  refine wpAny_good hΦ (by simpa using hp) (by simpa using hin) ?_ ?_ _ _ _ _ (by simp) (by simp) ⟨h0, rfl, rfl, ?_, fun _ _ => rfl⟩
  · intro i hi
    obtain ⟨o, ho⟩ : ∃ o, l[i]? = some o := ⟨_, List.getElem?_eq_getElem (by simpa using hi)⟩
    refine ⟨o, by simpa using ho, ?_⟩
    have := hsteps.get i o ho
    rw [Nat.zero_add] at this
    exact this
  · intro listed a w hs hr hg
    have hall := ready_nil hs (by simpa using he) hr
    refine hend a w hg.chg hg.defers hg.size (fun i d hd => ?_) (fun t ht => hg.base t (by simpa using ht))
    refine hg.done i d (hall i ?_) hd
    simp only [slotOf] at hd
    cases ho : (l.toArray)[i]? with
    | none => rw [ho] at hd; cases hd
    | some o => exact (Array.getElem?_eq_some_iff.1 ho).1
  · intro i d hi _
    simp [Array.getD_eq_getD_getElem?, Array.getElem?_replicate] at hi
    split at hi <;> simp at hi

theorem getElem_of_getD {a : Act} {d : Tmp} {b : Bool} (h : a.tmps.getD d undef = .bool b) : a.tmps[d]? = some (.bool b) := by
  simp only [Array.getD_eq_getD_getElem?] at h
  cases hx : a.tmps[d]? with
  | none => rw [hx] at h; cases h
  | some v => rw [hx] at h; simp only [Option.getD_some] at h; rw [h]
end Go.Proofs.Ytgmgmjljjbcgjaa

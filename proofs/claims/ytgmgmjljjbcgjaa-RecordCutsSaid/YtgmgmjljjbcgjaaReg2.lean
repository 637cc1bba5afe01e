/- A region that draws its order, whose operations write, too: each its own rows. -/
import Derived.Test.YtgmgmjljjbcgjaaReg
namespace Go.Proofs.Ytgmgmjljjbcgjaa
open Go Go.RowKit

/-- What an operation needs (Pre), what it leaves in its slot (Φ) and in the world (Ψ), which rows it writes. -/
structure Plan where
  rows : Nat → List Nat
  all : List Nat
  Pre : Nat → World → Prop
  Φ : Nat → Value → World → Prop
  Ψ : Nat → World → Prop
  sub : ∀ j, ∀ x ∈ rows j, x ∈ all
  pre : ∀ i j w w', i ≠ j → Pre i w → Chg (rows j) w w' → Pre i w'
  phi : ∀ i j v w w', i ≠ j → Φ i v w → Chg (rows j) w w' → Φ i v w'
  psi : ∀ i j w w', i ≠ j → Ψ i w → Chg (rows j) w w' → Ψ i w'

structure Comes2 (ops : Array Oper) (p : Plan) (a0 : Act) (w0 : World) (i : Nat) (o : Oper) (a : Act) (w : World) : Prop where
  chg : Chg p.all w0 w
  defers : a.defers = a0.defers
  pre : p.Pre i w
  dep : ∀ e ∈ o.after.toList, Region.binds .any e = true → ∀ d, slotOf ops e.on = some d → p.Φ e.on (a.tmps.getD d undef) w
  base : ∀ t, (ops.toList.all fun o => o.dst != some t) = true → a.tmps.getD t undef = a0.tmps.getD t undef

def StepOk2 (P : Program) (ops : Array Oper) (Q : Exit → Act → World → Prop) (p : Plan) (a0 : Act) (w0 : World) (i : Nat) (o : Oper) : Prop :=
  ∀ a w, Comes2 ops p a0 w0 i o a w → ∀ K : Act → World → Prop, (∀ v w', Chg (p.rows i) w w' → p.Φ i v w' → p.Ψ i w' → K (a.put o.dst v) w') →
    if Region.wanted o (yielded ops a.tmps) then Oper.wp P o a w K Q else K (a.put o.dst undef) w

structure Region.Good2 (ops : Array Oper) (p : Plan) (a0 : Act) (w0 : World) (listed : Array Bool) (a : Act) (w : World) : Prop where
  chg : Chg p.all w0 w
  defers : a.defers = a0.defers
  size : a.tmps.size = a0.tmps.size
  pre : ∀ i, listed.getD i false = false → p.Pre i w
  done : ∀ i d, listed.getD i false = true → slotOf ops i = some d → p.Φ i (a.tmps.getD d undef) w
  did : ∀ i, listed.getD i false = true → p.Ψ i w
  base : ∀ t, (ops.toList.all fun o => o.dst != some t) = true → a.tmps.getD t undef = a0.tmps.getD t undef

theorem getD_false {l : Array Bool} {i : Nat} {b : Bool} (h : l.getD i b = false) (hi : i < l.size) : l.getD i false = false := by
  simp only [Array.getD_eq_getD_getElem?, Array.getElem?_eq_getElem hi] at h ⊢
  exact h
theorem wpAny_good2 {P : Program} {ops : Array Oper} {Q : Exit → Act → World → Prop} {p : Plan} {a0 : Act} {w0 : World}
    (hp : apartDst ops.toList = true) (hin : (ops.toList.all fun o => match o.dst with | some d => decide (d < a0.tmps.size) | none => true) = true)
    (hall : ∀ i : Nat, i < ops.size → ∃ o, ops[i]? = some o ∧ StepOk2 P ops Q p a0 w0 i o)
    (hend : ∀ (listed : Array Bool) a w, listed.size = ops.size → Region.ready .any ops listed = [] → Region.Good2 ops p a0 w0 listed a w → Q .normal a w) :
    ∀ (fuel : Nat) (listed : Array Bool) (a : Act) (w : World), listed.size = ops.size → (listed.toList.filter (· == false)).length ≤ fuel → Region.Good2 ops p a0 w0 listed a w → wpAny P .any ops Q fuel listed a w := by
  intro fuel
  induction fuel with
  | zero =>
    intro listed a w hs hf hg
    have hr : Region.ready .any ops listed = [] := by
      unfold Region.ready
      rw [List.filter_eq_nil_iff]
      intro i hi
      have hlt : i < listed.size := by rw [hs]; exact List.mem_range.1 hi
      have : listed[i] = true := by
        cases hb : listed[i] with
        | true => rfl
        | false =>
          have hmem : false ∈ listed.toList := by rw [← hb]; exact Array.getElem_mem_toList ..
          have : false ∈ listed.toList.filter (· == false) := List.mem_filter.2 ⟨hmem, rfl⟩
          rw [List.eq_nil_of_length_eq_zero (Nat.le_zero.1 hf)] at this
          cases this
      simp [Array.getD_eq_getD_getElem?, hlt, this]
    exact ⟨hr, hend listed a w hs hr hg⟩
  | succ fuel ih =>
    intro listed a w hs hf hg
    refine ⟨fun hr => hend listed a w hs hr hg, fun i hi => ?_⟩
    unfold Region.ready at hi
    rw [List.mem_filter] at hi
    obtain ⟨hr, hi⟩ := hi
    have hlt : i < ops.size := List.mem_range.1 hr
    obtain ⟨o, ho, hstep⟩ := hall i hlt
    simp only [ho, Option.map_some, Option.getD_some, Bool.and_eq_true, Bool.not_eq_true'] at hi
    obtain ⟨hnl, hdeps⟩ := hi
    have hlast : listed.toList[i]? = some false := by
      have hlt' : i < listed.size := by omega
      simp only [Array.getD_eq_getD_getElem?, Array.getElem?_eq_getElem hlt', Option.getD_some] at hnl
      simp [Array.getElem?_eq_getElem hlt', hnl]
    have hcomes : Comes2 ops p a0 w0 i o a w := by
      refine ⟨hg.chg, hg.defers, hg.pre i (getD_false hnl (by omega)), fun e he hb d hd => hg.done _ _ ?_ hd, hg.base⟩
      have := Array.all_eq_true_iff_forall_mem.1 hdeps e (Array.mem_toList_iff.1 he)
      rw [hb] at this
      simpa using this
    have hdst : ∀ d, o.dst = some d → d < a.tmps.size := by
      intro d hd
      have := List.all_eq_true.1 hin o (by rw [Array.mem_toList_iff]; exact Array.mem_of_getElem? ho)
      rw [hd] at this
      rw [hg.size]; simpa using this
    have hnext : ∀ v w', Chg (p.rows i) w w' → p.Φ i v w' → p.Ψ i w' → wpAny P .any ops Q fuel (listed.setIfInBounds i true) (a.put o.dst v) w' := by
      intro v w' hc hv hv2
      refine ih _ _ _ (by simpa using hs) ?_ ?_
      · have := filter_set listed.toList i hlast
        rw [Array.toList_setIfInBounds]
        omega
      · refine ⟨hg.chg.trans hc (fun x hx => .inl (p.sub i x hx)), ?_, ?_, ?_, ?_, ?_, ?_⟩
        · cases hd : o.dst <;> simp only [Act.put] <;> exact hg.defers
        · cases hd : o.dst <;> simp only [Act.put, Array.size_setIfInBounds] <;> exact hg.size
        · intro j hj
          have hij : j ≠ i := by
            intro e
            subst e
            simp only [Array.getD_eq_getD_getElem?, Array.getElem?_setIfInBounds] at hj
            have hlt2 : j < listed.size := by omega
            simp [hlt2] at hj
          refine p.pre j i _ _ hij (hg.pre j ?_) hc
          simp only [Array.getD_eq_getD_getElem?, Array.getElem?_setIfInBounds] at hj ⊢
          rw [if_neg (fun e => hij e.symm)] at hj; exact hj
        · intro j d hj hd
          by_cases hij : i = j
          · subst hij
            have hd' : o.dst = some d := by simpa [slotOf, ho] using hd
            rw [hd', put_getD a d d v (hdst d hd'), if_pos rfl]
            exact hv
          · have hj' : listed.getD j false = true := by
              simp only [Array.getD_eq_getD_getElem?, Array.getElem?_setIfInBounds] at hj ⊢
              rw [if_neg hij] at hj; exact hj
            have h1 := p.phi j i _ _ _ (fun e => hij e.symm) (hg.done j d hj' hd) hc
            cases hod : o.dst with
            | none => exact h1
            | some d' =>
              rw [put_getD a d' d v (hdst d' hod), if_neg]
              · exact h1
              · intro e
                subst e
                cases hoj : ops[j]? with
                | none => simp [slotOf, hoj] at hd
                | some oj =>
                  have hdj : oj.dst = some d' := by simpa [slotOf, hoj] using hd
                  exact hij (apartDst_spec hp (by simpa using ho) (by simpa using hoj) hod hdj)
        · intro j hj
          by_cases hij : i = j
          · subst hij; exact hv2
          · refine p.psi j i _ _ (fun e => hij e.symm) (hg.did j ?_) hc
            simp only [Array.getD_eq_getD_getElem?, Array.getElem?_setIfInBounds] at hj ⊢
            rw [if_neg hij] at hj; exact hj
        · intro t ht
          cases hod : o.dst with
          | none => exact hg.base t ht
          | some d' =>
            rw [put_getD a d' t v (hdst d' hod), if_neg]
            · exact hg.base t ht
            · intro e
              have := List.all_eq_true.1 ht o (by rw [Array.mem_toList_iff]; exact Array.mem_of_getElem? ho)
              rw [hod, e] at this
              simp at this
    have := hstep a w hcomes (wpAny P .any ops Q fuel (listed.setIfInBounds i true)) hnext
    unfold wpOp
    rw [ho]
    simp only
    split
    · rename_i hw; rw [if_pos hw] at this; exact .inl this
    · rename_i hw; rw [if_neg hw] at this; exact this

/-- THE REGION: an operation at a time, whatever their order. -/
theorem wp_region_each2 {P : Program} {id : Nat} {l : List Oper} {Q : Exit → Act → World → Prop} {a0 : Act} {w0 : World} (hm : P.follows .mixedOrders = true) (p : Plan) (hpre : ∀ i, p.Pre i w0.drew)
    (hp : apartDst l = true) (he : edgesDown 0 l = true) (hin : (l.all fun o => match o.dst with | some d => decide (d < a0.tmps.size) | none => true) = true)
    (hend : ∀ a w, Chg p.all w0 w → a.defers = a0.defers → a.tmps.size = a0.tmps.size → (∀ i d, slotOf l.toArray i = some d → p.Φ i (a.tmps.getD d undef) w) → (∀ i, i < l.length → p.Ψ i w) →
      (∀ t, (l.all fun o => o.dst != some t) = true → a.tmps.getD t undef = a0.tmps.getD t undef) → Q .normal a w)
    (hsteps : AllSteps (StepOk2 P l.toArray Q p a0 w0) 0 l) : (Code.region id l.toArray true).wp P Q a0 w0 := by
  refine wp_region_any hm ?_
  have h0 : Chg p.all w0 { w0 with drawn := w0.drawn + 1 } := (Chg.refl p.all w0).drew
  refine wpAny_good2 (p := p) (by simpa using hp) (by simpa using hin) ?_ ?_ _ _ _ _ (by simp) (by simp) ⟨h0, rfl, rfl, fun i _ => hpre i, ?_, ?_, fun _ _ => rfl⟩
  · intro i hi
    obtain ⟨o, ho⟩ : ∃ o, l[i]? = some o := ⟨_, List.getElem?_eq_getElem (by simpa using hi)⟩
    refine ⟨o, by simpa using ho, ?_⟩
    have := hsteps.get i o ho
    rw [Nat.zero_add] at this
    exact this
  · intro listed a w hs hr hg
    have hall := ready_nil hs (by simpa using he) hr
    refine hend a w hg.chg hg.defers hg.size (fun i d hd => ?_) (fun i hi => hg.did i (hall i (by simpa using hi))) (fun t ht => hg.base t (by simpa using ht))
    refine hg.done i d (hall i ?_) hd
    simp only [slotOf] at hd
    cases ho : (l.toArray)[i]? with
    | none => rw [ho] at hd; cases hd
    | some o => exact (Array.getElem?_eq_some_iff.1 ho).1
  · intro i d hi _
    simp [Array.getD_eq_getD_getElem?, Array.getElem?_replicate] at hi
    split at hi <;> simp at hi
  · intro i hi
    simp [Array.getD_eq_getD_getElem?, Array.getElem?_replicate] at hi
    split at hi <;> simp at hi

/-- Slots set, one behind the other. -/
def Act.puts (a : Act) : List (Tmp × Value) → Act
  | [] => a
  | (d, v) :: l => Act.puts (a.put (some d) v) l
theorem Act.puts_size : ∀ (l : List (Tmp × Value)) (a : Act), (Act.puts a l).tmps.size = a.tmps.size
  | [], _ => rfl
  | (d, v) :: l, a => by rw [Act.puts, Act.puts_size l]; simp [Act.put]
theorem Act.puts_defers : ∀ (l : List (Tmp × Value)) (a : Act), (Act.puts a l).defers = a.defers
  | [], _ => rfl
  | (d, v) :: l, a => by rw [Act.puts, Act.puts_defers l]; simp [Act.put]
theorem Act.puts_other : ∀ (l : List (Tmp × Value)) (a : Act) (t : Tmp), t ∉ l.map (·.1) → (Act.puts a l).tmps.getD t undef = a.tmps.getD t undef
  | [], _, _, _ => rfl
  | (d, v) :: l, a, t, h => by
    simp only [List.map_cons, List.mem_cons, not_or] at h
    rw [Act.puts, Act.puts_other l _ t h.2]
    simp only [Act.put, Array.getD_eq_getD_getElem?, Array.getElem?_setIfInBounds]
    rw [if_neg (fun e => h.1 e.symm)]
theorem Act.puts_at : ∀ (l : List (Tmp × Value)) (a : Act), (l.map (·.1)).Nodup → (∀ p ∈ l, p.1 < a.tmps.size) → ∀ p ∈ l, (Act.puts a l).tmps.getD p.1 undef = p.2
  | [], _, _, _, p, hp => by cases hp
  | (d, v) :: l, a, hn, hin, p, hp => by
    simp only [List.map_cons, List.nodup_cons] at hn
    rw [Act.puts]
    rcases List.mem_cons.1 hp with rfl | hp
    · rw [Act.puts_other l _ _ hn.1, put_getD a d d v (hin (d, v) (by simp)), if_pos rfl]
    · exact Act.puts_at l _ hn.2 (fun q hq => by simp only [Act.put, Array.size_setIfInBounds]; exact hin q (List.mem_cons_of_mem _ hq)) p hp

/-- The act behind a region, written out. -/
theorem act_eq {a a0 : Act} (l : List (Tmp × Value)) (hsize : a.tmps.size = a0.tmps.size) (hdef : a.defers = a0.defers) (hn : (l.map (·.1)).Nodup) (hin : ∀ p ∈ l, p.1 < a0.tmps.size)
    (hbase : ∀ t, t ∉ l.map (·.1) → a.tmps.getD t undef = a0.tmps.getD t undef) (hval : ∀ p ∈ l, a.tmps.getD p.1 undef = p.2) : a = Act.puts a0 l := by
  have h1 : a.tmps = (Act.puts a0 l).tmps := by
    apply Array.ext
    · rw [Act.puts_size, hsize]
    · intro t h1 h2
      have e : a.tmps.getD t undef = (Act.puts a0 l).tmps.getD t undef := by
        by_cases ht : t ∈ l.map (·.1)
        · obtain ⟨p, hp, rfl⟩ := List.mem_map.1 ht
          rw [hval p hp, Act.puts_at l a0 hn hin p hp]
        · rw [hbase t ht, Act.puts_other l a0 t ht]
      simpa [Array.getD_eq_getD_getElem?, h1, h2] using e
  have h2 : a.defers = (Act.puts a0 l).defers := by rw [Act.puts_defers, hdef]
  cases a
  simp only [] at h1 h2
  rw [h1, h2]

/-- The slots hold these values. -/
def AllAt (a : Act) : List (Tmp × Value) → Prop
  | [] => True
  | p :: l => a.tmps.getD p.1 undef = p.2 ∧ AllAt a l
theorem AllAt.get {a : Act} : ∀ {l : List (Tmp × Value)}, AllAt a l → ∀ p ∈ l, a.tmps.getD p.1 undef = p.2
  | [], _, p, hp => by cases hp
  | q :: l, h, p, hp => by
    rcases List.mem_cons.1 hp with rfl | hp
    · exact h.1
    · exact AllAt.get h.2 p hp

theorem apartDst_nodup : ∀ (l : List Oper), apartDst l = true → (l.filterMap (·.dst)).Nodup
  | [], _ => by simp
  | o :: l, h => by
    simp only [apartDst, Bool.and_eq_true] at h
    cases ho : o.dst with
    | none => rw [List.filterMap_cons_none ho]; exact apartDst_nodup l h.2
    | some d =>
      rw [List.filterMap_cons_some ho, List.nodup_cons]
      refine ⟨fun hm => ?_, apartDst_nodup l h.2⟩
      obtain ⟨o', ho', hd⟩ := List.mem_filterMap.1 hm
      have h1 := h.1
      rw [ho] at h1
      have := List.all_eq_true.1 h1 o' ho'
      simp [hd] at this

/-- The region once more: its end hands the act over, written out. -/
theorem wp_region_each3 {P : Program} {id : Nat} {l : List Oper} {Q : Exit → Act → World → Prop} {a0 : Act} {w0 : World} (hm : P.follows .mixedOrders = true) (p : Plan) (hpre : ∀ i, p.Pre i w0.drew)
    (hp : apartDst l = true) (he : edgesDown 0 l = true) (hin : (l.all fun o => match o.dst with | some d => decide (d < a0.tmps.size) | none => true) = true)
    (hend : ∀ a w, Chg p.all w0 w → (∀ i d, slotOf l.toArray i = some d → p.Φ i (a.tmps.getD d undef) w) → (∀ i, i < l.length → p.Ψ i w) →
      (∀ l' : List (Tmp × Value), l'.map (·.1) = l.filterMap (·.dst) → AllAt a l' → a = Act.puts a0 l') → Q .normal a w)
    (hsteps : AllSteps (StepOk2 P l.toArray Q p a0 w0) 0 l) : (Code.region id l.toArray true).wp P Q a0 w0 := by
  refine wp_region_each2 hm p hpre hp he hin ?_ hsteps
  intro a w hc hd hs hall hpsi hb
  refine hend a w hc hall hpsi fun l' hl' hat => act_eq l' hs hd (by rw [hl']; exact apartDst_nodup l hp) ?_ ?_ hat.get
  · intro q hq
    have h1 : q.1 ∈ l'.map (·.1) := List.mem_map.2 ⟨q, hq, rfl⟩
    rw [hl'] at h1
    obtain ⟨o, ho, hd'⟩ := List.mem_filterMap.1 h1
    have := List.all_eq_true.1 hin o ho
    rw [hd'] at this
    simpa using this
  · intro t ht
    rw [hl'] at ht
    refine hb t (List.all_eq_true.2 fun o ho => ?_)
    have : o.dst ≠ some t := fun e => ht (List.mem_filterMap.2 ⟨o, ho, e⟩)
    simpa using this
end Go.Proofs.Ytgmgmjljjbcgjaa

/- What the program's head says: it may be entered, it is a cut, nothing is lifted. The head is long: the kernel looks at its first words alone. -/
import Derived.Test.YtgmgmjljjbcgjaaRows
import Derived.JoinedOf
import Derived.KernelRfl
namespace Go.Proofs.Ytgmgmjljjbcgjaa
open Go
set_option maxRecDepth 100000

theorem wordsSigns_word (a R : List Char) (h : ∀ c ∈ a, c ≠ Char.ofNat 32) : wordsSigns (a ++ Char.ofNat 32 :: R) = a :: wordsSigns R := by
  induction a with
  | nil => rfl
  | cons c a ih =>
    have hc : c ≠ Char.ofNat 32 := h c (by simp)
    rw [List.cons_append, wordsSigns, ih (fun c hc => h c (by simp [hc]))]
    intro e; exact hc e
def Head.w1 : List Char := [Char.ofNat 104, Char.ofNat 97, Char.ofNat 114, Char.ofNat 110, Char.ofNat 101, Char.ofNat 115, Char.ofNat 115]
def Head.w2 : List Char := [Char.ofNat 48, Char.ofNat 101, Char.ofNat 98, Char.ofNat 99, Char.ofNat 54, Char.ofNat 50, Char.ofNat 100, Char.ofNat 55, Char.ofNat 57, Char.ofNat 57, Char.ofNat 98, Char.ofNat 102, Char.ofNat 57, Char.ofNat 54, Char.ofNat 99, Char.ofNat 54, Char.ofNat 99, Char.ofNat 49, Char.ofNat 100, Char.ofNat 101, Char.ofNat 101, Char.ofNat 57, Char.ofNat 48, Char.ofNat 97, Char.ofNat 51, Char.ofNat 97, Char.ofNat 53, Char.ofNat 98, Char.ofNat 99, Char.ofNat 50, Char.ofNat 51, Char.ofNat 102, Char.ofNat 53, Char.ofNat 101, Char.ofNat 99, Char.ofNat 100, Char.ofNat 100, Char.ofNat 52, Char.ofNat 53, Char.ofNat 97, Char.ofNat 53, Char.ofNat 52, Char.ofNat 54, Char.ofNat 52, Char.ofNat 101, Char.ofNat 50, Char.ofNat 53, Char.ofNat 54, Char.ofNat 101, Char.ofNat 98, Char.ofNat 55, Char.ofNat 49, Char.ofNat 101, Char.ofNat 54, Char.ofNat 100, Char.ofNat 52, Char.ofNat 48, Char.ofNat 98, Char.ofNat 100, Char.ofNat 57, Char.ofNat 54, Char.ofNat 56, Char.ofNat 98, Char.ofNat 100]
def Head.w3 : List Char := [Char.ofNat 99, Char.ofNat 117, Char.ofNat 116]
theorem Head.text : ∃ R : List Char, Try.prog.initOrder = String.ofList (Head.w1 ++ Char.ofNat 32 :: (Head.w2 ++ Char.ofNat 32 :: (Head.w3 ++ Char.ofNat 32 :: R))) := ⟨_, rfl⟩
theorem Head.words : ∃ T : List (List Char), wordsSigns Try.prog.initOrder.toList = Head.w1 :: Head.w2 :: Head.w3 :: T := by
  obtain ⟨R, hR⟩ := Head.text
  refine ⟨wordsSigns R, ?_⟩
  rw [hR, String.toList_ofList, wordsSigns_word _ _ (by unfold Head.w1; decide), wordsSigns_word _ _ (by unfold Head.w2; decide), wordsSigns_word _ _ (by unfold Head.w3; decide)]
theorem Head.e1 : (Head.w1 == "harness".toList) = true := by unfold Head.w1; decide
theorem Head.e3 : Head.w3 = "cut".toList := by unfold Head.w3; decide
theorem Head.sum : isSumSigns Head.w2 = true := by unfold Head.w2; decide
theorem Head.behind : ∃ T : List (List Char), behindMainWord (wordsSigns Try.prog.initOrder.toList) = "cut".toList :: T := by
  obtain ⟨T, hT⟩ := Head.words
  refine ⟨T, ?_⟩
  rw [hT, ← Head.e3]
  unfold behindMainWord
  simp only [Head.e1, Head.sum, Bool.true_or, Bool.and_self, if_true]
theorem stripLifts_cut : ∀ (l : List String) (T : List (List Char)), (∀ o ∈ l, ("cut".toList == o.toList) = false) → stripLifts l ("cut".toList :: T) = ([], "cut".toList :: T)
  | [], T, _ => rfl
  | o :: l, T, h => by
    rw [stripLifts, h o (by simp)]
    exact stripLifts_cut l T (fun o ho => h o (by simp [ho]))
theorem Head.strip (T : List (List Char)) : stripLifts liftWords ("cut".toList :: T) = ([], "cut".toList :: T) := by
  apply stripLifts_cut
  unfold liftWords
  decide
theorem lifts_of (P : Program) (T : List (List Char)) (hT : behindMainWord (wordsSigns P.initOrder.toList) = "cut".toList :: T) : P.headLifts = [] := by
  unfold Program.headLifts
  simp only [hT, Head.strip]
  have h : (("cut".toList :: T).head? == some "cut".toList) = true := by
    show (some "cut".toList == some "cut".toList) = true
    decide
  rw [if_pos h]
theorem final_of (P : Program) (T : List (List Char)) (hT : behindMainWord (wordsSigns P.initOrder.toList) = "cut".toList :: T) : P.liftsFinal = false := by
  unfold Program.liftsFinal
  rw [hT, lifts_of P T hT]
  dsimp only
  have h : ((("cut".toList :: T).head? : Option (List Char)) == some "carried".toList) = false := by
    show (some "cut".toList == some "carried".toList) = false
    decide
  rw [h, Bool.false_and, Bool.false_or]; rfl
theorem make_of (P : Program) (T : List (List Char)) (hT : behindMainWord (wordsSigns P.initOrder.toList) = "cut".toList :: T) : P.make = some .cut := by
  unfold Program.make
  rw [hT]
  have h1 : ("cut".toList == "gc".toList || "cut".toList == "spec".toList) = false := by decide
  have h2 : ("cut".toList == "cut".toList) = true := by decide
  simp only [h1, h2, Bool.true_or, if_true, Bool.false_eq_true, if_false]
theorem enter_of (P : Program) (T : List (List Char)) (hT : behindMainWord (wordsSigns P.initOrder.toList) = "cut".toList :: T) (hl : P.laysLater = false) (hr : P.bearsReflect = false) (hd : P.doorFits [] = true) : P.mayEnter = true := by
  unfold Program.mayEnter
  rw [hT]
  dsimp only
  rw [Head.strip, hl, hr, hd]
  have h : (("cut".toList :: T).head? == some "cut".toList) = true := by
    show (some "cut".toList == some "cut".toList) = true
    decide
  have h1 : (([] : List String).contains "finals") = false := rfl
  have h2 : (([] : List String).contains "reflectrows") = false := rfl
  have h3 : (([] : List String).contains "leanrows") = false := rfl
  rw [h, h1, h2, h3]
  simp only [Bool.not_false, Bool.or_true, Bool.and_self]
theorem Head.final : Try.prog.liftsFinal = false := by
  obtain ⟨T, hT⟩ := Head.behind
  exact final_of _ T hT
theorem Head.make : Try.prog.make = some .cut := by
  obtain ⟨T, hT⟩ := Head.behind
  exact make_of _ T hT
theorem Head.later : Try.prog.laysLater = false := by kernel_rfl
theorem Head.reflect : Try.prog.bearsReflect = false := by kernel_rfl
theorem Head.door : Try.prog.doorFits [] = true := by kernel_rfl
theorem Head.enter : Try.prog.mayEnter = true := by
  obtain ⟨T, hT⟩ := Head.behind
  exact enter_of _ T hT Head.later Head.reflect Head.door
theorem Try.own : ownKnob Try.prog.godebug = none := by kernel_rfl
theorem Try.laidOut : laidOutB Try.prog = true := by kernel_rfl
theorem Head.mapsRowed : mapsRowed Try.prog = true := by kernel_rfl
theorem Head.stops : (Try.prog.stops == []) = true := by kernel_rfl
theorem Head.knobs : (Try.prog.stopKnobs == []) = true := by kernel_rfl
theorem Head.plainKeys : Try.prog.plainKeys = true := by kernel_rfl
theorem Head.heard : Try.prog.stopsHeard = true := by kernel_rfl

theorem joined_of {P : Program} {f : FuncId} {fn : Func} {s : ChangeSpec} {c : OpenClaim}
    (k1 : c.wf (OpenSpec.ofChange s) = true) (k2 : laidOutB P = true) (k3 : mapsRowed P = true) (k4 : fn.params.all (P.readableRec ·) = true) (k5 : namedTie P c.named s.vars = true)
    (k6 : (c.stops == []) = true) (k7 : (P.stops == []) = true) (k8 : (c.knobs == []) = true) (k9 : (P.stopKnobs == []) = true)
    (k10 : (c.inPlace == P.inPlace f) = true) (k11 : (c.unfollowed == P.unfollowed f) = true) (k12 : (c.recurses == P.recurses f) = true) (k13 : (c.named == P.varsNamed f) = true)
    (k14 : (c.maps == (fn.params.toList ++ s.plain.varTypes P).any (P.mapsRec ·)) = true) (k15 : (c.ifaces == (fn.params.toList ++ s.plain.varTypes P).any (P.ifacesRec ·)) = true) (k16 : (c.mapsOut == P.mapsAmong fn.resultTypes.toList) = true)
    (k17 : (c.loops == (fn.params.toList ++ s.plain.varTypes P).any (P.loopsFrom ·)) = true) (k17b : (c.wideKeys == (fn.params.toList ++ s.plain.varTypes P ++ fn.resultTypes.toList).any (P.wideKeysFrom ·)) = true)
    (k18 : s.vars.all (P.varReadable ·) = true) (k19 : fn.resultTypes.all (fun t => P.readableRec t && decide (t < P.types.size)) = true) (k20 : (c.ifacesOut == fn.resultTypes.toList.any (P.ifacesRec ·)) = true) (k21 : (c.loopsOut == fn.resultTypes.toList.any (P.loopsFrom ·)) = true)
    (k22 : P.plainKeys = true) (k22b : c.plainKeys = true) (k23 : c.shortTexts.isNone = true) (k23b : P.stopsHeard = true) (k24 : P.mayEnter = true) (k24b : P.liftsFinal = false) (k24d : c.lifted = false) (k24c : P.make = some .cut) (k24e : c.make = .cut)
    (k25 : c.domain = []) (k25b : c.kinds = []) (k26 : (c.pinned == c.pinnedBy) = true)
    (k27 : (c.veiled == (fn.params.toList ++ s.plain.varTypes P ++ fn.resultTypes.toList).any (P.veiledRec ·)) = true) (k28 : c.veiledFits P fn.params.toList (fn.params.toList ++ s.plain.varTypes P ++ fn.resultTypes.toList) = true) : joinedFacts P f fn s c = true := by
  have e1 : (c.plainKeys == P.plainKeys) = true := by rw [k22, k22b]; rfl
  have e2 : (c.lifted == P.liftsFinal) = true := by rw [k24b, k24d]; rfl
  have e4 : ∀ X : List (Option IntKind), (c.kinds == if c.domain.isEmpty = true then [] else X) = true := by intro X; rw [k25, k25b]; rfl
  have e3 : (P.make == some c.make) = true := by rw [k24c, k24e]; decide
  unfold joinedFacts
  rw [k1, k2, k3, k4, k5, k6, k7, k8, k9, k10, k11, k12, k13, k14, k15, k16, k17, k17b, k18, k19, k20, k21, e1, k23, k23b, k24, e2, e3, e4, k26, k27, k28]
  rfl

/-- The builder of this place's rows: what goes by the program alone is met here. -/
theorem row_holds {s : ChangeSpec} {c : OpenClaim} (f : FuncId) (fn : Func)
    (hn : c.program = Try.pinned.name) (hs : c.sum = Try.pinned.sum) (hsp : c.spec = s.name)
    (hstart : c.start = .entering) (hout : c.outside = []) (hin : c.inits = []) (hun : c.under = none) (hi4 : c.initsInPlace = [] ∧ c.initsUnfollowed = false ∧ c.initsRecurse = false ∧ c.initsNamed = [] ∧ c.initsPassed = []) (hnb : c.noBlocks = false) (hlv : c.leaving = false) (hfo : c.followed = none) (hnar : c.narrowed = false) (hstill : c.still = false)
    (hfn : Try.prog.funcNamed c.func = some f) (hf : Try.prog.funcs[f]? = some fn)
    (k1 : c.wf (OpenSpec.ofChange s) = true) (k4 : fn.params.all (Try.prog.readableRec ·) = true) (k5 : namedTie Try.prog c.named s.vars = true)
    (k6 : (c.stops == []) = true) (k8 : (c.knobs == []) = true)
    (k10 : (c.inPlace == Try.prog.inPlace f) = true) (k11 : (c.unfollowed == Try.prog.unfollowed f) = true) (k12 : (c.recurses == Try.prog.recurses f) = true) (k13 : (c.named == Try.prog.varsNamed f) = true)
    (k14 : (c.maps == (fn.params.toList ++ s.plain.varTypes Try.prog).any (Try.prog.mapsRec ·)) = true) (k15 : (c.ifaces == (fn.params.toList ++ s.plain.varTypes Try.prog).any (Try.prog.ifacesRec ·)) = true) (k16 : (c.mapsOut == Try.prog.mapsAmong fn.resultTypes.toList) = true)
    (k17 : (c.loops == (fn.params.toList ++ s.plain.varTypes Try.prog).any (Try.prog.loopsFrom ·)) = true) (k17b : (c.wideKeys == (fn.params.toList ++ s.plain.varTypes Try.prog ++ fn.resultTypes.toList).any (Try.prog.wideKeysFrom ·)) = true)
    (k18 : s.vars.all (Try.prog.varReadable ·) = true) (k19 : fn.resultTypes.all (fun t => Try.prog.readableRec t && decide (t < Try.prog.types.size)) = true) (k20 : (c.ifacesOut == fn.resultTypes.toList.any (Try.prog.ifacesRec ·)) = true) (k21 : (c.loopsOut == fn.resultTypes.toList.any (Try.prog.loopsFrom ·)) = true)
    (k22b : c.plainKeys = true) (k23 : c.shortTexts.isNone = true) (k24d : c.lifted = false) (k24e : c.make = .cut)
    (k25 : c.domain = []) (k25b : c.kinds = []) (k26 : (c.pinned == c.pinnedBy) = true)
    (k27 : (c.veiled == (fn.params.toList ++ s.plain.varTypes Try.prog ++ fn.resultTypes.toList).any (Try.prog.veiledRec ·)) = true) (k28 : c.veiledFits Try.prog fn.params.toList (fn.params.toList ++ s.plain.varTypes Try.prog ++ fn.resultTypes.toList) = true)
    (hinst : fn.isInstance Try.prog c.origin c.targs) (hwrap : fn.isWrapper Try.prog c.wrapper c.mainSum)
    (h : ∀ os : Os, os.Started → ∀ (H : Type) (enc : TypeId × Value → H),
      ReturnsInHanded c.assume Try.checked os f .any (c.pre enc Try.prog fn (OpenSpec.ofChange s)) (s.post enc Try.prog fn c.apart c.fresh c.handsOn c.again)) : c.holds Try.pinned (OpenSpec.ofChange s) :=
  OpenClaim.holds_of_wide (p := Try.pinned) f fn hn hs hsp hstart hout hin hun hi4 hnb hlv hfo hnar hstill hfn hf
    (joined_of k1 Try.laidOut Head.mapsRowed k4 k5 k6 Head.stops k8 Head.knobs k10 k11 k12 k13 k14 k15 k16 k17 k17b k18 k19 k20 k21 Head.plainKeys k22b k23 Head.heard Head.enter Head.final k24d Head.make k24e k25 k25b k26 k27 k28)
    hinst hwrap (fun os started H enc _ => h os started H enc)
end Go.Proofs.Ytgmgmjljjbcgjaa

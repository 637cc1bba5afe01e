/- JournalNil: a nil journal, and the zero one, keep nothing; and there is none without a store; the one condition is the guard of few. -/
import Derived.Test.YtgmgmjljjbcgjaaJournalNilW
import Derived.Test.YtgmgmjljjbcgjaaLaw
import Derived.OpenShut
import Derived.Lib.SmallJoins
namespace Go.Proofs.Ytgmgmjljjbcgjaa
open Go Go.ChangeShapes Go.WideShapes Go.ChangeAt Go.RowKit Go.WideMaps Go.WideElems
open Go.ChangeMaps (open_string)

set_option maxRecDepth 100000 in
theorem journalNil_lifted (os : Os) (started : os.Started) (H : Type) (enc : TypeId × Value → H) :
    ReturnsInHanded {} Try.checked os 24 .any (Rows.journalNilSpec.pre6 enc Try.prog Try.f24 Rows.journalNilRow.domain false) (Rows.journalNilSpec.post enc Try.prog Try.f24 false true false false) := by
  refine returnsInHanded_of_change (C := Try.checked) Try.own started (by kernel_rfl) Try.func24
    (ChangeSpec.witness6 (enc := enc) (C := Try.checked) false ⟨#[], #[.agg #[.int .i64 0, .int .i64 0, .int .i64 0, .string ByteArray.empty], .bool false], []⟩ 8 (by kernel_rfl) (by kernel_rfl) (by kernel_rfl) (by kernel_rfl)) ?_
  intro W base args ds gs before hval0 hW _ _
  have hval : ∀ (j : Nat) t v, Try.f24.params[j]? = some t → args[j]? = some v → Value.okWide Try.prog W .any base t v := hval0
  have hW' : DataW.Whole enc Try.prog Try.f24.params.toList Rows.journalNilSpec.vars false W args.toList ds gs before := hW
  obtain ⟨p, q, hA0, hV, rfl, _, _⟩ := hW
  have hA : DataW.TrodAll enc Try.prog W 0 (fun _ => true) true Try.f24.params.toList args.toList ds p := hA0
  rw [Try.params24] at hA hval
  obtain ⟨v0, v1, d0, d1, p0, p1, rfl, rfl, rfl, h0, h1⟩ := trodAll_two hA
  obtain ⟨rfl, rfl⟩ := trodVars_none hV
  obtain ⟨c0, c1, c2, c3, y0, y1, y2, y3, n0, rfl, rfl, rfl, t0, t1, t2, t3⟩ := Go.Joins.open_agg4 Try.underlying62 (by kernel_rfl) (by kernel_rfl) (hval 0 62 v0 rfl rfl) h0
  obtain ⟨z1, rfl, rfl, rfl⟩ := open_bool Try.underlying4 (hval 1 4 v1 rfl rfl) h1
  clear hA0 hval0
  obtain ⟨k0, e0, rfl, w0⟩ := DataW.trod_int Try.underlying3 t0
  obtain ⟨k1, e1, rfl, w1⟩ := DataW.trod_int Try.underlying3 t1
  obtain ⟨k2, e2, rfl, w2⟩ := DataW.trod_int Try.underlying3 t2
  obtain ⟨k3, e3, rfl, w3⟩ := DataW.trod_string Try.underlying9 t3
  simp at e0 e1 e2 e3
  subst e0 e1 e2 e3
  refine (JournalNil_calls ⟨k0, k1, k2, k3⟩ z1 W).mono fun e W' ⟨he, hc⟩ => ?_
  subst he
  exact ⟨_, rfl, law_shut (fn := Try.f24) (s := Rows.journalNilSpec) rfl (by kernel_rfl) rfl (by rw [Try.params24]; decide +kernel) hW' hc.nil_below⟩

theorem journalNil_holds : Rows.JournalNilSaid :=
  row_holds 24 Try.f24 rfl rfl rfl rfl rfl rfl rfl ⟨rfl, rfl, rfl, rfl, rfl⟩ rfl rfl rfl rfl rfl (by as_aux_lemma => kernel_rfl) Try.func24
    (by as_aux_lemma => kernel_rfl) (by as_aux_lemma => kernel_rfl) (by as_aux_lemma => kernel_rfl) rfl rfl (by as_aux_lemma => kernel_rfl) (by as_aux_lemma => kernel_rfl) (by as_aux_lemma => kernel_rfl) (by as_aux_lemma => kernel_rfl)
    (by as_aux_lemma => kernel_rfl) (by as_aux_lemma => kernel_rfl) (by as_aux_lemma => kernel_rfl) (by as_aux_lemma => kernel_rfl) (by as_aux_lemma => kernel_rfl) (by as_aux_lemma => kernel_rfl) (by as_aux_lemma => kernel_rfl) (by as_aux_lemma => kernel_rfl) (by as_aux_lemma => kernel_rfl)
    rfl rfl rfl rfl rfl rfl (by as_aux_lemma => kernel_rfl) (by as_aux_lemma => kernel_rfl) (by as_aux_lemma => kernel_rfl)
    (of_decide_eq_true (by as_aux_lemma => kernel_rfl)) (by unfold Func.isWrapper; rw [if_neg (of_decide_eq_false (by kernel_rfl))]; exact ⟨rfl, rfl⟩)
    (fun os started H enc => journalNil_lifted os started H enc)
end Go.Proofs.Ytgmgmjljjbcgjaa

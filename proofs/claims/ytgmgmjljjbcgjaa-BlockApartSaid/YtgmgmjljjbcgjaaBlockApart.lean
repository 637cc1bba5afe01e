/- BlockApart: whatever blocks, bytes and part: no write touches another block than the one it names, and what is cut off is a beginning of the new one and the rest of the old one; no condition. -/
import Derived.Test.YtgmgmjljjbcgjaaBlockApartW
import Derived.Test.YtgmgmjljjbcgjaaLaw
import Derived.OpenShut
namespace Go.Proofs.Ytgmgmjljjbcgjaa
open Go Go.ChangeShapes Go.WideShapes Go.ChangeAt Go.RowKit Go.WideMaps Go.WideElems
open Go.ChangeMaps (open_string)

set_option maxRecDepth 100000 in
theorem blockApart_lifted (os : Os) (started : os.Started) (H : Type) (enc : TypeId × Value → H) :
    ReturnsInHanded {} Try.checked os 6 .any (Rows.blockApartSpec.pre6 enc Try.prog Try.f6 Rows.blockApartRow.domain false) (Rows.blockApartSpec.post enc Try.prog Try.f6 false true false false) := by
  refine returnsInHanded_of_change (C := Try.checked) Try.own started (by kernel_rfl) Try.func6
    (ChangeSpec.witness6 (enc := enc) (C := Try.checked) false ⟨#[], #[.int .u16 0, .int .u16 0, .int .u8 0, .int .u8 0, .int .i64 0], []⟩ 8 (by kernel_rfl) (by kernel_rfl) (by kernel_rfl) (by kernel_rfl)) ?_
  intro W base args ds gs before hval0 hW _ _
  have hval : ∀ (j : Nat) t v, Try.f6.params[j]? = some t → args[j]? = some v → Value.okWide Try.prog W .any base t v := hval0
  have hW' : DataW.Whole enc Try.prog Try.f6.params.toList Rows.blockApartSpec.vars false W args.toList ds gs before := hW
  obtain ⟨p, q, hA0, hV, rfl, _, _⟩ := hW
  have hA : DataW.TrodAll enc Try.prog W 0 (fun _ => true) true Try.f6.params.toList args.toList ds p := hA0
  rw [Try.params6] at hA hval
  obtain ⟨v0, vs0, d0, ds0, p0, q0, e0, rfl, rfl, h0, hR0⟩ := trodAll_cons hA
  obtain ⟨v1, vs1, d1, ds1, p1, q1, e1, rfl, rfl, h1, hR1⟩ := trodAll_cons hR0
  obtain ⟨v2, vs2, d2, ds2, p2, q2, e2, rfl, rfl, h2, hR2⟩ := trodAll_cons hR1
  obtain ⟨v3, vs3, d3, ds3, p3, q3, e3, rfl, rfl, h3, hR3⟩ := trodAll_cons hR2
  obtain ⟨v4, vs4, d4, ds4, p4, q4, e4, rfl, rfl, h4, hR4⟩ := trodAll_cons hR3
  have hn5 : vs4 = [] ∧ ds4 = [] ∧ q4 = [] := by
    cases vs4 <;> cases ds4 <;> simp_all [DataW.TrodAll]
  obtain ⟨rfl, rfl, rfl⟩ := hn5
  obtain rfl : args = #[v0, v1, v2, v3, v4] := by
    apply Array.toList_inj.1
    rw [e0, e1, e2, e3, e4]
  obtain ⟨rfl, rfl⟩ := trodVars_none hV
  obtain ⟨a0, rfl, rfl, rfl, w0⟩ := open_int Try.underlying22 (hval 0 22 v0 rfl rfl) h0
  have b0 := bounds_u16 w0
  obtain ⟨a1, rfl, rfl, rfl, w1⟩ := open_int Try.underlying22 (hval 1 22 v1 rfl rfl) h1
  have b1 := bounds_u16 w1
  obtain ⟨a2, rfl, rfl, rfl, w2⟩ := open_int Try.underlying5 (hval 2 5 v2 rfl rfl) h2
  have b2 := bounds_u8 w2
  obtain ⟨a3, rfl, rfl, rfl, w3⟩ := open_int Try.underlying5 (hval 3 5 v3 rfl rfl) h3
  have b3 := bounds_u8 w3
  obtain ⟨a4, rfl, rfl, rfl, w4⟩ := open_int Try.underlying3 (hval 4 3 v4 rfl rfl) h4
  have b4 := bounds_i64 w4
  clear hA0 hval0
  obtain ⟨n, rfl⟩ := Int.eq_ofNat_of_zero_le b0.1
  obtain ⟨m, rfl⟩ := Int.eq_ofNat_of_zero_le b1.1
  have e1 : a2 = ((UInt8.ofNat a2.toNat).toNat : Int) := by rw [UInt8.toNat_ofNat']; omega
  have e2 : a3 = ((UInt8.ofNat a3.toNat).toNat : Int) := by rw [UInt8.toNat_ofNat']; omega
  refine (BlockApart_calls n m (by omega) (by omega) a2 a3 _ _ e1 e2 a4 W).mono fun e W' ⟨he, hc⟩ => ?_
  subst he
  exact ⟨_, rfl, law_shut (fn := Try.f6) (s := Rows.blockApartSpec) rfl (by kernel_rfl) rfl (by rw [Try.params6]; decide +kernel) hW' hc.nil_below⟩

theorem blockApart_holds : Rows.BlockApartSaid :=
  row_holds 6 Try.f6 rfl rfl rfl rfl rfl rfl rfl ⟨rfl, rfl, rfl, rfl, rfl⟩ rfl rfl rfl rfl rfl (by as_aux_lemma => kernel_rfl) Try.func6
    (by as_aux_lemma => kernel_rfl) (by as_aux_lemma => kernel_rfl) (by as_aux_lemma => kernel_rfl) rfl rfl (by as_aux_lemma => kernel_rfl) (by as_aux_lemma => kernel_rfl) (by as_aux_lemma => kernel_rfl) (by as_aux_lemma => kernel_rfl)
    (by as_aux_lemma => kernel_rfl) (by as_aux_lemma => kernel_rfl) (by as_aux_lemma => kernel_rfl) (by as_aux_lemma => kernel_rfl) (by as_aux_lemma => kernel_rfl) (by as_aux_lemma => kernel_rfl) (by as_aux_lemma => kernel_rfl) (by as_aux_lemma => kernel_rfl) (by as_aux_lemma => kernel_rfl)
    rfl rfl rfl rfl rfl rfl (by as_aux_lemma => kernel_rfl) (by as_aux_lemma => kernel_rfl) (by as_aux_lemma => kernel_rfl)
    (of_decide_eq_true (by as_aux_lemma => kernel_rfl)) (by unfold Func.isWrapper; rw [if_neg (of_decide_eq_false (by kernel_rfl))]; exact ⟨rfl, rfl⟩)
    (fun os started H enc => blockApart_lifted os started H enc)
end Go.Proofs.Ytgmgmjljjbcgjaa

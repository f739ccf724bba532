/- For every code the law EnumerateWeights returns true: Weights counts the words of each weight; there are Q^K words in all, and one of weight 0.
   Conditions: none but those of the given statement's own form. -/
import Derived.Test.YtcigdhmecfhndaaLwa
import Derived.Test.YtcigdhmecfhndaaFacts
namespace Go.Proofs.Ytcigdhmecfhndaa
open Go.ChangeShapes Go.WideShapes Go.ChangeAt Go.RowKit
set_option linter.unusedVariables false

set_option maxRecDepth 100000 in
theorem enumerateWeights_lifted (os : Os) (started : os.Started) (H : Type) (enc : TypeId × Value → H) :
    ReturnsInHanded {} Try.checked os 3 .any (Rows.enumerateWeightsSpec.pre6 enc Try.prog Try.f3 Rows.enumerateWeightsRow.domain false) (Rows.enumerateWeightsSpec.post enc Try.prog Try.f3 false true false false) := by
  refine returnsInHanded_of_change_sized (C := Try.checked) row_own started (by kernel_rfl) Try.func3
    (ChangeSpec.witness6 (enc := enc) (C := Try.checked) false ⟨#[], #[.agg #[.int .i64 0, .int .i64 0, .slice none 0 0, .int .i64 0, .slice none 0 0]], []⟩ 8 (by kernel_rfl) (by kernel_rfl) (by kernel_rfl) (by kernel_rfl)) ?_
  intro W base args ds gs before hval0 hW hcnd hsz0 _
  have hsz : (DataW.weightsEach Try.prog (Try.f3.params.toList ++ Rows.enumerateWeightsSpec.plain.varTypes Try.prog) (ds ++ gs)).all (· ≤ reachBytes) = true := hsz0
  have hval : ∀ (j : Nat) t v, Try.f3.params[j]? = some t → args[j]? = some v → Value.okWide Try.prog W .any base t v := hval0
  have hW' := hW
  obtain ⟨p, q, hA0, hV, rfl, hfz, hnd⟩ := hW
  have hA : DataW.TrodAll enc Try.prog W 0 (fun _ => true) true Try.f3.params.toList args.toList ds p := hA0
  rw [Try.params3] at hA hval hsz
  obtain ⟨v0, vs0, d0, ds0, p0, q0, hargs, rfl, rfl, h0, r0⟩ := trodAll_cons hA
  obtain ⟨rfl, rfl, rfl⟩ := trodAll_nil r0
  obtain rfl : args = #[v0] := by cases args; simp_all
  obtain ⟨rfl, rfl⟩ := trodVars_none hV
  have lt0 : ∀ x ∈ p0, x.block < W.heap.size := by obtain ⟨m, hm⟩ := h0; exact DataW.trod_lt m _ _ _ hm
  obtain ⟨F, A, n, c, rows, Ar, nr, cr, N, rfl, a1, a2, a3, a4, a5, a6, a7⟩ := read_code (hval 0 _ v0 rfl rfl) h0 (fits_at hsz (j := 0) rfl rfl)
  clear hA0 hval0 hsz0
  refine (law_enumerateWeights F A n c rows Ar nr cr N W a1 a2 a3 a4 a5).mono fun e W' ⟨he, bel⟩ => ?_
  subst he
  exact ⟨_, rfl, _, _, _, [], _, [], hW', trodAll_mk1 (shut_bool Try.underlying4 _), (trodAll_cons_mk (Below.trod row_laid (by kernel_rfl) (of_decide_eq_true (by kernel_rfl)) h0 bel.out lt0) trodAll_mk0), rfl, bel.out.frame _, fun h => by cases h⟩

theorem enumerateWeights_fact9 : (Rows.enumerateWeightsRow.inPlace == Try.prog.inPlace 3) = true := by kernel_rfl
theorem enumerateWeights_fact10 : (Rows.enumerateWeightsRow.unfollowed == Try.prog.unfollowed 3) = true := by kernel_rfl
theorem enumerateWeights_fact11 : (Rows.enumerateWeightsRow.recurses == Try.prog.recurses 3) = true := by kernel_rfl
theorem enumerateWeights_fact12 : (Rows.enumerateWeightsRow.named == Try.prog.varsNamed 3) = true := by kernel_rfl
theorem enumerateWeights_facts : joinedFacts Try.prog 3 Try.f3 Rows.enumerateWeightsSpec Rows.enumerateWeightsRow = true :=
  facts_join (by as_aux_lemma => kernel_rfl) (by as_aux_lemma => kernel_rfl) (by as_aux_lemma => kernel_rfl) (by as_aux_lemma => kernel_rfl) (by as_aux_lemma => kernel_rfl) enumerateWeights_fact9 enumerateWeights_fact10 enumerateWeights_fact11 enumerateWeights_fact12 (by as_aux_lemma => kernel_rfl) (by as_aux_lemma => kernel_rfl) (by as_aux_lemma => kernel_rfl) (by as_aux_lemma => kernel_rfl) (by as_aux_lemma => kernel_rfl) (by as_aux_lemma => kernel_rfl) (by as_aux_lemma => kernel_rfl) (by as_aux_lemma => kernel_rfl) (by as_aux_lemma => kernel_rfl) (by as_aux_lemma => kernel_rfl) (by as_aux_lemma => kernel_rfl) (by as_aux_lemma => kernel_rfl) (by as_aux_lemma => kernel_rfl) (by as_aux_lemma => kernel_rfl) rfl rfl rfl

theorem enumerateWeights_proved : Rows.EnumerateWeightsSaid :=
  OpenClaim.holds_of_wide 3 Try.f3 rfl rfl rfl rfl rfl rfl rfl ⟨rfl, rfl, rfl, rfl, rfl⟩ rfl rfl rfl rfl rfl (by as_aux_lemma => kernel_rfl) Try.func3 enumerateWeights_facts
    (of_decide_eq_true (by as_aux_lemma => kernel_rfl)) (by as_aux_lemma => (unfold Func.isWrapper; first | (rw [if_pos (by decide +kernel)]; kernel_rfl) | (rw [if_neg (by decide +kernel)]; exact ⟨rfl, rfl⟩)))
    (fun os started H enc _ => enumerateWeights_lifted os started H enc)

#print axioms enumerateWeights_proved
end Go.Proofs.Ytcigdhmecfhndaa

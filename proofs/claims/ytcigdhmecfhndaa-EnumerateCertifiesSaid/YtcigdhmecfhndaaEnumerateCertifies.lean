/- For every code the law EnumerateCertifies returns true: Certify counts the side with fewer words, and Check accepts its result.
   Conditions: none but those of the given statement's own form. -/
import Derived.Test.YtcigdhmecfhndaaLce
import Derived.Test.YtcigdhmecfhndaaFacts
import Derived.Test.YtcigdhmecfhndaaRow2
namespace Go.Proofs.Ytcigdhmecfhndaa
open Go.ChangeShapes Go.WideShapes Go.ChangeAt Go.RowKit
set_option linter.unusedVariables false

set_option maxRecDepth 100000 in
theorem enumerateCertifies_lifted (os : Os) (started : os.Started) (H : Type) (enc : TypeId × Value → H) :
    ReturnsInHanded {} Try.checked os 14 .any (Rows.enumerateCertifiesSpec.pre6 enc Try.prog Try.f14 Rows.enumerateCertifiesRow.domain false) (Rows.enumerateCertifiesSpec.post enc Try.prog Try.f14 false true false false) := by
  refine returnsInHanded_of_change_sized (C := Try.checked) row_own started (by kernel_rfl) Try.func14
    (ChangeSpec.witness6 (enc := enc) (C := Try.checked) false ⟨#[], #[.agg #[.int .i64 0, .int .i64 0, .slice none 0 0, .int .i64 0, .slice none 0 0]], []⟩ 8 (by kernel_rfl) (by kernel_rfl) (by kernel_rfl) (by kernel_rfl)) ?_
  intro W base args ds gs before hval0 hW hcnd hsz0 _
  have hsz : (DataW.weightsEach Try.prog (Try.f14.params.toList ++ Rows.enumerateCertifiesSpec.plain.varTypes Try.prog) (ds ++ gs)).all (· ≤ reachBytes) = true := hsz0
  have hval : ∀ (j : Nat) t v, Try.f14.params[j]? = some t → args[j]? = some v → Value.okWide Try.prog W .any base t v := hval0
  have hW' := hW
  obtain ⟨p, q, hA0, hV, rfl, hfz, hnd⟩ := hW
  have hA : DataW.TrodAll enc Try.prog W 0 (fun _ => true) true Try.f14.params.toList args.toList ds p := hA0
  rw [Try.params14] at hA hval hsz
  obtain ⟨v0, vs0, d0, ds0, p0, q0, hargs, rfl, rfl, h0, r0⟩ := trodAll_cons hA
  obtain ⟨rfl, rfl, rfl⟩ := trodAll_nil r0
  obtain rfl : args = #[v0] := by cases args; simp_all
  obtain ⟨rfl, rfl⟩ := trodVars_none hV
  have lt0 : ∀ x ∈ p0, x.block < W.heap.size := by obtain ⟨m, hm⟩ := h0; exact DataW.trod_lt m _ _ _ hm
  obtain ⟨F, A, n, c, rows, Ar, nr, cr, N, rfl, a1, a2, a3, a4, a5, a6, a7⟩ := read_code (hval 0 _ v0 rfl rfl) h0 (fits_at hsz (j := 0) rfl rfl)
  clear hA0 hval0 hsz0
  refine (law_enumerateCertifies F A n c rows Ar nr cr N W a1 a2 a3 a4 a5).mono fun e W' ⟨he, bel⟩ => ?_
  subst he
  exact ⟨_, rfl, _, _, _, [], _, [], hW', trodAll_mk1 (shut_bool Try.underlying4 _), (trodAll_cons_mk (Below.trod row_laid (by kernel_rfl) (of_decide_eq_true (by kernel_rfl)) h0 bel.out lt0) trodAll_mk0), rfl, bel.out.frame _, fun h => by cases h⟩

theorem enumerateCertifies_fact9 : (Rows.enumerateCertifiesRow.inPlace == Try.prog.inPlace 14) = true := by kernel_rfl
theorem enumerateCertifies_fact10 : (Rows.enumerateCertifiesRow.unfollowed == Try.prog.unfollowed 14) = true := by kernel_rfl
theorem enumerateCertifies_fact11 : (Rows.enumerateCertifiesRow.recurses == Try.prog.recurses 14) = true := by kernel_rfl
theorem enumerateCertifies_fact12 : (Rows.enumerateCertifiesRow.named == Try.prog.varsNamed 14) = true := by kernel_rfl
theorem enumerateCertifies_facts : joinedFacts Try.prog 14 Try.f14 Rows.enumerateCertifiesSpec Rows.enumerateCertifiesRow = true :=
  facts_join (by as_aux_lemma => kernel_rfl) (by as_aux_lemma => kernel_rfl) (by as_aux_lemma => kernel_rfl) (by as_aux_lemma => kernel_rfl) (by as_aux_lemma => kernel_rfl) enumerateCertifies_fact9 enumerateCertifies_fact10 enumerateCertifies_fact11 enumerateCertifies_fact12 (by as_aux_lemma => kernel_rfl) (by as_aux_lemma => kernel_rfl) (by as_aux_lemma => kernel_rfl) (by as_aux_lemma => kernel_rfl) (by as_aux_lemma => kernel_rfl) (by as_aux_lemma => kernel_rfl) (by as_aux_lemma => kernel_rfl) (by as_aux_lemma => kernel_rfl) (by as_aux_lemma => kernel_rfl) (by as_aux_lemma => kernel_rfl) (by as_aux_lemma => kernel_rfl) (by as_aux_lemma => kernel_rfl) (by as_aux_lemma => kernel_rfl) (by as_aux_lemma => kernel_rfl) rfl rfl rfl

theorem enumerateCertifies_proved : Rows.EnumerateCertifiesSaid :=
  OpenClaim.holds_of_wide 14 Try.f14 rfl rfl rfl rfl rfl rfl rfl ⟨rfl, rfl, rfl, rfl, rfl⟩ rfl rfl rfl rfl rfl (by as_aux_lemma => kernel_rfl) Try.func14 enumerateCertifies_facts
    (of_decide_eq_true (by as_aux_lemma => kernel_rfl)) (by as_aux_lemma => (unfold Func.isWrapper; first | (rw [if_pos (by decide +kernel)]; kernel_rfl) | (rw [if_neg (by decide +kernel)]; exact ⟨rfl, rfl⟩)))
    (fun os started H enc _ => enumerateCertifies_lifted os started H enc)

#print axioms enumerateCertifies_proved
end Go.Proofs.Ytcigdhmecfhndaa

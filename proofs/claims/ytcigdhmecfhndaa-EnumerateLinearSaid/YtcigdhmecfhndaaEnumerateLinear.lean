/- For every code the law EnumerateLinear returns true: the distance distribution of all words of a code is the number of its words times its weight distribution.
   Conditions: none but those of the given statement's own form. -/
import Derived.Test.YtcigdhmecfhndaaLco
import Derived.Test.YtcigdhmecfhndaaFacts
import Derived.Test.YtcigdhmecfhndaaRow2
namespace Go.Proofs.Ytcigdhmecfhndaa
open Go.ChangeShapes Go.WideShapes Go.ChangeAt Go.RowKit
set_option linter.unusedVariables false

set_option maxRecDepth 100000 in
theorem enumerateLinear_lifted (os : Os) (started : os.Started) (H : Type) (enc : TypeId × Value → H) :
    ReturnsInHanded {} Try.checked os 9 .any (Rows.enumerateLinearSpec.pre6 enc Try.prog Try.f9 Rows.enumerateLinearRow.domain false) (Rows.enumerateLinearSpec.post enc Try.prog Try.f9 false true false false) := by
  refine returnsInHanded_of_change_sized (C := Try.checked) row_own started (by kernel_rfl) Try.func9
    (ChangeSpec.witness6 (enc := enc) (C := Try.checked) false ⟨#[], #[.agg #[.int .i64 0, .int .i64 0, .slice none 0 0, .int .i64 0, .slice none 0 0]], []⟩ 8 (by kernel_rfl) (by kernel_rfl) (by kernel_rfl) (by kernel_rfl)) ?_
  intro W base args ds gs before hval0 hW hcnd hsz0 _
  have hsz : (DataW.weightsEach Try.prog (Try.f9.params.toList ++ Rows.enumerateLinearSpec.plain.varTypes Try.prog) (ds ++ gs)).all (· ≤ reachBytes) = true := hsz0
  have hval : ∀ (j : Nat) t v, Try.f9.params[j]? = some t → args[j]? = some v → Value.okWide Try.prog W .any base t v := hval0
  have hW' := hW
  obtain ⟨p, q, hA0, hV, rfl, hfz, hnd⟩ := hW
  have hA : DataW.TrodAll enc Try.prog W 0 (fun _ => true) true Try.f9.params.toList args.toList ds p := hA0
  rw [Try.params9] at hA hval hsz
  obtain ⟨v0, vs0, d0, ds0, p0, q0, hargs, rfl, rfl, h0, r0⟩ := trodAll_cons hA
  obtain ⟨rfl, rfl, rfl⟩ := trodAll_nil r0
  obtain rfl : args = #[v0] := by cases args; simp_all
  obtain ⟨rfl, rfl⟩ := trodVars_none hV
  have lt0 : ∀ x ∈ p0, x.block < W.heap.size := by obtain ⟨m, hm⟩ := h0; exact DataW.trod_lt m _ _ _ hm
  obtain ⟨F, A, n, c, rows, Ar, nr, cr, N, rfl, a1, a2, a3, a4, a5, a6, a7⟩ := read_code (hval 0 _ v0 rfl rfl) h0 (fits_at hsz (j := 0) rfl rfl)
  clear hA0 hval0 hsz0
  refine (law_enumerateLinear F A n c rows Ar nr cr N W a1 a2 a3 a4 a5).mono fun e W' ⟨he, bel⟩ => ?_
  subst he
  exact ⟨_, rfl, _, _, _, [], _, [], hW', trodAll_mk1 (shut_bool Try.underlying4 _), (trodAll_cons_mk (Below.trod row_laid (by kernel_rfl) (of_decide_eq_true (by kernel_rfl)) h0 bel.out lt0) trodAll_mk0), rfl, bel.out.frame _, fun h => by cases h⟩

theorem enumerateLinear_fact9 : (Rows.enumerateLinearRow.inPlace == Try.prog.inPlace 9) = true := by kernel_rfl
theorem enumerateLinear_fact10 : (Rows.enumerateLinearRow.unfollowed == Try.prog.unfollowed 9) = true := by kernel_rfl
theorem enumerateLinear_fact11 : (Rows.enumerateLinearRow.recurses == Try.prog.recurses 9) = true := by kernel_rfl
theorem enumerateLinear_fact12 : (Rows.enumerateLinearRow.named == Try.prog.varsNamed 9) = true := by kernel_rfl
theorem enumerateLinear_facts : joinedFacts Try.prog 9 Try.f9 Rows.enumerateLinearSpec Rows.enumerateLinearRow = true :=
  facts_join (by as_aux_lemma => kernel_rfl) (by as_aux_lemma => kernel_rfl) (by as_aux_lemma => kernel_rfl) (by as_aux_lemma => kernel_rfl) (by as_aux_lemma => kernel_rfl) enumerateLinear_fact9 enumerateLinear_fact10 enumerateLinear_fact11 enumerateLinear_fact12 (by as_aux_lemma => kernel_rfl) (by as_aux_lemma => kernel_rfl) (by as_aux_lemma => kernel_rfl) (by as_aux_lemma => kernel_rfl) (by as_aux_lemma => kernel_rfl) (by as_aux_lemma => kernel_rfl) (by as_aux_lemma => kernel_rfl) (by as_aux_lemma => kernel_rfl) (by as_aux_lemma => kernel_rfl) (by as_aux_lemma => kernel_rfl) (by as_aux_lemma => kernel_rfl) (by as_aux_lemma => kernel_rfl) (by as_aux_lemma => kernel_rfl) (by as_aux_lemma => kernel_rfl) rfl rfl rfl

theorem enumerateLinear_proved : Rows.EnumerateLinearSaid :=
  OpenClaim.holds_of_wide 9 Try.f9 rfl rfl rfl rfl rfl rfl rfl ⟨rfl, rfl, rfl, rfl, rfl⟩ rfl rfl rfl rfl rfl (by as_aux_lemma => kernel_rfl) Try.func9 enumerateLinear_facts
    (of_decide_eq_true (by as_aux_lemma => kernel_rfl)) (by as_aux_lemma => (unfold Func.isWrapper; first | (rw [if_pos (by decide +kernel)]; kernel_rfl) | (rw [if_neg (by decide +kernel)]; exact ⟨rfl, rfl⟩)))
    (fun os started H enc _ => enumerateLinear_lifted os started H enc)

#print axioms enumerateLinear_proved
end Go.Proofs.Ytcigdhmecfhndaa

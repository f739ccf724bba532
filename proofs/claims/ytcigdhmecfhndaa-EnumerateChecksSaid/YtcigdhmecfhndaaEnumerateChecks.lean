/- For every code and every tally the law EnumerateChecks returns true: Check accepts just the weight distribution of the side that is named, whatever it is given.
   Conditions: none but those of the given statement's own form. -/
import Derived.Test.YtcigdhmecfhndaaLck
import Derived.Test.YtcigdhmecfhndaaFacts
import Derived.Test.YtcigdhmecfhndaaRow4
namespace Go.Proofs.Ytcigdhmecfhndaa
open Go.ChangeShapes Go.WideShapes Go.ChangeAt Go.RowKit
set_option linter.unusedVariables false

set_option maxRecDepth 100000 in
theorem enumerateChecks_lifted (os : Os) (started : os.Started) (H : Type) (enc : TypeId × Value → H) :
    ReturnsInHanded {} Try.checked os 13 .any (Rows.enumerateChecksSpec.pre6 enc Try.prog Try.f13 Rows.enumerateChecksRow.domain false) (Rows.enumerateChecksSpec.post enc Try.prog Try.f13 false true false false) := by
  refine returnsInHanded_of_change_sized (C := Try.checked) row_own started (by kernel_rfl) Try.func13
    (ChangeSpec.witness6 (enc := enc) (C := Try.checked) false ⟨#[], #[.agg #[.int .i64 0, .int .i64 0, .slice none 0 0, .int .i64 0, .slice none 0 0], .agg #[.bool false, .slice none 0 0]], []⟩ 8 (by kernel_rfl) (by kernel_rfl) (by kernel_rfl) (by kernel_rfl)) ?_
  intro W base args ds gs before hval0 hW hcnd hsz0 _
  have hsz : (DataW.weightsEach Try.prog (Try.f13.params.toList ++ Rows.enumerateChecksSpec.plain.varTypes Try.prog) (ds ++ gs)).all (· ≤ reachBytes) = true := hsz0
  have hval : ∀ (j : Nat) t v, Try.f13.params[j]? = some t → args[j]? = some v → Value.okWide Try.prog W .any base t v := hval0
  have hW' := hW
  obtain ⟨p, q, hA0, hV, rfl, hfz, hnd⟩ := hW
  have hA : DataW.TrodAll enc Try.prog W 0 (fun _ => true) true Try.f13.params.toList args.toList ds p := hA0
  rw [Try.params13] at hA hval hsz
  obtain ⟨v0, vs0, d0, ds0, p0, q0, hargs, rfl, rfl, h0, r0⟩ := trodAll_cons hA
  obtain ⟨v1, vs1, d1, ds1, p1, q1, rfl, rfl, rfl, h1, r1⟩ := trodAll_cons r0
  obtain ⟨rfl, rfl, rfl⟩ := trodAll_nil r1
  obtain rfl : args = #[v0, v1] := by cases args; simp_all
  obtain ⟨rfl, rfl⟩ := trodVars_none hV
  have lt0 : ∀ x ∈ p0, x.block < W.heap.size := by obtain ⟨m, hm⟩ := h0; exact DataW.trod_lt m _ _ _ hm
  have lt1 : ∀ x ∈ p1, x.block < W.heap.size := by obtain ⟨m, hm⟩ := h1; exact DataW.trod_lt m _ _ _ hm
  obtain ⟨F, A, n, c, rows, Ar, nr, cr, N, rfl, a1, a2, a3, a4, a5, a6, a7⟩ := read_code (hval 0 _ v0 rfl rfl) h0 (fits_at hsz (j := 0) rfl rfl)
  obtain ⟨t1, A1, n1, c1, x1, rfl, b11, b12, b13⟩ := read_tally_arg (hval 1 _ v1 rfl rfl) h1 (fits_at hsz (j := 1) rfl rfl)
  clear hA0 hval0 hsz0
  refine (law_enumerateChecks F A n c rows Ar nr cr N t1 x1 A1 n1 c1 W a1 a2 a3 a4 a5 b11 b12).mono fun e W' ⟨he, bel⟩ => ?_
  subst he
  exact ⟨_, rfl, _, _, _, [], _, [], hW', trodAll_mk1 (shut_bool Try.underlying4 _), (trodAll_cons_mk (Below.trod row_laid (by kernel_rfl) (of_decide_eq_true (by kernel_rfl)) h0 bel.out lt0) (trodAll_cons_mk (Below.trod row_laid (by kernel_rfl) (of_decide_eq_true (by kernel_rfl)) h1 bel.out lt1) trodAll_mk0)), rfl, bel.out.frame _, fun h => by cases h⟩

theorem enumerateChecks_fact9 : (Rows.enumerateChecksRow.inPlace == Try.prog.inPlace 13) = true := by kernel_rfl
theorem enumerateChecks_fact10 : (Rows.enumerateChecksRow.unfollowed == Try.prog.unfollowed 13) = true := by kernel_rfl
theorem enumerateChecks_fact11 : (Rows.enumerateChecksRow.recurses == Try.prog.recurses 13) = true := by kernel_rfl
theorem enumerateChecks_fact12 : (Rows.enumerateChecksRow.named == Try.prog.varsNamed 13) = true := by kernel_rfl
theorem enumerateChecks_facts : joinedFacts Try.prog 13 Try.f13 Rows.enumerateChecksSpec Rows.enumerateChecksRow = true :=
  facts_join (by as_aux_lemma => kernel_rfl) (by as_aux_lemma => kernel_rfl) (by as_aux_lemma => kernel_rfl) (by as_aux_lemma => kernel_rfl) (by as_aux_lemma => kernel_rfl) enumerateChecks_fact9 enumerateChecks_fact10 enumerateChecks_fact11 enumerateChecks_fact12 (by as_aux_lemma => kernel_rfl) (by as_aux_lemma => kernel_rfl) (by as_aux_lemma => kernel_rfl) (by as_aux_lemma => kernel_rfl) (by as_aux_lemma => kernel_rfl) (by as_aux_lemma => kernel_rfl) (by as_aux_lemma => kernel_rfl) (by as_aux_lemma => kernel_rfl) (by as_aux_lemma => kernel_rfl) (by as_aux_lemma => kernel_rfl) (by as_aux_lemma => kernel_rfl) (by as_aux_lemma => kernel_rfl) (by as_aux_lemma => kernel_rfl) (by as_aux_lemma => kernel_rfl) rfl rfl rfl

theorem enumerateChecks_proved : Rows.EnumerateChecksSaid :=
  OpenClaim.holds_of_wide 13 Try.f13 rfl rfl rfl rfl rfl rfl rfl ⟨rfl, rfl, rfl, rfl, rfl⟩ rfl rfl rfl rfl rfl (by as_aux_lemma => kernel_rfl) Try.func13 enumerateChecks_facts
    (of_decide_eq_true (by as_aux_lemma => kernel_rfl)) (by as_aux_lemma => (unfold Func.isWrapper; first | (rw [if_pos (by decide +kernel)]; kernel_rfl) | (rw [if_neg (by decide +kernel)]; exact ⟨rfl, rfl⟩)))
    (fun os started H enc _ => enumerateChecks_lifted os started H enc)

#print axioms enumerateChecks_proved
end Go.Proofs.Ytcigdhmecfhndaa

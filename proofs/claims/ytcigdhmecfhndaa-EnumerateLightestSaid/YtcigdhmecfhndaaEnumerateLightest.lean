/- For every code and message the law EnumerateLightest returns true: Lightest returns the minimum distance with the least word of this weight; no nonzero word is lighter.
   Conditions: none but those of the given statement's own form. -/
import Derived.Test.YtcigdhmecfhndaaLli
import Derived.Test.YtcigdhmecfhndaaFacts
import Derived.Test.YtcigdhmecfhndaaRow2
namespace Go.Proofs.Ytcigdhmecfhndaa
open Go.ChangeShapes Go.WideShapes Go.ChangeAt Go.RowKit
set_option linter.unusedVariables false

set_option maxRecDepth 100000 in
theorem enumerateLightest_lifted (os : Os) (started : os.Started) (H : Type) (enc : TypeId × Value → H) :
    ReturnsInHanded {} Try.checked os 5 .any (Rows.enumerateLightestSpec.pre6 enc Try.prog Try.f5 Rows.enumerateLightestRow.domain false) (Rows.enumerateLightestSpec.post enc Try.prog Try.f5 false true false false) := by
  refine returnsInHanded_of_change_sized (C := Try.checked) row_own started (by kernel_rfl) Try.func5
    (ChangeSpec.witness6 (enc := enc) (C := Try.checked) false ⟨#[], #[.agg #[.int .i64 0, .int .i64 0, .slice none 0 0, .int .i64 0, .slice none 0 0], .slice none 0 0], []⟩ 8 (by kernel_rfl) (by kernel_rfl) (by kernel_rfl) (by kernel_rfl)) ?_
  intro W base args ds gs before hval0 hW hcnd hsz0 _
  have hsz : (DataW.weightsEach Try.prog (Try.f5.params.toList ++ Rows.enumerateLightestSpec.plain.varTypes Try.prog) (ds ++ gs)).all (· ≤ reachBytes) = true := hsz0
  have hval : ∀ (j : Nat) t v, Try.f5.params[j]? = some t → args[j]? = some v → Value.okWide Try.prog W .any base t v := hval0
  have hW' := hW
  obtain ⟨p, q, hA0, hV, rfl, hfz, hnd⟩ := hW
  have hA : DataW.TrodAll enc Try.prog W 0 (fun _ => true) true Try.f5.params.toList args.toList ds p := hA0
  rw [Try.params5] at hA hval hsz
  obtain ⟨v0, vs0, d0, ds0, p0, q0, hargs, rfl, rfl, h0, r0⟩ := trodAll_cons hA
  obtain ⟨v1, vs1, d1, ds1, p1, q1, rfl, rfl, rfl, h1, r1⟩ := trodAll_cons r0
  obtain ⟨rfl, rfl, rfl⟩ := trodAll_nil r1
  obtain rfl : args = #[v0, v1] := by cases args; simp_all
  obtain ⟨rfl, rfl⟩ := trodVars_none hV
  have lt0 : ∀ x ∈ p0, x.block < W.heap.size := by obtain ⟨m, hm⟩ := h0; exact DataW.trod_lt m _ _ _ hm
  have lt1 : ∀ x ∈ p1, x.block < W.heap.size := by obtain ⟨m, hm⟩ := h1; exact DataW.trod_lt m _ _ _ hm
  obtain ⟨F, A, n, c, rows, Ar, nr, cr, N, rfl, a1, a2, a3, a4, a5, a6, a7⟩ := read_code (hval 0 _ v0 rfl rfl) h0 (fits_at hsz (j := 0) rfl rfl)
  obtain ⟨A1, n1, c1, x1, rfl, b11, b12, b13⟩ := read_ints_arg (hval 1 _ v1 rfl rfl) h1 (fits_at hsz (j := 1) rfl rfl)
  clear hA0 hval0 hsz0
  refine (law_enumerateLightest F A n c rows Ar nr cr N x1 A1 n1 c1 W a1 a2 a3 a4 a5 b11 b12).mono fun e W' ⟨he, bel⟩ => ?_
  subst he
  exact ⟨_, rfl, _, _, _, [], _, [], hW', trodAll_mk1 (shut_bool Try.underlying4 _), (trodAll_cons_mk (Below.trod row_laid (by kernel_rfl) (of_decide_eq_true (by kernel_rfl)) h0 bel.out lt0) (trodAll_cons_mk (Below.trod row_laid (by kernel_rfl) (of_decide_eq_true (by kernel_rfl)) h1 bel.out lt1) trodAll_mk0)), rfl, bel.out.frame _, fun h => by cases h⟩

theorem enumerateLightest_fact9 : (Rows.enumerateLightestRow.inPlace == Try.prog.inPlace 5) = true := by kernel_rfl
theorem enumerateLightest_fact10 : (Rows.enumerateLightestRow.unfollowed == Try.prog.unfollowed 5) = true := by kernel_rfl
theorem enumerateLightest_fact11 : (Rows.enumerateLightestRow.recurses == Try.prog.recurses 5) = true := by kernel_rfl
theorem enumerateLightest_fact12 : (Rows.enumerateLightestRow.named == Try.prog.varsNamed 5) = true := by kernel_rfl
theorem enumerateLightest_facts : joinedFacts Try.prog 5 Try.f5 Rows.enumerateLightestSpec Rows.enumerateLightestRow = true :=
  facts_join (by as_aux_lemma => kernel_rfl) (by as_aux_lemma => kernel_rfl) (by as_aux_lemma => kernel_rfl) (by as_aux_lemma => kernel_rfl) (by as_aux_lemma => kernel_rfl) enumerateLightest_fact9 enumerateLightest_fact10 enumerateLightest_fact11 enumerateLightest_fact12 (by as_aux_lemma => kernel_rfl) (by as_aux_lemma => kernel_rfl) (by as_aux_lemma => kernel_rfl) (by as_aux_lemma => kernel_rfl) (by as_aux_lemma => kernel_rfl) (by as_aux_lemma => kernel_rfl) (by as_aux_lemma => kernel_rfl) (by as_aux_lemma => kernel_rfl) (by as_aux_lemma => kernel_rfl) (by as_aux_lemma => kernel_rfl) (by as_aux_lemma => kernel_rfl) (by as_aux_lemma => kernel_rfl) (by as_aux_lemma => kernel_rfl) (by as_aux_lemma => kernel_rfl) rfl rfl rfl

theorem enumerateLightest_proved : Rows.EnumerateLightestSaid :=
  OpenClaim.holds_of_wide 5 Try.f5 rfl rfl rfl rfl rfl rfl rfl ⟨rfl, rfl, rfl, rfl, rfl⟩ rfl rfl rfl rfl rfl (by as_aux_lemma => kernel_rfl) Try.func5 enumerateLightest_facts
    (of_decide_eq_true (by as_aux_lemma => kernel_rfl)) (by as_aux_lemma => (unfold Func.isWrapper; first | (rw [if_pos (by decide +kernel)]; kernel_rfl) | (rw [if_neg (by decide +kernel)]; exact ⟨rfl, rfl⟩)))
    (fun os started H enc _ => enumerateLightest_lifted os started H enc)

#print axioms enumerateLightest_proved
end Go.Proofs.Ytcigdhmecfhndaa

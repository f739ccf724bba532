/- The dual code: the null space of a reduced matrix has N - K rows and is a code. Plain functions. -/
import Derived.Test.YtcigdhmecfhndaaDu
namespace Go.Proofs.Ytcigdhmecfhndaa
set_option linter.unusedVariables false

theorem nvN_far {F : Fd} {l : List (List Int)} {pv : List Int} {N c : Nat} {j : Nat} : ∀ k, (∀ i, i < k → (gt pv i).toNat ≠ j) → gt (F.nvN l pv N c k) j = gt ((List.replicate N 0).set c 1) j
  | 0, _ => rfl
  | k + 1, h => by
    rw [Fd.nvN, loopN_succ, ← Fd.nvN, Fd.nvS]
    by_cases hb : (gt pv k).toNat < (F.nvN l pv N c k).length
    · rw [gt_set _ _ _ _ hb, if_neg (h k (by omega)), nvN_far k fun i hi => h i (by omega)]
    · rw [List.set_eq_of_length_le (by omega), nvN_far k fun i hi => h i (by omega)]
theorem nvN_piv {F : Fd} {l : List (List Int)} {pv : List Int} {N c : Nat} (hp : ∀ a, a < pv.length → 0 ≤ gt pv a ∧ gt pv a < N) (hinc : ∀ a b, a < b → b < pv.length → gt pv a < gt pv b) {i : Nat} : ∀ k, k ≤ pv.length → i < k → gt (F.nvN l pv N c k) (gt pv i).toNat = F.neg (gt (gr l i) c)
  | 0, _, hi => by omega
  | k + 1, hk, hi => by
    have h1 := hp k (by omega)
    rw [Fd.nvN, loopN_succ, ← Fd.nvN, Fd.nvS, gt_set _ _ _ _ (by rw [nvN_len]; omega)]
    by_cases e : i = k
    · subst e; rw [if_pos rfl]
    · have h2 := hinc i k (by omega) (by omega)
      have h3 := hp i (by omega)
      rw [if_neg (by omega)]
      exact nvN_piv hp hinc k (by omega) (by omega)
section
variable {F : Fd} {K N : Nat} {l : List (List Int)} {pv : List Int}
theorem Red.prng (H : Red F K N N l pv) : ∀ a, a < pv.length → 0 ≤ gt pv a ∧ gt pv a < N := fun a ha => by have := H.rng a ha; omega
theorem nvec_self (H : Red F K N N l pv) {c : Nat} (hc : c < N) (hn : ¬ (c : Int) ∈ pv) : gt (F.nvec l pv N c) c = 1 := by
  rw [Fd.nvec, nvN_far _ fun i hi e => hn (mem_iff_gt.2 ⟨i, hi, by have := H.prng i hi; omega⟩), gt_set _ _ _ _ (by simpa using hc), if_pos rfl]
theorem nvec_off (H : Red F K N N l pv) {c j : Nat} (hc : c < N) (hj : j ≠ c) (hn : ¬ (j : Int) ∈ pv) : gt (F.nvec l pv N c) j = 0 := by
  rw [Fd.nvec, nvN_far _ fun i hi e => hn (mem_iff_gt.2 ⟨i, hi, by have := H.prng i hi; omega⟩), gt_set _ _ _ _ (by simpa using hc), if_neg (Ne.symm hj), gt_rep]
theorem nvec_piv (H : Red F K N N l pv) {c i : Nat} (hi : i < pv.length) : gt (F.nvec l pv N c) (gt pv i).toNat = F.neg (gt (gr l i) c) := nvN_piv H.prng H.inc _ (Nat.le_refl _) hi
theorem nraw_succ_no (F : Fd) (l : List (List Int)) {pv : List Int} (N : Nat) {c : Nat} (h : ¬ (c : Int) ∈ pv) : F.nraw l pv N (c + 1) = F.nraw l pv N c ++ [F.nvec l pv N c] := by rw [Fd.nraw, if_neg h]
theorem nraw_succ_yes (F : Fd) (l : List (List Int)) {pv : List Int} (N : Nat) {c : Nat} (h : (c : Int) ∈ pv) : F.nraw l pv N (c + 1) = F.nraw l pv N c := by rw [Fd.nraw, if_pos h]
/-- every list of products with the vectors of the null space is reached -/
theorem nraw_surj (hO : F.Ok) (H : Red F K N N l pv) (y : Nat → Int) (hy : ∀ i, El F (y i)) : ∀ c, c ≤ N → ∃ w : List Int, w.length = N ∧ (∀ j : Nat, c ≤ j → gt w j = 0) ∧ (∀ j : Nat, (j : Int) ∈ pv → gt w j = 0) ∧ ∀ i, i < (F.nraw l pv N c).length → F.dotN w (gr (F.nraw l pv N c) i) N = y i
  | 0, _ => ⟨List.replicate N 0, by simp, fun j _ => gt_rep _ _, fun j _ => gt_rep _ _, fun i hi => by simp [Fd.nraw] at hi⟩
  | c + 1, hc => by
    obtain ⟨w, h1, h2, h3, h4⟩ := nraw_surj hO H y hy c (by omega)
    by_cases hm : (c : Int) ∈ pv
    · rw [nraw_succ_yes F l N hm]
      exact ⟨w, h1, fun j hj => h2 j (by omega), h3, h4⟩
    · rw [nraw_succ_no F l N hm]
      generalize hn : (F.nraw l pv N c).length = n at *
      have hgs : ∀ j, gt (w.set c (y n)) j = if c = j then y n else gt w j := fun j => gt_set _ _ _ _ (by omega)
      refine ⟨w.set c (y n), by rw [List.length_set]; exact h1, fun j hj => by rw [hgs, if_neg (by omega)]; exact h2 j (by omega), fun j hj => ?_, fun i hi => ?_⟩
      · rw [hgs]
        by_cases e : c = j
        · subst e; exact absurd hj hm
        · rw [if_neg e]; exact h3 j hj
      · rw [List.length_append, List.length_singleton, hn] at hi
        by_cases e : i < n
        · rw [gr_snoc_lt (by omega), ← h4 i e]
          obtain ⟨d, hd, hdm, hde⟩ := nraw_mem F l pv N c _ (gr_mem (show i < (F.nraw l pv N c).length by omega))
          rw [hde]
          -- the entry c of an earlier vector is 0
          have hz : gt (F.nvec l pv N d) c = 0 := nvec_off H (by omega) (by omega) hm
          have hw0 : gt w c = 0 := h2 c (Nat.le_refl _)
          have key : ∀ m, F.dotN (w.set c (y n)) (F.nvec l pv N d) m = F.dotN w (F.nvec l pv N d) m := fun m => by
            induction m with
            | zero => rfl
            | succ m ih =>
              rw [dotN_succ, dotN_succ, ih, hgs]
              by_cases e2 : c = m
              · subst e2; rw [if_pos rfl, hz, mul_zero' hO, mul_zero' hO]
              · rw [if_neg e2]
          exact key N
        · obtain rfl : i = n := by omega
          have hgn : gr (F.nraw l pv N c ++ [F.nvec l pv N c]) i = F.nvec l pv N c := by rw [← hn]; exact gr_snoc
          rw [hgn, dotN_at hO (j := c) N (by omega) fun j hj hjc => ?_, hgs, if_pos rfl, nvec_self H (by omega) hm, mul_one' hO, (hy i).inE]
          rw [hgs, if_neg (Ne.symm hjc)]
          by_cases e2 : (j : Int) ∈ pv
          · exact .inl (h3 j e2)
          · exact .inr (nvec_off H (by omega) hjc e2)
theorem pivs_nraw (h : RefOK F) (H : Red F K N N l pv) : (F.pivs (F.nraw l pv N N) N).length = (F.nraw l pv N N).length := by
  have hg := nraw_grid F l pv N N
  have he := nraw_ent h.ok l pv N N
  have R := red_elim h hg he N
  have hle := R.len
  refine Classical.byContradiction fun hne => ?_
  have hlt : (loopN N F.elimStep (F.nraw l pv N N, [])).2.length < (F.nraw l pv N N).length := by
    have : (F.pivs (F.nraw l pv N N) N).length = (loopN N F.elimStep (F.nraw l pv N N, [])).2.length := rfl
    omega
  obtain ⟨y, hy, h2⟩ := (lnk_elim h hg he N (Nat.le_refl _)).surj (fun _ => 1) (fun _ => el_one h.good)
  obtain ⟨w, _, _, _, hw⟩ := nraw_surj h.ok H y hy N (Nat.le_refl _)
  have h3 := h2 w hw _ hlt
  rw [dotN_zero h.ok N fun j hj => .inr (R.rest _ (Nat.le_refl _) hlt j hj)] at h3
  cases h3
theorem nraw_count (H : Red F K N N l pv) : ∀ c, (F.nraw l pv N c).length + (pvB pv c).length = c
  | 0 => by
    obtain ⟨r, h1, h2, h3, h4⟩ := pvB_take H.inc 0
    have : r = 0 := by
      refine Nat.le_antisymm (Nat.le_of_not_lt fun hlt => ?_) (Nat.zero_le _)
      have := h3 0 hlt
      have := H.rng 0 (by omega)
      omega
    rw [h2, this]; rfl
  | c + 1 => by
    have ih := nraw_count H c
    obtain ⟨r, h1, h2, h3, h4⟩ := pvB_take H.inc c
    obtain ⟨r', g1, g2, g3, g4⟩ := pvB_take H.inc (c + 1)
    have hl : (pvB pv c).length = r := by rw [h2, List.length_take]; omega
    have hl' : (pvB pv (c + 1)).length = r' := by rw [g2, List.length_take]; omega
    have hrr : r ≤ r' := Nat.le_of_not_lt fun hlt => by
      have := g4 r' (Nat.le_refl _) (by omega)
      have := h3 r' hlt
      omega
    by_cases hm : (c : Int) ∈ pv
    · obtain ⟨a, ha, e⟩ := mem_iff_gt.1 hm
      have har : ¬ a < r := fun h => by have := h3 a h; omega
      have har' : a < r' := Nat.lt_of_not_le fun h => by have := g4 a h ha; omega
      have hr1 : r' = r + 1 := by
        refine Nat.le_antisymm (Nat.le_of_not_lt fun hlt => ?_) (by omega)
        have h5 := g3 (r + 1) hlt
        have h6 := h4 r (Nat.le_refl _) (by omega)
        have h7 := H.inc r (r + 1) (by omega) (by omega)
        omega
      rw [nraw_succ_yes F l N hm]; omega
    · have hr1 : r' = r := by
        refine Nat.le_antisymm (Nat.le_of_not_lt fun hlt => ?_) hrr
        have h5 := g3 r hlt
        have h6 := h4 r (Nat.le_refl _) (by omega)
        exact hm (mem_iff_gt.2 ⟨r, by omega, by omega⟩)
      rw [nraw_succ_no F l N hm, List.length_append, List.length_singleton]; omega
theorem nraw_all (H : Red F K N N l pv) : (F.nraw l pv N N).length + pv.length = N := by
  have h1 := nraw_count H N
  have h2 : pvB pv N = pv := by
    rw [pvB, List.filter_eq_self]
    intro x hx
    obtain ⟨a, ha, e⟩ := mem_iff_gt.1 hx
    have := H.rng a ha
    simp only [decide_eq_true_eq]
    omega
  rwa [h2] at h1
end

/-! ### the dual code -/
structure Cod (F : Fd) (N : Nat) (rows : List (List Int)) : Prop where
  ref : RefOK F
  n1 : 1 ≤ N
  n64 : N ≤ 64
  grid : Grid rows.length N rows
  ent : EntR F.q rows
  canon : F.canon rows N = rows
theorem Cod.of {F : Fd} {N : Nat} {rows : List (List Int)} (h : codE F (N : Int) rows = 0) : Cod F N rows := by
  obtain ⟨k1, k2, k3, k4, k5, k6⟩ := codE_ok h
  exact ⟨k1, by omega, by omega, ⟨rfl, fun k hk => by have := k4.2.2.2 k hk; omega⟩, k5, k6⟩
section
variable {F : Fd} {N : Nat} {rows : List (List Int)}
theorem Cod.red (H : Cod F N rows) : Red F rows.length N N rows (F.pivs rows N) ∧ (F.pivs rows N).length = rows.length := red_canon H.ref H.grid H.ent H.canon
theorem Cod.le (H : Cod F N rows) : rows.length ≤ N := by
  have h := nraw_all H.red.1
  rw [H.red.2] at h; omega
theorem Cod.null_eq (H : Cod F N rows) : F.null rows N = F.canon (F.nraw rows (F.pivs rows N) N N) N := by rw [Fd.null, H.canon]
theorem Cod.null_len (H : Cod F N rows) : (F.null rows N).length + rows.length = N := by
  have h := nraw_all H.red.1
  rw [H.null_eq, canon_len F (nraw_grid _ _ _ _ _) N, pivs_nraw H.ref H.red.1]
  rw [H.red.2] at h; omega
theorem Cod.null_red (H : Cod F N rows) : Red F (F.null rows N).length N N (F.null rows N) (F.pivs (F.nraw rows (F.pivs rows N) N N) N) := by
  have h := red_of_canon H.ref (nraw_grid F rows (F.pivs rows N) N N) (nraw_ent H.ref.ok rows (F.pivs rows N) N N)
  rw [← H.null_eq, ← canon_len F (nraw_grid F rows (F.pivs rows N) N N) N, ← H.null_eq] at h
  exact h
theorem Cod.null_canon (H : Cod F N rows) : F.canon (F.null rows N) N = F.null rows N := by
  rw [H.null_eq]
  exact canon_canon H.ref (nraw_grid _ _ _ _ _) (nraw_ent H.ref.ok _ _ _ _)
theorem Cod.dual (H : Cod F N rows) : Cod F N (F.null rows N) := ⟨H.ref, H.n1, H.n64, H.null_red.grid, H.null_red.ent, H.null_canon⟩
theorem Cod.codE (H : Cod F N rows) : codE F (N : Int) rows = 0 := by
  have hS : Shp (N : Int) rows := ⟨by have := H.n1; omega, by have := H.n64; omega, by have := H.le; have := H.n64; omega, fun k hk => by rw [H.grid.2 k hk]⟩
  have hm : matE F (N : Int) rows = 0 := by rw [matE, if_pos H.ref, if_pos hS, if_pos H.ent]
  rw [Go.Proofs.Ytcigdhmecfhndaa.codE, if_pos H.ref, if_pos (by have := H.n1; have := H.n64; omega), spcE, if_pos hm]
  exact if_pos H.canon
theorem Cod.matE (H : Cod F N rows) : matE F (N : Int) rows = 0 := by
  have hS : Shp (N : Int) rows := ⟨by have := H.n1; omega, by have := H.n64; omega, by have := H.le; have := H.n64; omega, fun k hk => by rw [H.grid.2 k hk]⟩
  rw [Go.Proofs.Ytcigdhmecfhndaa.matE, if_pos H.ref, if_pos hS, if_pos H.ent]
theorem Cod.rlen (H : Cod F N rows) : ∀ k, (gr rows k).length ≤ 1000000000000000000 := fun k => by
  by_cases hk : k < rows.length
  · rw [H.grid.2 k hk]; have := H.n64; omega
  · rw [gr_out (by omega)]; simp
end

end Go.Proofs.Ytcigdhmecfhndaa

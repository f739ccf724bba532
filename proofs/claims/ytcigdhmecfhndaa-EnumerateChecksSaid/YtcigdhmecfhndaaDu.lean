/- The dual space: elimination keeps what is orthogonal; the canonical form of a canonical form; how many rows the null space has. Plain functions. -/
import Derived.Test.YtcigdhmecfhndaaKe
namespace Go.Proofs.Ytcigdhmecfhndaa
set_option linter.unusedVariables false

/-! ### products -/
theorem dotN_succ {F : Fd} (a b : List Int) (n : Nat) : F.dotN a b (n + 1) = F.add (F.dotN a b n) (F.mul (gt a n) (gt b n)) := by rw [Fd.dotN, loopN_succ]; rfl
theorem dotN_congr {F : Fd} {a b a' b' : List Int} : ∀ n, (∀ i, i < n → gt a i = gt a' i ∧ gt b i = gt b' i) → F.dotN a b n = F.dotN a' b' n
  | 0, _ => rfl
  | n + 1, h => by rw [dotN_succ, dotN_succ, dotN_congr n fun i hi => h i (by omega), (h n (by omega)).1, (h n (by omega)).2]
section
variable {F : Fd} (hO : F.Ok)
include hO
theorem dotN_el (a b : List Int) : ∀ n, El F (F.dotN a b n)
  | 0 => el_zero hO.good
  | n + 1 => by rw [dotN_succ]; exact add_el hO.good _ _
theorem dotN_zero {a b : List Int} : ∀ n, (∀ i, i < n → gt a i = 0 ∨ gt b i = 0) → F.dotN a b n = 0
  | 0, _ => rfl
  | n + 1, h => by
    rw [dotN_succ, dotN_zero n fun i hi => h i (by omega)]
    rcases h n (by omega) with e | e
    · rw [e, zero_mul' hO, add_zero' hO, (el_zero hO.good).inE]
    · rw [e, mul_zero' hO, add_zero' hO, (el_zero hO.good).inE]
theorem add_swap4 (a b c d : Int) : F.add (F.add a b) (F.add c d) = F.add (F.add a c) (F.add b d) := by
  rw [add_assoc' hO, add_assoc' hO a c, ← add_assoc' hO b, add_comm' b c, add_assoc' hO c]
theorem dotN_addr {w x y z : List Int} (a : Int) : ∀ n, (∀ i, i < n → gt z i = F.add (gt x i) (F.mul a (gt y i))) → F.dotN w z n = F.add (F.dotN w x n) (F.mul a (F.dotN w y n))
  | 0, _ => by
    show (0 : Int) = F.add 0 (F.mul a 0)
    rw [mul_zero' hO, add_zero' hO, (el_zero hO.good).inE]
  | n + 1, h => by
    have e : F.mul (gt w n) (F.mul a (gt y n)) = F.mul a (F.mul (gt w n) (gt y n)) := by
      rw [← mul_assoc' hO, mul_comm' hO (gt w n) a, mul_assoc' hO]
    rw [dotN_succ, dotN_succ, dotN_succ, dotN_addr a n fun i hi => h i (by omega), h n (by omega), mul_add' hO, mul_add' hO, e, add_swap4 hO]
theorem dotN_scale {w x z : List Int} (a : Int) : ∀ n, (∀ i, i < n → gt z i = F.mul a (gt x i)) → F.dotN w z n = F.mul a (F.dotN w x n)
  | 0, _ => by
    show (0 : Int) = F.mul a 0
    rw [mul_zero' hO]
  | n + 1, h => by
    have e : F.mul (gt w n) (F.mul a (gt x n)) = F.mul a (F.mul (gt w n) (gt x n)) := by
      rw [← mul_assoc' hO, mul_comm' hO (gt w n) a, mul_assoc' hO]
    rw [dotN_succ, dotN_succ, dotN_scale a n fun i hi => h i (by omega), h n (by omega), mul_add' hO, e]
theorem dotN_comm (a b : List Int) : ∀ n, F.dotN a b n = F.dotN b a n
  | 0 => rfl
  | n + 1 => by rw [dotN_succ, dotN_succ, dotN_comm a b n, mul_comm' hO]
/-- the product with a word that is 1 at j and 0 elsewhere, but where the other is 0 -/
theorem dotN_at {w z : List Int} {j : Nat} : ∀ n, j < n → (∀ i, i < n → i ≠ j → gt w i = 0 ∨ gt z i = 0) → F.dotN w z n = F.mul (gt w j) (gt z j)
  | 0, h, _ => by omega
  | n + 1, hj, h => by
    rw [dotN_succ]
    by_cases e : j = n
    · subst e
      rw [dotN_zero hO j fun i hi => h i (by omega) (by omega), zero_add' hO (mul_el hO _ _)]
    · rw [dotN_at n (by omega) fun i hi hij => h i (by omega) hij]
      have e2 : F.mul (gt w n) (gt z n) = 0 := by
        rcases h n (by omega) (Ne.symm e) with e3 | e3
        · rw [e3, zero_mul' hO]
        · rw [e3, mul_zero' hO]
      rw [e2, add_zero' hO, (mul_el hO _ _).inE]
end

/-! ### what elimination keeps -/
/-- the two matrices have the same orthogonal words, and where one reaches every list of products the other does -/
structure Lnk (F : Fd) (n N : Nat) (l l' : List (List Int)) : Prop where
  orth : ∀ w, (∀ i, i < n → F.dotN w (gr l i) N = 0) ↔ ∀ i, i < n → F.dotN w (gr l' i) N = 0
  surj : ∀ y' : Nat → Int, (∀ i, El F (y' i)) → ∃ y : Nat → Int, (∀ i, El F (y i)) ∧ ∀ w, (∀ i, i < n → F.dotN w (gr l i) N = y i) → ∀ i, i < n → F.dotN w (gr l' i) N = y' i
theorem Lnk.refl (F : Fd) (n N : Nat) (l : List (List Int)) : Lnk F n N l l := ⟨fun _ => Iff.rfl, fun y' h => ⟨y', h, fun _ h => h⟩⟩
theorem Lnk.trans {F : Fd} {n N : Nat} {l l' l'' : List (List Int)} (h : Lnk F n N l l') (k : Lnk F n N l' l'') : Lnk F n N l l'' :=
  ⟨fun w => (h.orth w).trans (k.orth w), fun y'' h'' => by
    obtain ⟨y', h1, h2⟩ := k.surj y'' h''
    obtain ⟨y, h3, h4⟩ := h.surj y' h1
    exact ⟨y, h3, fun w hw => h2 w (h4 w hw)⟩⟩
theorem lnk_swap {F : Fd} {n N : Nat} {l : List (List Int)} (hl : l.length = n) {r k : Nat} (hr : r < n) (hk : k < n) : Lnk F n N l (swapR l r k) := by
  have hs := gr_swap (l := l) (by omega) (by omega : k < l.length) (r := r)
  refine ⟨fun w => ⟨fun h i hi => ?_, fun h i hi => ?_⟩, fun y' hy => ⟨fun i => if i = k then y' r else if i = r then y' k else y' i, fun i => ?_, fun w hw i hi => ?_⟩⟩
  · rw [hs]; split
    · exact h r hr
    · split
      · exact h k hk
      · exact h i hi
  · by_cases e1 : i = k
    · have := h r hr
      rw [hs] at this
      by_cases e2 : r = k
      · rw [if_pos e2] at this; rw [e1, ← e2]; exact this
      · rw [if_neg e2, if_pos rfl] at this; rw [e1]; exact this
    · by_cases e2 : i = r
      · have := h k hk
        rw [hs, if_pos rfl] at this
        rw [e2]; exact this
      · have := h i hi
        rw [hs, if_neg e1, if_neg e2] at this
        exact this
  · simp only; split
    · exact hy _
    · split
      · exact hy _
      · exact hy _
  · dsimp only at hw
    rw [hs]
    by_cases e1 : i = k
    · rw [if_pos e1, hw r hr]
      by_cases e2 : r = k
      · rw [if_pos e2, e1, e2]
      · rw [if_neg e2, if_pos rfl, e1]
    · rw [if_neg e1]
      by_cases e2 : i = r
      · rw [if_pos e2, hw k hk, if_pos rfl, e2]
      · rw [if_neg e2, hw i hi, if_neg e1, if_neg e2]
theorem lnk_norm {F : Fd} (h : RefOK F) {n N : Nat} {l : List (List Int)} (hg : Grid n N l) {r c : Nat} (hr : r < n) (hx : El F (gt (gr l r) c)) (h0 : gt (gr l r) c ≠ 0) : Lnk F n N l (F.normR c r l) := by
  have hO := h.ok
  unfold Fd.normR
  by_cases e : gt (gr l r) c = 1
  · rw [if_pos e]; exact Lnk.refl _ _ _ _
  · rw [if_neg e]
    obtain ⟨s1, s2, s3⟩ := h.fok.inv_el hx h0
    generalize F.inv (gt (gr l r) c) = s at *
    generalize gt (gr l r) c = x at *
    have hs : ∀ i, gr (l.set r (mkL (gr l r).length (F.scaleF s (gr l r)))) i = if r = i then mkL (gr l r).length (F.scaleF s (gr l r)) else gr l i := fun i => gr_set _ _ _ _ (by rw [hg.1]; exact hr)
    have hd : ∀ w, F.dotN w (mkL (gr l r).length (F.scaleF s (gr l r))) N = F.mul s (F.dotN w (gr l r) N) := fun w => dotN_scale hO s N fun i hi => by
      rw [gt_mkL (by rw [hg.2 r hr]; exact hi)]; rfl
    refine ⟨fun w => ⟨fun hw i hi => ?_, fun hw i hi => ?_⟩, fun y' hy => ⟨fun i => if r = i then F.mul x (y' i) else y' i, fun i => ?_, fun w hw i hi => ?_⟩⟩
    · rw [hs]; split
      · rw [hd, hw r hr, mul_zero' hO]
      · exact hw i hi
    · by_cases e2 : r = i
      · subst e2
        have h1 := hw r hi
        rw [hs, if_pos rfl, hd] at h1
        refine Classical.byContradiction fun hne => ?_
        exact h.fok.mul_ne s1 (dotN_el hO _ _ _) s2 hne h1
      · have h1 := hw i hi
        rw [hs, if_neg e2] at h1
        exact h1
    · simp only; split
      · exact mul_el hO _ _
      · exact hy _
    · dsimp only at hw
      rw [hs]
      by_cases e2 : r = i
      · subst e2
        rw [if_pos rfl, hd, hw r hi, if_pos rfl, ← mul_assoc' hO, mul_comm' hO s x, s3, one_mul' hO (hy r)]
      · rw [if_neg e2, hw i hi, if_neg e2]
theorem lnk_clearIn {F : Fd} (h : RefOK F) {n N : Nat} {l : List (List Int)} (hg : Grid n N l) (he : EntR F.q l) {r c k : Nat} (hr : r < n) (hk : k < n) : Lnk F n N l (F.clearIn c r k l) := by
  have hO := h.ok
  unfold Fd.clearIn
  by_cases e : k ≠ r ∧ gt (gr l k) c ≠ 0
  · rw [if_pos e]
    generalize F.neg (gt (gr l k) c) = a
    have hs : ∀ i, gr (l.set k (mkL (gr l k).length (F.addToF (gr l k) a (gr l r)))) i = if k = i then mkL (gr l k).length (F.addToF (gr l k) a (gr l r)) else gr l i := fun i => gr_set _ _ _ _ (by rw [hg.1]; exact hk)
    have hd : ∀ w, F.dotN w (mkL (gr l k).length (F.addToF (gr l k) a (gr l r))) N = F.add (F.dotN w (gr l k) N) (F.mul a (F.dotN w (gr l r) N)) := fun w => dotN_addr hO a N fun i hi => by
      have hik : i < (gr l k).length := by rw [hg.2 k hk]; exact hi
      have hel : El F (gt (gr l k) i) := he k (by rw [hg.1]; exact hk) i hik
      rw [gt_mkL hik, Fd.addToF]
      split
      · next e3 => rw [e3, mul_zero' hO, add_zero' hO, hel.inE]
      · rfl
    have hcan : ∀ u v : Int, El F u → F.add (F.add u (F.neg v)) v = u := fun u v hu => by
      rw [add_assoc' hO, add_comm' (F.neg v) v, add_neg' hO, add_zero' hO, hu.inE]
    refine ⟨fun w => ⟨fun hw i hi => ?_, fun hw i hi => ?_⟩, fun y' hy => ⟨fun i => if k = i then F.add (y' i) (F.neg (F.mul a (y' r))) else y' i, fun i => ?_, fun w hw i hi => ?_⟩⟩
    · rw [hs]; split
      · rw [hd, hw k hk, hw r hr, mul_zero' hO, add_zero' hO, (el_zero hO.good).inE]
      · exact hw i hi
    · have hr0 : F.dotN w (gr l r) N = 0 := by
        have h1 := hw r hr
        rw [hs, if_neg e.1] at h1
        exact h1
      by_cases e2 : k = i
      · subst e2
        have h1 := hw k hi
        rw [hs, if_pos rfl, hd, hr0, mul_zero' hO, add_zero' hO, (dotN_el hO _ _ _).inE] at h1
        exact h1
      · have h1 := hw i hi
        rw [hs, if_neg e2] at h1
        exact h1
    · simp only; split
      · exact add_el hO.good _ _
      · exact hy _
    · dsimp only at hw
      have hr1 : F.dotN w (gr l r) N = y' r := by have := hw r hr; rw [if_neg e.1] at this; exact this
      rw [hs]
      by_cases e2 : k = i
      · subst e2
        rw [if_pos rfl, hd, hw k hi, if_pos rfl, hr1, hcan _ _ (hy k)]
      · rw [if_neg e2, hw i hi, if_neg e2]
  · rw [if_neg e]; exact Lnk.refl _ _ _ _
theorem lnk_clearR {F : Fd} (h : RefOK F) {n N : Nat} {l : List (List Int)} (hg : Grid n N l) (he : EntR F.q l) {r c : Nat} (hr : r < n) : ∀ t, t ≤ n → Lnk F n N l (F.clearR c r t l) ∧ Grid n N (F.clearR c r t l) ∧ EntR F.q (F.clearR c r t l)
  | 0, _ => ⟨Lnk.refl _ _ _ _, hg, he⟩
  | t + 1, ht => by
    obtain ⟨h1, h2, h3⟩ := lnk_clearR h hg he (c := c) hr t (by omega)
    have e : F.clearR c r (t + 1) l = F.clearIn c r t (F.clearR c r t l) := rfl
    rw [e]
    exact ⟨h1.trans (lnk_clearIn h h2 h3 hr (by omega)), h2.clearIn F c r (by omega), h3.clearIn h.ok c r (by rw [h2.1]; omega)⟩
theorem lnk_step {F : Fd} (h : RefOK F) {n N : Nat} {l : List (List Int)} {pv : List Int} (hg : Grid n N l) (he : EntR F.q l) (c : Nat) (hc : c < N) : Lnk F n N l (F.elimStep c (l, pv)).1 := by
  unfold Fd.elimStep
  simp only
  obtain ⟨s1, s2, s3, s4⟩ := nzAt_spec l c (l.length - pv.length) pv.length
  generalize nzAt l c (l.length - pv.length) pv.length = k at *
  have hl := hg.1
  by_cases hk : k < l.length
  · rw [if_pos hk]
    simp only
    have hk0 := s4 (by omega)
    have hr : pv.length < n := by omega
    have hkn : k < n := by omega
    have h1 := lnk_swap (F := F) (N := N) hl hr hkn
    have hg1 := hg.swap hr hkn
    have he1 := he.swap (i := pv.length) (j := k) (by omega) (by omega)
    have hrow : gr (swapR l pv.length k) pv.length = gr l k := by
      rw [gr_swap (by omega) hk]; split
      · next e => rw [e]
      · rw [if_pos rfl]
    have hx : El F (gt (gr l k) c) := he k hk c (by rw [hg.2 k hkn]; exact hc)
    have h2 := lnk_norm h hg1 hr (c := c) (by rw [hrow]; exact hx) (by rw [hrow]; exact hk0)
    have hg2 := hg1.norm F c hr
    have he2 := he1.norm h.ok c pv.length
    exact (h1.trans h2).trans (lnk_clearR h hg2 he2 (c := c) hr l.length (by omega)).1
  · rw [if_neg hk]; exact Lnk.refl _ _ _ _
theorem lnk_elim {F : Fd} (h : RefOK F) {n N : Nat} {l : List (List Int)} (hg : Grid n N l) (he : EntR F.q l) : ∀ t, t ≤ N → Lnk F n N l (loopN t F.elimStep (l, [])).1
  | 0, _ => Lnk.refl _ _ _ _
  | t + 1, ht => by
    have H := red_elim h hg he t
    rw [loopN_succ]
    exact (lnk_elim h hg he t (by omega)).trans (lnk_step h H.grid H.ent t (by omega))

/-! ### the canonical form of a canonical form -/
theorem Red.take {F : Fd} {n m t : Nat} {l : List (List Int)} {pv : List Int} (H : Red F n m t l pv) : Red F pv.length m t (l.take pv.length) pv := by
  have hl := H.len
  have hg : ∀ i, i < pv.length → gr (l.take pv.length) i = gr l i := fun i hi => by
    rw [gr, gr, List.getD_eq_getElem?_getD, List.getD_eq_getElem?_getD, List.getElem?_take_of_lt hi]
  have hlen : (l.take pv.length).length = pv.length := by rw [List.length_take, H.grid.1]; omega
  refine ⟨⟨hlen, fun k hk => by rw [hg k hk]; exact H.grid.2 k (by omega)⟩, fun k hk => ?_, Nat.le_refl _, H.rng, H.inc, fun a ha i hi => by rw [hg i hi]; exact H.unit a ha i (by omega), fun a ha j hj => by rw [hg a ha]; exact H.lead a ha j hj, fun i h1 h2 => by omega⟩
  rw [hlen] at hk
  rw [hg k hk]
  exact H.ent k (by rw [H.grid.1]; omega)
/-- the pivots below t -/
def pvB (pv : List Int) (t : Nat) : List Int := pv.filter fun p => decide (p < t)
theorem pvB_take {pv : List Int} (hinc : ∀ a b, a < b → b < pv.length → gt pv a < gt pv b) (t : Nat) : ∃ r, r ≤ pv.length ∧ pvB pv t = pv.take r ∧ (∀ a, a < r → gt pv a < t) ∧ ∀ a, r ≤ a → a < pv.length → (t : Int) ≤ gt pv a := by
  induction pv with
  | nil => exact ⟨0, Nat.le_refl _, rfl, fun a ha => by omega, fun a _ ha => by simp at ha⟩
  | cons p pv ih =>
    have hg : ∀ a, gt (p :: pv) (a + 1) = gt pv a := fun a => by simp [gt]
    have hp : gt (p :: pv) 0 = p := by simp [gt]
    obtain ⟨r, h1, h2, h3, h4⟩ := ih fun a b hab hb => by
      have := hinc (a + 1) (b + 1) (by omega) (by simpa using hb)
      rwa [hg, hg] at this
    by_cases e : p < t
    · refine ⟨r + 1, by simp; omega, ?_, ?_, ?_⟩
      · rw [pvB, List.filter_cons, if_pos (by simpa using e), List.take_succ_cons, ← h2, pvB]
      · intro a ha
        cases a with
        | zero => rw [hp]; exact e
        | succ a => rw [hg]; exact h3 a (by omega)
      · intro a ha hl
        cases a with
        | zero => omega
        | succ a => rw [hg]; exact h4 a (by omega) (by simpa using hl)
    · have hall : ∀ a, a < (p :: pv).length → (t : Int) ≤ gt (p :: pv) a := fun a ha => by
        cases a with
        | zero => rw [hp]; omega
        | succ a =>
          have := hinc 0 (a + 1) (by omega) ha
          rw [hp] at this; omega
      refine ⟨0, Nat.zero_le _, ?_, fun a ha => by omega, fun a _ ha => hall a ha⟩
      rw [pvB, List.take_zero, List.filter_eq_nil_iff]
      intro x hx
      obtain ⟨a, ha, e2⟩ := mem_iff_gt.1 hx
      have := hall a ha
      simp only [decide_eq_true_eq]
      omega
/-- elimination leaves a reduced matrix as it is -/
theorem elim_fix {F : Fd} (h : RefOK F) {n m : Nat} {l : List (List Int)} {pv : List Int} (H : Red F n m m l pv) (hp : pv.length = n) : ∀ t, t ≤ m → loopN t F.elimStep (l, []) = (l, pvB pv t)
  | 0, _ => by
    have : pvB pv 0 = [] := by
      rw [pvB, List.filter_eq_nil_iff]
      intro x hx
      obtain ⟨a, ha, e⟩ := mem_iff_gt.1 hx
      have := H.rng a ha
      simp only [decide_eq_true_eq]
      omega
    rw [this]; rfl
  | t + 1, ht => by
    have hl := H.grid.1
    rw [loopN_succ, elim_fix h H hp t (by omega)]
    obtain ⟨r, h1, h2, h3, h4⟩ := pvB_take H.inc t
    have hlen : (pvB pv t).length = r := by rw [h2, List.length_take]; omega
    obtain ⟨s1, s2, s3, s4⟩ := nzAt_spec l t (l.length - (pvB pv t).length) (pvB pv t).length
    unfold Fd.elimStep
    simp only
    generalize nzAt l t (l.length - (pvB pv t).length) (pvB pv t).length = k at *
    rw [hlen] at *
    by_cases e : r < pv.length ∧ gt pv r = t
    · obtain ⟨e1, e2⟩ := e
      have hu : ∀ i, i < n → gt (gr l i) t = if i = r then 1 else 0 := fun i hi => by
        have := H.unit r e1 i hi
        rw [e2] at this
        exact this
      have hkr : k = r := by
        refine Nat.le_antisymm (Nat.le_of_not_lt fun hlt => ?_) s1
        have := s3 r (Nat.le_refl _) hlt
        rw [hu r (by omega), if_pos rfl] at this
        cases this
      subst hkr
      rw [if_pos (by omega), swapR_self]
      have hn : F.normR t k l = l := by unfold Fd.normR; rw [if_pos (by rw [hu k (by omega), if_pos rfl])]
      have hc : ∀ c, c ≤ n → F.clearR t k c l = l := fun c => by
        induction c with
        | zero => intro _; rfl
        | succ c ih =>
          intro hc
          have e9 : F.clearR t k (c + 1) l = F.clearIn t k c (F.clearR t k c l) := rfl
          rw [e9, ih (by omega)]
          unfold Fd.clearIn
          rw [if_neg]
          rintro ⟨g1, g2⟩
          rw [hu c (by omega), if_neg g1] at g2
          exact g2 rfl
      rw [hn, hc _ (by omega)]
      have e3 : pvB pv (t + 1) = pvB pv t ++ [(t : Int)] := by
        obtain ⟨r2, g1, g2, g3, g4⟩ := pvB_take H.inc (t + 1)
        have hr2 : r2 = k + 1 := by
          refine Nat.le_antisymm (Nat.le_of_not_lt fun hlt => ?_) (Nat.le_of_not_lt fun hlt => ?_)
          · have h5 := g3 (k + 1) hlt
            have h6 := H.inc k (k + 1) (by omega) (by omega)
            omega
          · have h5 := g4 k (by omega) (by omega)
            omega
        have h7 : gt pv k = pv[k] := gt_eq e1
        rw [g2, h2, hr2, List.take_add_one, List.getElem?_eq_getElem e1, ← h7, e2]
        rfl
      rw [e3]
    · have hz : ∀ j, r ≤ j → j < n → gt (gr l j) t = 0 := fun j hj hjn => by
        have h5 := h4 j hj (by omega)
        refine H.lead j (by omega) t ?_
        by_cases e2 : gt pv j = t
        · by_cases e3 : j = r
          · exact absurd ⟨by omega, by rw [← e3]; exact e2⟩ e
          · have h6 := h4 r (Nat.le_refl _) (by omega)
            have h7 := H.inc r j (by omega) (by omega)
            omega
        · omega
      have hkn : ¬ k < l.length := fun hlt => s4 (by omega) (hz k s1 (by omega))
      rw [if_neg hkn]
      have e3 : pvB pv (t + 1) = pvB pv t := by
        rw [pvB, pvB]
        refine List.filter_congr fun x hx => decide_eq_decide.2 ?_
        obtain ⟨a, ha, e2⟩ := mem_iff_gt.1 hx
        constructor
        · intro h5
          by_cases h6 : x = t
          · refine absurd ?_ e
            have har : ¬ a < r := fun h7 => by have := h3 a h7; omega
            by_cases h8 : a = r
            · exact ⟨by omega, by rw [← h8, e2]; exact h6⟩
            · have h9 := h4 r (Nat.le_refl _) (by omega)
              have h10 := H.inc r a (by omega) ha
              omega
          · omega
        · intro h5; omega
      rw [e3]
theorem canon_fix {F : Fd} (h : RefOK F) {n m : Nat} {l : List (List Int)} {pv : List Int} (H : Red F n m m l pv) (hp : pv.length = n) : F.canon l m = l ∧ F.pivs l m = pv := by
  have h1 := elim_fix h H hp m (Nat.le_refl _)
  have h2 : pvB pv m = pv := by
    rw [pvB, List.filter_eq_self]
    intro x hx
    obtain ⟨a, ha, e⟩ := mem_iff_gt.1 hx
    have := H.rng a ha
    simp only [decide_eq_true_eq]
    omega
  rw [h2] at h1
  have h3 : F.elim l m = (l, pv) := h1
  rw [Fd.canon, Fd.pivs, h3]
  refine ⟨?_, rfl⟩
  simp only
  rw [hp, ← H.grid.1, List.take_length]
theorem red_of_canon {F : Fd} (h : RefOK F) {n m : Nat} {l : List (List Int)} (hg : Grid n m l) (he : EntR F.q l) : Red F (F.pivs l m).length m m (F.canon l m) (F.pivs l m) := (red_elim h hg he m).take
theorem canon_canon {F : Fd} (h : RefOK F) {n m : Nat} {l : List (List Int)} (hg : Grid n m l) (he : EntR F.q l) : F.canon (F.canon l m) m = F.canon l m := (canon_fix h (red_of_canon h hg he) rfl).1

end Go.Proofs.Ytcigdhmecfhndaa

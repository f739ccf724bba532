/- Residues modulo a monic polynomial, over the whole numbers: plain functions. The ring of the residues: sums and products of elements, as plain functions. The field's laws: every element but 0 is a power of the generator. No divisors of 0: from a generator, and from an irreducible modulus. An irreducible modulus has a generator: the reference and the program take the same fields. -/
import Derived.Test.YtcigdhmecfhndaaBase
namespace Go.Proofs.Ytcigdhmecfhndaa

/-! ### times X, modulo X^M + md -/
def tX (M : Nat) (md : List Int) (v : Nat → Int) : Nat → Int := fun j => if j < M then (if j = 0 then 0 else v (j - 1)) - v (M - 1) * gt md j else 0
def act (M : Nat) (md : List Int) : List Int → (Nat → Int) → (Nat → Int)
  | [], _ => fun _ => 0
  | b :: l, v => fun j => b * v j + tX M md (act M md l v) j
def tN (M : Nat) (md : List Int) : Nat → (Nat → Int) → (Nat → Int)
  | 0, v => v
  | k + 1, v => tX M md (tN M md k v)
def e0 : Nat → Int := fun j => if j = 0 then 1 else 0
theorem tX_add (M : Nat) (md : List Int) (u v : Nat → Int) : tX M md (fun j => u j + v j) = fun j => tX M md u j + tX M md v j := by
  funext j; simp only [tX, Int.add_mul]; split
  · split <;> omega
  · rfl
theorem tX_smul (M : Nat) (md : List Int) (c : Int) (v : Nat → Int) : tX M md (fun j => c * v j) = fun j => c * tX M md v j := by
  funext j; simp only [tX]; split
  · split
    · rw [Int.mul_sub, Int.mul_assoc, Int.mul_zero]
    · rw [Int.mul_sub, Int.mul_assoc]
  · rw [Int.mul_zero]
theorem tX_zero (M : Nat) (md : List Int) : tX M md (fun _ => 0) = fun _ => 0 := by
  funext j; simp [tX]
theorem act_add (M : Nat) (md : List Int) : ∀ (l : List Int) (u v : Nat → Int), act M md l (fun j => u j + v j) = fun j => act M md l u j + act M md l v j
  | [], u, v => by funext j; simp [act]
  | b :: l, u, v => by
    funext j
    simp only [act]
    rw [act_add M md l u v, tX_add M md (act M md l u) (act M md l v), Int.mul_add]; simp only []; omega
theorem act_smul (M : Nat) (md : List Int) (c : Int) : ∀ (l : List Int) (v : Nat → Int), act M md l (fun j => c * v j) = fun j => c * act M md l v j
  | [], v => by funext j; simp [act]
  | b :: l, v => by
    funext j
    simp only [act]
    rw [act_smul M md c l v, tX_smul M md c (act M md l v), Int.mul_add, Int.mul_left_comm]
theorem act_tX (M : Nat) (md : List Int) : ∀ (l : List Int) (v : Nat → Int), act M md l (tX M md v) = tX M md (act M md l v)
  | [], v => by funext j; simp [act, tX]
  | b :: l, v => by
    funext j
    simp only [act]
    rw [tX_add M md (fun j => b * v j) (tX M md (act M md l v)), tX_smul M md b v, act_tX M md l v]
theorem act_comm (M : Nat) (md : List Int) (k : List Int) : ∀ (l : List Int) (v : Nat → Int), act M md l (act M md k v) = act M md k (act M md l v)
  | [], v => by
    have h := act_smul M md 0 k v
    funext j
    have := congrFun h j
    simp only [Int.zero_mul] at this
    simp only [act]; exact this.symm
  | b :: l, v => by
    funext j
    simp only [act]
    rw [act_comm M md k l v, act_add M md k (fun j => b * v j) (tX M md (act M md l v)), act_smul M md b k v, act_tX M md k]
theorem act_zero (M : Nat) (md l : List Int) : act M md l (fun _ => 0) = fun _ => 0 := by
  have h := act_smul M md 0 l fun _ => 0
  simpa using h
theorem tN_succ' (M : Nat) (md : List Int) (k : Nat) (v : Nat → Int) : tN M md (k + 1) v = tX M md (tN M md k v) := rfl
theorem tN_add (M : Nat) (md : List Int) (i : Nat) (v : Nat → Int) : ∀ k, tN M md (i + k) v = tN M md k (tN M md i v)
  | 0 => rfl
  | k + 1 => by rw [← Nat.add_assoc, tN, tN_add M md i v k, tN]
theorem act_tN (M : Nat) (md l : List Int) (v : Nat → Int) : ∀ k, act M md l (tN M md k v) = tN M md k (act M md l v)
  | 0 => rfl
  | k + 1 => by rw [tN, act_tX, act_tN M md l v k, tN]
theorem act_set (M : Nat) (md : List Int) : ∀ (l : List Int) (k : Nat) (x : Int) (v : Nat → Int), k < l.length → act M md (l.set k x) v = fun j => act M md l v j + (x - gt l k) * tN M md k v j
  | [], k, x, v, h => by simp at h
  | b :: l, 0, x, v, _ => by
    funext j
    simp only [act, List.set_cons_zero, tN, gt, List.getD_cons_zero, Int.sub_mul]; omega
  | b :: l, k + 1, x, v, h => by
    funext j
    have hk : k < l.length := by simpa using h
    simp only [act, List.set_cons_succ]
    rw [act_set M md l k x v hk, tX_add M md (act M md l v) (fun j => (x - gt l k) * tN M md k v j), tX_smul]
    simp only [tN, gt, List.getD_cons_succ]; omega
theorem act_snoc (M : Nat) (md : List Int) (c : Int) (v : Nat → Int) : ∀ (l : List Int), act M md (l ++ [c]) v = fun j => act M md l v j + c * tN M md l.length v j
  | [] => by funext j; simp [act, tX, tN]
  | b :: l => by
    funext j
    simp only [List.cons_append, act, List.length_cons]
    rw [act_snoc M md c v l, tX_add M md (act M md l v) (fun j => c * tN M md l.length v j), tX_smul]
    simp only [tN]; omega
theorem act_e0 (M : Nat) (md : List Int) : ∀ (l : List Int), l.length ≤ M → act M md l e0 = gt l
  | [], _ => by funext j; simp [act, gt]
  | b :: l, h => by
    simp only [List.length_cons] at h
    funext j
    simp only [act]
    rw [act_e0 M md l (by omega), tX, gt_out (xs := l) (k := M - 1) (by omega)]
    cases j with
    | zero => simp [e0, gt, show 0 < M by omega]
    | succ j =>
      simp only [e0, gt, List.getD_cons_succ]
      by_cases hj : j + 1 < M
      · simp [hj]
      · simp [hj]
        rw [List.getElem?_eq_none (by omega)]; rfl
theorem tN_e0 (M : Nat) (md : List Int) : ∀ k, k < M → tN M md k e0 = fun j => if j = k then 1 else 0
  | 0, _ => rfl
  | k + 1, h => by
    rw [tN, tN_e0 M md k (by omega)]
    funext j
    simp only [tX]
    rw [if_neg (show ¬ M - 1 = k by omega), Int.zero_mul, Int.sub_zero]
    by_cases hj : j < M
    · rw [if_pos hj]
      by_cases h0 : j = 0
      · rw [if_pos h0, if_neg (by omega)]
      · rw [if_neg h0]
        by_cases h1 : j = k + 1
        · rw [if_pos h1, if_pos (by omega)]
        · rw [if_neg h1, if_neg (by omega)]
    · rw [if_neg hj, if_neg (by omega)]
theorem tN_top (M : Nat) (md : List Int) (hM : 0 < M) (hl : md.length = M) : tN M md M e0 = fun j => - gt md j := by
  obtain ⟨k, rfl⟩ : ∃ k, M = k + 1 := ⟨M - 1, by omega⟩
  rw [tN, tN_e0 _ md k (by omega)]
  funext j
  simp only [tX, Nat.add_sub_cancel, if_true, Int.one_mul]
  by_cases hj : j < k + 1
  · rw [if_pos hj]
    by_cases h0 : j = 0
    · rw [if_pos h0]; omega
    · rw [if_neg h0, if_neg (by omega)]; omega
  · rw [if_neg hj, gt_out (by omega)]; rfl
/-- X^M + md is nothing -/
theorem act_md (M : Nat) (md : List Int) (hM : 0 < M) (hl : md.length = M) : act M md (md ++ [1]) e0 = fun _ => 0 := by
  rw [act_snoc, act_e0 M md md (by omega), hl, tN_top M md hM hl]
  funext j; simp only []; omega

/-! ### the same but for multiples of p -/
def Cg (p : Int) (u v : Nat → Int) : Prop := ∀ j, p ∣ u j - v j
theorem Cg.refl (p : Int) (u : Nat → Int) : Cg p u u := fun j => by rw [Int.sub_self]; exact Int.dvd_zero _
theorem Cg.symm {p : Int} {u v : Nat → Int} (h : Cg p u v) : Cg p v u := fun j => by
  obtain ⟨c, e⟩ := h j
  exact ⟨-c, by rw [Int.mul_neg]; omega⟩
theorem Cg.trans {p : Int} {u v w : Nat → Int} (h : Cg p u v) (k : Cg p v w) : Cg p u w := fun j => by
  obtain ⟨c, e⟩ := h j
  obtain ⟨d, f⟩ := k j
  exact ⟨c + d, by rw [Int.mul_add]; omega⟩
theorem Cg.add {p : Int} {u v u' v' : Nat → Int} (h : Cg p u v) (k : Cg p u' v') : Cg p (fun j => u j + u' j) (fun j => v j + v' j) := fun j => by
  obtain ⟨c, e⟩ := h j
  obtain ⟨d, f⟩ := k j
  exact ⟨c + d, by rw [Int.mul_add]; simp only []; omega⟩
theorem Cg.smul {p : Int} {u v : Nat → Int} (h : Cg p u v) (a : Int) : Cg p (fun j => a * u j) (fun j => a * v j) := fun j => by
  obtain ⟨c, e⟩ := h j
  exact ⟨a * c, by rw [← Int.mul_sub, e, Int.mul_left_comm]⟩
theorem Cg.coef {p a b : Int} (h : p ∣ a - b) (u : Nat → Int) : Cg p (fun j => a * u j) (fun j => b * u j) := fun j => by
  obtain ⟨c, e⟩ := h
  exact ⟨c * u j, by rw [← Int.sub_mul, e, Int.mul_assoc]⟩
theorem Cg.of_eq {p : Int} {u v : Nat → Int} (h : u = v) : Cg p u v := h ▸ Cg.refl p u
theorem dvd_mod (p a : Int) : p ∣ a % p - a := ⟨-(a / p), by rw [Int.emod_def, Int.mul_neg]; omega⟩
theorem dvd_mod' (p a : Int) : p ∣ a - a % p := ⟨a / p, by rw [Int.emod_def]; omega⟩
theorem Cg.tX {p : Int} {u v : Nat → Int} (h : Cg p u v) (M : Nat) (md : List Int) : Cg p (tX M md u) (tX M md v) := fun j => by
  obtain ⟨c, e⟩ := h (j - 1)
  obtain ⟨d, f⟩ := h (M - 1)
  simp only [Go.Proofs.Ytcigdhmecfhndaa.tX]
  by_cases hj : j < M
  · rw [if_pos hj, if_pos hj]
    have hf : u (M - 1) * gt md j - v (M - 1) * gt md j = p * (d * gt md j) := by rw [← Int.sub_mul, f, Int.mul_assoc]
    by_cases h0 : j = 0
    · rw [if_pos h0, if_pos h0]
      exact ⟨-(d * gt md j), by rw [Int.mul_neg]; omega⟩
    · rw [if_neg h0, if_neg h0]
      exact ⟨c - d * gt md j, by rw [Int.mul_sub]; omega⟩
  · rw [if_neg hj, if_neg hj]; exact ⟨0, by omega⟩
theorem Cg.tN {p : Int} {u v : Nat → Int} (h : Cg p u v) (M : Nat) (md : List Int) : ∀ k, Cg p (tN M md k u) (tN M md k v)
  | 0 => h
  | k + 1 => (Cg.tN h M md k).tX M md
theorem Cg.act {p : Int} {u v : Nat → Int} (h : Cg p u v) (M : Nat) (md : List Int) : ∀ l, Cg p (act M md l u) (act M md l v)
  | [] => Cg.refl _ _
  | b :: l => Cg.add (h.smul b) ((Cg.act h M md l).tX M md)
/-- the coefficients may be changed, too -/
theorem Cg.act_l {p : Int} {l k v : List Int} (M : Nat) (md : List Int) (hl : l.length ≤ M) (hk : k.length ≤ M) (hv : v.length ≤ M) (h : Cg p (gt l) (gt k)) : Cg p (Go.Proofs.Ytcigdhmecfhndaa.act M md l (gt v)) (Go.Proofs.Ytcigdhmecfhndaa.act M md k (gt v)) := by
  rw [← act_e0 M md v hv, act_comm, act_comm M md v k, act_e0 M md l hl, act_e0 M md k hk]
  exact h.act M md v

/-! ### digits -/
theorem digL_succ (x p : Int) (hp : 0 < p) (n : Nat) : digL x p (n + 1) = (x % p) :: digL (x / p) p n := by
  refine ext_gt (by simp [digL_length]) fun k hk => ?_
  rw [digL_length] at hk
  rw [digL, gt_mkL hk]
  cases k with
  | zero => simp [digF, gt]
  | succ k =>
    simp only [gt, List.getD_cons_succ]
    rw [← gt, digL, gt_mkL (by omega), digF, digF, Int.pow_succ, Int.mul_comm, Int.ediv_ediv_of_nonneg (by omega)]
theorem valL_digL {p : Int} (hp : 2 ≤ p) : ∀ (n : Nat) (x : Int), 0 ≤ x → x < p ^ n → valL p (digL x p n) = x
  | 0, x, h0, h1 => by
    rw [Int.pow_zero] at h1
    have : x = 0 := by omega
    subst this; rfl
  | n + 1, x, h0, h1 => by
    have hq : x / p < p ^ n := by
      rw [Int.pow_succ] at h1
      exact Int.ediv_lt_of_lt_mul (by omega) h1
    rw [digL_succ x p (by omega), valL, valL_digL hp n (x / p) (Int.ediv_nonneg h0 (by omega)) hq]
    have := Int.emod_def x p
    rw [Int.mul_comm]; omega
theorem digL_valL {p : Int} (hp : 2 ≤ p) : ∀ (l : List Int), Res p l → digL (valL p l) p l.length = l
  | [], _ => rfl
  | d :: l, h => by
    have h0 := h 0
    simp only [gt, List.getD_cons_zero] at h0
    have hl : Res p l := fun k => by
      have := h (k + 1)
      simpa [gt] using this
    rw [List.length_cons, digL_succ _ p (by omega), valL]
    rw [Int.add_comm, Int.add_mul_emod_self_right, Int.emod_eq_of_lt h0.1 h0.2, Int.add_mul_ediv_right _ _ (by omega), Int.ediv_eq_zero_of_lt h0.1 h0.2, Int.zero_add, digL_valL hp l hl]
/-- residues that are the same but for multiples of p are the same -/
theorem res_eq {p a b : Int} (ha : 0 ≤ a ∧ a < p) (hb : 0 ≤ b ∧ b < p) (h : p ∣ a - b) : a = b := by
  obtain ⟨c, e⟩ := h
  have h1 : a % p = b % p := by
    rw [show a = b + p * c by omega, Int.add_mul_emod_self_left]
  rwa [Int.emod_eq_of_lt ha.1 ha.2, Int.emod_eq_of_lt hb.1 hb.2] at h1
theorem resl_eq {p : Int} {l k : List Int} (hl : l.length = k.length) (h1 : Res p l) (h2 : Res p k) (h : Cg p (gt l) (gt k)) : l = k :=
  ext_gt hl fun j _ => res_eq (h1 j) (h2 j) (h j)

end Go.Proofs.Ytcigdhmecfhndaa

namespace Go.Proofs.Ytcigdhmecfhndaa

/-! ### the products of lists -/
theorem cg_set {p : Int} (M : Nat) (md c : List Int) (k : Nat) (a v : Int) (hk : k < c.length) (hv : p ∣ v - (gt c k + a)) :
    Cg p (act M md (c.set k v) e0) (fun j => act M md c e0 j + a * tN M md k e0 j) := by
  rw [act_set M md c k v e0 hk]
  exact Cg.add (Cg.refl p _) (Cg.coef (by obtain ⟨t, e⟩ := hv; exact ⟨t, by omega⟩) _)
theorem gt_take_lt {xs : List Int} {m k : Nat} (h : k < m) : gt (xs.take m) k = gt xs k := gt_take h
theorem take_gt {xs : List Int} {k : Nat} (h : k < xs.length) : xs.take (k + 1) = xs.take k ++ [gt xs k] := by
  rw [gt_eq h, List.take_succ_eq_append_getElem h]
theorem mulIn_cg {p : Int} (M : Nat) (md a b c : List Int) (i : Nat) : ∀ j, j ≤ b.length → i + j ≤ c.length → 
    Cg p (act M md (loopN j (mulIn a b p i) c) e0) (fun s => act M md c e0 s + gt a i * act M md (b.take j) (tN M md i e0) s)
  | 0, _, _ => Cg.of_eq (by funext s; simp [loopN, act])
  | j + 1, hb, hc => by
    have ih := mulIn_cg (p := p) M md a b c i j (by omega) (by omega)
    have hl : (loopN j (mulIn a b p i) c).length = c.length := loopN_len _ _ _ fun _ _ => mulIn_len _ _ _ _ _ _
    rw [loopN_succ]
    refine (cg_set (p := p) M md (loopN j (mulIn a b p i) c) (i + j) (gt a i * gt b j) _ (by omega) (dvd_mod p _)).trans ?_
    refine (Cg.add ih (Cg.refl p _)).trans (Cg.of_eq ?_)
    rw [take_gt (by omega), act_snoc]
    funext s
    have hbl : (b.take j).length = j := by simp; omega
    rw [hbl, Int.mul_add, ← tN_add, Int.mul_assoc]; omega
theorem conv_cg {p : Int} (M : Nat) (md a b : List Int) (ha : a.length = b.length) : ∀ i, i ≤ b.length → 
    Cg p (act M md (loopN i (fun i c => loopN b.length (mulIn a b p i) c) (List.replicate (2 * b.length - 1) 0)) e0) (act M md b (act M md (a.take i) e0))
  | 0, _ => Cg.of_eq (by
    simp only [loopN, List.take_zero]
    have h : ∀ n v, act M md (List.replicate n 0) v = fun _ => 0 := by
      intro n v
      induction n with
      | zero => rfl
      | succ n ih => rw [List.replicate_succ]; funext s; simp only [act]; rw [ih, tX_zero]; simp
    rw [h]
    exact (act_zero M md b).symm)
  | i + 1, hi => by
    have ih := conv_cg (p := p) M md a b ha i (by omega)
    have hl : (loopN i (fun i c => loopN b.length (mulIn a b p i) c) (List.replicate (2 * b.length - 1) 0)).length = 2 * b.length - 1 := by
      rw [loopN_len _ _ _ fun _ _ => loopN_len _ _ _ fun _ _ => mulIn_len _ _ _ _ _ _, List.length_replicate]
    rw [loopN_succ]
    refine (mulIn_cg (p := p) M md a b _ i b.length (Nat.le_refl _) (by omega)).trans ?_
    refine (Cg.add ih (Cg.refl p _)).trans (Cg.of_eq ?_)
    rw [take_gt (by omega), act_snoc]
    have hal : (a.take i).length = i := by simp; omega
    rw [hal, act_add M md b (act M md (a.take i) e0) (fun j => gt a i * tN M md i e0 j), act_smul, List.take_length]
theorem convL_cg {p : Int} (M : Nat) (md a b : List Int) (ha : a.length = b.length) : Cg p (act M md (convL a b p b.length) e0) (act M md b (act M md a e0)) := by
  have := conv_cg (p := p) M md a b ha b.length (Nat.le_refl _)
  rwa [← ha, List.take_length, ha] at this
/-- one row of the reduction -/
theorem redIn_cg {p : Int} (M : Nat) (md c : List Int) (i : Nat) (hm : md.length = M) (hM : M ≤ i) (hi : i < c.length) : ∀ j, j ≤ M →
    gt (loopN j (redIn md p M i) c) i = gt c i ∧
    Cg p (act M md ((loopN j (redIn md p M i) c).take i) e0) (fun s => act M md (c.take i) e0 s + (- gt c i) * act M md (md.take j) (tN M md (i - M) e0) s)
  | 0, _ => ⟨rfl, Cg.of_eq (by funext s; simp [loopN, act])⟩
  | j + 1, hj => by
    obtain ⟨ih1, ih2⟩ := redIn_cg (p := p) M md c i hm hM hi j (by omega)
    have hl : (loopN j (redIn md p M i) c).length = c.length := loopN_len _ _ _ fun _ _ => redIn_len _ _ _ _ _ _
    rw [loopN_succ]
    refine ⟨by rw [redIn, gt_set _ _ _ _ (by omega), if_neg (by omega)]; exact ih1, ?_⟩
    rw [redIn, List.take_set]
    refine (cg_set (p := p) M md _ (i - M + j) ((- gt c i) * gt md j) _ (by rw [List.length_take]; omega) ?_).trans ?_
    · rw [gt_take (by omega), ih1]
      obtain ⟨t, e⟩ := dvd_mod p (gt (loopN j (redIn md p M i) c) (i - M + j) + (p - gt c i) * gt md j)
      refine ⟨t + gt md j, ?_⟩
      rw [Int.mul_add, ← e, Int.sub_mul, Int.neg_mul]; omega
    · refine (Cg.add ih2 (Cg.refl p _)).trans (Cg.of_eq ?_)
      rw [take_gt (by omega), act_snoc]
      funext s
      have hml : (md.take j).length = j := by simp; omega
      rw [hml, Int.mul_add, ← tN_add, Int.mul_assoc]; omega
theorem red_step {p : Int} (M : Nat) (md c : List Int) (i : Nat) (h0 : 0 < M) (hm : md.length = M) (hM : M ≤ i) (hi : i < c.length) :
    Cg p (act M md ((loopN M (redIn md p M i) c).take i) e0) (act M md (c.take (i + 1)) e0) := by
  refine (redIn_cg (p := p) M md c i hm hM hi M (Nat.le_refl _)).2.trans (Cg.of_eq ?_)
  rw [take_gt hi, act_snoc]
  have hcl : (c.take i).length = i := by simp; omega
  funext s
  rw [hcl, ← hm, List.take_length, hm, act_tN, act_e0 M md md (by omega)]
  have h1 : tN M md i e0 = tN M md (i - M) (tN M md M e0) := by rw [← tN_add]; congr 1; omega
  have h2 := tN_top M md h0 hm
  have h3 : tN M md (i - M) (fun j => (-1) * gt md j) = fun j => (-1) * tN M md (i - M) (gt md) j := by
    generalize i - M = k
    induction k with
    | zero => rfl
    | succ k ih => rw [tN, ih, tX_smul]; rfl
  rw [h1, h2, show (fun j => - gt md j) = fun j => (-1) * gt md j by funext j; omega, h3]
  simp only []
  rw [Int.mul_left_comm, Int.neg_mul, Int.neg_mul]; omega
theorem redL_cg {p : Int} (M : Nat) (md c : List Int) (h0 : 0 < M) (hm : md.length = M) (hc : c.length = 2 * M - 1) : ∀ t, t ≤ M - 1 →
    Cg p (act M md ((loopN t (fun t c => loopN M (redIn md p M (2 * M - 2 - t)) c) c).take (2 * M - 1 - t)) e0) (act M md c e0)
  | 0, _ => by rw [loopN, Nat.sub_zero, ← hc, List.take_length]; exact Cg.refl _ _
  | t + 1, ht => by
    have ih := redL_cg (p := p) M md c h0 hm hc t (by omega)
    have hl : (loopN t (fun t c => loopN M (redIn md p M (2 * M - 2 - t)) c) c).length = c.length := loopN_len _ _ _ fun _ _ => loopN_len _ _ _ fun _ _ => redIn_len _ _ _ _ _ _
    rw [loopN_succ]
    have := red_step (p := p) M md (loopN t (fun t c => loopN M (redIn md p M (2 * M - 2 - t)) c) c) (2 * M - 2 - t) h0 hm (by omega) (by omega)
    rw [show 2 * M - 2 - t + 1 = 2 * M - 1 - t by omega] at this
    rw [show 2 * M - 1 - (t + 1) = 2 * M - 2 - t by omega]
    exact this.trans ih
/-- the product of two rows of digits, reduced -/
theorem mulL_cg {p : Int} (M : Nat) (md a b : List Int) (h0 : 0 < M) (hm : M = 1 ∨ md.length = M) (ha : a.length = M) (hb : b.length = M) :
    Cg p (gt ((redL md p M (convL a b p M)).take M)) (act M md b (gt a)) := by
  have hc := convL_cg (p := p) M md a b (by omega)
  rw [hb] at hc
  rw [act_e0 M md a (by omega)] at hc
  refine Cg.trans ?_ hc
  rw [← act_e0 M md ((redL md p M (convL a b p M)).take M) (by rw [List.length_take]; omega)]
  by_cases h1 : M = 1
  · subst h1
    have hl := convL_len a b p 1
    have : (redL md p 1 (convL a b p 1)).take 1 = convL a b p 1 := by
      rw [redL]
      simp only [Nat.sub_self, loopN]
      rw [List.take_of_length_le (by omega)]
    rw [this]; exact Cg.refl _ _
  · have := redL_cg (p := p) M md (convL a b p M) h0 (by omega) (convL_len _ _ _ _) (M - 1) (Nat.le_refl _)
    rw [show 2 * M - 1 - (M - 1) = M by omega] at this
    exact this

/-! ### elements as rows of digits -/
/-- x is an element -/
def El (F : Fd) (x : Int) : Prop := 0 ≤ x ∧ x < F.q
abbrev Fd.M (F : Fd) : Nat := F.m.toNat
def Fd.L (F : Fd) (x : Int) : List Int := digL x F.p F.m.toNat
theorem Fd.L_len (F : Fd) (x : Int) : (F.L x).length = F.m.toNat := digL_length _ _ _
theorem L_res {F : Fd} (hG : F.Good) (x : Int) : Res F.p (F.L x) := digL_res (by have := hG.p2; omega) _
theorem Fd.Good.M0 {F : Fd} (hG : F.Good) : 0 < F.m.toNat := by have := hG.m1; omega
theorem val_L {F : Fd} (hG : F.Good) {x : Int} (hx : El F x) : valL F.p (F.L x) = x := valL_digL hG.p2 _ x hx.1 (by rw [← hG.q]; exact hx.2)
theorem L_val {F : Fd} (hG : F.Good) {l : List Int} (h : Res F.p l) (hl : l.length = F.m.toNat) : F.L (valL F.p l) = l := by
  rw [Fd.L, ← hl]; exact digL_valL hG.p2 l h
theorem el_val {F : Fd} (hG : F.Good) {l : List Int} (h : Res F.p l) (hl : l.length = F.m.toNat) : El F (valL F.p l) := by
  have := valL_bound (p := F.p) (by have := hG.p2; omega) l fun k _ => h k
  rw [hl, ← hG.q] at this; exact this
theorem el_eq {F : Fd} (hG : F.Good) {x y : Int} (hx : El F x) (hy : El F y) (h : Cg F.p (gt (F.L x)) (gt (F.L y))) : x = y := by
  have : F.L x = F.L y := resl_eq (by rw [Fd.L_len, Fd.L_len]) (L_res hG x) (L_res hG y) h
  rw [← val_L hG hx, ← val_L hG hy, this]
theorem El.inE {F : Fd} {x : Int} (h : El F x) : inE F.q x = x := if_pos h
theorem inE_el {F : Fd} (hG : F.Good) (x : Int) : El F (Go.Proofs.Ytcigdhmecfhndaa.inE F.q x) := inE_bound (by have := hG.q2; omega)
theorem dig_el {F : Fd} (x : Int) : F.dig x = F.L (Go.Proofs.Ytcigdhmecfhndaa.inE F.q x) := rfl
theorem mod_take {F : Fd} {f : Nat → Int} (k : Nat) : gt (mkL F.m.toNat f) k = if k < F.m.toNat then f k else 0 := by
  by_cases h : k < F.m.toNat
  · rw [gt_mkL h, if_pos h]
  · rw [gt_out (by rw [mkL_length]; omega), if_neg h]
theorem add_el {F : Fd} (hG : F.Good) (x y : Int) : El F (F.add x y) :=
  el_val hG (mkL_res (by have := hG.p2; omega) _ _ fun j _ => ⟨Int.emod_nonneg _ (by have := hG.p2; omega), Int.emod_lt_of_pos _ (by have := hG.p2; omega)⟩) (mkL_length _ _)
theorem add_cg {F : Fd} (hG : F.Good) (x y : Int) : Cg F.p (gt (F.L (F.add x y))) (fun j => gt (F.dig x) j + gt (F.dig y) j) := by
  rw [Fd.add, L_val hG (mkL_res (by have := hG.p2; omega) _ _ fun j _ => ⟨Int.emod_nonneg _ (by have := hG.p2; omega), Int.emod_lt_of_pos _ (by have := hG.p2; omega)⟩) (mkL_length _ _)]
  intro j
  simp only []
  rw [mod_take]
  by_cases h : j < F.m.toNat
  · rw [if_pos h]; exact dvd_mod _ _
  · rw [if_neg h, gt_out (by rw [dig_el, Fd.L_len]; omega), gt_out (by rw [dig_el, Fd.L_len]; omega)]; exact ⟨0, by omega⟩
theorem neg_el {F : Fd} (hG : F.Good) (x : Int) : El F (F.neg x) :=
  el_val hG (mkL_res (by have := hG.p2; omega) _ _ fun j _ => ⟨Int.emod_nonneg _ (by have := hG.p2; omega), Int.emod_lt_of_pos _ (by have := hG.p2; omega)⟩) (mkL_length _ _)
theorem neg_cg {F : Fd} (hG : F.Good) (x : Int) : Cg F.p (gt (F.L (F.neg x))) (fun j => (-1) * gt (F.dig x) j) := by
  rw [Fd.neg, L_val hG (mkL_res (by have := hG.p2; omega) _ _ fun j _ => ⟨Int.emod_nonneg _ (by have := hG.p2; omega), Int.emod_lt_of_pos _ (by have := hG.p2; omega)⟩) (mkL_length _ _)]
  intro j
  simp only []
  rw [mod_take]
  by_cases h : j < F.m.toNat
  · rw [if_pos h]
    obtain ⟨t, e⟩ := dvd_mod F.p (F.p - gt (F.dig x) j)
    exact ⟨t + 1, by rw [Int.mul_add, ← e]; omega⟩
  · rw [if_neg h, gt_out (by rw [dig_el, Fd.L_len]; omega)]; exact ⟨0, by omega⟩
/-- mod has M entries, or M is 1 -/
theorem RefOK.md {F : Fd} (h : RefOK F) : F.m.toNat = 1 ∧ F.md = [] ∨ 1 < F.m.toNat ∧ F.md.length = F.m.toNat := by
  have hG := h.good
  have := hG.m1
  by_cases hm : F.m = 1
  · exact .inl ⟨by omega, h.2.2.1 hm⟩
  · exact .inr (by have := hG.len hm; omega)
theorem Shape.md {F : Fd} (h : Shape F) : F.m.toNat = 1 ∧ F.md = [] ∨ 1 < F.m.toNat ∧ F.md.length = F.m.toNat := by
  have hG := h.good
  have := hG.m1
  by_cases hm : F.m = 1
  · exact .inl ⟨by omega, List.eq_nil_of_length_eq_zero (h.2.2.1 hm)⟩
  · exact .inr (by have := hG.len hm; omega)
/-- what both say of the field but for its being one -/
structure Fd.Ok (F : Fd) : Prop where
  good : F.Good
  md : F.m.toNat = 1 ∧ F.md = [] ∨ 1 < F.m.toNat ∧ F.md.length = F.m.toNat
theorem RefOK.ok {F : Fd} (h : RefOK F) : F.Ok := ⟨h.good, h.md⟩
theorem Shape.ok {F : Fd} (h : Shape F) : F.Ok := ⟨h.good, h.md⟩
/-- times the residue v -/
abbrev Fd.act (F : Fd) (l : List Int) (v : Nat → Int) : Nat → Int := Go.Proofs.Ytcigdhmecfhndaa.act F.m.toNat F.md l v
theorem mul_el {F : Fd} (h : F.Ok) (x y : Int) : El F (F.mul x y) := by
  have hp := h.good.p2
  refine el_val h.good (fun k => ?_) ?_
  · by_cases hk : k < F.m.toNat
    · rw [gt_take hk]; exact (Res.convL _ _ (by omega) _).redL _ (by omega) _ k
    · rw [gt_out (by rw [List.length_take]; omega)]; omega
  · rw [List.length_take, redL_len, convL_len]; have := h.good.M0; omega
theorem mul_cg {F : Fd} (h : F.Ok) (x y : Int) : Cg F.p (gt (F.L (F.mul x y))) (F.act (F.dig y) (gt (F.dig x))) := by
  have hp := h.good.p2
  rw [Fd.mul, L_val h.good (fun k => ?_) (by rw [List.length_take, redL_len, convL_len]; have := h.good.M0; omega)]
  · exact mulL_cg (p := F.p) F.m.toNat F.md (F.dig x) (F.dig y) h.good.M0 (by rcases h.md with h | h; exact .inl h.1; exact .inr h.2) (Fd.L_len _ _) (Fd.L_len _ _)
  · by_cases hk : k < F.m.toNat
    · rw [gt_take hk]; exact (Res.convL _ _ (by omega) _).redL _ (by omega) _ k
    · rw [gt_out (by rw [List.length_take]; omega)]; omega
theorem low_md {F : Fd} (h : F.Ok) (j : Nat) : F.low j = gt F.md j := by
  unfold Fd.low
  by_cases hm : 1 < F.m
  · rw [if_pos hm]
  · rw [if_neg hm]
    have := h.good.m1
    rcases h.md with ⟨_, e⟩ | e
    · rw [e, gt_out (by simp)]
    · omega
/-- Horner's rule -/
theorem horn_cg {F : Fd} (h : F.Ok) (a b : List Int) (ha : a.length = F.m.toNat) (hb : b.length = F.m.toNat) : ∀ t, t ≤ F.m.toNat → Cg F.p (gt (hornN F a b t)) (F.act (b.drop (F.m.toNat - t)) (gt a))
  | 0, _ => by
    rw [Nat.sub_zero, List.drop_eq_nil_of_le (by omega)]
    refine Cg.of_eq ?_
    funext j
    simp only [hornN, loopN, Fd.act, Go.Proofs.Ytcigdhmecfhndaa.act, gt, List.getD_eq_getElem?_getD, List.getElem?_replicate]
    split <;> rfl
  | t + 1, ht => by
    have ih := horn_cg h a b ha hb t (by omega)
    rw [hornN, loopN_succ, ← hornN]
    have hd : b.drop (F.m.toNat - (t + 1)) = gt b (F.m.toNat - 1 - t) :: b.drop (F.m.toNat - t) := by
      rw [List.drop_eq_getElem_cons (by omega), ← gt_eq]
      congr 1
      · congr 1; omega
      · congr 1; omega
    rw [hd]
    refine Cg.trans ?_ (Cg.add (Cg.refl F.p (fun j => gt b (F.m.toNat - 1 - t) * gt a j)) (ih.tX F.m.toNat F.md))
    intro j
    simp only []
    rw [hornStep, mod_take]
    by_cases hj : j < F.m.toNat
    · rw [if_pos hj, hornF, low_md h]
      simp only [tX]
      rw [if_pos hj, shiftL, gt_mkL hj]
      generalize gt (hornN F a b t) (F.m.toNat - 1) = top
      generalize (if j = 0 then 0 else gt (hornN F a b t) (j - 1)) = s
      obtain ⟨c, e⟩ := dvd_mod F.p (s + (F.p - top) * gt F.md j + gt b (F.m.toNat - 1 - t) * gt a j)
      refine ⟨c + gt F.md j, ?_⟩
      rw [Int.mul_add, ← e, Int.sub_mul]; omega
    · rw [if_neg hj, gt_out (xs := a) (by omega)]
      simp only [tX]
      rw [if_neg hj]; exact ⟨0, by omega⟩
theorem mulP_cg {F : Fd} (h : F.Ok) (x y : Int) : Cg F.p (gt (F.L (F.mulP x y))) (F.act (F.L y) (gt (F.L x))) := by
  have hp := h.good.p2
  rw [Fd.mulP, L_val h.good (hornN_res F (by omega) _ _ _) (hornN_len _ _ _ _)]
  have := horn_cg h (F.L x) (F.L y) (Fd.L_len _ _) (Fd.L_len _ _) F.m.toNat (Nat.le_refl _)
  rwa [Nat.sub_self, List.drop_zero] at this
theorem mulP_el {F : Fd} (h : F.Ok) (x y : Int) : El F (F.mulP x y) := mulP_bound F h.good x y
theorem mulP_mul {F : Fd} (h : F.Ok) (x y : Int) : F.mul x y = F.mulP (inE F.q x) (inE F.q y) :=
  el_eq h.good (mul_el h x y) (mulP_el h _ _) ((mul_cg h x y).trans (mulP_cg h _ _).symm)

/-! ### laws -/
theorem mul_inE {F : Fd} (h : F.Ok) (x y : Int) : F.mul x y = F.mul (inE F.q x) (inE F.q y) := by
  rw [mulP_mul h x y, mulP_mul h, (inE_el h.good x).inE, (inE_el h.good y).inE]
theorem add_inE {F : Fd} (h : F.Ok) (x y : Int) : F.add x y = F.add (inE F.q x) (inE F.q y) := by
  unfold Fd.add Fd.dig
  rw [(inE_el h.good x).inE, (inE_el h.good y).inE]
theorem neg_inE {F : Fd} (h : F.Ok) (x : Int) : F.neg x = F.neg (inE F.q x) := by
  unfold Fd.neg Fd.dig
  rw [(inE_el h.good x).inE]
theorem dig_of {F : Fd} {x : Int} (hx : El F x) : F.dig x = F.L x := by rw [dig_el, hx.inE]
theorem dig_mul {F : Fd} (h : F.Ok) (x y : Int) : F.dig (F.mul x y) = F.L (F.mul x y) := dig_of (mul_el h x y)
theorem dig_add {F : Fd} (h : F.Ok) (x y : Int) : F.dig (F.add x y) = F.L (F.add x y) := dig_of (add_el h.good x y)
theorem dig_len (F : Fd) (x : Int) : (F.dig x).length = F.m.toNat := Fd.L_len _ _
theorem act_dig {F : Fd} (x : Int) : F.act (F.dig x) e0 = gt (F.dig x) := act_e0 _ _ _ (by rw [dig_len]; exact Nat.le_refl _)
/-- a congruent row acts alike -/
theorem act_chg {F : Fd} {l k v : List Int} (hl : l.length = F.m.toNat) (hk : k.length = F.m.toNat) (hv : v.length = F.m.toNat) (h : Cg F.p (gt l) (gt k)) : Cg F.p (F.act l (gt v)) (F.act k (gt v)) :=
  Cg.act_l _ _ (by omega) (by omega) (by omega) h
theorem mul_comm' {F : Fd} (h : F.Ok) (x y : Int) : F.mul x y = F.mul y x := by
  refine el_eq h.good (mul_el h _ _) (mul_el h _ _) ((mul_cg h x y).trans (Cg.trans (Cg.of_eq ?_) (mul_cg h y x).symm))
  rw [← act_dig x, ← act_dig y, Fd.act, Fd.act, act_comm]
theorem mul_assoc' {F : Fd} (h : F.Ok) (x y z : Int) : F.mul (F.mul x y) z = F.mul x (F.mul y z) := by
  refine el_eq h.good (mul_el h _ _) (mul_el h _ _) ?_
  have h1 : Cg F.p (gt (F.L (F.mul (F.mul x y) z))) (F.act (F.dig z) (F.act (F.dig y) (gt (F.dig x)))) := by
    refine (mul_cg h _ z).trans ?_
    rw [dig_mul h x y]
    exact (mul_cg h x y).act _ _ _
  have h2 : Cg F.p (gt (F.L (F.mul x (F.mul y z)))) (F.act (F.dig x) (F.act (F.dig z) (gt (F.dig y)))) := by
    rw [mul_comm' h x]
    refine (mul_cg h _ x).trans ?_
    rw [dig_mul h y z]
    exact (mul_cg h y z).act _ _ _
  refine h1.trans (Cg.trans (Cg.of_eq ?_) h2.symm)
  rw [← act_dig x, ← act_dig y]
  simp only [Fd.act]
  rw [act_comm F.m.toNat F.md (F.dig x) (F.dig y), act_comm F.m.toNat F.md (F.dig x) (F.dig z)]
theorem mul_add' {F : Fd} (h : F.Ok) (x y z : Int) : F.mul x (F.add y z) = F.add (F.mul x y) (F.mul x z) := by
  refine el_eq h.good (mul_el h _ _) (add_el h.good _ _) ?_
  rw [mul_comm' h x (F.add y z)]
  refine (mul_cg h _ x).trans ?_
  rw [dig_add h]
  refine (((add_cg h.good y z).act _ _ (F.dig x))).trans ?_
  rw [act_add F.m.toNat F.md (F.dig x) (gt (F.dig y)) (gt (F.dig z))]
  refine Cg.trans ?_ (add_cg h.good _ _).symm
  rw [dig_mul h, dig_mul h, mul_comm' h x y, mul_comm' h x z]
  exact Cg.add (mul_cg h y x).symm (mul_cg h z x).symm
theorem dig_zero {F : Fd} (_ : F.Good) : gt (F.L 0) = fun _ => 0 := by
  funext j
  rw [Fd.L, digL, mod_take]
  split
  · simp [digF]
  · rfl
theorem el_zero {F : Fd} (h : F.Good) : El F 0 := ⟨by omega, by have := h.q2; omega⟩
theorem el_one {F : Fd} (h : F.Good) : El F 1 := ⟨by omega, by have := h.q2; omega⟩
theorem dig_one {F : Fd} (h : F.Good) : gt (F.L 1) = e0 := by
  funext j
  have hp := h.p2
  rw [Fd.L, digL, mod_take, e0]
  by_cases hj : j = 0
  · subst hj
    rw [if_pos h.M0, if_pos rfl, digF, Int.pow_zero, Int.ediv_one, Int.emod_eq_of_lt (by omega) (by omega)]
  · rw [if_neg hj]
    split
    · rw [digF, Int.ediv_eq_zero_of_lt (by omega), Int.zero_emod]
      have := pow_mono (p := F.p) (by omega) (show 1 ≤ j by omega)
      rw [show F.p ^ 1 = F.p by rw [Int.pow_succ, Int.pow_zero, Int.one_mul]] at this; omega
    · rfl
theorem add_comm' {F : Fd} (x y : Int) : F.add x y = F.add y x := by
  unfold Fd.add; congr 2; funext i; rw [Int.add_comm]
theorem add_assoc' {F : Fd} (h : F.Ok) (x y z : Int) : F.add (F.add x y) z = F.add x (F.add y z) := by
  refine el_eq h.good (add_el h.good _ _) (add_el h.good _ _) ?_
  refine (add_cg h.good _ z).trans ?_
  refine Cg.trans ?_ (add_cg h.good x _).symm
  rw [dig_add h, dig_add h]
  refine (Cg.add (add_cg h.good x y) (Cg.refl _ _)).trans ?_
  refine Cg.trans (Cg.of_eq ?_) (Cg.add (Cg.refl _ _) (add_cg h.good y z)).symm
  funext j; first | omega | (simp only []; omega)
theorem add_zero' {F : Fd} (h : F.Ok) (x : Int) : F.add x 0 = inE F.q x := by
  refine el_eq h.good (add_el h.good _ _) (inE_el h.good x) ?_
  refine (add_cg h.good x 0).trans (Cg.of_eq ?_)
  rw [dig_of (el_zero h.good), dig_zero h.good, dig_el]
  funext j; first | omega | (simp only []; omega)
theorem add_neg' {F : Fd} (h : F.Ok) (x : Int) : F.add x (F.neg x) = 0 := by
  refine el_eq h.good (add_el h.good _ _) (el_zero h.good) ?_
  refine (add_cg h.good x _).trans ?_
  rw [dig_of (neg_el h.good x)]
  refine (Cg.add (Cg.refl _ _) (neg_cg h.good x)).trans (Cg.of_eq ?_)
  rw [dig_zero h.good]
  funext j; first | omega | (simp only []; omega)
theorem mul_one' {F : Fd} (h : F.Ok) (x : Int) : F.mul x 1 = inE F.q x := by
  rw [mul_comm' h]
  refine el_eq h.good (mul_el h _ _) (inE_el h.good x) ?_
  refine (mul_cg h 1 x).trans (Cg.of_eq ?_)
  rw [dig_of (el_one h.good), dig_one h.good, act_dig, dig_el]
theorem mul_zero' {F : Fd} (h : F.Ok) (x : Int) : F.mul x 0 = 0 := by
  rw [mul_comm' h]
  refine el_eq h.good (mul_el h _ _) (el_zero h.good) ?_
  refine (mul_cg h 0 x).trans (Cg.of_eq ?_)
  rw [dig_of (el_zero h.good), dig_zero h.good]
  exact act_zero _ _ _

end Go.Proofs.Ytcigdhmecfhndaa

namespace Go.Proofs.Ytcigdhmecfhndaa

/-! ### pigeons -/
theorem nodup_le : ∀ (l m : List Int), l.Nodup → (∀ x ∈ l, x ∈ m) → l.length ≤ m.length
  | [], m, _, _ => by simp
  | x :: l, m, hn, hs => by
    have hx : x ∈ m := hs x (by simp)
    have h1 := List.nodup_cons.1 hn
    have h2 := nodup_le l (m.erase x) h1.2 fun y hy => (List.mem_erase_of_ne (fun e => by subst e; exact h1.1 hy)).2 (hs y (List.mem_cons_of_mem _ hy))
    rw [List.length_erase_of_mem hx] at h2
    have h3 : 0 < m.length := List.length_pos_of_mem hx
    rw [List.length_cons]; omega
theorem Once.nodup {l : List Int} (h : Once l) : l.Nodup := by
  refine List.pairwise_iff_getElem.2 fun i j hi hj hij e => ?_
  have := h.1 i j hi hj (by rw [gt_eq hi, gt_eq hj]; exact e)
  omega
/-- the elements but 0 -/
def els (n : Nat) : List Int := mkL n fun i => (i : Int) + 1
theorem mem_els {n : Nat} {y : Int} : y ∈ els n ↔ 0 < y ∧ y ≤ n := by
  rw [els, mem_iff_gt]
  constructor
  · rintro ⟨k, hk, e⟩
    rw [mkL_length] at hk
    rw [gt_mkL hk] at e; omega
  · rintro ⟨h0, h1⟩
    refine ⟨(y - 1).toNat, by rw [mkL_length]; omega, ?_⟩
    rw [gt_mkL (by omega)]; omega
theorem els_nodup (n : Nat) : (els n).Nodup := by
  refine List.pairwise_iff_getElem.2 fun i j hi hj hij e => ?_
  rw [els, mkL_length] at hi hj
  rw [← gt_eq (by rw [els, mkL_length]; omega), ← gt_eq (by rw [els, mkL_length]; omega), els, gt_mkL hi, gt_mkL hj] at e
  omega
theorem els_length (n : Nat) : (els n).length = n := mkL_length _ _
/-- so many elements are all of them -/
theorem nodup_all {l : List Int} {n : Nat} (h : l.Nodup) (hl : l.length = n) (hs : ∀ x ∈ l, 0 < x ∧ x ≤ n) {y : Int} (h0 : 0 < y) (h1 : y ≤ n) : y ∈ l := by
  apply Classical.byContradiction
  intro hy
  have h2 := nodup_le (y :: l) (els n) (List.nodup_cons.2 ⟨hy, h⟩) fun x hx => by
    rcases List.mem_cons.1 hx with rfl | hx
    · exact mem_els.2 ⟨h0, h1⟩
    · exact mem_els.2 (hs x hx)
  rw [els_length, List.length_cons] at h2; omega

/-! ### the powers of the generator -/
theorem mul_of {F : Fd} (h : F.Ok) {x y : Int} (hx : El F x) (hy : El F y) : F.mulP x y = F.mul x y := by
  rw [mulP_mul h, hx.inE, hy.inE]
theorem one_mul' {F : Fd} (h : F.Ok) {x : Int} (hx : El F x) : F.mul 1 x = x := by
  rw [mul_comm' h, mul_one' h, hx.inE]
structure Pows (F : Fd) (ex : List Int) (x : Int) : Prop where
  el : El F x
  len : (ex.length : Int) = F.q - 1
  res : ∀ k, El F (gt ex k)
  once : Once ex
  z : gt ex 0 = 1
  step : ∀ k, k < ex.length → F.mul (gt ex k) x = gt ex ((k + 1) % ex.length)
theorem GFm.pows {F : Fd} {ex lg : List Int} (h : GFm F ex lg) : ∃ x, Pows F ex x := by
  have hG := h.shape.good
  have hO := h.shape.ok
  have hq2 := hG.q2
  obtain ⟨x, h0, h1, e, hl, ht⟩ := gen_spec hG h.gen
  have hx : El F x := ⟨by omega, h1⟩
  have hr : ∀ k, El F (gt ex k) := fun k => by rw [e]; exact powersP_res F hG x (by omega) h1 k
  have hon : Once ex := by rw [e]; exact powersP_once F x
  obtain ⟨y, s0, s1, s2, s3, s4⟩ := powersP_steps F x
  rw [← e] at s0 s1 s2 s3 s4
  refine ⟨x, hx, hl, hr, hon, s1, fun k hk => ?_⟩
  by_cases hk1 : k + 1 < ex.length
  · rw [Nat.mod_eq_of_lt hk1]
    cases k with
    | zero => rw [s1, one_mul' hO hx, (s3 (by omega)).1]
    | succ k => rw [s4 k (by omega), mul_of hO (hr _) hx]
  · have : k + 1 = ex.length := by omega
    rw [this, Nat.mod_self, s1, ← mul_of hO (hr _) hx]
    have e2 : (F.q - 2).toNat = k := by omega
    rw [e2] at ht; exact ht
theorem Pows.mul {F : Fd} {ex : List Int} {x : Int} (h : Pows F ex x) (hO : F.Ok) {i : Nat} (hi : i < ex.length) : ∀ j, j < ex.length → F.mul (gt ex i) (gt ex j) = gt ex ((i + j) % ex.length)
  | 0, _ => by rw [h.z, mul_one' hO, (h.res i).inE, Nat.add_zero, Nat.mod_eq_of_lt hi]
  | j + 1, hj => by
    have h1 := h.step j (by omega)
    rw [Nat.mod_eq_of_lt hj] at h1
    rw [← h1, ← mul_assoc' hO, h.mul hO hi j (by omega), h.step _ (Nat.mod_lt _ (by omega))]
    congr 1
    rw [Nat.mod_add_mod, Nat.add_assoc]
theorem Pows.all {F : Fd} {ex : List Int} {x : Int} (h : Pows F ex x) {y : Int} (hy : El F y) (h0 : y ≠ 0) : ∃ k, k < ex.length ∧ gt ex k = y := by
  have hl := h.len
  have hm := nodup_all (n := ex.length) h.once.nodup rfl (fun z hz => by
    obtain ⟨k, hk, rfl⟩ := mem_iff_gt.1 hz
    have := h.res k
    have := h.once.2 k hk
    unfold El at *; omega) (y := y) (by unfold El at hy; omega) (by unfold El at hy; omega)
  exact mem_iff_gt.1 hm

theorem firstL_one {h : Int → Bool} {q y0 : Int} (hu : ∀ y, 0 < y → y < q → (h y = true ↔ y = y0)) : ∀ n : Nat, (n : Int) < q → q - n ≤ y0 → y0 < q → firstL h q n = y0
  | 0, _, h1, h2 => by omega
  | n + 1, hn, h1, h2 => by
    rw [firstL]
    by_cases e : q - (n + 1) = y0
    · rw [if_pos ((hu _ (by omega) (by omega)).2 (by omega))]; omega
    · rw [if_neg (fun hh => e (by have := (hu _ (by omega) (by omega)).1 hh; omega)), firstL_one hu n (by omega) (by omega) h2]
theorem firstL_no {h : Int → Bool} {q : Int} (hu : ∀ y, 0 < y → y < q → h y = false) : ∀ n : Nat, (n : Int) < q → firstL h q n = 0
  | 0, _ => rfl
  | n + 1, hn => by
    rw [firstL]
    simp only [hu (q - (n + 1)) (by omega) (by omega)]
    exact firstL_no hu n (by omega)

theorem GFm.at_log {F : Fd} {ex lg : List Int} (h : GFm F ex lg) {y : Int} (hy : El F y) (h0 : y ≠ 0) : ∃ k, k < ex.length ∧ gt ex k = y ∧ gt lg y.toNat = k := by
  obtain ⟨x, hp⟩ := h.pows
  obtain ⟨k, hk, e⟩ := hp.all hy h0
  exact ⟨k, hk, e, by rw [← e]; exact h.log k hk⟩
theorem GFm.mul_zero {F : Fd} {ex lg : List Int} (h : GFm F ex lg) {x y : Int} (h0 : inE F.q x = 0 ∨ inE F.q y = 0) : F.mul x y = 0 := by
  have hO := h.shape.ok
  rw [mul_inE hO]
  rcases h0 with e | e
  · rw [e, mul_comm' hO, mul_zero' hO]
  · rw [e, mul_zero' hO]
theorem GFm.mul_eq {F : Fd} {ex lg : List Int} (h : GFm F ex lg) {x y : Int} (hx : inE F.q x ≠ 0) (hy : inE F.q y ≠ 0) : F.mul x y = gt ex ((gt lg (inE F.q x).toNat + gt lg (inE F.q y).toNat) % (F.q - 1)).toNat := by
  have hO := h.shape.ok
  obtain ⟨g, hp⟩ := h.pows
  obtain ⟨i, hi, e1, l1⟩ := h.at_log (inE_el hO.good x) hx
  obtain ⟨j, hj, e2, l2⟩ := h.at_log (inE_el hO.good y) hy
  rw [mul_inE hO, l1, l2, ← e1, ← e2, hp.mul hO hi j hj, ← hp.len]
  congr 1
theorem GFm.inv_zero {F : Fd} {ex lg : List Int} (h : GFm F ex lg) {x : Int} (hx : inE F.q x = 0) : F.inv x = 0 := by
  have hq2 := h.shape.good.q2
  refine firstL_no (fun y _ _ => ?_) _ (by omega)
  rw [h.mul_zero (.inl hx)]; rfl
theorem GFm.inv_eq {F : Fd} {ex lg : List Int} (h : GFm F ex lg) {x : Int} (hx : inE F.q x ≠ 0) : F.inv x = gt ex ((F.q - 1 - gt lg (inE F.q x).toNat) % (F.q - 1)).toNat := by
  have hO := h.shape.ok
  have hq2 := h.shape.good.q2
  obtain ⟨g, hp⟩ := h.pows
  obtain ⟨i, hi, e1, l1⟩ := h.at_log (inE_el hO.good x) hx
  have hl := hp.len
  have e3 : ((F.q - 1 - (i : Int)) % (F.q - 1)).toNat = (ex.length - i) % ex.length := by
    rw [← hl, show (ex.length : Int) - (i : Int) = ((ex.length - i : Nat) : Int) by omega]; rfl
  rw [l1, e3]
  have hk : (ex.length - i) % ex.length < ex.length := Nat.mod_lt _ (by omega)
  have hk2 : (i + (ex.length - i) % ex.length) % ex.length = 0 := by
    rw [Nat.add_mod_mod, show i + (ex.length - i) = ex.length by omega, Nat.mod_self]
  have hr := hp.res ((ex.length - i) % ex.length)
  have hn := hp.once.2 _ hk
  unfold El at hr
  refine firstL_one (fun y h0 h1 => ?_) _ (by omega) (by omega) hr.2
  rw [beq_iff_eq, mul_inE hO, ← e1, (show El F y from ⟨by omega, h1⟩).inE]
  constructor
  · intro hm
    obtain ⟨j, hj, e2, _⟩ := h.at_log (y := y) ⟨by omega, h1⟩ (by omega)
    rw [← e2, hp.mul hO hi j hj, ← hp.z] at hm
    have hm := hp.once.1 _ _ (Nat.mod_lt _ (by omega)) (by omega) hm
    rw [← e2]
    congr 1
    by_cases hij : i + j < ex.length
    · rw [Nat.mod_eq_of_lt hij] at hm
      have : i = 0 := by omega
      rw [this, Nat.sub_zero, Nat.mod_self]; omega
    · have h3 : (i + j) % ex.length = i + j - ex.length := by
        rw [Nat.mod_eq_sub_mod (by omega), Nat.mod_eq_of_lt (by omega)]
      rw [Nat.mod_eq_of_lt (by omega)]; omega
  · rintro rfl
    rw [hp.mul hO hi _ hk, hk2, hp.z]

/-! ### no divisors of 0, inverses -/
theorem FOK.gfm {F : Fd} (h : FOK F) : ∃ ex lg, GFm F ex lg := by
  obtain ⟨hs, hg⟩ := h
  cases e : F.gen with
  | none => exact absurd e hg
  | some ex => exact ⟨ex, _, GFm.of hs e⟩
theorem FOK.ok {F : Fd} (h : FOK F) : F.Ok := h.1.ok
theorem FOK.mul_ne {F : Fd} (h : FOK F) {x y : Int} (hx : El F x) (hy : El F y) (h0 : x ≠ 0) (h1 : y ≠ 0) : F.mul x y ≠ 0 := by
  obtain ⟨ex, lg, hm⟩ := h.gfm
  have hO := h.ok
  obtain ⟨g, hp⟩ := hm.pows
  obtain ⟨i, hi, e1, l1⟩ := hm.at_log hx h0
  obtain ⟨j, hj, e2, l2⟩ := hm.at_log hy h1
  rw [← e1, ← e2, hp.mul hO hi j hj]
  exact hp.once.2 _ (Nat.mod_lt _ (by omega))
theorem FOK.inv_el {F : Fd} (h : FOK F) {x : Int} (hx : El F x) (h0 : x ≠ 0) : El F (F.inv x) ∧ F.inv x ≠ 0 ∧ F.mul x (F.inv x) = 1 := by
  obtain ⟨ex, lg, hm⟩ := h.gfm
  have hO := h.ok
  obtain ⟨g, hp⟩ := hm.pows
  obtain ⟨i, hi, e1, l1⟩ := hm.at_log hx h0
  have e := hm.inv_eq (x := x) (by rw [hx.inE]; exact h0)
  have hl := hp.len
  have e3 : ((F.q - 1 - (i : Int)) % (F.q - 1)).toNat = (ex.length - i) % ex.length := by
    rw [← hl, show (ex.length : Int) - (i : Int) = ((ex.length - i : Nat) : Int) by omega]; rfl
  rw [hx.inE, l1, e3] at e
  have hk : (ex.length - i) % ex.length < ex.length := Nat.mod_lt _ (by omega)
  have hk2 : (i + (ex.length - i) % ex.length) % ex.length = 0 := by
    rw [Nat.add_mod_mod, show i + (ex.length - i) = ex.length by omega, Nat.mod_self]
  refine ⟨by rw [e]; exact hp.res _, by rw [e]; exact hp.once.2 _ hk, ?_⟩
  rw [e, ← e1, hp.mul hO hi _ hk, hk2, hp.z]
theorem FOK.inv_one {F : Fd} (h : FOK F) {x : Int} (hx : El F x) (h0 : x ≠ 0) : F.inv x = 1 ↔ x = 1 := by
  obtain ⟨h1, h2, h3⟩ := h.inv_el hx h0
  have hO := h.ok
  constructor
  · intro e
    rw [e, mul_one' hO, hx.inE] at h3; exact h3
  · intro e
    rw [e, one_mul' hO (by rw [← e]; exact h1)] at h3; rw [e]; exact h3

end Go.Proofs.Ytcigdhmecfhndaa

namespace Go.Proofs.Ytcigdhmecfhndaa

theorem tN_plus (M : Nat) (md : List Int) (u v : Nat → Int) : ∀ k, tN M md k (fun j => u j + v j) = fun j => tN M md k u j + tN M md k v j
  | 0 => rfl
  | k + 1 => by rw [tN, tN_plus M md u v k, tX_add M md (tN M md k u) (tN M md k v)]; rfl
theorem tN_smul (M : Nat) (md : List Int) (c : Int) (v : Nat → Int) : ∀ k, tN M md k (fun j => c * v j) = fun j => c * tN M md k v j
  | 0 => rfl
  | k + 1 => by rw [tN, tN_smul M md c v k, tX_smul]; rfl
theorem divIn_cg {p : Int} (M : Nat) (md low r : List Int) (c : Int) (base : Nat) : ∀ j, j ≤ low.length → base + j ≤ r.length →
    Cg p (act M md (loopN j (divIn low p c base) r) e0) (fun s => act M md r e0 s + (-c) * act M md (low.take j) (tN M md base e0) s)
  | 0, _, _ => Cg.of_eq (by funext s; simp [loopN, act])
  | j + 1, hj, hr => by
    have ih := divIn_cg (p := p) M md low r c base j (by omega) (by omega)
    have hl : (loopN j (divIn low p c base) r).length = r.length := loopN_len _ _ _ fun _ _ => divIn_len _ _ _ _ _ _
    rw [loopN_succ, divIn]
    refine (cg_set (p := p) M md _ (base + j) ((-c) * gt low j) _ (by omega) ?_).trans ?_
    · obtain ⟨t, e⟩ := dvd_mod p (gt (loopN j (divIn low p c base) r) (base + j) + (p - c) * gt low j)
      refine ⟨t + gt low j, ?_⟩
      rw [Int.mul_add, ← e, Int.sub_mul, Int.neg_mul]; omega
    · refine (Cg.add ih (Cg.refl p _)).trans (Cg.of_eq ?_)
      rw [take_gt (by omega), act_snoc]
      funext s
      have hbl : (low.take j).length = j := by simp; omega
      rw [hbl, Int.mul_add, ← tN_add, Int.mul_assoc]; omega
theorem divIn_far {p c : Int} {low r : List Int} {base i : Nat} (hi : base + low.length ≤ i) : ∀ j, j ≤ low.length → gt (loopN j (divIn low p c base) r) i = gt r i
  | 0, _ => rfl
  | j + 1, hj => by
    rw [loopN_succ, divIn]
    by_cases hk : base + j < (loopN j (divIn low p c base) r).length
    · rw [gt_set _ _ _ _ hk, if_neg (by omega)]; exact divIn_far hi j (by omega)
    · rw [List.set_eq_of_length_le (by omega)]; exact divIn_far hi j (by omega)
theorem divStep_cg {p : Int} (M : Nat) (md low r : List Int) (L t : Nat) (h1 : low.length ≤ L - t) (h2 : L - t < r.length) :
    Cg p (fun s => act M md (divStep low p L t r) e0 s + gt r (L - t) * tN M md (L - t - low.length) (act M md (low ++ [1]) e0) s) (act M md r e0) := by
  have hl : (loopN low.length (divIn low p (gt r (L - t)) (L - t - low.length)) r).length = r.length := loopN_len _ _ _ fun _ _ => divIn_len _ _ _ _ _ _
  have hf : gt (loopN low.length (divIn low p (gt r (L - t)) (L - t - low.length)) r) (L - t) = gt r (L - t) := divIn_far (by omega) _ (Nat.le_refl _)
  have hc := divIn_cg (p := p) M md low r (gt r (L - t)) (L - t - low.length) low.length (Nat.le_refl _) (by omega)
  have e : act M md (divStep low p L t r) e0 = fun s => act M md (loopN low.length (divIn low p (gt r (L - t)) (L - t - low.length)) r) e0 s + (-(gt r (L - t))) * tN M md (L - t) e0 s := by
    simp only [divStep]
    rw [act_set M md _ (L - t) 0 e0 (by omega), hf]
    funext s; rw [Int.zero_sub]
  rw [e]
  refine (Cg.add (Cg.add hc (Cg.refl p _)) (Cg.refl p _)).trans (Cg.of_eq ?_)
  have e2 : act M md (low ++ [1]) e0 = fun s => act M md low e0 s + tN M md low.length e0 s := by
    rw [act_snoc]; funext s; rw [Int.one_mul]
  rw [e2, List.take_length, tN_plus M md (act M md low e0) (tN M md low.length e0), ← tN_add, show low.length + (L - t - low.length) = L - t by omega, act_tN]
  funext s
  simp only []
  rw [Int.mul_add, Int.neg_mul, Int.neg_mul]; omega
theorem divStep_zero {p : Int} {low r : List Int} {L t : Nat} (h1 : low.length ≤ L - t) (h2 : L - t < r.length) (hz : ∀ k, L < k + t → gt r k = 0) : ∀ k, L < k + (t + 1) → gt (divStep low p L t r) k = 0 := by
  intro k hk
  have hl : (loopN low.length (divIn low p (gt r (L - t)) (L - t - low.length)) r).length = r.length := loopN_len _ _ _ fun _ _ => divIn_len _ _ _ _ _ _
  simp only [divStep]
  rw [gt_set _ _ _ _ (by omega)]
  by_cases e : L - t = k
  · rw [if_pos e]
  · rw [if_neg e, divIn_far (by omega) _ (Nat.le_refl _)]
    exact hz k (by omega)
/-- the division: what is left and the quotient -/
theorem div_inv {p : Int} (hp : 2 ≤ p) (low md : List Int) (hr : Res p md) (hd : low.length ≤ md.length) : ∀ t, t ≤ md.length + 1 - low.length →
    (loopN t (divStep low p md.length) (md ++ [1])).length = md.length + 1 ∧ Res p (loopN t (divStep low p md.length) (md ++ [1])) ∧
    (∀ k, md.length < k + t → gt (loopN t (divStep low p md.length) (md ++ [1])) k = 0) ∨ t = 0 ∧ True
  | 0, _ => .inr ⟨rfl, trivial⟩
  | t + 1, ht => by
    left
    have hlen : (loopN t (divStep low p md.length) (md ++ [1])).length = md.length + 1 := by
      rw [loopN_len _ _ _ fun _ _ => divStep_len _ _ _ _ _]; simp
    have hres : Res p (loopN t (divStep low p md.length) (md ++ [1])) := loopN_inv (Res p) _ _ _ (hr.snoc (by omega)) fun i _ _ hx => hx.divStep (by omega) _ _
    have hz : ∀ k, md.length < k + t → gt (loopN t (divStep low p md.length) (md ++ [1])) k = 0 := by
      rcases div_inv hp low md hr hd t (by omega) with h | h
      · exact h.2.2
      · obtain ⟨rfl, _⟩ := h
        intro k hk
        exact gt_out (by simp [loopN]; omega)
    rw [loopN_succ]
    exact ⟨by rw [divStep_len]; exact hlen, hres.divStep (by omega) _ _, divStep_zero (by omega) (by omega) hz⟩
theorem div_quo {p : Int} (hp : 2 ≤ p) (low md : List Int) (hr : Res p md) (hd : low.length ≤ md.length) : ∀ t, t ≤ md.length + 1 - low.length →
    ∃ h : List Int, h.length = t ∧ (0 < t → gt h (t - 1) = 1) ∧ ∀ M md', Cg p (fun s => act M md' (loopN t (divStep low p md.length) (md ++ [1])) e0 s + tN M md' (md.length + 1 - low.length - t) (act M md' h (act M md' (low ++ [1]) e0)) s) (act M md' (md ++ [1]) e0)
  | 0, _ => ⟨[], rfl, fun h => absurd h (by omega), fun M md' => Cg.of_eq (by
    have : ∀ k, tN M md' k (fun _ => 0) = fun _ => 0 := fun k => by
      induction k with
      | zero => rfl
      | succ k ih => rw [tN, ih, tX_zero]
    funext s
    simp only [loopN, act]
    rw [this]; simp only []; omega)⟩
  | t + 1, ht => by
    obtain ⟨h, h1, h2, h3⟩ := div_quo hp low md hr hd t (by omega)
    have hlen : (loopN t (divStep low p md.length) (md ++ [1])).length = md.length + 1 := by
      rw [loopN_len _ _ _ fun _ _ => divStep_len _ _ _ _ _]; simp
    refine ⟨gt (loopN t (divStep low p md.length) (md ++ [1])) (md.length - t) :: h, by simp [h1], fun _ => ?_, fun M md' => ?_⟩
    · cases t with
      | zero => simp [loopN, gt]
      | succ t => rw [Nat.add_sub_cancel]; exact h2 (by omega)
    · refine Cg.trans ?_ (h3 M md')
      rw [loopN_succ]
      have hc := divStep_cg (p := p) M md' low (loopN t (divStep low p md.length) (md ++ [1])) md.length t (by omega) (by omega)
      refine Cg.trans (Cg.of_eq ?_) (Cg.add hc (Cg.refl p (fun s => tN M md' (md.length + 1 - low.length - t) (act M md' h (act M md' (low ++ [1]) e0)) s)))
      funext s
      simp only [act]
      rw [tN_plus M md' (fun j => gt (loopN t (divStep low p md.length) (md ++ [1])) (md.length - t) * act M md' (low ++ [1]) e0 j) (tX M md' (act M md' h (act M md' (low ++ [1]) e0))), tN_smul]
      have e1 : md.length + 1 - low.length - (t + 1) = md.length - t - low.length := by omega
      have e2 : md.length + 1 - low.length - t = (md.length - t - low.length) + 1 := by omega
      have e3 : ∀ (k : Nat) (v : Nat → Int), tN M md' k (tX M md' v) = tN M md' (k + 1) v := fun k v => by
        rw [show k + 1 = 1 + k by omega, tN_add]; rfl
      rw [e1, e3, e2]; simp only []; omega

/-! ### elements from rows -/
def Fd.ofL (F : Fd) (l : List Int) : Int := valL F.p (mkL F.m.toNat (gt l))
theorem mkL_gt {l : List Int} {n : Nat} (h : l.length ≤ n) : gt (mkL n (gt l)) = gt l := by
  funext k
  by_cases hk : k < n
  · rw [gt_mkL hk]
  · rw [gt_out (by rw [mkL_length]; omega), gt_out (by omega)]
theorem ofL_res {F : Fd} {l : List Int} (h : Res F.p l) (hl : l.length ≤ F.m.toNat) : Res F.p (mkL F.m.toNat (gt l)) := fun k => by rw [mkL_gt hl]; exact h k
theorem ofL_el {F : Fd} (hG : F.Good) {l : List Int} (h : Res F.p l) (hl : l.length ≤ F.m.toNat) : El F (F.ofL l) := el_val hG (ofL_res h hl) (mkL_length _ _)
theorem ofL_L {F : Fd} (hG : F.Good) {l : List Int} (h : Res F.p l) (hl : l.length ≤ F.m.toNat) : gt (F.L (F.ofL l)) = gt l := by
  rw [Fd.ofL, L_val hG (ofL_res h hl) (mkL_length _ _), mkL_gt hl]
theorem act_swap (M : Nat) (md : List Int) {a b : List Int} (ha : a.length ≤ M) (hb : b.length ≤ M) : act M md a (gt b) = act M md b (gt a) := by
  rw [← act_e0 M md a ha, ← act_e0 M md b hb, act_comm]
theorem act_same (M : Nat) (md : List Int) {a b v : List Int} (ha : a.length ≤ M) (hb : b.length ≤ M) (hv : v.length ≤ M) (e : gt a = gt b) : act M md a (gt v) = act M md b (gt v) := by
  rw [act_swap M md ha hv, act_swap M md hb hv, e]
theorem ofL_mul {F : Fd} (h : F.Ok) {a b : List Int} (ha : Res F.p a) (hb : Res F.p b) (la : a.length ≤ F.m.toNat) (lb : b.length ≤ F.m.toNat) : Cg F.p (gt (F.L (F.mul (F.ofL a) (F.ofL b)))) (F.act b (gt a)) := by
  refine (mul_cg h _ _).trans (Cg.of_eq ?_)
  rw [dig_of (ofL_el h.good ha la), dig_of (ofL_el h.good hb lb), ofL_L h.good ha la]
  exact act_same _ _ (by rw [Fd.L_len]; exact Nat.le_refl _) lb la (ofL_L h.good hb lb)
theorem ofL_ne {F : Fd} (hG : F.Good) {l : List Int} (h : Res F.p l) (hl : l.length ≤ F.m.toNat) {k : Nat} (hk : gt l k ≠ 0) : F.ofL l ≠ 0 := fun e => by
  have h1 := ofL_L hG h hl
  rw [e, dig_zero hG] at h1
  exact hk (congrFun h1 k).symm
theorem cg_zero_el {F : Fd} (hG : F.Good) {x : Int} (hx : El F x) (h : Cg F.p (gt (F.L x)) fun _ => 0) : x = 0 :=
  el_eq hG hx (el_zero hG) (by rw [dig_zero hG]; exact h)

/-- a field's modulus has no divisor -/
theorem FOK.irr {F : Fd} (h : FOK F) (hm : F.m ≠ 1) : Irr F.md F.p := by
  intro d h1 h2 v hv
  have hO := h.ok
  have hG := hO.good
  have hp := hG.p2
  have hM : F.md.length = F.m.toNat := by have := hG.len hm; omega
  cases hb : dividesB (digL v F.p d) F.md F.p with
  | false => rfl
  | true =>
    exfalso
    have hres := digL_res (x := v) (p := F.p) (by omega) d
    have hll := digL_length (v : Int) F.p d
    obtain ⟨q, q1, q2, q3⟩ := div_quo hp (digL v F.p d) F.md hG.res (by omega) (F.md.length + 1 - (digL v F.p d).length) (Nat.le_refl _)
    have hz : ∀ k, gt (divRest (digL v F.p d) F.md F.p) k = 0 := fun k => by
      by_cases hk : k < (divRest (digL v F.p d) F.md F.p).length
      · exact of_decide_eq_true hb k hk
      · exact gt_out (by omega)
    have q4 := q3 F.m.toNat F.md
    rw [Nat.sub_self, act_md _ _ (by omega) hM] at q4
    have e0' : act F.m.toNat F.md (loopN (F.md.length + 1 - (digL v F.p d).length) (divStep (digL v F.p d) F.p F.md.length) (F.md ++ [1])) e0 = fun _ => 0 := by
      have : ∀ (l : List Int), (∀ k, gt l k = 0) → ∀ w, act F.m.toNat F.md l w = fun _ => 0 := by
        intro l
        induction l with
        | nil => intro _ w; rfl
        | cons b l ih =>
          intro hl w
          have hb := hl 0
          simp only [gt, List.getD_cons_zero] at hb
          funext j
          simp only [act]
          rw [ih (fun k => by have := hl (k + 1); simpa [gt] using this) w, tX_zero, hb]; simp
      exact this _ hz _
    rw [e0'] at q4
    have hql : q.length ≤ F.m.toNat := by omega
    have hgl : (digL v F.p d ++ [1]).length ≤ F.m.toNat := by rw [List.length_append, List.length_singleton]; omega
    have hgr : Res F.p (digL v F.p d ++ [1]) := hres.snoc (by omega)
    have hqr : Res F.p (mkL F.m.toNat fun k => gt q k % F.p) := mkL_res (by omega) _ _ fun j _ => ⟨Int.emod_nonneg _ (by omega), Int.emod_lt_of_pos _ (by omega)⟩
    have hqc : Cg F.p (gt (mkL F.m.toNat fun k => gt q k % F.p)) (gt q) := fun k => by
      by_cases hk : k < F.m.toNat
      · rw [gt_mkL hk]; exact dvd_mod _ _
      · rw [gt_out (by rw [mkL_length]; omega), gt_out (by omega)]; exact ⟨0, by omega⟩
    have hmul := ofL_mul hO hgr hqr hgl (by rw [mkL_length]; exact Nat.le_refl _)
    have hmul0 : Cg F.p (gt (F.L (F.mul (F.ofL (digL v F.p d ++ [1])) (F.ofL (mkL F.m.toNat fun k => gt q k % F.p))))) fun _ => 0 := by
      refine hmul.trans ((Cg.act_l _ _ (by rw [mkL_length]; exact Nat.le_refl _) hql hgl hqc).trans (Cg.trans (Cg.of_eq ?_) q4))
      funext s
      simp only [tN]
      rw [Int.zero_add, act_e0 F.m.toNat F.md (digL v F.p d ++ [1]) hgl]
    refine h.mul_ne (ofL_el hG hgr hgl) (ofL_el hG hqr (by rw [mkL_length]; exact Nat.le_refl _)) (ofL_ne hG hgr hgl (k := d) ?_) (ofL_ne hG hqr (by rw [mkL_length]; exact Nat.le_refl _) (k := F.md.length - d) ?_) (cg_zero_el hG (mul_el hO _ _) hmul0)
    · have := gt_snoc (l := digL v F.p d) (y := 1)
      rw [hll] at this; rw [this]; omega
    · rw [gt_mkL (by omega)]
      have := q2 (by omega)
      rw [show F.md.length + 1 - (digL v F.p d).length - 1 = F.md.length - d by omega] at this
      rw [this, Int.emod_eq_of_lt (by omega) (by omega)]; omega
theorem FOK.ref {F : Fd} (h : FOK F) : RefOK F := ⟨h.1.1, h.1.2.1, fun hm => List.eq_nil_of_length_eq_zero (h.1.2.2.1 hm), fun hm => ⟨(h.1.2.2.2 hm).1, (h.1.2.2.2 hm).2, h.irr hm⟩⟩

/-! ### an irreducible modulus has no divisors of 0 -/
theorem unit_mod {p : Int} (hp : PrimeI p) (h2 : 2 ≤ p) : ∀ (n : Nat) (c : Int), 0 < c → c < p → c ≤ n → ∃ u, p ∣ u * c - 1
  | 0, c, h0, _, hn => by omega
  | n + 1, c, h0, h1, hn => by
    by_cases e : c = 1
    · exact ⟨1, 0, by rw [e]; omega⟩
    · have hr := hp c (by omega) h1
      have hr0 := Int.emod_nonneg p (show c ≠ 0 by omega)
      have hr1 := Int.emod_lt_of_pos p h0
      obtain ⟨u, t, ht⟩ := unit_mod hp h2 n (p % c) (by omega) (by omega) (by omega)
      refine ⟨-(u * (p / c)), t - u, ?_⟩
      have he := Int.emod_def p c
      rw [he, Int.mul_sub] at ht
      rw [Int.mul_sub, ← Int.add_zero (p * t - p * u)]
      have e1 : u * (c * (p / c)) = u * (p / c) * c := by rw [Int.mul_comm c, ← Int.mul_assoc]
      rw [e1, Int.mul_comm u p] at ht
      rw [Int.neg_mul]; omega
theorem top_at {f : Nat → Int} : ∀ n, (∃ k, k < n ∧ f k ≠ 0) → ∃ k, k < n ∧ f k ≠ 0 ∧ ∀ j, k < j → j < n → f j = 0
  | 0, ⟨k, h, _⟩ => by omega
  | n + 1, ⟨k, hk, hf⟩ => by
    by_cases e : f n = 0
    · have hkn : k ≠ n := fun hkn => by rw [hkn] at hf; exact hf e
      obtain ⟨i, h1, h2, h3⟩ := top_at (f := f) n ⟨k, by omega, hf⟩
      refine ⟨i, by omega, h2, fun j hj hn => ?_⟩
      by_cases hjn : j = n
      · rw [hjn]; exact e
      · exact h3 j hj (by omega)
    · exact ⟨n, by omega, e, fun j h1 h2 => by omega⟩
/-- a row that takes w to nothing gives a monic one -/
theorem monic_of {F : Fd} (hG : F.Good) (hpr : PrimeI F.p) {l wl : List Int} (hl : l.length ≤ F.m.toNat) (hr : Res F.p l) (hw : wl.length ≤ F.m.toNat) (ha : Cg F.p (F.act l (gt wl)) fun _ => 0) {i : Nat} (hi : gt l i ≠ 0) :
    ∃ low : List Int, low.length < l.length ∧ Res F.p low ∧ Cg F.p (F.act (low ++ [1]) (gt wl)) fun _ => 0 := by
  have hp := hG.p2
  have hil : i < l.length := by
    apply Classical.byContradiction
    intro h; exact hi (gt_out (by omega))
  obtain ⟨k, hk, hk0, hkz⟩ := top_at l.length ⟨i, hil, hi⟩
  obtain ⟨u, hu⟩ := unit_mod hpr hp (gt l k).toNat (gt l k) (by have := hr k; omega) (hr k).2 (by have := hr k; omega)
  refine ⟨mkL k fun j => u * gt l j % F.p, by rw [mkL_length]; exact hk, mkL_res (by omega) _ _ fun j _ => ⟨Int.emod_nonneg _ (by omega), Int.emod_lt_of_pos _ (by omega)⟩, ?_⟩
  have hlen : (mkL k fun j => u * gt l j % F.p).length = k := mkL_length _ _
  have hc : Cg F.p (gt ((mkL k fun j => u * gt l j % F.p) ++ [1])) (fun j => u * gt l j) := fun j => by
    by_cases h1 : j < k
    · rw [gt_snoc_lt (by omega), gt_mkL h1]; exact dvd_mod _ _
    · by_cases h2 : j = k
      · have := gt_snoc (l := mkL k fun j => u * gt l j % F.p) (y := 1)
        rw [hlen] at this
        rw [h2, this]
        obtain ⟨t, e⟩ := hu
        exact ⟨-t, by rw [Int.mul_neg]; simp only []; omega⟩
      · rw [gt_out (by rw [List.length_append, hlen, List.length_singleton]; omega)]
        simp only []
        have : gt l j = 0 := by
          by_cases h3 : j < l.length
          · exact hkz j (by omega) h3
          · exact gt_out (by omega)
        rw [this]; exact ⟨0, by omega⟩
  have hlen2 : ((mkL k fun j => u * gt l j % F.p) ++ [1]).length ≤ F.m.toNat := by rw [List.length_append, hlen, List.length_singleton]; omega
  unfold Fd.act at ha ⊢
  rw [act_swap _ _ hlen2 hw]
  refine (hc.act F.m.toNat F.md wl).trans ?_
  rw [act_smul, act_swap _ _ hw hl]
  refine (ha.smul u).trans (Cg.of_eq ?_)
  funext s; omega
theorem act_cut (M : Nat) (md : List Int) : ∀ (l : List Int) (d : Nat) (v : Nat → Int), (∀ k, d ≤ k → gt l k = 0) → act M md l v = act M md (l.take d) v
  | [], d, v, _ => by simp
  | b :: l, 0, v, h => by
    have hb := h 0 (by omega)
    simp only [gt, List.getD_cons_zero] at hb
    have := act_cut M md l 0 v fun k _ => by have := h (k + 1) (by omega); simpa [gt] using this
    funext j
    simp only [act, List.take_zero]
    rw [this, List.take_zero, hb]
    simp only [act]
    rw [tX_zero]; simp only []; omega
  | b :: l, d + 1, v, h => by
    have := act_cut M md l d v fun k hk => by have := h (k + 1) (by omega); simpa [gt] using this
    funext j
    simp only [act, List.take_succ_cons]
    rw [this]
theorem no_ann {F : Fd} (h : RefOK F) : ∀ d, d < F.m.toNat → ∀ low wl : List Int, low.length = d → Res F.p low → wl.length ≤ F.m.toNat → Cg F.p (F.act (low ++ [1]) (gt wl)) (fun _ => 0) → Cg F.p (gt wl) fun _ => 0 := by
  intro d
  induction d using Nat.strongRecOn with
  | _ d ih =>
    intro hd low wl hll hlr hwl ha
    have hG := h.good
    have hp := hG.p2
    by_cases h0 : d = 0
    · have e : low = [] := List.eq_nil_of_length_eq_zero (by omega)
      rw [e] at ha
      refine Cg.trans (Cg.of_eq ?_) ha
      funext j
      simp only [Fd.act, List.nil_append, act]
      rw [tX_zero]; simp only []; omega
    · apply Classical.byContradiction
      intro hw
      have hm : F.m ≠ 1 := by have := hG.m1; omega
      have hM : F.md.length = F.m.toNat := by have := hG.len hm; omega
      obtain ⟨q, q1, q2, q3⟩ := div_quo hp low F.md hG.res (by omega) (F.md.length + 1 - low.length) (Nat.le_refl _)
      have hinv : Res F.p (divRest low F.md F.p) ∧ (divRest low F.md F.p).length = F.md.length + 1 ∧ ∀ k, d ≤ k → gt (divRest low F.md F.p) k = 0 := by
        rcases div_inv hp low F.md hG.res (by omega) (F.md.length + 1 - low.length) (Nat.le_refl _) with ⟨a, b, c⟩ | ⟨a, _⟩
        · exact ⟨b, a, fun k hk => c k (by omega)⟩
        · omega
      obtain ⟨r1, r2, r3⟩ := hinv
      have q4 := q3 F.m.toNat F.md
      rw [Nat.sub_self, act_md _ _ (by omega) hM] at q4
      change Cg F.p (fun s => act F.m.toNat F.md (divRest low F.md F.p) e0 s + act F.m.toNat F.md q (act F.m.toNat F.md (low ++ [1]) e0) s) (fun _ => 0) at q4
      have hgl : (low ++ [1]).length ≤ F.m.toNat := by rw [List.length_append, List.length_singleton]; omega
      have hrest : Cg F.p (F.act ((divRest low F.md F.p).take d) (gt wl)) fun _ => 0 := by
        have h1 := q4.act F.m.toNat F.md wl
        rw [act_add F.m.toNat F.md wl (act F.m.toNat F.md (divRest low F.md F.p) e0) (act F.m.toNat F.md q (act F.m.toNat F.md (low ++ [1]) e0)), act_zero, act_comm F.m.toNat F.md (divRest low F.md F.p), act_comm F.m.toNat F.md q, act_comm F.m.toNat F.md (low ++ [1]) wl, act_e0 F.m.toNat F.md wl hwl, act_cut F.m.toNat F.md (divRest low F.md F.p) d _ r3] at h1
        have h2 := ha.act F.m.toNat F.md q
        rw [act_zero] at h2
        have h3 := Cg.add h1 (h2.smul (-1))
        refine Cg.trans (Cg.of_eq ?_) (h3.trans (Cg.of_eq ?_))
        · funext s; simp only [Fd.act]; omega
        · funext s; simp
      by_cases hz : ∃ k, gt ((divRest low F.md F.p).take d) k ≠ 0
      · obtain ⟨k, hk⟩ := hz
        have htr : Res F.p ((divRest low F.md F.p).take d) := fun k => by
          by_cases hk : k < d
          · rw [gt_take hk]; exact r1 k
          · rw [gt_out (by rw [List.length_take]; omega)]; omega
        have htl : ((divRest low F.md F.p).take d).length = d := by rw [List.length_take]; omega
        obtain ⟨low', l1, l2, l3⟩ := monic_of hG h.2.1 (by omega) htr hwl hrest hk
        exact hw (ih low'.length (by omega) (by omega) low' wl rfl l2 hwl l3)
      · have hz' : ∀ k, gt (divRest low F.md F.p) k = 0 := fun k => by
          by_cases hk : k < d
          · rw [← gt_take hk]
            exact Classical.byContradiction fun hh => hz ⟨k, hh⟩
          · exact r3 k (by omega)
        by_cases h2d : 2 * d ≤ F.md.length
        · have hI := (h.2.2.2 hm).2.2 d (by omega) h2d (valL F.p low).toNat
          have hv := valL_bound (p := F.p) (by omega) low fun k _ => hlr k
          rw [Int.toNat_of_nonneg hv.1] at hI
          have hI := hI (by rw [← hll]; exact hv.2)
          rw [← hll, digL_valL hp low hlr] at hI
          have : dividesB low F.md F.p = true := zeroB_yes fun k _ => hz' k
          rw [this] at hI; cases hI
        · have e0' : act F.m.toNat F.md (divRest low F.md F.p) e0 = fun _ => 0 := by
            rw [act_cut F.m.toNat F.md _ 0 e0 fun k _ => hz' k, List.take_zero]; rfl
          rw [e0'] at q4
          have hqe : q = q.take (F.md.length - d) ++ [1] := by
            have h1 := take_gt (xs := q) (k := F.md.length - d) (by omega)
            have h2 := q2 (by omega)
            rw [show F.md.length + 1 - low.length - 1 = F.md.length - d by omega] at h2
            rw [h2, List.take_of_length_le (by omega)] at h1; exact h1
          have hqr : Res F.p (mkL (F.md.length - d) fun k => gt q k % F.p) := mkL_res (by omega) _ _ fun j _ => ⟨Int.emod_nonneg _ (by omega), Int.emod_lt_of_pos _ (by omega)⟩
          have hql : ((mkL (F.md.length - d) fun k => gt q k % F.p) ++ [1]).length ≤ F.m.toNat := by rw [List.length_append, mkL_length, List.length_singleton]; omega
          have hqc : Cg F.p (gt ((mkL (F.md.length - d) fun k => gt q k % F.p) ++ [1])) (gt q) := fun k => by
            by_cases h1 : k < F.md.length - d
            · rw [gt_snoc_lt (by rw [mkL_length]; exact h1), gt_mkL h1]; exact dvd_mod _ _
            · by_cases h2 : k = F.md.length - d
              · have h3 := gt_snoc (l := mkL (F.md.length - d) fun k => gt q k % F.p) (y := 1)
                rw [mkL_length] at h3
                have h4 := q2 (by omega)
                rw [show F.md.length + 1 - low.length - 1 = F.md.length - d by omega] at h4
                rw [h2, h3, h4]; exact ⟨0, by omega⟩
              · rw [gt_out (by rw [List.length_append, mkL_length, List.length_singleton]; omega), gt_out (by omega)]; exact ⟨0, by omega⟩
          have := ih (F.md.length - d) (by omega) (by omega) (mkL (F.md.length - d) fun k => gt q k % F.p) (low ++ [1]) (mkL_length _ _) hqr hgl (by
            refine (Cg.act_l _ _ hql (by omega) hgl hqc).trans (Cg.trans (Cg.of_eq ?_) q4)
            funext s
            simp only []
            rw [Int.zero_add, act_e0 F.m.toNat F.md (low ++ [1]) hgl])
          have h1 : F.p ∣ gt (low ++ [1]) low.length - 0 := this low.length
          rw [gt_snoc] at h1
          obtain ⟨t, e⟩ := h1
          have : (1 : Int) % F.p = 0 := by rw [show (1 : Int) = F.p * t by omega, Int.mul_emod_right]
          rw [Int.emod_eq_of_lt (by omega) (by omega)] at this
          omega
theorem RefOK.mul_ne {F : Fd} (h : RefOK F) {x y : Int} (hx : El F x) (hy : El F y) (h0 : x ≠ 0) (h1 : y ≠ 0) : F.mul x y ≠ 0 := by
  intro e
  have hG := h.good
  have ha := (mul_cg h.ok x y).symm
  rw [e, dig_zero hG, dig_of hx, dig_of hy] at ha
  have hk : ∃ k, gt (F.L y) k ≠ 0 := Classical.byContradiction fun hn => h1 (cg_zero_el hG hy (Cg.of_eq (by
    funext k; exact Classical.byContradiction fun hh => hn ⟨k, hh⟩)))
  obtain ⟨k, hk⟩ := hk
  obtain ⟨low, l1, l2, l3⟩ := monic_of hG h.2.1 (by rw [Fd.L_len]; exact Nat.le_refl _) (L_res hG y) (by rw [Fd.L_len]; exact Nat.le_refl _) ha hk
  rw [Fd.L_len] at l1
  exact h0 (cg_zero_el hG hx (no_ann h low.length l1 low (F.L x) rfl l2 (by rw [Fd.L_len]; exact Nat.le_refl _) l3))

end Go.Proofs.Ytcigdhmecfhndaa

namespace Go.Proofs.Ytcigdhmecfhndaa

/-! ### numbers -/
theorem least {P : Nat → Prop} (h : ∃ n, P n) : ∃ n, P n ∧ ∀ m, m < n → ¬ P m := by
  obtain ⟨n, hn⟩ := h
  induction n using Nat.strongRecOn with
  | _ n ih =>
    by_cases hm : ∃ m, m < n ∧ P m
    · obtain ⟨m, h1, h2⟩ := hm; exact ih m h1 h2
    · exact ⟨n, hn, fun m h1 h2 => hm ⟨m, h1, h2⟩⟩
theorem greatest {P : Nat → Prop} : ∀ (b : Nat), (∃ n, P n ∧ n ≤ b) → ∃ n, P n ∧ n ≤ b ∧ ∀ m, m ≤ b → P m → m ≤ n
  | 0, ⟨n, h, hb⟩ => ⟨n, h, hb, fun m h1 _ => by omega⟩
  | b + 1, ⟨n, h, hb⟩ => by
    by_cases hp : P (b + 1)
    · exact ⟨b + 1, hp, Nat.le_refl _, fun m h1 _ => h1⟩
    · have hne : n ≠ b + 1 := fun e => hp (e ▸ h)
      obtain ⟨k, k1, k2, k3⟩ := greatest b ⟨n, h, by omega⟩
      refine ⟨k, k1, by omega, fun m h1 h2 => k3 m ?_ h2⟩
      have : m ≠ b + 1 := fun e => hp (e ▸ h2)
      omega
/-- a prime -/
def Prm (l : Nat) : Prop := 2 ≤ l ∧ ∀ d, d ∣ l → d = 1 ∨ d = l
theorem prime_of {t : Nat} (h : 2 ≤ t) : ∃ l, Prm l ∧ l ∣ t := by
  obtain ⟨l, ⟨h1, h2⟩, h3⟩ := least (P := fun l => 2 ≤ l ∧ l ∣ t) ⟨t, h, Nat.dvd_refl _⟩
  refine ⟨l, ⟨h1, fun d hd => ?_⟩, h2⟩
  have hd0 : 0 < d := Nat.pos_of_dvd_of_pos hd (by omega)
  have hdl := Nat.le_of_dvd (by omega) hd
  by_cases e1 : d = 1
  · exact .inl e1
  · right
    apply Classical.byContradiction
    intro e2
    exact h3 d (by omega) ⟨by omega, Nat.dvd_trans hd h2⟩
theorem Prm.cop {l m : Nat} (h : Prm l) (hm : ¬ l ∣ m) : Nat.Coprime l m := by
  rcases h.2 _ (Nat.gcd_dvd_left l m) with e | e
  · exact e
  · exact absurd (e ▸ Nat.gcd_dvd_right l m) hm
theorem split_at {l : Nat} (h : 2 ≤ l) : ∀ m, 0 < m → ∃ j m', m = l ^ j * m' ∧ ¬ l ∣ m' := by
  intro m
  induction m using Nat.strongRecOn with
  | _ m ih =>
    intro hm
    by_cases hd : l ∣ m
    · obtain ⟨c, rfl⟩ := hd
      have hc : 0 < c := Nat.pos_of_mul_pos_left hm
      have hlt : c < l * c := by
        have := Nat.mul_le_mul_right c h
        omega
      obtain ⟨j, m', e, hn⟩ := ih c hlt hc
      exact ⟨j + 1, m', by rw [Nat.pow_succ, Nat.mul_comm (l ^ j), Nat.mul_assoc, ← e], hn⟩
    · exact ⟨0, m, by simp, hd⟩
/-- what the orders e and s can be cut to -/
theorem grow {e s : Nat} (he : 0 < e) (hs : 0 < s) (hn : ¬ s ∣ e) : ∃ d r t u, e = d * r ∧ s = t * u ∧ 0 < d ∧ 0 < t ∧ 0 < r ∧ 0 < u ∧ Nat.Coprime r u ∧ e < r * u := by
  obtain ⟨t, ht⟩ := Nat.gcd_dvd_left s e
  have hg : 0 < Nat.gcd s e := Nat.gcd_pos_of_pos_left e hs
  have ht2 : 2 ≤ t := by
    rcases Nat.lt_or_ge t 2 with h | h
    · exfalso
      have : t = 0 ∨ t = 1 := by omega
      rcases this with rfl | rfl
      · omega
      · rw [Nat.mul_one] at ht
        exact hn (by rw [ht]; exact Nat.gcd_dvd_right s e)
    · exact h
  obtain ⟨l, hl, hlt⟩ := prime_of ht2
  obtain ⟨k, s', es, hs'⟩ := split_at hl.1 s hs
  obtain ⟨j, e', ee, he'⟩ := split_at hl.1 e he
  have hkj : j < k := by
    apply Classical.byContradiction
    intro hkj
    have h1 : l ^ k ∣ e := by
      rw [ee]
      exact Nat.dvd_trans (Nat.pow_dvd_pow l (by omega)) (Nat.dvd_mul_right _ _)
    have h2 : l ^ k ∣ s := by rw [es]; exact Nat.dvd_mul_right _ _
    obtain ⟨g', hg'⟩ := Nat.dvd_gcd h2 h1
    have h3 : l ^ k * s' = l ^ k * (g' * t) := by rw [← es, ← Nat.mul_assoc, ← hg']; exact ht
    have h4 : s' = g' * t := Nat.eq_of_mul_eq_mul_left (Nat.pow_pos (by have := hl.1; omega)) h3
    exact hs' (by rw [h4]; exact Nat.dvd_trans hlt (Nat.dvd_mul_left _ _))
  have hlj : 0 < l ^ j := Nat.pow_pos (by have := hl.1; omega)
  have hs0 : 0 < s' := Nat.pos_of_ne_zero fun h => by rw [h] at es; omega
  have he0 : 0 < e' := Nat.pos_of_ne_zero fun h => by rw [h] at ee; omega
  refine ⟨l ^ j, e', s', l ^ k, ee, by rw [es, Nat.mul_comm], hlj, hs0, he0, Nat.pow_pos (by have := hl.1; omega), ((hl.cop he').pow_left k).symm, ?_⟩
  rw [ee, Nat.mul_comm e']
  refine Nat.mul_lt_mul_of_pos_right ?_ he0
  exact Nat.pow_lt_pow_right hl.1 hkj

/-! ### powers -/
def pw (F : Fd) (x : Int) : Nat → Int
  | 0 => 1
  | k + 1 => F.mul (pw F x k) x
theorem pw_el {F : Fd} (h : RefOK F) (x : Int) : ∀ k, El F (pw F x k)
  | 0 => el_one h.good
  | _ + 1 => mul_el h.ok _ _
theorem pw_ne {F : Fd} (h : RefOK F) {x : Int} (hx : El F x) (h0 : x ≠ 0) : ∀ k, pw F x k ≠ 0
  | 0 => by simp [pw]
  | k + 1 => h.mul_ne (pw_el h x k) hx (pw_ne h hx h0 k) h0
theorem pw_add {F : Fd} (h : RefOK F) (x : Int) (i : Nat) : ∀ j, pw F x (i + j) = F.mul (pw F x i) (pw F x j)
  | 0 => by rw [pw, mul_one' h.ok, (pw_el h x i).inE]; rfl
  | j + 1 => by rw [← Nat.add_assoc, pw, pw_add h x i j, pw, mul_assoc' h.ok]
theorem pw_mul {F : Fd} (h : RefOK F) (x : Int) (i : Nat) : ∀ j, pw F x (i * j) = pw F (pw F x i) j
  | 0 => rfl
  | j + 1 => by rw [Nat.mul_succ, pw_add h, pw_mul h x i j, pw]
theorem mul_pw {F : Fd} (h : RefOK F) (x y : Int) : ∀ k : Nat, pw F (F.mul x y) k = F.mul (pw F x k) (pw F y k)
  | 0 => by rw [pw, pw, pw, one_mul' h.ok (el_one h.good)]
  | k + 1 => by
    rw [pw, mul_pw h x y k, pw, pw, mul_assoc' h.ok, mul_assoc' h.ok, ← mul_assoc' h.ok (pw F y k), mul_comm' h.ok (pw F y k) x, mul_assoc' h.ok x]
theorem one_pw {F : Fd} (h : RefOK F) : ∀ k, pw F 1 k = 1
  | 0 => rfl
  | k + 1 => by rw [pw, one_pw h k, one_mul' h.ok (el_one h.good)]
theorem zero_add' {F : Fd} (h : F.Ok) {x : Int} (hx : El F x) : F.add 0 x = x := by rw [add_comm', add_zero' h, hx.inE]
theorem mul_neg' {F : Fd} (h : F.Ok) (x y : Int) : F.add (F.mul x y) (F.mul x (F.neg y)) = 0 := by
  rw [← mul_add' h, add_neg' h, mul_zero' h]
theorem sub_zero_eq {F : Fd} (h : F.Ok) {x y : Int} (hx : El F x) (hy : El F y) (e : F.add x (F.neg y) = 0) : x = y := by
  have h1 : F.add (F.add x (F.neg y)) y = x := by
    rw [add_assoc' h, add_comm' (F.neg y), add_neg' h, add_zero' h, hx.inE]
  rw [e, zero_add' h hy] at h1; exact h1.symm
theorem RefOK.cancel {F : Fd} (h : RefOK F) {x y z : Int} (hx : El F x) (hy : El F y) (hz : El F z) (h0 : x ≠ 0) (e : F.mul x y = F.mul x z) : y = z := by
  refine sub_zero_eq h.ok hy hz (Classical.byContradiction fun hn => ?_)
  refine h.mul_ne hx (add_el h.good _ _) h0 hn ?_
  rw [mul_add' h.ok, e, mul_neg' h.ok]
theorem pw_sub {F : Fd} (h : RefOK F) {x : Int} (hx : El F x) (h0 : x ≠ 0) {i j : Nat} (hij : i ≤ j) (e : pw F x i = pw F x j) : pw F x (j - i) = 1 := by
  refine h.cancel (pw_el h x i) (pw_el h x _) (el_one h.good) (pw_ne h hx h0 i) ?_
  rw [← pw_add h, show i + (j - i) = j by omega, mul_one' h.ok, (pw_el h x i).inE, e]
/-- the number of elements but 0 -/
def Fd.n (F : Fd) : Nat := (F.q - 1).toNat
theorem n_eq {F : Fd} (h : RefOK F) : (F.n : Int) = F.q - 1 := Int.toNat_of_nonneg (by have := h.good.q2; omega)
def IsOrd (F : Fd) (x : Int) (k : Nat) : Prop := 0 < k ∧ pw F x k = 1 ∧ ∀ m, 0 < m → m < k → pw F x m ≠ 1
theorem pws_nodup {F : Fd} (h : RefOK F) {x : Int} (hx : El F x) (h0 : x ≠ 0) {b : Nat} (hb : ∀ m, 0 < m → m < b → pw F x m ≠ 1) : (mkL b (pw F x)).Nodup := by
  refine List.pairwise_iff_getElem.2 fun i j hi hj hij e => ?_
  rw [mkL_length] at hi hj
  rw [← gt_eq (by rw [mkL_length]; exact hi), ← gt_eq (by rw [mkL_length]; exact hj), gt_mkL hi, gt_mkL hj] at e
  exact hb (j - i) (by omega) (by omega) (pw_sub h hx h0 (by omega) e)
theorem pws_in {F : Fd} (h : RefOK F) {x : Int} (hx : El F x) (h0 : x ≠ 0) (b : Nat) : ∀ y ∈ mkL b (pw F x), y ∈ els F.n := fun y hy => by
  obtain ⟨k, hk, rfl⟩ := mem_iff_gt.1 hy
  rw [mkL_length] at hk
  rw [gt_mkL hk]
  have h1 := pw_el h x k
  have h2 := pw_ne h hx h0 k
  have hn := n_eq h
  unfold El at h1
  exact mem_els.2 ⟨by omega, by omega⟩
theorem ord_ex {F : Fd} (h : RefOK F) {x : Int} (hx : El F x) (h0 : x ≠ 0) : ∃ k, IsOrd F x k ∧ k ≤ F.n := by
  have hex : ∃ k, 0 < k ∧ k ≤ F.n ∧ pw F x k = 1 := by
    apply Classical.byContradiction
    intro hn
    have h1 := pws_nodup h hx h0 (b := F.n + 1) fun m h1 h2 h3 => hn ⟨m, h1, by omega, h3⟩
    have h2 := nodup_le _ _ h1 (pws_in h hx h0 _)
    rw [mkL_length, els_length] at h2; omega
  obtain ⟨k, ⟨h1, h2, h3⟩, h4⟩ := least hex
  exact ⟨k, ⟨h1, h3, fun m m1 m2 m3 => h4 m m2 ⟨m1, by omega, m3⟩⟩, h2⟩
theorem ord_le {F : Fd} (h : RefOK F) {x : Int} (hx : El F x) (h0 : x ≠ 0) {k : Nat} (hk : IsOrd F x k) : k ≤ F.n := by
  have h2 := nodup_le _ _ (pws_nodup h hx h0 (b := k) hk.2.2) (pws_in h hx h0 _)
  rwa [mkL_length, els_length] at h2
theorem ord_mul_one {F : Fd} (h : RefOK F) {x : Int} {k : Nat} (hk : pw F x k = 1) {m : Nat} (hm : k ∣ m) : pw F x m = 1 := by
  obtain ⟨c, rfl⟩ := hm
  rw [pw_mul h, hk, one_pw h]
theorem ord_dvd {F : Fd} (h : RefOK F) {x : Int} {k : Nat} (hk : IsOrd F x k) {m : Nat} (hm : pw F x m = 1) : k ∣ m := by
  apply Nat.dvd_of_mod_eq_zero
  apply Classical.byContradiction
  intro h0
  refine hk.2.2 (m % k) (by omega) (Nat.mod_lt _ hk.1) ?_
  have e : m = k * (m / k) + m % k := (Nat.div_add_mod m k).symm
  rw [e, pw_add h, ord_mul_one h hk.2.1 (Nat.dvd_mul_right _ _), one_mul' h.ok (pw_el h x _)] at hm
  exact hm
theorem ord_cop {F : Fd} (h : RefOK F) {a b : Int} {r s : Nat} (ha : IsOrd F a r) (hb : IsOrd F b s) (hc : Nat.Coprime r s) : IsOrd F (F.mul a b) (r * s) := by
  have hrs : 0 < r * s := Nat.mul_pos ha.1 hb.1
  refine ⟨hrs, ?_, fun m h0 h1 e => ?_⟩
  · rw [mul_pw h, ord_mul_one h ha.2.1 (Nat.dvd_mul_right _ _), ord_mul_one h hb.2.1 (Nat.dvd_mul_left _ _), one_mul' h.ok (el_one h.good)]
  · have h2 : pw F (F.mul a b) (m * s) = 1 := ord_mul_one h e (Nat.dvd_mul_right _ _)
    rw [mul_pw h, ord_mul_one h hb.2.1 (Nat.dvd_mul_left s m), mul_one' h.ok, (pw_el h a _).inE] at h2
    have h3 : pw F (F.mul a b) (m * r) = 1 := ord_mul_one h e (Nat.dvd_mul_right _ _)
    rw [mul_pw h, ord_mul_one h ha.2.1 (Nat.dvd_mul_left r m), one_mul' h.ok (pw_el h b _)] at h3
    have h4 : r ∣ m := hc.dvd_of_dvd_mul_right (ord_dvd h ha h2)
    have h5 : s ∣ m := hc.symm.dvd_of_dvd_mul_right (ord_dvd h hb h3)
    have := Nat.le_of_dvd h0 (hc.mul_dvd_of_dvd_of_dvd h4 h5)
    omega
theorem ord_pow {F : Fd} (h : RefOK F) {a : Int} {d t : Nat} (hd : 0 < d) (ht : 0 < t) (ha : IsOrd F a (d * t)) : IsOrd F (pw F a d) t := by
  refine ⟨ht, by rw [← pw_mul h]; exact ha.2.1, fun m h0 h1 e => ?_⟩
  rw [← pw_mul h] at e
  exact ha.2.2 (d * m) (Nat.mul_pos hd h0) (Nat.mul_lt_mul_of_pos_left h1 hd) e

/-! ### roots -/
/-- the monic polynomial with the low coefficients l -/
def evm (F : Fd) : List Int → Int → Int
  | [], _ => 1
  | b :: l, x => F.add b (F.mul x (evm F l x))
theorem evm_el {F : Fd} (h : RefOK F) : ∀ l x, El F (evm F l x)
  | [], _ => el_one h.good
  | _ :: _, _ => add_el h.good _ _
theorem add_mul' {F : Fd} (h : F.Ok) (x y z : Int) : F.mul (F.add x y) z = F.add (F.mul x z) (F.mul y z) := by
  rw [mul_comm' h, mul_add' h, mul_comm' h z, mul_comm' h z]
theorem back {F : Fd} (h : F.Ok) {x r : Int} (hx : El F x) : F.add r (F.add x (F.neg r)) = x := by
  rw [add_comm' x, ← add_assoc' h, add_neg' h, zero_add' h hx]
theorem syn_ex {F : Fd} (h : RefOK F) (r : Int) : ∀ (l : List Int) (b : Int), ∃ s : List Int, s.length = l.length ∧ ∀ x, El F x → evm F (b :: l) x = F.add (evm F (b :: l) r) (F.mul (F.add x (F.neg r)) (evm F s x))
  | [], b => ⟨[], rfl, fun x hx => by
    have hO := h.ok
    simp only [evm]
    rw [add_assoc' hO, ← add_mul' hO, back hO hx]⟩
  | c :: l, b => by
    obtain ⟨s, h1, h2⟩ := syn_ex h r l c
    refine ⟨evm F (c :: l) r :: s, by simp [h1], fun x hx => ?_⟩
    have hO := h.ok
    have e1 : evm F (b :: c :: l) x = F.add b (F.mul x (evm F (c :: l) x)) := rfl
    have e2 : evm F (b :: c :: l) r = F.add b (F.mul r (evm F (c :: l) r)) := rfl
    have e3 : evm F (evm F (c :: l) r :: s) x = F.add (evm F (c :: l) r) (F.mul x (evm F s x)) := rfl
    rw [e1, e2, e3, h2 x hx]
    generalize evm F (c :: l) r = R
    generalize evm F s x = S
    generalize hD : F.add x (F.neg r) = D
    rw [mul_add' hO, mul_add' hO, add_assoc' hO, ← add_assoc' hO (F.mul r R), ← add_mul' hO, ← hD, back hO hx, hD]
    congr 2
    rw [← mul_assoc' hO, ← mul_assoc' hO, mul_comm' hO x]
theorem roots_le {F : Fd} (h : RefOK F) : ∀ (n : Nat) (l rs : List Int), l.length = n → rs.Nodup → (∀ r ∈ rs, El F r ∧ evm F l r = 0) → rs.length ≤ n
  | 0, l, rs, hl, _, hr => by
    cases rs with
    | nil => simp
    | cons r rs =>
      have := (hr r (by simp)).2
      rw [List.eq_nil_of_length_eq_zero hl] at this
      exact absurd this (by simp [evm])
  | n + 1, l, rs, hl, hn, hr => by
    cases rs with
    | nil => simp
    | cons r rs =>
      cases l with
      | nil => simp at hl
      | cons b l =>
        obtain ⟨s, h1, h2⟩ := syn_ex h r l b
        have hr0 := (hr r (by simp)).2
        have hn2 := List.nodup_cons.1 hn
        have := roots_le h n s rs (by simp at hl; omega) hn2.2 fun x hx => by
          have hxr := hr x (List.mem_cons_of_mem _ hx)
          refine ⟨hxr.1, Classical.byContradiction fun hne => ?_⟩
          have h3 := h2 x hxr.1
          rw [hxr.2, hr0, zero_add' h.ok (mul_el h.ok _ _)] at h3
          refine h.mul_ne (add_el h.good x (F.neg r)) (evm_el h s x) (fun e => ?_) hne h3.symm
          have := sub_zero_eq h.ok hxr.1 (hr r (by simp)).1 e
          subst this; exact hn2.1 hx
        simp; omega
theorem evm_pow {F : Fd} (h : RefOK F) (x : Int) : ∀ k, evm F (List.replicate k 0) x = pw F x k
  | 0 => rfl
  | k + 1 => by rw [List.replicate_succ, evm, evm_pow h x k, zero_add' h.ok (mul_el h.ok _ _), mul_comm' h.ok]; rfl
theorem pow_roots {F : Fd} (h : RefOK F) {e : Nat} (he : 0 < e) {rs : List Int} (hn : rs.Nodup) (hr : ∀ r ∈ rs, El F r ∧ pw F r e = 1) : rs.length ≤ e := by
  refine roots_le h e (F.neg 1 :: List.replicate (e - 1) 0) rs (by simp; omega) hn fun r hrr => ⟨(hr r hrr).1, ?_⟩
  have h1 := (hr r hrr).2
  rw [evm, evm_pow h, mul_comm' h.ok]
  have : F.mul (pw F r (e - 1)) r = pw F r e := by
    obtain ⟨k, rfl⟩ : ∃ k, e = k + 1 := ⟨e - 1, by omega⟩
    rfl
  rw [this, h1, add_comm', add_neg' h.ok]

/-! ### a generator -/
theorem prim_ex {F : Fd} (h : RefOK F) : ∃ x, El F x ∧ x ≠ 0 ∧ IsOrd F x F.n := by
  have hq := h.good.q2
  have hqn := n_eq h
  obtain ⟨e, ⟨a, ha, ha0, hae⟩, hen, hmax⟩ := greatest (P := fun k => ∃ x, El F x ∧ x ≠ 0 ∧ IsOrd F x k) F.n (by
    obtain ⟨k, hk, hkn⟩ := ord_ex h (el_one h.good) (by omega : (1 : Int) ≠ 0)
    exact ⟨k, ⟨1, el_one h.good, by omega, hk⟩, hkn⟩)
  have hall : ∀ b, El F b → b ≠ 0 → pw F b e = 1 := fun b hb hb0 => by
    obtain ⟨s, hs, hsn⟩ := ord_ex h hb hb0
    refine ord_mul_one h hs.2.1 (Classical.byContradiction fun hnd => ?_)
    obtain ⟨d, r, t, u, e1, e2, d0, t0, r0, u0, hc, hlt⟩ := grow hae.1 hs.1 hnd
    rw [e1] at hae
    rw [e2] at hs
    have h1 := ord_pow h d0 r0 hae
    have h2 := ord_pow h t0 u0 hs
    have h3 := ord_cop h h1 h2 hc
    have h4 : F.mul (pw F a d) (pw F b t) ≠ 0 := h.mul_ne (pw_el h _ _) (pw_el h _ _) (pw_ne h ha ha0 d) (pw_ne h hb hb0 t)
    have h5 := hmax (r * u) (ord_le h (mul_el h.ok _ _) h4 h3) ⟨_, mul_el h.ok _ _, h4, h3⟩
    omega
  have hle := pow_roots h hae.1 (els_nodup F.n) fun r hr => by
    have := mem_els.1 hr
    have h1 : El F r := ⟨by omega, by omega⟩
    exact ⟨h1, hall r h1 (by omega)⟩
  rw [els_length] at hle
  have : e = F.n := by omega
  rw [this] at hae
  exact ⟨a, ha, ha0, hae⟩
theorem powGo_all {F : Fd} (h : RefOK F) {x : Int} (hx : El F x) (h0 : x ≠ 0) (ho : IsOrd F x F.n) : ∀ (fuel k : Nat), 0 < k → k ≤ F.n → F.n ≤ k + fuel → powGo F.mulP x fuel (mkL k (pw F x)) (pw F x k) = mkL F.n (pw F x)
  | 0, k, _, h2, h3 => by rw [powGo, show k = F.n by omega]
  | fuel + 1, k, h1, h2, h3 => by
    rw [powGo]
    by_cases e : k = F.n
    · rw [if_pos]
      · rw [e]
      · right
        rw [e, ho.2.1]
        exact mem_iff_gt.2 ⟨0, by rw [mkL_length]; omega, by rw [gt_mkL (by omega)]; rfl⟩
    · rw [if_neg]
      · rw [← mkL_succ, mul_of h.ok (pw_el h x k) hx]
        exact powGo_all h hx h0 ho fuel (k + 1) (by omega) (by omega) (by omega)
      · rintro (e0 | hm)
        · exact pw_ne h hx h0 k e0
        · obtain ⟨i, hi, e1⟩ := mem_iff_gt.1 hm
          rw [mkL_length] at hi
          rw [gt_mkL hi] at e1
          exact ho.2.2 (k - i) (by omega) (by omega) (pw_sub h hx h0 (by omega) e1)
theorem genFrom_none {F : Fd} : ∀ {n : Nat}, F.genFrom n = none → ∀ x, F.q - n ≤ x → x < F.q → ¬ (((F.powersP x).length : Int) = F.q - 1 ∧ F.mulP (gt (F.powersP x) (F.q - 2).toNat) x = 1)
  | 0, _, x, h1, h2 => by omega
  | n + 1, h, x, h1, h2 => by
    rw [Fd.genFrom] at h
    by_cases hc : ((F.powersP (F.q - (n + 1))).length : Int) = F.q - 1 ∧ F.mulP (gt (F.powersP (F.q - (n + 1))) (F.q - 2).toNat) (F.q - (n + 1)) = 1
    · simp only [if_pos hc] at h; cases h
    · simp only [if_neg hc] at h
      by_cases e : x = F.q - (n + 1)
      · rw [e]; exact hc
      · exact genFrom_none h x (by omega) h2
theorem RefOK.shape {F : Fd} (h : RefOK F) : Shape F := ⟨h.1, h.2.1, fun hm => by rw [h.2.2.1 hm]; rfl, fun hm => ⟨(h.2.2.2 hm).1, (h.2.2.2 hm).2.1⟩⟩
theorem RefOK.fok {F : Fd} (h : RefOK F) : FOK F := by
  refine ⟨h.shape, fun hn => ?_⟩
  have hq := h.good.q2
  have hqn := n_eq h
  obtain ⟨x, hx, h0, ho⟩ := prim_ex h
  have hx2 := hx
  unfold El at hx2
  have hp : F.powersP x = mkL F.n (pw F x) := by
    have h1 : ([1] : List Int) = mkL 1 (pw F x) := by simp [mkL, pw]
    have h2 : x = pw F x 1 := by rw [pw, pw, one_mul' h.ok hx]
    rw [Fd.powersP, h1]
    conv => lhs; arg 5; rw [h2]
    exact powGo_all h hx h0 ho _ 1 (by omega) ho.1 (by omega)
  refine genFrom_none hn x (by omega) hx2.2 ⟨?_, ?_⟩
  · rw [hp, mkL_length]; omega
  · rw [hp, gt_mkL (by omega), mul_of h.ok (pw_el h x _) hx]
    have := ho.2.1
    rw [show F.n = (F.q - 2).toNat + 1 by omega] at this
    exact this
theorem fok_iff {F : Fd} : FOK F ↔ RefOK F := ⟨FOK.ref, RefOK.fok⟩

end Go.Proofs.Ytcigdhmecfhndaa

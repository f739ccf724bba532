/- Lists of whole numbers by place, and what the given functions come to, as plain functions: no program here. What package field comes to: plain functions. The powers of a generator, and the exponents: plain functions. Sums of digits: plain functions. What the reference of matrices comes to: plain functions. -/
namespace Go.Proofs.Ytcigdhmecfhndaa

/-! ### lists -/
def gt (xs : List Int) (k : Nat) : Int := xs.getD k 0
theorem gt_eq {xs : List Int} {k : Nat} (h : k < xs.length) : gt xs k = xs[k] := by simp [gt, h]
theorem gt_set (xs : List Int) (k j : Nat) (x : Int) (h : k < xs.length) : gt (xs.set k x) j = if k = j then x else gt xs j := by
  unfold gt
  by_cases e : k = j
  · subst e; simp [h]
  · simp [e, List.getElem?_set_ne e]
def mkL (n : Nat) (f : Nat → Int) : List Int := (List.range n).map f
theorem mkL_length (n : Nat) (f : Nat → Int) : (mkL n f).length = n := by simp [mkL]
theorem gt_mkL {n : Nat} {f : Nat → Int} {k : Nat} (h : k < n) : gt (mkL n f) k = f k := by simp [gt, mkL, h]
theorem ext_gt {xs ys : List Int} (hl : xs.length = ys.length) (h : ∀ k, k < xs.length → gt xs k = gt ys k) : xs = ys := by
  apply List.ext_getElem hl
  intro k h1 h2
  have := h k h1
  rwa [gt_eq h1, gt_eq h2] at this
/-- a row of n places of which the first k are those of f, the others 0 -/
def part (n : Nat) (f : Nat → Int) (k : Nat) : List Int := mkL n fun j => if j < k then f j else 0
theorem part_length (n : Nat) (f : Nat → Int) (k : Nat) : (part n f k).length = n := mkL_length _ _
theorem part_zero (n : Nat) (f : Nat → Int) : List.replicate n 0 = part n f 0 := by
  apply List.ext_getElem (by simp [part_length])
  intro i h1 h2; simp [part, mkL]
theorem part_full (n : Nat) (f : Nat → Int) : part n f n = mkL n f := by
  refine ext_gt (by simp [part_length, mkL_length]) fun k hk => ?_
  rw [part_length] at hk
  rw [part, gt_mkL hk, gt_mkL hk, if_pos hk]
theorem part_set (n : Nat) (f : Nat → Int) (k : Nat) (x : Int) (h : k < n) (hx : x = f k) : (part n f k).set k x = part n f (k + 1) := by
  refine ext_gt (by simp [part_length]) fun j hj => ?_
  rw [List.length_set, part_length] at hj
  rw [gt_set _ _ _ _ (by rw [part_length]; exact h), part, part, gt_mkL hj, gt_mkL hj]
  by_cases e : k = j
  · subst e; rw [if_pos rfl, if_pos (by omega)]; exact hx
  · rw [if_neg e]
    by_cases h1 : j < k
    · rw [if_pos h1, if_pos (by omega)]
    · rw [if_neg h1, if_neg (by omega)]
theorem gt_part {n : Nat} {f : Nat → Int} {k j : Nat} (h : j < n) : gt (part n f k) j = if j < k then f j else 0 := gt_mkL h


/-- a row of n places of which the first k are those of f, the others those of g -/
def mixL (n : Nat) (f g : Nat → Int) (k : Nat) : List Int := mkL n fun j => if j < k then f j else g j
theorem mixL_length (n : Nat) (f g : Nat → Int) (k : Nat) : (mixL n f g k).length = n := mkL_length _ _
theorem gt_mixL {n : Nat} {f g : Nat → Int} {k j : Nat} (h : j < n) : gt (mixL n f g k) j = if j < k then f j else g j := gt_mkL h
theorem mixL_full (n : Nat) (f g : Nat → Int) : mixL n f g n = mkL n f := by
  refine ext_gt (by simp [mixL_length, mkL_length]) fun k hk => ?_
  rw [mixL_length] at hk
  rw [gt_mixL hk, gt_mkL hk, if_pos hk]
theorem mixL_zero (n : Nat) (f g : Nat → Int) : mixL n f g 0 = mkL n g := by
  refine ext_gt (by simp [mixL_length, mkL_length]) fun k hk => ?_
  rw [mixL_length] at hk
  rw [gt_mixL hk, gt_mkL hk, if_neg (by omega)]
theorem mixL_set (n : Nat) (f g : Nat → Int) (k : Nat) (x : Int) (h : k < n) (hx : x = f k) : (mixL n f g k).set k x = mixL n f g (k + 1) := by
  refine ext_gt (by simp [mixL_length]) fun j hj => ?_
  rw [List.length_set, mixL_length] at hj
  rw [gt_set _ _ _ _ (by rw [mixL_length]; exact h), gt_mixL hj, gt_mixL hj]
  by_cases e : k = j
  · subst e; rw [if_pos rfl, if_pos (by omega)]; exact hx
  · rw [if_neg e]
    by_cases h1 : j < k
    · rw [if_pos h1, if_pos (by omega)]
    · rw [if_neg h1, if_neg (by omega)]
/-! ### loops -/
def loopN {σ : Type} : Nat → (Nat → σ → σ) → σ → σ
  | 0, _, s => s
  | n + 1, f, s => f n (loopN n f s)
theorem loopN_succ {σ : Type} (n : Nat) (f : Nat → σ → σ) (s : σ) : loopN (n + 1) f s = f n (loopN n f s) := rfl
theorem loopN_inv {σ : Type} (P : σ → Prop) (f : Nat → σ → σ) : ∀ (n : Nat) (s : σ), P s → (∀ i x, i < n → P x → P (f i x)) → P (loopN n f s)
  | 0, _, h, _ => h
  | n + 1, s, h, hf => hf n _ (by omega) (loopN_inv P f n s h fun i x hi hx => hf i x (by omega) hx)
theorem loopN_len (n : Nat) (f : Nat → List Int → List Int) (s : List Int) (h : ∀ i x, (f i x).length = x.length) : (loopN n f s).length = s.length := by
  induction n with
  | zero => rfl
  | succ n ih => rw [loopN_succ, h, ih]

/-! ### ref04 -/
/-- a field as it is handed over -/
structure Fd where
  p : Int
  m : Int
  md : List Int
def ordL (p : Int) : Nat → Int → Option Int
  | 0, q => some q
  | m + 1, q => if q > 256 / p then none else ordL p m (q * p)
def ordF (p m : Int) : Int := if p < 2 ∨ m < 1 ∨ 8 < m then 0 else (ordL p m.toNat 1).getD 0
/-- no d from 2 on below n divides n -/
def PrimeI (n : Int) : Prop := ∀ d : Int, 2 ≤ d → d < n → n % d ≠ 0
instance (n : Int) : Decidable (PrimeI n) :=
  decidable_of_iff (∀ d : Fin n.toNat, 2 ≤ (d.val : Int) → n % (d.val : Int) ≠ 0) ⟨fun h d h1 h2 => by
    have := h ⟨d.toNat, by omega⟩
    simp only at this
    rw [Int.toNat_of_nonneg (by omega)] at this
    exact this h1, fun h d h1 => h d h1 (by omega)⟩
def primeB (n : Int) : Bool := decide (PrimeI n)
theorem primeB_yes {n : Int} (h : PrimeI n) : primeB n = true := decide_eq_true h
theorem primeB_no {n : Int} (h : ¬ PrimeI n) : primeB n = false := decide_eq_false h
def digF (x p : Int) (i : Nat) : Int := x / p ^ i % p
def digL (x p : Int) (n : Nat) : List Int := mkL n (digF x p)
def divIn (low : List Int) (p : Int) (c : Int) (base : Nat) (j : Nat) (r : List Int) : List Int := r.set (base + j) ((gt r (base + j) + (p - c) * gt low j) % p)
def divStep (low : List Int) (p : Int) (L t : Nat) (r : List Int) : List Int :=
  let i := L - t
  (loopN low.length (divIn low p (gt r i) (i - low.length)) r).set i 0
/-- what is left of x^(len mod) + mod when the monic polynomial with the low coefficients low is taken away -/
def divRest (low md : List Int) (p : Int) : List Int := loopN (md.length + 1 - low.length) (divStep low p md.length) (md ++ [1])
theorem divIn_len (low : List Int) (p c : Int) (base j : Nat) (r : List Int) : (divIn low p c base j r).length = r.length := by simp [divIn]
theorem divStep_len (low : List Int) (p : Int) (L t : Nat) (r : List Int) : (divStep low p L t r).length = r.length := by
  simp only [divStep, List.length_set]; exact loopN_len _ _ _ fun _ _ => divIn_len _ _ _ _ _ _
/-- all entries are residues -/
def Res (p : Int) (r : List Int) : Prop := ∀ k, 0 ≤ gt r k ∧ gt r k < p
theorem gt_out {xs : List Int} {k : Nat} (h : xs.length ≤ k) : gt xs k = 0 := by simp [gt, h]
theorem Res.set {p : Int} {r : List Int} (h : Res p r) (k : Nat) {x : Int} (h0 : 0 ≤ x) (h1 : x < p) : Res p (r.set k x) := fun j => by
  by_cases hk : k < r.length
  · rw [gt_set _ _ _ _ hk]
    by_cases e : k = j
    · rw [if_pos e]; exact ⟨h0, h1⟩
    · rw [if_neg e]; exact h j
  · rw [List.set_eq_of_length_le (by omega)]; exact h j
theorem Res.divIn {p : Int} {r low : List Int} (h : Res p r) (hp : 0 < p) (c : Int) (base j : Nat) : Res p (divIn low p c base j r) := h.set _ (Int.emod_nonneg _ (by omega)) (Int.emod_lt_of_pos _ hp)
theorem Res.divInN {p : Int} {r low : List Int} (h : Res p r) (hp : 0 < p) (c : Int) (base n : Nat) : Res p (loopN n (Go.Proofs.Ytcigdhmecfhndaa.divIn low p c base) r) := loopN_inv (Res p) _ n r h fun i _ _ hx => hx.divIn hp c base i
theorem Res.divStep {p : Int} {r low : List Int} (h : Res p r) (hp : 0 < p) (L t : Nat) : Res p (divStep low p L t r) := (h.divInN hp _ _ _).set _ (by omega) hp
def zeroB (r : List Int) : Bool := decide (∀ k, k < r.length → gt r k = 0)
theorem zeroB_yes {r : List Int} (h : ∀ k, k < r.length → gt r k = 0) : zeroB r = true := decide_eq_true h
theorem zeroB_no {r : List Int} {k : Nat} (hk : k < r.length) (h : gt r k ≠ 0) : zeroB r = false := decide_eq_false fun H => h (H k hk)
def dividesB (low md : List Int) (p : Int) : Bool := zeroB (divRest low md p)
/-- some monic polynomial of degree d divides -/
def IrrAt (md : List Int) (p : Int) (d : Nat) : Prop := ∀ v : Nat, (v : Int) < p ^ d → dividesB (digL v p d) md p = false
def Irr (md : List Int) (p : Int) : Prop := ∀ d : Nat, 1 ≤ d → 2 * d ≤ md.length → IrrAt md p d
theorem ordL_spec (p : Int) (hp : 2 ≤ p) : ∀ (n : Nat) (q r : Int), 1 ≤ q → q ≤ 256 → ordL p n q = some r → r = q * p ^ n ∧ r ≤ 256
  | 0, q, r, _, h2, h => by
    simp only [ordL, Option.some.injEq] at h; subst h; exact ⟨by simp, h2⟩
  | n + 1, q, r, h1, h2, h => by
    rw [ordL] at h
    by_cases hq : q > 256 / p
    · rw [if_pos hq] at h; cases h
    · rw [if_neg hq] at h
      have hm : q * p ≤ 256 := Int.mul_le_of_le_ediv (by omega) (Int.not_lt.1 hq)
      have hm0 : 1 ≤ q * p := by
        have := Int.mul_le_mul h1 (show (1 : Int) ≤ p by omega) (by omega) (by omega)
        omega
      obtain ⟨e, hr⟩ := ordL_spec p hp n (q * p) r hm0 hm h
      exact ⟨by rw [e, Int.pow_succ, Int.mul_assoc, Int.mul_comm p], hr⟩
theorem ordF_spec {p m : Int} (h : ordF p m ≠ 0) : 2 ≤ p ∧ p ≤ 256 ∧ 1 ≤ m ∧ m ≤ 8 ∧ ordF p m = p ^ m.toNat ∧ p ^ m.toNat ≤ 256 := by
  unfold ordF at h ⊢
  by_cases hc : p < 2 ∨ m < 1 ∨ 8 < m
  · rw [if_pos hc] at h; exact absurd rfl h
  · rw [if_neg hc] at h ⊢
    cases ho : ordL p m.toNat 1 with
    | none => rw [ho] at h; exact absurd rfl h
    | some r =>
      obtain ⟨e, hr⟩ := ordL_spec p (by omega) _ 1 r (by omega) (by omega) ho
      simp only [Option.getD_some, Int.one_mul] at e ⊢
      refine ⟨by omega, ?_, by omega, by omega, e, by rw [← e]; exact hr⟩
      obtain ⟨k, hk⟩ : ∃ k, m.toNat = k + 1 := ⟨m.toNat - 1, by omega⟩
      rw [hk, Int.pow_succ] at e
      have h1 : 1 ≤ p ^ k := Int.pow_pos (by omega)
      have := Int.mul_le_mul h1 (Int.le_refl p) (by omega) (by omega)
      omega
theorem pow_mono {p : Int} (hp : 1 ≤ p) {a b : Nat} (h : a ≤ b) : p ^ a ≤ p ^ b := by
  obtain ⟨c, rfl⟩ : ∃ c, b = a + c := ⟨b - a, by omega⟩
  rw [Int.pow_add]
  have h1 : 1 ≤ p ^ c := Int.pow_pos (by omega)
  have h2 : 0 ≤ p ^ a := Int.le_of_lt (Int.pow_pos (by omega))
  have := Int.mul_le_mul (Int.le_refl (p ^ a)) h1 (by omega) h2
  omega
noncomputable def irrB (md : List Int) (p : Int) : Bool := @decide (Irr md p) (Classical.propDecidable _)
theorem irrB_yes {md : List Int} {p : Int} (h : Irr md p) : irrB md p = true := @decide_eq_true _ (Classical.propDecidable _) h
theorem irrB_no {md : List Int} {p : Int} (h : ¬ Irr md p) : irrB md p = false := @decide_eq_false _ (Classical.propDecidable _) h
theorem irrB_is {md : List Int} {p : Int} (h : irrB md p = true) : Irr md p := @of_decide_eq_true _ (Classical.propDecidable _) h
theorem digL_length (x p : Int) (n : Nat) : (digL x p n).length = n := mkL_length _ _
theorem digL_res {x p : Int} (hp : 0 < p) (n : Nat) : Res p (digL x p n) := fun k => by
  by_cases hk : k < n
  · rw [digL, gt_mkL hk]; exact ⟨Int.emod_nonneg _ (by omega), Int.emod_lt_of_pos _ hp⟩
  · rw [gt_out (by rw [digL_length]; omega)]; omega
/-- ref04.Check says yes -/
def RefOK (F : Fd) : Prop := ordF F.p F.m ≠ 0 ∧ PrimeI F.p ∧ (F.m = 1 → F.md = []) ∧ (F.m ≠ 1 → (F.md.length : Int) = F.m ∧ (∀ k, k < F.md.length → 0 ≤ gt F.md k ∧ gt F.md k < F.p) ∧ Irr F.md F.p)
open Classical in
noncomputable def refE (F : Fd) : Int := if RefOK F then 0 else 1
def inE (q x : Int) : Int := if 0 ≤ x ∧ x < q then x else 0
def Fd.q (F : Fd) : Int := ordF F.p F.m
def Fd.dig (F : Fd) (x : Int) : List Int := digL (inE F.q x) F.p F.m.toNat
def valL (p : Int) : List Int → Int
  | [] => 0
  | d :: l => valL p l * p + d
theorem valL_drop (p : Int) (d : List Int) {j : Nat} (h : j < d.length) : valL p (d.drop j) = valL p (d.drop (j + 1)) * p + gt d j := by
  rw [List.drop_eq_getElem_cons h, valL, gt_eq h]
theorem valL_bound {p : Int} (hp : 1 ≤ p) : ∀ (d : List Int), (∀ k, k < d.length → 0 ≤ gt d k ∧ gt d k < p) → 0 ≤ valL p d ∧ valL p d < p ^ d.length
  | [], _ => by simp [valL]
  | x :: d, h => by
    have h0 := h 0 (by simp)
    simp only [gt, List.getD_cons_zero] at h0
    obtain ⟨i1, i2⟩ := valL_bound hp d fun k hk => by
      have := h (k + 1) (by simp; omega)
      simpa [gt] using this
    rw [valL, List.length_cons, Int.pow_succ]
    have h3 : 0 ≤ valL p d * p := Int.mul_nonneg i1 (by omega)
    have h4 : (valL p d + 1) * p ≤ p ^ d.length * p := Int.mul_le_mul_of_nonneg_right (by omega) (by omega)
    rw [Int.add_mul] at h4
    omega
/-- what RefOK says in numbers -/
structure Fd.Good (F : Fd) : Prop where
  p2 : 2 ≤ F.p
  p256 : F.p ≤ 256
  m1 : 1 ≤ F.m
  m8 : F.m ≤ 8
  pm : F.p ^ F.m.toNat ≤ 256
  q : F.q = F.p ^ F.m.toNat
  res : Res F.p F.md
  len : F.m ≠ 1 → (F.md.length : Int) = F.m
theorem RefOK.good {F : Fd} (h : RefOK F) : F.Good := by
  obtain ⟨h1, h2, h3, h4⟩ := h
  obtain ⟨a, b, c, d, e, f⟩ := ordF_spec h1
  refine ⟨a, b, c, d, f, e, fun k => ?_, fun hm => (h4 hm).1⟩
  by_cases hm : F.m = 1
  · rw [h3 hm, gt_out (by simp)]; omega
  · by_cases hk : k < F.md.length
    · exact (h4 hm).2.1 k hk
    · rw [gt_out (by omega)]; omega
def Fd.add (F : Fd) (x y : Int) : Int := valL F.p (mkL F.m.toNat fun i => (gt (F.dig x) i + gt (F.dig y) i) % F.p)
def Fd.neg (F : Fd) (x : Int) : Int := valL F.p (mkL F.m.toNat fun i => (F.p - gt (F.dig x) i) % F.p)
def Fd.sub (F : Fd) (x y : Int) : Int := F.add x (F.neg y)
def mulIn (a b : List Int) (p : Int) (i j : Nat) (c : List Int) : List Int := c.set (i + j) ((gt c (i + j) + gt a i * gt b j) % p)
def redIn (md : List Int) (p : Int) (m i : Nat) (j : Nat) (c : List Int) : List Int := c.set (i - m + j) ((gt c (i - m + j) + (p - gt c i) * gt md j) % p)
/-- the product of two lists of coefficients -/
def convL (a b : List Int) (p : Int) (m : Nat) : List Int := loopN m (fun i c => loopN m (mulIn a b p i) c) (List.replicate (2 * m - 1) 0)
def redL (md : List Int) (p : Int) (m : Nat) (c : List Int) : List Int := loopN (m - 1) (fun t c => loopN m (redIn md p m (2 * m - 2 - t)) c) c
theorem mulIn_len (a b : List Int) (p : Int) (i j : Nat) (c : List Int) : (mulIn a b p i j c).length = c.length := by simp [mulIn]
theorem redIn_len (md : List Int) (p : Int) (m i j : Nat) (c : List Int) : (redIn md p m i j c).length = c.length := by simp [redIn]
theorem convL_len (a b : List Int) (p : Int) (m : Nat) : (convL a b p m).length = 2 * m - 1 := by
  rw [convL, loopN_len _ _ _ fun _ _ => loopN_len _ _ _ fun _ _ => mulIn_len _ _ _ _ _ _, List.length_replicate]
theorem redL_len (md : List Int) (p : Int) (m : Nat) (c : List Int) : (redL md p m c).length = c.length := loopN_len _ _ _ fun _ _ => loopN_len _ _ _ fun _ _ => redIn_len _ _ _ _ _ _
theorem Res.mulIn {p : Int} {c a b : List Int} (h : Res p c) (hp : 0 < p) (i j : Nat) : Res p (mulIn a b p i j c) := h.set _ (Int.emod_nonneg _ (by omega)) (Int.emod_lt_of_pos _ hp)
theorem Res.redIn {p : Int} {c md : List Int} (h : Res p c) (hp : 0 < p) (m i j : Nat) : Res p (redIn md p m i j c) := h.set _ (Int.emod_nonneg _ (by omega)) (Int.emod_lt_of_pos _ hp)
theorem Res.zero {p : Int} (hp : 0 < p) (n : Nat) : Res p (List.replicate n 0) := fun k => by
  by_cases hk : k < n
  · simp [gt, hk]; omega
  · rw [gt_out (by simp; omega)]; omega
theorem Res.convL {p : Int} (a b : List Int) (hp : 0 < p) (m : Nat) : Res p (convL a b p m) :=
  loopN_inv (Res p) _ _ _ (Res.zero hp _) fun i _ _ hx => loopN_inv (Res p) _ _ _ hx fun j _ _ hy => hy.mulIn hp i j
theorem Res.redL {p : Int} {c : List Int} (h : Res p c) (md : List Int) (hp : 0 < p) (m : Nat) : Res p (redL md p m c) :=
  loopN_inv (Res p) _ _ _ h fun _ _ _ hx => loopN_inv (Res p) _ _ _ hx fun j _ _ hy => hy.redIn hp m _ j
theorem gt_take {xs : List Int} {m k : Nat} (h : k < m) : gt (xs.take m) k = gt xs k := by simp [gt, List.getElem?_take_of_lt h]
def Fd.mul (F : Fd) (x y : Int) : Int := valL F.p ((redL F.md F.p F.m.toNat (convL (F.dig x) (F.dig y) F.p F.m.toNat)).take F.m.toNat)
/-- the first y from 1 on below q for which h y holds, or 0 -/
def firstL (h : Int → Bool) (q : Int) : Nat → Int
  | 0 => 0
  | n + 1 => let y := q - (n + 1); if h y then y else firstL h q n
def Fd.inv (F : Fd) (x : Int) : Int := firstL (fun y => F.mul x y == 1) F.q (F.q - 1).toNat
def Fd.dotN (F : Fd) (a b : List Int) (n : Nat) : Int := loopN n (fun i s => F.add s (F.mul (gt a i) (gt b i))) 0
def Fd.dot (F : Fd) (a b : List Int) : Int := F.dotN a b (min a.length b.length)

end Go.Proofs.Ytcigdhmecfhndaa

namespace Go.Proofs.Ytcigdhmecfhndaa

def shiftL (M : Nat) (zs : List Int) : List Int := mkL M fun j => if j = 0 then 0 else gt zs (j - 1)
def Fd.low (F : Fd) (j : Nat) : Int := if 1 < F.m then gt F.md j else 0
def hornF (F : Fd) (a : List Int) (bi top : Int) (sh : List Int) (j : Nat) : Int := (gt sh j + (F.p - top) * F.low j + bi * gt a j) % F.p
def hornStep (F : Fd) (a : List Int) (bi : Int) (out : List Int) : List Int := mkL F.m.toNat (hornF F a bi (gt out (F.m.toNat - 1)) (shiftL F.m.toNat out))
def hornN (F : Fd) (a b : List Int) (t : Nat) : List Int := loopN t (fun t out => hornStep F a (gt b (F.m.toNat - 1 - t)) out) (List.replicate F.m.toNat 0)
/-- field.multiply -/
def Fd.mulP (F : Fd) (x y : Int) : Int := valL F.p (hornN F (digL x F.p F.m.toNat) (digL y F.p F.m.toNat) F.m.toNat)
theorem mkL_res {p : Int} (hp : 0 < p) (n : Nat) (f : Nat → Int) (h : ∀ j, j < n → 0 ≤ f j ∧ f j < p) : Res p (mkL n f) := fun k => by
  by_cases hk : k < n
  · rw [gt_mkL hk]; exact h k hk
  · rw [gt_out (by rw [mkL_length]; omega)]; omega
theorem hornStep_res (F : Fd) (hp : 0 < F.p) (a : List Int) (bi : Int) (out : List Int) : Res F.p (hornStep F a bi out) :=
  mkL_res hp _ _ fun j _ => ⟨Int.emod_nonneg _ (by omega), Int.emod_lt_of_pos _ hp⟩
theorem hornStep_len (F : Fd) (a : List Int) (bi : Int) (out : List Int) : (hornStep F a bi out).length = F.m.toNat := mkL_length _ _
theorem hornN_len (F : Fd) (a b : List Int) : ∀ t, (hornN F a b t).length = F.m.toNat
  | 0 => by simp [hornN, loopN]
  | t + 1 => by rw [hornN, loopN_succ]; exact hornStep_len _ _ _ _
theorem hornN_res (F : Fd) (hp : 0 < F.p) (a b : List Int) : ∀ t, Res F.p (hornN F a b t)
  | 0 => Res.zero hp _
  | t + 1 => by rw [hornN, loopN_succ]; exact hornStep_res F hp _ _ _

theorem mulP_bound (F : Fd) (hG : F.Good) (x y : Int) : 0 ≤ F.mulP x y ∧ F.mulP x y < F.q := by
  have h := valL_bound (p := F.p) (by have := hG.p2; omega) (hornN F (digL x F.p F.m.toNat) (digL y F.p F.m.toNat) F.m.toNat) fun k _ => hornN_res F (by have := hG.p2; omega) _ _ _ k
  rw [hornN_len] at h
  rw [hG.q]; exact h
/-- field.powers -/
def powGo (mul : Int → Int → Int) (x : Int) : Nat → List Int → Int → List Int
  | 0, out, _ => out
  | n + 1, out, y => if y = 0 ∨ y ∈ out then out else powGo mul x n (out ++ [y]) (mul y x)
def Fd.powersP (F : Fd) (x : Int) : List Int := powGo F.mulP x F.q.toNat [1] x
/-- field.generator: the first x from q - n on whose powers are all -/
def Fd.genFrom (F : Fd) : Nat → Option (List Int)
  | 0 => none
  | n + 1 => let x := F.q - (n + 1); let l := F.powersP x; if (l.length : Int) = F.q - 1 ∧ F.mulP (gt l (F.q - 2).toNat) x = 1 then some l else F.genFrom n
def Fd.gen (F : Fd) : Option (List Int) := F.genFrom (F.q - 1).toNat

theorem Res.snoc {q : Int} {l : List Int} (h : Res q l) {y : Int} (h0 : 0 ≤ y ∧ y < q) : Res q (l ++ [y]) := fun k => by
  by_cases hk : k < l.length
  · have := h k; simp only [gt, List.getD_eq_getElem?_getD, List.getElem?_append_left hk] at this ⊢; exact this
  · by_cases e : k = l.length
    · subst e; simp [gt]; exact h0
    · rw [gt_out (by simp; omega)]; omega
theorem powGo_res {mul : Int → Int → Int} {q x : Int} (hm : ∀ y, 0 ≤ mul y x ∧ mul y x < q) : ∀ (n : Nat) (out : List Int) (y : Int), Res q out → 0 ≤ y → y < q → Res q (powGo mul x n out y)
  | 0, _, _, h, _, _ => h
  | n + 1, out, y, h, h0, h1 => by
    rw [powGo]
    by_cases hc : y = 0 ∨ y ∈ out
    · rw [if_pos hc]; exact h
    · rw [if_neg hc]; exact powGo_res hm n _ _ (h.snoc ⟨h0, h1⟩) (hm y).1 (hm y).2
theorem Fd.Good.q2 {F : Fd} (hG : F.Good) : 2 ≤ F.q := by
  rw [hG.q]; have h1 := hG.m1; have h2 := hG.p2
  have := pow_mono (p := F.p) (by omega) (show 1 ≤ F.m.toNat by omega)
  rw [show F.p ^ 1 = F.p by rw [Int.pow_succ, Int.pow_zero, Int.one_mul]] at this; omega
theorem powersP_res (F : Fd) (hG : F.Good) (x : Int) (h0 : 0 ≤ x) (h1 : x < F.q) : Res F.q (F.powersP x) := by
  have hq2 := hG.q2
  refine powGo_res (fun y => mulP_bound F hG y x) _ _ _ (fun k => ?_) h0 h1
  by_cases hk : k = 0
  · subst hk; simp [gt]; omega
  · rw [gt_out (by simp; omega)]; omega

/-- field.shape says yes -/
def Shape (F : Fd) : Prop := ordF F.p F.m ≠ 0 ∧ PrimeI F.p ∧ (F.m = 1 → F.md.length = 0) ∧ (F.m ≠ 1 → (F.md.length : Int) = F.m ∧ (∀ k, k < F.md.length → 0 ≤ gt F.md k ∧ gt F.md k < F.p))
theorem Shape.good {F : Fd} (h : Shape F) : F.Good := by
  obtain ⟨h1, h2, h3, h4⟩ := h
  obtain ⟨a, b, c, d, e, f⟩ := ordF_spec h1
  refine ⟨a, b, c, d, f, e, fun k => ?_, fun hm => (h4 hm).1⟩
  by_cases hm : F.m = 1
  · rw [gt_out (by have := h3 hm; omega)]; omega
  · by_cases hk : k < F.md.length
    · exact (h4 hm).2 k hk
    · rw [gt_out (by omega)]; omega
noncomputable def shapeB (F : Fd) : Bool := @decide (Shape F) (Classical.propDecidable _)
theorem shapeB_yes {F : Fd} (h : Shape F) : shapeB F = true := @decide_eq_true _ (Classical.propDecidable _) h
theorem shapeB_no {F : Fd} (h : ¬ Shape F) : shapeB F = false := @decide_eq_false _ (Classical.propDecidable _) h
/-- the program takes the field -/
def FOK (F : Fd) : Prop := Shape F ∧ F.gen ≠ none
open Classical in
noncomputable def fokE (F : Fd) : Int := if FOK F then 0 else 1
theorem fokE_yes {F : Fd} (h : FOK F) : fokE F = 0 := if_pos h
theorem fokE_no {F : Fd} (h : ¬ FOK F) : fokE F = 1 := if_neg h

end Go.Proofs.Ytcigdhmecfhndaa

namespace Go.Proofs.Ytcigdhmecfhndaa

theorem gt_snoc {l : List Int} {y : Int} : gt (l ++ [y]) l.length = y := by simp [gt]
theorem gt_snoc_lt {l : List Int} {y : Int} {k : Nat} (h : k < l.length) : gt (l ++ [y]) k = gt l k := by
  simp [gt, List.getElem?_append_left h]
theorem mem_gt {l : List Int} {k : Nat} (h : k < l.length) : gt l k ∈ l := by rw [gt_eq h]; exact List.getElem_mem h
theorem mem_iff_gt {l : List Int} {y : Int} : y ∈ l ↔ ∃ k, k < l.length ∧ gt l k = y := by
  rw [List.mem_iff_getElem]
  constructor
  · rintro ⟨k, h, e⟩; exact ⟨k, h, by rw [gt_eq h, e]⟩
  · rintro ⟨k, h, e⟩; exact ⟨k, h, by rw [← e, gt_eq h]⟩
/-- each entry is there once, and none is 0 -/
def Once (l : List Int) : Prop := (∀ i j, i < l.length → j < l.length → gt l i = gt l j → i = j) ∧ ∀ i, i < l.length → gt l i ≠ 0
theorem Once.snoc {l : List Int} (h : Once l) {y : Int} (h0 : y ≠ 0) (hn : y ∉ l) : Once (l ++ [y]) := by
  have hy : ∀ i, i < l.length → gt l i ≠ y := fun i hi e => hn (e ▸ mem_gt hi)
  refine ⟨fun i j hi hj e => ?_, fun i hi => ?_⟩
  · simp only [List.length_append, List.length_singleton] at hi hj
    by_cases h1 : i < l.length <;> by_cases h2 : j < l.length
    · rw [gt_snoc_lt h1, gt_snoc_lt h2] at e; exact h.1 i j h1 h2 e
    · obtain rfl : j = l.length := by omega
      rw [gt_snoc_lt h1, gt_snoc] at e; exact absurd e (hy i h1)
    · obtain rfl : i = l.length := by omega
      rw [gt_snoc_lt h2, gt_snoc] at e; exact absurd e.symm (hy j h2)
    · omega
  · simp only [List.length_append, List.length_singleton] at hi
    by_cases h1 : i < l.length
    · rw [gt_snoc_lt h1]; exact h.2 i h1
    · obtain rfl : i = l.length := by omega
      rw [gt_snoc]; exact h0
theorem powGo_once (mul : Int → Int → Int) (x : Int) : ∀ (n : Nat) (out : List Int) (y : Int), Once out → Once (powGo mul x n out y)
  | 0, _, _, h => h
  | n + 1, out, y, h => by
    rw [powGo]
    by_cases hc : y = 0 ∨ y ∈ out
    · rw [if_pos hc]; exact h
    · rw [if_neg hc]; exact powGo_once mul x n _ _ (h.snoc (fun e => hc (.inl e)) fun e => hc (.inr e))
theorem powersP_once (F : Fd) (x : Int) : Once (F.powersP x) := powGo_once _ _ _ _ _ ⟨fun i j hi hj _ => by simp at hi hj; omega, fun i hi => by
  obtain rfl : i = 0 := by simpa using hi
  simp [gt]⟩
/-- each power is the one ahead of it times x -/
def Steps (mul : Int → Int → Int) (x : Int) (l : List Int) (y : Int) : Prop := 0 < l.length ∧ gt l 0 = 1 ∧ (l.length = 1 → y = x) ∧ (1 < l.length → gt l 1 = x ∧ y = mul (gt l (l.length - 1)) x) ∧ ∀ i, i + 2 < l.length → gt l (i + 2) = mul (gt l (i + 1)) x
theorem powGo_steps (mul : Int → Int → Int) (x : Int) : ∀ (n : Nat) (out : List Int) (y : Int), Steps mul x out y → ∃ y', Steps mul x (powGo mul x n out y) y'
  | 0, _, y, h => ⟨y, h⟩
  | n + 1, out, y, h => by
    rw [powGo]
    by_cases hc : y = 0 ∨ y ∈ out
    · rw [if_pos hc]; exact ⟨y, h⟩
    · rw [if_neg hc]
      refine powGo_steps mul x n _ _ ?_
      obtain ⟨h0, h1, h2, h3, h4⟩ := h
      refine ⟨by simp, by rw [gt_snoc_lt h0]; exact h1, fun h => by rw [List.length_append, List.length_singleton] at h; omega, fun _ => ⟨?_, ?_⟩, fun i hi => ?_⟩
      · by_cases e : out.length = 1
        · have := gt_snoc (l := out) (y := y); rw [e] at this; rw [this]; exact h2 e
        · rw [gt_snoc_lt (by omega)]; exact (h3 (by omega)).1
      · rw [show (out ++ [y]).length - 1 = out.length by simp, gt_snoc]
      · simp only [List.length_append, List.length_singleton] at hi
        by_cases e : i + 2 < out.length
        · rw [gt_snoc_lt e, gt_snoc_lt (by omega)]; exact h4 i e
        · have e2 : i + 2 = out.length := by omega
          rw [e2, gt_snoc, gt_snoc_lt (by omega), (h3 (by omega)).2]
          congr 2; omega
theorem powersP_steps (F : Fd) (x : Int) : ∃ y, Steps F.mulP x (F.powersP x) y :=
  powGo_steps _ _ _ _ _ ⟨by simp, by simp [gt], fun _ => rfl, fun h => by simp at h, fun i h => by simp at h⟩
theorem genFrom_spec {F : Fd} {l : List Int} : ∀ {n : Nat}, (n : Int) < F.q → F.genFrom n = some l → ∃ x, 0 < x ∧ x < F.q ∧ l = F.powersP x ∧ (l.length : Int) = F.q - 1 ∧ F.mulP (gt l (F.q - 2).toNat) x = 1
  | 0, _, h => by cases h
  | n + 1, hn, h => by
    rw [Fd.genFrom] at h
    by_cases hc : ((F.powersP (F.q - (n + 1))).length : Int) = F.q - 1 ∧ F.mulP (gt (F.powersP (F.q - (n + 1))) (F.q - 2).toNat) (F.q - (n + 1)) = 1
    · simp only [if_pos hc, Option.some.injEq] at h
      subst h
      exact ⟨_, by omega, by omega, rfl, hc.1, hc.2⟩
    · simp only [if_neg hc] at h
      exact genFrom_spec (by omega) h
theorem gen_spec {F : Fd} (hG : F.Good) {l : List Int} (h : F.gen = some l) : ∃ x, 0 < x ∧ x < F.q ∧ l = F.powersP x ∧ (l.length : Int) = F.q - 1 ∧ F.mulP (gt l (F.q - 2).toNat) x = 1 := genFrom_spec (by have := hG.q2; omega) h
/-- the exponents -/
def logL (q : Nat) (ex : List Int) (n : Nat) : List Int := loopN n (fun i lg => lg.set (gt ex i).toNat i) (List.replicate q 0)
theorem logL_length (q : Nat) (ex : List Int) (n : Nat) : (logL q ex n).length = q := by rw [logL, loopN_len _ _ _ fun _ _ => List.length_set .., List.length_replicate]
theorem logL_rng (q : Nat) (ex : List Int) : ∀ (n : Nat), ∀ k, 0 ≤ gt (logL q ex n) k ∧ gt (logL q ex n) k ≤ n - 1 ∨ gt (logL q ex n) k = 0
  | 0, k => by
    right
    simp only [logL, loopN, gt, List.getD_eq_getElem?_getD, List.getElem?_replicate]
    split <;> rfl
  | n + 1, k => by
    have ih := logL_rng q ex n k
    rw [logL, loopN_succ, ← logL]
    by_cases hk : (gt ex n).toNat < (logL q ex n).length
    · rw [gt_set _ _ _ _ hk]
      by_cases e : (gt ex n).toNat = k
      · rw [if_pos e]; left; omega
      · rw [if_neg e]; omega
    · rw [List.set_eq_of_length_le (by omega)]; omega
theorem logL_at {q : Nat} {ex : List Int} (h1 : Once ex) (h2 : Res q ex) : ∀ (n : Nat), n ≤ ex.length → ∀ i, i < n → gt (logL q ex n) (gt ex i).toNat = i
  | 0, _, i, hi => by omega
  | n + 1, hn, i, hi => by
    have hr := h2 n
    rw [logL, loopN_succ, ← logL, gt_set _ _ _ _ (by rw [logL_length]; omega)]
    by_cases e : (gt ex n).toNat = (gt ex i).toNat
    · have := h2 i
      rw [if_pos e, h1.1 n i (by omega) (by omega) (by omega)]
    · rw [if_neg e]
      have : i ≠ n := fun h => e (by rw [h])
      exact logL_at h1 h2 n (by omega) i (by omega)

/-- what the rows of powers and exponents are -/
structure GFm (F : Fd) (ex lg : List Int) : Prop where
  shape : Shape F
  gen : F.gen = some ex
  lenE : (ex.length : Int) = F.q - 1
  lenL : (lg.length : Int) = F.q
  rng : ∀ k, 0 ≤ gt lg k ∧ gt lg k < F.q - 1
  log : ∀ i, i < ex.length → gt lg (gt ex i).toNat = i
theorem GFm.of {F : Fd} (hs : Shape F) {ex : List Int} (h : F.gen = some ex) : GFm F ex (logL F.q.toNat ex ex.length) := by
  have hG := hs.good
  have hq2 := hG.q2
  obtain ⟨x, hx0, hx1, rfl, hl, _⟩ := gen_spec hG h
  refine ⟨hs, h, hl, by rw [logL_length]; omega, fun k => ?_, fun i hi => logL_at (powersP_once F x) (by rw [Int.toNat_of_nonneg (by omega)]; exact powersP_res F hG x (by omega) hx1) _ (Nat.le_refl _) i hi⟩
  have := logL_rng F.q.toNat (F.powersP x) (F.powersP x).length k
  omega

end Go.Proofs.Ytcigdhmecfhndaa

namespace Go.Proofs.Ytcigdhmecfhndaa

def sumN (p : Int) (f : Nat → Int) : Nat → Int
  | 0 => 0
  | k + 1 => sumN p f k + f k * p ^ k
theorem valL_snoc (p d : Int) : ∀ l : List Int, valL p (l ++ [d]) = valL p l + d * p ^ l.length
  | [] => by simp [valL]
  | x :: l => by
    rw [List.cons_append, valL, valL, valL_snoc p d l, List.length_cons, Int.pow_succ, Int.add_mul, Int.mul_assoc]; omega
theorem mkL_succ (n : Nat) (f : Nat → Int) : mkL (n + 1) f = mkL n f ++ [f n] := by simp [mkL, List.range_succ]
theorem sumN_val (p : Int) (f : Nat → Int) : ∀ n, valL p (mkL n f) = sumN p f n
  | 0 => rfl
  | n + 1 => by rw [mkL_succ, valL_snoc, sumN_val p f n, mkL_length, sumN]
theorem sumN_stop (p : Int) (f : Nat → Int) {k : Nat} : ∀ (n : Nat), k ≤ n → (∀ i, k ≤ i → i < n → f i = 0) → sumN p f n = sumN p f k
  | 0, h, _ => by rw [show k = 0 by omega]
  | n + 1, h, hf => by
    by_cases e : k = n + 1
    · rw [e]
    · rw [sumN, hf n (by omega) (by omega), sumN_stop p f n (by omega) fun i h1 h2 => hf i h1 (by omega)]; simp
theorem sumN_bound {p : Int} (hp : 1 ≤ p) {f : Nat → Int} (hf : ∀ i, 0 ≤ f i ∧ f i < p) (n : Nat) : 0 ≤ sumN p f n ∧ sumN p f n < p ^ n := by
  have := valL_bound hp (mkL n f) fun k hk => by rw [mkL_length] at hk; rw [gt_mkL hk]; exact hf k
  rwa [sumN_val, mkL_length] at this
theorem div_pow_succ (x p : Int) (hp : 0 < p) (k : Nat) : x / p ^ k / p = x / p ^ (k + 1) := by
  rw [Int.pow_succ, Int.ediv_ediv_of_nonneg (Int.le_of_lt (Int.pow_pos hp))]
theorem div_pow_zero {x p : Int} (hp : 0 < p) (hx : 0 ≤ x) {k i : Nat} (h : x / p ^ k = 0) (hi : k ≤ i) : x / p ^ i = 0 := by
  have h1 : x < p ^ k := by
    have := Int.lt_mul_ediv_self_add (x := x) (show 0 < p ^ k from Int.pow_pos hp)
    rw [h] at this; simpa using this
  exact Int.ediv_eq_zero_of_lt hx (Int.lt_of_lt_of_le h1 (pow_mono (by omega) hi))
def negF (p x : Int) (i : Nat) : Int := (p - x / p ^ i % p) % p
def addF (p x y : Int) (i : Nat) : Int := (x / p ^ i % p + y / p ^ i % p) % p
theorem inE_bound {q x : Int} (hq : 1 ≤ q) : 0 ≤ inE q x ∧ inE q x < q := by unfold inE; split <;> omega
theorem neg_sum (F : Fd) (x : Int) : F.neg x = sumN F.p (negF F.p (inE F.q x)) F.m.toNat := by
  rw [← sumN_val, Fd.neg]; congr 1
  refine ext_gt (by simp [mkL_length]) fun k hk => ?_
  rw [mkL_length] at hk
  rw [gt_mkL hk, gt_mkL hk, Fd.dig, digL, gt_mkL hk]; rfl
theorem add_sum (F : Fd) (x y : Int) : F.add x y = sumN F.p (addF F.p (inE F.q x) (inE F.q y)) F.m.toNat := by
  rw [← sumN_val, Fd.add]; congr 1
  refine ext_gt (by simp [mkL_length]) fun k hk => ?_
  rw [mkL_length] at hk
  rw [gt_mkL hk, gt_mkL hk, Fd.dig, Fd.dig, digL, digL, gt_mkL hk, gt_mkL hk]; rfl

end Go.Proofs.Ytcigdhmecfhndaa

namespace Go.Proofs.Ytcigdhmecfhndaa

/-- all entries are elements -/
def Ent (q : Int) (v : List Int) : Prop := ∀ k, k < v.length → 0 ≤ gt v k ∧ gt v k < q
open Classical in
noncomputable def entE (q : Int) (v : List Int) : Int := if Ent q v then 0 else 2
theorem entE_yes {q : Int} {v : List Int} (h : Ent q v) : entE q v = 0 := if_pos h
theorem entE_no {q : Int} {v : List Int} (h : ¬ Ent q v) : entE q v = 2 := if_neg h

/-- the row with the number k -/
def gr (xss : List (List Int)) (k : Nat) : List Int := xss.getD k []
theorem gr_eq {xss : List (List Int)} {k : Nat} (h : k < xss.length) : gr xss k = xss[k] := by simp [gr, h]
theorem gr_out {xss : List (List Int)} {k : Nat} (h : xss.length ≤ k) : gr xss k = [] := by simp [gr, h]
theorem gr_set (xss : List (List Int)) (k j : Nat) (x : List Int) (h : k < xss.length) : gr (xss.set k x) j = if k = j then x else gr xss j := by
  unfold gr
  by_cases e : k = j
  · subst e; simp [h]
  · simp [e, List.getElem?_set_ne e]
theorem gr_mem {xss : List (List Int)} {k : Nat} (h : k < xss.length) : gr xss k ∈ xss := by rw [gr_eq h]; exact List.getElem_mem h
theorem ext_gr {xs ys : List (List Int)} (hl : xs.length = ys.length) (h : ∀ k, k < xs.length → gr xs k = gr ys k) : xs = ys := by
  apply List.ext_getElem hl
  intro k h1 h2
  have := h k h1
  rwa [gr_eq h1, gr_eq h2] at this
theorem gr_snoc {l : List (List Int)} {y : List Int} : gr (l ++ [y]) l.length = y := by simp [gr]
theorem gr_snoc_lt {l : List (List Int)} {y : List Int} {k : Nat} (h : k < l.length) : gr (l ++ [y]) k = gr l k := by
  simp [gr, List.getElem?_append_left h]


/-! ### elimination -/
/-- the first row from k on, of n, whose entry c is not 0 -/
def nzAt (l : List (List Int)) (c : Nat) : Nat → Nat → Nat
  | 0, k => k
  | n + 1, k => if gt (gr l k) c = 0 then nzAt l c n (k + 1) else k
theorem nzAt_spec (l : List (List Int)) (c : Nat) : ∀ (n k : Nat), k ≤ nzAt l c n k ∧ nzAt l c n k ≤ k + n ∧ (∀ j, k ≤ j → j < nzAt l c n k → gt (gr l j) c = 0) ∧ (nzAt l c n k < k + n → gt (gr l (nzAt l c n k)) c ≠ 0)
  | 0, k => ⟨Nat.le_refl _, Nat.le_refl _, fun j h1 h2 => by simp only [nzAt] at h2; omega, fun h => by simp only [nzAt] at h; omega⟩
  | n + 1, k => by
    rw [nzAt]
    by_cases h : gt (gr l k) c = 0
    · rw [if_pos h]
      obtain ⟨a, b, d, e⟩ := nzAt_spec l c n (k + 1)
      refine ⟨by omega, by omega, fun j h1 h2 => ?_, fun h1 => e (by omega)⟩
      by_cases hj : j = k
      · rw [hj]; exact h
      · exact d j (by omega) h2
    · rw [if_neg h]
      exact ⟨Nat.le_refl _, by omega, fun j h1 h2 => by omega, fun _ => h⟩
def swapR (l : List (List Int)) (i j : Nat) : List (List Int) := (l.set i (gr l j)).set j (gr l i)
def Fd.scaleF (F : Fd) (a : Int) (v : List Int) (i : Nat) : Int := F.mul a (gt v i)
/-- v plus a times u, place by place -/
def Fd.addToF (F : Fd) (v : List Int) (a : Int) (u : List Int) (i : Nat) : Int := if gt u i = 0 then gt v i else F.add (gt v i) (F.mul a (gt u i))
def Fd.normR (F : Fd) (c r : Nat) (l : List (List Int)) : List (List Int) := if gt (gr l r) c = 1 then l else l.set r (mkL (gr l r).length (F.scaleF (F.inv (gt (gr l r) c)) (gr l r)))
def Fd.clearIn (F : Fd) (c r i : Nat) (l : List (List Int)) : List (List Int) := if i ≠ r ∧ gt (gr l i) c ≠ 0 then l.set i (mkL (gr l i).length (F.addToF (gr l i) (F.neg (gt (gr l i) c)) (gr l r))) else l
def Fd.clearR (F : Fd) (c r : Nat) (n : Nat) (l : List (List Int)) : List (List Int) := loopN n (F.clearIn c r) l
def Fd.elimStep (F : Fd) (c : Nat) (st : List (List Int) × List Int) : List (List Int) × List Int :=
  let k := nzAt st.1 c (st.1.length - st.2.length) st.2.length
  if k < st.1.length then (F.clearR c st.2.length st.1.length (F.normR c st.2.length (swapR st.1 st.2.length k)), st.2 ++ [(c : Int)]) else st
def Fd.elim (F : Fd) (l : List (List Int)) (cols : Nat) : List (List Int) × List Int := loopN cols F.elimStep (l, [])
/-- n rows of m entries -/
def Grid (n m : Nat) (l : List (List Int)) : Prop := l.length = n ∧ ∀ k, k < n → (gr l k).length = m
theorem Grid.set {n m : Nat} {l : List (List Int)} (h : Grid n m l) (k : Nat) {x : List Int} (hx : x.length = m) : Grid n m (l.set k x) := ⟨by rw [List.length_set]; exact h.1, fun j hj => by
  by_cases hk : k < l.length
  · rw [gr_set _ _ _ _ hk]
    by_cases e : k = j
    · rw [if_pos e]; exact hx
    · rw [if_neg e]; exact h.2 j hj
  · rw [List.set_eq_of_length_le (by omega)]; exact h.2 j hj⟩
theorem Grid.swap {n m : Nat} {l : List (List Int)} (h : Grid n m l) {i j : Nat} (hi : i < n) (hj : j < n) : Grid n m (swapR l i j) := (h.set i (h.2 j hj)).set j (h.2 i hi)
theorem Grid.norm {n m : Nat} {l : List (List Int)} (h : Grid n m l) (F : Fd) (c : Nat) {r : Nat} (hr : r < n) : Grid n m (F.normR c r l) := by
  unfold Fd.normR; split
  · exact h
  · exact h.set r (by rw [mkL_length]; exact h.2 r hr)
theorem Grid.clearIn {n m : Nat} {l : List (List Int)} (h : Grid n m l) (F : Fd) (c r : Nat) {i : Nat} (hi : i < n) : Grid n m (F.clearIn c r i l) := by
  unfold Fd.clearIn; split
  · exact h.set i (by rw [mkL_length]; exact h.2 i hi)
  · exact h
theorem Grid.clearR {n m : Nat} {l : List (List Int)} (h : Grid n m l) (F : Fd) (c r : Nat) {t : Nat} (ht : t ≤ n) : Grid n m (F.clearR c r t l) :=
  loopN_inv (Grid n m) _ _ _ h fun i _ hi hx => hx.clearIn F c r (by omega)
theorem swapR_self (l : List (List Int)) (i : Nat) : swapR l i i = l := by
  by_cases hi : i < l.length
  · refine ext_gr (by simp [swapR]) fun k hk => ?_
    rw [swapR, List.set_set, gr_set _ _ _ _ hi]
    split
    · next e => rw [e]
    · rfl
  · rw [swapR, List.set_eq_of_length_le (by simp; omega), List.set_eq_of_length_le (by omega)]
theorem elimStep_grid {n m : Nat} (F : Fd) (c : Nat) (st : List (List Int) × List Int) (h : Grid n m st.1) (hp : st.2.length ≤ n) : Grid n m (F.elimStep c st).1 ∧ (F.elimStep c st).2.length ≤ n := by
  obtain ⟨l, pv⟩ := st
  simp only at h hp
  unfold Fd.elimStep
  simp only
  have hs := nzAt_spec l c (l.length - pv.length) pv.length
  split
  · next hk =>
    have h1 := h.1
    refine ⟨((h.swap (by omega) (by omega)).norm F c (by omega)).clearR F c _ (by omega), by simp; omega⟩
  · exact ⟨h, hp⟩
theorem elim_grid {n m : Nat} (F : Fd) {l : List (List Int)} (h : Grid n m l) : ∀ t, Grid n m (loopN t F.elimStep (l, [])).1 ∧ (loopN t F.elimStep (l, [])).2.length ≤ n
  | 0 => ⟨h, by simp [loopN]⟩
  | t + 1 => by
    have ih := elim_grid F h t
    rw [loopN_succ]; exact elimStep_grid F t _ ih.1 ih.2
theorem elimStep_full (F : Fd) (c : Nat) (st : List (List Int) × List Int) (h : st.1.length = st.2.length) : F.elimStep c st = st := by
  obtain ⟨l, pv⟩ := st
  simp only at h
  unfold Fd.elimStep
  simp only [h, Nat.sub_self, nzAt]
  rw [if_neg (by omega)]
/-- when all rows have pivots nothing more is done -/
theorem elim_full {n m : Nat} (F : Fd) {l : List (List Int)} (h : Grid n m l) {t : Nat} (ht : (loopN t F.elimStep (l, [])).2.length = n) : ∀ d, loopN (t + d) F.elimStep (l, []) = loopN t F.elimStep (l, [])
  | 0 => rfl
  | d + 1 => by
    rw [← Nat.add_assoc, loopN_succ, elim_full F h ht d]
    exact elimStep_full F _ _ (by rw [ht]; exact (elim_grid F h t).1.1)

end Go.Proofs.Ytcigdhmecfhndaa

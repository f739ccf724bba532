/- The words of a code as a space: sums, negatives, and how many words have each distance from a word. Plain functions. -/
import Derived.Test.YtcigdhmecfhndaaDi3
namespace Go.Proofs.Ytcigdhmecfhndaa
set_option linter.unusedVariables false

def Fd.addV (F : Fd) (a b : List Int) : List Int := mkL a.length fun k => F.add (gt a k) (gt b k)
def Fd.negV (F : Fd) (a : List Int) : List Int := mkL a.length fun k => F.neg (gt a k)
theorem addV_len (F : Fd) (a b : List Int) : (F.addV a b).length = a.length := mkL_length _ _
theorem negV_len (F : Fd) (a : List Int) : (F.negV a).length = a.length := mkL_length _ _
theorem gt_addV {F : Fd} {a b : List Int} {k : Nat} (h : k < a.length) : gt (F.addV a b) k = F.add (gt a k) (gt b k) := gt_mkL h
theorem gt_negV {F : Fd} {a : List Int} {k : Nat} (h : k < a.length) : gt (F.negV a) k = F.neg (gt a k) := gt_mkL h
theorem ent_addV {F : Fd} (hG : F.Good) (a b : List Int) : Ent F.q (F.addV a b) := fun k hk => by
  rw [addV_len] at hk; rw [gt_addV hk]; exact add_el hG _ _
theorem ent_negV {F : Fd} (hG : F.Good) (a : List Int) : Ent F.q (F.negV a) := fun k hk => by
  rw [negV_len] at hk; rw [gt_negV hk]; exact neg_el hG _
theorem eq_neg {F : Fd} (hO : F.Ok) {a b : Int} (hb : El F b) (h : F.add a b = 0) : b = F.neg a := by
  have h1 : F.add (F.neg a) (F.add a b) = b := by
    rw [← add_assoc' hO, add_comm' (F.neg a) a, add_neg' hO, zero_add' hO hb]
  rw [h, add_zero' hO, (neg_el hO.good a).inE] at h1
  exact h1.symm
theorem neg_zero' {F : Fd} (hO : F.Ok) : F.neg 0 = 0 := (eq_neg hO (el_zero hO.good) (by rw [add_zero' hO, (el_zero hO.good).inE])).symm
theorem neg_add'' {F : Fd} (hO : F.Ok) (x y : Int) : F.neg (F.add x y) = F.add (F.neg x) (F.neg y) := by
  refine (eq_neg hO (add_el hO.good _ _) ?_).symm
  rw [add_assoc' hO, ← add_assoc' hO y, add_comm' y (F.neg x), add_assoc' hO, add_neg' hO, ← add_assoc' hO, add_neg' hO, add_zero' hO, (el_zero hO.good).inE]
theorem neg_mul'' {F : Fd} (hO : F.Ok) (x y : Int) : F.mul (F.neg x) y = F.neg (F.mul x y) := by
  refine eq_neg hO (mul_el hO _ _) ?_
  rw [← add_mul' hO, add_neg' hO, mul_comm' hO, mul_zero' hO]
theorem neg_neg'' {F : Fd} (hO : F.Ok) {x : Int} (hx : El F x) : F.neg (F.neg x) = x := (eq_neg hO hx (by rw [add_comm', add_neg' hO])).symm
theorem neg_inj {F : Fd} (hO : F.Ok) {x y : Int} (hx : El F x) (hy : El F y) : F.neg x = F.neg y ↔ x = y :=
  ⟨fun h => by rw [← neg_neg'' hO hx, h, neg_neg'' hO hy], fun h => by rw [h]⟩
theorem add_inj {F : Fd} (hO : F.Ok) {x y z : Int} (hx : El F x) (hy : El F y) : F.add x z = F.add y z ↔ x = y := by
  refine ⟨fun h => ?_, fun h => by rw [h]⟩
  have h1 : F.add (F.add x z) (F.neg z) = F.add (F.add y z) (F.neg z) := by rw [h]
  rwa [add_assoc' hO, add_assoc' hO, add_neg' hO, add_zero' hO, add_zero' hO, hx.inE, hy.inE] at h1
theorem colN_add {F : Fd} (hO : F.Ok) {x y z : List Int} {rows : List (List Int)} {j : Nat} : ∀ n, (∀ i, i < n → gt z i = F.add (gt x i) (gt y i)) → F.colN z rows j n = F.add (F.colN x rows j n) (F.colN y rows j n)
  | 0, _ => by
    show (0 : Int) = F.add 0 0
    rw [add_zero' hO, (el_zero hO.good).inE]
  | n + 1, h => by
    have ih := colN_add (rows := rows) (j := j) hO n (fun i hi => h i (by omega))
    have e : ∀ v : List Int, F.colN v rows j (n + 1) = F.add (F.colN v rows j n) (F.mul (gt v n) (gt (gr rows n) j)) := fun v => by rw [Fd.colN, loopN_succ]; rfl
    rw [e, e, e, ih, h n (by omega), add_mul' hO]
    generalize F.colN x rows j n = a; generalize F.colN y rows j n = b
    generalize F.mul (gt x n) (gt (gr rows n) j) = c; generalize F.mul (gt y n) (gt (gr rows n) j) = d
    rw [add_assoc' hO, add_assoc' hO a c, ← add_assoc' hO b, add_comm' b c, add_assoc' hO c]
theorem colN_neg {F : Fd} (hO : F.Ok) {x z : List Int} {rows : List (List Int)} {j : Nat} : ∀ n, (∀ i, i < n → gt z i = F.neg (gt x i)) → F.colN z rows j n = F.neg (F.colN x rows j n)
  | 0, _ => (neg_zero' hO).symm
  | n + 1, h => by
    have ih := colN_neg (rows := rows) (j := j) hO n (fun i hi => h i (by omega))
    have e : ∀ v : List Int, F.colN v rows j (n + 1) = F.add (F.colN v rows j n) (F.mul (gt v n) (gt (gr rows n) j)) := fun v => by rw [Fd.colN, loopN_succ]; rfl
    rw [e, e, ih, h n (by omega), neg_mul'' hO, ← neg_add'' hO]
theorem comb_addV {F : Fd} (hO : F.Ok) {x y : List Int} {rows : List (List Int)} (hx : x.length = rows.length) (hy : y.length = rows.length) (N : Nat) : F.comb (F.addV x y) rows N = F.addV (F.comb x rows N) (F.comb y rows N) := by
  refine ext_gt (by rw [addV_len, comb_len, comb_len]) fun j hj => ?_
  rw [comb_len] at hj
  rw [gt_addV (by rw [comb_len]; exact hj), comb_at hO _ _ hj, comb_at hO _ _ hj, comb_at hO _ _ hj, addV_len, hx, hy, Nat.min_self]
  exact colN_add hO _ fun i hi => gt_addV (by omega)
theorem comb_negV {F : Fd} (hO : F.Ok) {x : List Int} {rows : List (List Int)} (hx : x.length = rows.length) (N : Nat) : F.comb (F.negV x) rows N = F.negV (F.comb x rows N) := by
  refine ext_gt (by rw [negV_len, comb_len, comb_len]) fun j hj => ?_
  rw [comb_len] at hj
  rw [gt_negV (by rw [comb_len]; exact hj), comb_at hO _ _ hj, comb_at hO _ _ hj, negV_len, hx, Nat.min_self]
  exact colN_neg hO _ fun i hi => gt_negV (by omega)

/-! ### distances -/
theorem difL_congr {a b c d : List Int} : ∀ k, (∀ j, j < k → (gt a j = gt b j ↔ gt c j = gt d j)) → difL a b k = difL c d k
  | 0, _ => rfl
  | k + 1, h => by
    rw [difL, difL, difL_congr k fun j hj => h j (by omega)]
    by_cases e : gt a k = gt b k
    · rw [if_pos e, if_pos ((h k (by omega)).1 e)]
    · rw [if_neg e, if_neg fun e2 => e ((h k (by omega)).2 e2)]
theorem dist_addV {F : Fd} (hO : F.Ok) {a b : List Int} (z : List Int) (hab : a.length = b.length) (ha : Ent F.q a) (hb : Ent F.q b) : dist (F.addV a z) (F.addV b z) = dist a b := by
  rw [dist, dist, addV_len, addV_len]
  refine difL_congr _ fun j hj => ?_
  rw [gt_addV (by omega), gt_addV (by omega)]
  exact add_inj hO (ha j (by omega)) (hb j (by omega))
theorem dist_negV {F : Fd} (hO : F.Ok) {a b : List Int} (hab : a.length = b.length) (ha : Ent F.q a) (hb : Ent F.q b) : dist (F.negV a) (F.negV b) = dist a b := by
  rw [dist, dist, negV_len, negV_len]
  refine difL_congr _ fun j hj => ?_
  rw [gt_negV (by omega), gt_negV (by omega)]
  exact neg_inj hO (ha j (by omega)) (hb j (by omega))
theorem negV_negV {F : Fd} (hO : F.Ok) {a : List Int} (ha : Ent F.q a) : F.negV (F.negV a) = a := by
  refine ext_gt (by rw [negV_len, negV_len]) fun j hj => ?_
  rw [negV_len, negV_len] at hj
  rw [gt_negV (by rw [negV_len]; exact hj), gt_negV hj, neg_neg'' hO (ha j hj)]
theorem addV_inj {F : Fd} (hO : F.Ok) {a b z : List Int} (hab : a.length = b.length) (ha : Ent F.q a) (hb : Ent F.q b) (h : F.addV a z = F.addV b z) : a = b := by
  refine ext_gt hab fun j hj => ?_
  have h1 : gt (F.addV a z) j = gt (F.addV b z) j := by rw [h]
  rw [gt_addV hj, gt_addV (by omega)] at h1
  exact (add_inj hO (ha j hj) (hb j (by omega))).1 h1
theorem negV_inj {F : Fd} (hO : F.Ok) {a b : List Int} (hab : a.length = b.length) (ha : Ent F.q a) (hb : Ent F.q b) (h : F.negV a = F.negV b) : a = b := by
  rw [← negV_negV hO ha, h, negV_negV hO hb]
theorem negV_addV {F : Fd} (hO : F.Ok) (a b : List Int) (hab : a.length = b.length) : F.negV (F.addV a b) = F.addV (F.negV a) (F.negV b) := by
  refine ext_gt (by rw [negV_len, addV_len, addV_len, negV_len]) fun j hj => ?_
  rw [negV_len, addV_len] at hj
  rw [gt_negV (by rw [addV_len]; exact hj), gt_addV hj, gt_addV (by rw [negV_len]; exact hj), gt_negV hj, gt_negV (by omega), neg_add'' hO]

/-! ### rearranging a sum -/
theorem perm_of_in {l : List Nat} : ∀ {m : List Nat}, l.Nodup → (∀ x ∈ l, x ∈ m) → m.length ≤ l.length → l.Perm m := by
  induction l with
  | nil => intro m _ _ hl; obtain rfl : m = [] := List.eq_nil_of_length_eq_zero (by simpa using hl); exact .refl _
  | cons a l ih =>
    intro m hn hm hl
    have ha : a ∈ m := hm a (List.mem_cons_self ..)
    rw [List.nodup_cons] at hn
    refine ((ih (m := m.erase a) hn.2 (fun x hx => ?_) ?_).cons a).trans (List.perm_cons_erase ha).symm
    · rw [List.mem_erase_of_ne (show x ≠ a from fun e => hn.1 (by rw [← e]; exact hx))]
      exact hm x (List.mem_cons_of_mem _ hx)
    · rw [List.length_erase_of_mem ha]
      simp only [List.length_cons] at hl
      omega
def sumM (f : Nat → Int) : List Nat → Int
  | [] => 0
  | a :: l => f a + sumM f l
theorem sumM_perm (f : Nat → Int) {l m : List Nat} (h : l.Perm m) : sumM f l = sumM f m := by
  induction h with
  | nil => rfl
  | cons a _ ih => rw [sumM, sumM, ih]
  | swap a b l => simp only [sumM]; omega
  | trans _ _ h1 h2 => rw [h1, h2]
theorem sumM_append (f : Nat → Int) : ∀ l m, sumM f (l ++ m) = sumM f l + sumM f m
  | [], m => by simp [sumM]
  | a :: l, m => by rw [List.cons_append, sumM, sumM, sumM_append f l m]; omega
theorem sumM_map (f : Nat → Int) (s : Nat → Nat) : ∀ l, sumM f (l.map s) = sumM (fun i => f (s i)) l
  | [] => rfl
  | a :: l => by rw [List.map_cons, sumM, sumM, sumM_map f s l]
theorem sumI_M (f : Nat → Int) : ∀ n, sumI f n = sumM f (List.range n)
  | 0 => rfl
  | n + 1 => by rw [sumI, sumI_M f n, List.range_succ, sumM_append]; simp [sumM]
theorem nodup_map {l : List Nat} {s : Nat → Nat} (hl : l.Nodup) (hi : ∀ a ∈ l, ∀ b ∈ l, s a = s b → a = b) : (l.map s).Nodup := by
  induction l with
  | nil => simp
  | cons a l ih =>
    rw [List.nodup_cons] at hl
    rw [List.map_cons, List.nodup_cons]
    refine ⟨fun h => ?_, ih hl.2 fun x hx y hy => hi x (List.mem_cons_of_mem _ hx) y (List.mem_cons_of_mem _ hy)⟩
    obtain ⟨x, hx, e⟩ := List.mem_map.1 h
    have := hi x (List.mem_cons_of_mem _ hx) a (List.mem_cons_self ..) e
    exact hl.1 (this ▸ hx)
/-- a sum over all numbers below n, gone through in another order -/
theorem sumI_perm (f : Nat → Int) {n : Nat} (s : Nat → Nat) (h1 : ∀ i, i < n → s i < n) (h2 : ∀ i j, i < n → j < n → s i = s j → i = j) : sumI (fun i => f (s i)) n = sumI f n := by
  rw [sumI_M, sumI_M, ← sumM_map]
  refine sumM_perm f (perm_of_in (nodup_map List.nodup_range fun a ha b hb => h2 a b (List.mem_range.1 ha) (List.mem_range.1 hb)) (fun x hx => ?_) (by simp))
  obtain ⟨i, hi, rfl⟩ := List.mem_map.1 hx
  exact List.mem_range.2 (h1 i (List.mem_range.1 hi))

/-! ### words and their indices -/
theorem numL_congr {q : Nat} {a b : List Int} : ∀ k, (∀ j, j < k → gt a j = gt b j) → numL q a k = numL q b k
  | 0, _ => rfl
  | k + 1, h => by rw [numL, numL, numL_congr k fun j hj => h j (by omega), h k (by omega)]
/-- the number of the digits of i, of K -/
theorem numL_msg {q : Nat} (hq : 0 < q) : ∀ K i, i < q ^ K → ∀ t, t ≤ K → numL q (msgL q K (i : Nat)) t = i / q ^ (K - t)
  | K, i, hi, 0, _ => by rw [numL, Nat.sub_zero, Nat.div_eq_of_lt hi]
  | K, i, hi, t + 1, ht => by
    rw [numL, numL_msg hq K i hi t (by omega), msgL, gt_mkL (by omega), msgF_nat, show K - 1 - t = K - (t + 1) by omega, show K - t = (K - (t + 1)) + 1 by omega, Nat.pow_succ, ← Nat.div_div_eq_div_mul]
    rw [show ((i / q ^ (K - (t + 1)) % q : Nat) : Int).toNat = i / q ^ (K - (t + 1)) % q from rfl]
    exact Nat.div_add_mod' _ _
structure Wds (F : Fd) (rows : List (List Int)) (N tot : Nat) : Prop where
  ref : RefOK F
  grid : Grid rows.length N rows
  ent : EntR F.q rows
  canon : F.canon rows N = rows
  tot : (tot : Int) = F.q ^ rows.length
theorem Wds.of {F : Fd} {rows : List (List Int)} {N tot : Nat} (h : sizE F (N : Int) rows = 0) (ht : sizV F (N : Int) rows = tot) : Wds F rows N tot := by
  obtain ⟨hcod, hv1, hv2, hv3⟩ := sizE_ok h
  obtain ⟨k1, k2, k3, k4, k5, k6⟩ := codE_ok hcod
  exact ⟨k1, ⟨rfl, fun k hk => by have := k4.2.2.2 k hk; omega⟩, k5, k6, by rw [← ht, hv3]⟩
section
variable {F : Fd} {rows : List (List Int)} {N tot : Nat}
theorem Wds.ok (H : Wds F rows N tot) : F.Ok := H.ref.ok
theorem ent_word (H : Wds F rows N tot) (i : Int) : Ent F.q (F.word rows N i) := ent_comb H.ok _ _ _
/-- a combination has an index -/
theorem Wds.at_ (H : Wds F rows N tot) {m : List Int} (hl : m.length = rows.length) (he : Ent F.q m) : ∃ i, i < tot ∧ F.comb m rows N = F.word rows N (i : Int) := by
  obtain ⟨i, hi, e⟩ := comb_word H.ref.good hl he N
  refine ⟨i, ?_, e⟩
  have := H.tot
  omega
theorem Wds.inj (H : Wds F rows N tot) {i j : Nat} (hi : i < tot) (hj : j < tot) (e : F.word rows N (i : Int) = F.word rows N (j : Int)) : i = j := by
  obtain ⟨hred, hpl⟩ := red_canon H.ref H.grid H.ent H.canon
  have hq2 := H.ref.good.q2
  obtain ⟨q, hq⟩ : ∃ q : Nat, F.q = q := ⟨F.q.toNat, by omega⟩
  have ht := H.tot
  rw [hq, ← Int.natCast_pow] at ht
  have ht2 : tot = q ^ rows.length := Int.ofNat.inj ht
  have hd : ∀ a, a < rows.length → gt (msgL q rows.length (i : Nat)) a = gt (msgL q rows.length (j : Nat)) a := fun a ha => by
    have h1 := word_piv H.ok hred (a := a) (by omega) (i : Int)
    have h2 := word_piv H.ok hred (a := a) (by omega) (j : Int)
    rw [hq] at h1 h2
    rw [← h1, ← h2, e]
  have h1 := numL_msg (q := q) (by omega) rows.length i (by omega) rows.length (Nat.le_refl _)
  have h2 := numL_msg (q := q) (by omega) rows.length j (by omega) rows.length (Nat.le_refl _)
  rw [Nat.sub_self, Nat.pow_zero, Nat.div_one] at h1 h2
  rw [← h1, ← h2]
  exact numL_congr _ hd
theorem Wds.msg (H : Wds F rows N tot) (i : Int) : (msgL F.q rows.length i).length = rows.length ∧ Ent F.q (msgL F.q rows.length i) := by
  refine ⟨by rw [msgL, mkL_length], fun k hk => msg_el H.ref.good _ _ _⟩
theorem Wds.add (H : Wds F rows N tot) (i j : Nat) : ∃ k, k < tot ∧ F.addV (F.word rows N (i : Int)) (F.word rows N (j : Int)) = F.word rows N (k : Int) := by
  have h1 := H.msg i
  have h2 := H.msg j
  obtain ⟨k, hk, e⟩ := H.at_ (m := F.addV (msgL F.q rows.length i) (msgL F.q rows.length j)) (by rw [addV_len, h1.1]) (ent_addV H.ref.good _ _)
  exact ⟨k, hk, by rw [← e, comb_addV H.ok h1.1 h2.1]; rfl⟩
theorem Wds.neg (H : Wds F rows N tot) (i : Nat) : ∃ k, k < tot ∧ F.negV (F.word rows N (i : Int)) = F.word rows N (k : Int) := by
  have h1 := H.msg i
  obtain ⟨k, hk, e⟩ := H.at_ (m := F.negV (msgL F.q rows.length i)) (by rw [negV_len, h1.1]) (ent_negV H.ref.good _)
  exact ⟨k, hk, by rw [← e, comb_negV H.ok h1.1]; rfl⟩
/-- how many words have distance e from y -/
def cntW (F : Fd) (rows : List (List Int)) (N tot : Nat) (y : List Int) (e : Nat) : Int := sumI (fun i => if dist (F.word rows N (i : Int)) y = e then 1 else 0) tot
open Classical in
theorem cnt_shift (H : Wds F rows N tot) {y : List Int} (hy : y.length = N) (hye : Ent F.q y) {t : Nat} (ht : t < tot) (e : Nat) : cntW F rows N tot (F.addV y (F.word rows N (t : Int))) e = cntW F rows N tot y e := by
  have hs : ∀ i : Nat, ∃ k, k < tot ∧ F.addV (F.word rows N (i : Int)) (F.word rows N (t : Int)) = F.word rows N (k : Int) := fun i => H.add i t
  let s : Nat → Nat := fun i => Classical.choose (hs i)
  have h1 : ∀ i, s i < tot := fun i => (Classical.choose_spec (hs i)).1
  have h2 : ∀ i : Nat, F.addV (F.word rows N (i : Int)) (F.word rows N (t : Int)) = F.word rows N (s i : Int) := fun i => (Classical.choose_spec (hs i)).2
  rw [cntW, ← sumI_perm _ s (fun i _ => h1 i) (fun i j hi hj hij => ?_)]
  · refine sumI_congr _ fun i _ => ?_
    rw [← h2 i, dist_addV H.ok _ (by rw [word_len, hy]) (ent_word H _) hye]
  · refine H.inj hi hj (addV_inj H.ok (by rw [word_len, word_len]) (ent_word H _) (ent_word H _) (z := F.word rows N (t : Int)) ?_)
    rw [h2, h2, hij]
open Classical in
theorem cnt_neg (H : Wds F rows N tot) {y : List Int} (hy : y.length = N) (hye : Ent F.q y) (e : Nat) : cntW F rows N tot (F.negV y) e = cntW F rows N tot y e := by
  have hs : ∀ i : Nat, ∃ k, k < tot ∧ F.negV (F.word rows N (i : Int)) = F.word rows N (k : Int) := fun i => H.neg i
  let s : Nat → Nat := fun i => Classical.choose (hs i)
  have h1 : ∀ i, s i < tot := fun i => (Classical.choose_spec (hs i)).1
  have h2 : ∀ i : Nat, F.negV (F.word rows N (i : Int)) = F.word rows N (s i : Int) := fun i => (Classical.choose_spec (hs i)).2
  rw [cntW, ← sumI_perm _ s (fun i _ => h1 i) (fun i j hi hj hij => ?_)]
  · refine sumI_congr _ fun i _ => ?_
    rw [← h2 i, dist_negV H.ok (by rw [word_len, hy]) (ent_word H _) hye]
  · refine H.inj hi hj (negV_inj H.ok (by rw [word_len, word_len]) (ent_word H _) (ent_word H _) ?_)
    rw [h2, h2, hij]
end

/-! ### the counts of the program and of the reference -/
theorem gt_profN {ws : List (List Int)} {y : List Int} (e : Nat) : ∀ k, gt (profN ws y k) e = sumI (fun i => if dist (gr ws i) y = e then 1 else 0) k
  | 0 => by rw [profN, loopN, gt_rep]; rfl
  | k + 1 => by
    have ih := gt_profN (ws := ws) (y := y) e k
    have hl : dist (gr ws k) y < (profN ws y k).length := by rw [profN_len]; have := dist_le (gr ws k) y; omega
    rw [profN, loopN_succ, ← profN, profS, gt_set _ _ _ _ hl, sumI, ← ih]
    split
    · next h => rw [h]
    · omega
theorem prof_cnt (F : Fd) (rows : List (List Int)) (N tot : Nat) (y : List Int) (e : Nat) : gt (prof (F.words rows N tot) y) e = cntW F rows N tot y e := by
  rw [prof, gt_profN, words_len, cntW]
  exact sumI_congr _ fun i hi => by rw [words_gr _ _ _ _ hi]
theorem prof_len (ws : List (List Int)) (y : List Int) : (prof ws y).length = y.length + 1 := profN_len _ _ _
theorem prof_eq {F : Fd} {rows : List (List Int)} {N tot : Nat} {y z : List Int} (hl : y.length = z.length) (h : ∀ e, cntW F rows N tot y e = cntW F rows N tot z e) : prof (F.words rows N tot) y = prof (F.words rows N tot) z :=
  ext_gt (by rw [prof_len, prof_len, hl]) fun e _ => by rw [prof_cnt, prof_cnt, h]

end Go.Proofs.Ytcigdhmecfhndaa

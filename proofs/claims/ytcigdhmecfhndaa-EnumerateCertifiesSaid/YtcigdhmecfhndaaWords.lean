/- The words of a code, row by row: plain functions. -/
import Derived.Test.YtcigdhmecfhndaaM
namespace Go.Proofs.Ytcigdhmecfhndaa

theorem loopN_congr {σ : Type} {f g : Nat → σ → σ} : ∀ (n : Nat) (s : σ), (∀ i x, i < n → f i x = g i x) → loopN n f s = loopN n g s
  | 0, _, _ => rfl
  | n + 1, s, h => by rw [loopN_succ, loopN_succ, loopN_congr n s fun i x hi => h i x (by omega), h n _ (by omega)]
/-- the sum of the first r rows, by the digits of k -/
def Fd.pcomb (F : Fd) (rows : List (List Int)) (N k r : Nat) : List Int := loopN r (F.combIn (msgL F.q rows.length (k : Int)) rows) (List.replicate N 0)
theorem pcomb_len (F : Fd) (rows : List (List Int)) (N k r : Nat) : (F.pcomb rows N k r).length = N := by
  rw [Fd.pcomb, loopN_len _ _ _ fun _ _ => combIn_len _ _ _ _ _, List.length_replicate]
theorem pcomb_word (F : Fd) (rows : List (List Int)) (N k : Nat) : F.word rows N (k : Int) = F.pcomb rows N k rows.length := by
  rw [Fd.word, Fd.comb, Fd.pcomb, msgL, mkL_length, Nat.min_self]
theorem msgF_nat (q K k j : Nat) : msgF (q : Int) K (k : Int) j = ((k / q ^ (K - 1 - j) % q : Nat) : Int) := by
  rw [msgF, Int.natCast_emod, Int.natCast_ediv, Int.natCast_pow]
theorem div_keep {q d e k t : Nat} (hq : 0 < q) (hk : q ^ d ∣ k) (ht : t < q ^ d) (he : d ≤ e) : (k + t) / q ^ e = k / q ^ e := by
  obtain ⟨s, rfl⟩ := hk
  have hp : 0 < q ^ d := Nat.pow_pos hq
  rw [show q ^ e = q ^ d * q ^ (e - d) by rw [← Nat.pow_add]; congr 1; omega, ← Nat.div_div_eq_div_mul, ← Nat.div_div_eq_div_mul, Nat.mul_add_div hp, Nat.div_eq_of_lt ht, Nat.add_zero, Nat.mul_div_cancel_left _ hp]
theorem combIn_congr (F : Fd) {x y : List Int} {rows : List (List Int)} {i : Nat} (h : gt x i = gt y i) (out : List Int) : F.combIn x rows i out = F.combIn y rows i out := by
  unfold Fd.combIn; rw [h]
theorem pcomb_same (F : Fd) (rows : List (List Int)) (N : Nat) {q k t r d : Nat} (hq : F.q = q) (h0 : 0 < q) (hd : r + d = rows.length) (hk : q ^ d ∣ k) (ht : t < q ^ d) : F.pcomb rows N (k + t) r = F.pcomb rows N k r := by
  refine loopN_congr r _ fun i x hi => combIn_congr F ?_ x
  rw [msgL, msgL, gt_mkL (by omega), gt_mkL (by omega), hq, msgF_nat, msgF_nat, div_keep h0 hk ht (by omega)]
theorem pcomb_step (F : Fd) (rows : List (List Int)) (N : Nat) {q k a r d : Nat} (hq : F.q = q) (ha : a < q) (hd : r + (d + 1) = rows.length) (hk : q ^ (d + 1) ∣ k) :
    F.pcomb rows N (k + a * q ^ d) (r + 1) = if a = 0 then F.pcomb rows N k r else mkL N (F.addToF (F.pcomb rows N k r) (a : Int) (gr rows r)) := by
  have h0 : 0 < q := by omega
  have hp : 0 < q ^ d := Nat.pow_pos h0
  have ht : a * q ^ d < q ^ (d + 1) := by
    rw [Nat.pow_succ, Nat.mul_comm (q ^ d)]
    exact Nat.mul_lt_mul_of_pos_right ha hp
  have h1 := pcomb_same F rows N hq h0 hd hk ht
  rw [Fd.pcomb, loopN_succ, ← Fd.pcomb, h1, Fd.combIn]
  have hdig : gt (msgL F.q rows.length ((k + a * q ^ d : Nat) : Int)) r = (a : Int) := by
    rw [msgL, gt_mkL (by omega), hq, msgF_nat, show rows.length - 1 - r = d by omega]
    obtain ⟨s, rfl⟩ := hk
    have e1 : q ^ (d + 1) * s + a * q ^ d = q ^ d * (q * s + a) := by
      rw [Nat.pow_succ, Nat.mul_add, Nat.mul_assoc, Nat.mul_comm a]
    rw [e1, Nat.mul_div_cancel_left _ hp, Nat.mul_add_mod, Nat.mod_eq_of_lt ha]
  rw [hdig, pcomb_len]
  by_cases e : a = 0
  · rw [if_pos (by omega), if_pos e]
  · rw [if_neg (by omega), if_neg e]

end Go.Proofs.Ytcigdhmecfhndaa

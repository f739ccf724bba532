/- The walks of field.GF's methods Mul, Inv, Dot, Scale. -/
import Derived.Test.YtcigdhmecfhndaaG
import Derived.Test.YtcigdhmecfhndaaField
import Derived.Test.YtcigdhmecfhndaaBase
namespace Go.Proofs.Ytcigdhmecfhndaa
open Go.RowKit
attribute [local go_sem] cell_bx froz_bx cell_own froz_own cell_rd cell_cel ints_get ints_set
set_option linter.unusedVariables false
set_option linter.unusedSimpArgs false

set_option maxRecDepth 100000 in
set_option maxHeartbeats 2000000 in
theorem gmul_calls (F : Fd) (b : Nat) (x y : Int) (w : World) [hg : GFp w b F] :
    Calls Try.prog 107 #[.pointer (some ⟨b, 0, none⟩), .int .i64 x, .int .i64 y] w fun e w' => e = .returned (.int .i64 (F.mul x y)) ∧ Ext w w' := by
  obtain ⟨A, n, c, ge, ce, gl, cl, ex, lg, hbx, -, -, hoe, hol, hm⟩ := hg.out
  have hq2 := hm.shape.good.q2
  have hq3 : F.q ≤ 256 := by have := hm.shape.good.q; have := hm.shape.good.pm; omega
  obtain ⟨X, hX⟩ : ∃ X, X = inE F.q x := ⟨_, rfl⟩
  obtain ⟨Y, hY⟩ : ∃ Y, Y = inE F.q y := ⟨_, rfl⟩
  have hX0 : 0 ≤ X ∧ X < F.q := by rw [hX]; exact inE_bound (by omega)
  have hY0 : 0 ≤ Y ∧ Y < F.q := by rw [hY]; exact inE_bound (by omega)
  have HM := hidd hm
  have HE := hidd (And.intro hX hY)
  have hlE := hm.lenE
  have hlL := hm.lenL
  by_cases h0 : X = 0
  · have hR := hidd (hm.mul_zero (x := x) (y := y) (.inl (by rw [← hX]; exact h0)))
    have h0b : (X == 0) = true := beq_iff_eq.2 h0
    clear h0 hm hlE hlL hX0 hY0
    go_enter Try.func107, Try.ntmps107
    go_wp2_with (first
      | (go_at_call_of 128 (Value.int .i64 x); refine (gin_calls F b x _).mono ?_; rintro e w3 ⟨rfl, hx⟩; rw [← hX]; clear hX)
      | (go_at_call 128; refine (gin_calls F b y _).mono ?_; rintro e w4 ⟨rfl, hx4⟩; rw [← hY]; clear hY))
    go_ret
    exact ⟨ret_int hR.out.symm, Bel.ext inferInstance⟩
  · have h0b : (X == 0) = false := beq_eq_false_iff_ne.2 h0
    by_cases h1 : Y = 0
    · have hR := hidd (hm.mul_zero (x := x) (y := y) (.inr (by rw [← hY]; exact h1)))
      have h1b : (Y == 0) = true := beq_iff_eq.2 h1
      clear h0 h1 hm hlE hlL hX0 hY0
      go_enter Try.func107, Try.ntmps107
      go_wp2_with (first
        | (go_at_call_of 128 (Value.int .i64 x); refine (gin_calls F b x _).mono ?_; rintro e w3 ⟨rfl, hx⟩; rw [← hX]; clear hX)
        | (go_at_call 128; refine (gin_calls F b y _).mono ?_; rintro e w4 ⟨rfl, hx4⟩; rw [← hY]; clear hY))
      go_ret
      exact ⟨ret_int hR.out.symm, Bel.ext inferInstance⟩
    · have h1b : (Y == 0) = false := beq_eq_false_iff_ne.2 h1
      have hR := hidd (hm.mul_eq (x := x) (y := y) (by rw [← hX]; exact h0) (by rw [← hY]; exact h1))
      rw [← hX, ← hY] at hR
      obtain ⟨a, ha⟩ : ∃ a, a = gt lg X.toNat := ⟨_, rfl⟩
      obtain ⟨d, hd⟩ : ∃ d, d = gt lg Y.toNat := ⟨_, rfl⟩
      rw [← ha, ← hd] at hR
      have hra := hm.rng X.toNat
      have hrd := hm.rng Y.toNat
      have hk1 : X.toNat < lg.length := by omega
      have hk2 : Y.toNat < lg.length := by omega
      have hk3 : X < lg.length := by omega
      have hk4 : Y < lg.length := by omega
      obtain ⟨hX1, hX2⟩ := hX0
      obtain ⟨hY1, hY2⟩ := hY0
      have f1 : IntKind.i64.wrap (gt lg X.toNat + gt lg Y.toNat) = a + d := by rw [ha, hd]; exact wr_in (by omega) (by omega)
      have f2 : IntKind.i64.wrap (F.q - 1) = F.q - 1 := wr_in (by omega) (by omega)
      rw [← ha] at hra
      rw [← hd] at hrd
      obtain ⟨s, hs⟩ : ∃ s, s = (a + d) % (F.q - 1) := ⟨_, rfl⟩
      have hs0 : 0 ≤ s := by rw [hs]; exact Int.emod_nonneg _ (by omega)
      have hs1 : s < F.q - 1 := by rw [hs]; exact Int.emod_lt_of_pos _ (by omega)
      have hs2 : s.toNat < ex.length := by omega
      have hs3 : s < ex.length := by omega
      rw [← hs] at hR
      have f3 : (a + d).tmod (F.q - 1) = s := by rw [hs]; exact Int.tmod_eq_emod_of_nonneg (by omega)
      have f4 : IntKind.i64.wrap s = s := wr_in (by omega) (by omega)
      have f5 : ¬ F.q - 1 = 0 := by omega
      clear h0 h1 hm hlE hlL ha hd hra hrd hs
      go_enter Try.func107, Try.ntmps107
      go_wp2_with (first
        | (go_at_call_of 128 (Value.int .i64 x); refine (gin_calls F b x _).mono ?_; rintro e w3 ⟨rfl, hx⟩; rw [← hX]; clear hX)
        | (go_at_call 128; refine (gin_calls F b y _).mono ?_; rintro e w4 ⟨rfl, hx4⟩; rw [← hY]; clear hY))
      go_quiet (fail)
      go_wp2
      go_ret
      exact ⟨ret_int hR.out.symm, Bel.ext inferInstance⟩

set_option maxRecDepth 100000 in
set_option maxHeartbeats 2000000 in
theorem ginv_calls (F : Fd) (b : Nat) (x : Int) (w : World) [hg : GFp w b F] :
    Calls Try.prog 174 #[.pointer (some ⟨b, 0, none⟩), .int .i64 x] w fun e w' => e = .returned (.tuple #[.int .i64 (F.inv x), .int .i64 (if inE F.q x = 0 then 7 else 0)]) ∧ Ext w w' := by
  obtain ⟨A, n, c, ge, ce, gl, cl, ex, lg, hbx, -, -, hoe, hol, hm⟩ := hg.out
  have hq2 := hm.shape.good.q2
  have hq3 : F.q ≤ 256 := by have := hm.shape.good.q; have := hm.shape.good.pm; omega
  obtain ⟨X, hX⟩ : ∃ X, X = inE F.q x := ⟨_, rfl⟩
  have hX0 : 0 ≤ X ∧ X < F.q := by rw [hX]; exact inE_bound (by omega)
  have hlE := hm.lenE
  have hlL := hm.lenL
  rw [← hX]
  by_cases h0 : X = 0
  · rw [if_pos h0]
    have hR := hidd (hm.inv_zero (x := x) (by rw [← hX]; exact h0))
    have h0b : (X == 0) = true := beq_iff_eq.2 h0
    clear h0 hm hlE hlL hX0
    go_enter Try.func174, Try.ntmps174
    go_wp2_with (go_at_call 128; refine (gin_calls F b x _).mono ?_; rintro e w3 ⟨rfl, hx⟩; rw [← hX]; clear hX)
    go_ret2
    exact ⟨by rw [hR.out]; rfl, Bel.ext inferInstance⟩
  · rw [if_neg h0]
    have h0b : (X == 0) = false := beq_eq_false_iff_ne.2 h0
    have hR := hidd (hm.inv_eq (x := x) (by rw [← hX]; exact h0))
    rw [← hX] at hR
    obtain ⟨a, ha⟩ : ∃ a, a = gt lg X.toNat := ⟨_, rfl⟩
    rw [← ha] at hR
    have hra := hm.rng X.toNat
    have hk1 : X.toNat < lg.length := by omega
    have hk3 : X < lg.length := by omega
    obtain ⟨hX1, hX2⟩ := hX0
    have f1 : IntKind.i64.wrap (F.q - 1 - gt lg X.toNat) = F.q - 1 - a := by rw [ha]; exact wr_in (by omega) (by omega)
    have f2 : IntKind.i64.wrap (F.q - 1) = F.q - 1 := wr_in (by omega) (by omega)
    rw [← ha] at hra
    obtain ⟨s, hs⟩ : ∃ s, s = (F.q - 1 - a) % (F.q - 1) := ⟨_, rfl⟩
    have hs0 : 0 ≤ s := by rw [hs]; exact Int.emod_nonneg _ (by omega)
    have hs1 : s < F.q - 1 := by rw [hs]; exact Int.emod_lt_of_pos _ (by omega)
    have hs2 : s.toNat < ex.length := by omega
    have hs3 : s < ex.length := by omega
    rw [← hs] at hR
    have f3 : (F.q - 1 - a).tmod (F.q - 1) = s := by rw [hs]; exact Int.tmod_eq_emod_of_nonneg (by omega)
    have f4 : IntKind.i64.wrap s = s := wr_in (by omega) (by omega)
    have f5 : ¬ F.q - 1 = 0 := by omega
    clear h0 hm hlE hlL ha hra hs
    go_enter Try.func174, Try.ntmps174
    go_wp2_with (go_at_call 128; refine (gin_calls F b x _).mono ?_; rintro e w3 ⟨rfl, hx⟩; rw [← hX]; clear hX)
    go_quiet (fail)
    go_wp2
    go_ret2
    exact ⟨by rw [hR.out]; rfl, Bel.ext inferInstance⟩

set_option maxRecDepth 100000 in
set_option maxHeartbeats 2000000 in
theorem gdot_calls (F : Fd) (g : Nat) (a b : List Int) (Aa Ab : Option Addr) (na ca nb cb : Nat) (w : World) (hna : a.length = na) (hnb : b.length = nb) (hnm : na ≤ 1000000) [hg : GFp w g F] [ha : Sl w Aa a] [hb : Sl w Ab b] :
    Calls Try.prog 148 #[.pointer (some ⟨g, 0, none⟩), .slice Aa na ca, .slice Ab nb cb] w fun e w' => e = .returned (.int .i64 (F.dot a b)) ∧ Ext w w' := by
  subst hna hnb
  go_enter Try.func148, Try.ntmps148
  by_cases hba : b.length < a.length
  all_goals
    go_wp2
    go_loopw [7, 8, 14] (fun sv _ iv wr => ∃ (k : Nat) (s : Int), iv = .int .i64 k ∧ sv = .int .i64 s ∧ k ≤ a.length ∧ k ≤ b.length ∧ Bel w wr ∧ Hid (s = F.dotN a b k)) (fun _ _ iv _ => a.length - (intOf iv).toNat)
    case atStart => exact ⟨0, 0, rfl, rfl, by omega, by omega, inferInstance, rfl⟩
    case round =>
      obtain ⟨k, s, rfl, rfl, hk, hk2, hB, HI⟩ := hrel
      by_cases hlt : k < a.length
      · by_cases hlt2 : k < b.length
        · obtain ⟨ada, rfl, rda⟩ := ha.at_ hlt
          obtain ⟨adb, rfl, rdb⟩ := hb.at_ hlt2
          have hN : Near wr.heap.size wr wr := ⟨Below.refl _ _⟩
          go_wp2
          go_region_held3 (fun w' => Near wr.heap.size wr w') (infer_instance)
            ((first
              | (go_at_call 107; refine (gmul_calls F g (gt a k) (gt b k) _).mono ?_; rintro e w3 ⟨rfl, hx3⟩)
              | (go_at_call 106; refine (gadd_calls F g s (F.mul (gt a k) (gt b k)) _).mono ?_; rintro e w4 ⟨rfl, hx4⟩)))
          go_wp2
          go_roundw
          case rel => exact ⟨k + 1, _, by go_num, rfl, by omega, by omega, inferInstance, by show _ = F.dotN a b (k + 1); rw [Fd.dotN, loopN_succ, HI.out]; rfl⟩
          case measure => simp [intOf] <;> omega
        · first
            | omega
            | (go_wp2
               go_ret
               exact ⟨ret_int (by rw [HI.out, Fd.dot]; congr 1; omega), hB.ext⟩)
      · first
          | omega
          | (go_wp2
             go_ret
             exact ⟨ret_int (by rw [HI.out, Fd.dot]; congr 1; omega), hB.ext⟩)

set_option maxRecDepth 100000 in
set_option maxHeartbeats 2000000 in
theorem gscale_calls (F : Fd) (g : Nat) (x : Int) (a : List Int) (Aa : Option Addr) (na ca : Nat) (w : World) (hna : a.length = na) (hnm : na ≤ 1000000) [hg : GFp w g F] [ha : Sl w Aa a] :
    Calls Try.prog 176 #[.pointer (some ⟨g, 0, none⟩), .int .i64 x, .slice Aa na ca] w fun e w' => ∃ g', e = .returned (.slice (some ⟨g', 0, none⟩) na na) ∧ Fr w g' ∧ Own w' g' (mkL na (F.scaleF x a)) ∧ Ext w w' := by
  subst hna
  have hmk := mk_int a.length (by omega)
  go_enter Try.func176, Try.ntmps176
  go_wp2
  clear hmk
  go_loopw [15] (fun iv wr => ∃ (k : Nat), iv = .int .i64 k ∧ k ≤ a.length ∧ Bel w wr ∧ Own wr w.heap.size (part a.length (F.scaleF x a) k)) (fun iv _ => a.length - (intOf iv).toNat)
  case atStart => exact ⟨0, rfl, by omega, inferInstance, by rw [← part_zero]; infer_instance⟩
  case round =>
    obtain ⟨k, rfl, hk, hB, ho⟩ := hrel
    by_cases hlt : k < a.length
    · obtain ⟨ad, rfl, rd⟩ := ha.at_ hlt
      have hin : In k (part a.length (F.scaleF x a) k).length := ⟨by rw [part_length]; exact hlt⟩
      have hin2 : k < (part a.length (F.scaleF x a) k).length := hin.out
      go_wp2_with (go_at_call 107; refine (gmul_calls F g x (gt a k) _).mono ?_; rintro e w3 ⟨rfl, hx3⟩)
      go_roundw
      case rel => exact ⟨k + 1, by go_num, by omega, inferInstance, by
        rw [← part_set a.length (F.scaleF x a) k (F.mul x (gt a k)) hlt rfl]; exact own_set⟩
      case measure => simp [intOf] <;> omega
    · obtain rfl : k = a.length := by omega
      go_wp2
      go_ret
      rw [part_full] at ho
      exact ⟨w.heap.size, rfl, inferInstance, inferInstance, Bel.ext inferInstance⟩

end Go.Proofs.Ytcigdhmecfhndaa

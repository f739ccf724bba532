/- The walk of field.New. The walks of field.GF's methods Order, Is, in, Neg. The walks of field.GF's methods Add, Sub. -/
import Derived.Test.YtcigdhmecfhndaaF
import Derived.Test.YtcigdhmecfhndaaLib3
import Derived.Test.YtcigdhmecfhndaaBase
namespace Go.Proofs.Ytcigdhmecfhndaa
open Go.RowKit
attribute [local go_sem] cell_bx froz_bx cell_own froz_own cell_rd cell_cel ints_get ints_set cell_ownb froz_ownb bools_get bools_set eql_nil_int
set_option linter.unusedVariables false
set_option linter.unusedSimpArgs false

set_option maxRecDepth 100000 in
set_option maxHeartbeats 2000000 in
theorem new_no (F : Fd) (A : Option Addr) (n c : Nat) (w : World) (hn : F.md.length = n) (hn2 : n ≤ 1000000000000000000) (hF : ¬ FOK F) [hA : Sl w A F.md] :
    Calls Try.prog 81 #[.agg #[.int .i64 F.p, .int .i64 F.m, .slice A n c]] w fun e w' => e = .returned (.tuple #[.pointer none, .int .i64 1]) ∧ Ext w w' := by
  by_cases hs : Shape F
  · have hsb : shapeB F = true := shapeB_yes hs
    have hG := hs.good
    have hord : ordF F.p F.m = F.q := rfl
    have hg : F.gen = none := by
      by_cases h : F.gen = none
      · exact h
      · exact absurd ⟨hs, h⟩ hF
    go_enter Try.func81, Try.ntmps81
    go_wp2_with (first
      | (go_at_call 119; refine (shape_calls F A n c _ hn hn2).mono ?_; rintro e w1 ⟨rfl, hx1⟩; rw [hsb])
      | (go_at_call 120; refine (forder_calls F.p F.m _).mono ?_; rintro e w2 ⟨rfl, hx2⟩; rw [hord])
      | (go_at_call 121; refine (generator_calls F A n c _ hG hn).mono ?_; rintro e w3 (⟨_, rfl, hx3⟩ | ⟨l, g, cap, h, _⟩); rotate_left; exact absurd h (by rw [hg]; simp)))
    go_ret2
    exact ⟨rfl, Bel.ext inferInstance⟩
  · have hsb : shapeB F = false := shapeB_no hs
    go_enter Try.func81, Try.ntmps81
    go_wp2_with (go_at_call 119; refine (shape_calls F A n c _ hn hn2).mono ?_; rintro e w1 ⟨rfl, hx1⟩; rw [hsb])
    go_ret2
    exact ⟨rfl, Bel.ext inferInstance⟩

set_option maxRecDepth 100000 in
set_option maxHeartbeats 2000000 in
theorem new_yes (F : Fd) (A : Option Addr) (n c : Nat) (w : World) (hn : F.md.length = n) (hn2 : n ≤ 1000000000000000000) (hs : Shape F) (l : List Int) (hl : F.gen = some l) [hA : Sl w A F.md] :
    Calls Try.prog 81 #[.agg #[.int .i64 F.p, .int .i64 F.m, .slice A n c]] w fun e w' => ∃ g, e = .returned (.tuple #[.pointer (some ⟨g, 0, none⟩), .int .i64 0]) ∧ Fr w g ∧ GFp w' g F ∧ Ext w w' := by
  have hsb : shapeB F = true := shapeB_yes hs
  have hG := hs.good
  have hord : ordF F.p F.m = F.q := rfl
  have hq2 := hG.q2
  have hq3 : F.q ≤ 256 := by have := hG.pm; have := hG.q; omega
  have hn8 : n ≤ 8 := by
    have := hG.m8; have := hG.m1
    by_cases hm : F.m = 1
    · have := hs.2.2.1 hm; omega
    · have := (hs.2.2.2 hm).1; omega
  have hmk : ∀ w : World, (Instr.makeSlice 22 (.int .i64 F.q) (.int .i64 F.q)).run Try.prog w = .ok (.slice (some ⟨w.heap.size, 0, none⟩) F.q.toNat F.q.toNat) (w.alloc (.cells (ints (List.replicate F.q.toNat 0)) 3)) := fun w => by
    have := mk_int F.q.toNat (by omega) w
    rwa [Int.toNat_of_nonneg (by omega)] at this
  go_enter Try.func81, Try.ntmps81
  go_upto_region 7 with (first
    | (go_at_call 119; refine (shape_calls F A n c _ hn hn2).mono ?_; rintro e w1 ⟨rfl, hx1⟩; rw [hsb])
    | (go_at_call 120; refine (forder_calls F.p F.m _).mono ?_; rintro e w2 ⟨rfl, hx2⟩; rw [hord])
    | (go_at_call 121; refine (generator_calls F A n c _ hG hn).mono ?_; rintro e w3 (⟨h, _⟩ | ⟨l', g, cap, hl', rfl, hcap, hl256, hfg, ho, hx3⟩); exact absurd h (by rw [hl]; simp); obtain rfl : l = l' := by rw [hl] at hl'; injection hl'))
  have hbx3 : Bx w3 w.heap.size #[.int .i64 F.p, .int .i64 F.m, .slice A n c] 24 := inferInstance
  have hb3 : Bel w w3 := inferInstance
  have hfr : Fr w g := ⟨by have h1 : Bel w w2 := inferInstance; have := h1.out.size; have := hfg.out; omega⟩
  clear hx1 hx2 hx3 hl'
  go_cut [6] (fun v wc => ∃ (gf gl : Nat) (A1 : Option Addr) (c1 : Nat), v = .pointer (some ⟨gf, 0, none⟩) ∧ Bel w wc ∧ Fr w gf ∧ Fr w gl ∧ Apart gf gl ∧ Apart g gl ∧ Apart w.heap.size gl ∧ (∀ ad, A1 = some ad → ad.block ≠ gl) ∧
    Bx wc gf #[.int .i64 F.p, .int .i64 F.m, .slice A1 n c1, .int .i64 F.q, .slice (some ⟨g, 0, none⟩) l.length cap, .slice (some ⟨gl, 0, none⟩) F.q.toNat F.q.toNat] 137 ∧ Sl wc A1 F.md ∧ Own wc gl (List.replicate F.q.toNat 0) ∧ Own wc g l)
  case first =>
    have hN : Near w3.heap.size w3 w3 := ⟨Below.refl _ _⟩
    go_region_held3 (fun w' => Near w3.heap.size w3 w') (infer_instance)
      ((refine app0_step rfl (.tmp 26) (.tmp 28) rfl _ F.md A n c rfl rfl hn (by omega) ?_; intro v1 w4 hr1 hc1 hv1; have hlt := fun g => hr1.lt (g := g); obtain ⟨A1, c1, rfl, hcc1, hs1, _⟩ := hr1.reads; clear hr1))
    all_goals go_wp2_with fail
    all_goals go_meet
    all_goals have hg3 : Lo g w3.heap.size := inferInstance
    all_goals have hw3 : Lo w.heap.size w3.heap.size := inferInstance
    all_goals have hz := hc1.out.size
    all_goals have hb4 : Bel w w4 := inferInstance
    all_goals have ho4 : Own w4 g l := inferInstance
    all_goals have hz0 := hb3.out.size
    all_goals simp only [World.size_alloc, World.size_drew] at hz hv1
    · have ha2 : ∀ ad, A1 = some ad → ad.block ≠ w4.heap.size := by
        rintro ad rfl h
        have := hlt ad.block rfl
        omega
      exact ⟨w4.heap.size + 1, w4.heap.size, A1, c1, rfl, inferInstance, inferInstance, inferInstance, ⟨by omega⟩, ⟨by have := hg3.out; omega⟩, ⟨by have := hw3.out; omega⟩, ha2, inferInstance, inferInstance, inferInstance, inferInstance⟩
    · have ha2 : ∀ ad, A1 = some ad → ad.block ≠ w3.heap.size + 1 := by
        rintro ad rfl h
        simp only [Value.ownBlock, Option.some.injEq] at hv1
        omega
      exact ⟨w4.heap.size, w3.heap.size + 1, A1, c1, rfl, inferInstance, inferInstance, inferInstance, ⟨by omega⟩, ⟨by have := hg3.out; omega⟩, ⟨by have := hw3.out; omega⟩, ha2, inferInstance, inferInstance, inferInstance, inferInstance⟩
    · have ha2 : ∀ ad, A1 = some ad → ad.block ≠ w3.heap.size := by
        rintro ad rfl h
        simp only [Value.ownBlock, Option.some.injEq] at hv1
        omega
      exact ⟨w4.heap.size, w3.heap.size, A1, c1, rfl, inferInstance, inferInstance, inferInstance, ⟨by omega⟩, ⟨by have := hg3.out; omega⟩, ⟨by have := hw3.out; omega⟩, ha2, inferInstance, inferInstance, inferInstance, inferInstance⟩
  case rest =>
    obtain ⟨gf, gl, A1, c1, rfl, hB, hf1, hf2, ha1, ha2, ha3, ha4, hbx, hsl, hol, hoe⟩ := hcut
    have HG := hidd hl
    have hR : Hid (Res F.q l) := by
      obtain ⟨x, hx0, hx1, rfl, _⟩ := gen_spec hG hl
      exact hidd (powersP_res F hG x (by omega) hx1)
    clear hord hmk hl hbx3 hb3 hfr ho hfg hcap hsb
    have hap : ∀ k (u : Value) (w1 : World), Sl w1 A1 F.md → Sl (w1.setCell ⟨gl, k, none⟩ u) A1 F.md := fun k u w1 h => ⟨fun ad e => by
      have := h.rd ad e
      have : Apart ad.block gl := ⟨ha4 ad e⟩
      infer_instance, h.nn⟩
    have HA := hidd hap
    clear hap ha4
    have hle := hidd hn
    clear hn
    go_wp2
    go_loopw [39] (fun iv wr => ∃ (k : Nat), iv = .int .i64 k ∧ k ≤ l.length ∧ Bel w wr ∧ Bx wr gf #[.int .i64 F.p, .int .i64 F.m, .slice A1 n c1, .int .i64 F.q, .slice (some ⟨g, 0, none⟩) l.length cap, .slice (some ⟨gl, 0, none⟩) F.q.toNat F.q.toNat] 137 ∧ Sl wr A1 F.md ∧ Own wr gl (logL F.q.toNat l k) ∧ Own wr g l) (fun iv _ => l.length - (intOf iv).toNat)
    case atStart => exact ⟨0, rfl, by omega, inferInstance, inferInstance, inferInstance, hol, inferInstance⟩
    case round =>
      obtain ⟨k, rfl, hk, hB2, hbx2, hsl2, hol2, hoe2⟩ := hrel
      by_cases hlt : k < l.length
      · have hlt' : (k : Int) < l.length := by omega
        have hr := hR.out k
        have hr3 : (gt l k).toNat < (logL F.q.toNat l k).length := by rw [logL_length]; omega
        have hin : In (gt l k).toNat (logL F.q.toNat l k).length := ⟨hr3⟩
        have hr4 : (gt l k) < (F.q.toNat : Int) := by omega
        go_wp2
        go_roundw
        case rel => exact ⟨k + 1, by simp, by omega, inferInstance, inferInstance, HA.out _ _ _ inferInstance, own_set_ hol2 _ _ hr3, inferInstance⟩
        case measure => simp [intOf] <;> omega
      · obtain rfl : k = l.length := by omega
        go_wp2
        go_ret2
        refine ⟨gf, rfl, inferInstance, ⟨A1, n, c1, g, cap, gl, F.q.toNat, l, logL F.q.toNat l l.length, ?_, hle.out.symm, inferInstance, inferInstance, inferInstance, GFm.of hs HG.out⟩, Bel.ext inferInstance⟩
        rw [logL_length]; infer_instance

end Go.Proofs.Ytcigdhmecfhndaa

namespace Go.Proofs.Ytcigdhmecfhndaa
open Go.RowKit
attribute [local go_sem] cell_bx froz_bx cell_own froz_own cell_rd cell_cel ints_get ints_set
set_option linter.unusedVariables false
set_option linter.unusedSimpArgs false

set_option maxHeartbeats 1000000 in
theorem gorder_calls (F : Fd) (b : Nat) (w : World) [hg : GFp w b F] :
    Calls Try.prog 102 #[.pointer (some ⟨b, 0, none⟩)] w fun e w' => e = .returned (.int .i64 F.q) ∧ Ext w w' := by
  obtain ⟨A, n, c, ge, ce, gl, cl, ex, lg, hbx, -⟩ := hg.out
  go_enter Try.func102, Try.ntmps102
  go_wp2
  go_ret
  exact ⟨rfl, Bel.ext inferInstance⟩

set_option maxHeartbeats 1000000 in
theorem gis_calls (F : Fd) (b : Nat) (x : Int) (w : World) [hg : GFp w b F] :
    Calls Try.prog 122 #[.pointer (some ⟨b, 0, none⟩), .int .i64 x] w fun e w' => e = .returned (.bool (decide (0 ≤ x ∧ x < F.q))) ∧ Ext w w' := by
  obtain ⟨A, n, c, ge, ce, gl, cl, ex, lg, hbx, -⟩ := hg.out
  by_cases h0 : 0 ≤ x
  · by_cases h1 : x < F.q
    all_goals
      go_enter Try.func122, Try.ntmps122
      go_wp2
      go_ret
      exact ⟨ret_bool (by simp; omega), Bel.ext inferInstance⟩
  · go_enter Try.func122, Try.ntmps122
    go_wp2
    go_ret
    exact ⟨ret_bool (by simp; omega), Bel.ext inferInstance⟩

set_option maxHeartbeats 1000000 in
theorem gin_calls (F : Fd) (b : Nat) (x : Int) (w : World) [hg : GFp w b F] :
    Calls Try.prog 128 #[.pointer (some ⟨b, 0, none⟩), .int .i64 x] w fun e w' => e = .returned (.int .i64 (inE F.q x)) ∧ Ext w w' := by
  by_cases h0 : 0 ≤ x ∧ x < F.q
  all_goals
    go_enter Try.func128, Try.ntmps128
    go_wp2_with (go_at_call 122; refine (gis_calls F b x _).mono ?_; rintro e w3 ⟨rfl, hx⟩; simp only [h0, and_self, decide_true, decide_false])
    go_ret
    exact ⟨ret_int (by simp [inE, h0]), Bel.ext inferInstance⟩

set_option maxRecDepth 100000 in
set_option maxHeartbeats 2000000 in
theorem gneg_calls (F : Fd) (b : Nat) (x : Int) (w : World) [hg : GFp w b F] :
    Calls Try.prog 88 #[.pointer (some ⟨b, 0, none⟩), .int .i64 x] w fun e w' => e = .returned (.int .i64 (F.neg x)) ∧ Ext w w' := by
  obtain ⟨A, n, c, ge, ce, gl, cl, ex, lg, hbx, -, -, -, -, hm⟩ := hg.out
  have hG := hm.shape.good
  have hp := hG.p2
  have hp2 := hG.p256
  have hP := hidd hG
  obtain ⟨X, hX⟩ : ∃ X, X = inE F.q x := ⟨_, rfl⟩
  have hX0 : 0 ≤ X ∧ X < F.q := by rw [hX]; exact inE_bound (by have := hG.q2; omega)
  have hX1 : 0 ≤ X := hX0.1
  have hX2 : X ≤ 256 := by have := hX0.2; have := hG.q; have := hG.pm; omega
  have hX3 := hidd hX0.2
  have hR := hidd (neg_sum F x)
  obtain ⟨p, hpd⟩ : ∃ p, p = F.p := ⟨_, rfl⟩
  rw [← hpd] at hp hp2 hbx
  have HP := hidd hpd
  have hfb : ∀ i, 0 ≤ negF p X i ∧ negF p X i < p := fun i => ⟨Int.emod_nonneg _ (by omega), Int.emod_lt_of_pos _ (by omega)⟩
  have HF := hidd hfb
  have HXE := hidd hX
  clear hm hG hX0 hpd hfb
  go_enter Try.func88, Try.ntmps88
  go_wp2_with (go_at_call 128; refine (gin_calls F b x _).mono ?_; rintro e w3 ⟨rfl, hx⟩)
  rw [← hX]
  clear hX
  have hbx3 : Bx w3 b _ _ := inferInstance
  have hb3 : Bel w w3 := inferInstance
  clear hx
  go_loopw [1, 5, 6] (fun xv ov pv wr => ∃ (k : Nat) (y o q : Int), xv = .int .i64 y ∧ ov = .int .i64 o ∧ pv = .int .i64 q ∧ 0 ≤ y ∧ y ≤ 256 ∧ Bel w wr ∧ Hid (k ≤ F.m.toNat ∧ y = X / p ^ k ∧ o = sumN p (negF p X) k ∧ q = p ^ k)) (fun xv _ _ _ => (intOf xv).toNat)
  case atStart => exact ⟨0, X, 0, 1, rfl, rfl, rfl, hX1, hX2, inferInstance, by omega, by simp, rfl, by simp⟩
  case round =>
    obtain ⟨k, y, o, q, rfl, rfl, rfl, hy0, hy1, hB, HI⟩ := hrel
    have hbw : Bx wr b _ _ := inferInstance
    by_cases hlt : 0 < y
    · have hk : k < F.m.toNat := by
        rcases Nat.lt_or_ge k F.m.toNat with h | h
        · exact h
        · exfalso
          have h1 : X < p ^ k := by
            have h2 := hP.out.q
            have := pow_mono (p := p) (by omega) h
            have := hX3.out
            rw [HP.out] at *; omega
          have := Int.ediv_eq_zero_of_lt hX1 h1
          rw [← HI.out.2.1] at this; omega
      have hqb : 1 ≤ q ∧ q * p ≤ 256 := by
        rw [HI.out.2.2.2, ← Int.pow_succ]
        refine ⟨Int.pow_pos (by omega), Int.le_trans (pow_mono (by omega) hk) ?_⟩
        rw [HP.out]; exact hP.out.pm
      have hob := sumN_bound (show 1 ≤ p by omega) HF.out k
      have hob1 := sumN_bound (show 1 ≤ p by omega) HF.out (k + 1)
      rw [← HI.out.2.2.1, ← HI.out.2.2.2] at hob
      have es : sumN p (negF p X) (k + 1) = o + (p - y % p) % p * q := by
        rw [sumN, ← HI.out.2.2.1, negF, ← HI.out.2.1, ← HI.out.2.2.2]
      rw [es, Int.pow_succ, ← HI.out.2.2.2] at hob1
      have hd0 : 0 ≤ y % p := Int.emod_nonneg _ (by omega)
      have hd1 : y % p < p := Int.emod_lt_of_pos _ (by omega)
      obtain ⟨d, hd⟩ : ∃ d, d = (p - y % p) % p := ⟨_, rfl⟩
      rw [← hd] at es hob1
      have hd2 : 0 ≤ d := by rw [hd]; exact Int.emod_nonneg _ (by omega)
      have hd3 : d < p := by rw [hd]; exact Int.emod_lt_of_pos _ (by omega)
      have hq1 : q ≤ 256 := by
        have := Int.mul_le_mul (Int.le_refl q) (show 1 ≤ p by omega) (by omega) (by omega)
        omega
      have hd4 : 0 ≤ d * q := Int.mul_nonneg hd2 (by omega)
      have hd5 : d * q ≤ 256 * 256 := Int.mul_le_mul (by omega) hq1 (by omega) (by omega)
      have hy2 : 0 ≤ y / p := Int.ediv_nonneg hy0 (by omega)
      have hy3 : y / p < y := Int.ediv_lt_self_of_pos_of_ne_one hlt (by omega)
      have hqp : 0 ≤ q * p := Int.mul_nonneg (by omega) (by omega)
      have ey := hidd (div_pow_succ X p (by omega) k)
      have e0 : ¬ p = 0 := by omega
      have e1 : y.tmod p = y % p := Int.tmod_eq_emod_of_nonneg hy0
      have e2 : IntKind.i64.wrap (p - y % p) = p - y % p := wr_in (by omega) (by omega)
      have e3 : (p - y % p).tmod p = d := by rw [hd]; exact Int.tmod_eq_emod_of_nonneg (by omega)
      have e4 : IntKind.i64.wrap (d * q) = d * q := wr_in (by omega) (by omega)
      have e5 : IntKind.i64.wrap (o + d * q) = o + d * q := wr_in (by omega) (by omega)
      have e6 : IntKind.i64.wrap (q * p) = q * p := wr_in (by omega) (by omega)
      have e7 : y.tdiv p = y / p := Int.tdiv_eq_ediv_of_nonneg hy0
      have e8 : IntKind.i64.wrap (y % p) = y % p := wr_in (by omega) (by omega)
      have e9 : IntKind.i64.wrap d = d := wr_in (by omega) (by omega)
      have e10 : IntKind.i64.wrap (y / p) = y / p := wr_in (by omega) (by omega)
      clear hd
      have ES := hidd es
      clear es hob hob1
      go_wp2
      go_quiet (fail)
      go_wp2
      clear e0 e1 e2 e3 e4 e5 e6 e7 e8 e9 e10
      go_roundw
      case rel => exact ⟨k + 1, y / p, _, q * p, rfl, rfl, rfl, hy2, by omega, inferInstance, by omega, by rw [HI.out.2.1]; exact ey.out, ES.out.symm, by rw [HI.out.2.2.2, Int.pow_succ]⟩
      case measure => simp [intOf] <;> omega
    · obtain rfl : y = 0 := by omega
      go_wp2
      go_ret
      refine ⟨ret_int ?_, Bel.ext inferInstance⟩
      rw [hR.out, ← HXE.out, ← HP.out, HI.out.2.2.1, sumN_stop p _ _ HI.out.1 fun i h1 _ => ?_]
      rw [negF, div_pow_zero (by omega) hX1 HI.out.2.1.symm h1]; simp

end Go.Proofs.Ytcigdhmecfhndaa

namespace Go.Proofs.Ytcigdhmecfhndaa
open Go.RowKit
attribute [local go_sem] cell_bx froz_bx cell_own froz_own cell_rd cell_cel ints_get ints_set
set_option linter.unusedVariables false
set_option linter.unusedSimpArgs false

theorem xor_mod2 (a b : Nat) : (a ^^^ b) % 2 = (a % 2 + b % 2) % 2 := by
  have h := Nat.xor_mod_two_pow (a := a) (b := b) (n := 1)
  simp only [Nat.pow_one] at h
  rw [h]
  rcases Nat.mod_two_eq_zero_or_one a with h1 | h1 <;> rcases Nat.mod_two_eq_zero_or_one b with h2 | h2 <;> rw [h1, h2] <;> rfl
theorem xor_sum (x y : Nat) : ∀ n, sumN 2 (addF 2 x y) n = (((x ^^^ y) % 2 ^ n : Nat) : Int)
  | 0 => by simp [sumN, Nat.mod_one]
  | n + 1 => by
    rw [sumN, xor_sum x y n, Nat.mod_pow_succ, Nat.xor_div_two_pow, xor_mod2, addF]
    push_cast
    rw [Int.mul_comm]
theorem xor_i64 (a b : Int) (h1 : 0 ≤ a) (h2 : a ≤ 256) (h3 : 0 ≤ b) (h4 : b ≤ 256) : bits .xor .i64 a b = ((a.toNat ^^^ b.toNat : Nat) : Int) := by
  obtain ⟨x, rfl⟩ := Int.eq_ofNat_of_zero_le h1
  obtain ⟨y, rfl⟩ := Int.eq_ofNat_of_zero_le h3
  have hx : x ^^^ y < 2 ^ 9 := Nat.xor_lt_two_pow (by omega) (by omega)
  simp only [bits, Int.toNat_natCast, BitVec.ofInt_natCast, BitVec.toNat_xor, BitVec.toNat_ofNat]
  rw [show IntKind.i64.bits = 64 from rfl, Nat.mod_eq_of_lt (by omega), Nat.mod_eq_of_lt (by omega)]
  exact wr_in (by omega) (by omega)

set_option maxRecDepth 100000 in
set_option maxHeartbeats 2000000 in
theorem gadd_calls (F : Fd) (b : Nat) (x y : Int) (w : World) [hg : GFp w b F] :
    Calls Try.prog 106 #[.pointer (some ⟨b, 0, none⟩), .int .i64 x, .int .i64 y] w fun e w' => e = .returned (.int .i64 (F.add x y)) ∧ Ext w w' := by
  obtain ⟨A, n, c, ge, ce, gl, cl, ex, lg, hbx, -, -, -, -, hm⟩ := hg.out
  have hG := hm.shape.good
  have hp := hG.p2
  have hp2 := hG.p256
  have hP := hidd hG
  obtain ⟨X, hX⟩ : ∃ X, X = inE F.q x := ⟨_, rfl⟩
  obtain ⟨Y, hY⟩ : ∃ Y, Y = inE F.q y := ⟨_, rfl⟩
  have hX0 : 0 ≤ X ∧ X < F.q := by rw [hX]; exact inE_bound (by have := hG.q2; omega)
  have hY0 : 0 ≤ Y ∧ Y < F.q := by rw [hY]; exact inE_bound (by have := hG.q2; omega)
  have hX1 : 0 ≤ X := hX0.1
  have hY1 : 0 ≤ Y := hY0.1
  have hX2 : X ≤ 256 := by have := hX0.2; have := hG.q; have := hG.pm; omega
  have hY2 : Y ≤ 256 := by have := hY0.2; have := hG.q; have := hG.pm; omega
  have hX3 := hidd hX0.2
  have hY3 := hidd hY0.2
  have hR := hidd (add_sum F x y)
  obtain ⟨p, hpd⟩ : ∃ p, p = F.p := ⟨_, rfl⟩
  rw [← hpd] at hp hp2 hbx
  have HP := hidd hpd
  have hfb : ∀ i, 0 ≤ addF p X Y i ∧ addF p X Y i < p := fun i => ⟨Int.emod_nonneg _ (by omega), Int.emod_lt_of_pos _ (by omega)⟩
  have HF := hidd hfb
  have HXE := hidd (And.intro hX hY)
  clear hm hG hX0 hY0 hpd hfb
  by_cases hp2' : p = 2
  · subst hp2'
    have ex : bits .xor .i64 X Y = ((X.toNat ^^^ Y.toNat : Nat) : Int) := xor_i64 X Y hX1 hX2 hY1 hY2
    go_enter Try.func106, Try.ntmps106
    go_wp2_with (first
      | (go_at_call_of 128 (Value.int .i64 x); refine (gin_calls F b x _).mono ?_; rintro e w3 ⟨rfl, hx⟩; rw [← hX]; clear hX)
      | (go_at_call 128; refine (gin_calls F b y _).mono ?_; rintro e w4 ⟨rfl, hx4⟩; rw [← hY]; clear hY))
    go_ret
    refine ⟨ret_int ?_, Bel.ext inferInstance⟩
    have hxs := xor_sum X.toNat Y.toNat F.m.toNat
    rw [Int.toNat_of_nonneg hX1, Int.toNat_of_nonneg hY1] at hxs
    rw [hR.out, ← HXE.out.1, ← HXE.out.2, ← HP.out, hxs, Nat.mod_eq_of_lt]
    have h2 := hP.out.q
    have h3 := hX3.out
    have h4 := hY3.out
    rw [h2, ← HP.out] at h3 h4
    exact Nat.xor_lt_two_pow (by have : (X.toNat : Int) < ((2 ^ F.m.toNat : Nat) : Int) := by push_cast; omega
                                 omega) (by have : (Y.toNat : Int) < ((2 ^ F.m.toNat : Nat) : Int) := by push_cast; omega
                                            omega)
  · have hpb : (p == 2) = false := beq_eq_false_iff_ne.2 hp2'
    go_enter Try.func106, Try.ntmps106
    go_wp2_with (first
      | (go_at_call_of 128 (Value.int .i64 x); refine (gin_calls F b x _).mono ?_; rintro e w3 ⟨rfl, hx⟩; rw [← hX]; clear hX)
      | (go_at_call 128; refine (gin_calls F b y _).mono ?_; rintro e w4 ⟨rfl, hx4⟩; rw [← hY]; clear hY))
    have hb4 : Bel w w4 := inferInstance
    clear hx hx4 hp2' hpb
    go_loopw [1, 2, 7, 8] (fun xv yv ov pv wr => ∃ (k : Nat) (y z o q : Int), xv = .int .i64 y ∧ yv = .int .i64 z ∧ ov = .int .i64 o ∧ pv = .int .i64 q ∧ 0 ≤ y ∧ y ≤ 256 ∧ 0 ≤ z ∧ z ≤ 256 ∧ Bel w wr ∧ Hid (k ≤ F.m.toNat ∧ y = X / p ^ k ∧ z = Y / p ^ k ∧ o = sumN p (addF p X Y) k ∧ q = p ^ k)) (fun xv yv _ _ _ => (intOf xv).toNat + (intOf yv).toNat)
    case atStart => exact ⟨0, X, Y, 0, 1, rfl, rfl, rfl, rfl, hX1, hX2, hY1, hY2, inferInstance, by omega, by simp, by simp, rfl, by simp⟩
    case round =>
      obtain ⟨k, y, z, o, q, rfl, rfl, rfl, rfl, hy0, hy1, hz0, hz1, hB, HI⟩ := hrel
      have hbw : Bx wr b _ _ := inferInstance
      by_cases hlt : 0 < y ∨ 0 < z
      · have hk : k < F.m.toNat := by
          rcases Nat.lt_or_ge k F.m.toNat with h | h
          · exact h
          · exfalso
            have h2 := hP.out.q
            have h5 := pow_mono (p := p) (by omega) h
            rw [← HP.out] at h2
            have h3 := hX3.out
            have h4 := hY3.out
            have h6 := Int.ediv_eq_zero_of_lt hX1 (show X < p ^ k by omega)
            have h7 := Int.ediv_eq_zero_of_lt hY1 (show Y < p ^ k by omega)
            rw [← HI.out.2.1] at h6
            rw [← HI.out.2.2.1] at h7
            omega
        have hqb : 1 ≤ q ∧ q * p ≤ 256 := by
          rw [HI.out.2.2.2.2, ← Int.pow_succ]
          refine ⟨Int.pow_pos (by omega), Int.le_trans (pow_mono (by omega) hk) ?_⟩
          rw [HP.out]; exact hP.out.pm
        have hob := sumN_bound (show 1 ≤ p by omega) HF.out k
        rw [← HI.out.2.2.2.1, ← HI.out.2.2.2.2] at hob
        have es : sumN p (addF p X Y) (k + 1) = o + (y % p + z % p) % p * q := by
          rw [sumN, ← HI.out.2.2.2.1, addF, ← HI.out.2.1, ← HI.out.2.2.1, ← HI.out.2.2.2.2]
        have hd0 : 0 ≤ y % p := Int.emod_nonneg _ (by omega)
        have hd1 : y % p < p := Int.emod_lt_of_pos _ (by omega)
        have hc0 : 0 ≤ z % p := Int.emod_nonneg _ (by omega)
        have hc1 : z % p < p := Int.emod_lt_of_pos _ (by omega)
        obtain ⟨d, hd⟩ : ∃ d, d = (y % p + z % p) % p := ⟨_, rfl⟩
        rw [← hd] at es
        have hd2 : 0 ≤ d := by rw [hd]; exact Int.emod_nonneg _ (by omega)
        have hd3 : d < p := by rw [hd]; exact Int.emod_lt_of_pos _ (by omega)
        have hq1 : q ≤ 256 := by
          have := Int.mul_le_mul (Int.le_refl q) (show 1 ≤ p by omega) (by omega) (by omega)
          omega
        have hd4 : 0 ≤ d * q := Int.mul_nonneg hd2 (by omega)
        have hd5 : d * q ≤ 256 * 256 := Int.mul_le_mul (by omega) hq1 (by omega) (by omega)
        have hy2 : 0 ≤ y / p := Int.ediv_nonneg hy0 (by omega)
        have hy3 : y / p ≤ y := Int.ediv_le_self _ hy0
        have hz2 : 0 ≤ z / p := Int.ediv_nonneg hz0 (by omega)
        have hz3 : z / p ≤ z := Int.ediv_le_self _ hz0
        have hyz : y / p + z / p < y + z := by
          rcases hlt with h | h
          · have : y / p < y := Int.ediv_lt_self_of_pos_of_ne_one h (by omega)
            omega
          · have : z / p < z := Int.ediv_lt_self_of_pos_of_ne_one h (by omega)
            omega
        have hqp : 0 ≤ q * p := Int.mul_nonneg (by omega) (by omega)
        have ey := hidd (And.intro (div_pow_succ X p (by omega) k) (div_pow_succ Y p (by omega) k))
        have e0 : ¬ p = 0 := by omega
        have e1 : y.tmod p = y % p := Int.tmod_eq_emod_of_nonneg hy0
        have f1 : z.tmod p = z % p := Int.tmod_eq_emod_of_nonneg hz0
        have e2 : IntKind.i64.wrap (y % p + z % p) = y % p + z % p := wr_in (by omega) (by omega)
        have e3 : (y % p + z % p).tmod p = d := by rw [hd]; exact Int.tmod_eq_emod_of_nonneg (by omega)
        have e4 : IntKind.i64.wrap (d * q) = d * q := wr_in (by omega) (by omega)
        have e5 : IntKind.i64.wrap (o + d * q) = o + d * q := wr_in (by omega) (by omega)
        have e6 : IntKind.i64.wrap (q * p) = q * p := wr_in (by omega) (by omega)
        have e7 : y.tdiv p = y / p := Int.tdiv_eq_ediv_of_nonneg hy0
        have f7 : z.tdiv p = z / p := Int.tdiv_eq_ediv_of_nonneg hz0
        have e8 : IntKind.i64.wrap (y % p) = y % p := wr_in (by omega) (by omega)
        have f8 : IntKind.i64.wrap (z % p) = z % p := wr_in (by omega) (by omega)
        have e9 : IntKind.i64.wrap d = d := wr_in (by omega) (by omega)
        have e10 : IntKind.i64.wrap (y / p) = y / p := wr_in (by omega) (by omega)
        have f10 : IntKind.i64.wrap (z / p) = z / p := wr_in (by omega) (by omega)
        have ES := hidd es
        clear es hob hd
        by_cases hl1 : 0 < y
        all_goals
          clear hlt
          first | have hl2 : 0 < z := by omega | skip
          go_wp2
          go_quiet (fail)
          go_wp2
          clear e0 e1 e2 e3 e4 e5 e6 e7 e8 e9 e10 f1 f7 f8 f10
          go_roundw
          case rel => exact ⟨k + 1, y / p, z / p, _, q * p, rfl, rfl, rfl, rfl, hy2, by omega, hz2, by omega, inferInstance, by omega, by rw [HI.out.2.1]; exact ey.out.1, by rw [HI.out.2.2.1]; exact ey.out.2, ES.out.symm, by rw [HI.out.2.2.2.2, Int.pow_succ]⟩
          case measure => simp [intOf] <;> omega
      · obtain rfl : y = 0 := by omega
        obtain rfl : z = 0 := by omega
        clear hlt
        go_wp2
        go_ret
        refine ⟨ret_int ?_, Bel.ext inferInstance⟩
        rw [hR.out, ← HXE.out.1, ← HXE.out.2, ← HP.out, HI.out.2.2.2.1, sumN_stop p _ _ HI.out.1 fun i h1 _ => ?_]
        rw [addF, div_pow_zero (by omega) hX1 HI.out.2.1.symm h1, div_pow_zero (by omega) hY1 HI.out.2.2.1.symm h1]; simp

set_option maxHeartbeats 1000000 in
theorem gsub_calls (F : Fd) (b : Nat) (x y : Int) (w : World) [hg : GFp w b F] :
    Calls Try.prog 149 #[.pointer (some ⟨b, 0, none⟩), .int .i64 x, .int .i64 y] w fun e w' => e = .returned (.int .i64 (F.sub x y)) ∧ Ext w w' := by
  go_enter Try.func149, Try.ntmps149
  go_wp2_with (first
    | (go_at_call 88; refine (gneg_calls F b y _).mono ?_; rintro e w3 ⟨rfl, hx⟩)
    | (go_at_call 106; refine (gadd_calls F b x (F.neg y) _).mono ?_; rintro e w4 ⟨rfl, hx4⟩))
  go_ret
  exact ⟨rfl, Bel.ext inferInstance⟩

end Go.Proofs.Ytcigdhmecfhndaa

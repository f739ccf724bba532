/- The walks of codewrightref04: Order, prime, digits, divides, irreducible. The walks of codewrightref04: irreducible, Check, Is, In, Digits, Value, Add, Neg, Mul, Inv, Dot. The walks of codewrightref04: Mul, Inv, Dot, Check. The walks of codewrightref04: Dot, Check. -/
import Derived.Test.YtcigdhmecfhndaaLib
namespace Go.Proofs.Ytcigdhmecfhndaa
open Go.RowKit
attribute [local go_sem] cell_bx froz_bx cell_own froz_own cell_rd cell_cel ints_get ints_set
set_option linter.unusedVariables false
set_option linter.unusedSimpArgs false

set_option maxRecDepth 100000 in
set_option maxHeartbeats 1000000 in
theorem order_calls (p m : Int) (mv : Value) (w : World) :
    Calls Try.prog 55 #[.agg #[.int .i64 p, .int .i64 m, mv]] w fun e w' => e = .returned (.int .i64 (ordF p m)) ∧ Ext w w' := by
  by_cases h : p < 2 ∨ m < 1 ∨ 8 < m
  · have hf : ordF p m = 0 := by unfold ordF; rw [if_pos h]
    rw [hf]
    clear hf
    rcases h with h | h | h
    all_goals
      go_enter Try.func55, Try.ntmps55
      go_wp2
      all_goals
        go_ret
        exact ⟨rfl, Bel.ext inferInstance⟩
  · have hf : ordF p m = (ordL p m.toNat 1).getD 0 := by unfold ordF; rw [if_neg h]
    have Hf := hidd hf
    clear hf
    have h1 : 2 ≤ p := by omega
    have h2 : 1 ≤ m := by omega
    have h3 : m ≤ 8 := by omega
    clear h
    go_enter Try.func55, Try.ntmps55
    go_wp2
    go_loop [3, 4] (fun q i => ∃ (k : Nat) (qn : Int), i = .int .i64 k ∧ q = .int .i64 qn ∧ (k : Int) ≤ m ∧ 1 ≤ qn ∧ qn ≤ 256 ∧ Hid (ordL p m.toNat 1 = ordL p (m.toNat - k) qn)) (fun _ i => m.toNat - (intOf i).toNat)
    case atStart => exact ⟨0, 1, rfl, rfl, by omega, by omega, by omega, rfl⟩
    case round =>
      obtain ⟨k, qn, rfl, rfl, hk, q1, q2, HR⟩ := hrel
      by_cases hlt : (k : Int) < m
      · by_cases hq : qn > 256 / p
        · go_wp2
          go_ret
          have e : m.toNat - k = (m.toNat - (k + 1)) + 1 := by omega
          refine ⟨?_, Bel.ext inferInstance⟩
          rw [Hf.out, HR.out, e, ordL, if_pos hq]; rfl
        · have hm1 : qn * p ≤ 256 := by
            have := Int.mul_le_of_le_ediv (by omega) (Int.not_lt.1 hq)
            exact this
          have hm0 : 1 ≤ qn * p := by
            have := Int.mul_le_mul q1 (show (1 : Int) ≤ p by omega) (by omega) (by omega)
            omega
          go_wp2
          go_round
          case rel =>
            have e : m.toNat - k = (m.toNat - (k + 1)) + 1 := by omega
            refine ⟨k + 1, qn * p, by go_num, rfl, by omega, hm0, hm1, ?_⟩
            show ordL p m.toNat 1 = _
            rw [HR.out, e, ordL, if_neg hq]
          case measure => simp [intOf]; omega
      · go_wp2
        go_ret
        obtain rfl : m = (k : Int) := by omega
        refine ⟨?_, Bel.ext inferInstance⟩
        rw [Hf.out, HR.out]
        simp [ordL]

set_option maxHeartbeats 1000000 in
theorem prime_calls (n : Int) (w : World) (hn : n ≤ 1000000) :
    Calls Try.prog 112 #[.int .i64 n] w fun e w' => e = .returned (.bool (primeB n)) ∧ w' = w := by
  go_enter Try.func112, Try.ntmps112
  go_wp2
  go_loop [3] (fun i => ∃ k : Int, i = .int .i64 k ∧ 2 ≤ k ∧ (k ≤ n ∨ n < 2) ∧ Hid (∀ d : Int, 2 ≤ d → d < k → d < n → n % d ≠ 0)) (fun i => (n - intOf i).toNat)
  case atStart => exact ⟨2, rfl, by omega, by omega, fun d h1 h2 => by omega⟩
  case round =>
    obtain ⟨k, rfl, hk, hk2, HI⟩ := hrel
    by_cases hlt : k < n
    · have hn0 : 0 ≤ n := by omega
      by_cases hd : n % k = 0
      · have hd' : (n % k == 0) = true := beq_iff_eq.2 hd
        have HD := hidd hd
        clear hd
        go_wp2
        go_ret
        exact ⟨ret_bool (primeB_no fun h => h k hk hlt HD.out).symm, rfl⟩
      · go_wp2
        go_round
        case rel => exact ⟨k + 1, by go_num, by omega, by omega, fun d h1 h2 h3 => by
          by_cases e : d = k
          · rw [e]; exact hd
          · exact HI.out d h1 (by omega) h3⟩
        case measure => simp [intOf]; omega
    · go_wp2
      go_ret
      exact ⟨ret_bool (primeB_yes fun d h1 h2 => HI.out d h1 (by omega) h2).symm, rfl⟩

set_option maxRecDepth 100000 in
set_option maxHeartbeats 1000000 in
theorem digits_calls (x p : Int) (n : Nat) (w : World) (hx : 0 ≤ x) (hx2 : x ≤ 4611686018427387904) (hp : 1 ≤ p) (hp2 : p ≤ 4611686018427387904) (hn : n ≤ 100000) :
    Calls Try.prog 138 #[.int .i64 x, .int .i64 p, .int .i64 n] w fun e w' => ∃ g, e = .returned (.slice (some ⟨g, 0, none⟩) n n) ∧ Fr w g ∧ Own w' g (digL x p n) ∧ Ext w w' := by
  have hmk := mk_int n (by omega)
  go_enter Try.func138, Try.ntmps138
  go_wp2
  go_loopw [0, 8] (fun xv i wr => ∃ (k : Nat) (y : Int) (zs : List Int), k ≤ n ∧ i = .int .i64 k ∧ xv = .int .i64 y ∧ 0 ≤ y ∧ y ≤ x ∧ Bel w wr ∧ Own wr w.heap.size zs ∧ Hid (zs = part n (digF x p) k ∧ y = x / p ^ k)) (fun _ i _ => n - (intOf i).toNat)
  case atStart => exact ⟨0, x, _, by omega, rfl, rfl, hx, by omega, inferInstance, inferInstance, part_zero _ _, by simp⟩
  case round =>
    obtain ⟨k, y, zs, hk, rfl, rfl, hy0, hy1, hB, ho, HI⟩ := hrel
    by_cases hlt : k < n
    · have hko : In k zs.length := ⟨by rw [HI.out.1, part_length]; exact hlt⟩
      have hko' := hko.out
      have hd0 : 0 ≤ y / p := Int.ediv_nonneg hy0 (by omega)
      have hd1 : y / p ≤ y := Int.ediv_le_self _ hy0
      go_wp2
      go_roundw
      case rel =>
        refine ⟨k + 1, y / p, _, by omega, by go_num, rfl, hd0, by omega, inferInstance, inferInstance, ?_, ?_⟩
        · rw [HI.out.1]; exact part_set _ _ _ _ hlt (by rw [HI.out.2]; rfl)
        · rw [HI.out.2, Int.pow_succ, Int.ediv_ediv_of_nonneg (Int.pow_nonneg (by omega))]
      case measure => simp [intOf]; omega
    · go_wp2
      go_ret
      obtain rfl : k = n := by omega
      rw [HI.out.1, part_full] at ho
      exact ⟨_, rfl, inferInstance, ho, hB.ext⟩

set_option maxRecDepth 100000 in
set_option maxHeartbeats 2000000 in
theorem divides_calls (low md : List Int) (p : Int) (A B : Option Addr) (nA cA nB cB : Nat) (w : World) (hnA : low.length = nA) (hnB : md.length = nB) [hA : Sl w A low] [hB : Sl w B md] (hp : 2 ≤ p) (hp2 : p ≤ 256)
    (hl0 : 1 ≤ low.length) (hl : low.length ≤ md.length) (hm : md.length ≤ 8) (hb1 : Res p low) (hb2 : Res p md) :
    Calls Try.prog 137 #[.slice A nA cA, .slice B nB cB, .int .i64 p] w fun e w' => e = .returned (.bool (dividesB low md p)) ∧ Ext w w' := by
  subst hnA hnB
  go_enter Try.func137, Try.ntmps137
  go_wp2_with (first
    | (at_builtin; refine app_ints rfl (.tmp 15) (.tmp 16) rfl (.slice (some ⟨w.heap.size, 0, none⟩) 0 0) [] md B _ cB rfl rfl rfl (by simp; omega) ?_; intro v1 w1 hr1 hc1 hv1; simp only [List.nil_append] at hr1; have hf1 : FrV w v1 := FrV.app hv1)
    | (at_builtin; refine app_int rfl (.tmp 18) (.tmp 19) rfl v1 md 1 w1.heap.size rfl rfl (by omega) ?_; intro v2 w2 hr2 hc2 hv2; have hf2 : FrV w v2 := FrV.app hv2; have hb3 : Bel w w2 := inferInstance; obtain ⟨g, cap, rfl, hcap, ho⟩ := hr2.own (by simp); clear hr2 hc2 hv2 hr1 hc1 hv1; have hg := hf2.fr; clear hf1 hf2))
  obtain ⟨r0, hr0⟩ : ∃ r0, r0 = md ++ [1] := ⟨_, rfl⟩
  rw [← hr0] at ho
  have hlen0 : r0.length = md.length + 1 := by rw [hr0]; simp
  have hres0 : Res p r0 := by
    rw [hr0]; intro k
    by_cases hk : k < md.length
    · have := hb2 k; simp only [gt, List.getD_eq_getElem?_getD, List.getElem?_append_left hk] at this ⊢; exact this
    · by_cases e : k = md.length
      · subst e; simp [gt]; omega
      · rw [gt_out (by simp; omega)]; omega
  have HR0 := hidd (And.intro hlen0 (And.intro hres0 hr0))
  clear hlen0 hres0 hr0 hb2
  go_loopw [9] (fun iv wr => ∃ (t : Nat) (rs : List Int), iv = .int .i64 (md.length - t) ∧ t ≤ md.length + 1 - low.length ∧ Bel w wr ∧ Own wr g rs ∧ Hid (rs = loopN t (divStep low p md.length) r0 ∧ rs.length = md.length + 1 ∧ Res p rs)) (fun iv _ => (intOf iv + 1 - low.length).toNat)
  case atStart => exact ⟨0, r0, by simp, by omega, hb3, ho, rfl, HR0.out.1, HR0.out.2.1⟩
  case round =>
    obtain ⟨t, rs, rfl, ht, hB1, ho1, HI⟩ := hrel
    by_cases hlt : low.length + t ≤ md.length
    · obtain ⟨i, hi⟩ : ∃ i : Nat, i = md.length - t := ⟨_, rfl⟩
      have ei : (md.length : Int) - (t : Int) = (i : Int) := by omega
      rw [ei]
      have hil : i < rs.length := by rw [HI.out.2.1]; omega
      have hin : In i rs.length := ⟨hil⟩
      have hli : low.length ≤ i := by omega
      have hli' : (low.length : Int) ≤ (i : Int) := by omega
      have him : (i : Int) ≤ 8 := by omega
      have him2 : (i : Int) < (md.length : Int) + 1 := by omega
      have HE := hidd (And.intro hi (And.intro hlt ei))
      clear hi ei hlt
      go_wp2
      obtain ⟨c, hc⟩ : ∃ c, c = gt rs i := ⟨_, rfl⟩
      rw [← hc]
      have hc0 : 0 ≤ c ∧ c < p := by rw [hc]; exact HI.out.2.2 i
      have hc1 := hc0.1
      have hc2 := hc0.2
      have HC := hidd hc
      clear hc hc0
      go_loopw [11] (fun jv wr2 => ∃ (j : Nat) (rs2 : List Int), jv = .int .i64 j ∧ j ≤ low.length ∧ Bel w wr2 ∧ Own wr2 g rs2 ∧ Hid (rs2 = loopN j (divIn low p c (i - low.length)) rs ∧ rs2.length = md.length + 1 ∧ Res p rs2)) (fun jv _ => low.length - (intOf jv).toNat)
      case atStart => exact ⟨0, rs, rfl, by omega, hB1, ho1, rfl, HI.out.2⟩
      case round =>
        obtain ⟨j, rs2, rfl, hj, hB2, ho2, HI2⟩ := hrel
        by_cases hjl : j < low.length
        · obtain ⟨ad, rfl, rl⟩ := hA.at_ hjl
          obtain ⟨b, hb⟩ : ∃ b : Nat, b = i - low.length + j := ⟨_, rfl⟩
          have eb : (i : Int) - (low.length : Int) + (j : Int) = (b : Int) := by omega
          have hbl : b < rs2.length := by rw [HI2.out.2.1]; omega
          have hbi : In b rs2.length := ⟨hbl⟩
          have hb8 : (b : Int) < md.length + 1 := by have := HI2.out.2.1; omega
          have hx := HI2.out.2.2 b
          have hx1 := hx.1
          have hx2 := hx.2
          have hy := hb1 j
          have hy1 := hy.1
          have hy2 := hy.2
          have hm0 : 0 ≤ (p - c) * gt low j := Int.mul_nonneg (by omega) hy1
          have hm1 : (p - c) * gt low j ≤ 256 * 256 := Int.mul_le_mul (by omega) (by omega) hy1 (by omega)
          have HB := hidd hb
          clear hb hx hy
          go_wp2
          have e1 : IntKind.i64.wrap ((i : Int) - (low.length : Int)) = ((i - low.length : Nat) : Int) := by rw [wr_in (by omega) (by omega)]; omega
          have e2 : IntKind.i64.wrap (((i - low.length : Nat) : Int) + (j : Int)) = (b : Int) := by rw [wr_in (by omega) (by omega)]; omega
          have e3 : IntKind.i64.wrap (p - c) = p - c := wr_in (by omega) (by omega)
          have e4 : IntKind.i64.wrap ((p - c) * gt low j) = (p - c) * gt low j := wr_in (by omega) (by omega)
          have e5 : IntKind.i64.wrap (gt rs2 b + (p - c) * gt low j) = gt rs2 b + (p - c) * gt low j := wr_in (by omega) (by omega)
          have e6 : (gt rs2 b + (p - c) * gt low j).tmod p = (gt rs2 b + (p - c) * gt low j) % p := Int.tmod_eq_emod_of_nonneg (by omega)
          have e7 : ¬ p = 0 := by omega
          go_still_tail 26, (by kernel_rfl)
          change wpList _ _ _ _ _ wr.drew
          clear e1 e2 e3 e4 e5 e6 e7
          have hr := HI2.out.2.2.divIn (low := low) (show 0 < p by omega) c (i - low.length) j
          have HD := hidd hr
          clear hr
          go_wp2
          go_roundw
          case rel =>
            refine ⟨j + 1, _, by go_num, by omega, inferInstance, inferInstance, ?_, ?_, ?_⟩
            · rw [loopN_succ, ← HI2.out.1, divIn, HB.out]
            · rw [List.length_set]; exact HI2.out.2.1
            · have := HD.out; rw [divIn, ← HB.out] at this; exact this
          case measure => simp [intOf]; omega
        · obtain rfl : j = low.length := by omega
          have hil2 : In i rs2.length := ⟨by rw [HI2.out.2.1]; omega⟩
          have hil3 := hil2.out
          go_wp2
          go_roundw
          case rel =>
            refine ⟨t + 1, _, by have := HE.out.2.2; simp; omega, by have := HE.out.2.1; omega, inferInstance, inferInstance, ?_, ?_, ?_⟩
            · rw [loopN_succ, ← HI.out.1, HI2.out.1, divStep, ← HE.out.1, ← HC.out]
            · rw [List.length_set]; exact HI2.out.2.1
            · exact HI2.out.2.2.set i (by omega) (by omega)
          case measure => have := HE.out; simp [intOf]; omega
    · obtain rfl : t = md.length + 1 - low.length := by omega
      have er : rs = divRest low md p := by rw [HI.out.1, HR0.out.2.2]; rfl
      have hrl := HI.out.2.1
      have ER := hidd er
      have HRL := hidd hrl
      clear er hrl
      go_wp2
      go_loopw [12] (fun jv wr2 => ∃ j : Nat, jv = .int .i64 j ∧ j ≤ md.length + 1 ∧ Bel w wr2 ∧ Own wr2 g rs ∧ Hid (∀ k, k < j → gt rs k = 0)) (fun jv _ => md.length + 1 - (intOf jv).toNat)
      case atStart => exact ⟨0, rfl, by omega, hB1, ho1, fun k hk => absurd hk (by omega)⟩
      case round =>
        obtain ⟨j, rfl, hj, hB2, ho2, HZ⟩ := hrel
        by_cases hjl : (j : Int) < (md.length : Int) + 1
        · have hjr : j < rs.length := by rw [HRL.out]; omega
          by_cases hz : gt rs j = 0
          · have hz1 : (gt rs j != 0) = false := bne_eq_false_iff_eq.2 hz
            have HZ1 := hidd hz
            clear hz
            go_wp2
            go_roundw
            case rel => exact ⟨j + 1, by go_num, by omega, hB2, ho2, fun k hk => by
              by_cases e : k = j
              · rw [e]; exact HZ1.out
              · exact HZ.out k (by omega)⟩
            case measure => simp [intOf]; omega
          · have hz1 : (gt rs j != 0) = true := bne_iff_ne.2 hz
            go_wp2
            go_ret
            exact ⟨ret_bool (by rw [dividesB, ← ER.out]; exact (zeroB_no hjr hz).symm), hB2.ext⟩
        · go_wp2
          go_ret
          exact ⟨ret_bool (by rw [dividesB, ← ER.out]; exact (zeroB_yes fun k hk => HZ.out k (by rw [HRL.out] at hk; omega)).symm), hB2.ext⟩

end Go.Proofs.Ytcigdhmecfhndaa

namespace Go.Proofs.Ytcigdhmecfhndaa
open Go.RowKit
attribute [local go_sem] cell_bx froz_bx cell_own froz_own cell_rd cell_cel ints_get ints_set
set_option linter.unusedVariables false
set_option linter.unusedSimpArgs false

set_option maxRecDepth 100000 in
set_option maxHeartbeats 2000000 in
theorem irreducible_calls (md : List Int) (p : Int) (A : Option Addr) (n c : Nat) (w : World) (hn : md.length = n) [hA : Sl w A md] (hp : 2 ≤ p) (hp2 : p ≤ 256) (hm : md.length ≤ 8) (hq : p ^ md.length ≤ 256) (hb : Res p md) :
    Calls Try.prog 113 #[.slice A n c, .int .i64 p] w fun e w' => e = .returned (.bool (irrB md p)) ∧ Ext w w' := by
  subst hn
  have HQ := hidd hq
  clear hq
  go_enter Try.func113, Try.ntmps113
  go_wp2
  go_loopw [5, 6] (fun cv dv wr => ∃ (d : Nat) (q : Int), dv = .int .i64 d ∧ cv = .int .i64 q ∧ 1 ≤ d ∧ (d : Int) ≤ 10 ∧ 1 ≤ q ∧ q ≤ 256 ∧ Bel w wr ∧ Hid (q = p ^ (d - 1) ∧ 2 * (d - 1) ≤ md.length ∧ ∀ e : Nat, 1 ≤ e → e < d → IrrAt md p e)) (fun _ dv _ => (20 - intOf dv).toNat)
  case atStart => exact ⟨1, 1, rfl, rfl, by omega, by omega, by omega, by omega, inferInstance, by simp, by simp, fun e h1 h2 => by omega⟩
  case round =>
    obtain ⟨d, q, rfl, rfl, hd1, hd2, hq1, hq2, hB, HI⟩ := hrel
    by_cases hlt : 2 * (d : Int) ≤ md.length
    · have hqp : q * p = p ^ d := by
        rw [HI.out.1, ← Int.pow_succ]; congr 1; omega
      have hqd : p ^ d ≤ 256 := Int.le_trans (pow_mono (by omega) (show d ≤ md.length by omega)) HQ.out
      have hqd1 : 1 ≤ p ^ d := Int.pow_pos (by omega)
      obtain ⟨q1, hq1'⟩ : ∃ q1, q1 = q * p := ⟨_, rfl⟩
      have hq3 : 1 ≤ q1 := by rw [hq1', hqp]; exact hqd1
      have hq4 : q1 ≤ 256 := by rw [hq1', hqp]; exact hqd
      have hq5 : 1 ≤ q * p := by rw [← hq1']; exact hq3
      have hq6 : q * p ≤ 256 := by rw [← hq1']; exact hq4
      have HQ1 := hidd (And.intro hq1' hqp)
      clear hqp hqd hqd1 hq1'
      go_wp2
      rw [← HQ1.out.1]
      clear hq5 hq6
      obtain ⟨wo, hwo⟩ : ∃ wo : World, wo = wr := ⟨_, rfl⟩
      go_loopw [7] (fun vv wr2 => ∃ v : Nat, vv = .int .i64 v ∧ (v : Int) ≤ q1 ∧ Bel w wr2 ∧ Hid (∀ u : Nat, u < v → dividesB (digL u p d) md p = false)) (fun vv _ => (q1 - intOf vv).toNat)
      case atStart => exact ⟨0, rfl, by omega, hB, fun u hu => by omega⟩
      case round =>
        obtain ⟨v, rfl, hv, hB2, HV⟩ := hrel
        by_cases hvl : (v : Int) < q1
        · by_cases hdv : dividesB (digL v p d) md p = true
          · go_wp2_with (first
              | (go_at_call 138; refine (digits_calls v p d _ (by omega) (by omega) (by omega) (by omega) (by omega)).mono ?_; rintro e w3 ⟨g, rfl, hg, ho, hx⟩)
              | (go_at_call 137; refine (divides_calls (digL v p d) md p _ _ _ _ _ _ _ (digL_length _ _ _) rfl hp hp2 (by rw [digL_length]; omega) (by rw [digL_length]; omega) hm (digL_res (by omega) _) hb).mono ?_; rintro e w4 ⟨rfl, hx4⟩))
            go_ret
            refine ⟨ret_bool (irrB_no fun h => ?_).symm, Bel.ext inferInstance⟩
            have := h d hd1 (by omega) v (by rw [← HQ1.out.2, ← HQ1.out.1]; exact hvl)
            rw [hdv] at this; cases this
          · have hdv' : dividesB (digL v p d) md p = false := by simpa using hdv
            clear hdv
            go_wp2_with (first
              | (go_at_call 138; refine (digits_calls v p d _ (by omega) (by omega) (by omega) (by omega) (by omega)).mono ?_; rintro e w3 ⟨g, rfl, hg, ho, hx⟩)
              | (go_at_call 137; refine (divides_calls (digL v p d) md p _ _ _ _ _ _ _ (digL_length _ _ _) rfl hp hp2 (by rw [digL_length]; omega) (by rw [digL_length]; omega) hm (digL_res (by omega) _) hb).mono ?_; rintro e w4 ⟨rfl, hx4⟩))
            go_roundw
            case rel => exact ⟨v + 1, by go_num, by omega, inferInstance, fun u hu => by
              by_cases e : u = v
              · rw [e]; exact hdv'
              · exact HV.out u (by omega)⟩
            case measure => simp [intOf] <;> omega
        · go_wp2
          go_roundw
          case rel => exact ⟨d + 1, q1, by go_num, rfl, by omega, by omega, by omega, by omega, hB2, by rw [HQ1.out.1, HQ1.out.2]; congr 1, by omega, fun e h1 h2 => by
            by_cases h : e = d
            · subst h; exact fun u hu => HV.out u (by rw [← HQ1.out.2, ← HQ1.out.1] at hu; omega)
            · exact HI.out.2.2 e h1 (by omega)⟩
          case measure => simp [intOf] <;> omega
    · go_wp2
      go_ret
      exact ⟨ret_bool (irrB_yes fun e h1 h2 => HI.out.2.2 e h1 (by omega)).symm, hB.ext⟩

set_option maxHeartbeats 1000000 in
theorem is_calls (F : Fd) (mv : Value) (x : Int) (w : World) :
    Calls Try.prog 140 #[.agg #[.int .i64 F.p, .int .i64 F.m, mv], .int .i64 x] w fun e w' => e = .returned (.bool (decide (0 ≤ x ∧ x < F.q))) ∧ Ext w w' := by
  by_cases h0 : 0 ≤ x
  · go_enter Try.func140, Try.ntmps140
    go_wp2_with (go_at_call 55; refine (order_calls F.p F.m mv _).mono ?_; rintro e w3 ⟨rfl, hx⟩)
    go_ret
    exact ⟨ret_bool (by simp [h0, Fd.q]), Bel.ext inferInstance⟩
  · go_enter Try.func140, Try.ntmps140
    go_wp2_with (go_at_call 55; refine (order_calls F.p F.m mv _).mono ?_; rintro e w3 ⟨rfl, hx⟩)
    go_ret
    exact ⟨ret_bool (by simp; omega), Bel.ext inferInstance⟩

set_option maxHeartbeats 1000000 in
theorem in_calls (F : Fd) (mv : Value) (x : Int) (w : World) :
    Calls Try.prog 151 #[.agg #[.int .i64 F.p, .int .i64 F.m, mv], .int .i64 x] w fun e w' => e = .returned (.int .i64 (inE F.q x)) ∧ Ext w w' := by
  by_cases h0 : 0 ≤ x ∧ x < F.q
  all_goals
    go_enter Try.func151, Try.ntmps151
    go_wp2_with (go_at_call 140; refine (is_calls F mv x _).mono ?_; rintro e w3 ⟨rfl, hx⟩; simp only [h0, and_self, decide_true, decide_false])
    go_ret
    exact ⟨ret_int (by simp [inE, h0]), Bel.ext inferInstance⟩

set_option maxRecDepth 100000 in
set_option maxHeartbeats 1000000 in
theorem digits2_calls (F : Fd) (mv : Value) (x : Int) (w : World) (hp : 2 ≤ F.p) (hp2 : F.p ≤ 256) (hm : 0 ≤ F.m) (hm2 : F.m ≤ 8) (hq : F.q ≤ 256) :
    Calls Try.prog 129 #[.agg #[.int .i64 F.p, .int .i64 F.m, mv], .int .i64 x] w fun e w' => ∃ g, e = .returned (.slice (some ⟨g, 0, none⟩) F.m.toNat F.m.toNat) ∧ Fr w g ∧ Own w' g (F.dig x) ∧ Ext w w' := by
  obtain ⟨p, m, md⟩ := F
  obtain ⟨M, rfl⟩ : ∃ M : Nat, m = M := ⟨m.toNat, by simp at hm; omega⟩
  have hi0 : 0 ≤ inE (Fd.q ⟨p, M, md⟩) x := by unfold inE; split <;> omega
  have hi1 : inE (Fd.q ⟨p, M, md⟩) x ≤ 256 := by unfold inE; split <;> omega
  simp only at hp hp2 hm hm2
  go_enter Try.func129, Try.ntmps129
  go_wp2
  have hN : Near (w.heap.size + 1) (w.alloc (.cells #[.int .i64 p, .int .i64 M, mv] 24)) (w.alloc (.cells #[.int .i64 p, .int .i64 M, mv] 24)) := ⟨Below.refl _ _⟩
  have hL : Lo (w.heap.size + 1) ((w.alloc (.cells #[.int .i64 p, .int .i64 M, mv] 24)).heap.size + 1) := ⟨by simp⟩
  go_region_held3 (fun w' => Near (w.heap.size + 1) (w.alloc (.cells #[.int .i64 p, .int .i64 M, mv] 24)) w') (infer_instance)
    ((first
      | (go_at_call 151; refine (in_calls ⟨p, M, md⟩ mv x _).mono ?_; rintro e w3 ⟨rfl, hx3⟩)
      | (go_at_call 138; refine (digits_calls (inE (Fd.q ⟨p, M, md⟩) x) p M _ hi0 (by omega) (by omega) (by omega) (by omega)).mono ?_; rintro e w4 ⟨g, rfl, hg, ho, hx4⟩)))
  go_wp2
  go_ret
  have hf : Fr w g := ⟨by have := hg.out; have hb : Bel w w3 := inferInstance; have := hb.out.size; omega⟩
  exact ⟨g, rfl, hf, ho, Bel.ext inferInstance⟩

set_option maxRecDepth 100000 in
set_option maxHeartbeats 1000000 in
theorem value_calls (p : Int) (v1 v2 : Value) (d : List Int) (A : Option Addr) (n c : Nat) (w : World) (hn : d.length = n) [hA : Sl w A d] (hp : 1 ≤ p) (hp2 : p ≤ 256) (hb : ∀ k, k < d.length → 0 ≤ gt d k ∧ gt d k < p) (hq : p ^ d.length ≤ 256) (hl : d.length ≤ 8) :
    Calls Try.prog 130 #[.agg #[.int .i64 p, v1, v2], .slice A n c] w fun e w' => e = .returned (.int .i64 (valL p d)) ∧ Ext w w' := by
  subst hn
  have HQ := hidd hq
  have HBD := hidd hb
  clear hq hb
  go_enter Try.func130, Try.ntmps130
  go_wp2
  go_loopw [5, 6] (fun xv iv wr => ∃ (j : Nat) (x : Int), iv = .int .i64 (j - 1) ∧ xv = .int .i64 x ∧ j ≤ d.length ∧ Bel w wr ∧ Bx wr w.heap.size #[.int .i64 p, v1, v2] 24 ∧ Hid (x = valL p (d.drop j))) (fun _ iv _ => (intOf iv + 1).toNat)
  case atStart => exact ⟨d.length, 0, rfl, rfl, by omega, inferInstance, inferInstance, (by simp [valL] : (0 : Int) = valL p (d.drop d.length))⟩
  case round =>
    obtain ⟨j, x, rfl, rfl, hj, hB, hbx, HI⟩ := hrel
    by_cases hlt : 0 < j
    · obtain ⟨i, rfl⟩ : ∃ i, j = i + 1 := ⟨j - 1, by omega⟩
      have ei : ((i + 1 : Nat) : Int) - 1 = (i : Int) := by omega
      rw [ei]
      have hil : i < d.length := by omega
      obtain ⟨ad, rfl, rd⟩ := hA.at_ hil
      have hin := HBD.out i hil
      have h1 := valL_bound hp (d.drop (i + 1)) fun k hk => by
        have := HBD.out (i + 1 + k) (by simp at hk; omega)
        simpa [gt] using this
      have h2 : p ^ (d.drop (i + 1)).length ≤ 256 := Int.le_trans (pow_mono hp (by simp)) HQ.out
      rw [← HI.out] at h1
      have hx0 := h1.1
      have hx1 : x ≤ 256 := by omega
      have hg0 := hin.1
      have hg1 := hin.2
      have hxp : x * p ≤ 256 * 256 := Int.mul_le_mul hx1 hp2 (by omega) (by omega)
      have hxp0 : 0 ≤ x * p := Int.mul_nonneg hx0 (by omega)
      have e1 : IntKind.i64.wrap (x * p) = x * p := wr_in (by omega) (by omega)
      have e2 : IntKind.i64.wrap (x * p + gt d i) = x * p + gt d i := wr_in (by omega) (by omega)
      clear h1 h2 hin ei
      go_wp2
      go_quiet (fail)
      clear e1 e2
      go_wp2
      go_roundw
      case rel => exact ⟨i, x * p + gt d i, by simp, rfl, by omega, inferInstance, inferInstance, by show x * p + gt d i = _; rw [HI.out, valL_drop p d hil]⟩
      case measure => simp [intOf] <;> omega
    · obtain rfl : j = 0 := by omega
      go_wp2
      go_ret
      exact ⟨ret_int (by rw [HI.out, List.drop_zero]), hB.ext⟩

set_option maxRecDepth 100000 in
set_option maxHeartbeats 1000000 in
theorem add_calls (F : Fd) (mv : Value) (x y : Int) (w : World) (hG : F.Good) :
    Calls Try.prog 89 #[.agg #[.int .i64 F.p, .int .i64 F.m, mv], .int .i64 x, .int .i64 y] w fun e w' => e = .returned (.int .i64 (F.add x y)) ∧ Ext w w' := by
  obtain ⟨p, m, md⟩ := F
  obtain ⟨M, rfl⟩ : ∃ M : Nat, m = M := ⟨m.toNat, by have := hG.m1; simp at this; omega⟩
  have hp := hG.p2
  have hp2 := hG.p256
  have hm1 := hG.m1
  have hm2 := hG.m8
  have hqq := hG.q
  have hpm := hG.pm
  simp only [Int.toNat_natCast] at hp hp2 hm1 hm2 hqq hpm
  have HP := hidd (And.intro hqq hpm)
  have hq : (Fd.mk p M md).q ≤ 256 := by rw [hqq]; exact hpm
  obtain ⟨dx, hdx⟩ : ∃ l, l = (Fd.mk p M md).dig x := ⟨_, rfl⟩
  obtain ⟨dy, hdy⟩ : ∃ l, l = (Fd.mk p M md).dig y := ⟨_, rfl⟩
  have hxl : dx.length = M := by rw [hdx]; exact digL_length _ _ _
  have hyl : dy.length = M := by rw [hdy]; exact digL_length _ _ _
  have hxr : Res p dx := by rw [hdx]; exact digL_res (by omega) _
  have hyr : Res p dy := by rw [hdy]; exact digL_res (by omega) _
  have HX := hidd (And.intro hdx (And.intro hdy (And.intro hxl hyl)))
  clear hqq hpm hxl hyl
  go_enter Try.func89, Try.ntmps89
  go_wp2_with fail
  refine (digits2_calls ⟨p, M, md⟩ mv x _ hp hp2 (by simp) hm2 hq).mono ?_
  rintro e w1 ⟨g, rfl, hg, ho, hx1⟩
  simp only [Int.toNat_natCast] at ho ⊢
  rw [← hdx] at ho
  have hg1 : Lo w.heap.size g := ⟨by have := hg.out; simp at this; omega⟩
  go_wp2_with fail
  refine (digits2_calls ⟨p, M, md⟩ mv y _ hp hp2 (by simp) hm2 hq).mono ?_
  rintro e w2 ⟨g2, rfl, hg2, ho2, hx2⟩
  simp only [Int.toNat_natCast] at ho2 ⊢
  rw [← hdy] at ho2
  have hap : Apart g2 g := ⟨by obtain ⟨sp, e⟩ := ho.out; have := blk_lt e; have := hg2.out; omega⟩
  have hap2 : Apart w.heap.size g := ⟨by have := hg1.out; omega⟩
  have hfg : Fr w g := ⟨by have := hg1.out; omega⟩
  clear hdx hdy
  go_wp2
  have ho1 : Own w2 g dx := inferInstance
  have hb1 : Bel w w2 := inferInstance
  have hbx1 : Bx w2 w.heap.size #[.int .i64 p, .int .i64 M, mv] 24 := inferInstance
  clear hx1 hx2 ho hg
  go_loopw [9] (fun iv wr => ∃ (k : Nat) (zs : List Int), iv = .int .i64 k ∧ k ≤ M ∧ Bel w wr ∧ Bx wr w.heap.size #[.int .i64 p, .int .i64 M, mv] 24 ∧ Own wr g2 dy ∧ Own wr g zs ∧ Hid (zs = mixL M (fun i => (gt dx i + gt dy i) % p) (gt dx) k)) (fun iv _ => M - (intOf iv).toNat)
  case atStart => exact ⟨0, dx, rfl, by omega, hb1, hbx1, ho2, ho1, by
    show dx = _
    rw [mixL_zero]; exact ext_gt (by rw [mkL_length]; exact HX.out.2.2.1) fun k hk => by rw [gt_mkL (by rw [← HX.out.2.2.1]; exact hk)]⟩
  case round =>
    obtain ⟨k, zs, rfl, hk, hB, hbx, hoy, hoz, HI⟩ := hrel
    by_cases hlt : k < M
    · have hky : k < dy.length := by rw [HX.out.2.2.2]; exact hlt
      have hkz : k < zs.length := by rw [HI.out, mixL_length]; exact hlt
      have hin : In k zs.length := ⟨hkz⟩
      have hzk : gt zs k = gt dx k := by rw [HI.out, gt_mixL hlt, if_neg (by omega)]
      have h1 := (hxr k).1
      have h2 := (hxr k).2
      have h3 := (hyr k).1
      have h4 := (hyr k).2
      rw [← hzk] at h1 h2
      have HZ := hidd hzk
      clear hzk
      have e1 : IntKind.i64.wrap (gt zs k + gt dy k) = gt zs k + gt dy k := wr_in (by omega) (by omega)
      have e2 : (gt zs k + gt dy k).tmod p = (gt zs k + gt dy k) % p := Int.tmod_eq_emod_of_nonneg (by omega)
      have e3 : ¬ p = 0 := by omega
      go_wp2
      go_still_tail 15, (by kernel_rfl)
      change wpList _ _ _ _ _ wr.drew
      clear e1 e2 e3
      go_wp2
      go_roundw
      case rel => exact ⟨k + 1, _, by go_num, by omega, inferInstance, inferInstance, inferInstance, inferInstance, by rw [HI.out]; exact mixL_set _ _ _ _ _ hlt (by rw [← HI.out, HZ.out])⟩
      case measure => simp [intOf] <;> omega
    · obtain rfl : k = M := by omega
      have hzs : zs = mkL k (fun i => (gt dx i + gt dy i) % p) := by rw [HI.out, mixL_full]
      have HS := hidd hzs
      clear hzs
      have hzl : zs.length = k := by rw [HS.out, mkL_length]
      go_wp2_with (go_at_call 130; refine (value_calls p _ _ zs _ _ _ _ hzl (by omega) hp2 (fun j hj => by rw [HS.out, gt_mkL (by omega)]; exact ⟨Int.emod_nonneg _ (by omega), Int.emod_lt_of_pos _ (by omega)⟩) (by rw [hzl]; exact HP.out.2) (by omega)).mono ?_; rintro e w3 ⟨rfl, hx⟩)
      go_ret
      exact ⟨ret_int (by rw [HS.out, HX.out.1, HX.out.2.1]; rfl), Bel.ext inferInstance⟩

set_option maxRecDepth 100000 in
set_option maxHeartbeats 1000000 in
theorem neg_calls (F : Fd) (mv : Value) (x : Int) (w : World) (hG : F.Good) :
    Calls Try.prog 91 #[.agg #[.int .i64 F.p, .int .i64 F.m, mv], .int .i64 x] w fun e w' => e = .returned (.int .i64 (F.neg x)) ∧ Ext w w' := by
  obtain ⟨p, m, md⟩ := F
  obtain ⟨M, rfl⟩ : ∃ M : Nat, m = M := ⟨m.toNat, by have := hG.m1; simp at this; omega⟩
  have hp := hG.p2
  have hp2 := hG.p256
  have hm1 := hG.m1
  have hm2 := hG.m8
  have hqq := hG.q
  have hpm := hG.pm
  simp only [Int.toNat_natCast] at hp hp2 hm1 hm2 hqq hpm
  have HP := hidd (And.intro hqq hpm)
  have hq : (Fd.mk p M md).q ≤ 256 := by rw [hqq]; exact hpm
  obtain ⟨dx, hdx⟩ : ∃ l, l = (Fd.mk p M md).dig x := ⟨_, rfl⟩
  have hxl : dx.length = M := by rw [hdx]; exact digL_length _ _ _
  have hxr : Res p dx := by rw [hdx]; exact digL_res (by omega) _
  have HX := hidd (And.intro hdx hxl)
  clear hqq hpm hxl
  go_enter Try.func91, Try.ntmps91
  go_wp2_with fail
  refine (digits2_calls ⟨p, M, md⟩ mv x _ hp hp2 (by simp) hm2 hq).mono ?_
  rintro e w1 ⟨g, rfl, hg, ho, hx1⟩
  simp only [Int.toNat_natCast] at ho ⊢
  rw [← hdx] at ho
  have hg1 : Lo w.heap.size g := ⟨by have := hg.out; simp at this; omega⟩
  have hap2 : Apart w.heap.size g := ⟨by have := hg1.out; omega⟩
  have hfg : Fr w g := ⟨by have := hg1.out; omega⟩
  clear hdx
  go_wp2
  have hb1 : Bel w w1 := inferInstance
  have hbx1 : Bx w1 w.heap.size #[.int .i64 p, .int .i64 M, mv] 24 := inferInstance
  clear hx1 hg
  go_loopw [6] (fun iv wr => ∃ (k : Nat) (zs : List Int), iv = .int .i64 k ∧ k ≤ M ∧ Bel w wr ∧ Bx wr w.heap.size #[.int .i64 p, .int .i64 M, mv] 24 ∧ Own wr g zs ∧ Hid (zs = mixL M (fun i => (p - gt dx i) % p) (gt dx) k)) (fun iv _ => M - (intOf iv).toNat)
  case atStart => exact ⟨0, dx, rfl, by omega, hb1, hbx1, ho, by
    show dx = _
    rw [mixL_zero]; exact ext_gt (by rw [mkL_length]; exact HX.out.2) fun k hk => by rw [gt_mkL (by rw [← HX.out.2]; exact hk)]⟩
  case round =>
    obtain ⟨k, zs, rfl, hk, hB, hbx, hoz, HI⟩ := hrel
    by_cases hlt : k < M
    · have hkz : k < zs.length := by rw [HI.out, mixL_length]; exact hlt
      have hin : In k zs.length := ⟨hkz⟩
      have hzk : gt zs k = gt dx k := by rw [HI.out, gt_mixL hlt, if_neg (by omega)]
      have h1 := (hxr k).1
      have h2 := (hxr k).2
      rw [← hzk] at h1 h2
      have HZ := hidd hzk
      clear hzk
      have e1 : IntKind.i64.wrap (p - gt zs k) = p - gt zs k := wr_in (by omega) (by omega)
      have e2 : (p - gt zs k).tmod p = (p - gt zs k) % p := Int.tmod_eq_emod_of_nonneg (by omega)
      have e3 : ¬ p = 0 := by omega
      go_wp2
      go_still_tail 13, (by kernel_rfl)
      change wpList _ _ _ _ _ wr.drew
      clear e1 e2 e3
      go_wp2
      go_roundw
      case rel => exact ⟨k + 1, _, by go_num, by omega, inferInstance, inferInstance, inferInstance, by rw [HI.out]; exact mixL_set _ _ _ _ _ hlt (by rw [← HI.out, HZ.out]; show -gt dx k % p = (p - gt dx k) % p; simp)⟩
      case measure => simp [intOf] <;> omega
    · obtain rfl : k = M := by omega
      have hzs : zs = mkL k (fun i => (p - gt dx i) % p) := by rw [HI.out, mixL_full]
      have HS := hidd hzs
      clear hzs
      have hzl : zs.length = k := by rw [HS.out, mkL_length]
      go_wp2_with (go_at_call 130; refine (value_calls p _ _ zs _ _ _ _ hzl (by omega) hp2 (fun j hj => by rw [HS.out, gt_mkL (by omega)]; exact ⟨Int.emod_nonneg _ (by omega), Int.emod_lt_of_pos _ (by omega)⟩) (by rw [hzl]; exact HP.out.2) (by omega)).mono ?_; rintro e w3 ⟨rfl, hx⟩)
      go_ret
      exact ⟨ret_int (by rw [HS.out, HX.out.1]; rfl), Bel.ext inferInstance⟩

end Go.Proofs.Ytcigdhmecfhndaa

namespace Go.Proofs.Ytcigdhmecfhndaa
open Go.RowKit
attribute [local go_sem] cell_bx froz_bx cell_own froz_own cell_rd cell_cel ints_get ints_set
set_option linter.unusedVariables false
set_option linter.unusedSimpArgs false

set_option maxRecDepth 100000 in
set_option maxHeartbeats 4000000 in
theorem mul_calls (F : Fd) (A : Option Addr) (n c : Nat) (x y : Int) (w : World) (hG : F.Good) (hn : F.md.length = n) [hA : Sl w A F.md] :
    Calls Try.prog 141 #[.agg #[.int .i64 F.p, .int .i64 F.m, .slice A n c], .int .i64 x, .int .i64 y] w fun e w' => e = .returned (.int .i64 (F.mul x y)) ∧ Ext w w' := by
  obtain ⟨p, m, md⟩ := F
  obtain ⟨M, rfl⟩ : ∃ M : Nat, m = M := ⟨m.toNat, by have := hG.m1; simp at this; omega⟩
  have hp := hG.p2
  have hp2 := hG.p256
  have hm1 := hG.m1
  have hm2 := hG.m8
  have hqq := hG.q
  have hpm := hG.pm
  have hmr := hG.res
  have hml := hG.len
  simp only [Int.toNat_natCast] at hp hp2 hm1 hm2 hqq hpm hmr hml hn hA
  have HP := hidd (And.intro hqq (And.intro hpm hml))
  have hq : (Fd.mk p M md).q ≤ 256 := by rw [hqq]; exact hpm
  obtain ⟨dx, hdx⟩ : ∃ l, l = (Fd.mk p M md).dig x := ⟨_, rfl⟩
  obtain ⟨dy, hdy⟩ : ∃ l, l = (Fd.mk p M md).dig y := ⟨_, rfl⟩
  have hxl : dx.length = M := by rw [hdx]; exact digL_length _ _ _
  have hyl : dy.length = M := by rw [hdy]; exact digL_length _ _ _
  have hxr : Res p dx := by rw [hdx]; exact digL_res (by omega) _
  have hyr : Res p dy := by rw [hdy]; exact digL_res (by omega) _
  have HX := hidd (And.intro hdx (And.intro hdy (And.intro hxl (And.intro hyl hn))))
  clear hqq hpm hxl hyl hml hn
  have hmk : ∀ w : World, (Instr.makeSlice 22 (.int .i64 (2 * (M : Int) - 1)) (.int .i64 (2 * (M : Int) - 1))).run Try.prog w = .ok (.slice (some ⟨w.heap.size, 0, none⟩) (2 * M - 1) (2 * M - 1)) (w.alloc (.cells (ints (List.replicate (2 * M - 1) 0)) 3)) := fun w => by
    have := mk_int (2 * M - 1) (by omega) w
    rwa [show ((2 * M - 1 : Nat) : Int) = 2 * (M : Int) - 1 by omega] at this
  go_enter Try.func141, Try.ntmps141
  go_wp2_with fail
  refine (digits2_calls ⟨p, M, md⟩ _ x _ hp hp2 (by simp) hm2 hq).mono ?_
  rintro e w1 ⟨g, rfl, hg, ho, hx1⟩
  simp only [Int.toNat_natCast] at ho ⊢
  rw [← hdx] at ho
  have hg1 : Lo w.heap.size g := ⟨by have := hg.out; simp at this; omega⟩
  go_wp2_with fail
  refine (digits2_calls ⟨p, M, md⟩ _ y _ hp hp2 (by simp) hm2 hq).mono ?_
  rintro e w2 ⟨g2, rfl, hg2, ho2, hx2⟩
  simp only [Int.toNat_natCast] at ho2 ⊢
  rw [← hdy] at ho2
  have ho1 : Own w2 g dx := inferInstance
  have hb1 : Bel w w2 := inferInstance
  have hbx1 : Bx w2 w.heap.size #[.int .i64 p, .int .i64 M, .slice A n c] 24 := inferInstance
  have hl1 : g < w2.heap.size := by obtain ⟨sp, e⟩ := ho1.out; exact blk_lt e
  have hl2 : g2 < w2.heap.size := by obtain ⟨sp, e⟩ := ho2.out; exact blk_lt e
  have hl3 : w.heap.size < w2.heap.size := by have := hg1.out; omega
  clear hdx hdy hx1 hx2 ho hg
  go_wp2
  obtain ⟨g3, hg3⟩ : ∃ g3, g3 = w2.heap.size := ⟨_, rfl⟩
  obtain ⟨w3, hw3⟩ : ∃ w3, w3 = w2.alloc (.cells (ints (List.replicate (2 * M - 1) 0)) 3) := ⟨_, rfl⟩
  have ho3 : Own w3 g3 (List.replicate (2 * M - 1) 0) := by rw [hw3, hg3]; infer_instance
  have hb2 : Bel w w3 := by rw [hw3]; infer_instance
  have hbx2 : Bx w3 w.heap.size #[.int .i64 p, .int .i64 M, .slice A n c] 24 := by rw [hw3]; infer_instance
  have hoa : Own w3 g dx := by rw [hw3]; infer_instance
  have hob : Own w3 g2 dy := by rw [hw3]; infer_instance
  rw [← hw3, ← hg3]
  have ap1 : Apart g g3 := ⟨by omega⟩
  have ap2 : Apart g2 g3 := ⟨by omega⟩
  have ap3 : Apart w.heap.size g3 := ⟨by omega⟩
  have fr3 : Fr w g3 := ⟨by omega⟩
  clear hw3 hg3 hl1 hl2 hl3 hg2 hb1 hbx1 ho1 ho2 hmk
  go_loopw [10] (fun iv wr => ∃ (i : Nat) (zs : List Int), iv = .int .i64 i ∧ i ≤ M ∧ Bel w wr ∧ Bx wr w.heap.size #[.int .i64 p, .int .i64 M, .slice A n c] 24 ∧ Own wr g dx ∧ Own wr g2 dy ∧ Own wr g3 zs ∧ Hid (zs = loopN i (fun i c => loopN M (mulIn dx dy p i) c) (List.replicate (2 * M - 1) 0) ∧ zs.length = 2 * M - 1 ∧ Res p zs)) (fun iv _ => M - (intOf iv).toNat)
  case atStart => exact ⟨0, _, rfl, by omega, hb2, hbx2, hoa, hob, ho3, rfl, by simp, Res.zero (by omega) _⟩
  case round =>
    obtain ⟨i, zs, rfl, hi, hB, hbx, hox, hoy, hoz, HI⟩ := hrel
    clear hb2 hbx2 hoa hob ho3
    by_cases hlt : i < M
    · go_wp2
      have hix : i < dx.length := by rw [HX.out.2.2.1]; exact hlt
      go_loopw [11] (fun jv wr => ∃ (j : Nat) (ys : List Int), jv = .int .i64 j ∧ j ≤ M ∧ Bel w wr ∧ Bx wr w.heap.size #[.int .i64 p, .int .i64 M, .slice A n c] 24 ∧ Own wr g dx ∧ Own wr g2 dy ∧ Own wr g3 ys ∧ Hid (ys = loopN j (mulIn dx dy p i) zs ∧ ys.length = 2 * M - 1 ∧ Res p ys)) (fun jv _ => M - (intOf jv).toNat)
      case atStart => exact ⟨0, zs, rfl, by omega, hB, hbx, hox, hoy, hoz, rfl, HI.out.2⟩
      case round =>
        obtain ⟨j, ys, rfl, hj, hB2, hbx2, hox2, hoy2, hoz2, HI2⟩ := hrel
        clear hB hbx hox hoy hoz
        by_cases hjl : j < M
        · have hjy : j < dy.length := by rw [HX.out.2.2.2.1]; exact hjl
          have hin : In (i + j) ys.length := ⟨by rw [HI2.out.2.1]; omega⟩
          have hin2 := hin.out
          have h1 := (hxr i).1
          have h2 := (hxr i).2
          have h3 := (hyr j).1
          have h4 := (hyr j).2
          have h5 := (HI2.out.2.2 (i + j)).1
          have h6 := (HI2.out.2.2 (i + j)).2
          have h7 : gt dx i * gt dy j ≤ 256 * 256 := Int.mul_le_mul (by omega) (by omega) h3 (by omega)
          have h8 : 0 ≤ gt dx i * gt dy j := Int.mul_nonneg h1 h3
          have h9 : (i : Int) + (j : Int) < ((2 * M - 1 : Nat) : Int) := by omega
          have ha : (0 : Int) ≤ (i : Int) + (j : Int) := by omega
          have e0 : IntKind.i64.wrap ((i : Int) + (j : Int)) = (i : Int) + (j : Int) := wr_in (by omega) (by omega)
          have e00 : ((i : Int) + (j : Int)).toNat = i + j := by omega
          have e1 : IntKind.i64.wrap (gt dx i * gt dy j) = gt dx i * gt dy j := wr_in (by omega) (by omega)
          have e2 : IntKind.i64.wrap (gt ys (i + j) + gt dx i * gt dy j) = gt ys (i + j) + gt dx i * gt dy j := wr_in (by omega) (by omega)
          have e3 : (gt ys (i + j) + gt dx i * gt dy j).tmod p = (gt ys (i + j) + gt dx i * gt dy j) % p := Int.tmod_eq_emod_of_nonneg (by omega)
          have e4 : ¬ p = 0 := by omega
          go_wp2
          go_still_tail 24, (by kernel_rfl)
          change wpList _ _ _ _ _ wr.drew
          clear e0 e1 e2 e3 e4
          have hr := hidd (HI2.out.2.2.mulIn (a := dx) (b := dy) (show 0 < p by omega) i j)
          go_wp2
          go_roundw
          case rel => exact ⟨j + 1, _, by go_num, by omega, inferInstance, inferInstance, inferInstance, inferInstance, inferInstance, by rw [loopN_succ, ← HI2.out.1, mulIn], by rw [List.length_set]; exact HI2.out.2.1, hr.out⟩
          case measure => simp [intOf] <;> omega
        · obtain rfl : j = M := by omega
          go_wp2
          go_roundw
          case rel => exact ⟨i + 1, ys, by go_num, by omega, hB2, hbx2, hox2, hoy2, hoz2, by rw [loopN_succ, ← HI.out.1]; exact HI2.out.1, HI2.out.2⟩
          case measure => simp [intOf] <;> omega
    · obtain rfl : i = M := by omega
      obtain ⟨c0, hc0⟩ : ∃ c0, c0 = convL dx dy p i := ⟨_, rfl⟩
      have hz : zs = c0 := by rw [HI.out.1, hc0]; rfl
      rw [hz] at hoz
      have HC := hidd (And.intro hc0 (And.intro (show c0.length = 2 * i - 1 by rw [hc0]; exact convL_len _ _ _ _) (show Res p c0 by rw [hc0]; exact Res.convL _ _ (by omega) _)))
      clear HI hz hc0
      go_wp2
      go_loopw [12] (fun iv wr => ∃ (t : Nat) (zs : List Int), iv = .int .i64 (2 * i - 2 - t) ∧ t ≤ i - 1 ∧ Bel w wr ∧ Bx wr w.heap.size #[.int .i64 p, .int .i64 i, .slice A n c] 24 ∧ Own wr g3 zs ∧ Hid (zs = loopN t (fun t c => loopN i (redIn md p i (2 * i - 2 - t)) c) c0 ∧ zs.length = 2 * i - 1 ∧ Res p zs)) (fun iv _ => (intOf iv + 1 - i).toNat)
      case atStart => exact ⟨0, c0, by simp, by omega, hB, hbx, hoz, rfl, HC.out.2⟩
      case round =>
        obtain ⟨t, zs, rfl, ht, hB1, hbx1, ho1, HI⟩ := hrel
        clear hB hbx hoz
        by_cases htl : t < i - 1
        · obtain ⟨u, hu⟩ : ∃ u : Nat, u = 2 * i - 2 - t := ⟨_, rfl⟩
          have eu : 2 * (i : Int) - 2 - (t : Int) = (u : Int) := by omega
          rw [eu]
          have hu1 : i ≤ u := by omega
          have hu1' : (i : Int) ≤ (u : Int) := by omega
          have hu2 : (u : Int) ≤ 2 * i - 2 := by omega
          have HU := hidd (And.intro hu eu)
          clear hu eu
          go_wp2
          go_loopw [13] (fun jv wr => ∃ (j : Nat) (ys : List Int), jv = .int .i64 j ∧ j ≤ i ∧ Bel w wr ∧ Bx wr w.heap.size #[.int .i64 p, .int .i64 i, .slice A n c] 24 ∧ Own wr g3 ys ∧ Hid (ys = loopN j (redIn md p i u) zs ∧ ys.length = 2 * i - 1 ∧ Res p ys)) (fun jv _ => i - (intOf jv).toNat)
          case atStart => exact ⟨0, zs, rfl, by omega, hB1, hbx1, ho1, rfl, HI.out.2⟩
          case round =>
            obtain ⟨j, ys, rfl, hj, hB2, hbx2, ho2, HI2⟩ := hrel
            clear hB1 hbx1 ho1
            by_cases hjl : j < i
            · have hnj : j < md.length := by have := HP.out.2.2 (by omega); omega
              obtain ⟨ad, rfl, rm⟩ := hA.at_ hnj
              have hnj2 : j < n := by have := HX.out.2.2.2.2; omega
              obtain ⟨b, hb⟩ : ∃ b : Nat, b = u - i + j := ⟨_, rfl⟩
              have hbi : b < 2 * i - 1 := by omega
              have hbs := hidd (show ((u - i : Nat) : Int) + (j : Int) = (b : Int) by omega)
              have HB := hidd hb
              clear hb
              have hin : In b ys.length := ⟨by rw [HI2.out.2.1]; exact hbi⟩
              have hin2 := hin.out
              have hinu : u < ys.length := by rw [HI2.out.2.1]; omega
              have h1 := (hmr j).1
              have h2 := (hmr j).2
              have h3 := (HI2.out.2.2 u).1
              have h4 := (HI2.out.2.2 u).2
              have h5 := (HI2.out.2.2 b).1
              have h6 := (HI2.out.2.2 b).2
              have h7 : (p - gt ys u) * gt md j ≤ 256 * 256 := Int.mul_le_mul (by omega) (by omega) h1 (by omega)
              have h8 : 0 ≤ (p - gt ys u) * gt md j := Int.mul_nonneg (by omega) h1
              have h9 : (u : Int) < ((2 * i - 1 : Nat) : Int) := by omega
              have ha : (b : Int) < ((2 * i - 1 : Nat) : Int) := by omega
              have e0 : IntKind.i64.wrap ((u : Int) - (i : Int)) = ((u - i : Nat) : Int) := by rw [wr_in (by omega) (by omega)]; omega
              have e00 : IntKind.i64.wrap (((u - i : Nat) : Int) + (j : Int)) = (b : Int) := by have := hbs.out; rw [wr_in (by omega) (by omega)]; omega
              have e5 : IntKind.i64.wrap (p - gt ys u) = p - gt ys u := wr_in (by omega) (by omega)
              have e1 : IntKind.i64.wrap ((p - gt ys u) * gt md j) = (p - gt ys u) * gt md j := wr_in (by omega) (by omega)
              have e2 : IntKind.i64.wrap (gt ys b + (p - gt ys u) * gt md j) = gt ys b + (p - gt ys u) * gt md j := wr_in (by omega) (by omega)
              have e3 : (gt ys b + (p - gt ys u) * gt md j).tmod p = (gt ys b + (p - gt ys u) * gt md j) % p := Int.tmod_eq_emod_of_nonneg (by omega)
              have e4 : ¬ p = 0 := by omega
              go_wp2
              go_still_tail 34, (by kernel_rfl)
              change wpList _ _ _ _ _ wr.drew
              clear hbs e0 e00 e1 e2 e3 e4 e5
              have hr := hidd (HI2.out.2.2.redIn (md := md) (show 0 < p by omega) i u j)
              go_wp2
              go_roundw
              case rel => exact ⟨j + 1, _, by go_num, by omega, inferInstance, inferInstance, inferInstance, by rw [loopN_succ, ← HI2.out.1, redIn, ← HB.out], by rw [List.length_set]; exact HI2.out.2.1, by have := hr.out; rw [redIn, ← HB.out] at this; exact this⟩
              case measure => simp [intOf] <;> omega
            · obtain rfl : j = i := by omega
              go_wp2
              go_roundw
              case rel => exact ⟨t + 1, ys, by have := HU.out.2; simp <;> omega, by omega, hB2, hbx2, ho2, by rw [loopN_succ, ← HI.out.1, ← HU.out.1]; exact HI2.out.1, HI2.out.2⟩
              case measure => have := HU.out.2; simp [intOf] <;> omega
        · obtain rfl : t = i - 1 := by omega
          have hz : zs = redL md p i c0 := HI.out.1
          have HZ := hidd hz
          clear hz
          have hzl : (zs.take i).length = i := by rw [List.length_take, HI.out.2.1]; omega
          have hzr : Rd wr ⟨g3, 0, none⟩ (zs.take i) := ho1.take i
          have hi1 : (i : Int) ≤ ((2 * i - 1 : Nat) : Int) := by omega
          have hN : Near (w.heap.size + 1) wr wr := ⟨Below.refl _ _⟩
          have hL : Lo (w.heap.size + 1) (wr.heap.size + 1) := ⟨by have := blk_lt hbx1.out; omega⟩
          go_wp2
          go_region_held3 (fun w' => Near (w.heap.size + 1) wr w') (infer_instance)
            ((go_at_call 130; refine (value_calls p _ _ (zs.take i) (some ⟨g3, 0, none⟩) _ _ _ hzl (by omega) hp2 (fun j hj => by rw [gt_take (by omega)]; exact HI.out.2.2 j) (by rw [hzl]; exact HP.out.2.1) (by omega)).mono ?_; rintro e w4 ⟨rfl, hx4⟩))
          go_wp2
          go_ret
          exact ⟨ret_int (by rw [HZ.out, HC.out.1, HX.out.1, HX.out.2.1]; rfl), Bel.ext inferInstance⟩

set_option maxRecDepth 100000 in
set_option maxHeartbeats 1000000 in
theorem inv_calls (F : Fd) (A : Option Addr) (n c : Nat) (x : Int) (w : World) (hG : F.Good) (hn : F.md.length = n) [hA : Sl w A F.md] :
    Calls Try.prog 154 #[.agg #[.int .i64 F.p, .int .i64 F.m, .slice A n c], .int .i64 x] w fun e w' => e = .returned (.int .i64 (F.inv x)) ∧ Ext w w' := by
  have hq : F.q ≤ 256 := by rw [hG.q]; exact hG.pm
  have hq1 : 1 ≤ F.q := by rw [hG.q]; exact Int.pow_pos (by have := hG.p2; omega)
  go_enter Try.func154, Try.ntmps154
  go_wp2
  go_loopw [5] (fun yv wr => ∃ (k : Nat), yv = .int .i64 (k + 1) ∧ (k : Int) + 1 ≤ F.q ∧ Bel w wr ∧ Bx wr w.heap.size #[.int .i64 F.p, .int .i64 F.m, .slice A n c] 24 ∧ Hid (F.inv x = firstL (fun y => F.mul x y == 1) F.q ((F.q - 1).toNat - k))) (fun yv _ => (F.q - intOf yv).toNat)
  case atStart => exact ⟨0, by simp, by omega, inferInstance, inferInstance, rfl⟩
  case round =>
    obtain ⟨k, rfl, hk, hB, hbx, HI⟩ := hrel
    by_cases hlt : (k : Int) + 1 < F.q
    · have hs : (F.q - 1).toNat - k = ((F.q - 1).toNat - (k + 1)) + 1 := by omega
      have hy : F.q - (((F.q - 1).toNat - (k + 1) : Nat) + 1) = (k : Int) + 1 := by omega
      have HS := hidd (And.intro hs hy)
      clear hs hy
      by_cases hm : F.mul x ((k : Int) + 1) = 1
      · have hm1 : (F.mul x ((k : Int) + 1) == 1) = true := beq_iff_eq.2 hm
        have HM := hidd hm
        clear hm
        go_wp2_with (first
          | (go_at_call 55; refine (order_calls F.p F.m _ _).mono ?_; rintro e w3 ⟨rfl, hx⟩; show _; rw [show ordF F.p F.m = F.q from rfl])
          | (go_at_call 141; refine (mul_calls F A n c x _ _ hG hn).mono ?_; rintro e w4 ⟨rfl, hx4⟩))
        go_ret
        exact ⟨ret_int (by rw [HI.out, HS.out.1, firstL, HS.out.2]; simp only [HM.out]; rfl), Bel.ext inferInstance⟩
      · have hm1 : (F.mul x ((k : Int) + 1) == 1) = false := beq_eq_false_iff_ne.2 hm
        clear hm
        go_wp2_with (first
          | (go_at_call 55; refine (order_calls F.p F.m _ _).mono ?_; rintro e w3 ⟨rfl, hx⟩; show _; rw [show ordF F.p F.m = F.q from rfl])
          | (go_at_call 141; refine (mul_calls F A n c x _ _ hG hn).mono ?_; rintro e w4 ⟨rfl, hx4⟩))
        go_roundw
        case rel => exact ⟨k + 1, by go_num, by omega, inferInstance, inferInstance, by show F.inv x = _; rw [HI.out, HS.out.1, firstL, HS.out.2, if_neg (by rw [hm1]; simp)]⟩
        case measure => simp [intOf] <;> omega
    · go_wp2_with (go_at_call 55; refine (order_calls F.p F.m _ _).mono ?_; rintro e w3 ⟨rfl, hx⟩; show _; rw [show ordF F.p F.m = F.q from rfl])
      go_ret
      exact ⟨ret_int (by rw [HI.out, show (F.q - 1).toNat - k = 0 by omega]; rfl), Bel.ext inferInstance⟩

end Go.Proofs.Ytcigdhmecfhndaa

namespace Go.Proofs.Ytcigdhmecfhndaa
open Go.RowKit
attribute [local go_sem] cell_bx froz_bx cell_own froz_own cell_rd cell_cel ints_get ints_set
set_option linter.unusedVariables false
set_option linter.unusedSimpArgs false

set_option maxRecDepth 100000 in
set_option maxHeartbeats 2000000 in
theorem dot_calls (F : Fd) (A : Option Addr) (n c : Nat) (a b : List Int) (Aa Ab : Option Addr) (na ca nb cb : Nat) (w : World) (hG : F.Good) (hn : F.md.length = n) (hna : a.length = na) (hnb : b.length = nb) (hnm : na ≤ 1000000) [hA : Sl w A F.md] [ha : Sl w Aa a] [hb : Sl w Ab b] :
    Calls Try.prog 135 #[.agg #[.int .i64 F.p, .int .i64 F.m, .slice A n c], .slice Aa na ca, .slice Ab nb cb] w fun e w' => e = .returned (.int .i64 (F.dot a b)) ∧ Ext w w' := by
  subst hna hnb
  go_enter Try.func135, Try.ntmps135
  go_wp2
  go_loopw [7, 8] (fun sv iv wr => ∃ (k : Nat) (s : Int), iv = .int .i64 k ∧ sv = .int .i64 s ∧ k ≤ a.length ∧ k ≤ b.length ∧ Bel w wr ∧ Bx wr w.heap.size #[.int .i64 F.p, .int .i64 F.m, .slice A n c] 24 ∧ Hid (s = F.dotN a b k)) (fun _ iv _ => a.length - (intOf iv).toNat)
  case atStart => exact ⟨0, 0, rfl, rfl, by omega, by omega, inferInstance, inferInstance, rfl⟩
  case round =>
    obtain ⟨k, s, rfl, rfl, hk, hk2, hB, hbx, HI⟩ := hrel
    by_cases hlt : k < a.length
    · by_cases hlt2 : k < b.length
      · obtain ⟨ada, rfl, rda⟩ := ha.at_ hlt
        obtain ⟨adb, rfl, rdb⟩ := hb.at_ hlt2
        have hN : Near (w.heap.size + 1) wr wr := ⟨Below.refl _ _⟩
        have hL : Lo (w.heap.size + 1) (wr.heap.size + 1) := ⟨by have := blk_lt hbx.out; omega⟩
        go_wp2
        go_region_held3 (fun w' => Near (w.heap.size + 1) wr w') (infer_instance)
          ((first
            | (go_at_call 141; refine (mul_calls F A n c (gt a k) (gt b k) _ hG hn).mono ?_; rintro e w3 ⟨rfl, hx3⟩)
            | (go_at_call 89; refine (add_calls F _ s (F.mul (gt a k) (gt b k)) _ hG).mono ?_; rintro e w4 ⟨rfl, hx4⟩)))
        go_wp2
        go_roundw
        case rel => exact ⟨k + 1, _, by go_num, rfl, by omega, by omega, inferInstance, inferInstance, by show _ = F.dotN a b (k + 1); rw [Fd.dotN, loopN_succ, HI.out]; rfl⟩
        case measure => simp [intOf] <;> omega
      · go_wp2
        go_ret
        exact ⟨ret_int (by rw [HI.out, Fd.dot]; congr 1; omega), hB.ext⟩
    · go_wp2
      go_ret
      exact ⟨ret_int (by rw [HI.out, Fd.dot]; congr 1; omega), hB.ext⟩

theorem refE_yes {F : Fd} (h : RefOK F) : refE F = 0 := if_pos h
theorem refE_no {F : Fd} (h : ¬ RefOK F) : refE F = 1 := if_neg h

set_option maxRecDepth 100000 in
set_option maxHeartbeats 2000000 in
theorem check_calls (F : Fd) (A : Option Addr) (n c : Nat) (w : World) (hn : F.md.length = n) (hn2 : n ≤ 1000000000000000000) [hA : Sl w A F.md] :
    Calls Try.prog 72 #[.agg #[.int .i64 F.p, .int .i64 F.m, .slice A n c]] w fun e w' => e = .returned (.int .i64 (refE F)) ∧ Ext w w' := by
  obtain ⟨p, m, md⟩ := F
  simp only at hn hA
  subst hn
  by_cases h0 : ordF p m = 0
  · have h1 : (ordF p m == 0) = true := beq_iff_eq.2 h0
    have H0 := hidd h0
    clear h0
    go_enter Try.func72, Try.ntmps72
    go_wp2_with (go_at_call 55; refine (order_calls p m _ _).mono ?_; rintro e w3 ⟨rfl, hx⟩)
    go_ret
    exact ⟨ret_int (refE_no fun h => h.1 H0.out).symm, Bel.ext inferInstance⟩
  have h1 : (ordF p m == 0) = false := beq_eq_false_iff_ne.2 h0
  obtain ⟨hp, hp2, hm1, hm2, hqe, hpm⟩ := ordF_spec h0
  have H0 := hidd (And.intro h0 (And.intro hqe hpm))
  clear h0 hqe hpm
  by_cases h2 : primeB p = true
  rotate_left
  · have h3 : primeB p = false := by simpa using h2
    clear h2
    go_enter Try.func72, Try.ntmps72
    go_wp2_with (first
      | (go_at_call 55; refine (order_calls p m _ _).mono ?_; rintro e w3 ⟨rfl, hx⟩)
      | (go_at_call 112; refine (prime_calls p _ (by omega)).mono ?_; rintro e w4 ⟨rfl, rfl⟩))
    go_ret
    exact ⟨ret_int (refE_no fun h => by rw [primeB_yes h.2.1] at h3; cases h3).symm, Bel.ext inferInstance⟩
  have hpr : PrimeI p := of_decide_eq_true h2
  have HPR := hidd hpr
  clear hpr
  by_cases hm : m = 1
  · have e1 : (m == 1) = true := beq_iff_eq.2 hm
    by_cases hl : md.length = 0
    · have e2 : ((md.length : Int) != 0) = false := by simpa using hl
      have HL := hidd (And.intro hm hl)
      clear hm hl
      go_enter Try.func72, Try.ntmps72
      go_wp2_with (first
        | (go_at_call 55; refine (order_calls p m _ _).mono ?_; rintro e w3 ⟨rfl, hx⟩)
        | (go_at_call 112; refine (prime_calls p _ (by omega)).mono ?_; rintro e w4 ⟨rfl, rfl⟩))
      go_ret
      exact ⟨ret_int (refE_yes ⟨H0.out.1, HPR.out, fun _ => List.eq_nil_of_length_eq_zero HL.out.2, fun h => absurd HL.out.1 h⟩).symm, Bel.ext inferInstance⟩
    · have e2 : ((md.length : Int) != 0) = true := by simpa using hl
      have HL := hidd (And.intro hm hl)
      clear hm hl
      go_enter Try.func72, Try.ntmps72
      go_wp2_with (first
        | (go_at_call 55; refine (order_calls p m _ _).mono ?_; rintro e w3 ⟨rfl, hx⟩)
        | (go_at_call 112; refine (prime_calls p _ (by omega)).mono ?_; rintro e w4 ⟨rfl, rfl⟩))
      go_ret
      exact ⟨ret_int (refE_no fun h => HL.out.2 (by have := h.2.2.1 HL.out.1; simp only at this; rw [this]; rfl)).symm, Bel.ext inferInstance⟩
  have e1 : (m == 1) = false := beq_eq_false_iff_ne.2 hm
  have HM := hidd hm
  clear hm
  by_cases hl : (md.length : Int) = m
  rotate_left
  · have e2 : ((md.length : Int) != m) = true := bne_iff_ne.2 hl
    have HL := hidd hl
    clear hl
    go_enter Try.func72, Try.ntmps72
    go_wp2_with (first
      | (go_at_call 55; refine (order_calls p m _ _).mono ?_; rintro e w3 ⟨rfl, hx⟩)
      | (go_at_call 112; refine (prime_calls p _ (by omega)).mono ?_; rintro e w4 ⟨rfl, rfl⟩))
    go_ret
    exact ⟨ret_int (refE_no fun h => HL.out (h.2.2.2 HM.out).1).symm, Bel.ext inferInstance⟩
  subst hl
  have HP := hidd (show p ^ md.length ≤ 256 by have := H0.out.2.2; simpa using this)
  go_enter Try.func72, Try.ntmps72
  go_wp2_with (first
    | (go_at_call 55; refine (order_calls p _ _ _).mono ?_; rintro e w3 ⟨rfl, hx⟩)
    | (go_at_call 112; refine (prime_calls p _ (by omega)).mono ?_; rintro e w4 ⟨rfl, hw4⟩; obtain rfl := hw4.symm))
  have hb3 : Bel w w3 := inferInstance
  have hbx3 : Bx w3 w.heap.size #[.int .i64 p, .int .i64 md.length, .slice A md.length c] 24 := inferInstance
  clear hx
  go_loopw [3] (fun iv wr => ∃ (k : Nat), iv = .int .i64 k ∧ k ≤ md.length ∧ Bel w wr ∧ Bx wr w.heap.size #[.int .i64 p, .int .i64 md.length, .slice A md.length c] 24 ∧ Hid (∀ j, j < k → 0 ≤ gt md j ∧ gt md j < p)) (fun iv _ => md.length - (intOf iv).toNat)
  case atStart => exact ⟨0, rfl, by omega, hb3, hbx3, fun j hj => absurd hj (by omega)⟩
  case round =>
    obtain ⟨k, rfl, hk, hB, hbx, HI⟩ := hrel
    clear hb3 hbx3
    by_cases hlt : k < md.length
    · obtain ⟨ad, rfl, rd⟩ := hA.at_ hlt
      by_cases ha : gt md k < 0
      · have ha1 : decide (gt md k < 0) = true := decide_eq_true ha
        go_wp2
        go_quiet (fail)
        go_wp2
        go_ret
        exact ⟨ret_int (refE_no fun h => by have := ((h.2.2.2 HM.out).2.1 k hlt).1; simp only at this; omega).symm, Bel.ext inferInstance⟩
      · have ha1 : decide (gt md k < 0) = false := decide_eq_false ha
        by_cases hb : p ≤ gt md k
        · go_wp2
          go_quiet (fail)
          go_wp2
          go_ret
          exact ⟨ret_int (refE_no fun h => by have := ((h.2.2.2 HM.out).2.1 k hlt).2; simp only at this; omega).symm, Bel.ext inferInstance⟩
        · have hb1 : decide (p ≤ gt md k) = false := decide_eq_false hb
          go_wp2
          go_quiet (fail)
          go_wp2
          go_roundw
          case rel => exact ⟨k + 1, by go_num, by omega, inferInstance, inferInstance, fun j hj => by
            by_cases e : j = k
            · rw [e]; omega
            · exact HI.out j (by omega)⟩
          case measure => simp [intOf] <;> omega
    · obtain rfl : k = md.length := by omega
      have hres : Res p md := fun j => by
        by_cases hj : j < md.length
        · exact HI.out j hj
        · rw [gt_out (by omega)]; omega
      by_cases hi : irrB md p = true
      · go_wp2_with (go_at_call 113; refine (irreducible_calls md p A _ _ _ rfl hp hp2 (by omega) HP.out hres).mono ?_; rintro e w4 ⟨rfl, hx4⟩)
        go_ret
        exact ⟨ret_int (refE_yes ⟨H0.out.1, HPR.out, fun h => absurd h HM.out, fun _ => ⟨rfl, fun j hj => HI.out j hj, irrB_is hi⟩⟩).symm, Bel.ext inferInstance⟩
      · have hi2 : irrB md p = false := by simpa using hi
        clear hi
        go_wp2_with (go_at_call 113; refine (irreducible_calls md p A _ _ _ rfl hp hp2 (by omega) HP.out hres).mono ?_; rintro e w4 ⟨rfl, hx4⟩)
        go_ret
        exact ⟨ret_int (refE_no fun h => by have := (h.2.2.2 HM.out).2.2; simp only at this; rw [irrB_yes this] at hi2; cases hi2).symm, Bel.ext inferInstance⟩

end Go.Proofs.Ytcigdhmecfhndaa

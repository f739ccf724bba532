/- The walk of the law EnumerateWeights. -/
import Derived.Test.YtcigdhmecfhndaaW
namespace Go.Proofs.Ytcigdhmecfhndaa
open Go.RowKit
attribute [local go_sem] cell_bx froz_bx cell_own froz_own cell_rd cell_cel ints_get ints_set cell_ownv froz_ownv eql_nil_int
set_option linter.unusedVariables false
set_option linter.unusedSimpArgs false

theorem sumL_rng {l : List Int} {b : Int} (h : ∀ j, 0 ≤ gt l j ∧ gt l j ≤ b) : ∀ n : Nat, 0 ≤ sumL l n ∧ sumL l n ≤ n * b
  | 0 => by simp [sumL]
  | n + 1 => by
    have h1 := sumL_rng h n
    have h2 := h n
    have h3 : ((n + 1 : Nat) : Int) * b = n * b + b := by rw [Int.natCast_succ, Int.add_mul, Int.one_mul]
    rw [sumL]; omega

set_option maxRecDepth 100000 in
set_option maxHeartbeats 4000000 in
theorem law_enumerateWeights (F : Fd) (A : Option Addr) (n c : Nat) (rows : List (List Int)) (Ar : Option Addr) (nr cr : Nat) (N : Int) (w : World) (hn : F.md.length = n) (hn2 : n ≤ 1000000000000000000) (hr : rows.length = nr) (hr2 : nr ≤ 1000000000000000000) (hrl : ∀ k, (gr rows k).length ≤ 1000000000000000000) [hA : Sl w A F.md] [hR : Sls w Ar rows] :
    Calls Try.prog 3 #[.agg #[.int .i64 F.p, .int .i64 F.m, .slice A n c, .int .i64 N, .slice Ar nr cr]] w fun e w' => e = .returned (.bool true) ∧ Ext w w' := by
  cases hs : smallB F N rows with
  | false =>
    go_enter Try.func3, Try.ntmps3
    go_wp2_with (first
      | (go_at_call 17; refine (small_calls F A n c rows Ar nr cr N _ hn hn2 hr hr2 hrl).mono ?_; rintro e w1 ⟨rfl, hx1⟩; rw [hs])
      | (go_at_call 18; refine (alive_calls _).mono ?_; rintro e w2 ⟨rfl, hx2⟩))
    go_ret
    exact ⟨rfl, Bel.ext inferInstance⟩
  | true =>
    by_cases hok : sizE F N rows = 0
    · obtain ⟨hcod, hv1, hv2, hv3⟩ := sizE_ok hok
      obtain ⟨k1, k2, k3, k4, k5, k6⟩ := codE_ok hcod
      obtain ⟨NN, rfl⟩ : ∃ NN : Nat, N = NN := ⟨N.toNat, by omega⟩
      have hg : Grid nr NN rows := ⟨hr, fun k hk => by have := k4.2.2.2 k (by omega); omega⟩
      obtain ⟨tot, ht⟩ : ∃ tot : Nat, sizV F (NN : Int) rows = tot := ⟨(sizV F (NN : Int) rows).toNat, by omega⟩
      obtain ⟨hred, hpl⟩ := red_canon k1 hg k5 k6
      obtain ⟨t1, rfl⟩ : ∃ t1, tot = t1 + 1 := ⟨tot - 1, by omega⟩
      have hz : gt (F.wdist rows NN (t1 + 1)) 0 = 1 := wdist_zero k1.ok hred hpl t1 (by rw [← ht, hv3, hr]; exact Int.le_refl _)
      have hsum := wdist_sum F rows NN (t1 + 1)
      have hlen := wdist_len F rows NN (t1 + 1)
      have hrng := wdist_rng F rows NN (t1 + 1)
      have hpr := prof_wdist F rows NN (t1 + 1)
      have hwl : wrdL F (NN : Int) rows = F.words rows NN (t1 + 1) := by
        rw [wrdL, if_pos hok, ht]; rfl
      have htn : (sizV F (NN : Int) rows).toNat = t1 + 1 := by rw [ht]; rfl
      have hEW := fun w [hA : Sl w A F.md] [hR : Sls w Ar rows] => eweights_calls F A n c rows Ar nr cr NN w hn hn2 hr hr2 hrl hok
      have hRW := fun w [hA : Sl w A F.md] [hR : Sls w Ar rows] => weights23_calls F A n c rows Ar nr cr NN w hn hn2 hr hr2 hrl hok
      rw [htn] at hEW
      rw [hwl, hpr] at hRW
      generalize F.wdist rows NN (t1 + 1) = W at *
      have ht2 : t1 + 1 ≤ 65536 := by omega
      have hN64 : NN ≤ 64 := by omega
      have HE := hidd hEW
      have HRW := hidd hRW
      have HZ := hidd hz
      have HSUM := hidd hsum
      have HRNG := hidd hrng
      clear hEW hRW hpr hwl hred hpl hz hsum hrng hv1 hv2 hv3 k1 k4 k5 k6 hcod hg htn
      go_enter Try.func3, Try.ntmps3
      go_wp2_with (first
        | (go_at_call 17; refine (small_calls F A n c rows Ar nr cr NN _ hn hn2 hr hr2 hrl).mono ?_; rintro e w1 ⟨rfl, hx1⟩; rw [hs])
        | (go_at_call 19; refine (HE.out _).mono ?_; rintro e w2 ⟨g, rfl, ho2, hx2⟩)
        | (go_at_call 20; refine (HRW.out _).mono ?_; rintro e w3 ⟨g3, rfl, hf3, ho3, hx3⟩)
        | (go_at_call 21; refine (same11_calls W W _ _ _ _ _ _ _ hlen hlen (by omega) (by omega)).mono ?_; rintro e w4 ⟨rfl, hx4⟩; simp only [decide_true])
        | (go_at_call 22; refine (size12_calls F A n c rows Ar nr cr NN _ hn hn2 hr hr2 hrl).mono ?_; rintro e w5 ⟨rfl, hx5⟩; rw [hok, ht])
        | fail)
      go_loopw [9, 10] (fun sv iv wr => ∃ (k : Nat) (s : Int), iv = .int .i64 k ∧ sv = .int .i64 s ∧ k ≤ NN + 1 ∧ Bel w wr ∧ Own wr g W ∧ Hid (s = sumL W k)) (fun _ iv _ => NN + 1 - (intOf iv).toNat)
      case atStart => exact ⟨0, 0, rfl, rfl, by omega, inferInstance, inferInstance, rfl⟩
      case round =>
        obtain ⟨k, s, rfl, rfl, hk, hbel, how, HK⟩ := hrel
        have hsr : 0 ≤ s ∧ s ≤ 65 * 65536 := by
          rw [HK.out]
          have hsr := sumL_rng HRNG.out k
          have hs2 : (k : Int) * ((t1 + 1 : Nat) : Int) ≤ 65 * 65536 := Int.mul_le_mul (by omega) (by omega) (by omega) (by omega)
          omega
        by_cases hlt : k < NN + 1
        · have hin : In k W.length := ⟨by omega⟩
          have hgk := HRNG.out k
          have hlt2 : (k : Int) < (NN : Int) + 1 := by omega
          go_wp2
          go_roundw
          case rel => exact ⟨k + 1, s + gt W k, by go_num, by go_num, by omega, hbel, how, by show _ = _; rw [sumL, HK.out]⟩
          case measure => simp [intOf] <;> omega
        · obtain rfl : k = NN + 1 := by omega
          have hse : s = ((t1 + 1 : Nat) : Int) := by rw [HK.out]; exact HSUM.out
          have hin : In 0 W.length := ⟨by omega⟩
          have hz0 : (gt W 0 != 1) = false := by rw [HZ.out]; rfl
          clear hsr HK
          subst hse
          go_wp2_with (go_at_call 18; refine (alive_calls _).mono ?_; rintro e w6 ⟨rfl, hx6⟩)
          go_ret
          exact ⟨rfl, Bel.ext inferInstance⟩
    · have hb : (sizE F N rows != 0) = true := by simp [hok]
      have HOK := hidd hok
      clear hok
      go_enter Try.func3, Try.ntmps3
      go_wp2_with (first
        | (go_at_call 17; refine (small_calls F A n c rows Ar nr cr N _ hn hn2 hr hr2 hrl).mono ?_; rintro e w1 ⟨rfl, hx1⟩; rw [hs])
        | (go_at_call 19; refine (eweights_no F A n c rows Ar nr cr N _ hn hn2 hr hr2 hrl HOK.out).mono ?_; rintro e w2 ⟨rfl, hx2⟩)
        | (go_at_call 20; refine (weights23_no F A n c rows Ar nr cr N _ hn hn2 hr hr2 hrl HOK.out).mono ?_; rintro e w3 ⟨rfl, hx3⟩)
        | (go_at_call 21; refine (same11_calls [] [] none none 0 0 0 0 _ rfl rfl (by omega) (by omega)).mono ?_; rintro e w4 ⟨rfl, hx4⟩; simp only [decide_true])
        | (go_at_call 18; refine (alive_calls _).mono ?_; rintro e w5 ⟨rfl, hx5⟩))
      go_ret
      exact ⟨rfl, Bel.ext inferInstance⟩

end Go.Proofs.Ytcigdhmecfhndaa

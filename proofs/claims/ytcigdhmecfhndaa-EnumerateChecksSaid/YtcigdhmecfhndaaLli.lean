/- The walk of the law EnumerateLightest. -/
import Derived.Test.YtcigdhmecfhndaaLne
namespace Go.Proofs.Ytcigdhmecfhndaa
open Go.RowKit
attribute [local go_sem] cell_bx froz_bx cell_own froz_own cell_rd cell_cel ints_get ints_set cell_ownv froz_ownv eql_nil_int
set_option linter.unusedVariables false
set_option linter.unusedSimpArgs false

theorem ent_comb {F : Fd} (hO : F.Ok) (x : List Int) (rows : List (List Int)) (N : Nat) : Ent F.q (F.comb x rows N) := fun j hj => by
  rw [comb_len] at hj
  rw [comb_at hO x rows hj]
  exact colN_el hO x rows j _

set_option maxRecDepth 100000 in
set_option maxHeartbeats 4000000 in
theorem law_enumerateLightest (F : Fd) (A : Option Addr) (n c : Nat) (rows : List (List Int)) (Ar : Option Addr) (nr cr : Nat) (N : Int) (m : List Int) (Am : Option Addr) (nm cm : Nat) (w : World) (hn : F.md.length = n) (hn2 : n ≤ 1000000000000000000) (hr : rows.length = nr) (hr2 : nr ≤ 1000000000000000000) (hrl : ∀ k, (gr rows k).length ≤ 1000000000000000000) (hm : m.length = nm) (hm2 : nm ≤ 1000000000000000000) [hA : Sl w A F.md] [hR : Sls w Ar rows] [hM : Sl w Am m] :
    Calls Try.prog 5 #[.agg #[.int .i64 F.p, .int .i64 F.m, .slice A n c, .int .i64 N, .slice Ar nr cr], .slice Am nm cm] w fun e w' => e = .returned (.bool true) ∧ Ext w w' := by
  cases hs : smallB F N rows with
  | false =>
    go_enter Try.func5, Try.ntmps5
    go_wp2_with (first
      | (go_at_call 17; refine (small_calls F A n c rows Ar nr cr N _ hn hn2 hr hr2 hrl).mono ?_; rintro e w1 ⟨rfl, hx1⟩; rw [hs])
      | (go_at_call 18; refine (alive_calls _).mono ?_; rintro e w2 ⟨rfl, hx2⟩))
    go_ret
    exact ⟨rfl, Bel.ext inferInstance⟩
  | true =>
    by_cases hcod : codE F N rows = 0
    · by_cases hnr : nr = 0
      · have hE : ligE F N rows = 11 := by rw [ligE, if_pos hcod, if_pos (by omega)]
        have hOE := fun w [hA : Sl w A F.md] [hR : Sls w Ar rows] => elight_err F A n c rows Ar nr cr N w hn hn2 hr hr2 hrl (by rw [hE]; decide)
        rw [hE] at hOE
        have HOE := hidd hOE
        have hnb : ((nr : Int) == 0) = true := by rw [beq_iff_eq]; omega
        have HNR := hidd hnr
        clear hOE hE hnr
        go_enter Try.func5, Try.ntmps5
        go_wp2_with (first
          | (go_at_call 17; refine (small_calls F A n c rows Ar nr cr N _ hn hn2 hr hr2 hrl).mono ?_; rintro e w1 ⟨rfl, hx1⟩; rw [hs])
          | (go_at_call 27; refine (HOE.out _).mono ?_; rintro e w2 ⟨rfl, hx2⟩)
          | (go_at_call 24; refine (check12_calls F A n c rows Ar nr cr N _ hn hn2 hr hr2 hrl).mono ?_; rintro e w3 ⟨rfl, hx3⟩; rw [hcod])
          | (go_at_call 18; refine (alive_calls _).mono ?_; rintro e w5 ⟨rfl, hx5⟩))
        go_ret
        exact ⟨rfl, Bel.ext inferInstance⟩
      · have hnb : ((nr : Int) == 0) = false := by rw [beq_eq_false_iff_ne]; omega
        have hE : ligE F N rows = sizE F N rows := by rw [ligE, if_pos hcod, if_neg (by omega)]
        by_cases hok : sizE F N rows = 0
        · obtain ⟨k1, k2, k3, k4, k5, k6⟩ := codE_ok hcod
          obtain ⟨NN, rfl⟩ : ∃ NN : Nat, N = NN := ⟨N.toNat, by omega⟩
          obtain ⟨_, hv1, hv2, hv3⟩ := sizE_ok hok
          have hg : Grid nr NN rows := ⟨hr, fun k hk => by have := k4.2.2.2 k (by omega); omega⟩
          obtain ⟨hred, hpl⟩ := red_canon k1 hg k5 k6
          have hq2 := k1.good.q2
          have hq9 : 2 ≤ F.q ^ nr := by
            have h1 : F.q ^ 1 ≤ F.q ^ nr := pow_mono (by omega) (by omega)
            have h2 : F.q ^ 1 = F.q := by rw [Int.pow_succ, Int.pow_zero, Int.one_mul]
            omega
          rw [hr] at hv3
          obtain ⟨t1, ht⟩ : ∃ t1 : Nat, sizV F (NN : Int) rows = (t1 + 2 : Nat) := ⟨(sizV F (NN : Int) rows).toNat - 2, by omega⟩
          have htn : (sizV F (NN : Int) rows).toNat = t1 + 2 := by omega
          have hWL : wrdL F (NN : Int) rows = F.words rows NN (t1 + 2) := by
            rw [wrdL, if_pos hok, htn]; rfl
          have hOW := fun w [hA : Sl w A F.md] [hR : Sls w Ar rows] => elight_calls F A n c rows Ar nr cr NN w hn hn2 hr hr2 hrl hok (by omega)
          have hWS := fun w [hA : Sl w A F.md] [hR : Sls w Ar rows] => words12_calls F A n c rows Ar nr cr NN w hn hn2 hr hr2 hrl
          have hwl : (F.words rows NN (t1 + 2)).length = t1 + 2 := words_len _ _ _ _
          have hzl : (List.replicate NN (0 : Int)).length = NN := by simp
          have hNS := fun (B Az : Option Addr) (kB cz : Nat) w [hL : Sls w B (F.words rows NN (t1 + 2))] [hY : Sl w Az (List.replicate NN 0)] => nearest23_calls (F.words rows NN (t1 + 2)) (List.replicate NN 0) true B Az (t1 + 2) kB NN cz w hwl (by omega) hzl (by omega) (fun k => by
            by_cases hk : k < t1 + 2
            · rw [words_gr _ _ _ _ hk, word_len]; omega
            · rw [gr_out (by rw [words_len]; omega)]; simp)
          have hbl : (F.bst rows NN wgt true (t1 + 2)).2.length ≤ 1000000 := by
            have : ∀ k, (F.bst rows NN wgt true k).2.length ≤ NN := fun k => by
              induction k with
              | zero => simp [Fd.bst]
              | succ k ih =>
                rw [Fd.bst]; split
                · simp only [word_len]; exact Nat.le_refl _
                · exact ih
            have := this (t1 + 2)
            omega
          rw [htn] at hOW
          rw [hok, hWL, hwl] at hWS
          rw [hwl, nst_light k1.ok hred hpl (by rw [← hv3, ht]; exact Int.le_refl _) t1 (by omega)] at hNS
          have hcw : encE F NN rows m = 0 → wgt (F.comb m rows NN) ≠ 0 → (F.bst rows NN wgt true (t1 + 2)).1 ≤ wgt (F.comb m rows NN) := fun h h0 => by
            obtain ⟨_, h1, h2⟩ := encE_ok h
            obtain ⟨i, hi, e⟩ := comb_word k1.good h1 h2 NN
            rw [e] at h0 ⊢
            refine bst_le F rows NN wgt true (t1 + 2) i ?_ (fun _ => Nat.pos_of_ne_zero fun hz => ?_)
            · have : (i : Int) < ((t1 + 2 : Nat) : Int) := by rw [← ht, hv3, ← hr]; exact hi
              omega
            · subst hz
              exact h0 (wgt_word0 k1.ok rows NN)
          have hcid : cleanL F.q (F.comb m rows NN) = F.comb m rows NN := clean_id (ent_comb k1.ok m rows NN)
          generalize F.bst rows NN wgt true (t1 + 2) = st at *
          generalize F.words rows NN (t1 + 2) = W at *
          have hmk := mk_int NN (by omega)
          have HOW := hidd hOW
          have HWS := hidd hWS
          have HNS := hidd hNS
          have HRL := hidd hrl
          have HCW := hidd hcw
          clear hOW hWS hNS hrl hcw hE hok k1 k4 k5 k6 hv1 hv2 hv3 ht htn hWL hwl hg hred hpl hq2 hq9
          by_cases hme : encE F NN rows m = 0
          · have hcl : (F.comb m rows NN).length = NN := comb_len F m rows NN
            have hge := HCW.out hme
            have hw11 := fun g w [ha : Own w g (F.comb m rows NN)] => weight11_calls F (.slice A n c) (F.comb m rows NN) (some ⟨g, 0, none⟩) NN NN w hcl (by omega)
            rw [hcid] at hw11
            have H11 := hidd hw11
            clear HCW hw11 hcid
            by_cases h0 : wgt (F.comb m rows NN) = 0
            · rw [h0] at H11
              clear hge
              go_enter Try.func5, Try.ntmps5
              go_wp2_with (first
                | (go_at_call 17; refine (small_calls F A n c rows Ar nr cr NN _ hn hn2 hr hr2 HRL.out).mono ?_; rintro e w1 ⟨rfl, hx1⟩; rw [hs])
                | (go_at_call 27; refine (HOW.out _).mono ?_; rintro e w2 ⟨B2, kB2, rfl, hs2, hx2⟩)
                | (go_at_call 24; refine (check12_calls F A n c rows Ar nr cr NN _ hn hn2 hr hr2 HRL.out).mono ?_; rintro e w3 ⟨rfl, hx3⟩; rw [hcod])
                | (go_at_call 28; refine (HWS.out _).mono ?_; rintro e w9 ⟨B9, kB9, rfl, hk9, hs9, hx9⟩)
                | (go_at_call 29; refine (HNS.out _ _ _ _ _).mono ?_; rintro e w4 ⟨B4, kB4, rfl, hs4, hx4⟩)
                | (go_at_call 21; refine (same11_calls st.2 st.2 _ _ _ _ _ _ _ rfl rfl (by omega) (by omega)).mono ?_; rintro e w5 ⟨rfl, hx5⟩; simp only [decide_true])
                | (go_at_call 30; refine (enc12_yes F A n c rows Ar nr cr NN m Am nm cm _ hn hn2 hr hr2 HRL.out hm hm2 hme).mono ?_; rintro e w6 ⟨g6, rfl, hf6, ho6, hx6⟩)
                | (go_at_call 31; refine (H11.out _ _).mono ?_; rintro e w8 ⟨rfl, hx8⟩)
                | (go_at_call 18; refine (alive_calls _).mono ?_; rintro e w7 ⟨rfl, hx7⟩))
              go_ret
              exact ⟨rfl, Bel.ext inferInstance⟩
            · have hge2 := hge h0
              have h1 : (0 : Int) < wgt (F.comb m rows NN) := by omega
              have h2 : ¬ (wgt (F.comb m rows NN) : Int) < st.1 := by omega
              generalize wgt (F.comb m rows NN) = wt at *
              clear hge hge2 h0
              go_enter Try.func5, Try.ntmps5
              go_wp2_with (first
                | (go_at_call 17; refine (small_calls F A n c rows Ar nr cr NN _ hn hn2 hr hr2 HRL.out).mono ?_; rintro e w1 ⟨rfl, hx1⟩; rw [hs])
                | (go_at_call 27; refine (HOW.out _).mono ?_; rintro e w2 ⟨B2, kB2, rfl, hs2, hx2⟩)
                | (go_at_call 24; refine (check12_calls F A n c rows Ar nr cr NN _ hn hn2 hr hr2 HRL.out).mono ?_; rintro e w3 ⟨rfl, hx3⟩; rw [hcod])
                | (go_at_call 28; refine (HWS.out _).mono ?_; rintro e w9 ⟨B9, kB9, rfl, hk9, hs9, hx9⟩)
                | (go_at_call 29; refine (HNS.out _ _ _ _ _).mono ?_; rintro e w4 ⟨B4, kB4, rfl, hs4, hx4⟩)
                | (go_at_call 21; refine (same11_calls st.2 st.2 _ _ _ _ _ _ _ rfl rfl (by omega) (by omega)).mono ?_; rintro e w5 ⟨rfl, hx5⟩; simp only [decide_true])
                | (go_at_call 30; refine (enc12_yes F A n c rows Ar nr cr NN m Am nm cm _ hn hn2 hr hr2 HRL.out hm hm2 hme).mono ?_; rintro e w6 ⟨g6, rfl, hf6, ho6, hx6⟩)
                | (go_at_call 31; refine (H11.out _ _).mono ?_; rintro e w8 ⟨rfl, hx8⟩)
                | (go_at_call 18; refine (alive_calls _).mono ?_; rintro e w7 ⟨rfl, hx7⟩))
              go_ret
              exact ⟨rfl, Bel.ext inferInstance⟩
          · have hmb : (encE F NN rows m == 0) = false := by simp [hme]
            have HME := hidd hme
            clear hme HCW hcid
            go_enter Try.func5, Try.ntmps5
            go_wp2_with (first
              | (go_at_call 17; refine (small_calls F A n c rows Ar nr cr NN _ hn hn2 hr hr2 HRL.out).mono ?_; rintro e w1 ⟨rfl, hx1⟩; rw [hs])
              | (go_at_call 27; refine (HOW.out _).mono ?_; rintro e w2 ⟨B2, kB2, rfl, hs2, hx2⟩)
              | (go_at_call 24; refine (check12_calls F A n c rows Ar nr cr NN _ hn hn2 hr hr2 HRL.out).mono ?_; rintro e w3 ⟨rfl, hx3⟩; rw [hcod])
              | (go_at_call 28; refine (HWS.out _).mono ?_; rintro e w9 ⟨B9, kB9, rfl, hk9, hs9, hx9⟩)
              | (go_at_call 29; refine (HNS.out _ _ _ _ _).mono ?_; rintro e w4 ⟨B4, kB4, rfl, hs4, hx4⟩)
              | (go_at_call 21; refine (same11_calls st.2 st.2 _ _ _ _ _ _ _ rfl rfl (by omega) (by omega)).mono ?_; rintro e w5 ⟨rfl, hx5⟩; simp only [decide_true])
              | (go_at_call 30; refine (enc12_no F A n c rows Ar nr cr NN m Am nm cm _ hn hn2 hr hr2 HRL.out hm hm2 HME.out).mono ?_; rintro e w6 ⟨rfl, hx6⟩)
              | (go_at_call 18; refine (alive_calls _).mono ?_; rintro e w7 ⟨rfl, hx7⟩))
            go_ret
            exact ⟨rfl, Bel.ext inferInstance⟩
        · have hOE := fun w [hA : Sl w A F.md] [hR : Sls w Ar rows] => elight_err F A n c rows Ar nr cr N w hn hn2 hr hr2 hrl (by rw [hE]; exact hok)
          rw [hE] at hOE
          have HOE := hidd hOE
          have hb : (sizE F N rows != 0) = true := by simp [hok]
          clear hOE hE hok
          go_enter Try.func5, Try.ntmps5
          go_wp2_with (first
            | (go_at_call 17; refine (small_calls F A n c rows Ar nr cr N _ hn hn2 hr hr2 hrl).mono ?_; rintro e w1 ⟨rfl, hx1⟩; rw [hs])
            | (go_at_call 27; refine (HOE.out _).mono ?_; rintro e w2 ⟨rfl, hx2⟩)
            | (go_at_call 24; refine (check12_calls F A n c rows Ar nr cr N _ hn hn2 hr hr2 hrl).mono ?_; rintro e w3 ⟨rfl, hx3⟩; rw [hcod])
            | (go_at_call 28; refine (words12_calls F A n c rows Ar nr cr N _ hn hn2 hr hr2 hrl).mono ?_; rintro e w9 ⟨B9, kB9, rfl, hk9, hs9, hx9⟩)
            | (go_at_call 18; refine (alive_calls _).mono ?_; rintro e w5 ⟨rfl, hx5⟩))
          go_ret
          exact ⟨rfl, Bel.ext inferInstance⟩
    · have hb : (codE F N rows != 0) = true := by simp [hcod]
      have hb2 : (codE F N rows == 0) = false := by simp [hcod]
      have hE : ligE F N rows = codE F N rows := by rw [ligE, if_neg hcod]
      have hOE := fun w [hA : Sl w A F.md] [hR : Sls w Ar rows] => elight_err F A n c rows Ar nr cr N w hn hn2 hr hr2 hrl (by rw [hE]; exact hcod)
      rw [hE] at hOE
      have HOE := hidd hOE
      clear hcod hE hOE
      go_enter Try.func5, Try.ntmps5
      go_wp2_with (first
        | (go_at_call 17; refine (small_calls F A n c rows Ar nr cr N _ hn hn2 hr hr2 hrl).mono ?_; rintro e w1 ⟨rfl, hx1⟩; rw [hs])
        | (go_at_call 27; refine (HOE.out _).mono ?_; rintro e w2 ⟨rfl, hx2⟩)
        | (go_at_call 24; refine (check12_calls F A n c rows Ar nr cr N _ hn hn2 hr hr2 hrl).mono ?_; rintro e w3 ⟨rfl, hx3⟩)
        | (go_at_call 18; refine (alive_calls _).mono ?_; rintro e w5 ⟨rfl, hx5⟩))
      go_ret
      exact ⟨rfl, Bel.ext inferInstance⟩

end Go.Proofs.Ytcigdhmecfhndaa

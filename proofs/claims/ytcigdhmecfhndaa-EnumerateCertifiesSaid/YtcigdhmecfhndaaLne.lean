/- The walks of the laws EnumerateNearest and EnumerateLightest. -/
import Derived.Test.YtcigdhmecfhndaaEnc
namespace Go.Proofs.Ytcigdhmecfhndaa
open Go.RowKit
attribute [local go_sem] cell_bx froz_bx cell_own froz_own cell_rd cell_cel ints_get ints_set cell_ownv froz_ownv eql_nil_int
set_option linter.unusedVariables false
set_option linter.unusedSimpArgs false

theorem bst_succ (F : Fd) (rows : List (List Int)) (N : Nat) (f : List Int → Nat) (z : Bool) (k : Nat) : F.bst rows N f z (k + 1) = if (z = true → 0 < k) ∧ (f (F.word rows N (k : Int)) : Int) < (F.bst rows N f z k).1 then ((f (F.word rows N (k : Int)) : Int), F.word rows N (k : Int)) else F.bst rows N f z k := rfl
theorem nst_succ (ws : List (List Int)) (y : List Int) (o : Bool) (k : Nat) : nstN ws y o (k + 1) = if o = true ∧ dist (gr ws k) y = 0 then nstN ws y o k else if (nstN ws y o k).1 < 0 ∨ (dist (gr ws k) y : Int) < (nstN ws y o k).1 then ((dist (gr ws k) y : Int), gr ws k) else nstN ws y o k := rfl
theorem nst_bst (F : Fd) (rows : List (List Int)) (N tot : Nat) (y : List Int) (hy : y.length ≤ N) : ∀ k, k + 1 ≤ tot → nstN (F.words rows N tot) y false (k + 1) = F.bst rows N (fun x => dist x y) false (k + 1)
  | 0, hk => by
    have hd := dist_le (F.word rows N ((0 : Nat) : Int)) y
    have h0 : (dist (F.word rows N ((0 : Nat) : Int)) y : Int) < (F.bst rows N (fun x => dist x y) false 0).1 := by simp only [Fd.bst]; omega
    have h1 : (nstN (F.words rows N tot) y false 0).1 < 0 := by simp [nstN]
    rw [nst_succ, bst_succ, words_gr _ _ _ _ (by omega), if_neg (by simp), if_pos (.inl h1), if_pos ⟨(fun h => by cases h), h0⟩]
  | k + 1, hk => by
    have ih := nst_bst F rows N tot y hy k (by omega)
    have hb := (bst_rng F rows N (fun x => dist x y) false (k + 1)).1
    rw [nst_succ, bst_succ, words_gr _ _ _ _ (by omega), ih, if_neg (by simp)]
    by_cases h : (dist (F.word rows N ((k + 1 : Nat) : Int)) y : Int) < (F.bst rows N (fun x => dist x y) false (k + 1)).1
    · rw [if_pos (.inr h), if_pos ⟨(fun h => by cases h), h⟩]
    · rw [if_neg (by omega), if_neg (fun h2 => h h2.2)]
theorem nst_light {F : Fd} (hO : F.Ok) {N tot : Nat} {rows : List (List Int)} {pv : List Int} {K : Nat} (H : Red F K N N rows pv) (hp : pv.length = K) (ht : (tot : Int) ≤ F.q ^ K) : ∀ k, k + 2 ≤ tot → nstN (F.words rows N tot) (List.replicate N 0) true (k + 2) = F.bst rows N wgt true (k + 2)
  | 0, hk => by
    have h0 : dist (gr (F.words rows N tot) 0) (List.replicate N 0) = 0 := by
      rw [words_gr _ _ _ _ (by omega), dist_zero (word_len F rows N _)]
      exact wgt_word0 hO rows N
    have hn := wgt_word_ne hO H hp (k := 1) (by omega) (by omega)
    have hle := wgt_word_le F rows N ((1 : Nat) : Int)
    have e1 : nstN (F.words rows N tot) (List.replicate N 0) true 1 = (-1, []) := by rw [nst_succ, if_pos ⟨rfl, h0⟩]; rfl
    have e2 : F.bst rows N wgt true 1 = ((N : Int) + 1, []) := by rw [bst_succ, if_neg (fun h => absurd (h.1 rfl) (by omega))]; rfl
    show nstN _ _ _ (1 + 1) = F.bst _ _ _ _ (1 + 1)
    rw [nst_succ, bst_succ, words_gr _ _ _ _ (by omega), dist_zero (word_len F rows N _), if_neg (fun h => hn h.2), e1, e2, if_pos (.inl (by simp)), if_pos ⟨(fun _ => by omega), by simp only; omega⟩]
  | k + 1, hk => by
    have ih := nst_light hO H hp ht k (by omega)
    have hb := (bst_rng F rows N wgt true (k + 2)).1
    have hn := wgt_word_ne hO H hp (k := k + 2) (by omega) (by omega)
    show nstN _ _ _ (k + 2 + 1) = F.bst _ _ _ _ (k + 2 + 1)
    rw [nst_succ, bst_succ, words_gr _ _ _ _ (by omega), dist_zero (word_len F rows N _), if_neg (fun h => hn h.2), ih]
    by_cases h : (wgt (F.word rows N ((k + 2 : Nat) : Int)) : Int) < (F.bst rows N wgt true (k + 2)).1
    · rw [if_pos (.inr h), if_pos ⟨(fun _ => by omega), h⟩]
    · rw [if_neg (by omega), if_neg (fun h2 => h h2.2)]

set_option maxRecDepth 100000 in
set_option maxHeartbeats 4000000 in
theorem law_enumerateNearest (F : Fd) (A : Option Addr) (n c : Nat) (rows : List (List Int)) (Ar : Option Addr) (nr cr : Nat) (N : Int) (y : List Int) (Ay : Option Addr) (ny cy : Nat) (m : List Int) (Am : Option Addr) (nm cm : Nat) (w : World) (hn : F.md.length = n) (hn2 : n ≤ 1000000000000000000) (hr : rows.length = nr) (hr2 : nr ≤ 1000000000000000000) (hrl : ∀ k, (gr rows k).length ≤ 1000000000000000000) (hy : y.length = ny) (hy2 : ny ≤ 1000000000000000000) (hm : m.length = nm) (hm2 : nm ≤ 1000000000000000000) [hA : Sl w A F.md] [hR : Sls w Ar rows] [hY : Sl w Ay y] [hM : Sl w Am m] :
    Calls Try.prog 6 #[.agg #[.int .i64 F.p, .int .i64 F.m, .slice A n c, .int .i64 N, .slice Ar nr cr], .slice Ay ny cy, .slice Am nm cm] w fun e w' => e = .returned (.bool true) ∧ Ext w w' := by
  cases hs : smallB F N rows with
  | false =>
    go_enter Try.func6, Try.ntmps6
    go_wp2_with (first
      | (go_at_call 17; refine (small_calls F A n c rows Ar nr cr N _ hn hn2 hr hr2 hrl).mono ?_; rintro e w1 ⟨rfl, hx1⟩; rw [hs])
      | (go_at_call 18; refine (alive_calls _).mono ?_; rintro e w2 ⟨rfl, hx2⟩))
    go_ret
    exact ⟨rfl, Bel.ext inferInstance⟩
  | true =>
    by_cases hE : nearE F N rows y = 0
    · have hwrd : wrdE F N rows y = 0 := by
        unfold nearE at hE
        split at hE
        · assumption
        · next h => exact absurd hE h
      have hok : sizE F N rows = 0 := by rw [nearE, if_pos hwrd] at hE; exact hE
      obtain ⟨hcod, hyl, hye⟩ := wrdE_ok hwrd
      obtain ⟨k1, k2, k3, k4, k5, k6⟩ := codE_ok hcod
      obtain ⟨NN, rfl⟩ : ∃ NN : Nat, N = NN := ⟨N.toNat, by omega⟩
      obtain ⟨_, hv1, hv2, hv3⟩ := sizE_ok hok
      obtain ⟨t1, ht⟩ : ∃ t1 : Nat, sizV F (NN : Int) rows = (t1 + 1 : Nat) := ⟨(sizV F (NN : Int) rows).toNat - 1, by omega⟩
      have htn : (sizV F (NN : Int) rows).toNat = t1 + 1 := by omega
      have hNL : nearL F (NN : Int) rows y = F.words rows NN (t1 + 1) := by
        rw [nearL, if_pos hwrd, wrdL, if_pos hok, htn]; rfl
      have hOW := fun w [hA : Sl w A F.md] [hR : Sls w Ar rows] [hY : Sl w Ay y] => enearest_calls F A n c rows Ar nr cr NN y Ay ny cy w hn hn2 hr hr2 hrl hy hy2 hE
      have hNE := fun w [hA : Sl w A F.md] [hR : Sls w Ar rows] [hY : Sl w Ay y] => near23_calls F A n c rows Ar nr cr NN y Ay ny cy w hn hn2 hr hr2 hrl hy hy2
      have hwl : (F.words rows NN (t1 + 1)).length = t1 + 1 := words_len _ _ _ _
      have hNS := fun (B : Option Addr) (kB : Nat) w [hL : Sls w B (F.words rows NN (t1 + 1))] [hY : Sl w Ay y] => nearest23_calls (F.words rows NN (t1 + 1)) y false B Ay (t1 + 1) kB ny cy w hwl (by omega) hy (by omega) (fun k => by
        by_cases hk : k < t1 + 1
        · rw [words_gr _ _ _ _ hk, word_len]; omega
        · rw [gr_out (by rw [words_len]; omega)]; simp)
      have hbl : (F.bst rows NN (fun x => dist x y) false (t1 + 1)).2.length ≤ 1000000 := by
        have : ∀ k, (F.bst rows NN (fun x => dist x y) false k).2.length ≤ NN := fun k => by
          induction k with
          | zero => simp [Fd.bst]
          | succ k ih =>
            rw [Fd.bst]; split
            · simp only [word_len]; exact Nat.le_refl _
            · exact ih
        have := this (t1 + 1)
        omega
      have hmin : ∀ i : Nat, i < t1 + 1 → (F.bst rows NN (fun x => dist x y) false (t1 + 1)).1 ≤ dist (F.word rows NN (i : Int)) y := fun i hi => bst_le F rows NN (fun x => dist x y) false (t1 + 1) i hi (fun h => by cases h)
      rw [htn] at hOW
      rw [hE, hNL, hwl] at hNE
      rw [hwl, nst_bst F rows NN (t1 + 1) y (by omega) t1 (by omega)] at hNS
      have hcw : encE F NN rows m = 0 → (F.bst rows NN (fun x => dist x y) false (t1 + 1)).1 ≤ dist (F.comb m rows NN) y := fun h => by
        obtain ⟨_, h1, h2⟩ := encE_ok h
        obtain ⟨i, hi, e⟩ := comb_word k1.good h1 h2 NN
        rw [e]
        refine hmin i ?_
        have : (i : Int) < ((t1 + 1 : Nat) : Int) := by rw [← ht, hv3]; exact hi
        omega
      generalize F.bst rows NN (fun x => dist x y) false (t1 + 1) = st at *
      generalize F.words rows NN (t1 + 1) = W at *
      have HOW := hidd hOW
      have HNE := hidd hNE
      have HNS := hidd hNS
      have HRL := hidd hrl
      have HCW := hidd hcw
      clear hOW hNE hNS hrl hcw hmin hE hwrd hok hcod hyl hye k1 k4 k5 k6 hv1 hv2 hv3 ht htn hNL hwl
      by_cases hme : encE F NN rows m = 0
      · have hcl : (F.comb m rows NN).length = NN := comb_len F m rows NN
        have hge := HCW.out hme
        clear HCW
        go_enter Try.func6, Try.ntmps6
        go_wp2_with (first
          | (go_at_call 17; refine (small_calls F A n c rows Ar nr cr NN _ hn hn2 hr hr2 HRL.out).mono ?_; rintro e w1 ⟨rfl, hx1⟩; rw [hs])
          | (go_at_call 32; refine (HOW.out _).mono ?_; rintro e w2 ⟨B2, kB2, rfl, hs2, hx2⟩)
          | (go_at_call 33; refine (HNE.out _).mono ?_; rintro e w3 ⟨B3, kB3, rfl, hs3, hx3⟩)
          | (go_at_call 29; refine (HNS.out _ _ _).mono ?_; rintro e w4 ⟨B4, kB4, rfl, hs4, hx4⟩)
          | (go_at_call 21; refine (same11_calls st.2 st.2 _ _ _ _ _ _ _ rfl rfl (by omega) (by omega)).mono ?_; rintro e w5 ⟨rfl, hx5⟩; simp only [decide_true])
          | (go_at_call 30; refine (enc12_yes F A n c rows Ar nr cr NN m Am nm cm _ hn hn2 hr hr2 HRL.out hm hm2 hme).mono ?_; rintro e w6 ⟨g6, rfl, hf6, ho6, hx6⟩)
          | (go_at_call 34; refine (dist23_calls (F.comb m rows NN) y _ Ay _ _ _ _ _ hcl hy (by omega)).mono ?_; rintro e w8 ⟨rfl, hx8⟩)
          | (go_at_call 18; refine (alive_calls _).mono ?_; rintro e w7 ⟨rfl, hx7⟩))
        go_ret
        exact ⟨rfl, Bel.ext inferInstance⟩
      · have hmb : (encE F NN rows m == 0) = false := by simp [hme]
        have HME := hidd hme
        clear hme HCW
        go_enter Try.func6, Try.ntmps6
        go_wp2_with (first
          | (go_at_call 17; refine (small_calls F A n c rows Ar nr cr NN _ hn hn2 hr hr2 HRL.out).mono ?_; rintro e w1 ⟨rfl, hx1⟩; rw [hs])
          | (go_at_call 32; refine (HOW.out _).mono ?_; rintro e w2 ⟨B2, kB2, rfl, hs2, hx2⟩)
          | (go_at_call 33; refine (HNE.out _).mono ?_; rintro e w3 ⟨B3, kB3, rfl, hs3, hx3⟩)
          | (go_at_call 29; refine (HNS.out _ _ _).mono ?_; rintro e w4 ⟨B4, kB4, rfl, hs4, hx4⟩)
          | (go_at_call 21; refine (same11_calls st.2 st.2 _ _ _ _ _ _ _ rfl rfl (by omega) (by omega)).mono ?_; rintro e w5 ⟨rfl, hx5⟩; simp only [decide_true])
          | (go_at_call 30; refine (enc12_no F A n c rows Ar nr cr NN m Am nm cm _ hn hn2 hr hr2 HRL.out hm hm2 HME.out).mono ?_; rintro e w6 ⟨rfl, hx6⟩)
          | (go_at_call 18; refine (alive_calls _).mono ?_; rintro e w7 ⟨rfl, hx7⟩))
        go_ret
        exact ⟨rfl, Bel.ext inferInstance⟩
    · have hOW := fun w [hA : Sl w A F.md] [hR : Sls w Ar rows] [hY : Sl w Ay y] => enearest_err F A n c rows Ar nr cr N y Ay ny cy w hn hn2 hr hr2 hrl hy hy2 hE
      have hNE := fun w [hA : Sl w A F.md] [hR : Sls w Ar rows] [hY : Sl w Ay y] => near23_calls F A n c rows Ar nr cr N y Ay ny cy w hn hn2 hr hr2 hrl hy hy2
      have hb : (nearE F N rows y != 0) = true := by simp [hE]
      generalize nearE F N rows y = E at *
      have HOW := hidd hOW
      have HNE := hidd hNE
      clear hOW hNE hE
      go_enter Try.func6, Try.ntmps6
      go_wp2_with (first
        | (go_at_call 17; refine (small_calls F A n c rows Ar nr cr N _ hn hn2 hr hr2 hrl).mono ?_; rintro e w1 ⟨rfl, hx1⟩; rw [hs])
        | (go_at_call 32; refine (HOW.out _).mono ?_; rintro e w2 ⟨rfl, hx2⟩)
        | (go_at_call 33; refine (HNE.out _).mono ?_; rintro e w3 ⟨B3, kB3, rfl, hs3, hx3⟩)
        | (go_at_call 18; refine (alive_calls _).mono ?_; rintro e w7 ⟨rfl, hx7⟩))
      go_ret
      exact ⟨rfl, Bel.ext inferInstance⟩

end Go.Proofs.Ytcigdhmecfhndaa

/- The walks of the laws EnumerateCosets and EnumerateLinear. -/
import Derived.Test.YtcigdhmecfhndaaCw
namespace Go.Proofs.Ytcigdhmecfhndaa
open Go.RowKit
attribute [local go_sem] cell_bx froz_bx cell_own froz_own cell_rd cell_cel ints_get ints_set cell_ownv froz_ownv eql_nil_int
set_option linter.unusedVariables false
set_option linter.unusedSimpArgs false

theorem nearE_ok {F : Fd} {N : Int} {rows : List (List Int)} {y : List Int} (h : nearE F N rows y = 0) : wrdE F N rows y = 0 ∧ sizE F N rows = 0 := by
  unfold nearE at h
  split at h
  · next h1 => exact ⟨h1, h⟩
  · next h1 => exact absurd h h1
theorem nearE_of {F : Fd} {N : Int} {rows : List (List Int)} {y : List Int} (h : sizE F N rows = 0) (hl : (y.length : Int) = N) (he : Ent F.q y) : nearE F N rows y = 0 := by
  have hw : wrdE F N rows y = 0 := by rw [wrdE, if_pos (sizE_ok h).1, lstE, if_pos hl]; exact entE_yes he
  rw [nearE, if_pos hw]; exact h

set_option maxRecDepth 100000 in
set_option maxHeartbeats 4000000 in
theorem law_enumerateCosets (F : Fd) (A : Option Addr) (n c : Nat) (rows : List (List Int)) (Ar : Option Addr) (nr cr : Nat) (N : Int) (y : List Int) (Ay : Option Addr) (ny cy : Nat) (m : List Int) (Am : Option Addr) (nm cm : Nat) (w : World) (hn : F.md.length = n) (hn2 : n ≤ 1000000000000000000) (hr : rows.length = nr) (hr2 : nr ≤ 1000000000000000000) (hrl : ∀ k, (gr rows k).length ≤ 1000000000000000000) (hy : y.length = ny) (hy2 : ny ≤ 1000000000000000000) (hm : m.length = nm) (hm2 : nm ≤ 1000000000000000000) [hA : Sl w A F.md] [hR : Sls w Ar rows] [hY : Sl w Ay y] [hM : Sl w Am m] :
    Calls Try.prog 10 #[.agg #[.int .i64 F.p, .int .i64 F.m, .slice A n c, .int .i64 N, .slice Ar nr cr], .slice Ay ny cy, .slice Am nm cm] w fun e w' => e = .returned (.bool true) ∧ Ext w w' := by
  have HRL := hidd hrl
  clear hrl
  cases hs : smallB F N rows with
  | false =>
    go_enter Try.func10, Try.ntmps10
    go_wp2_with (first
      | (go_at_call 17; refine (small_calls F A n c rows Ar nr cr N _ hn hn2 hr hr2 HRL.out).mono ?_; rintro e w1 ⟨rfl, hx1⟩; rw [hs])
      | (go_at_call 18; refine (alive_calls _).mono ?_; rintro e w2 ⟨rfl, hx2⟩))
    go_ret
    exact ⟨rfl, Bel.ext inferInstance⟩
  | true =>
    by_cases hE : nearE F N rows y = 0
    · obtain ⟨hwrd, hok⟩ := nearE_ok hE
      obtain ⟨hcod, hyl, hye⟩ := wrdE_ok hwrd
      obtain ⟨NN, rfl⟩ : ∃ NN : Nat, N = NN := ⟨N.toNat, by have := codE_ok hcod; omega⟩
      have hN64 : NN ≤ 64 := by have := codE_ok hcod; omega
      obtain rfl : ny = NN := by omega
      obtain ⟨_, hv1, hv2, hv3⟩ := sizE_ok hok
      obtain ⟨tot, ht⟩ : ∃ tot : Nat, sizV F (ny : Int) rows = tot := ⟨(sizV F (ny : Int) rows).toNat, by omega⟩
      have htn : (sizV F (ny : Int) rows).toNat = tot := by omega
      have H := Wds.of hok ht
      have hNL : nearL F (ny : Int) rows y = F.words rows ny tot := by rw [nearL, if_pos hwrd, wrdL, if_pos hok, htn]; rfl
      have hOW := fun (z : List Int) (Az : Option Addr) (nz cz : Nat) w [hA : Sl w A F.md] [hR : Sls w Ar rows] [hZ : Sl w Az z] (hz : z.length = nz) (hzE : nearE F (ny : Int) rows z = 0) => ecosw_calls F A n c rows Ar nr cr ny z Az nz cz w hn hn2 hr hr2 HRL.out hz hzE
      have hNE := fun w [hA : Sl w A F.md] [hR : Sls w Ar rows] [hY : Sl w Ay y] => cosw23_calls F A n c rows Ar nr cr ny y Ay ny cy w hn hn2 hr hr2 HRL.out hy (by omega) hE
      rw [htn] at hOW
      rw [hNL] at hNE
      have hpe : prof (F.words rows ny tot) (F.negV y) = prof (F.words rows ny tot) y := prof_eq (negV_len F y) fun e => cnt_neg H hy hye e
      have hzw : encE F ny rows m = 0 → nearE F (ny : Int) rows (F.addV y (F.comb m rows ny)) = 0 ∧ (F.addV y (F.comb m rows ny)).length = ny ∧ prof (F.words rows ny tot) (F.negV (F.addV y (F.comb m rows ny))) = prof (F.words rows ny tot) y := fun h => by
        obtain ⟨_, h1, h2⟩ := encE_ok h
        obtain ⟨t, ht2, e⟩ := H.at_ h1 h2
        have hl : (F.addV y (F.comb m rows ny)).length = ny := by rw [addV_len]; exact hy
        have he := ent_addV H.ref.good y (F.comb m rows ny)
        refine ⟨nearE_of hok (by omega) he, hl, ?_⟩
        refine prof_eq (by rw [negV_len, hl, hy]) fun d => ?_
        rw [cnt_neg H hl he, e, cnt_shift H hy hye ht2]
      have hpl : (prof (F.words rows ny tot) y).length = ny + 1 := by rw [prof_len, hy]
      have hOY := fun w [hA : Sl w A F.md] [hR : Sls w Ar rows] [hY : Sl w Ay y] => hOW y Ay ny cy w hy hE
      rw [hpe] at hOY
      have hG := H.ref.good
      by_cases hme : encE F ny rows m = 0
      · obtain ⟨z1, z2, z3⟩ := hzw hme
        have hcl : (F.comb m rows ny).length = ny := comb_len F m rows ny
        have hOZ := fun (Az : Option Addr) (cz : Nat) w [hA : Sl w A F.md] [hR : Sls w Ar rows] [hZ : Sl w Az (F.addV y (F.comb m rows ny))] => hOW _ Az ny cz w z2 z1
        rw [z3] at hOZ
        have hAD := fun (mv : Value) (g : Nat) w [hY : Sl w Ay y] [hC : Own w g (F.comb m rows ny)] => add11_calls F mv y (F.comb m rows ny) Ay (some ⟨g, 0, none⟩) ny cy ny ny w hG hy hcl rfl (by omega)
        generalize prof (F.words rows ny tot) y = P at *
        have HOY := hidd hOY
        have HNE := hidd hNE
        have HOZ := hidd hOZ
        have HAD := hidd hAD
        clear hOW hNE hOY hOZ hAD hpe hzw hE hwrd hok hcod hyl hye hv1 hv2 hv3 ht htn H hNL z1 z3 hG
        go_enter Try.func10, Try.ntmps10
        go_upto_region 9 with (first
          | (go_at_call 17; refine (small_calls F A n c rows Ar nr cr ny _ hn hn2 hr hr2 HRL.out).mono ?_; rintro e w1 ⟨rfl, hx1⟩; rw [hs])
          | (go_at_call 45; refine (HOY.out _).mono ?_; rintro e w2 ⟨g2, rfl, ho2, hx2⟩)
          | (go_at_call 46; refine (HNE.out _).mono ?_; rintro e w3 ⟨g3, rfl, ho3, hx3⟩)
          | (go_at_call 21; refine (same11_calls P P _ _ _ _ _ _ _ hpl hpl (by omega) (by omega)).mono ?_; rintro e w5 ⟨rfl, hx5⟩; simp only [decide_true])
          | (go_at_call 30; refine (enc12_yes F A n c rows Ar nr cr ny m Am nm cm _ hn hn2 hr hr2 HRL.out hm hm2 hme).mono ?_; rintro e w6 ⟨g6, rfl, hf6, ho6, hx6⟩))
        go_wp2_with (first
          | (go_at_call 47; refine (HAD.out _ _ _).mono ?_; rintro e w7 ⟨g7, rfl, hf7, ho7, hx7⟩)
          | (go_at_call 45; refine (HOZ.out _ _ _).mono ?_; rintro e w8 ⟨g8, rfl, ho8, hx8⟩)
          | (go_at_call 21; refine (same11_calls P P _ _ _ _ _ _ _ hpl hpl (by omega) (by omega)).mono ?_; rintro e w9 ⟨rfl, hx9⟩; simp only [decide_true])
          | (go_at_call 18; refine (alive_calls _).mono ?_; rintro e w10 ⟨rfl, hx10⟩))
        go_ret
        exact ⟨rfl, Bel.ext inferInstance⟩
      · have hmb : (encE F ny rows m == 0) = false := by simp [hme]
        have HME := hidd hme
        generalize prof (F.words rows ny tot) y = P at *
        have HOY := hidd hOY
        have HNE := hidd hNE
        clear hOW hNE hOY hpe hzw hE hwrd hok hcod hyl hye hv1 hv2 hv3 ht htn H hNL hG hme
        go_enter Try.func10, Try.ntmps10
        go_wp2_with (first
          | (go_at_call 17; refine (small_calls F A n c rows Ar nr cr ny _ hn hn2 hr hr2 HRL.out).mono ?_; rintro e w1 ⟨rfl, hx1⟩; rw [hs])
          | (go_at_call 45; refine (HOY.out _).mono ?_; rintro e w2 ⟨g2, rfl, ho2, hx2⟩)
          | (go_at_call 46; refine (HNE.out _).mono ?_; rintro e w3 ⟨g3, rfl, ho3, hx3⟩)
          | (go_at_call 21; refine (same11_calls P P _ _ _ _ _ _ _ hpl hpl (by omega) (by omega)).mono ?_; rintro e w5 ⟨rfl, hx5⟩; simp only [decide_true])
          | (go_at_call 30; refine (enc12_no F A n c rows Ar nr cr ny m Am nm cm _ hn hn2 hr hr2 HRL.out hm hm2 HME.out).mono ?_; rintro e w6 ⟨rfl, hx6⟩)
          | (go_at_call 18; refine (alive_calls _).mono ?_; rintro e w10 ⟨rfl, hx10⟩))
        go_ret
        exact ⟨rfl, Bel.ext inferInstance⟩
    · have hOW := fun w [hA : Sl w A F.md] [hR : Sls w Ar rows] [hY : Sl w Ay y] => ecosw_err F A n c rows Ar nr cr N y Ay ny cy w hn hn2 hr hr2 HRL.out hy hy2 hE
      have hNE := fun w [hA : Sl w A F.md] [hR : Sls w Ar rows] [hY : Sl w Ay y] => cosw23_err F A n c rows Ar nr cr N y Ay ny cy w hn hn2 hr hr2 HRL.out hy hy2 hE
      have hb : (nearE F N rows y == 0) = false := by simp [hE]
      generalize nearE F N rows y = E at *
      have HOW := hidd hOW
      have HNE := hidd hNE
      clear hOW hNE hE
      by_cases hme : encE F N rows m = 0
      · obtain ⟨hcod, _, _⟩ := encE_ok hme
        obtain ⟨NN, rfl⟩ : ∃ NN : Nat, N = NN := ⟨N.toNat, by have := codE_ok hcod; omega⟩
        go_enter Try.func10, Try.ntmps10
        go_wp2_with (first
          | (go_at_call 17; refine (small_calls F A n c rows Ar nr cr NN _ hn hn2 hr hr2 HRL.out).mono ?_; rintro e w1 ⟨rfl, hx1⟩; rw [hs])
          | (go_at_call 45; refine (HOW.out _).mono ?_; rintro e w2 ⟨rfl, hx2⟩)
          | (go_at_call 46; refine (HNE.out _).mono ?_; rintro e w3 ⟨rfl, hx3⟩)
          | (go_at_call 21; refine (same11_calls [] [] none none 0 0 0 0 _ rfl rfl (by omega) (by omega)).mono ?_; rintro e w5 ⟨rfl, hx5⟩; simp only [decide_true])
          | (go_at_call 30; refine (enc12_yes F A n c rows Ar nr cr NN m Am nm cm _ hn hn2 hr hr2 HRL.out hm hm2 hme).mono ?_; rintro e w6 ⟨g6, rfl, hf6, ho6, hx6⟩)
          | (go_at_call 18; refine (alive_calls _).mono ?_; rintro e w10 ⟨rfl, hx10⟩))
        go_ret
        exact ⟨rfl, Bel.ext inferInstance⟩
      · have HME := hidd hme
        clear hme
        go_enter Try.func10, Try.ntmps10
        go_wp2_with (first
          | (go_at_call 17; refine (small_calls F A n c rows Ar nr cr N _ hn hn2 hr hr2 HRL.out).mono ?_; rintro e w1 ⟨rfl, hx1⟩; rw [hs])
          | (go_at_call 45; refine (HOW.out _).mono ?_; rintro e w2 ⟨rfl, hx2⟩)
          | (go_at_call 46; refine (HNE.out _).mono ?_; rintro e w3 ⟨rfl, hx3⟩)
          | (go_at_call 21; refine (same11_calls [] [] none none 0 0 0 0 _ rfl rfl (by omega) (by omega)).mono ?_; rintro e w5 ⟨rfl, hx5⟩; simp only [decide_true])
          | (go_at_call 30; refine (enc12_no F A n c rows Ar nr cr N m Am nm cm _ hn hn2 hr hr2 HRL.out hm hm2 HME.out).mono ?_; rintro e w6 ⟨rfl, hx6⟩)
          | (go_at_call 18; refine (alive_calls _).mono ?_; rintro e w10 ⟨rfl, hx10⟩))
        go_ret
        exact ⟨rfl, Bel.ext inferInstance⟩

theorem disR_words {F : Fd} {rows : List (List Int)} {N tot : Nat} (H : Wds F rows N tot) (e : Nat) : gt (disR (F.words rows N tot) N tot) e = tot * gt (F.wdist rows N tot) e := by
  have hlen : ∀ k, k < (F.words rows N tot).length → (gr (F.words rows N tot) k).length = N := fun k hk => by
    rw [words_len] at hk
    rw [words_gr _ _ _ _ hk, word_len]
  rw [gt_disR hlen e tot (by rw [words_len]; exact Nat.le_refl _), words_len, ← prof_wdist, prof_cnt, ← sumI_const]
  refine sumI_congr _ fun i hi => ?_
  have hz : (List.replicate N (0 : Int)).length = N := by simp
  have hze : Ent F.q (List.replicate N 0) := fun k _ => by rw [gt_rep]; have := H.ref.good.q2; omega
  have h1 := cnt_shift H hz hze hi e
  have h2 : F.addV (List.replicate N 0) (F.word rows N (i : Int)) = F.word rows N (i : Int) := by
    refine ext_gt (by rw [addV_len, hz, word_len]) fun j hj => ?_
    rw [addV_len, hz] at hj
    rw [gt_addV (by rw [hz]; exact hj), gt_rep, zero_add' H.ok (ent_word H (i : Int) j (by rw [word_len]; exact hj))]
  rw [h2] at h1
  rw [← h1, cntW]
  exact sumI_congr _ fun j hj => by rw [words_gr _ _ _ _ hi, words_gr _ _ _ _ hj, dist_comm]

set_option maxRecDepth 100000 in
set_option maxHeartbeats 4000000 in
theorem law_enumerateLinear (F : Fd) (A : Option Addr) (n c : Nat) (rows : List (List Int)) (Ar : Option Addr) (nr cr : Nat) (N : Int) (w : World) (hn : F.md.length = n) (hn2 : n ≤ 1000000000000000000) (hr : rows.length = nr) (hr2 : nr ≤ 1000000000000000000) (hrl : ∀ k, (gr rows k).length ≤ 1000000000000000000) [hA : Sl w A F.md] [hR : Sls w Ar rows] :
    Calls Try.prog 9 #[.agg #[.int .i64 F.p, .int .i64 F.m, .slice A n c, .int .i64 N, .slice Ar nr cr]] w fun e w' => e = .returned (.bool true) ∧ Ext w w' := by
  have HRL := hidd hrl
  clear hrl
  by_cases hc0 : cntV F N rows 256 = 0
  · go_enter Try.func9, Try.ntmps9
    go_wp2_with (first
      | (go_at_call 18; refine (alive_calls _).mono ?_; rintro e w1 ⟨rfl, hx1⟩)
      | (go_at_call 44; refine (count12_calls F A n c rows Ar nr cr N 256 _ hn hn2 hr hr2 HRL.out).mono ?_; rintro e w2 ⟨rfl, hx2⟩; rw [hc0]))
    go_ret
    exact ⟨rfl, Bel.ext inferInstance⟩
  · have hcb : (cntV F N rows 256 == 0) = false := by simp [hc0]
    have hcv : sizE F N rows = 0 ∧ sizV F N rows ≤ 256 := by
      unfold cntV at hc0
      split at hc0
      · assumption
      · exact absurd rfl hc0
    obtain ⟨hok, hle⟩ := hcv
    obtain ⟨hcod, hv1, hv2, hv3⟩ := sizE_ok hok
    obtain ⟨k1, k2, k3, k4, k5, k6⟩ := codE_ok hcod
    obtain ⟨NN, rfl⟩ : ∃ NN : Nat, N = NN := ⟨N.toNat, by omega⟩
    obtain ⟨tot, ht⟩ : ∃ tot : Nat, sizV F (NN : Int) rows = tot := ⟨(sizV F (NN : Int) rows).toNat, by omega⟩
    have htn : (sizV F (NN : Int) rows).toNat = tot := by omega
    have H := Wds.of hok ht
    have hWL : wrdL F (NN : Int) rows = F.words rows NN tot := by rw [wrdL, if_pos hok, htn]; rfl
    have hwl : (F.words rows NN tot).length = tot := words_len _ _ _ _
    have hlen : ∀ k, k < (F.words rows NN tot).length → (gr (F.words rows NN tot) k).length = NN := fun k hk => by
      rw [words_len] at hk
      rw [words_gr _ _ _ _ hk, word_len]
    have hdE : disE F (NN : Int) (F.words rows NN tot) = 0 := by
      rw [disE, if_pos k1, if_neg (by omega), if_neg (by omega)]
      refine fstE_zero _ fun j hj => ?_
      rw [hwl] at hj
      rw [words_gr _ _ _ _ hj, lstE, if_pos (by rw [word_len])]
      exact entE_yes (ent_word H _)
    have hWS := fun w [hA : Sl w A F.md] [hR : Sls w Ar rows] => words12_calls F A n c rows Ar nr cr NN w hn hn2 hr hr2 HRL.out
    have hDS := fun (B : Option Addr) (kB : Nat) (hkB : tot ≤ kB) w [hA : Sl w A F.md] [hL : Sls w B (F.words rows NN tot)] => edis_calls F A n c NN (F.words rows NN tot) B tot kB w hn hn2 hwl hkB hdE
    have hEW := fun w [hA : Sl w A F.md] [hR : Sls w Ar rows] => eweights_calls F A n c rows Ar nr cr NN w hn hn2 hr hr2 HRL.out hok
    rw [hok, hWL, hwl] at hWS
    rw [dis_eq hlen, hwl] at hDS
    rw [htn] at hEW
    have hD := fun e => disR_words H e
    have hdl := disR_len (F.words rows NN tot) NN tot
    have hwdl := wdist_len F rows NN tot
    have hwr := wdist_rng F rows NN tot
    generalize disR (F.words rows NN tot) NN tot = D at *
    generalize F.wdist rows NN tot = WD at *
    generalize F.words rows NN tot = W at *
    have ht256 : tot ≤ 256 := by omega
    have hN64 : NN ≤ 64 := by omega
    have HWS := hidd hWS
    have HDS := hidd hDS
    have HEW := hidd hEW
    have HD := hidd hD
    have HWR := hidd hwr
    clear hWS hDS hEW hD hwr hc0 hok hle hcod hv1 hv2 hv3 k1 k4 k5 k6 ht htn H hWL hwl hlen hdE
    go_enter Try.func9, Try.ntmps9
    go_wp2_with (first
      | (go_at_call 18; refine (alive_calls _).mono ?_; rintro e w1 ⟨rfl, hx1⟩)
      | (go_at_call 44; refine (count12_calls F A n c rows Ar nr cr NN 256 _ hn hn2 hr hr2 HRL.out).mono ?_; rintro e w2 ⟨rfl, hx2⟩)
      | (go_at_call 28; refine (HWS.out _).mono ?_; rintro e w3 ⟨B, kB, rfl, hkB, hsB, hx3⟩)
      | (go_at_call 35; refine (HDS.out _ _ hkB _).mono ?_; rintro e w4 ⟨g4, rfl, ho4, hx4⟩)
      | (go_at_call 19; refine (HEW.out _).mono ?_; rintro e w5 ⟨g5, rfl, ho5, hx5⟩))
    have hB5 : Bel w w5 := inferInstance
    have ho45 : Own w5 g4 D := inferInstance
    have hbx5 : Bx w5 w.heap.size #[.int .i64 F.p, .int .i64 F.m, .slice A n c, .int .i64 (NN : Int), .slice Ar nr cr] 27 := inferInstance
    clear hx1 hx2 hx3 hx4 hx5 ho4
    go_loopw [9] (fun iv wr => ∃ (i : Nat), iv = .int .i64 i ∧ i ≤ NN + 1 ∧ Bel w wr ∧ Own wr g4 D ∧ Own wr g5 WD ∧ Bx wr w.heap.size #[.int .i64 F.p, .int .i64 F.m, .slice A n c, .int .i64 (NN : Int), .slice Ar nr cr] 27) (fun iv _ => NN + 1 - (intOf iv).toNat)
    case atStart => exact ⟨0, rfl, by omega, hB5, ho45, ho5, hbx5⟩
    case round =>
      clear hB5 ho45 ho5 hbx5
      obtain ⟨i, rfl, hi, hB, hoD, hoW, hbx⟩ := hrel
      by_cases hlt : i < NN + 1
      · have hle2 : (i : Int) ≤ NN := by omega
        have hltI : (i : Int) < (NN : Int) + 1 := by omega
        have hDi := HD.out i
        have hWi := HWR.out i
        have hmul : 0 ≤ (tot : Int) * gt WD i ∧ (tot : Int) * gt WD i ≤ 256 * 256 := by
          refine ⟨Int.mul_nonneg (by omega) hWi.1, ?_⟩
          exact Int.mul_le_mul (by omega) (by omega) hWi.1 (by omega)
        have hwr2 : IntKind.i64.wrap ((tot : Int) * gt WD i) = (tot : Int) * gt WD i := wr_in (by omega) (by omega)
        have hne : (gt D i != (tot : Int) * gt WD i) = false := by rw [hDi]; simp
        have hin1 : i < D.length := by omega
        have hin2 : i < WD.length := by omega
        clear hDi hWi hmul
        go_wp2
        go_quiet (fail)
        go_wp2
        go_roundw
        case rel => exact ⟨i + 1, by go_num, by omega, inferInstance, inferInstance, inferInstance, inferInstance⟩
        case measure => simp [intOf] <;> omega
      · obtain rfl : i = NN + 1 := by omega
        have hle2 : ¬ ((NN + 1 : Nat) : Int) ≤ NN := by omega
        go_wp2
        go_ret
        exact ⟨rfl, Bel.ext inferInstance⟩

end Go.Proofs.Ytcigdhmecfhndaa

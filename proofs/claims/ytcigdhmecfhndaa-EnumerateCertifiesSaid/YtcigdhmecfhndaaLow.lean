/- The walk of the law EnumerateOfWeight. -/
import Derived.Test.YtcigdhmecfhndaaOw
namespace Go.Proofs.Ytcigdhmecfhndaa
open Go.RowKit
attribute [local go_sem] cell_bx froz_bx cell_own froz_own cell_rd cell_cel ints_get ints_set cell_ownv froz_ownv eql_nil_int
set_option linter.unusedVariables false
set_option linter.unusedSimpArgs false

theorem gt_rep (n k : Nat) : gt (List.replicate n 0) k = 0 := by
  simp only [gt, List.getD_eq_getElem?_getD, List.getElem?_replicate]
  split <;> rfl
theorem wrdE_zero {F : Fd} {N : Nat} {rows : List (List Int)} (h : codE F (N : Int) rows = 0) : wrdE F (N : Int) rows (List.replicate N 0) = 0 := by
  rw [wrdE, if_pos h, lstE, if_pos (by simp)]
  exact entE_yes fun k _ => by rw [gt_rep]; have := (codE_ok h).1.good.q2; omega
theorem witL_ofw {F : Fd} {N : Nat} {rows : List (List Int)} {wt : Int} (hok : sizE F (N : Int) rows = 0) (h0 : 0 ≤ wt) (h1 : wt ≤ N) : witE F (N : Int) rows (List.replicate N 0) wt wt = 0 ∧ witL F (N : Int) rows (List.replicate N 0) wt wt = F.ofw rows N wt (sizV F (N : Int) rows).toNat := by
  have hE : witE F (N : Int) rows (List.replicate N 0) wt wt = 0 := by rw [witE, if_pos (wrdE_zero (sizE_ok hok).1), if_neg (by omega)]; exact hok
  refine ⟨hE, ?_⟩
  rw [witL, if_pos hE, selL, List.take_length, wrdL, if_pos hok, Fd.ofw]
  refine List.filter_congr fun x hx => ?_
  have hl : x.length = N := by
    simp only [Fd.words, List.mem_map] at hx
    obtain ⟨i, _, rfl⟩ := hx
    exact word_len F rows N i
  rw [selB, dist_zero hl]
  exact decide_eq_decide.2 (by omega)
theorem ofw_count (F : Fd) (rows : List (List Int)) (N : Nat) {wt : Int} (h0 : 0 ≤ wt) (h1 : wt ≤ N) : ∀ k, ((F.ofw rows N wt k).length : Int) = gt (F.wdist rows N k) wt.toNat
  | 0 => by rw [Fd.wdist, loopN, gt_rep]; simp [Fd.ofw, Fd.words]
  | k + 1 => by
    have ih := ofw_count F rows N h0 h1 k
    have hle := wgt_word_le F rows N (k : Int)
    rw [Fd.wdist, loopN_succ, ← Fd.wdist, wdS, gt_set _ _ _ _ (by rw [wdist_len]; omega)]
    by_cases he : (wgt (F.word rows N (k : Int)) : Int) = wt
    · rw [ofw_yes he, if_pos (by omega), List.length_append, List.length_singleton, show wgt (F.word rows N (k : Int)) = wt.toNat by omega]
      omega
    · rw [ofw_no he, if_neg (by omega)]
      exact ih

noncomputable def ofwE (F : Fd) (N : Int) (rows : List (List Int)) (wt : Int) : Int := if codE F N rows = 0 then (if wt < 0 ∨ N < wt then 6 else sizE F N rows) else codE F N rows

set_option maxRecDepth 100000 in
set_option maxHeartbeats 4000000 in
theorem ofw_err (F : Fd) (A : Option Addr) (n c : Nat) (rows : List (List Int)) (Ar : Option Addr) (nr cr : Nat) (N : Int) (wt : Int) (w : World) (hn : F.md.length = n) (hn2 : n ≤ 1000000000000000000) (hr : rows.length = nr) (hr2 : nr ≤ 1000000000000000000) (hrl : ∀ k, (gr rows k).length ≤ 1000000000000000000) (hno : ofwE F N rows wt ≠ 0) [hA : Sl w A F.md] [hR : Sls w Ar rows] :
    Calls Try.prog 23 #[.agg #[.int .i64 F.p, .int .i64 F.m, .slice A n c, .int .i64 N, .slice Ar nr cr], .int .i64 wt] w fun e w' => e = .returned (.tuple #[.slice none 0 0, .int .i64 (ofwE F N rows wt)]) ∧ Ext w w' := by
  by_cases hc : codE F N rows = 0
  · by_cases h1 : wt < 0
    · have HE : Hid (ofwE F N rows wt = 6) := by show _ = _; rw [ofwE, if_pos hc, if_pos (.inl h1)]
      clear hno
      go_enter Try.func23, Try.ntmps23
      go_wp2_with (go_at_call 71; refine (ccheck_calls F A n c rows Ar nr cr N _ hn hn2 hr hr2 hrl).mono ?_; rintro e w1 ⟨rfl, hx1⟩; rw [hc])
      go_ret2
      rw [HE.out]
      exact ⟨rfl, Bel.ext inferInstance⟩
    · by_cases h2 : N < wt
      · have HE : Hid (ofwE F N rows wt = 6) := by show _ = _; rw [ofwE, if_pos hc, if_pos (.inr h2)]
        clear hno
        go_enter Try.func23, Try.ntmps23
        go_wp2_with (go_at_call 71; refine (ccheck_calls F A n c rows Ar nr cr N _ hn hn2 hr hr2 hrl).mono ?_; rintro e w1 ⟨rfl, hx1⟩; rw [hc])
        go_ret2
        rw [HE.out]
        exact ⟨rfl, Bel.ext inferInstance⟩
      · have he : ofwE F N rows wt = sizE F N rows := by rw [ofwE, if_pos hc, if_neg (by omega)]
        rw [he] at hno
        have hb : (sizE F N rows != 0) = true := by simp [hno]
        have HE := hidd he
        clear hno he
        go_enter Try.func23, Try.ntmps23
        go_wp2_with (first
          | (go_at_call 71; refine (ccheck_calls F A n c rows Ar nr cr N _ hn hn2 hr hr2 hrl).mono ?_; rintro e w1 ⟨rfl, hx1⟩; rw [hc])
          | (go_at_call 65; refine (csize_calls F A n c rows Ar nr cr N _ hn hn2 hr hr2 hrl).mono ?_; rintro e w2 ⟨rfl, hx2⟩))
        go_ret2
        rw [HE.out]
        exact ⟨rfl, Bel.ext inferInstance⟩
  · have hb : (codE F N rows != 0) = true := by simp [hc]
    have HE : Hid (ofwE F N rows wt = codE F N rows) := by show _ = _; rw [ofwE, if_neg hc]
    clear hc hno
    go_enter Try.func23, Try.ntmps23
    go_wp2_with (go_at_call 71; refine (ccheck_calls F A n c rows Ar nr cr N _ hn hn2 hr hr2 hrl).mono ?_; rintro e w1 ⟨rfl, hx1⟩)
    go_ret2
    rw [HE.out]
    exact ⟨rfl, Bel.ext inferInstance⟩

set_option maxRecDepth 100000 in
set_option maxHeartbeats 4000000 in
theorem law_enumerateOfWeight (F : Fd) (A : Option Addr) (n c : Nat) (rows : List (List Int)) (Ar : Option Addr) (nr cr : Nat) (N : Int) (wt : Int) (w : World) (hn : F.md.length = n) (hn2 : n ≤ 1000000000000000000) (hr : rows.length = nr) (hr2 : nr ≤ 1000000000000000000) (hrl : ∀ k, (gr rows k).length ≤ 1000000000000000000) [hA : Sl w A F.md] [hR : Sls w Ar rows] :
    Calls Try.prog 4 #[.agg #[.int .i64 F.p, .int .i64 F.m, .slice A n c, .int .i64 N, .slice Ar nr cr], .int .i64 wt] w fun e w' => e = .returned (.bool true) ∧ Ext w w' := by
  cases hs : smallB F N rows with
  | false =>
    go_enter Try.func4, Try.ntmps4
    go_wp2_with (first
      | (go_at_call 17; refine (small_calls F A n c rows Ar nr cr N _ hn hn2 hr hr2 hrl).mono ?_; rintro e w1 ⟨rfl, hx1⟩; rw [hs])
      | (go_at_call 18; refine (alive_calls _).mono ?_; rintro e w2 ⟨rfl, hx2⟩))
    go_ret
    exact ⟨rfl, Bel.ext inferInstance⟩
  | true =>
    by_cases hcod : codE F N rows = 0
    · obtain ⟨k1, k2, k3, k4, k5, k6⟩ := codE_ok hcod
      obtain ⟨NN, rfl⟩ : ∃ NN : Nat, N = NN := ⟨N.toNat, by omega⟩
      have hmk := mk_int NN (by omega)
      have hzl : (List.replicate NN (0 : Int)).length = NN := by simp
      by_cases hE : ofwE F NN rows wt = 0
      · have hwr : ¬ (wt < 0 ∨ (NN : Int) < wt) := fun h => by rw [ofwE, if_pos hcod, if_pos h] at hE; cases hE
        have hok : sizE F NN rows = 0 := by rw [ofwE, if_pos hcod, if_neg hwr] at hE; exact hE
        have h0 : 0 ≤ wt := by omega
        have h1 : wt ≤ NN := by omega
        obtain ⟨hwE, hwL⟩ := witL_ofw hok h0 h1
        have hcnt := ofw_count F rows NN h0 h1 (sizV F NN rows).toNat
        obtain ⟨d, rfl⟩ : ∃ d : Nat, wt = d := ⟨wt.toNat, by omega⟩
        rw [show ((d : Nat) : Int).toNat = d from rfl] at hcnt
        have hlen := wdist_len F rows NN (sizV F NN rows).toNat
        have hle := ofw_le F rows NN (d : Int) (sizV F NN rows).toNat
        have hv := (sizE_ok hok).2.2.1
        have hOW := fun w [hA : Sl w A F.md] [hR : Sls w Ar rows] => ofw_calls F A n c rows Ar nr cr NN d w hn hn2 hr hr2 hrl hok h0 h1
        have hWI := fun (Az : Option Addr) (cz : Nat) w [hA : Sl w A F.md] [hR : Sls w Ar rows] [hZ : Sl w Az (List.replicate NN 0)] => within23_yes F A n c rows Ar nr cr NN (List.replicate NN 0) Az NN cz d d w hn hn2 hr hr2 hrl hzl (by omega) hwE
        have hEW := fun w [hA : Sl w A F.md] [hR : Sls w Ar rows] => eweights_calls F A n c rows Ar nr cr NN w hn hn2 hr hr2 hrl hok
        rw [hwL] at hWI
        have hgr : ∀ k, (gr (F.ofw rows NN d (sizV F NN rows).toNat) k).length ≤ 1000000000000000000 := fun k => by
          by_cases hk : k < (F.ofw rows NN d (sizV F NN rows).toNat).length
          · have := gr_mem hk
            simp only [Fd.ofw, List.mem_filter, Fd.words, List.mem_map] at this
            obtain ⟨⟨i, _, e⟩, _⟩ := this
            have e2 : gr (F.ofw rows NN d (sizV F NN rows).toNat) k = F.word rows NN i := by rw [e]; rfl
            rw [e2, word_len]; omega
          · rw [gr_out (by omega)]; simp
        generalize F.ofw rows NN d (sizV F NN rows).toNat = L at *
        generalize F.wdist rows NN (sizV F NN rows).toNat = WD at *
        have HOW := hidd hOW
        have HWI := hidd hWI
        have HEW := hidd hEW
        have HGR := hidd hgr
        have hind : In d WD.length := ⟨by omega⟩
        have hll : L.length ≤ 1000000 := by omega
        have hdl : d < NN + 1 := by omega
        have hdl2 : d < WD.length := by omega
        have hne : (gt WD d != (L.length : Int)) = false := by simp [hcnt]
        clear hOW hWI hEW hgr hE hwE hwL hok hcnt hv hle hwr k4 k5 k6
        go_enter Try.func4, Try.ntmps4
        go_upto_region 7 with (first
          | (go_at_call 17; refine (small_calls F A n c rows Ar nr cr NN _ hn hn2 hr hr2 hrl).mono ?_; rintro e w1 ⟨rfl, hx1⟩; rw [hs])
          | (go_at_call 23; refine (HOW.out _).mono ?_; rintro e w2 ⟨B2, kB2, rfl, hs2, hx2⟩)
          | (go_at_call 24; refine (check12_calls F A n c rows Ar nr cr NN _ hn hn2 hr hr2 hrl).mono ?_; rintro e w3 ⟨rfl, hx3⟩; rw [hcod]))
        have hX : Near w3.heap.size w3 w3 := ⟨Below.refl _ _⟩
        go_region_held3 (fun w' => Near w3.heap.size w3 w') (infer_instance)
          ((go_at_call 25; refine (HWI.out _ _ _).mono ?_; rintro e w4 ⟨B4, kB4, rfl, hs4, hx4⟩))
        go_wp2_with (first
          | (go_at_call 26; refine (sameLists_calls L L _ _ _ _ _ _ _ rfl rfl (by omega) HGR.out HGR.out).mono ?_; rintro e w5 ⟨rfl, hx5⟩; simp only [decide_true])
          | (go_at_call 19; refine (HEW.out _).mono ?_; rintro e w6 ⟨g6, rfl, ho6, hx6⟩)
          | (go_at_call 18; refine (alive_calls _).mono ?_; rintro e w7 ⟨rfl, hx7⟩))
        go_ret
        exact ⟨rfl, Bel.ext inferInstance⟩
      · have hwE : witE F NN rows (List.replicate NN 0) wt wt = ofwE F NN rows wt := by
          rw [witE, if_pos (wrdE_zero hcod), ofwE, if_pos hcod]
          by_cases h : wt < 0 ∨ (NN : Int) < wt
          · rw [if_pos h, if_pos (by omega)]
          · rw [if_neg h, if_neg (by omega)]
        have hb : (ofwE F NN rows wt != 0) = true := by simp [hE]
        have hb2 : (ofwE F NN rows wt == 0) = false := by simp [hE]
        have hOW := fun w [hA : Sl w A F.md] [hR : Sls w Ar rows] => ofw_err F A n c rows Ar nr cr NN wt w hn hn2 hr hr2 hrl hE
        have hWI := fun (Az : Option Addr) (cz : Nat) w [hA : Sl w A F.md] [hR : Sls w Ar rows] [hZ : Sl w Az (List.replicate NN 0)] => within23_no F A n c rows Ar nr cr NN (List.replicate NN 0) Az NN cz wt wt w hn hn2 hr hr2 hrl hzl (by omega) (by rw [hwE]; exact hE)
        rw [hwE] at hWI
        generalize ofwE F NN rows wt = E at *
        have HOW := hidd hOW
        have HWI := hidd hWI
        clear hOW hWI hE hwE k4 k5 k6
        go_enter Try.func4, Try.ntmps4
        go_upto_region 7 with (first
          | (go_at_call 17; refine (small_calls F A n c rows Ar nr cr NN _ hn hn2 hr hr2 hrl).mono ?_; rintro e w1 ⟨rfl, hx1⟩; rw [hs])
          | (go_at_call 23; refine (HOW.out _).mono ?_; rintro e w2 ⟨rfl, hx2⟩)
          | (go_at_call 24; refine (check12_calls F A n c rows Ar nr cr NN _ hn hn2 hr hr2 hrl).mono ?_; rintro e w3 ⟨rfl, hx3⟩; rw [hcod]))
        have hX : Near w3.heap.size w3 w3 := ⟨Below.refl _ _⟩
        go_region_held3 (fun w' => Near w3.heap.size w3 w') (infer_instance)
          ((go_at_call 25; refine (HWI.out _ _ _).mono ?_; rintro e w4 ⟨rfl, hx4⟩))
        go_wp2_with (first
          | (go_at_call 26; refine (sameLists_calls [] [] none none 0 0 0 0 _ rfl rfl (by omega) (fun k => by simp [gr]) (fun k => by simp [gr])).mono ?_; rintro e w5 ⟨rfl, hx5⟩; simp only [decide_true])
          | (go_at_call 18; refine (alive_calls _).mono ?_; rintro e w7 ⟨rfl, hx7⟩))
        go_ret
        exact ⟨rfl, Bel.ext inferInstance⟩
    · have hb : (codE F N rows != 0) = true := by simp [hcod]
      have hE : ofwE F N rows wt = codE F N rows := by rw [ofwE, if_neg hcod]
      have hno : ofwE F N rows wt ≠ 0 := by rw [hE]; exact hcod
      have HOE := fun w [hA : Sl w A F.md] [hR : Sls w Ar rows] => ofw_err F A n c rows Ar nr cr N wt w hn hn2 hr hr2 hrl hno
      rw [hE] at HOE
      have HOE := hidd HOE
      have HC := hidd hcod
      clear hcod hE hno
      go_enter Try.func4, Try.ntmps4
      go_wp2_with (first
        | (go_at_call 17; refine (small_calls F A n c rows Ar nr cr N _ hn hn2 hr hr2 hrl).mono ?_; rintro e w1 ⟨rfl, hx1⟩; rw [hs])
        | (go_at_call 23; refine (HOE.out _).mono ?_; rintro e w2 ⟨rfl, hx2⟩)
        | (go_at_call 24; refine (check12_calls F A n c rows Ar nr cr N _ hn hn2 hr hr2 hrl).mono ?_; rintro e w3 ⟨rfl, hx3⟩)
        | (go_at_call 18; refine (alive_calls _).mono ?_; rintro e w5 ⟨rfl, hx5⟩))
      go_ret
      exact ⟨rfl, Bel.ext inferInstance⟩

end Go.Proofs.Ytcigdhmecfhndaa

/- The walks of enumerate.Distances and of the law EnumerateDistances. -/
import Derived.Test.YtcigdhmecfhndaaDi2
namespace Go.Proofs.Ytcigdhmecfhndaa
open Go.RowKit
attribute [local go_sem] cell_bx froz_bx cell_own froz_own cell_rd cell_cel ints_get ints_set cell_ownv froz_ownv eql_nil_int
set_option linter.unusedVariables false
set_option linter.unusedSimpArgs false

set_option maxRecDepth 100000 in
set_option maxHeartbeats 8000000 in
theorem edis_err (F : Fd) (A : Option Addr) (nf cf : Nat) (N : Int) (ws : List (List Int)) (Ar : Option Addr) (nr cr : Nat) (w : World) (hn : F.md.length = nf) (hn2 : nf ≤ 1000000000000000000) (hr : ws.length = nr) (hr2 : nr ≤ 1000000000000000000) (hrl : ∀ k, (gr ws k).length ≤ 1000000000000000000) (hno : disE F N ws ≠ 0) [hA : Sl w A F.md] [hR : Sls w Ar ws] :
    Calls Try.prog 35 #[.agg #[.int .i64 F.p, .int .i64 F.m, .slice A nf cf], .int .i64 N, .slice Ar nr cr] w fun e w' => e = .returned (.tuple #[.slice none 0 0, .int .i64 (disE F N ws)]) ∧ Ext w w' := by
  subst hr
  by_cases hF : RefOK F
  · have hFo := fok_iff.2 hF
    by_cases hN : N < 1
    · have HE : Hid (disE F N ws = 4) := by show _ = _; rw [disE, if_pos hF, if_pos (.inl hN)]
      clear hno
      go_enter Try.func35, Try.ntmps35
      go_wp2_with (go_at_call 81; refine (new_fok F A nf cf _ hn hn2 hFo).mono ?_; rintro e w1 ⟨g, rfl, hf1, hg1, hx1⟩)
      go_ret2
      rw [HE.out]
      exact ⟨rfl, Bel.ext inferInstance⟩
    · by_cases hN2 : 64 < N
      · have HE : Hid (disE F N ws = 4) := by show _ = _; rw [disE, if_pos hF, if_pos (.inr hN2)]
        clear hno
        go_enter Try.func35, Try.ntmps35
        go_wp2_with (go_at_call 81; refine (new_fok F A nf cf _ hn hn2 hFo).mono ?_; rintro e w1 ⟨g, rfl, hf1, hg1, hx1⟩)
        go_ret2
        rw [HE.out]
        exact ⟨rfl, Bel.ext inferInstance⟩
      · by_cases hL : 256 < ws.length
        · have HE : Hid (disE F N ws = 8) := by show _ = _; rw [disE, if_pos hF, if_neg (by omega), if_pos hL]
          have hL2 : (256 : Int) < ws.length := by omega
          clear hno
          go_enter Try.func35, Try.ntmps35
          go_wp2_with (go_at_call 81; refine (new_fok F A nf cf _ hn hn2 hFo).mono ?_; rintro e w1 ⟨g, rfl, hf1, hg1, hx1⟩)
          go_ret2
          rw [HE.out]
          exact ⟨rfl, Bel.ext inferInstance⟩
        · have HE : Hid (disE F N ws = fstE F.q N ws ws.length) := by show _ = _; rw [disE, if_pos hF, if_neg (by omega), if_neg hL]
          rw [HE.out] at hno
          have HNO := hidd hno
          have HRL := hidd hrl
          have hL2 : ¬ (256 : Int) < ws.length := by omega
          clear hno hrl
          go_enter Try.func35, Try.ntmps35
          go_wp2_with (go_at_call 81; refine (new_fok F A nf cf _ hn hn2 hFo).mono ?_; rintro e w1 ⟨g, rfl, hf1, hg1, hx1⟩)
          have hB1 : Bel w w1 := inferInstance
          have hgp1 : GFp w1 g F := inferInstance
          clear hx1 hf1 hg1
          go_loopw [40] (fun iv wr => ∃ (k : Nat), iv = .int .i64 k ∧ k ≤ ws.length ∧ Bel w wr ∧ GFp wr g F ∧ Hid (∀ j, j < k → lstE F.q (gr ws j) N = 0)) (fun iv _ => ws.length - (intOf iv).toNat)
          case atStart => exact ⟨0, rfl, by omega, hB1, hgp1, fun j hj => by omega⟩
          case round =>
            obtain ⟨k, rfl, hk, hB, hgp, HZ⟩ := hrel
            clear hB1 hgp1
            by_cases hlt : k < ws.length
            · obtain ⟨ad, Be, ce, rfl, hce, hse⟩ := hR.at_ hlt
              have hce2 : Cel wr (ad.add k) (.slice Be (gr ws k).length ce) := inferInstance
              have hse2 : Sl wr Be (gr ws k) := inferInstance
              have hge := HRL.out k
              by_cases hz : lstE F.q (gr ws k) N = 0
              · have HZ2 := hidd hz
                go_wp2_with (go_at_call 82; refine (eentries_calls F g (gr ws k) Be _ _ N _ rfl hge).mono ?_; rintro e w2 ⟨rfl, hx2⟩; rw [hz])
                go_roundw
                case rel => exact ⟨k + 1, by go_num, by omega, inferInstance, inferInstance, fun j hj => by
                  by_cases e : j = k
                  · rw [e]; exact HZ2.out
                  · exact HZ.out j (by omega)⟩
                case measure => simp [intOf] <;> omega
              · have hzb : (lstE F.q (gr ws k) N != 0) = true := by simp [hz]
                have HV : Hid (fstE F.q N ws ws.length = lstE F.q (gr ws k) N) := by
                  obtain ⟨d, hd⟩ : ∃ d, ws.length = k + 1 + d := ⟨ws.length - (k + 1), by omega⟩
                  show _ = _
                  rw [hd]; exact fstE_at HZ.out hz d
                clear hz
                go_wp2_with (go_at_call 82; refine (eentries_calls F g (gr ws k) Be _ _ N _ rfl hge).mono ?_; rintro e w2 ⟨rfl, hx2⟩)
                go_ret2
                rw [HE.out, HV.out]
                exact ⟨rfl, Bel.ext inferInstance⟩
            · obtain rfl : k = ws.length := by omega
              exact absurd (fstE_zero _ HZ.out) HNO.out
  · have hFn : ¬ FOK F := fun h => hF (fok_iff.1 h)
    have HE : Hid (disE F N ws = 1) := by show _ = _; rw [disE, if_neg hF]
    clear hno
    go_enter Try.func35, Try.ntmps35
    go_wp2_with (go_at_call 81; refine (new_no F A nf cf _ hn hn2 hFn).mono ?_; rintro e w1 ⟨rfl, hx1⟩)
    go_ret2
    rw [HE.out]
    exact ⟨rfl, Bel.ext inferInstance⟩

set_option maxRecDepth 100000 in
set_option maxHeartbeats 8000000 in
theorem edis_calls (F : Fd) (A : Option Addr) (nf cf : Nat) (N : Nat) (ws : List (List Int)) (Ar : Option Addr) (nr cr : Nat) (w : World) (hn : F.md.length = nf) (hn2 : nf ≤ 1000000000000000000) (hr : ws.length = nr) (hcap : nr ≤ cr) (hok : disE F (N : Int) ws = 0) [hA : Sl w A F.md] [hR : Sls w Ar ws] :
    Calls Try.prog 35 #[.agg #[.int .i64 F.p, .int .i64 F.m, .slice A nf cf], .int .i64 (N : Int), .slice Ar nr cr] w fun e w' => ∃ g, e = .returned (.tuple #[.slice (some ⟨g, 0, none⟩) (N + 1) (N + 1), .int .i64 0]) ∧ Own w' g (disP ws N ws.length) ∧ Ext w w' := by
  subst hr
  obtain ⟨hF, hN1, hN2, hL, hle⟩ := disE_ok hok
  have hFo := fok_iff.2 hF
  have hlen : ∀ k, k < ws.length → (gr ws k).length = N := fun k hk => by have := (lstE_ok (hle k hk)).1; omega
  have hlen2 : ∀ k, (gr ws k).length ≤ N := fun k => by
    by_cases hk : k < ws.length
    · rw [hlen k hk]; exact Nat.le_refl _
    · rw [gr_out (by omega)]; simp
  have HLEN := hidd hlen
  have HLEN2 := hidd hlen2
  have HLE := hidd hle
  have hL2 : ¬ (256 : Int) < ws.length := by omega
  clear hok hlen hlen2 hle
  go_enter Try.func35, Try.ntmps35
  go_wp2_with (go_at_call 81; refine (new_fok F A nf cf _ hn hn2 hFo).mono ?_; rintro e w1 ⟨g0, rfl, hf1, hg1, hx1⟩)
  have hB1 : Bel w w1 := inferInstance
  have hgp1 : GFp w1 g0 F := inferInstance
  clear hx1 hf1 hg1
  go_loopw [40] (fun iv wr => ∃ (k : Nat), iv = .int .i64 k ∧ k ≤ ws.length ∧ Bel w wr ∧ GFp wr g0 F) (fun iv _ => ws.length - (intOf iv).toNat)
  case atStart => exact ⟨0, rfl, by omega, hB1, hgp1⟩
  case round =>
    obtain ⟨k, rfl, hk, hB, hgp⟩ := hrel
    clear hB1 hgp1
    by_cases hlt : k < ws.length
    · obtain ⟨ad, Be, ce, rfl, hce, hse⟩ := hR.at_ hlt
      have hce2 : Cel wr (ad.add k) (.slice Be (gr ws k).length ce) := inferInstance
      have hse2 : Sl wr Be (gr ws k) := inferInstance
      have hge := HLEN2.out k
      have hz := HLE.out k hlt
      go_wp2_with (go_at_call 82; refine (eentries_calls F g0 (gr ws k) Be _ _ N _ rfl (by omega)).mono ?_; rintro e w2 ⟨rfl, hx2⟩; rw [hz])
      go_roundw
      case rel => exact ⟨k + 1, by go_num, by omega, inferInstance, inferInstance⟩
      case measure => simp [intOf] <;> omega
    · obtain rfl : k = ws.length := by omega
      have hmk := mk_int (N + 1) (by omega)
      have hcast : ((N + 1 : Nat) : Int) = (N : Int) + 1 := by omega
      rw [hcast] at hmk
      have hN0 : (0 : Int) < (N : Int) + 1 := by omega
      have hin0 : In 0 (List.replicate (N + 1) (0 : Int)).length := ⟨by simp⟩
      have hin1 : 0 < (List.replicate (N + 1) (0 : Int)).length := hin0.out
      clear hcast hlt
      go_wp2
      have hfr : Fr w wr.heap.size := inferInstance
      have hBA : Bel w (wr.alloc (.cells (ints ((List.replicate (N + 1) 0).set 0 (ws.length : Int))) 3)) := inferInstance
      have ho1 : Own (wr.alloc (.cells (ints ((List.replicate (N + 1) 0).set 0 (ws.length : Int))) 3)) wr.heap.size ((List.replicate (N + 1) 0).set 0 (ws.length : Int)) := inferInstance
      obtain ⟨g, hg⟩ : ∃ g, g = wr.heap.size := ⟨_, rfl⟩
      rw [← hg] at hfr ho1 ⊢
      clear hB hgp hmk
      go_loopw [61] (fun iv wr => ∃ (i : Nat), iv = .int .i64 i ∧ i ≤ ws.length ∧ Bel w wr ∧ Own wr g (disP ws N i)) (fun iv _ => ws.length - (intOf iv).toNat)
      case atStart => exact ⟨0, rfl, by omega, hBA, ho1⟩
      case round =>
        clear hBA ho1 hg
        obtain ⟨i, rfl, hi, hB2, ho2⟩ := hrel
        by_cases hlti : i < ws.length
        · obtain ⟨ad, Bi, ci, rfl, hci, hsi⟩ := hR.at_ hlti
          have hci2 : Cel wr (ad.add i) (.slice Bi (gr ws i).length ci) := inferInstance
          have hic : (i : Int) ≤ cr := by omega
          have hic2 : i ≤ cr := by omega
          go_wp2
          go_loopw [70] (fun jv wr => ∃ (j : Nat) (zs : List Int), jv = .int .i64 j ∧ j ≤ i ∧ Bel w wr ∧ Own wr g zs ∧ Hid (zs = incL (fun j => dist (gr ws i) (gr ws j)) 2 j (disP ws N i))) (fun jv _ => i - (intOf jv).toNat)
          case atStart => exact ⟨0, _, rfl, by omega, inferInstance, ho2, rfl⟩
          case round =>
            clear hB2 ho2 hci2
            obtain ⟨j, zs, rfl, hj, hB3, ho3, HZ⟩ := hrel
            by_cases hltj : j < i
            · obtain ⟨ad2, Bj, cj, e2, hcj, hsj⟩ := hR.at_ (k := j) (by omega)
              obtain rfl : ad = ad2 := by injection e2
              have hcj2 : Cel wr (ad.add j) (.slice Bj (gr ws j).length cj) := inferInstance
              have hsi2 : Sl wr Bi (gr ws i) := inferInstance
              have hsj2 : Sl wr Bj (gr ws j) := inferInstance
              have hli := HLEN.out i hlti
              have hlj := HLEN.out j (by omega)
              have hdl : dist (gr ws i) (gr ws j) < N + 1 := dist_len hlj
              have hzl : zs.length = N + 1 := by rw [HZ.out, incL_len, disP_len]
              have hdz : dist (gr ws i) (gr ws j) < zs.length := by omega
              have hdi : (dist (gr ws i) (gr ws j) : Int) < (N : Int) + 1 := by omega
              have hin : In (dist (gr ws i) (gr ws j)) zs.length := ⟨hdz⟩
              have hrg : 0 ≤ gt zs (dist (gr ws i) (gr ws j)) ∧ gt zs (dist (gr ws i) (gr ws j)) ≤ 300000 := by
                rw [HZ.out, gt_incL _ _ (fun j hj => by rw [disP_len]; exact dist_len (HLEN.out j (by omega)))]
                have h1 := (dis_rng HLEN.out hL (dist (gr ws i) (gr ws j)) i hi).2
                have h2 := cntI_rng (f := fun j => dist (gr ws i) (gr ws j)) (x := 2) (by omega) (dist (gr ws i) (gr ws j)) j
                omega
              have hwr : IntKind.i64.wrap (gt zs (dist (gr ws i) (gr ws j)) + 2) = gt zs (dist (gr ws i) (gr ws j)) + 2 := wr_in (by omega) (by omega)
              have HLI := hidd hli
              have HLJ := hidd hlj
              clear hli hlj
              have hdc : ∀ W [Sl W Bi (gr ws i)] [Sl W Bj (gr ws j)], Calls Try.prog 80 #[.slice Bi (gr ws i).length ci, .slice Bj (gr ws j).length cj] W fun e w' => e = .returned (.int .i64 (dist (gr ws i) (gr ws j))) ∧ Ext W w' := fun W _ _ => edist_calls (gr ws i) (gr ws j) Bi Bj _ _ _ _ W rfl rfl (by rw [HLI.out, HLJ.out]) (by rw [HLI.out]; omega)
              have HN : Hid (incL (fun j => dist (gr ws i) (gr ws j)) 2 (j + 1) (disP ws N i) = inc zs (dist (gr ws i) (gr ws j)) 2) := by show _ = _; rw [incL_succ, ← HZ.out]
              generalize dist (gr ws i) (gr ws j) = d at *
              have HDC := hidd hdc
              clear hdc hrg
              go_wp2_with (go_at_call 80; refine (HDC.out _).mono ?_; rintro e w4 ⟨rfl, hx4⟩)
              go_roundw
              case rel => exact ⟨j + 1, _, by go_num, by omega, inferInstance, own_set, by show _ = _; rw [HN.out]; rfl⟩
              case measure => simp [intOf] <;> omega
            · obtain rfl : j = i := by omega
              go_wp2
              go_roundw
              case rel => exact ⟨j + 1, by go_num, by omega, inferInstance, by rw [disP_succ, ← HZ.out]; exact ho3⟩
              case measure => simp [intOf] <;> omega
        · obtain rfl : i = ws.length := by omega
          go_wp2
          go_ret2
          exact ⟨g, rfl, ho2, Bel.ext inferInstance⟩

set_option maxRecDepth 100000 in
set_option maxHeartbeats 4000000 in
theorem law_enumerateDistances (F : Fd) (A : Option Addr) (nf cf : Nat) (N : Int) (ws : List (List Int)) (Ar : Option Addr) (nr cr : Nat) (w : World) (hn : F.md.length = nf) (hn2 : nf ≤ 1000000000000000000) (hr : ws.length = nr) (hr2 : nr ≤ 1000000000000000000) (hrl : ∀ k, (gr ws k).length ≤ 1000000000000000000) (hcap : nr ≤ cr) [hA : Sl w A F.md] [hR : Sls w Ar ws] :
    Calls Try.prog 7 #[.agg #[.int .i64 F.p, .int .i64 F.m, .slice A nf cf], .int .i64 N, .slice Ar nr cr] w fun e w' => e = .returned (.bool true) ∧ Ext w w' := by
  by_cases hE : disE F N ws = 0
  · obtain ⟨hF, hN1, hN2, hL, hle⟩ := disE_ok hE
    obtain ⟨NN, rfl⟩ : ∃ NN : Nat, N = NN := ⟨N.toNat, by omega⟩
    have hP := fun w [hA : Sl w A F.md] [hR : Sls w Ar ws] => edis_calls F A nf cf NN ws Ar nr cr w hn hn2 hr hcap hE
    have hQ := fun w [hA : Sl w A F.md] [hR : Sls w Ar ws] => dis23_calls F A nf cf NN ws Ar nr cr w hn hn2 hr hE
    have hlen : ∀ k, k < ws.length → (gr ws k).length = NN := fun k hk => by have := (lstE_ok (hle k hk)).1; omega
    rw [dis_eq hlen] at hP
    have hdl := disR_len ws NN ws.length
    generalize disR ws NN ws.length = D at *
    have HP := hidd hP
    have HQ := hidd hQ
    clear hP hQ hE hle hlen
    go_enter Try.func7, Try.ntmps7
    go_wp2_with (first
      | (go_at_call 35; refine (HP.out _).mono ?_; rintro e w1 ⟨g1, rfl, ho1, hx1⟩)
      | (go_at_call 36; refine (HQ.out _).mono ?_; rintro e w2 ⟨g2, rfl, ho2, hx2⟩)
      | (go_at_call 21; refine (same11_calls D D _ _ _ _ _ _ _ hdl hdl (by omega) (by omega)).mono ?_; rintro e w3 ⟨rfl, hx3⟩; simp only [decide_true])
      | (go_at_call 18; refine (alive_calls _).mono ?_; rintro e w4 ⟨rfl, hx4⟩))
    go_ret
    exact ⟨rfl, Bel.ext inferInstance⟩
  · have hP := fun w [hA : Sl w A F.md] [hR : Sls w Ar ws] => edis_err F A nf cf N ws Ar nr cr w hn hn2 hr hr2 hrl hE
    have hQ := fun w [hA : Sl w A F.md] [hR : Sls w Ar ws] => dis23_err F A nf cf N ws Ar nr cr w hn hn2 hr hr2 hrl hE
    generalize disE F N ws = E at *
    have HP := hidd hP
    have HQ := hidd hQ
    clear hP hQ hE
    go_enter Try.func7, Try.ntmps7
    go_wp2_with (first
      | (go_at_call 35; refine (HP.out _).mono ?_; rintro e w1 ⟨rfl, hx1⟩)
      | (go_at_call 36; refine (HQ.out _).mono ?_; rintro e w2 ⟨rfl, hx2⟩)
      | (go_at_call 21; refine (same11_calls [] [] none none 0 0 0 0 _ rfl rfl (by omega) (by omega)).mono ?_; rintro e w3 ⟨rfl, hx3⟩; simp only [decide_true])
      | (go_at_call 18; refine (alive_calls _).mono ?_; rintro e w4 ⟨rfl, hx4⟩))
    go_ret
    exact ⟨rfl, Bel.ext inferInstance⟩

end Go.Proofs.Ytcigdhmecfhndaa

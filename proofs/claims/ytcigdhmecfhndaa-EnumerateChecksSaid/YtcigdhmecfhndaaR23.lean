/- The walk of codewrightref09.Eliminate. The walks of codewrightref09: Canon, SameInts, SameRows. The walk of codewrightref09.Combine. The walk of codewrightref09.Check. The walk of codewrightref10.Check. The walk of codewrightref12.Check. Powers with a limit: codewrightref03.Exp and number.Exp. The walks of codewrightref12.Size and At. The walk of codewrightref12.Words. The walks of codewrightref23 Distance and Profile, codewrightref11 Compare and Same, enumerate weight. -/
import Derived.Test.YtcigdhmecfhndaaR09
import Derived.Test.YtcigdhmecfhndaaSink
import Derived.BigRegion
namespace Go.Proofs.Ytcigdhmecfhndaa
open Go.RowKit
attribute [local go_sem] cell_bx froz_bx cell_own froz_own cell_rd cell_cel ints_get ints_set cell_ownv froz_ownv
set_option linter.unusedVariables false
set_option linter.unusedSimpArgs false

set_option maxRecDepth 100000 in
set_option maxHeartbeats 8000000 in
theorem elim_calls (F : Fd) (A : Option Addr) (n c : Nat) (xss : List (List Int)) (Ax : Option Addr) (nx cx cols m : Nat) (w : World) (hG : F.Good) (hn : F.md.length = n) (hx : Grid nx m xss) (hnx : nx ≤ 1000) (hm : m ≤ 1000) (hcols : cols ≤ m) [hA : Sl w A F.md] [hX : Sls w Ax xss] :
    Calls Try.prog 131 #[.agg #[.int .i64 F.p, .int .i64 F.m, .slice A n c], .slice Ax nx cx, .int .i64 cols] w fun e w' => ∃ (Ar : Option Addr) (cr : Nat) (Ap : Option Addr) (cp : Nat),
      e = .returned (.tuple #[.slice Ar nx cr, .slice Ap (F.elim xss cols).2.length cp]) ∧ nx ≤ cr ∧ (F.elim xss cols).2.length ≤ cp ∧ Sls w' Ar (F.elim xss cols).1 ∧ Sl w' Ap (F.elim xss cols).2 ∧ Ext w w' := by
  have hxl := hx.1
  have hxm : ∀ k, (gr xss k).length ≤ 1000000 := fun k => by
    rcases Nat.lt_or_ge k nx with h | h
    · have := hx.2 k h; omega
    · rw [gr_out (by omega)]; simp
  have HX := hidd hx
  clear hx
  go_enter Try.func131, Try.ntmps131
  go_wp2_with (go_at_call 152; refine (copy9_calls xss Ax nx cx _ hxl (by omega) hxm).mono ?_; rintro e w1 ⟨v, cs, rfl, hrow, hinn, hfv, hx1⟩)
  have hb1 : Bel w w1 := inferInstance
  have hbx1 : Bx w1 w.heap.size #[.int .i64 F.p, .int .i64 F.m, .slice A n c] 24 := inferInstance
  clear hx1 hX hxm
  by_cases h0 : nx = 0
  · have hel : F.elim xss cols = (xss, []) := by
      have := elim_full F HX.out (t := 0) (by simp [loopN, h0]) cols
      simpa [Fd.elim, loopN] using this
    have HE := hidd hel
    obtain rfl : xss = [] := List.eq_nil_of_length_eq_zero (by omega)
    obtain ⟨Ar, cr, rfl, hcr, hsr⟩ := hrow.readss hinn
    subst h0
    clear hel hxl hrow hfv
    go_wp2
    go_loopw [9, 10, 11] (fun pvv av iv wr => ∃ k : Nat, pvv = .slice none 0 0 ∧ av = .int .i64 0 ∧ iv = .int .i64 k ∧ k = 0 ∧ Bel w1 wr) (fun _ _ _ _ => 0)
    case atStart => exact ⟨0, rfl, rfl, rfl, rfl, bel_refl _⟩
    case round =>
      obtain ⟨k, rfl, rfl, rfl, rfl, hB⟩ := hrel
      by_cases hc : 0 < cols
      all_goals
        go_wp2
        go_ret2
        rw [HE.out]
        exact ⟨Ar, cr, none, 0, rfl, by omega, by simp, inferInstance, inferInstance, (hb1.then_ hB).ext⟩
  · obtain ⟨g, cap, rfl, hcap, hown⟩ := hrow.ownv (by rw [hinn.len]; omega)
    have hcl : cs.length = nx := by rw [hinn.len]; exact hxl
    rw [hcl] at hcap ⊢
    have hfg := hfv.fr
    have hfg1 : Lo w.heap.size g := ⟨by have := hfg.out; simp at this; omega⟩
    have hfg2 : Fr w g := ⟨by have := hfg1.out; omega⟩
    have hap : Apart w.heap.size g := ⟨by have := hfg1.out; omega⟩
    have HL := hidd (And.intro hxl hcl)
    clear hrow hfv hfg hxl hcl
    go_wp2
    go_loopw [9, 10, 11, 12, 13] (fun pvv av cv _ _ wr => ∃ (j : Nat) (pv : List Int) (v9 : Value) (cs : List Value) (l : List (List Int)), v9 = pvv ∧ av = .int .i64 pv.length ∧ cv = .int .i64 j ∧ j ≤ cols ∧ pv.length ≤ nx ∧ cs.length = nx ∧ Bel w wr ∧ Bx wr w.heap.size #[.int .i64 F.p, .int .i64 F.m, .slice A n c] 24 ∧ OwnV wr g 22 cs ∧ Inn wr cs l ∧ Row wr v9 3 (nums pv) ∧ FrV w v9 ∧ ApV g v9 ∧ Hid (InnAp cs v9) ∧ Hid (Grid nx m l ∧ (l, pv) = loopN j F.elimStep (xss, []))) (fun _ _ cv _ _ _ => cols - (intOf cv).toNat)
    case atStart => exact ⟨0, [], _, cs, xss, rfl, rfl, rfl, by omega, by simp, HL.out.2, hb1, hbx1, hown, hinn, inferInstance, inferInstance, inferInstance, InnAp.nil _, HX.out, rfl⟩
    case round =>
      obtain ⟨j, pv, v9, cs, l, rfl, rfl, rfl, hj, hpv, hcl, hB, hbx, hown, hinn, hrow, hf9, hap9, HIA, HI⟩ := hrel
      by_cases hc : j < cols
      · by_cases hat : pv.length < nx
        · have hll := HI.out.1.1
          have HLL := hidd hll
          have HCL := hidd hcl
          have HGR := hidd HI.out.1.2
          have hjm : j < m := by omega
          have hin0 : ∀ k, k < nx → k < l.length := fun k hk => by omega
          have HIN := hidd hin0
          have hcs0 : ∀ k, k < nx → k < cs.length := fun k hk => by omega
          have HCS := hidd hcs0
          clear hll hin0 hcs0 hcl
          go_wp2
          obtain ⟨wo, rfl⟩ : ∃ wo, wo = wr := ⟨_, rfl⟩
          go_loopw [12] (fun kv wr2 => ∃ k : Nat, kv = .int .i64 k ∧ wo = wr2 ∧ pv.length ≤ k ∧ k ≤ nx ∧ Hid (nzAt l j (nx - pv.length) pv.length = nzAt l j (nx - k) k)) (fun kv _ => nx - (intOf kv).toNat)
          case atStart => exact ⟨pv.length, rfl, rfl, Nat.le_refl _, hpv, rfl⟩
          case round =>
            obtain ⟨k, rfl, rfl, hk1, hk2, HK⟩ := hrel
            by_cases hk : k < nx
            · obtain ⟨gk, ck, hgk, hok⟩ := hinn.out k (HIN.out k hk)
              have hkc := HCS.out k hk
              have hjl : j < (gr l k).length := by rw [HGR.out k hk]; exact hjm
              by_cases hz : gt (gr l k) j = 0
              · have hzb : (gt (gr l k) j == 0) = true := beq_iff_eq.2 hz
                have HZ := hidd hz
                clear hz
                go_wp2
                go_roundw
                case rel => exact ⟨k + 1, by go_num, by first | rfl | trivial, by omega, by omega, by
                  show _ = _
                  rw [HK.out, show nx - k = (nx - (k + 1)) + 1 by omega, nzAt, if_pos HZ.out]⟩
                case measure => simp [intOf] <;> omega
              · have hzb : (gt (gr l k) j == 0) = false := beq_eq_false_iff_ne.2 hz
                have HZ := hidd hz
                clear hz
                have hne : ((k : Int) == (nx : Int)) = false := beq_eq_false_iff_ne.2 (by omega)
                obtain ⟨ga, ca, hga, hoa⟩ := hinn.out pv.length (HIN.out _ hat)
                have hac := HCS.out _ hat
                go_wp2
                have hinA : In pv.length cs.length := ⟨hac⟩
                have hinK : In k cs.length := ⟨hkc⟩
                go_region
                obtain ⟨w2, hw2⟩ : ∃ w2, w2 = ((wo.setCell ⟨g, pv.length, none⟩ (.slice (some ⟨gk, 0, none⟩) (gr l k).length ck)).setCell ⟨g, k, none⟩ (.slice (some ⟨ga, 0, none⟩) (gr l pv.length).length ca)).drew := ⟨_, rfl⟩
                rw [← hw2]
                obtain ⟨l2, hl2⟩ : ∃ l2, l2 = swapR l pv.length k := ⟨_, rfl⟩
                obtain ⟨cs2, hcs2⟩ : ∃ cs2, cs2 = (cs.set pv.length (.slice (some ⟨gk, 0, none⟩) (gr l k).length ck)).set k (.slice (some ⟨ga, 0, none⟩) (gr l pv.length).length ca) := ⟨_, rfl⟩
                have hB2 : Bel w w2 := by rw [hw2]; infer_instance
                have hbx2 : Bx w2 w.heap.size #[.int .i64 F.p, .int .i64 F.m, .slice A n c] 24 := by rw [hw2]; infer_instance
                have hown2 : OwnV w2 g 22 cs2 := by rw [hw2, hcs2]; infer_instance
                have hrow2 : Row w2 v9 3 (nums pv) := by rw [hw2]; infer_instance
                have hinn2 : Inn w2 cs2 l2 := by
                  rw [hw2, hl2, hcs2]
                  have i1 : Inn (wo.setCell ⟨g, pv.length, none⟩ (.slice (some ⟨gk, 0, none⟩) (gr l k).length ck)) cs l := hinn.store hown (by decide) _ _
                  have o1 : OwnV (wo.setCell ⟨g, pv.length, none⟩ (.slice (some ⟨gk, 0, none⟩) (gr l k).length ck)) g 22 (cs.set pv.length (.slice (some ⟨gk, 0, none⟩) (gr l k).length ck)) := inferInstance
                  have i2 := i1.store o1 (by decide) k (.slice (some ⟨ga, 0, none⟩) (gr l pv.length).length ca)
                  obtain ⟨gk', ck', e1, ho1⟩ := i2.out k (HIN.out _ hk)
                  obtain ⟨ga', ca', e2, ho2⟩ := i2.out pv.length (HIN.out _ hat)
                  rw [hgk] at e1
                  rw [hga] at e2
                  injection e1 with e1; injection e1 with e1; injection e1 with e1; subst e1
                  injection e2 with e2; injection e2 with e2; injection e2 with e2; subst e2
                  have i3 := (i2.put (k := pv.length) (c := ck) (HIN.out _ hat) rfl ho1).put (k := k) (c := ca) (by rw [List.length_set]; exact HIN.out _ hk) rfl ho2
                  unfold swapR
                  exact inn_drew (h := i3)
                have hia2 : InnAp cs2 v9 := by
                  rw [hcs2]
                  exact (HIA.out.put pv.length (HIA.out k gk _ ck hkc hgk)).put k (HIA.out pv.length ga _ ca hac hga)
                have HIA2 := hidd hia2
                clear hia2
                have hgrid2 : Grid nx m l2 := by rw [hl2]; exact HI.out.1.swap hat hk
                have hlen2 : cs2.length = nx := by rw [hcs2]; simp [HCL.out]
                have HS := hidd (show F.elimStep j (l, pv) = (F.clearR j pv.length nx (F.normR j pv.length l2), pv ++ [(j : Int)]) by
                  have e1 : nzAt l j (nx - pv.length) pv.length = k := by
                    rw [HK.out, show nx - k = (nx - (k + 1)) + 1 by omega, nzAt, if_neg HZ.out]
                  unfold Fd.elimStep
                  simp only [HLL.out, e1, if_pos hk, ← hl2])
                have HI2 := HI.out.2
                have HI3 := hidd HI2
                clear hw2 hcs2 hl2 hinn hown hrow hbx hB hgk hok hga hoa hinA hinK hkc hac hjl hzb HZ HK HI2 HI HIN HCS HGR HLL HCL hk hk1 hk2 hne
                have hrl : pv.length < l2.length := by rw [hgrid2.1]; exact hat
                have hrc : pv.length < cs2.length := by rw [hlen2]; exact hat
                obtain ⟨g2, c2, hg2, ho2⟩ := hinn2.out pv.length hrl
                have hjl : j < (gr l2 pv.length).length := by rw [hgrid2.2 _ hat]; exact hjm
                have hn2 : Apart g2 g := ⟨own_ownv_ne ho2 hown2 (by decide)⟩
                have hgl : (gr l2 pv.length).length ≤ 1000 := by rw [hgrid2.2 _ hat]; exact hm
                have HGR := hidd hgrid2
                have HLN := hidd hlen2
                clear hgrid2 hlen2
                by_cases hone : gt (gr l2 pv.length) j = 1
                · have hob : (gt (gr l2 pv.length) j != 1) = false := by simp [hone]
                  have hl3 : F.normR j pv.length l2 = l2 := if_pos hone
                  rw [hl3] at HS
                  clear hl3 hone
                  obtain ⟨l3, rfl⟩ : ∃ l3, l3 = l2 := ⟨_, rfl⟩
                  obtain ⟨cs3, rfl⟩ : ∃ cs3, cs3 = cs2 := ⟨_, rfl⟩
                  have hB3 := hB2
                  have hbx3 := hbx2
                  have hown3 := hown2
                  have hinn3 := hinn2
                  have hrow3 := hrow2
                  have HIA3 := HIA2
                  have HG3 := HGR
                  have HL3 := HLN
                  go_wp2
                  clear hob
                  go_loopw [13] (fun iv wr => ∃ (i : Nat) (cs4 : List Value) (l4 : List (List Int)), iv = .int .i64 i ∧ i ≤ nx ∧ Bel w wr ∧ Bx wr w.heap.size #[.int .i64 F.p, .int .i64 F.m, .slice A n c] 24 ∧ OwnV wr g 22 cs4 ∧ Inn wr cs4 l4 ∧ Row wr v9 3 (nums pv) ∧ Hid (InnAp cs4 v9) ∧ Hid (cs4.length = nx ∧ Grid nx m l4 ∧ l4 = F.clearR j pv.length i l3)) (fun iv _ => nx - (intOf iv).toNat)
                  case atStart => exact ⟨0, cs3, l3, rfl, by omega, hB3, hbx3, hown3, hinn3, hrow3, HIA3, HL3.out, HG3.out, rfl⟩
                  case round =>
                    obtain ⟨i, cs4, l4, rfl, hi, hB4, hbx4, hown4, hinn4, hrow4, HIA4, HI4⟩ := hrel
                    have hcl4 := hidd HI4.out.1
                    by_cases hil : i < nx
                    · have hir : i < l4.length := by rw [HI4.out.2.1.1]; exact hil
                      have hic : i < cs4.length := by rw [HI4.out.1]; exact hil
                      obtain ⟨gi, ci, hgi, hoi⟩ := hinn4.out i hir
                      have hli := HI4.out.2.1.2 i hil
                      have hlr := HI4.out.2.1.2 pv.length hat
                      have hji : j < (gr l4 i).length := by rw [hli]; exact hjm
                      have hl1 : (gr l4 i).length ≤ 1000 := by omega
                      have hl2' : (gr l4 i).length ≤ (gr l4 pv.length).length := by omega
                      have HLI := hidd hli
                      clear hli hlr
                      by_cases hir2 : i = pv.length
                      · have hb : ((i : Int) != (pv.length : Int)) = false := by simp [hir2]
                        have HR2 := hidd hir2
                        clear hir2
                        go_wp2
                        go_roundw
                        case rel => exact ⟨i + 1, cs4, l4, by go_num, by omega, hB4, hbx4, hown4, hinn4, hrow4, HIA4, HI4.out.1, HI4.out.2.1, by
                          rw [Fd.clearR, loopN_succ, ← Fd.clearR, ← HI4.out.2.2, Fd.clearIn, if_neg (fun h => h.1 HR2.out)]⟩
                        case measure => simp [intOf] <;> omega
                      · have hb : ((i : Int) != (pv.length : Int)) = true := by simp; omega
                        have HR2 := hidd hir2
                        clear hir2
                        by_cases hz : gt (gr l4 i) j = 0
                        · have hzb : (gt (gr l4 i) j != 0) = false := by simp [hz]
                          have HZ := hidd hz
                          clear hz
                          go_wp2
                          go_roundw
                          case rel => exact ⟨i + 1, cs4, l4, by go_num, by omega, hB4, hbx4, hown4, hinn4, hrow4, HIA4, HI4.out.1, HI4.out.2.1, by
                            rw [Fd.clearR, loopN_succ, ← Fd.clearR, ← HI4.out.2.2, Fd.clearIn, if_neg (fun h => h.2 HZ.out)]⟩
                          case measure => simp [intOf] <;> omega
                        · have hzb : (gt (gr l4 i) j != 0) = true := by simp [hz]
                          have HZ := hidd hz
                          clear hz
                          obtain ⟨gq, cq, hgq, hoq⟩ := hinn4.out pv.length (by rw [HI4.out.2.1.1]; exact hat)
                          have hqc : pv.length < cs4.length := by rw [HI4.out.1]; exact hat
                          have hinI : In i cs4.length := ⟨hic⟩
                          have hX : Near wr.heap.size wr wr := ⟨Below.refl _ _⟩
                          go_upto_region 18 with (fail)
                          refine wp_region_E (S := fun w' => Near wr.heap.size wr w') 22 (by kernel_rfl) inferInstance (fun hHeld => ?_)
                          refine wpAnyE_take (i := 0) (oi := ⟨some 107, _, _, _, _, _⟩) (v := ?_) rfl (by kernel_rfl) (by kernel_rfl) (by kernel_rfl) (by decide) (by kernel_rfl) (fun _ _ _ h => h) (Or.inl ⟨by rfl, ?_⟩) hHeld ?_
                          rotate_left
                          · (intro w1 hS1; first | (go_simp; done) | (go_simp; with_reducible rfl))
                          try simp only [Act.put, List.setIfInBounds_toArray, List.set_cons_zero, List.set_cons_succ]
                          refine wpAnyE_take (i := 1) (oi := ⟨some 108, _, _, _, _, _⟩) (v := ?_) rfl (by kernel_rfl) (by kernel_rfl) (by kernel_rfl) (by decide) (by kernel_rfl) (fun _ _ _ h => h) (Or.inl ⟨by rfl, ?_⟩) hHeld ?_
                          rotate_left
                          · (intro w1 hS1; first | (go_simp; done) | (go_simp; with_reducible rfl))
                          try simp only [Act.put, List.setIfInBounds_toArray, List.set_cons_zero, List.set_cons_succ]
                          refine wpAnyE_take (i := 2) (oi := ⟨some 109, _, _, _, _, _⟩) (v := ?_) rfl (by kernel_rfl) (by kernel_rfl) (by kernel_rfl) (by decide) (by kernel_rfl) (fun _ _ _ h => h) (Or.inl ⟨by rfl, ?_⟩) hHeld ?_
                          rotate_left
                          · (intro w1 hS1; first | (go_simp; done) | (go_simp; with_reducible rfl))
                          try simp only [Act.put, List.setIfInBounds_toArray, List.set_cons_zero, List.set_cons_succ]
                          refine wpAnyE_take (i := 3) (oi := ⟨some 110, _, _, _, _, _⟩) (v := ?_) rfl (by kernel_rfl) (by kernel_rfl) (by kernel_rfl) (by decide) (by kernel_rfl) (fun _ _ _ h => h) (Or.inl ⟨by rfl, ?_⟩) hHeld ?_
                          rotate_left
                          · (intro w1 hS1; first | (go_simp; done) | (go_simp; with_reducible rfl))
                          try simp only [Act.put, List.setIfInBounds_toArray, List.set_cons_zero, List.set_cons_succ]
                          refine wpAnyE_take (i := 4) (oi := ⟨some 111, _, _, _, _, _⟩) (v := ?_) rfl (by kernel_rfl) (by kernel_rfl) (by kernel_rfl) (by decide) (by kernel_rfl) (fun _ _ _ h => h) (Or.inl ⟨by rfl, ?_⟩) hHeld ?_
                          rotate_left
                          · (intro w1 hS1; first | (go_simp; done) | (go_simp; with_reducible rfl))
                          try simp only [Act.put, List.setIfInBounds_toArray, List.set_cons_zero, List.set_cons_succ]
                          refine wpAnyE_take (i := 5) (oi := ⟨some 112, _, _, _, _, _⟩) (v := ?_) rfl (by kernel_rfl) (by kernel_rfl) (by kernel_rfl) (by decide) (by kernel_rfl) (fun _ _ _ h => h) (Or.inl ⟨by rfl, ?_⟩) hHeld ?_
                          rotate_left
                          · (intro w1 hS1; first | (go_simp; done) | (go_simp; with_reducible rfl))
                          try simp only [Act.put, List.setIfInBounds_toArray, List.set_cons_zero, List.set_cons_succ]
                          refine wpAnyE_take (i := 6) (oi := ⟨some 113, _, _, _, _, _⟩) (v := ?_) rfl (by kernel_rfl) (by kernel_rfl) (by kernel_rfl) (by decide) (by kernel_rfl) (fun _ _ _ h => h) (Or.inl ⟨by rfl, ?_⟩) hHeld ?_
                          rotate_left
                          · (intro w1 hS1; first | (go_simp; done) | (go_simp; with_reducible rfl))
                          try simp only [Act.put, List.setIfInBounds_toArray, List.set_cons_zero, List.set_cons_succ]
                          refine wpAnyE_take (i := 7) (oi := ⟨some 114, _, _, _, _, _⟩) (v := ?_) rfl (by kernel_rfl) (by kernel_rfl) (by kernel_rfl) (by decide) (by kernel_rfl) (fun _ _ _ h => h) (Or.inl ⟨by rfl, ?_⟩) hHeld ?_
                          rotate_left
                          · (intro w1 hS1; first | (go_simp; done) | (go_simp; with_reducible rfl))
                          try simp only [Act.put, List.setIfInBounds_toArray, List.set_cons_zero, List.set_cons_succ]
                          refine wpAnyE_take (i := 8) (oi := ⟨some 115, _, _, _, _, _⟩) (v := ?_) rfl (by kernel_rfl) (by kernel_rfl) (by kernel_rfl) (by decide) (by kernel_rfl) (fun _ _ _ h => h) (Or.inl ⟨by rfl, ?_⟩) hHeld ?_
                          rotate_left
                          · (intro w1 hS1; first | (go_simp; done) | (go_simp; with_reducible rfl))
                          try simp only [Act.put, List.setIfInBounds_toArray, List.set_cons_zero, List.set_cons_succ]
                          refine wpAnyE_take (i := 9) (oi := ⟨some 116, _, _, _, _, _⟩) (v := ?_) rfl (by kernel_rfl) (by kernel_rfl) (by kernel_rfl) (by decide) (by kernel_rfl) (fun _ _ _ h => h) (Or.inl ⟨by rfl, ?_⟩) hHeld ?_
                          rotate_left
                          · (intro w1 hS1; first | (go_simp; done) | (go_simp; with_reducible rfl))
                          try simp only [Act.put, List.setIfInBounds_toArray, List.set_cons_zero, List.set_cons_succ]
                          refine wpAnyE_take (i := 10) (oi := ⟨some 117, _, _, _, _, _⟩) (v := ?_) rfl (by kernel_rfl) (by kernel_rfl) (by kernel_rfl) (by decide) (by kernel_rfl) (fun _ _ _ h => h) (Or.inl ⟨by rfl, ?_⟩) hHeld ?_
                          rotate_left
                          · (intro w1 hS1; first | (go_simp; done) | (go_simp; with_reducible rfl))
                          try simp only [Act.put, List.setIfInBounds_toArray, List.set_cons_zero, List.set_cons_succ]
                          refine wpAnyE_take (i := 11) (oi := ⟨some 118, _, _, _, _, _⟩) (v := ?_) rfl (by kernel_rfl) (by kernel_rfl) (by kernel_rfl) (by decide) (by kernel_rfl) (fun _ _ _ h => h) (Or.inl ⟨by rfl, ?_⟩) hHeld ?_
                          rotate_left
                          · (intro w1 hS1; first | (go_simp; done) | (go_simp; with_reducible rfl))
                          try simp only [Act.put, List.setIfInBounds_toArray, List.set_cons_zero, List.set_cons_succ]
                          refine wpAnyE_take (i := 12) (oi := ⟨some 119, _, _, _, _, _⟩) (v := ?_) rfl (by kernel_rfl) (by kernel_rfl) (by kernel_rfl) (by decide) (by kernel_rfl) (fun _ _ _ h => h) (Or.inl ⟨by rfl, ?_⟩) hHeld ?_
                          rotate_left
                          · (intro w1 hS1; first | (go_simp; done) | (go_simp; with_reducible rfl))
                          try simp only [Act.put, List.setIfInBounds_toArray, List.set_cons_zero, List.set_cons_succ]
                          refine wpAnyE_take (i := 13) (oi := ⟨some 120, _, _, _, _, _⟩) (v := ?_) rfl (by kernel_rfl) (by kernel_rfl) (by kernel_rfl) (by decide) (by kernel_rfl) (fun _ _ _ h => h) (Or.inl ⟨by rfl, ?_⟩) hHeld ?_
                          rotate_left
                          · (intro w1 hS1; first | (go_simp; done) | (go_simp; with_reducible rfl))
                          try simp only [Act.put, List.setIfInBounds_toArray, List.set_cons_zero, List.set_cons_succ]
                          refine wpAnyE_take (i := 14) (oi := ⟨some 121, _, _, _, _, _⟩) (v := ?_) rfl (by kernel_rfl) (by kernel_rfl) (by kernel_rfl) (by decide) (by kernel_rfl) (fun _ _ _ h => h) (Or.inl ⟨by rfl, ?_⟩) hHeld ?_
                          rotate_left
                          · (intro w1 hS1; first | (go_simp; done) | (go_simp; with_reducible rfl))
                          try simp only [Act.put, List.setIfInBounds_toArray, List.set_cons_zero, List.set_cons_succ]
                          refine wpAnyE_take (i := 16) (oi := ⟨some 123, _, _, _, _, _⟩) (v := ?_) rfl (by kernel_rfl) (by kernel_rfl) (by kernel_rfl) (by decide) (by kernel_rfl) (fun _ _ _ h => h) (Or.inl ⟨by rfl, ?_⟩) hHeld ?_
                          rotate_left
                          · (intro w1 hS1; first | (go_simp; done) | (go_simp; with_reducible rfl))
                          try simp only [Act.put, List.setIfInBounds_toArray, List.set_cons_zero, List.set_cons_succ]
                          refine wpAnyE_take (i := 17) (oi := ⟨some 124, _, _, _, _, _⟩) (v := ?_) rfl (by kernel_rfl) (by kernel_rfl) (by kernel_rfl) (by decide) (by kernel_rfl) (fun _ _ _ h => h) (Or.inl ⟨by rfl, ?_⟩) hHeld ?_
                          rotate_left
                          · (intro w1 hS1; first | (go_simp; done) | (go_simp; with_reducible rfl))
                          try simp only [Act.put, List.setIfInBounds_toArray, List.set_cons_zero, List.set_cons_succ]
                          refine wpAnyE_take (i := 18) (oi := ⟨some 125, _, _, _, _, _⟩) (v := ?_) rfl (by kernel_rfl) (by kernel_rfl) (by kernel_rfl) (by decide) (by kernel_rfl) (fun _ _ _ h => h) (Or.inl ⟨by rfl, ?_⟩) hHeld ?_
                          rotate_left
                          · (intro w1 hS1; first | (go_simp; done) | (go_simp; with_reducible rfl))
                          try simp only [Act.put, List.setIfInBounds_toArray, List.set_cons_zero, List.set_cons_succ]
                          refine wpAnyE_take (i := 19) (oi := ⟨some 126, _, _, _, _, _⟩) (v := ?_) rfl (by kernel_rfl) (by kernel_rfl) (by kernel_rfl) (by decide) (by kernel_rfl) (fun _ _ _ h => h) (Or.inl ⟨by rfl, ?_⟩) hHeld ?_
                          rotate_left
                          · (intro w1 hS1; first | (go_simp; done) | (go_simp; with_reducible rfl))
                          try simp only [Act.put, List.setIfInBounds_toArray, List.set_cons_zero, List.set_cons_succ]
                          refine wpAnyE_one (i := 15) (o := ⟨some 122, _, _, _, _, _⟩) (by kernel_rfl) rfl (fun K hK => ?_)
                          go_simp
                          (go_at_call 91; refine (neg_calls F (.slice A n c) (gt (gr l4 i) j) _ hG).mono ?_; rintro e w5 ⟨rfl, hx5⟩)
                          clear hHeld
                          refine hK.out _ _ inferInstance (fun hHeld => ?_)
                          clear hK K
                          try simp only [Act.put, List.setIfInBounds_toArray, List.set_cons_zero, List.set_cons_succ]
                          refine wpAnyE_one (i := 20) (o := ⟨some 127, _, _, _, _, _⟩) (by kernel_rfl) rfl (fun K hK => ?_)
                          go_simp
                          (go_at_call 117; refine (addTo_calls F A n c (gr l4 i) (gr l4 pv.length) (F.neg (gt (gr l4 i) j)) _ _ _ _ _ _ _ hG hn rfl rfl (by omega) (by omega)).mono ?_; rintro e w6 ⟨g6, rfl, hf6, ho6, hx6⟩)
                          clear hHeld
                          refine hK.out _ _ inferInstance (fun hHeld => ?_)
                          clear hK K
                          try simp only [Act.put, List.setIfInBounds_toArray, List.set_cons_zero, List.set_cons_succ]
                          refine wpAnyE_take (i := 21) (oi := ⟨some 128, _, _, _, _, _⟩) (v := ?_) rfl (by kernel_rfl) (by kernel_rfl) (by kernel_rfl) (by decide) (by kernel_rfl) (fun _ _ _ h => h) (Or.inl ⟨by rfl, ?_⟩) hHeld ?_
                          rotate_left
                          · (intro w1 hS1; first | (go_simp; done) | (go_simp; with_reducible rfl))
                          try simp only [Act.put, List.setIfInBounds_toArray, List.set_cons_zero, List.set_cons_succ]
                          refine wpAnyE_last (o := ⟨none, _, _, _, _, _⟩) (by kernel_rfl) rfl (fun K hK => ?_)
                          go_simp
                          refine hK.out _ _ ?_
                          clear hK K
                          try simp only [Act.put, List.setIfInBounds_toArray, List.set_cons_zero, List.set_cons_succ]
                          refine wpAnyE_done (by kernel_rfl) ?_ _
                          obtain ⟨w7, hw7⟩ : ∃ w7, w7 = w6.setCell ⟨g, i, none⟩ (.slice (some ⟨g6, 0, none⟩) (gr l4 i).length (gr l4 i).length) := ⟨_, rfl⟩
                          rw [← hw7]
                          have hB6 : Bel w w6 := inferInstance
                          have hown6 : OwnV w6 g 22 cs4 := inferInstance
                          have hinn6 : Inn w6 cs4 l4 := inferInstance
                          have hrow6 : Row w6 v9 3 (nums pv) := inferInstance
                          have hbx6 : Bx w6 w.heap.size #[.int .i64 F.p, .int .i64 F.m, .slice A n c] 24 := inferInstance
                          have hap6 : Apart g6 g := ⟨own_ownv_ne ho6 hown6 (by decide)⟩
                          have hB7 : Bel w w7 := by rw [hw7]; infer_instance
                          have hbx7 : Bx w7 w.heap.size #[.int .i64 F.p, .int .i64 F.m, .slice A n c] 24 := by rw [hw7]; infer_instance
                          have hown7 : OwnV w7 g 22 (cs4.set i (.slice (some ⟨g6, 0, none⟩) (gr l4 i).length (gr l4 i).length)) := by rw [hw7]; infer_instance
                          have hrow7 : Row w7 v9 3 (nums pv) := by rw [hw7]; infer_instance
                          have ho7 : Own w7 g6 (mkL (gr l4 i).length (F.addToF (gr l4 i) (F.neg (gt (gr l4 i) j)) (gr l4 pv.length))) := by rw [hw7]; infer_instance
                          have hinn7 : Inn w7 cs4 l4 := by rw [hw7]; exact hinn6.store hown6 (by decide) _ _
                          have hinn8 := hinn7.put (k := i) (c := (gr l4 i).length) hir (show (gr l4 i).length = _ by rw [mkL_length]) ho7
                          have hia8 := HIA4.out.put i (g := g6) (n := (gr l4 i).length) (c := (gr l4 i).length) (fun he => by
                            have h1 := hrow4.lt he.symm
                            have h2 := hf6.out
                            have h3 : wr.heap.size ≤ w5.heap.size := hx5.out.size
                            omega)
                          clear hw7 hX
                          go_wp2
                          go_roundw
                          case rel => exact ⟨i + 1, _, _, by go_num, by omega, hB7, hbx7, hown7, hinn8, hrow7, hia8, by rw [List.length_set]; exact HI4.out.1, HI4.out.2.1.set i (by rw [mkL_length]; exact HLI.out), by
                            rw [Fd.clearR, loopN_succ, ← Fd.clearR, ← HI4.out.2.2, Fd.clearIn, if_pos ⟨HR2.out, HZ.out⟩]⟩
                          case measure => simp [intOf] <;> omega
                    · obtain rfl : i = nx := by omega
                      have hpl : pv.length ≤ 1000 := by omega
                      go_wp2_with (at_builtin; refine app_int rfl (.tmp 129) (.tmp 131) rfl v9 pv j wr.heap.size rfl rfl (by omega) ?_; intro v1 w5 hr1 hc1 hv1)
                      have hf1 : FrV w v1 := FrV.app hv1
                      have hB5 : Bel w w5 := inferInstance
                      have hbx5 : Bx w5 w.heap.size #[.int .i64 F.p, .int .i64 F.m, .slice A n c] 24 := inferInstance
                      have hown5 : OwnV w5 g 22 cs4 := inferInstance
                      have hinn4' : Inn (wr.alloc (.cells #[.int .i64 j] 3)) cs4 l4 := inferInstance
                      have hinn5 : Inn w5 cs4 l4 := hinn4'.chg hc1 HIA4.out
                      have hia5 : InnAp cs4 v1 := HIA4.out.app hinn4' hv1
                      have hap5 : ApV g v1 := ⟨fun he => by
                        rcases hv1 with h | h
                        · rw [h] at he; exact hap9.out he
                        · rw [h] at he
                          have h1 := (lo_ownv (h := hown4)).out
                          simp only [World.size_alloc, Option.some.injEq] at he
                          omega⟩
                      clear hc1 hv1
                      go_roundw
                      case rel =>
                        refine ⟨j + 1, pv ++ [(j : Int)], v1, cs4, l4, rfl, by simp, by go_num, by omega, by rw [List.length_append, List.length_singleton]; omega, HI4.out.1, hB5, hbx5, hown5, hinn5, hr1, hf1, hap5, hia5, HI4.out.2.1, ?_⟩
                        rw [loopN_succ, ← HI3.out, HS.out, ← HI4.out.2.2]
                      case measure => simp [intOf] <;> omega
                · have hob : (gt (gr l2 pv.length) j != 1) = true := by simp [hone]
                  have hl3 : F.normR j pv.length l2 = l2.set pv.length (mkL (gr l2 pv.length).length (F.scaleF (F.inv (gt (gr l2 pv.length) j)) (gr l2 pv.length))) := if_neg hone
                  rw [hl3] at HS
                  clear hl3 hone
                  have hX : Near w2.heap.size w2 w2 := ⟨Below.refl _ _⟩
                  have hinR : In pv.length cs2.length := ⟨hrc⟩
                  go_upto_region 13 with (fail)
                  refine wp_region_E (S := fun w' => Near w2.heap.size w2 w') 18 (by kernel_rfl) inferInstance (fun hHeld => ?_)
                  refine wpAnyE_take (i := 0) (oi := ⟨some 70, _, _, _, _, _⟩) (v := ?_) rfl (by kernel_rfl) (by kernel_rfl) (by kernel_rfl) (by decide) (by kernel_rfl) (fun _ _ _ h => h) (Or.inl ⟨by rfl, ?_⟩) hHeld ?_
                  rotate_left
                  · (intro w1 hS1; first | (go_simp; done) | (go_simp; with_reducible rfl))
                  try simp only [Act.put, List.setIfInBounds_toArray, List.set_cons_zero, List.set_cons_succ]
                  refine wpAnyE_take (i := 1) (oi := ⟨some 71, _, _, _, _, _⟩) (v := ?_) rfl (by kernel_rfl) (by kernel_rfl) (by kernel_rfl) (by decide) (by kernel_rfl) (fun _ _ _ h => h) (Or.inl ⟨by rfl, ?_⟩) hHeld ?_
                  rotate_left
                  · (intro w1 hS1; first | (go_simp; done) | (go_simp; with_reducible rfl))
                  try simp only [Act.put, List.setIfInBounds_toArray, List.set_cons_zero, List.set_cons_succ]
                  refine wpAnyE_take (i := 2) (oi := ⟨some 72, _, _, _, _, _⟩) (v := ?_) rfl (by kernel_rfl) (by kernel_rfl) (by kernel_rfl) (by decide) (by kernel_rfl) (fun _ _ _ h => h) (Or.inl ⟨by rfl, ?_⟩) hHeld ?_
                  rotate_left
                  · (intro w1 hS1; first | (go_simp; done) | (go_simp; with_reducible rfl))
                  try simp only [Act.put, List.setIfInBounds_toArray, List.set_cons_zero, List.set_cons_succ]
                  refine wpAnyE_take (i := 3) (oi := ⟨some 73, _, _, _, _, _⟩) (v := ?_) rfl (by kernel_rfl) (by kernel_rfl) (by kernel_rfl) (by decide) (by kernel_rfl) (fun _ _ _ h => h) (Or.inl ⟨by rfl, ?_⟩) hHeld ?_
                  rotate_left
                  · (intro w1 hS1; first | (go_simp; done) | (go_simp; with_reducible rfl))
                  try simp only [Act.put, List.setIfInBounds_toArray, List.set_cons_zero, List.set_cons_succ]
                  refine wpAnyE_take (i := 4) (oi := ⟨some 74, _, _, _, _, _⟩) (v := ?_) rfl (by kernel_rfl) (by kernel_rfl) (by kernel_rfl) (by decide) (by kernel_rfl) (fun _ _ _ h => h) (Or.inl ⟨by rfl, ?_⟩) hHeld ?_
                  rotate_left
                  · (intro w1 hS1; first | (go_simp; done) | (go_simp; with_reducible rfl))
                  try simp only [Act.put, List.setIfInBounds_toArray, List.set_cons_zero, List.set_cons_succ]
                  refine wpAnyE_take (i := 5) (oi := ⟨some 75, _, _, _, _, _⟩) (v := ?_) rfl (by kernel_rfl) (by kernel_rfl) (by kernel_rfl) (by decide) (by kernel_rfl) (fun _ _ _ h => h) (Or.inl ⟨by rfl, ?_⟩) hHeld ?_
                  rotate_left
                  · (intro w1 hS1; first | (go_simp; done) | (go_simp; with_reducible rfl))
                  try simp only [Act.put, List.setIfInBounds_toArray, List.set_cons_zero, List.set_cons_succ]
                  refine wpAnyE_take (i := 6) (oi := ⟨some 76, _, _, _, _, _⟩) (v := ?_) rfl (by kernel_rfl) (by kernel_rfl) (by kernel_rfl) (by decide) (by kernel_rfl) (fun _ _ _ h => h) (Or.inl ⟨by rfl, ?_⟩) hHeld ?_
                  rotate_left
                  · (intro w1 hS1; first | (go_simp; done) | (go_simp; with_reducible rfl))
                  try simp only [Act.put, List.setIfInBounds_toArray, List.set_cons_zero, List.set_cons_succ]
                  refine wpAnyE_take (i := 7) (oi := ⟨some 77, _, _, _, _, _⟩) (v := ?_) rfl (by kernel_rfl) (by kernel_rfl) (by kernel_rfl) (by decide) (by kernel_rfl) (fun _ _ _ h => h) (Or.inl ⟨by rfl, ?_⟩) hHeld ?_
                  rotate_left
                  · (intro w1 hS1; first | (go_simp; done) | (go_simp; with_reducible rfl))
                  try simp only [Act.put, List.setIfInBounds_toArray, List.set_cons_zero, List.set_cons_succ]
                  refine wpAnyE_take (i := 8) (oi := ⟨some 78, _, _, _, _, _⟩) (v := ?_) rfl (by kernel_rfl) (by kernel_rfl) (by kernel_rfl) (by decide) (by kernel_rfl) (fun _ _ _ h => h) (Or.inl ⟨by rfl, ?_⟩) hHeld ?_
                  rotate_left
                  · (intro w1 hS1; first | (go_simp; done) | (go_simp; with_reducible rfl))
                  try simp only [Act.put, List.setIfInBounds_toArray, List.set_cons_zero, List.set_cons_succ]
                  refine wpAnyE_take (i := 9) (oi := ⟨some 79, _, _, _, _, _⟩) (v := ?_) rfl (by kernel_rfl) (by kernel_rfl) (by kernel_rfl) (by decide) (by kernel_rfl) (fun _ _ _ h => h) (Or.inl ⟨by rfl, ?_⟩) hHeld ?_
                  rotate_left
                  · (intro w1 hS1; first | (go_simp; done) | (go_simp; with_reducible rfl))
                  try simp only [Act.put, List.setIfInBounds_toArray, List.set_cons_zero, List.set_cons_succ]
                  refine wpAnyE_take (i := 10) (oi := ⟨some 80, _, _, _, _, _⟩) (v := ?_) rfl (by kernel_rfl) (by kernel_rfl) (by kernel_rfl) (by decide) (by kernel_rfl) (fun _ _ _ h => h) (Or.inl ⟨by rfl, ?_⟩) hHeld ?_
                  rotate_left
                  · (intro w1 hS1; first | (go_simp; done) | (go_simp; with_reducible rfl))
                  try simp only [Act.put, List.setIfInBounds_toArray, List.set_cons_zero, List.set_cons_succ]
                  refine wpAnyE_take (i := 12) (oi := ⟨some 82, _, _, _, _, _⟩) (v := ?_) rfl (by kernel_rfl) (by kernel_rfl) (by kernel_rfl) (by decide) (by kernel_rfl) (fun _ _ _ h => h) (Or.inl ⟨by rfl, ?_⟩) hHeld ?_
                  rotate_left
                  · (intro w1 hS1; first | (go_simp; done) | (go_simp; with_reducible rfl))
                  try simp only [Act.put, List.setIfInBounds_toArray, List.set_cons_zero, List.set_cons_succ]
                  refine wpAnyE_take (i := 13) (oi := ⟨some 83, _, _, _, _, _⟩) (v := ?_) rfl (by kernel_rfl) (by kernel_rfl) (by kernel_rfl) (by decide) (by kernel_rfl) (fun _ _ _ h => h) (Or.inl ⟨by rfl, ?_⟩) hHeld ?_
                  rotate_left
                  · (intro w1 hS1; first | (go_simp; done) | (go_simp; with_reducible rfl))
                  try simp only [Act.put, List.setIfInBounds_toArray, List.set_cons_zero, List.set_cons_succ]
                  refine wpAnyE_take (i := 14) (oi := ⟨some 84, _, _, _, _, _⟩) (v := ?_) rfl (by kernel_rfl) (by kernel_rfl) (by kernel_rfl) (by decide) (by kernel_rfl) (fun _ _ _ h => h) (Or.inl ⟨by rfl, ?_⟩) hHeld ?_
                  rotate_left
                  · (intro w1 hS1; first | (go_simp; done) | (go_simp; with_reducible rfl))
                  try simp only [Act.put, List.setIfInBounds_toArray, List.set_cons_zero, List.set_cons_succ]
                  refine wpAnyE_take (i := 15) (oi := ⟨some 85, _, _, _, _, _⟩) (v := ?_) rfl (by kernel_rfl) (by kernel_rfl) (by kernel_rfl) (by decide) (by kernel_rfl) (fun _ _ _ h => h) (Or.inl ⟨by rfl, ?_⟩) hHeld ?_
                  rotate_left
                  · (intro w1 hS1; first | (go_simp; done) | (go_simp; with_reducible rfl))
                  try simp only [Act.put, List.setIfInBounds_toArray, List.set_cons_zero, List.set_cons_succ]
                  refine wpAnyE_one (i := 11) (o := ⟨some 81, _, _, _, _, _⟩) (by kernel_rfl) rfl (fun K hK => ?_)
                  go_simp
                  (go_at_call 154; refine (inv_calls F A n c (gt (gr l2 pv.length) j) _ hG hn).mono ?_; rintro e w4 ⟨rfl, hx4⟩)
                  clear hHeld
                  refine hK.out _ _ inferInstance (fun hHeld => ?_)
                  clear hK K
                  try simp only [Act.put, List.setIfInBounds_toArray, List.set_cons_zero, List.set_cons_succ]
                  refine wpAnyE_one (i := 16) (o := ⟨some 86, _, _, _, _, _⟩) (by kernel_rfl) rfl (fun K hK => ?_)
                  go_simp
                  (go_at_call 153; refine (scale_calls F A n c (F.inv (gt (gr l2 pv.length) j)) (gr l2 pv.length) _ _ _ _ hG hn rfl (by omega)).mono ?_; rintro e w5 ⟨g5, rfl, hf5, ho5, hx5⟩)
                  clear hHeld
                  refine hK.out _ _ inferInstance (fun hHeld => ?_)
                  clear hK K
                  try simp only [Act.put, List.setIfInBounds_toArray, List.set_cons_zero, List.set_cons_succ]
                  refine wpAnyE_take (i := 17) (oi := ⟨some 87, _, _, _, _, _⟩) (v := ?_) rfl (by kernel_rfl) (by kernel_rfl) (by kernel_rfl) (by decide) (by kernel_rfl) (fun _ _ _ h => h) (Or.inl ⟨by rfl, ?_⟩) hHeld ?_
                  rotate_left
                  · (intro w1 hS1; first | (go_simp; done) | (go_simp; with_reducible rfl))
                  try simp only [Act.put, List.setIfInBounds_toArray, List.set_cons_zero, List.set_cons_succ]
                  refine wpAnyE_last (o := ⟨none, _, _, _, _, _⟩) (by kernel_rfl) rfl (fun K hK => ?_)
                  go_simp
                  refine hK.out _ _ ?_
                  clear hK K
                  try simp only [Act.put, List.setIfInBounds_toArray, List.set_cons_zero, List.set_cons_succ]
                  refine wpAnyE_done (by kernel_rfl) ?_ _
                  obtain ⟨w3, hw3⟩ : ∃ w3, w3 = w5.setCell ⟨g, pv.length, none⟩ (.slice (some ⟨g5, 0, none⟩) (gr l2 pv.length).length (gr l2 pv.length).length) := ⟨_, rfl⟩
                  rw [← hw3]
                  have hown5 : OwnV w5 g 22 cs2 := inferInstance
                  have hinn5 : Inn w5 cs2 l2 := inferInstance
                  have hrow5 : Row w5 v9 3 (nums pv) := inferInstance
                  have hap5 : Apart g5 g := ⟨own_ownv_ne ho5 hown5 (by decide)⟩
                  have hB3 : Bel w w3 := by rw [hw3]; infer_instance
                  have hbx3 : Bx w3 w.heap.size #[.int .i64 F.p, .int .i64 F.m, .slice A n c] 24 := by rw [hw3]; infer_instance
                  have hown3 : OwnV w3 g 22 (cs2.set pv.length (.slice (some ⟨g5, 0, none⟩) (gr l2 pv.length).length (gr l2 pv.length).length)) := by rw [hw3]; infer_instance
                  have hrow3 : Row w3 v9 3 (nums pv) := by rw [hw3]; infer_instance
                  have ho3 : Own w3 g5 (mkL (gr l2 pv.length).length (F.scaleF (F.inv (gt (gr l2 pv.length) j)) (gr l2 pv.length))) := by rw [hw3]; infer_instance
                  have hinn6 : Inn w3 cs2 l2 := by rw [hw3]; exact hinn5.store hown5 (by decide) _ _
                  have hinn3 := hinn6.put (k := pv.length) (c := (gr l2 pv.length).length) hrl (show (gr l2 pv.length).length = _ by rw [mkL_length]) ho3
                  have HIA3 := hidd (HIA2.out.put pv.length (g := g5) (n := (gr l2 pv.length).length) (c := (gr l2 pv.length).length) (fun he => by
                    have h1 := hrow2.lt he.symm
                    have h2 := hf5.out
                    have h3 : w2.heap.size ≤ w4.heap.size := hx4.out.size
                    omega))
                  have HG3 := hidd (HGR.out.set pv.length (x := mkL (gr l2 pv.length).length (F.scaleF (F.inv (gt (gr l2 pv.length) j)) (gr l2 pv.length))) (by rw [mkL_length]; exact HGR.out.2 _ hat))
                  have HL3 := hidd (show (cs2.set pv.length (.slice (some ⟨g5, 0, none⟩) (gr l2 pv.length).length (gr l2 pv.length).length)).length = nx by rw [List.length_set]; exact HLN.out)
                  obtain ⟨l3, hl3⟩ : ∃ l3, l3 = l2.set pv.length (mkL (gr l2 pv.length).length (F.scaleF (F.inv (gt (gr l2 pv.length) j)) (gr l2 pv.length))) := ⟨_, rfl⟩
                  obtain ⟨cs3, hcs3⟩ : ∃ cs3, cs3 = cs2.set pv.length (.slice (some ⟨g5, 0, none⟩) (gr l2 pv.length).length (gr l2 pv.length).length) := ⟨_, rfl⟩
                  rw [← hl3] at HS HG3 hinn3
                  rw [← hcs3] at HIA3 HL3 hinn3 hown3
                  clear hw3 hl3 hcs3 hX ho3 hinn6 hinn5 hown5 hrow5 ho5 hx5 hx4 hHeld hown2 hinn2 hrow2 hbx2 hB2 hg2 ho2 hob
                  go_wp2
                  go_loopw [13] (fun iv wr => ∃ (i : Nat) (cs4 : List Value) (l4 : List (List Int)), iv = .int .i64 i ∧ i ≤ nx ∧ Bel w wr ∧ Bx wr w.heap.size #[.int .i64 F.p, .int .i64 F.m, .slice A n c] 24 ∧ OwnV wr g 22 cs4 ∧ Inn wr cs4 l4 ∧ Row wr v9 3 (nums pv) ∧ Hid (InnAp cs4 v9) ∧ Hid (cs4.length = nx ∧ Grid nx m l4 ∧ l4 = F.clearR j pv.length i l3)) (fun iv _ => nx - (intOf iv).toNat)
                  case atStart => exact ⟨0, cs3, l3, rfl, by omega, hB3, hbx3, hown3, hinn3, hrow3, HIA3, HL3.out, HG3.out, rfl⟩
                  case round =>
                    obtain ⟨i, cs4, l4, rfl, hi, hB4, hbx4, hown4, hinn4, hrow4, HIA4, HI4⟩ := hrel
                    have hcl4 := hidd HI4.out.1
                    by_cases hil : i < nx
                    · have hir : i < l4.length := by rw [HI4.out.2.1.1]; exact hil
                      have hic : i < cs4.length := by rw [HI4.out.1]; exact hil
                      obtain ⟨gi, ci, hgi, hoi⟩ := hinn4.out i hir
                      have hli := HI4.out.2.1.2 i hil
                      have hlr := HI4.out.2.1.2 pv.length hat
                      have hji : j < (gr l4 i).length := by rw [hli]; exact hjm
                      have hl1 : (gr l4 i).length ≤ 1000 := by omega
                      have hl2' : (gr l4 i).length ≤ (gr l4 pv.length).length := by omega
                      have HLI := hidd hli
                      clear hli hlr
                      by_cases hir2 : i = pv.length
                      · have hb : ((i : Int) != (pv.length : Int)) = false := by simp [hir2]
                        have HR2 := hidd hir2
                        clear hir2
                        go_wp2
                        go_roundw
                        case rel => exact ⟨i + 1, cs4, l4, by go_num, by omega, hB4, hbx4, hown4, hinn4, hrow4, HIA4, HI4.out.1, HI4.out.2.1, by
                          rw [Fd.clearR, loopN_succ, ← Fd.clearR, ← HI4.out.2.2, Fd.clearIn, if_neg (fun h => h.1 HR2.out)]⟩
                        case measure => simp [intOf] <;> omega
                      · have hb : ((i : Int) != (pv.length : Int)) = true := by simp; omega
                        have HR2 := hidd hir2
                        clear hir2
                        by_cases hz : gt (gr l4 i) j = 0
                        · have hzb : (gt (gr l4 i) j != 0) = false := by simp [hz]
                          have HZ := hidd hz
                          clear hz
                          go_wp2
                          go_roundw
                          case rel => exact ⟨i + 1, cs4, l4, by go_num, by omega, hB4, hbx4, hown4, hinn4, hrow4, HIA4, HI4.out.1, HI4.out.2.1, by
                            rw [Fd.clearR, loopN_succ, ← Fd.clearR, ← HI4.out.2.2, Fd.clearIn, if_neg (fun h => h.2 HZ.out)]⟩
                          case measure => simp [intOf] <;> omega
                        · have hzb : (gt (gr l4 i) j != 0) = true := by simp [hz]
                          have HZ := hidd hz
                          clear hz
                          obtain ⟨gq, cq, hgq, hoq⟩ := hinn4.out pv.length (by rw [HI4.out.2.1.1]; exact hat)
                          have hqc : pv.length < cs4.length := by rw [HI4.out.1]; exact hat
                          have hinI : In i cs4.length := ⟨hic⟩
                          have hX : Near wr.heap.size wr wr := ⟨Below.refl _ _⟩
                          go_upto_region 18 with (fail)
                          refine wp_region_E (S := fun w' => Near wr.heap.size wr w') 22 (by kernel_rfl) inferInstance (fun hHeld => ?_)
                          refine wpAnyE_take (i := 0) (oi := ⟨some 107, _, _, _, _, _⟩) (v := ?_) rfl (by kernel_rfl) (by kernel_rfl) (by kernel_rfl) (by decide) (by kernel_rfl) (fun _ _ _ h => h) (Or.inl ⟨by rfl, ?_⟩) hHeld ?_
                          rotate_left
                          · (intro w1 hS1; first | (go_simp; done) | (go_simp; with_reducible rfl))
                          try simp only [Act.put, List.setIfInBounds_toArray, List.set_cons_zero, List.set_cons_succ]
                          refine wpAnyE_take (i := 1) (oi := ⟨some 108, _, _, _, _, _⟩) (v := ?_) rfl (by kernel_rfl) (by kernel_rfl) (by kernel_rfl) (by decide) (by kernel_rfl) (fun _ _ _ h => h) (Or.inl ⟨by rfl, ?_⟩) hHeld ?_
                          rotate_left
                          · (intro w1 hS1; first | (go_simp; done) | (go_simp; with_reducible rfl))
                          try simp only [Act.put, List.setIfInBounds_toArray, List.set_cons_zero, List.set_cons_succ]
                          refine wpAnyE_take (i := 2) (oi := ⟨some 109, _, _, _, _, _⟩) (v := ?_) rfl (by kernel_rfl) (by kernel_rfl) (by kernel_rfl) (by decide) (by kernel_rfl) (fun _ _ _ h => h) (Or.inl ⟨by rfl, ?_⟩) hHeld ?_
                          rotate_left
                          · (intro w1 hS1; first | (go_simp; done) | (go_simp; with_reducible rfl))
                          try simp only [Act.put, List.setIfInBounds_toArray, List.set_cons_zero, List.set_cons_succ]
                          refine wpAnyE_take (i := 3) (oi := ⟨some 110, _, _, _, _, _⟩) (v := ?_) rfl (by kernel_rfl) (by kernel_rfl) (by kernel_rfl) (by decide) (by kernel_rfl) (fun _ _ _ h => h) (Or.inl ⟨by rfl, ?_⟩) hHeld ?_
                          rotate_left
                          · (intro w1 hS1; first | (go_simp; done) | (go_simp; with_reducible rfl))
                          try simp only [Act.put, List.setIfInBounds_toArray, List.set_cons_zero, List.set_cons_succ]
                          refine wpAnyE_take (i := 4) (oi := ⟨some 111, _, _, _, _, _⟩) (v := ?_) rfl (by kernel_rfl) (by kernel_rfl) (by kernel_rfl) (by decide) (by kernel_rfl) (fun _ _ _ h => h) (Or.inl ⟨by rfl, ?_⟩) hHeld ?_
                          rotate_left
                          · (intro w1 hS1; first | (go_simp; done) | (go_simp; with_reducible rfl))
                          try simp only [Act.put, List.setIfInBounds_toArray, List.set_cons_zero, List.set_cons_succ]
                          refine wpAnyE_take (i := 5) (oi := ⟨some 112, _, _, _, _, _⟩) (v := ?_) rfl (by kernel_rfl) (by kernel_rfl) (by kernel_rfl) (by decide) (by kernel_rfl) (fun _ _ _ h => h) (Or.inl ⟨by rfl, ?_⟩) hHeld ?_
                          rotate_left
                          · (intro w1 hS1; first | (go_simp; done) | (go_simp; with_reducible rfl))
                          try simp only [Act.put, List.setIfInBounds_toArray, List.set_cons_zero, List.set_cons_succ]
                          refine wpAnyE_take (i := 6) (oi := ⟨some 113, _, _, _, _, _⟩) (v := ?_) rfl (by kernel_rfl) (by kernel_rfl) (by kernel_rfl) (by decide) (by kernel_rfl) (fun _ _ _ h => h) (Or.inl ⟨by rfl, ?_⟩) hHeld ?_
                          rotate_left
                          · (intro w1 hS1; first | (go_simp; done) | (go_simp; with_reducible rfl))
                          try simp only [Act.put, List.setIfInBounds_toArray, List.set_cons_zero, List.set_cons_succ]
                          refine wpAnyE_take (i := 7) (oi := ⟨some 114, _, _, _, _, _⟩) (v := ?_) rfl (by kernel_rfl) (by kernel_rfl) (by kernel_rfl) (by decide) (by kernel_rfl) (fun _ _ _ h => h) (Or.inl ⟨by rfl, ?_⟩) hHeld ?_
                          rotate_left
                          · (intro w1 hS1; first | (go_simp; done) | (go_simp; with_reducible rfl))
                          try simp only [Act.put, List.setIfInBounds_toArray, List.set_cons_zero, List.set_cons_succ]
                          refine wpAnyE_take (i := 8) (oi := ⟨some 115, _, _, _, _, _⟩) (v := ?_) rfl (by kernel_rfl) (by kernel_rfl) (by kernel_rfl) (by decide) (by kernel_rfl) (fun _ _ _ h => h) (Or.inl ⟨by rfl, ?_⟩) hHeld ?_
                          rotate_left
                          · (intro w1 hS1; first | (go_simp; done) | (go_simp; with_reducible rfl))
                          try simp only [Act.put, List.setIfInBounds_toArray, List.set_cons_zero, List.set_cons_succ]
                          refine wpAnyE_take (i := 9) (oi := ⟨some 116, _, _, _, _, _⟩) (v := ?_) rfl (by kernel_rfl) (by kernel_rfl) (by kernel_rfl) (by decide) (by kernel_rfl) (fun _ _ _ h => h) (Or.inl ⟨by rfl, ?_⟩) hHeld ?_
                          rotate_left
                          · (intro w1 hS1; first | (go_simp; done) | (go_simp; with_reducible rfl))
                          try simp only [Act.put, List.setIfInBounds_toArray, List.set_cons_zero, List.set_cons_succ]
                          refine wpAnyE_take (i := 10) (oi := ⟨some 117, _, _, _, _, _⟩) (v := ?_) rfl (by kernel_rfl) (by kernel_rfl) (by kernel_rfl) (by decide) (by kernel_rfl) (fun _ _ _ h => h) (Or.inl ⟨by rfl, ?_⟩) hHeld ?_
                          rotate_left
                          · (intro w1 hS1; first | (go_simp; done) | (go_simp; with_reducible rfl))
                          try simp only [Act.put, List.setIfInBounds_toArray, List.set_cons_zero, List.set_cons_succ]
                          refine wpAnyE_take (i := 11) (oi := ⟨some 118, _, _, _, _, _⟩) (v := ?_) rfl (by kernel_rfl) (by kernel_rfl) (by kernel_rfl) (by decide) (by kernel_rfl) (fun _ _ _ h => h) (Or.inl ⟨by rfl, ?_⟩) hHeld ?_
                          rotate_left
                          · (intro w1 hS1; first | (go_simp; done) | (go_simp; with_reducible rfl))
                          try simp only [Act.put, List.setIfInBounds_toArray, List.set_cons_zero, List.set_cons_succ]
                          refine wpAnyE_take (i := 12) (oi := ⟨some 119, _, _, _, _, _⟩) (v := ?_) rfl (by kernel_rfl) (by kernel_rfl) (by kernel_rfl) (by decide) (by kernel_rfl) (fun _ _ _ h => h) (Or.inl ⟨by rfl, ?_⟩) hHeld ?_
                          rotate_left
                          · (intro w1 hS1; first | (go_simp; done) | (go_simp; with_reducible rfl))
                          try simp only [Act.put, List.setIfInBounds_toArray, List.set_cons_zero, List.set_cons_succ]
                          refine wpAnyE_take (i := 13) (oi := ⟨some 120, _, _, _, _, _⟩) (v := ?_) rfl (by kernel_rfl) (by kernel_rfl) (by kernel_rfl) (by decide) (by kernel_rfl) (fun _ _ _ h => h) (Or.inl ⟨by rfl, ?_⟩) hHeld ?_
                          rotate_left
                          · (intro w1 hS1; first | (go_simp; done) | (go_simp; with_reducible rfl))
                          try simp only [Act.put, List.setIfInBounds_toArray, List.set_cons_zero, List.set_cons_succ]
                          refine wpAnyE_take (i := 14) (oi := ⟨some 121, _, _, _, _, _⟩) (v := ?_) rfl (by kernel_rfl) (by kernel_rfl) (by kernel_rfl) (by decide) (by kernel_rfl) (fun _ _ _ h => h) (Or.inl ⟨by rfl, ?_⟩) hHeld ?_
                          rotate_left
                          · (intro w1 hS1; first | (go_simp; done) | (go_simp; with_reducible rfl))
                          try simp only [Act.put, List.setIfInBounds_toArray, List.set_cons_zero, List.set_cons_succ]
                          refine wpAnyE_take (i := 16) (oi := ⟨some 123, _, _, _, _, _⟩) (v := ?_) rfl (by kernel_rfl) (by kernel_rfl) (by kernel_rfl) (by decide) (by kernel_rfl) (fun _ _ _ h => h) (Or.inl ⟨by rfl, ?_⟩) hHeld ?_
                          rotate_left
                          · (intro w1 hS1; first | (go_simp; done) | (go_simp; with_reducible rfl))
                          try simp only [Act.put, List.setIfInBounds_toArray, List.set_cons_zero, List.set_cons_succ]
                          refine wpAnyE_take (i := 17) (oi := ⟨some 124, _, _, _, _, _⟩) (v := ?_) rfl (by kernel_rfl) (by kernel_rfl) (by kernel_rfl) (by decide) (by kernel_rfl) (fun _ _ _ h => h) (Or.inl ⟨by rfl, ?_⟩) hHeld ?_
                          rotate_left
                          · (intro w1 hS1; first | (go_simp; done) | (go_simp; with_reducible rfl))
                          try simp only [Act.put, List.setIfInBounds_toArray, List.set_cons_zero, List.set_cons_succ]
                          refine wpAnyE_take (i := 18) (oi := ⟨some 125, _, _, _, _, _⟩) (v := ?_) rfl (by kernel_rfl) (by kernel_rfl) (by kernel_rfl) (by decide) (by kernel_rfl) (fun _ _ _ h => h) (Or.inl ⟨by rfl, ?_⟩) hHeld ?_
                          rotate_left
                          · (intro w1 hS1; first | (go_simp; done) | (go_simp; with_reducible rfl))
                          try simp only [Act.put, List.setIfInBounds_toArray, List.set_cons_zero, List.set_cons_succ]
                          refine wpAnyE_take (i := 19) (oi := ⟨some 126, _, _, _, _, _⟩) (v := ?_) rfl (by kernel_rfl) (by kernel_rfl) (by kernel_rfl) (by decide) (by kernel_rfl) (fun _ _ _ h => h) (Or.inl ⟨by rfl, ?_⟩) hHeld ?_
                          rotate_left
                          · (intro w1 hS1; first | (go_simp; done) | (go_simp; with_reducible rfl))
                          try simp only [Act.put, List.setIfInBounds_toArray, List.set_cons_zero, List.set_cons_succ]
                          refine wpAnyE_one (i := 15) (o := ⟨some 122, _, _, _, _, _⟩) (by kernel_rfl) rfl (fun K hK => ?_)
                          go_simp
                          (go_at_call 91; refine (neg_calls F (.slice A n c) (gt (gr l4 i) j) _ hG).mono ?_; rintro e w5 ⟨rfl, hx5⟩)
                          clear hHeld
                          refine hK.out _ _ inferInstance (fun hHeld => ?_)
                          clear hK K
                          try simp only [Act.put, List.setIfInBounds_toArray, List.set_cons_zero, List.set_cons_succ]
                          refine wpAnyE_one (i := 20) (o := ⟨some 127, _, _, _, _, _⟩) (by kernel_rfl) rfl (fun K hK => ?_)
                          go_simp
                          (go_at_call 117; refine (addTo_calls F A n c (gr l4 i) (gr l4 pv.length) (F.neg (gt (gr l4 i) j)) _ _ _ _ _ _ _ hG hn rfl rfl (by omega) (by omega)).mono ?_; rintro e w6 ⟨g6, rfl, hf6, ho6, hx6⟩)
                          clear hHeld
                          refine hK.out _ _ inferInstance (fun hHeld => ?_)
                          clear hK K
                          try simp only [Act.put, List.setIfInBounds_toArray, List.set_cons_zero, List.set_cons_succ]
                          refine wpAnyE_take (i := 21) (oi := ⟨some 128, _, _, _, _, _⟩) (v := ?_) rfl (by kernel_rfl) (by kernel_rfl) (by kernel_rfl) (by decide) (by kernel_rfl) (fun _ _ _ h => h) (Or.inl ⟨by rfl, ?_⟩) hHeld ?_
                          rotate_left
                          · (intro w1 hS1; first | (go_simp; done) | (go_simp; with_reducible rfl))
                          try simp only [Act.put, List.setIfInBounds_toArray, List.set_cons_zero, List.set_cons_succ]
                          refine wpAnyE_last (o := ⟨none, _, _, _, _, _⟩) (by kernel_rfl) rfl (fun K hK => ?_)
                          go_simp
                          refine hK.out _ _ ?_
                          clear hK K
                          try simp only [Act.put, List.setIfInBounds_toArray, List.set_cons_zero, List.set_cons_succ]
                          refine wpAnyE_done (by kernel_rfl) ?_ _
                          obtain ⟨w7, hw7⟩ : ∃ w7, w7 = w6.setCell ⟨g, i, none⟩ (.slice (some ⟨g6, 0, none⟩) (gr l4 i).length (gr l4 i).length) := ⟨_, rfl⟩
                          rw [← hw7]
                          have hB6 : Bel w w6 := inferInstance
                          have hown6 : OwnV w6 g 22 cs4 := inferInstance
                          have hinn6 : Inn w6 cs4 l4 := inferInstance
                          have hrow6 : Row w6 v9 3 (nums pv) := inferInstance
                          have hbx6 : Bx w6 w.heap.size #[.int .i64 F.p, .int .i64 F.m, .slice A n c] 24 := inferInstance
                          have hap6 : Apart g6 g := ⟨own_ownv_ne ho6 hown6 (by decide)⟩
                          have hB7 : Bel w w7 := by rw [hw7]; infer_instance
                          have hbx7 : Bx w7 w.heap.size #[.int .i64 F.p, .int .i64 F.m, .slice A n c] 24 := by rw [hw7]; infer_instance
                          have hown7 : OwnV w7 g 22 (cs4.set i (.slice (some ⟨g6, 0, none⟩) (gr l4 i).length (gr l4 i).length)) := by rw [hw7]; infer_instance
                          have hrow7 : Row w7 v9 3 (nums pv) := by rw [hw7]; infer_instance
                          have ho7 : Own w7 g6 (mkL (gr l4 i).length (F.addToF (gr l4 i) (F.neg (gt (gr l4 i) j)) (gr l4 pv.length))) := by rw [hw7]; infer_instance
                          have hinn7 : Inn w7 cs4 l4 := by rw [hw7]; exact hinn6.store hown6 (by decide) _ _
                          have hinn8 := hinn7.put (k := i) (c := (gr l4 i).length) hir (show (gr l4 i).length = _ by rw [mkL_length]) ho7
                          have hia8 := HIA4.out.put i (g := g6) (n := (gr l4 i).length) (c := (gr l4 i).length) (fun he => by
                            have h1 := hrow4.lt he.symm
                            have h2 := hf6.out
                            have h3 : wr.heap.size ≤ w5.heap.size := hx5.out.size
                            omega)
                          clear hw7 hX
                          go_wp2
                          go_roundw
                          case rel => exact ⟨i + 1, _, _, by go_num, by omega, hB7, hbx7, hown7, hinn8, hrow7, hia8, by rw [List.length_set]; exact HI4.out.1, HI4.out.2.1.set i (by rw [mkL_length]; exact HLI.out), by
                            rw [Fd.clearR, loopN_succ, ← Fd.clearR, ← HI4.out.2.2, Fd.clearIn, if_pos ⟨HR2.out, HZ.out⟩]⟩
                          case measure => simp [intOf] <;> omega
                    · obtain rfl : i = nx := by omega
                      have hpl : pv.length ≤ 1000 := by omega
                      go_wp2_with (at_builtin; refine app_int rfl (.tmp 129) (.tmp 131) rfl v9 pv j wr.heap.size rfl rfl (by omega) ?_; intro v1 w5 hr1 hc1 hv1)
                      have hf1 : FrV w v1 := FrV.app hv1
                      have hB5 : Bel w w5 := inferInstance
                      have hbx5 : Bx w5 w.heap.size #[.int .i64 F.p, .int .i64 F.m, .slice A n c] 24 := inferInstance
                      have hown5 : OwnV w5 g 22 cs4 := inferInstance
                      have hinn4' : Inn (wr.alloc (.cells #[.int .i64 j] 3)) cs4 l4 := inferInstance
                      have hinn5 : Inn w5 cs4 l4 := hinn4'.chg hc1 HIA4.out
                      have hia5 : InnAp cs4 v1 := HIA4.out.app hinn4' hv1
                      have hap5 : ApV g v1 := ⟨fun he => by
                        rcases hv1 with h | h
                        · rw [h] at he; exact hap9.out he
                        · rw [h] at he
                          have h1 := (lo_ownv (h := hown4)).out
                          simp only [World.size_alloc, Option.some.injEq] at he
                          omega⟩
                      clear hc1 hv1
                      go_roundw
                      case rel =>
                        refine ⟨j + 1, pv ++ [(j : Int)], v1, cs4, l4, rfl, by simp, by go_num, by omega, by rw [List.length_append, List.length_singleton]; omega, HI4.out.1, hB5, hbx5, hown5, hinn5, hr1, hf1, hap5, hia5, HI4.out.2.1, ?_⟩
                        rw [loopN_succ, ← HI3.out, HS.out, ← HI4.out.2.2]
                      case measure => simp [intOf] <;> omega
            · obtain rfl : k = nx := by omega
              clear hk1 hk2
              go_wp2
              go_roundw
              case rel =>
                refine ⟨j + 1, pv, v9, cs, l, rfl, rfl, by go_num, by omega, hpv, HCL.out, hB, hbx, hown, hinn, hrow, hf9, hap9, HIA, HI.out.1, ?_⟩
                rw [loopN_succ, ← HI.out.2, Fd.elimStep]
                simp only [HLL.out, HK.out, Nat.sub_self, nzAt, Nat.lt_irrefl, if_false]
              case measure => simp [intOf] <;> omega
        · have he : F.elim xss cols = (l, pv) := by
            have h1 : pv.length = nx := by omega
            have h2 := HI.out.2
            have := elim_full F HX.out (t := j) (by rw [← h2]; exact h1) (cols - j)
            rw [show j + (cols - j) = cols by omega] at this
            rw [Fd.elim, this, h2]
          obtain ⟨Ap, cp, rfl, hcp, hsp, _⟩ := hrow.reads
          have HE := hidd he
          clear he
          go_wp2
          go_ret2
          rw [HE.out]
          exact ⟨some ⟨g, 0, none⟩, cap, Ap, cp, rfl, hcap, hcp, hown.sls hinn, hsp, hB.ext⟩
      · have he : F.elim xss cols = (l, pv) := by
          obtain rfl : j = cols := by omega
          rw [Fd.elim, HI.out.2]
        obtain ⟨Ap, cp, rfl, hcp, hsp, _⟩ := hrow.reads
        have HE := hidd he
        clear he
        go_wp2
        go_ret2
        rw [HE.out]
        exact ⟨some ⟨g, 0, none⟩, cap, Ap, cp, rfl, hcap, hcp, hown.sls hinn, hsp, hB.ext⟩

end Go.Proofs.Ytcigdhmecfhndaa

namespace Go.Proofs.Ytcigdhmecfhndaa
open Go.RowKit
attribute [local go_sem] cell_bx froz_bx cell_own froz_own cell_rd cell_cel ints_get ints_set cell_ownv froz_ownv
set_option linter.unusedVariables false
set_option linter.unusedSimpArgs false

theorem Sls.take {w : World} {A : Option Addr} {xss : List (List Int)} (h : Sls w A xss) (n : Nat) : Sls w A (xss.take n) := ⟨fun ad e j hj => by
  simp only [List.length_take] at hj
  have hg : gr (xss.take n) j = gr xss j := by simp [gr, List.getElem?_take_of_lt (show j < n by omega)]
  rw [hg]; exact h.rd ad e j (by omega), fun hp => h.nn (by simp only [List.length_take] at hp; omega)⟩
/-- the rows that have pivots, and the pivots -/
def Fd.canon (F : Fd) (l : List (List Int)) (cols : Nat) : List (List Int) := (F.elim l cols).1.take (F.elim l cols).2.length
def Fd.pivs (F : Fd) (l : List (List Int)) (cols : Nat) : List Int := (F.elim l cols).2
theorem canon_len {n m : Nat} (F : Fd) {l : List (List Int)} (h : Grid n m l) (cols : Nat) : (F.canon l cols).length = (F.pivs l cols).length := by
  have := elim_grid F h cols
  rw [Fd.canon, Fd.pivs, List.length_take]
  have h1 := this.1.1
  have h2 := this.2
  rw [Fd.elim]; omega

set_option maxRecDepth 100000 in
set_option maxHeartbeats 2000000 in
theorem canon_calls (F : Fd) (A : Option Addr) (n c : Nat) (xss : List (List Int)) (Ax : Option Addr) (nx cx cols m : Nat) (w : World) (hG : F.Good) (hn : F.md.length = n) (hx : Grid nx m xss) (hnx : nx ≤ 1000) (hm : m ≤ 1000) (hcols : cols ≤ m) [hA : Sl w A F.md] [hX : Sls w Ax xss] :
    Calls Try.prog 90 #[.agg #[.int .i64 F.p, .int .i64 F.m, .slice A n c], .slice Ax nx cx, .int .i64 cols] w fun e w' => ∃ (Ar : Option Addr) (cr : Nat) (Ap : Option Addr) (cp : Nat),
      e = .returned (.tuple #[.slice Ar (F.pivs xss cols).length cr, .slice Ap (F.pivs xss cols).length cp]) ∧ (F.pivs xss cols).length ≤ cr ∧ (F.pivs xss cols).length ≤ cp ∧ Sls w' Ar (F.canon xss cols) ∧ Sl w' Ap (F.pivs xss cols) ∧ Ext w w' := by
  have hle := (elim_grid F hx cols).2
  go_enter Try.func90, Try.ntmps90
  obtain ⟨k, hk⟩ : ∃ k, k = (F.elim xss cols).2.length := ⟨_, rfl⟩
  have hkn : k ≤ nx := by rw [hk]; exact hle
  have HK := hidd hk
  clear hk hle
  go_wp2_with (go_at_call 131; refine (elim_calls F A n c xss Ax nx cx cols m _ hG hn hx hnx hm hcols).mono ?_; rintro e w1 ⟨Ar, cr, Ap, cp, rfl, hcr, hcp, hsr, hsp, hx1⟩; rw [← HK.out] at hcp ⊢; have hkr : k ≤ cr := (by omega))
  go_ret2
  have hkp : (F.pivs xss cols).length = k := HK.out.symm
  rw [hkp]
  exact ⟨Ar, cr, Ap, cp, rfl, hkr, hcp, (by rw [Fd.canon, ← HK.out]; exact hsr.take k), hsp, Bel.ext inferInstance⟩

set_option maxRecDepth 100000 in
set_option maxHeartbeats 2000000 in
theorem sameInts_calls (a b : List Int) (Aa Ab : Option Addr) (na ca nb cb : Nat) (w : World) (hna : a.length = na) (hnb : b.length = nb) (hnm : na ≤ 1000000000000000000) [hA : Sl w Aa a] [hB : Sl w Ab b] :
    Calls Try.prog 139 #[.slice Aa na ca, .slice Ab nb cb] w fun e w' => e = .returned (.bool (decide (a = b))) ∧ Ext w w' := by
  subst hna hnb
  by_cases hl : a.length = b.length
  · have HL := hidd hl
    have hlb : ((a.length : Int) != (b.length : Int)) = false := by simp [hl]
    clear hl
    go_enter Try.func139, Try.ntmps139
    go_wp2
    clear hlb
    go_loopw [5] (fun iv wr => ∃ (k : Nat), iv = .int .i64 k ∧ k ≤ a.length ∧ Bel w wr ∧ Hid (∀ j, j < k → gt a j = gt b j)) (fun iv _ => a.length - (intOf iv).toNat)
    case atStart => exact ⟨0, rfl, by omega, inferInstance, fun j hj => by omega⟩
    case round =>
      obtain ⟨k, rfl, hk, hB1, HI⟩ := hrel
      by_cases hlt : k < a.length
      · have hlt2 : k < b.length := by rw [← HL.out]; exact hlt
        obtain ⟨ada, rfl, rda⟩ := hA.at_ hlt
        obtain ⟨adb, rfl, rdb⟩ := hB.at_ hlt2
        by_cases he : gt a k = gt b k
        · have heb : (gt a k != gt b k) = false := by simp [he]
          have HE := hidd he
          clear he
          go_wp2
          first | go_quiet (fail) | skip
          go_wp2
          go_roundw
          case rel => exact ⟨k + 1, by go_num, by omega, inferInstance, fun j hj => by
            by_cases e : j = k
            · rw [e]; exact HE.out
            · exact HI.out j (by omega)⟩
          case measure => simp [intOf] <;> omega
        · have heb : (gt a k != gt b k) = true := by simp [he]
          have HE := hidd he
          clear he
          go_wp2
          first | go_quiet (fail) | skip
          go_wp2
          go_ret
          exact ⟨ret_bool (decide_eq_false (fun h => HE.out (by rw [h]))).symm, Bel.ext inferInstance⟩
      · obtain rfl : k = a.length := by omega
        go_wp2
        go_ret
        exact ⟨ret_bool (decide_eq_true (ext_gt HL.out HI.out)).symm, Bel.ext inferInstance⟩
  · have HL := hidd hl
    have hlb : ((a.length : Int) != (b.length : Int)) = true := by simp; omega
    clear hl
    go_enter Try.func139, Try.ntmps139
    go_wp2
    go_ret
    exact ⟨ret_bool (decide_eq_false (fun h => HL.out (by rw [h]))).symm, Bel.ext inferInstance⟩

set_option maxRecDepth 100000 in
set_option maxHeartbeats 2000000 in
theorem sameRows_calls (a b : List (List Int)) (Aa Ab : Option Addr) (na ca nb cb : Nat) (w : World) (hna : a.length = na) (hnb : b.length = nb) (hnm : na ≤ 1000000000000000000) (hin : ∀ k, (gr a k).length ≤ 1000000000000000000) [hA : Sls w Aa a] [hB : Sls w Ab b] :
    Calls Try.prog 115 #[.slice Aa na ca, .slice Ab nb cb] w fun e w' => e = .returned (.bool (decide (a = b))) ∧ Ext w w' := by
  subst hna hnb
  have HIN := hidd hin
  clear hin
  by_cases hl : a.length = b.length
  · have HL := hidd hl
    have hlb : ((a.length : Int) != (b.length : Int)) = false := by simp [hl]
    clear hl
    go_enter Try.func115, Try.ntmps115
    go_wp2
    clear hlb
    go_loopw [5] (fun iv wr => ∃ (k : Nat), iv = .int .i64 k ∧ k ≤ a.length ∧ Bel w wr ∧ Hid (∀ j, j < k → gr a j = gr b j)) (fun iv _ => a.length - (intOf iv).toNat)
    case atStart => exact ⟨0, rfl, by omega, inferInstance, fun j hj => by omega⟩
    case round =>
      obtain ⟨k, rfl, hk, hB1, HI⟩ := hrel
      by_cases hlt : k < a.length
      · have hlt2 : k < b.length := by rw [← HL.out]; exact hlt
        obtain ⟨ada, Ba, ka, rfl, hca, hsa⟩ := hA.at_ hlt
        obtain ⟨adb, Bb, kb, rfl, hcb, hsb⟩ := hB.at_ hlt2
        have hca2 : Cel wr (ada.add k) (.slice Ba (gr a k).length ka) := inferInstance
        have hcb2 : Cel wr (adb.add k) (.slice Bb (gr b k).length kb) := inferInstance
        have hla : Lo ada.block wr.heap.size := ⟨by have := World.block_lt_of_cell? wr _ hca2.out; rwa [add_block] at this⟩
        have hlb : Lo adb.block wr.heap.size := ⟨by have := World.block_lt_of_cell? wr _ hcb2.out; rwa [add_block] at this⟩
        have hla2 : Lo (ada.add k).block wr.heap.size := ⟨by rw [add_block]; exact hla.out⟩
        have hlb2 : Lo (adb.add k).block wr.heap.size := ⟨by rw [add_block]; exact hlb.out⟩
        have hN : Near wr.heap.size wr wr := ⟨Below.refl _ _⟩
        have hlen := HIN.out k
        by_cases he : gr a k = gr b k
        · have heb : decide (gr a k = gr b k) = true := decide_eq_true he
          have HE := hidd he
          clear he
          go_wp2
          go_region_held3 (fun w' => Near wr.heap.size wr w') (infer_instance)
            ((go_at_call 139; refine (sameInts_calls (gr a k) (gr b k) Ba Bb _ _ _ _ _ rfl rfl hlen).mono ?_; rintro e w1 ⟨rfl, hx1⟩; rw [heb]))
          go_wp2
          go_roundw
          case rel => exact ⟨k + 1, by go_num, by omega, inferInstance, fun j hj => by
            by_cases e : j = k
            · rw [e]; exact HE.out
            · exact HI.out j (by omega)⟩
          case measure => simp [intOf] <;> omega
        · have heb : decide (gr a k = gr b k) = false := decide_eq_false he
          have HE := hidd he
          clear he
          go_wp2
          go_region_held3 (fun w' => Near wr.heap.size wr w') (infer_instance)
            ((go_at_call 139; refine (sameInts_calls (gr a k) (gr b k) Ba Bb _ _ _ _ _ rfl rfl hlen).mono ?_; rintro e w1 ⟨rfl, hx1⟩; rw [heb]))
          go_wp2
          go_ret
          exact ⟨ret_bool (decide_eq_false (fun h => HE.out (by rw [h]))).symm, Bel.ext inferInstance⟩
      · obtain rfl : k = a.length := by omega
        go_wp2
        go_ret
        exact ⟨ret_bool (decide_eq_true (ext_gr HL.out HI.out)).symm, Bel.ext inferInstance⟩
  · have HL := hidd hl
    have hlb : ((a.length : Int) != (b.length : Int)) = true := by simp; omega
    clear hl
    go_enter Try.func115, Try.ntmps115
    go_wp2
    go_ret
    exact ⟨ret_bool (decide_eq_false (fun h => HL.out (by rw [h]))).symm, Bel.ext inferInstance⟩

end Go.Proofs.Ytcigdhmecfhndaa

namespace Go.Proofs.Ytcigdhmecfhndaa
open Go.RowKit
attribute [local go_sem] cell_bx froz_bx cell_own froz_own cell_rd cell_cel ints_get ints_set cell_ownv froz_ownv
set_option linter.unusedVariables false
set_option linter.unusedSimpArgs false

/-- one row more of a combination -/
def Fd.combIn (F : Fd) (x : List Int) (rows : List (List Int)) (i : Nat) (out : List Int) : List Int := if gt x i = 0 then out else mkL out.length (F.addToF out (gt x i) (gr rows i))
/-- the sum of the rows, each multiplied by the entry of x with its index -/
def Fd.comb (F : Fd) (x : List Int) (rows : List (List Int)) (cols : Nat) : List Int := loopN (min rows.length x.length) (F.combIn x rows) (List.replicate cols 0)
theorem combIn_len (F : Fd) (x : List Int) (rows : List (List Int)) (i : Nat) (out : List Int) : (F.combIn x rows i out).length = out.length := by
  unfold Fd.combIn; split
  · rfl
  · rw [mkL_length]
theorem comb_len (F : Fd) (x : List Int) (rows : List (List Int)) (cols : Nat) : (F.comb x rows cols).length = cols := by
  rw [Fd.comb, loopN_len _ _ _ fun _ _ => combIn_len _ _ _ _ _, List.length_replicate]

set_option maxRecDepth 100000 in
set_option maxHeartbeats 4000000 in
theorem combine_calls (F : Fd) (A : Option Addr) (n c : Nat) (x : List Int) (rows : List (List Int)) (Ax Ar : Option Addr) (nx cx nr cr cols : Nat) (w : World) (hG : F.Good) (hn : F.md.length = n) (hnx : x.length = nx) (hg : Grid nr cols rows) (hnr : nr ≤ 1000000) (hcols : cols ≤ 1000) [hA : Sl w A F.md] [hX : Sl w Ax x] [hR : Sls w Ar rows] :
    Calls Try.prog 77 #[.agg #[.int .i64 F.p, .int .i64 F.m, .slice A n c], .slice Ax nx cx, .slice Ar nr cr, .int .i64 cols] w fun e w' => ∃ g, e = .returned (.slice (some ⟨g, 0, none⟩) cols cols) ∧ Fr w g ∧ Own w' g (F.comb x rows cols) ∧ Ext w w' := by
  subst hnx
  have hmk := mk_int cols (by omega)
  have hrl := hidd hg.1
  have HG := hidd hg.2
  clear hg
  go_enter Try.func77, Try.ntmps77
  go_wp2
  clear hmk
  go_loopw [9, 10] (fun ov iv wr => ∃ (k g : Nat) (zs : List Int), ov = .slice (some ⟨g, 0, none⟩) cols cols ∧ iv = .int .i64 k ∧ k ≤ nr ∧ k ≤ x.length ∧ Bel w wr ∧ Bx wr w.heap.size #[.int .i64 F.p, .int .i64 F.m, .slice A n c] 24 ∧ Fr w g ∧ Own wr g zs ∧ Hid (zs.length = cols) ∧ Hid (zs = loopN k (F.combIn x rows) (List.replicate cols 0))) (fun _ iv _ => nr - (intOf iv).toNat)
  case atStart => exact ⟨0, w.heap.size + 1, _, rfl, rfl, by omega, by omega, inferInstance, inferInstance, inferInstance, own_new, List.length_replicate, rfl⟩
  case round =>
    obtain ⟨k, g, zs, rfl, rfl, hk, hkx, hB, hbx, hfg, hoz, HL, HI⟩ := hrel
    by_cases hlt : k < nr
    · by_cases hltx : k < x.length
      · obtain ⟨adx, rfl, rdx⟩ := hX.at_ hltx
        obtain ⟨adr, Br, kr, rfl, hcr, hsr⟩ := hR.at_ (k := k) (by rw [hrl.out]; exact hlt)
        have hrk := HG.out k hlt
        have HRK := hidd hrk
        by_cases hz : gt x k = 0
        · have hzb : (gt x k != 0) = false := by simp [hz]
          have HZ := hidd hz
          clear hz hrk
          go_wp2
          go_roundw
          case rel => exact ⟨k + 1, g, zs, rfl, by go_num, by omega, by omega, inferInstance, inferInstance, hfg, inferInstance, HL.out, by
            show _ = _
            rw [loopN_succ, ← HI.out, Fd.combIn, if_pos HZ.out]⟩
          case measure => simp [intOf] <;> omega
        · have hzb : (gt x k != 0) = true := by simp [hz]
          have HZ := hidd hz
          clear hz
          have hcr2 : Cel wr (adr.add k) (.slice Br (gr rows k).length kr) := inferInstance
          have hlr2 : Lo (adr.add k).block wr.heap.size := ⟨World.block_lt_of_cell? wr _ hcr2.out⟩
          have hN : Near wr.heap.size wr wr := ⟨Below.refl _ _⟩
          have hle : cols ≤ (gr rows k).length := by omega
          clear hrk
          go_wp2
          go_region_held3 (fun w' => Near wr.heap.size wr w') (infer_instance)
            ((go_at_call 117; refine (addTo_calls F A n c zs (gr rows k) (gt x k) _ _ _ _ _ _ _ hG hn HL.out rfl hle (by omega)).mono ?_; rintro e w3 ⟨g3, rfl, hf3, ho3, hx3⟩))
          have hfr3 : Fr w g3 := Fr.then_ hB ⟨hf3.out⟩
          go_wp2
          go_roundw
          case rel => exact ⟨k + 1, g3, _, rfl, by go_num, by omega, by omega, inferInstance, inferInstance, hfr3, ho3, mkL_length _ _, by
            show _ = _
            rw [loopN_succ, ← HI.out, Fd.combIn, if_neg HZ.out, HL.out]⟩
          case measure => simp [intOf] <;> omega
      · obtain rfl : k = x.length := by omega
        go_wp2
        go_ret
        exact ⟨g, rfl, hfg, by rw [Fd.comb, show min rows.length x.length = x.length by rw [hrl.out]; omega, ← HI.out]; exact hoz, Bel.ext inferInstance⟩
    · obtain rfl : k = nr := by omega
      go_wp2
      go_ret
      exact ⟨g, rfl, hfg, by rw [Fd.comb, show min rows.length x.length = k by rw [hrl.out]; omega, ← HI.out]; exact hoz, Bel.ext inferInstance⟩

end Go.Proofs.Ytcigdhmecfhndaa

namespace Go.Proofs.Ytcigdhmecfhndaa
open Go.RowKit
attribute [local go_sem] cell_bx froz_bx cell_own froz_own cell_rd cell_cel ints_get ints_set cell_ownv froz_ownv
set_option linter.unusedVariables false
set_option linter.unusedSimpArgs false

/-- the shape of a matrix -/
def Shp (cols : Int) (rows : List (List Int)) : Prop := 0 ≤ cols ∧ cols ≤ 256 ∧ rows.length ≤ 256 ∧ ∀ k, k < rows.length → ((gr rows k).length : Int) = cols
def EntR (q : Int) (rows : List (List Int)) : Prop := ∀ k, k < rows.length → Ent q (gr rows k)
open Classical in
/-- codewrightref09.Check -/
noncomputable def matE (F : Fd) (cols : Int) (rows : List (List Int)) : Int := if RefOK F then (if Shp cols rows then (if EntR F.q rows then 0 else 2) else 3) else 1

set_option maxRecDepth 100000 in
set_option maxHeartbeats 4000000 in
theorem check9_calls (F : Fd) (A : Option Addr) (n c : Nat) (rows : List (List Int)) (Ar : Option Addr) (nr cr : Nat) (cols : Int) (w : World) (hn : F.md.length = n) (hn2 : n ≤ 1000000000000000000) (hr : rows.length = nr) (hr2 : nr ≤ 1000000000000000000) (hrl : ∀ k, (gr rows k).length ≤ 1000000000000000000) [hA : Sl w A F.md] [hR : Sls w Ar rows] :
    Calls Try.prog 114 #[.agg #[.int .i64 F.p, .int .i64 F.m, .slice A n c], .agg #[.int .i64 cols, .slice Ar nr cr]] w fun e w' => e = .returned (.int .i64 (matE F cols rows)) ∧ Ext w w' := by
  have HRL := hidd hrl
  clear hrl
  by_cases hok : RefOK F
  · have hre : refE F = 0 := refE_yes hok
    have HOK := hidd hok
    clear hok
    go_enter Try.func114, Try.ntmps114
    by_cases h0 : cols < 0
    · go_wp2_with (go_at_call 72; refine (check_calls F A n c _ hn hn2).mono ?_; rintro e w1 ⟨rfl, hx1⟩; rw [hre])
      go_ret
      exact ⟨ret_int (by rw [matE, if_pos HOK.out, if_neg (fun h => by have := h.1; omega)]), Bel.ext inferInstance⟩
    · by_cases h1 : 256 < cols
      · go_wp2_with (go_at_call 72; refine (check_calls F A n c _ hn hn2).mono ?_; rintro e w1 ⟨rfl, hx1⟩; rw [hre])
        go_ret
        exact ⟨ret_int (by rw [matE, if_pos HOK.out, if_neg (fun h => by have := h.2.1; omega)]), Bel.ext inferInstance⟩
      · by_cases h2 : 256 < nr
        · have HR := hidd hr
          clear hr
          go_wp2_with (go_at_call 72; refine (check_calls F A n c _ hn hn2).mono ?_; rintro e w1 ⟨rfl, hx1⟩; rw [hre])
          go_ret
          exact ⟨ret_int (by rw [matE, if_pos HOK.out, if_neg (fun h => by have := h.2.2.1; rw [HR.out] at this; omega)]), Bel.ext inferInstance⟩
        · have HR := hidd hr
          clear hr
          go_wp2_with (go_at_call 72; refine (check_calls F A n c _ hn hn2).mono ?_; rintro e w1 ⟨rfl, hx1⟩; rw [hre])
          have hb1 : Bel w w1 := inferInstance
          have hbx1 : Bx w1 w.heap.size #[.int .i64 F.p, .int .i64 F.m, .slice A n c] 24 := inferInstance
          have hby1 : Bx w1 (w.heap.size + 1) #[.int .i64 cols, .slice Ar nr cr] 91 := inferInstance
          clear hx1 hre
          go_loopw [6] (fun iv wr => ∃ k : Nat, iv = .int .i64 k ∧ k ≤ nr ∧ Bel w wr ∧ Bx wr w.heap.size #[.int .i64 F.p, .int .i64 F.m, .slice A n c] 24 ∧ Bx wr (w.heap.size + 1) #[.int .i64 cols, .slice Ar nr cr] 91 ∧ Hid (∀ i, i < k → ((gr rows i).length : Int) = cols)) (fun iv _ => nr - (intOf iv).toNat)
          case atStart => exact ⟨0, rfl, by omega, hb1, hbx1, hby1, fun i hi => by omega⟩
          case round =>
            obtain ⟨k, rfl, hk, hB, hbx, hby, HI⟩ := hrel
            by_cases hlt : k < nr
            · obtain ⟨ad, B, kB, rfl, hc, hs⟩ := hR.at_ (k := k) (by rw [HR.out]; exact hlt)
              have hc2 : Cel wr (ad.add k) (.slice B (gr rows k).length kB) := inferInstance
              by_cases he : ((gr rows k).length : Int) = cols
              · have hb : (((gr rows k).length : Int) != cols) = false := by simp [he]
                have HE := hidd he
                clear he
                go_wp2
                go_quiet (fail)
                go_wp2
                go_roundw
                case rel => exact ⟨k + 1, by go_num, by omega, inferInstance, inferInstance, inferInstance, fun i hi => by
                  by_cases e : i = k
                  · rw [e]; exact HE.out
                  · exact HI.out i (by omega)⟩
                case measure => simp [intOf] <;> omega
              · have hb : (((gr rows k).length : Int) != cols) = true := by simp [he]
                have HE := hidd he
                clear he
                go_wp2
                go_quiet (fail)
                go_wp2
                go_ret
                exact ⟨ret_int (by rw [matE, if_pos HOK.out, if_neg (fun h => HE.out (h.2.2.2 k (by rw [HR.out]; exact hlt)))]), Bel.ext inferInstance⟩
            · obtain rfl : k = nr := by omega
              have hS : Hid (Shp cols rows) := ⟨h0, h1, by rw [HR.out]; omega, fun i hi => HI.out i (by rw [← HR.out]; exact hi)⟩
              clear HI hk hlt
              go_wp2
              go_loopw [5, 7] (fun ev iv wr => ∃ i : Nat, ev = .int .i64 0 ∧ iv = .int .i64 i ∧ i ≤ k ∧ Bel w wr ∧ Bx wr w.heap.size #[.int .i64 F.p, .int .i64 F.m, .slice A n c] 24 ∧ Bx wr (w.heap.size + 1) #[.int .i64 cols, .slice Ar k cr] 91 ∧ Hid (∀ j, j < i → Ent F.q (gr rows j))) (fun _ iv _ => k - (intOf iv).toNat)
              case atStart => exact ⟨0, rfl, rfl, by omega, hB, hbx, hby, fun i hi => by omega⟩
              case round =>
                obtain ⟨i, rfl, rfl, hi, hB2, hbx2, hby2, HI⟩ := hrel
                by_cases hlt : i < k
                · obtain ⟨ad, B, kB, rfl, hc, hs⟩ := hR.at_ (k := i) (by rw [HR.out]; exact hlt)
                  have hc2 : Cel wr (ad.add i) (.slice B (gr rows i).length kB) := inferInstance
                  have hlr2 : Lo (ad.add i).block wr.heap.size := ⟨World.block_lt_of_cell? wr _ hc2.out⟩
                  have hN : Near wr.heap.size wr wr := ⟨Below.refl _ _⟩
                  have hlen := HRL.out i
                  by_cases he : Ent F.q (gr rows i)
                  · have hee := entE_yes he
                    have HE := hidd he
                    clear he
                    go_wp2
                    go_region_held3 (fun w' => Near wr.heap.size wr w') (infer_instance)
                      ((go_at_call 116; refine (entries_calls F (.slice A n c) (gr rows i) B _ _ _ rfl hlen).mono ?_; rintro e w3 ⟨rfl, hx3⟩; rw [hee]))
                    go_wp2
                    go_roundw
                    case rel => exact ⟨i + 1, rfl, by go_num, by omega, inferInstance, inferInstance, inferInstance, fun j hj => by
                      by_cases e : j = i
                      · rw [e]; exact HE.out
                      · exact HI.out j (by omega)⟩
                    case measure => simp [intOf] <;> omega
                  · have hee := entE_no he
                    have HE := hidd he
                    clear he
                    go_wp2
                    go_region_held3 (fun w' => Near wr.heap.size wr w') (infer_instance)
                      ((go_at_call 116; refine (entries_calls F (.slice A n c) (gr rows i) B _ _ _ rfl hlen).mono ?_; rintro e w3 ⟨rfl, hx3⟩; rw [hee]))
                    go_wp2
                    go_ret
                    exact ⟨ret_int (by rw [matE, if_pos HOK.out, if_pos hS.out, if_neg (fun h => HE.out (h i (by rw [HR.out]; exact hlt)))]), Bel.ext inferInstance⟩
                · obtain rfl : i = k := by omega
                  go_wp2
                  go_ret
                  exact ⟨ret_int (by rw [matE, if_pos HOK.out, if_pos hS.out, if_pos (show EntR F.q rows from fun j hj => HI.out j (by rw [← HR.out]; exact hj))]), Bel.ext inferInstance⟩
  · have hre : refE F = 1 := refE_no hok
    have HOK := hidd hok
    clear hok
    go_enter Try.func114, Try.ntmps114
    go_wp2_with (go_at_call 72; refine (check_calls F A n c _ hn hn2).mono ?_; rintro e w1 ⟨rfl, hx1⟩; rw [hre])
    go_ret
    exact ⟨ret_int (by rw [matE, if_neg HOK.out]), Bel.ext inferInstance⟩

end Go.Proofs.Ytcigdhmecfhndaa

namespace Go.Proofs.Ytcigdhmecfhndaa
open Go.RowKit
attribute [local go_sem] cell_bx froz_bx cell_own froz_own cell_rd cell_cel ints_get ints_set cell_ownv froz_ownv
set_option linter.unusedVariables false
set_option linter.unusedSimpArgs false

open Classical in
/-- codewrightref10.Check -/
noncomputable def spcE (F : Fd) (cols : Int) (rows : List (List Int)) : Int := if matE F cols rows = 0 then (if F.canon rows cols.toNat = rows then 0 else 5) else matE F cols rows
theorem matE_ok {F : Fd} {cols : Int} {rows : List (List Int)} (h : matE F cols rows = 0) : RefOK F ∧ Shp cols rows ∧ EntR F.q rows := by
  unfold matE at h
  by_cases h1 : RefOK F
  · by_cases h2 : Shp cols rows
    · by_cases h3 : EntR F.q rows
      · exact ⟨h1, h2, h3⟩
      · rw [if_pos h1, if_pos h2, if_neg h3] at h; cases h
    · rw [if_pos h1, if_neg h2] at h; cases h
  · rw [if_neg h1] at h; cases h
theorem Shp.grid {cols : Int} {rows : List (List Int)} (h : Shp cols rows) : Grid rows.length cols.toNat rows := ⟨rfl, fun k hk => by have := h.2.2.2 k hk; omega⟩

set_option maxRecDepth 100000 in
set_option maxHeartbeats 4000000 in
theorem check10_calls (F : Fd) (A : Option Addr) (n c : Nat) (rows : List (List Int)) (Ar : Option Addr) (nr cr : Nat) (cols : Int) (w : World) (hn : F.md.length = n) (hn2 : n ≤ 1000000000000000000) (hr : rows.length = nr) (hr2 : nr ≤ 1000000000000000000) (hrl : ∀ k, (gr rows k).length ≤ 1000000000000000000) [hA : Sl w A F.md] [hR : Sls w Ar rows] :
    Calls Try.prog 73 #[.agg #[.int .i64 F.p, .int .i64 F.m, .slice A n c], .agg #[.int .i64 cols, .slice Ar nr cr]] w fun e w' => e = .returned (.int .i64 (spcE F cols rows)) ∧ Ext w w' := by
  have HRL := hidd hrl
  clear hrl
  have HR := hidd hr
  clear hr
  by_cases hok : matE F cols rows = 0
  · obtain ⟨h1, h2, h3⟩ := matE_ok hok
    have hG := h1.good
    have hgr := h2.grid
    rw [HR.out] at hgr
    have hc0 := h2.1
    have hc1 := h2.2.1
    have hnr := h2.2.2.1
    rw [HR.out] at hnr
    obtain ⟨cn, rfl⟩ : ∃ cn : Nat, cols = cn := ⟨cols.toNat, by omega⟩
    rw [Int.toNat_natCast] at hgr
    have HOK := hidd hok
    have hcl := canon_len F hgr cn
    have hple := (elim_grid F hgr cn).2
    have hgl : ∀ k, (gr (F.canon rows cn) k).length ≤ 1000000000000000000 := fun k => by
      rcases Nat.lt_or_ge k (F.canon rows cn).length with h | h
      · have h4 := (elim_grid F hgr cn).1
        have h5 : gr (F.canon rows cn) k = gr (F.elim rows cn).1 k := by
          rw [Fd.canon, List.length_take] at h
          simp [gr, Fd.canon, List.getElem?_take_of_lt (show k < (F.elim rows cn).2.length by omega)]
        have h6 : k < nr := by rw [hcl] at h; exact Nat.lt_of_lt_of_le h hple
        rw [h5]; have := h4.2 k h6
        show ((gr (loopN cn F.elimStep (rows, [])).1 k).length) ≤ _
        omega
      · rw [gr_out h]; simp
    have hpl : (F.pivs rows cn).length ≤ 1000000000000000000 := Nat.le_trans hple (by omega)
    have HGL := hidd hgl
    have HCL := hidd hcl
    clear h1 h2 h3 hc0 hgl hcl hple
    by_cases hs : F.canon rows cn = rows
    · have hsb : decide (F.canon rows cn = rows) = true := decide_eq_true hs
      have HS := hidd hs
      clear hs
      go_enter Try.func73, Try.ntmps73
      go_wp2_with (first
        | (go_at_call 114; refine (check9_calls F A n c rows Ar nr cr cn _ hn hn2 HR.out hr2 HRL.out).mono ?_; rintro e w1 ⟨rfl, hx1⟩; rw [hok])
        | (go_at_call 90; refine (canon_calls F A n c rows Ar nr cr cn cn _ hG hn hgr (by omega) (by omega) (Nat.le_refl _)).mono ?_; rintro e w2 ⟨A2, c2, A3, c3, rfl, hc2, hc3, hs2, hs3, hx2⟩)
        | (go_at_call 115; refine (sameRows_calls (F.canon rows cn) rows _ _ _ _ _ _ _ HCL.out HR.out hpl HGL.out).mono ?_; rintro e w3 ⟨rfl, hx3⟩; rw [hsb]))
      go_ret
      exact ⟨ret_int (by rw [spcE, if_pos HOK.out, if_pos (by rw [Int.toNat_natCast]; exact HS.out)]), Bel.ext inferInstance⟩
    · have hsb : decide (F.canon rows cn = rows) = false := decide_eq_false hs
      have HS := hidd hs
      clear hs
      go_enter Try.func73, Try.ntmps73
      go_wp2_with (first
        | (go_at_call 114; refine (check9_calls F A n c rows Ar nr cr cn _ hn hn2 HR.out hr2 HRL.out).mono ?_; rintro e w1 ⟨rfl, hx1⟩; rw [hok])
        | (go_at_call 90; refine (canon_calls F A n c rows Ar nr cr cn cn _ hG hn hgr (by omega) (by omega) (Nat.le_refl _)).mono ?_; rintro e w2 ⟨A2, c2, A3, c3, rfl, hc2, hc3, hs2, hs3, hx2⟩)
        | (go_at_call 115; refine (sameRows_calls (F.canon rows cn) rows _ _ _ _ _ _ _ HCL.out HR.out hpl HGL.out).mono ?_; rintro e w3 ⟨rfl, hx3⟩; rw [hsb]))
      go_ret
      exact ⟨ret_int (by rw [spcE, if_pos HOK.out, if_neg (by rw [Int.toNat_natCast]; exact HS.out)]), Bel.ext inferInstance⟩
  · have hb : (matE F cols rows != 0) = true := by simp [hok]
    have HOK := hidd hok
    clear hok
    go_enter Try.func73, Try.ntmps73
    go_wp2_with (go_at_call 114; refine (check9_calls F A n c rows Ar nr cr cols _ hn hn2 HR.out hr2 HRL.out).mono ?_; rintro e w1 ⟨rfl, hx1⟩)
    go_ret
    exact ⟨ret_int (by rw [spcE, if_neg HOK.out]), Bel.ext inferInstance⟩

end Go.Proofs.Ytcigdhmecfhndaa

namespace Go.Proofs.Ytcigdhmecfhndaa
open Go.RowKit
attribute [local go_sem] cell_bx froz_bx cell_own froz_own cell_rd cell_cel ints_get ints_set cell_ownv froz_ownv
set_option linter.unusedVariables false
set_option linter.unusedSimpArgs false

open Classical in
/-- codewrightref12.Check -/
noncomputable def codE (F : Fd) (N : Int) (rows : List (List Int)) : Int := if RefOK F then (if 1 ≤ N ∧ N ≤ 64 then spcE F N rows else 4) else 1

set_option maxRecDepth 100000 in
set_option maxHeartbeats 4000000 in
theorem check12_calls (F : Fd) (A : Option Addr) (n c : Nat) (rows : List (List Int)) (Ar : Option Addr) (nr cr : Nat) (N : Int) (w : World) (hn : F.md.length = n) (hn2 : n ≤ 1000000000000000000) (hr : rows.length = nr) (hr2 : nr ≤ 1000000000000000000) (hrl : ∀ k, (gr rows k).length ≤ 1000000000000000000) [hA : Sl w A F.md] [hR : Sls w Ar rows] :
    Calls Try.prog 24 #[.agg #[.int .i64 F.p, .int .i64 F.m, .slice A n c, .int .i64 N, .slice Ar nr cr]] w fun e w' => e = .returned (.int .i64 (codE F N rows)) ∧ Ext w w' := by
  have HRL := hidd hrl
  clear hrl
  have HR := hidd hr
  clear hr
  by_cases hok : RefOK F
  · have hre : refE F = 0 := refE_yes hok
    have HOK := hidd hok
    clear hok
    by_cases h1 : N < 1
    · go_enter Try.func24, Try.ntmps24
      go_wp2_with (go_at_call 72; refine (check_calls F A n c _ hn hn2).mono ?_; rintro e w1 ⟨rfl, hx1⟩; rw [hre])
      go_ret
      exact ⟨ret_int (by rw [codE, if_pos HOK.out, if_neg (by omega)]), Bel.ext inferInstance⟩
    · by_cases h2 : 64 < N
      · go_enter Try.func24, Try.ntmps24
        go_wp2_with (go_at_call 72; refine (check_calls F A n c _ hn hn2).mono ?_; rintro e w1 ⟨rfl, hx1⟩; rw [hre])
        go_ret
        exact ⟨ret_int (by rw [codE, if_pos HOK.out, if_neg (by omega)]), Bel.ext inferInstance⟩
      · go_enter Try.func24, Try.ntmps24
        go_wp2_with (first
          | (go_at_call 72; refine (check_calls F A n c _ hn hn2).mono ?_; rintro e w1 ⟨rfl, hx1⟩; rw [hre])
          | (go_at_call 73; refine (check10_calls F A n c rows Ar nr cr N _ hn hn2 HR.out hr2 HRL.out).mono ?_; rintro e w2 ⟨rfl, hx2⟩))
        go_ret
        exact ⟨ret_int (by rw [codE, if_pos HOK.out, if_pos (by omega)]), Bel.ext inferInstance⟩
  · have hre : refE F = 1 := refE_no hok
    have HOK := hidd hok
    clear hok
    go_enter Try.func24, Try.ntmps24
    go_wp2_with (go_at_call 72; refine (check_calls F A n c _ hn hn2).mono ?_; rintro e w1 ⟨rfl, hx1⟩; rw [hre])
    go_ret
    exact ⟨ret_int (by rw [codE, if_neg HOK.out]), Bel.ext inferInstance⟩

open Classical in
/-- codewrightref12.List -/
noncomputable def lstE (q : Int) (l : List Int) (n : Int) : Int := if (l.length : Int) = n then entE q l else 4

set_option maxRecDepth 100000 in
set_option maxHeartbeats 2000000 in
theorem list12_calls (F : Fd) (mv : Value) (l : List Int) (Al : Option Addr) (nl cl : Nat) (N : Int) (w : World) (hl : l.length = nl) (hl2 : nl ≤ 1000000000000000000) [hL : Sl w Al l] :
    Calls Try.prog 76 #[.agg #[.int .i64 F.p, .int .i64 F.m, mv], .slice Al nl cl, .int .i64 N] w fun e w' => e = .returned (.int .i64 (lstE F.q l N)) ∧ Ext w w' := by
  subst hl
  by_cases h : (l.length : Int) = N
  · have hb : ((l.length : Int) != N) = false := by simp [h]
    have H := hidd h
    clear h
    go_enter Try.func76, Try.ntmps76
    go_wp2_with (go_at_call 116; refine (entries_calls F mv l Al _ _ _ rfl hl2).mono ?_; rintro e w1 ⟨rfl, hx1⟩)
    go_ret
    exact ⟨ret_int (by rw [lstE, if_pos H.out]), Bel.ext inferInstance⟩
  · have hb : ((l.length : Int) != N) = true := by simp [h]
    have H := hidd h
    clear h
    go_enter Try.func76, Try.ntmps76
    go_wp2
    go_ret
    exact ⟨ret_int (by rw [lstE, if_neg H.out]), Bel.ext inferInstance⟩

end Go.Proofs.Ytcigdhmecfhndaa

namespace Go.Proofs.Ytcigdhmecfhndaa
open Go.RowKit
attribute [local go_sem] cell_bx froz_bx cell_own froz_own cell_rd cell_cel ints_get ints_set
set_option linter.unusedVariables false
set_option linter.unusedSimpArgs false

/-- o times q, k times, while the limit is kept -/
def expL (q : Int) : Nat → Int → Option Int
  | 0, o => some o
  | k + 1, o => if o > 65536 / q then none else expL q k (o * q)
def expV (q : Int) (k : Nat) : Int := (expL q k 1).getD 0
def expE (q : Int) (k : Nat) : Int := if expL q k 1 = none then 8 else 0
theorem ret_two {a b c d : Int} (h : a = b) (k : c = d) : Ending.returned (.tuple #[.int .i64 a, .int .i64 c]) = .returned (.tuple #[.int .i64 b, .int .i64 d]) := by rw [h, k]

set_option maxRecDepth 100000 in
set_option maxHeartbeats 1000000 in
theorem exp3_calls (q : Int) (n : Nat) (w : World) (h2 : 2 ≤ q) (h256 : q ≤ 256) (hn : n ≤ 1000000000000000000) :
    Calls Try.prog 70 #[.int .i64 q, .int .i64 n, .int .i64 65536] w fun e w' => e = .returned (.tuple #[.int .i64 (expV q n), .int .i64 (expE q n)]) ∧ Ext w w' := by
  go_enter Try.func70, Try.ntmps70
  go_wp2
  go_loop [8, 9] (fun o i => ∃ (k : Nat) (on : Int), i = .int .i64 k ∧ o = .int .i64 on ∧ k ≤ n ∧ 1 ≤ on ∧ on ≤ 65536 ∧ Hid (expL q n 1 = expL q (n - k) on)) (fun _ i => n - (intOf i).toNat)
  case atStart => exact ⟨0, 1, rfl, rfl, by omega, by omega, by omega, rfl⟩
  case round =>
    obtain ⟨k, on, rfl, rfl, hk, o1, o2, HR⟩ := hrel
    by_cases hlt : k < n
    · have e : n - k = (n - (k + 1)) + 1 := by omega
      have E := hidd e
      clear e
      by_cases hq : on > 65536 / q
      · go_wp2
        go_ret2
        have hN : expL q n 1 = none := by rw [HR.out, E.out, expL, if_pos hq]
        exact ⟨ret_two (by rw [expV, hN]; rfl) (by rw [expE, hN]; rfl), Bel.ext inferInstance⟩
      · have hm1 : on * q ≤ 65536 := Int.mul_le_of_le_ediv (by omega) (Int.not_lt.1 hq)
        have hm0 : 1 ≤ on * q := by
          have := Int.mul_le_mul o1 (show (1 : Int) ≤ q by omega) (by omega) (by omega)
          omega
        go_wp2
        go_round
        case rel =>
          refine ⟨k + 1, on * q, by go_num, rfl, by omega, hm0, hm1, ?_⟩
          show expL q n 1 = _
          rw [HR.out, E.out, expL, if_neg hq]
        case measure => simp [intOf]; omega
    · go_wp2
      go_ret2
      obtain rfl : n = k := by omega
      have hN : expL q n 1 = some on := by rw [HR.out, Nat.sub_self, expL]
      exact ⟨ret_two (by rw [expV, hN]; rfl) (by rw [expE, hN]; rfl), Bel.ext inferInstance⟩

set_option maxRecDepth 100000 in
set_option maxHeartbeats 1000000 in
theorem expn_calls (q : Int) (n : Nat) (w : World) (h2 : 2 ≤ q) (h256 : q ≤ 256) (hn : n ≤ 1000000000000000000) :
    Calls Try.prog 101 #[.int .i64 q, .int .i64 n, .int .i64 65536] w fun e w' => e = .returned (.tuple #[.int .i64 (expV q n), .int .i64 (expE q n)]) ∧ Ext w w' := by
  go_enter Try.func101, Try.ntmps101
  go_wp2
  go_loop [1, 8] (fun i o => ∃ (k : Nat) (on : Int), i = .int .i64 k ∧ o = .int .i64 on ∧ k ≤ n ∧ 1 ≤ on ∧ on ≤ 65536 ∧ Hid (expL q n 1 = expL q k on)) (fun i _ => (intOf i).toNat)
  case atStart => exact ⟨n, 1, rfl, rfl, by omega, by omega, by omega, rfl⟩
  case round =>
    obtain ⟨k, on, rfl, rfl, hk, o1, o2, HR⟩ := hrel
    by_cases hlt : 0 < k
    · obtain ⟨j, E⟩ : ∃ j, Hid (k = j + 1) := ⟨k - 1, by show k = _; omega⟩
      by_cases hq : on > 65536 / q
      · go_wp2
        go_ret2
        have hN : expL q n 1 = none := by rw [HR.out, E.out, expL, if_pos hq]
        exact ⟨ret_two (by rw [expV, hN]; rfl) (by rw [expE, hN]; rfl), Bel.ext inferInstance⟩
      · have hm1 : on * q ≤ 65536 := Int.mul_le_of_le_ediv (by omega) (Int.not_lt.1 hq)
        have hm0 : 1 ≤ on * q := by
          have := Int.mul_le_mul o1 (show (1 : Int) ≤ q by omega) (by omega) (by omega)
          omega
        go_wp2
        go_round
        case rel =>
          refine ⟨j, on * q, by have := E.out; congr 1; omega, rfl, by have := E.out; omega, hm0, hm1, ?_⟩
          show expL q n 1 = _
          rw [HR.out, E.out, expL, if_neg hq]
        case measure => simp [intOf]; omega
    · go_wp2
      go_ret2
      obtain rfl : k = 0 := by omega
      have hN : expL q n 1 = some on := by rw [HR.out, expL]
      exact ⟨ret_two (by rw [expV, hN]; rfl) (by rw [expE, hN]; rfl), Bel.ext inferInstance⟩

end Go.Proofs.Ytcigdhmecfhndaa

namespace Go.Proofs.Ytcigdhmecfhndaa
open Go.RowKit
attribute [local go_sem] cell_bx froz_bx cell_own froz_own cell_rd cell_cel ints_get ints_set cell_ownv froz_ownv
set_option linter.unusedVariables false
set_option linter.unusedSimpArgs false

theorem codE_ok {F : Fd} {N : Int} {rows : List (List Int)} (h : codE F N rows = 0) : RefOK F ∧ 1 ≤ N ∧ N ≤ 64 ∧ Shp N rows ∧ EntR F.q rows ∧ F.canon rows N.toNat = rows := by
  unfold codE at h
  by_cases h1 : RefOK F
  · by_cases h2 : 1 ≤ N ∧ N ≤ 64
    · rw [if_pos h1, if_pos h2] at h
      unfold spcE at h
      by_cases h3 : matE F N rows = 0
      · rw [if_pos h3] at h
        obtain ⟨_, h4, h5⟩ := matE_ok h3
        by_cases h6 : F.canon rows N.toNat = rows
        · exact ⟨h1, h2.1, h2.2, h4, h5, h6⟩
        · rw [if_neg h6] at h; cases h
      · rw [if_neg h3] at h; exact absurd h h3
    · rw [if_pos h1, if_neg h2] at h; cases h
  · rw [if_neg h1] at h; cases h
noncomputable def sizV (F : Fd) (N : Int) (rows : List (List Int)) : Int := if codE F N rows = 0 then expV F.q rows.length else 0
noncomputable def sizE (F : Fd) (N : Int) (rows : List (List Int)) : Int := if codE F N rows = 0 then expE F.q rows.length else codE F N rows
theorem Fd.Good.q256 {F : Fd} (hG : F.Good) : F.q ≤ 256 := by have := hG.q; have := hG.pm; omega

set_option maxRecDepth 100000 in
set_option maxHeartbeats 4000000 in
theorem size12_calls (F : Fd) (A : Option Addr) (n c : Nat) (rows : List (List Int)) (Ar : Option Addr) (nr cr : Nat) (N : Int) (w : World) (hn : F.md.length = n) (hn2 : n ≤ 1000000000000000000) (hr : rows.length = nr) (hr2 : nr ≤ 1000000000000000000) (hrl : ∀ k, (gr rows k).length ≤ 1000000000000000000) [hA : Sl w A F.md] [hR : Sls w Ar rows] :
    Calls Try.prog 22 #[.agg #[.int .i64 F.p, .int .i64 F.m, .slice A n c, .int .i64 N, .slice Ar nr cr]] w fun e w' => e = .returned (.tuple #[.int .i64 (sizV F N rows), .int .i64 (sizE F N rows)]) ∧ Ext w w' := by
  have HRL := hidd hrl
  clear hrl
  subst hr
  by_cases hok : codE F N rows = 0
  · have hG := (codE_ok hok).1.good
    have hq2 := hG.q2
    have hq3 := hG.q256
    have HOK := hidd hok
    have hqd : ordF F.p F.m = F.q := rfl
    go_enter Try.func22, Try.ntmps22
    go_wp2_with (go_at_call 24; refine (check12_calls F A n c rows Ar rows.length cr N _ hn hn2 rfl hr2 HRL.out).mono ?_; rintro e w1 ⟨rfl, hx1⟩; rw [hok])
    clear hok
    have hN : Near w1.heap.size w1 w1 := ⟨Below.refl _ _⟩
    go_region_held3 (fun w' => Near w1.heap.size w1 w') (infer_instance)
      ((first
        | (go_at_call 55; refine (order_calls F.p F.m _ _).mono ?_; rintro e w3 ⟨rfl, hx3⟩; rw [hqd])
        | (go_at_call 70; refine (exp3_calls F.q rows.length _ hq2 hq3 hr2).mono ?_; rintro e w4 ⟨rfl, hx4⟩)))
    go_wp2
    go_ret2
    exact ⟨ret_two (by rw [sizV, if_pos HOK.out]) (by rw [sizE, if_pos HOK.out]), Bel.ext inferInstance⟩
  · have hb : (codE F N rows != 0) = true := by simp [hok]
    have HOK := hidd hok
    clear hok
    go_enter Try.func22, Try.ntmps22
    go_wp2_with (go_at_call 24; refine (check12_calls F A n c rows Ar rows.length cr N _ hn hn2 rfl hr2 HRL.out).mono ?_; rintro e w1 ⟨rfl, hx1⟩)
    go_ret2
    exact ⟨ret_two (by rw [sizV, if_neg HOK.out]) (by rw [sizE, if_neg HOK.out]), Bel.ext inferInstance⟩

/-- the digits of i, the last the lowest -/
def msgF (q : Int) (K : Nat) (i : Int) (j : Nat) : Int := i / q ^ (K - 1 - j) % q
def msgL (q : Int) (K : Nat) (i : Int) : List Int := mkL K (msgF q K i)
/-- a row of n places of which the last k are those of f, the others 0 -/
def parR (n : Nat) (f : Nat → Int) (k : Nat) : List Int := mkL n fun j => if n - k ≤ j then f j else 0
theorem parR_zero (n : Nat) (f : Nat → Int) : List.replicate n 0 = parR n f 0 := by
  apply List.ext_getElem (by simp [parR, mkL_length])
  intro i h1 h2
  simp [parR, mkL]
  simp at h1; omega
theorem parR_full (n : Nat) (f : Nat → Int) : parR n f n = mkL n f := by
  refine ext_gt (by simp [parR, mkL_length]) fun k hk => ?_
  rw [parR, mkL_length] at hk
  rw [parR, gt_mkL hk, gt_mkL hk, if_pos (by omega)]
theorem parR_set (n : Nat) (f : Nat → Int) (k : Nat) (x : Int) (h : k < n) (hx : x = f (n - 1 - k)) : (parR n f k).set (n - 1 - k) x = parR n f (k + 1) := by
  refine ext_gt (by simp [parR, mkL_length]) fun j hj => ?_
  rw [List.length_set, parR, mkL_length] at hj
  rw [gt_set _ _ _ _ (by rw [parR, mkL_length]; omega), parR, parR, gt_mkL hj, gt_mkL hj]
  by_cases e : n - 1 - k = j
  · rw [if_pos e, if_pos (by omega), hx, e]
  · rw [if_neg e]
    by_cases h1 : n - k ≤ j
    · rw [if_pos h1, if_pos (by omega)]
    · rw [if_neg h1, if_neg (by omega)]
/-- codewrightref12.At -/
def Fd.word (F : Fd) (rows : List (List Int)) (N : Nat) (i : Int) : List Int := F.comb (msgL F.q rows.length i) rows N

set_option maxRecDepth 100000 in
set_option maxHeartbeats 4000000 in
theorem at12_calls (F : Fd) (A : Option Addr) (n c : Nat) (rows : List (List Int)) (Ar : Option Addr) (nr cr : Nat) (N : Nat) (x : Int) (w : World) (hG : F.Good) (hn : F.md.length = n) (hg : Grid nr N rows) (hr2 : nr ≤ 1000) (hN2 : N ≤ 1000) (hx0 : 0 ≤ x) (hx1 : x ≤ 1000000000000000000) [hA : Sl w A F.md] [hR : Sls w Ar rows] :
    Calls Try.prog 75 #[.agg #[.int .i64 F.p, .int .i64 F.m, .slice A n c, .int .i64 N, .slice Ar nr cr], .int .i64 x] w fun e w' => ∃ g, e = .returned (.slice (some ⟨g, 0, none⟩) N N) ∧ Fr w g ∧ Own w' g (F.word rows N x) ∧ Ext w w' := by
  have hmk := mk_int nr (by omega)
  have hq2 := hG.q2
  have hq3 := hG.q256
  have hqd : ordF F.p F.m = F.q := rfl
  have hrn := hg.1
  have HRN := hidd hrn
  clear hrn
  go_enter Try.func75, Try.ntmps75
  go_wp2_with (go_at_call 55; refine (order_calls F.p F.m _ _).mono ?_; rintro e w1 ⟨rfl, hx1⟩; rw [hqd])
  clear hmk hqd
  have hap : Apart w.heap.size w1.heap.size := ⟨by
    have h1 : Bx w1 w.heap.size #[.int .i64 F.p, .int .i64 F.m, .slice A n c, .int .i64 N, .slice Ar nr cr] 27 := inferInstance
    have := (lo_bx (h := h1)).out; omega⟩
  go_loopw [1, 7] (fun nv jv wr => ∃ (t : Nat) (y : Int) (zs : List Int), t ≤ nr ∧ nv = .int .i64 y ∧ jv = .int .i64 ((nr : Int) - 1 - t) ∧ 0 ≤ y ∧ y ≤ x ∧ Bel w wr ∧ Bx wr w.heap.size #[.int .i64 F.p, .int .i64 F.m, .slice A n c, .int .i64 N, .slice Ar nr cr] 27 ∧ Own wr w1.heap.size zs ∧ Hid (zs = parR nr (msgF F.q nr x) t ∧ y = x / F.q ^ t)) (fun _ jv _ => (intOf jv + 1).toNat)
  case atStart => exact ⟨0, x, _, by omega, rfl, by simp, by omega, by omega, inferInstance, inferInstance, inferInstance, parR_zero _ _, by simp⟩
  case round =>
    obtain ⟨t, y, zs, ht, rfl, rfl, hy0, hy1, hB, hbx, ho, HI⟩ := hrel
    by_cases hlt : t < nr
    · obtain ⟨j, hj⟩ : ∃ j : Nat, (nr : Int) - 1 - t = j := ⟨nr - 1 - t, by omega⟩
      rw [hj]
      have hjn : j = nr - 1 - t := by omega
      have hko : In j zs.length := ⟨by rw [HI.out.1, parR, mkL_length]; omega⟩
      have hko' := hko.out
      have hd0 : 0 ≤ y / F.q := Int.ediv_nonneg hy0 (by omega)
      have hd1 : y / F.q ≤ y := Int.ediv_le_self _ hy0
      have HJ := hidd hjn
      clear hjn
      go_wp2
      go_roundw
      case rel =>
        refine ⟨t + 1, y / F.q, _, by omega, rfl, by congr 1; omega, hd0, by omega, inferInstance, inferInstance, inferInstance, ?_, ?_⟩
        · rw [HI.out.1, HJ.out]
          refine parR_set _ _ _ _ hlt ?_
          rw [HI.out.2, msgF, show nr - 1 - (nr - 1 - t) = t by omega]
        · rw [HI.out.2, Int.pow_succ, Int.ediv_ediv_of_nonneg (Int.pow_nonneg (by omega))]
      case measure => simp [intOf] <;> omega
    · obtain rfl : t = nr := by omega
      have hzl : zs.length = t := by rw [HI.out.1, parR, mkL_length]
      have HZ : Hid (zs = msgL F.q t x) := by show _ = _; rw [HI.out.1, parR_full]; rfl
      go_wp2_with (go_at_call 77; refine (combine_calls F A n c zs rows _ Ar _ _ _ cr N _ hG hn hzl hg (by omega) hN2).mono ?_; rintro e w2 ⟨g, rfl, hf, ho2, hx2⟩)
      go_ret
      have hfw : Fr w g := Fr.then_ hB ⟨hf.out⟩
      refine ⟨g, rfl, hfw, ?_, Bel.ext inferInstance⟩
      rw [Fd.word, HRN.out, ← HZ.out]; exact ho2

end Go.Proofs.Ytcigdhmecfhndaa

namespace Go.Proofs.Ytcigdhmecfhndaa
open Go.RowKit
attribute [local go_sem] cell_bx froz_bx cell_own froz_own cell_rd cell_cel ints_get ints_set cell_ownv froz_ownv
set_option linter.unusedVariables false
set_option linter.unusedSimpArgs false

/-- the first n words of a code -/
def Fd.words (F : Fd) (rows : List (List Int)) (N n : Nat) : List (List Int) := (List.range n).map fun i : Nat => F.word rows N (i : Int)
theorem words_len (F : Fd) (rows : List (List Int)) (N n : Nat) : (F.words rows N n).length = n := by simp [Fd.words]
theorem words_succ (F : Fd) (rows : List (List Int)) (N n : Nat) : F.words rows N (n + 1) = F.words rows N n ++ [F.word rows N n] := by simp [Fd.words, List.range_succ]
theorem word_len (F : Fd) (rows : List (List Int)) (N : Nat) (i : Int) : (F.word rows N i).length = N := comb_len _ _ _ _
theorem words_gr (F : Fd) (rows : List (List Int)) (N n : Nat) {k : Nat} (h : k < n) : gr (F.words rows N n) k = F.word rows N k := by
  simp [gr, Fd.words, h]
/-- codewrightref12.Words -/
noncomputable def wrdL (F : Fd) (N : Int) (rows : List (List Int)) : List (List Int) := if sizE F N rows = 0 then F.words rows N.toNat (sizV F N rows).toNat else []
theorem expL_range {q : Int} (hq : 1 ≤ q) : ∀ (k : Nat) (o r : Int), 1 ≤ o → o ≤ 65536 → expL q k o = some r → 1 ≤ r ∧ r ≤ 65536 ∧ r = o * q ^ k
  | 0, o, r, h1, h2, h => by
    simp only [expL, Option.some.injEq] at h; subst h; exact ⟨h1, h2, by simp⟩
  | k + 1, o, r, h1, h2, h => by
    rw [expL] at h
    by_cases hc : o > 65536 / q
    · rw [if_pos hc] at h; cases h
    · rw [if_neg hc] at h
      have hm1 : o * q ≤ 65536 := Int.mul_le_of_le_ediv (by omega) (Int.not_lt.1 hc)
      have hm0 : 1 ≤ o * q := by
        have := Int.mul_le_mul h1 hq (by omega) (by omega)
        omega
      obtain ⟨a, b, e⟩ := expL_range hq k (o * q) r hm0 hm1 h
      exact ⟨a, b, by rw [e, Int.pow_succ, Int.mul_assoc, Int.mul_comm q]⟩
theorem sizE_ok {F : Fd} {N : Int} {rows : List (List Int)} (h : sizE F N rows = 0) : codE F N rows = 0 ∧ 1 ≤ sizV F N rows ∧ sizV F N rows ≤ 65536 ∧ sizV F N rows = F.q ^ rows.length := by
  unfold sizE at h
  unfold sizV
  by_cases h1 : codE F N rows = 0
  · rw [if_pos h1] at h ⊢
    have hq := (codE_ok h1).1.good.q2
    cases e : expL F.q rows.length 1 with
    | none => rw [expE, if_pos e] at h; cases h
    | some r =>
      obtain ⟨a, b, c⟩ := expL_range (by omega) _ _ _ (by omega) (by omega) e
      rw [Int.one_mul] at c
      exact ⟨h1, by rw [expV, e]; exact a, by rw [expV, e]; exact b, by rw [expV, e]; exact c⟩
  · rw [if_neg h1] at h; exact absurd h h1

set_option maxRecDepth 100000 in
set_option maxHeartbeats 4000000 in
theorem words12_calls (F : Fd) (A : Option Addr) (n c : Nat) (rows : List (List Int)) (Ar : Option Addr) (nr cr : Nat) (N : Int) (w : World) (hn : F.md.length = n) (hn2 : n ≤ 1000000000000000000) (hr : rows.length = nr) (hr2 : nr ≤ 1000000000000000000) (hrl : ∀ k, (gr rows k).length ≤ 1000000000000000000) [hA : Sl w A F.md] [hR : Sls w Ar rows] :
    Calls Try.prog 28 #[.agg #[.int .i64 F.p, .int .i64 F.m, .slice A n c, .int .i64 N, .slice Ar nr cr]] w fun e w' => ∃ (B : Option Addr) (k : Nat), e = .returned (.tuple #[.slice B (wrdL F N rows).length k, .int .i64 (sizE F N rows)]) ∧ (wrdL F N rows).length ≤ k ∧ Sls w' B (wrdL F N rows) ∧ Ext w w' := by
  have HRL := hidd hrl
  clear hrl
  by_cases hok : sizE F N rows = 0
  · obtain ⟨hc, hv1, hv2, hv3⟩ := sizE_ok hok
    obtain ⟨k1, k2, k3, k4, k5, k6⟩ := codE_ok hc
    obtain ⟨nn, hnn⟩ : ∃ nn : Nat, sizV F N rows = nn := ⟨(sizV F N rows).toNat, by omega⟩
    obtain ⟨NN, rfl⟩ : ∃ NN : Nat, N = NN := ⟨N.toNat, by omega⟩
    have hG := k1.good
    have hg : Grid nr NN rows := ⟨hr, fun k hk => by have := k4.2.2.2 k (by omega); omega⟩
    have hr3 : nr ≤ 1000 := by have := k4.2.2.1; omega
    have hnn2 : nn ≤ 65536 := by omega
    have HW : Hid (wrdL F NN rows = F.words rows NN nn) := by
      show _ = _
      rw [wrdL, if_pos hok, hnn]; rfl
    have hvi : Value.int .i64 (sizV F NN rows) = .int .i64 (nn : Int) := by rw [hnn]
    clear hc hv1 hv2 hv3 k4 k5 k6 hnn
    have HG := hidd hg
    have HOK := hidd hok
    go_enter Try.func28, Try.ntmps28
    go_wp2_with (go_at_call 22; refine (size12_calls F A n c rows Ar nr cr NN _ hn hn2 hr hr2 HRL.out).mono ?_; rintro e w1 ⟨rfl, hx1⟩; rw [hok, hvi])
    clear hok hvi
    go_loopw [6, 7] (fun ov iv wr => ∃ (k : Nat) (v : Value) (cs : List Value), v = ov ∧ iv = .int .i64 k ∧ k ≤ nn ∧ Bel w wr ∧ Bx wr w.heap.size #[.int .i64 F.p, .int .i64 F.m, .slice A n c, .int .i64 NN, .slice Ar nr cr] 27 ∧ FrV w v ∧ Row wr v 22 cs ∧ Inn wr cs (F.words rows NN k)) (fun _ iv _ => nn - (intOf iv).toNat)
    case atStart => exact ⟨0, _, [], rfl, rfl, by omega, inferInstance, inferInstance, inferInstance, row_nil_at _ _, inn_nil⟩
    case round =>
      obtain ⟨k, v, cs, rfl, rfl, hk, hB, hbx, hfv, hrow, hinn⟩ := hrel
      by_cases hlt : k < nn
      · have hcl : cs.length ≤ 1000000 := by rw [hinn.len, words_len]; omega
        have HB := hidd hB
        have HF := hidd hfv
        have HA : Sl wr A F.md := inferInstance
        have HR : Sls wr Ar rows := inferInstance
        clear hB hfv hA hR
        go_wp2_with (first
          | (go_at_call 75; refine (at12_calls F A n c rows Ar nr cr NN k _ hG hn HG.out hr3 (by omega) (by omega) (by omega)).mono ?_; rintro e w2 ⟨g, rfl, hf, ho2, hx2⟩)
          | (at_builtin; refine app_slice rfl (.tmp 21) (.tmp 25) rfl v cs _ _ _ w2.heap.size rfl rfl (by omega) ?_; intro v2 w3 hr3 hc3 hv3))
        have hb1 : Bel wr w2 := inferInstance
        have hi1 : Inn w2 cs (F.words rows NN k) := inferInstance
        have hr1 : Row w2 v 22 cs := inferInstance
        have hi2 := (hi1.snoc (c := NN) (word_len F rows NN k).symm ho2)
        rw [← words_succ] at hi2
        have hi3 : Inn w3 (cs ++ [.slice (some ⟨g, 0, none⟩) NN NN]) (F.words rows NN (k + 1)) := by
          have hi4 : Inn (w2.alloc (.cells #[.slice (some ⟨g, 0, none⟩) NN NN] 22)) (cs ++ [.slice (some ⟨g, 0, none⟩) NN NN]) (F.words rows NN (k + 1)) := inferInstance
          have hr4 : Row (w2.alloc (.cells #[.slice (some ⟨g, 0, none⟩) NN NN] 22)) v 22 cs := inferInstance
          exact hi4.grown hr4 (by decide) hc3
        have hbx2 : Bx w2 w.heap.size #[.int .i64 F.p, .int .i64 F.m, .slice A n c, .int .i64 NN, .slice Ar nr cr] 27 := inferInstance
        have htn : TNe 27 22 := ⟨by decide⟩
        have hbx3 : Bx w3 w.heap.size #[.int .i64 F.p, .int .i64 F.m, .slice A n c, .int .i64 NN, .slice Ar nr cr] 27 := inferInstance
        have hB := HB.out
        have hB1 : Bel w w2 := hB.then_ hb1
        clear hb1 hB
        have hF := HF.out
        have hf2 : FrV w v2 := FrV.app hv3
        have hB2 : Bel w w3 := inferInstance
        go_roundw
        case rel => exact ⟨k + 1, v2, _, rfl, by go_num, by omega, hB2, hbx3, hf2, hr3, hi3⟩
        case measure => simp [intOf] <;> omega
      · obtain rfl : k = nn := by omega
        go_wp2
        go_ret2
        obtain ⟨B, cB, rfl, hcB, hsB⟩ := hrow.readss hinn
        refine ⟨B, cB, ?_, ?_, ?_, hB.ext⟩
        · rw [HW.out, HOK.out]; rfl
        · rw [HW.out]; exact hcB
        · rw [HW.out]; exact hsB
  · have hb : (sizE F N rows != 0) = true := by simp [hok]
    have HOK := hidd hok
    clear hok
    go_enter Try.func28, Try.ntmps28
    go_wp2_with (go_at_call 22; refine (size12_calls F A n c rows Ar nr cr N _ hn hn2 hr hr2 HRL.out).mono ?_; rintro e w1 ⟨rfl, hx1⟩)
    go_ret2
    have HW : wrdL F N rows = [] := by rw [wrdL, if_neg HOK.out]
    exact ⟨none, 0, by rw [HW]; rfl, by rw [HW]; simp, by rw [HW]; exact inferInstance, Bel.ext inferInstance⟩

end Go.Proofs.Ytcigdhmecfhndaa

namespace Go.Proofs.Ytcigdhmecfhndaa
open Go.RowKit
attribute [local go_sem] cell_bx froz_bx cell_own froz_own cell_rd cell_cel ints_get ints_set cell_ownv froz_ownv
set_option linter.unusedVariables false
set_option linter.unusedSimpArgs false

/-- the number of places below k at which a and b differ -/
def difL (a b : List Int) : Nat → Nat
  | 0 => 0
  | k + 1 => if gt a k = gt b k then difL a b k else difL a b k + 1
theorem difL_le (a b : List Int) : ∀ k, difL a b k ≤ k
  | 0 => Nat.le_refl _
  | k + 1 => by have := difL_le a b k; rw [difL]; split <;> omega
def dist (a b : List Int) : Nat := difL a b (min a.length b.length)
theorem dist_le (a b : List Int) : dist a b ≤ b.length := Nat.le_trans (difL_le a b _) (Nat.min_le_right _ _)
def profS (ws : List (List Int)) (y : List Int) (i : Nat) (out : List Int) : List Int := out.set (dist (gr ws i) y) (gt out (dist (gr ws i) y) + 1)
/-- how many words have each distance from y -/
def profN (ws : List (List Int)) (y : List Int) (k : Nat) : List Int := loopN k (profS ws y) (List.replicate (y.length + 1) 0)
def prof (ws : List (List Int)) (y : List Int) : List Int := profN ws y ws.length
theorem profN_len (ws : List (List Int)) (y : List Int) (k : Nat) : (profN ws y k).length = y.length + 1 := by
  rw [profN, loopN_len _ _ _ fun i x => by rw [profS, List.length_set], List.length_replicate]
theorem profN_rng (ws : List (List Int)) (y : List Int) : ∀ k j, 0 ≤ gt (profN ws y k) j ∧ gt (profN ws y k) j ≤ k
  | 0, j => by
    have : gt (profN ws y 0) j = 0 := by
      simp only [profN, loopN, gt, List.getD_eq_getElem?_getD, List.getElem?_replicate]
      split <;> rfl
    omega
  | k + 1, j => by
    have ih := profN_rng ws y k
    rw [profN, loopN_succ, ← profN, profS]
    have h1 := ih j
    by_cases hd : dist (gr ws k) y < (profN ws y k).length
    · rw [gt_set _ _ _ _ hd]
      split
      · have := ih (dist (gr ws k) y); omega
      · omega
    · rw [List.set_eq_of_length_le (by omega)]; omega

set_option maxRecDepth 100000 in
set_option maxHeartbeats 2000000 in
theorem dist23_calls (a b : List Int) (Aa Ab : Option Addr) (na ca nb cb : Nat) (w : World) (hna : a.length = na) (hnb : b.length = nb) (hnm : na ≤ 1000000000000000000) [hA : Sl w Aa a] [hB : Sl w Ab b] :
    Calls Try.prog 34 #[.slice Aa na ca, .slice Ab nb cb] w fun e w' => e = .returned (.int .i64 (dist a b)) ∧ Ext w w' := by
  subst hna hnb
  go_enter Try.func34, Try.ntmps34
  go_wp2
  go_loopw [5, 6] (fun dv iv wr => ∃ (k d : Nat), iv = .int .i64 k ∧ dv = .int .i64 d ∧ k ≤ a.length ∧ k ≤ b.length ∧ d ≤ k ∧ Bel w wr ∧ Hid (d = difL a b k)) (fun _ iv _ => a.length - (intOf iv).toNat)
  case atStart => exact ⟨0, 0, rfl, rfl, by omega, by omega, by omega, inferInstance, rfl⟩
  case round =>
    obtain ⟨k, d, rfl, rfl, hk, hk2, hd, hbel, HI⟩ := hrel
    by_cases hlt : k < a.length
    · by_cases hlt2 : k < b.length
      · obtain ⟨ada, rfl, rda⟩ := hA.at_ hlt
        obtain ⟨adb, rfl, rdb⟩ := hB.at_ hlt2
        by_cases he : gt a k = gt b k
        · have heb : (gt a k != gt b k) = false := by simp [he]
          have HE := hidd he
          clear he
          go_wp2
          go_quiet (fail)
          go_wp2
          go_roundw
          case rel => exact ⟨k + 1, d, by go_num, rfl, by omega, by omega, by omega, inferInstance, by show _ = _; rw [difL, if_pos HE.out]; exact HI.out⟩
          case measure => simp [intOf] <;> omega
        · have heb : (gt a k != gt b k) = true := by simp [he]
          have HE := hidd he
          clear he
          go_wp2
          go_quiet (fail)
          go_wp2
          go_roundw
          case rel => exact ⟨k + 1, d + 1, by go_num, by go_num, by omega, by omega, by omega, inferInstance, by show _ = _; rw [difL, if_neg HE.out, ← HI.out]⟩
          case measure => simp [intOf] <;> omega
      · obtain rfl : k = b.length := by omega
        go_wp2
        go_ret
        exact ⟨ret_int (by rw [HI.out, dist, Nat.min_eq_right hk]), hbel.ext⟩
    · obtain rfl : k = a.length := by omega
      go_wp2
      go_ret
      exact ⟨ret_int (by rw [HI.out, dist, Nat.min_eq_left hk2]), hbel.ext⟩

set_option maxRecDepth 100000 in
set_option maxHeartbeats 2000000 in
theorem prof23_calls (ws : List (List Int)) (y : List Int) (A Ay : Option Addr) (n c ny cy : Nat) (w : World) (hn : ws.length = n) (hn2 : n ≤ 1000000000000000) (hy : y.length = ny) (hy2 : ny ≤ 1000000) (hwl : ∀ k, (gr ws k).length ≤ 1000000000000000000) [hA : Sls w A ws] [hY : Sl w Ay y] :
    Calls Try.prog 68 #[.slice A n c, .slice Ay ny cy] w fun e w' => ∃ g, e = .returned (.slice (some ⟨g, 0, none⟩) (ny + 1) (ny + 1)) ∧ Fr w g ∧ Own w' g (prof ws y) ∧ Ext w w' := by
  have hmk := mk_int (ny + 1) (by omega)
  have hcast : ((ny + 1 : Nat) : Int) = (ny : Int) + 1 := by omega
  subst hn hy
  have HWL := hidd hwl
  clear hwl
  go_enter Try.func68, Try.ntmps68
  rw [hcast] at hmk
  go_wp2
  clear hmk hcast
  go_loopw [6] (fun iv wr => ∃ (k : Nat) (zs : List Int), iv = .int .i64 k ∧ k ≤ ws.length ∧ Bel w wr ∧ Own wr w.heap.size zs ∧ Hid (zs = profN ws y k)) (fun iv _ => ws.length - (intOf iv).toNat)
  case atStart => exact ⟨0, _, rfl, by omega, inferInstance, inferInstance, rfl⟩
  case round =>
    obtain ⟨k, zs, rfl, hk, hbel, ho, HI⟩ := hrel
    by_cases hlt : k < ws.length
    · obtain ⟨ad, B, cB, rfl, hcel, hsl⟩ := hA.at_ hlt
      have hlen := HWL.out k
      have hdl := dist_le (gr ws k) y
      have hzl : zs.length = y.length + 1 := by rw [HI.out, profN_len]
      have hko : In (dist (gr ws k) y) zs.length := ⟨by omega⟩
      have hko' := hko.out
      have hrg : 0 ≤ gt zs (dist (gr ws k) y) ∧ gt zs (dist (gr ws k) y) ≤ k := by rw [HI.out]; exact profN_rng ws y k _
      obtain ⟨hr0, hr1⟩ := hrg
      clear hzl
      go_wp2_with (go_at_call 34; refine (dist23_calls (gr ws k) y B Ay _ cB _ cy _ rfl rfl hlen).mono ?_; rintro e w2 ⟨rfl, hx2⟩)
      go_roundw
      case rel => exact ⟨k + 1, _, by go_num, by omega, inferInstance, inferInstance, by show _ = _; rw [profN, loopN_succ, ← profN, ← HI.out]; rfl⟩
      case measure => simp [intOf] <;> omega
    · obtain rfl : k = ws.length := by omega
      go_wp2
      go_ret
      refine ⟨w.heap.size, rfl, inferInstance, ?_, hbel.ext⟩
      rw [prof, ← HI.out]; exact ho

/-- codewrightref11.Compare -/
def cmpL : List Int → List Int → Int
  | [], [] => 0
  | [], _ :: _ => -1
  | _ :: _, [] => 1
  | x :: a, y :: b => if x < y then -1 else if y < x then 1 else cmpL a b
theorem cmpL_zero : ∀ a b : List Int, cmpL a b = 0 ↔ a = b
  | [], [] => by simp [cmpL]
  | [], _ :: _ => by simp [cmpL]
  | _ :: _, [] => by simp [cmpL]
  | x :: a, y :: b => by
    rw [cmpL]
    by_cases h1 : x < y
    · rw [if_pos h1]; simp; omega
    · rw [if_neg h1]
      by_cases h2 : y < x
      · rw [if_pos h2]; simp; omega
      · rw [if_neg h2, cmpL_zero a b]
        have : x = y := by omega
        simp [this]
theorem cmpL_drop (a b : List Int) {k : Nat} (h1 : k < a.length) (h2 : k < b.length) : cmpL (a.drop k) (b.drop k) = if gt a k < gt b k then -1 else if gt b k < gt a k then 1 else cmpL (a.drop (k + 1)) (b.drop (k + 1)) := by
  rw [List.drop_eq_getElem_cons h1, List.drop_eq_getElem_cons h2, cmpL, gt_eq h1, gt_eq h2]

set_option maxRecDepth 100000 in
set_option maxHeartbeats 4000000 in
theorem cmp11_calls (a b : List Int) (Aa Ab : Option Addr) (na ca nb cb : Nat) (w : World) (hna : a.length = na) (hnb : b.length = nb) (hnm : na ≤ 1000000000000000000) (hnm2 : nb ≤ 1000000000000000000) [hA : Sl w Aa a] [hB : Sl w Ab b] :
    Calls Try.prog 69 #[.slice Aa na ca, .slice Ab nb cb] w fun e w' => e = .returned (.int .i64 (cmpL a b)) ∧ Ext w w' := by
  subst hna hnb
  go_enter Try.func69, Try.ntmps69
  go_wp2
  go_loopw [5] (fun iv wr => ∃ (k : Nat), iv = .int .i64 k ∧ k ≤ a.length ∧ k ≤ b.length ∧ Bel w wr ∧ Hid (cmpL a b = cmpL (a.drop k) (b.drop k))) (fun iv _ => a.length - (intOf iv).toNat)
  case atStart => exact ⟨0, rfl, by omega, by omega, inferInstance, rfl⟩
  case round =>
    obtain ⟨k, rfl, hk, hk2, hbel, HI⟩ := hrel
    by_cases hlt : k < a.length
    · by_cases hlt2 : k < b.length
      · have hD : Hid (cmpL a b = if gt a k < gt b k then -1 else if gt b k < gt a k then 1 else cmpL (a.drop (k + 1)) (b.drop (k + 1))) := by
          show _ = _
          rw [HI.out, cmpL_drop a b hlt hlt2]
        clear HI
        obtain ⟨ada, rfl, rda⟩ := hA.at_ hlt
        obtain ⟨adb, rfl, rdb⟩ := hB.at_ hlt2
        by_cases h1 : gt a k < gt b k
        · go_wp2
          go_quiet (fail)
          go_wp2
          go_ret
          exact ⟨ret_int (by rw [hD.out, if_pos (by omega)]), Bel.ext inferInstance⟩
        · by_cases h2 : gt b k < gt a k
          · go_wp2
            go_quiet (fail)
            go_wp2
            go_quiet (fail)
            go_wp2
            go_ret
            exact ⟨ret_int (by rw [hD.out, if_neg (by omega), if_pos (by omega)]), Bel.ext inferInstance⟩
          · go_wp2
            go_quiet (fail)
            go_wp2
            go_quiet (fail)
            go_wp2
            go_roundw
            case rel => exact ⟨k + 1, by go_num, by omega, by omega, inferInstance, by show _ = _; rw [hD.out, if_neg (by omega), if_neg (by omega)]⟩
            case measure => simp [intOf] <;> omega
      · obtain rfl : k = b.length := by omega
        have HE : Hid (cmpL a b = 1) := by
          show _ = _
          rw [HI.out, List.drop_length, List.drop_eq_getElem_cons hlt]; rfl
        clear HI
        go_wp2
        go_ret
        exact ⟨ret_int (by rw [HE.out]), hbel.ext⟩
    · obtain rfl : k = a.length := by omega
      by_cases h2 : a.length < b.length
      · have HE : Hid (cmpL a b = -1) := by
          show _ = _
          rw [HI.out, List.drop_length, List.drop_eq_getElem_cons h2]; rfl
        clear HI
        go_wp2
        go_ret
        exact ⟨ret_int (by rw [HE.out]), hbel.ext⟩
      · have HE : Hid (cmpL a b = 0) := by
          show _ = _
          rw [HI.out, List.drop_length, show a.length = b.length by omega, List.drop_length]; rfl
        clear HI
        go_wp2
        go_ret
        exact ⟨ret_int (by rw [HE.out]), hbel.ext⟩

set_option maxRecDepth 100000 in
set_option maxHeartbeats 2000000 in
theorem same11_calls (a b : List Int) (Aa Ab : Option Addr) (na ca nb cb : Nat) (w : World) (hna : a.length = na) (hnb : b.length = nb) (hnm : na ≤ 1000000000000000000) (hnm2 : nb ≤ 1000000000000000000) [hA : Sl w Aa a] [hB : Sl w Ab b] :
    Calls Try.prog 21 #[.slice Aa na ca, .slice Ab nb cb] w fun e w' => e = .returned (.bool (decide (a = b))) ∧ Ext w w' := by
  by_cases h : a = b
  · have hc : cmpL a b = 0 := (cmpL_zero a b).2 h
    have H := hidd h
    clear h
    go_enter Try.func21, Try.ntmps21
    go_wp2_with (go_at_call 69; refine (cmp11_calls a b Aa Ab na ca nb cb _ hna hnb hnm hnm2).mono ?_; rintro e w2 ⟨rfl, hx2⟩; rw [hc])
    go_ret
    exact ⟨ret_bool (decide_eq_true H.out).symm, Bel.ext inferInstance⟩
  · have hc : (cmpL a b == 0) = false := by rw [beq_eq_false_iff_ne]; exact fun e => h ((cmpL_zero a b).1 e)
    have H := hidd h
    clear h
    go_enter Try.func21, Try.ntmps21
    go_wp2_with (go_at_call 69; refine (cmp11_calls a b Aa Ab na ca nb cb _ hna hnb hnm hnm2).mono ?_; rintro e w2 ⟨rfl, hx2⟩)
    go_ret
    exact ⟨ret_bool (decide_eq_false H.out).symm, Bel.ext inferInstance⟩

/-- the number of entries below k that are not 0 -/
def wgtN (a : List Int) : Nat → Nat
  | 0 => 0
  | k + 1 => if gt a k = 0 then wgtN a k else wgtN a k + 1
theorem wgtN_le (a : List Int) : ∀ k, wgtN a k ≤ k
  | 0 => Nat.le_refl _
  | k + 1 => by have := wgtN_le a k; rw [wgtN]; split <;> omega
def wgt (a : List Int) : Nat := wgtN a a.length

set_option maxRecDepth 100000 in
set_option maxHeartbeats 2000000 in
theorem weight_calls (a : List Int) (Aa : Option Addr) (na ca : Nat) (w : World) (hna : a.length = na) (hnm : na ≤ 1000000000000000000) [hA : Sl w Aa a] :
    Calls Try.prog 67 #[.slice Aa na ca] w fun e w' => e = .returned (.int .i64 (wgt a)) ∧ Ext w w' := by
  subst hna
  go_enter Try.func67, Try.ntmps67
  go_wp2
  go_loopw [3, 8] (fun dv iv wr => ∃ (k d : Nat), iv = .int .i64 k ∧ dv = .int .i64 d ∧ k ≤ a.length ∧ d ≤ k ∧ Bel w wr ∧ Hid (d = wgtN a k)) (fun _ iv _ => a.length - (intOf iv).toNat)
  case atStart => exact ⟨0, 0, rfl, rfl, by omega, by omega, inferInstance, rfl⟩
  case round =>
    obtain ⟨k, d, rfl, rfl, hk, hd, hbel, HI⟩ := hrel
    by_cases hlt : k < a.length
    · obtain ⟨ada, rfl, rda⟩ := hA.at_ hlt
      by_cases he : gt a k = 0
      · have heb : (gt a k != 0) = false := by simp [he]
        have HE := hidd he
        clear he
        go_wp2
        go_roundw
        case rel => exact ⟨k + 1, d, by go_num, rfl, by omega, by omega, inferInstance, by show _ = _; rw [wgtN, if_pos HE.out]; exact HI.out⟩
        case measure => simp [intOf] <;> omega
      · have heb : (gt a k != 0) = true := by simp [he]
        have HE := hidd he
        clear he
        go_wp2
        go_roundw
        case rel => exact ⟨k + 1, d + 1, by go_num, by go_num, by omega, by omega, inferInstance, by show _ = _; rw [wgtN, if_neg HE.out, ← HI.out]⟩
        case measure => simp [intOf] <;> omega
    · obtain rfl : k = a.length := by omega
      go_wp2
      go_ret
      exact ⟨ret_int (by rw [HI.out, wgt]), hbel.ext⟩

end Go.Proofs.Ytcigdhmecfhndaa

/- The walks of slices.Index, slices.Contains and matrix.Kernel. -/
import Derived.Test.YtcigdhmecfhndaaNu
namespace Go.Proofs.Ytcigdhmecfhndaa
open Go.RowKit
attribute [local go_sem] cell_bx froz_bx cell_own froz_own cell_rd cell_cel ints_get ints_set cell_ownv froz_ownv eql_nil_int
set_option linter.unusedVariables false
set_option linter.unusedSimpArgs false

set_option maxRecDepth 100000 in
set_option maxHeartbeats 2000000 in
theorem index_calls (a : List Int) (x : Int) (Aa : Option Addr) (na ca : Nat) (w : World) (hna : a.length = na) (hnm : na ≤ 1000000000000000000) [hA : Sl w Aa a] :
    Calls Try.prog 168 #[.slice Aa na ca, .int .i64 x] w fun e w' => ∃ k : Int, e = .returned (.int .i64 k) ∧ (0 ≤ k ↔ x ∈ a) ∧ Ext w w' := by
  subst hna
  go_enter Try.func168, Try.ntmps168
  go_wp2
  go_loopw [8] (fun iv wr => ∃ (k : Nat), iv = .int .i64 k ∧ k ≤ a.length ∧ Bel w wr ∧ Hid (∀ j, j < k → gt a j ≠ x)) (fun iv _ => a.length - (intOf iv).toNat)
  case atStart => exact ⟨0, rfl, by omega, inferInstance, fun j hj => by omega⟩
  case round =>
    obtain ⟨k, rfl, hk, hbel, HI⟩ := hrel
    by_cases hlt : k < a.length
    · obtain ⟨ada, rfl, rda⟩ := hA.at_ hlt
      by_cases he : x = gt a k
      · have heb : (x == gt a k) = true := by simp [he]
        have HE := hidd he
        clear he
        go_wp2
        go_ret
        exact ⟨k, rfl, ⟨fun _ => mem_iff_gt.2 ⟨k, hlt, HE.out.symm⟩, fun _ => by omega⟩, Bel.ext inferInstance⟩
      · have heb : (x == gt a k) = false := by simp [he]
        have HE := hidd he
        clear he
        go_wp2
        go_roundw
        case rel => exact ⟨k + 1, by go_num, by omega, inferInstance, fun j hj => by
          by_cases e : j = k
          · rw [e]; exact fun h => HE.out h.symm
          · exact HI.out j (by omega)⟩
        case measure => simp [intOf] <;> omega
    · obtain rfl : k = a.length := by omega
      go_wp2
      go_ret
      refine ⟨-1, rfl, ⟨fun h => by omega, fun h => ?_⟩, hbel.ext⟩
      obtain ⟨j, hj, e⟩ := mem_iff_gt.1 h
      exact absurd e (HI.out j hj)

set_option maxRecDepth 100000 in
set_option maxHeartbeats 2000000 in
theorem contains_calls (a : List Int) (x : Int) (Aa : Option Addr) (na ca : Nat) (w : World) (hna : a.length = na) (hnm : na ≤ 1000000000000000000) [hA : Sl w Aa a] :
    Calls Try.prog 162 #[.slice Aa na ca, .int .i64 x] w fun e w' => e = .returned (.bool (decide (x ∈ a))) ∧ Ext w w' := by
  go_enter Try.func162, Try.ntmps162
  go_wp2_with (go_at_call 168; refine (index_calls a x Aa na ca _ hna hnm).mono ?_; rintro e w1 ⟨k, rfl, hk, hx1⟩)
  go_ret
  exact ⟨ret_bool (by first | rfl | exact decide_eq_decide.2 hk), Bel.ext inferInstance⟩

set_option maxRecDepth 100000 in
set_option maxHeartbeats 8000000 in
theorem kernel_calls (F : Fd) (A : Option Addr) (n c0 : Nat) (rows : List (List Int)) (Ar : Option Addr) (nr cr N : Nat) (w : World) (hn : F.md.length = n) (hn2 : n ≤ 1000000000000000000) (hr : rows.length = nr) (hm : matE F (N : Int) rows = 0) (hN0 : 0 < N) [hA : Sl w A F.md] [hR : Sls w Ar rows] :
    Calls Try.prog 145 #[.agg #[.int .i64 F.p, .int .i64 F.m, .slice A n c0], .agg #[.int .i64 (N : Int), .slice Ar nr cr]] w fun e w' => ∃ (B : Option Addr), e = .returned (.tuple #[.agg #[.int .i64 (N : Int), .slice B (F.null rows N).length (F.null rows N).length], .int .i64 0]) ∧ Sls w' B (F.null rows N) ∧ Ext w w' := by
  obtain ⟨hO, hS, hE⟩ := matE_ok hm
  have hgr : Grid nr N rows := ⟨hr, fun k hk => by have := hS.2.2.2 k (by omega); omega⟩
  have hnr : nr ≤ 1000 := by have := hS.2.2.1; omega
  have hNN : N ≤ 1000 := by have := hS.2.1; omega
  have hF := fok_iff.2 hO
  have hrl : ∀ k, (gr rows k).length ≤ 1000000000000000000 := fun k => by
    by_cases hk : k < nr
    · rw [hgr.2 k hk]; omega
    · rw [gr_out (by omega)]; simp
  have hpr := pivs_rng hO hgr hE (Nat.le_refl N)
  have hcg := canon_grid F hgr N
  have hpl : (F.pivs rows N).length ≤ 1000 := by have := (elim_grid F hgr N).2; rw [Fd.pivs, Fd.elim]; omega
  have hMC := fun (b : Nat) w [hg : GFp w b F] [hX : Sls w Ar rows] => mcanon_calls F b nr cr N N rows Ar w hF hgr hE hnr (by omega) hNN (Nat.le_refl _)
  have hnull : F.null rows N = F.canon (F.nraw (F.canon rows N) (F.pivs rows N) N N) N := rfl
  have hcan : F.canon rows N = (F.elim rows N).1.take (F.pivs rows N).length := rfl
  rw [hnull]
  generalize hle : F.canon rows N = l at *
  generalize (F.elim rows N).1 = el at *
  generalize F.pivs rows N = pv at *
  have hrg := nraw_grid F l pv N N
  have hrE := nraw_ent hO.ok l pv N N
  have hrln := nraw_len F l pv N N
  have hM2 := fun (b : Nat) (B : Option Addr) (kB : Nat) w [hg : GFp w b F] [hX : Sls w B (F.nraw l pv N N)] => mcanon_calls F b _ kB N N (F.nraw l pv N N) B w hF hrg hrE (by omega) (by omega) hNN (Nat.le_refl _)
  have hcl : (F.canon (F.nraw l pv N N) N).length = (F.pivs (F.nraw l pv N N) N).length := canon_len F hrg N
  have hcan2 : F.canon (F.nraw l pv N N) N = (F.elim (F.nraw l pv N N) N).1.take (F.pivs (F.nraw l pv N N) N).length := rfl
  rw [hcl]
  have HMC := hidd hMC
  have HM2 := hidd hM2
  have HPR := hidd hpr
  have HCG := hidd hcg
  have HCAN := hidd hcan
  have HCAN2 := hidd hcan2
  have HRL := hidd hrl
  have HM := hidd hm
  clear hMC hM2 hpr hcg hcan hcan2 hnull hrg hrE hrln hcl hrl hm hS hE hgr hle
  go_enter Try.func145, Try.ntmps145
  go_wp2_with (first
    | (go_at_call 160; refine (open_calls F A n c0 _ rows Ar nr cr N _ hn hn2 hr (by omega) HRL.out).mono ?_; rintro e w1 (⟨h, _⟩ | ⟨_, g, rfl, hf1, hgp, hx1⟩); exact absurd HM.out h)
    | (go_at_call 161; refine (HMC.out _ _).mono ?_; rintro e w2 ⟨g2, cs2, Ap, cp, rfl, hcp, hown2, hinn2, hrow2, hx2⟩))
  have hB02 : Bel w w2 := inferInstance
  have hg2p : GFp w2 g F := inferInstance
  have hfd2 : Bx w2 w.heap.size #[.int .i64 F.p, .int .i64 F.m, .slice A n c0] 24 := inferInstance
  have hmx2 : Bx w2 (w.heap.size + 1) #[.int .i64 (N : Int), .slice Ar nr cr] 91 := inferInstance
  have hrs2 : Bx w2 (w.heap.size + 1 + 1) #[.int .i64 0, .slice none 0 0] 91 := inferInstance
  have hsr : Sls w2 (some ⟨g2, 0, none⟩) l := by rw [HCAN.out]; exact (hown2.sls hinn2).take pv.length
  obtain ⟨Ap2, c2, he2, _, hsp, -⟩ := hrow2.reads
  injection he2 with e1 e2 e3
  subst e1 e3
  clear e2
  have hll : l.length = pv.length := HCG.out.1
  have HMK : Hid (∀ w : World, (Instr.makeSlice 22 (.int .i64 (N : Int)) (.int .i64 (N : Int))).run Try.prog w = .ok (.slice (some ⟨w.heap.size, 0, none⟩) N N) (w.alloc (.cells (ints (List.replicate N 0)) 3))) := mk_int N (by omega)
  have HB02 := hidd hB02
  have hszA := hB02.out.size
  have hl3 := (lo_bx (h := hrs2)).out
  clear hx1 hx2 hf1 hgp hB02 hown2 hinn2 hrow2
  go_loopw [10, 37] (fun ov cv wr => ∃ (c : Nat) (v : Value) (cs : List Value), v = ov ∧ cv = .int .i64 c ∧ c ≤ N ∧ Bel w2 wr ∧ FrV w2 v ∧ Row wr v 22 cs ∧ Inn wr cs (F.nraw l pv N c)) (fun _ cv _ => N - (intOf cv).toNat)
  case atStart => exact ⟨0, _, [], rfl, rfl, by omega, inferInstance, inferInstance, row_nil_at _ _, inn_nil⟩
  case round =>
    obtain ⟨c, v, cs, rfl, rfl, hc, hB, hfv, hrow, hinn⟩ := hrel
    have hrln := nraw_len F l pv N c
    have hcl : cs.length ≤ 1000 := by rw [hinn.len]; omega
    by_cases hltc : c < N
    · have hltI : (c : Int) < N := by omega
      by_cases hmem : (c : Int) ∈ pv
      · have hd : decide ((c : Int) ∈ pv) = true := decide_eq_true hmem
        have HR : Hid (F.nraw l pv N (c + 1) = F.nraw l pv N c) := by show _ = _; rw [Fd.nraw, if_pos hmem]
        clear hmem
        go_wp2_with (go_at_call 162; refine (contains_calls pv (c : Int) Ap _ _ _ rfl (by omega)).mono ?_; rintro e w3 ⟨rfl, hx3⟩; rw [hd])
        go_roundw
        case rel => exact ⟨c + 1, v, cs, rfl, by go_num, by omega, inferInstance, hfv, inferInstance, by rw [HR.out]; infer_instance⟩
        case measure => simp [intOf] <;> omega
      · have hd : decide ((c : Int) ∈ pv) = false := decide_eq_false hmem
        have HR : Hid (F.nraw l pv N (c + 1) = F.nraw l pv N c ++ [F.nvec l pv N c]) := by show _ = _; rw [Fd.nraw, if_neg hmem]
        have hmk := HMK.out
        have hzc : In c (List.replicate N (0 : Int)).length := ⟨by simpa using hltc⟩
        have hzc2 : c < (List.replicate N (0 : Int)).length := hzc.out
        clear hmem
        go_wp2_with (go_at_call 162; refine (contains_calls pv (c : Int) Ap _ _ _ rfl (by omega)).mono ?_; rintro e w3 ⟨rfl, hx3⟩; rw [hd])
        have hB3 : Bel w2 w3 := inferInstance
        have hrow3 : Row w3 v 22 cs := inferInstance
        have hinn3 : Inn w3 cs (F.nraw l pv N c) := inferInstance
        have hszw := hB3.out.size
        obtain ⟨wo, rfl⟩ : ∃ wo, wo = w3 := ⟨_, rfl⟩
        clear hB hrow hinn hx3
        have hox : Own (wo.alloc (.cells (ints ((List.replicate N 0).set c 1)) 3)) wo.heap.size (F.nvN l pv N c 0) := by
          show Own _ _ ((List.replicate N 0).set c 1)
          infer_instance
        have hBA : Bel w2 (wo.alloc (.cells (ints ((List.replicate N 0).set c 1)) 3)) := inferInstance
        have hrA : Row (wo.alloc (.cells (ints ((List.replicate N 0).set c 1)) 3)) v 22 cs := inferInstance
        have hiA : Inn (wo.alloc (.cells (ints ((List.replicate N 0).set c 1)) 3)) cs (F.nraw l pv N c) := inferInstance
        have hxv : some wo.heap.size ≠ v.ownBlock := fun e => by have := hrow3.lt e.symm; omega
        have HIN : Hid (InnAp cs (.slice (some ⟨wo.heap.size, 0, none⟩) 0 0)) := fun k g n' c' hk e => by
          have hl := hinn3.lt k hk g (by rw [e]; rfl)
          simp only [Value.ownBlock, ne_eq, Option.some.injEq]
          omega
        clear hB3 hrow3 hinn3 hmk
        go_loopw [51] (fun iv wr => ∃ (i : Nat), iv = .int .i64 i ∧ i ≤ pv.length ∧ Bel w2 wr ∧ Own wr wo.heap.size (F.nvN l pv N c i) ∧ Row wr v 22 cs ∧ Inn wr cs (F.nraw l pv N c)) (fun iv _ => pv.length - (intOf iv).toNat)
        case atStart => exact ⟨0, rfl, by omega, hBA, hox, hrA, hiA⟩
        case round =>
          clear hBA hox hrA hiA
          obtain ⟨i, rfl, hi, hB, hox, hrow, hinn⟩ := hrel
          by_cases hlti : i < pv.length
          · obtain ⟨adp, rfl, rdp⟩ := hsp.at_ hlti
            obtain ⟨adr, Br, crr, e9, hcr0, hsr0⟩ := hsr.at_ (k := i) (by rw [HCG.out.1]; exact hlti)
            obtain rfl : adr = ⟨g2, 0, none⟩ := by injection e9 with e9; exact e9.symm
            have hlr := HCG.out.2 i hlti
            obtain ⟨adx, rfl, rdx⟩ := hsr0.at_ (k := c) (by rw [hlr]; exact hltc)
            have hp1 := HPR.out i hlti
            obtain ⟨pi, hpi⟩ : ∃ pi : Nat, gt pv i = pi := ⟨(gt pv i).toNat, by omega⟩
            have hcp2 : Cel wr (adp.add i) (.int .i64 (pi : Int)) := ⟨by rw [← hpi]; exact below_cell hB.out (rdp.out i hlti)⟩
            have hcr2 : Cel wr ⟨g2, i, none⟩ (.slice (some adx) (gr l i).length crr) := by
              have h8 : Cel wr ((⟨g2, 0, none⟩ : Addr).add i) (.slice (some adx) (gr l i).length crr) := inferInstance
              rw [add_plain] at h8; exact h8
            have hcx2 : Cel wr (adx.add c) (.int .i64 (gt (gr l i) c)) := ⟨below_cell hB.out (rdx.out c (by rw [hlr]; exact hltc))⟩
            have hgp2 : GFp wr g F := inferInstance
            rw [hlr] at hcr2
            have hpN : pi < N := by omega
            have hpN2 : (pi : Int) < N := by omega
            have hin3 : In pi (F.nvN l pv N c i).length := ⟨by rw [nvN_len]; omega⟩
            have hin4 : pi < (F.nvN l pv N c i).length := hin3.out
            have hfr : Fr w2 wo.heap.size := ⟨hszw⟩
            have hapv : ApV wo.heap.size v := ⟨hxv⟩
            have HV : Hid (F.nvN l pv N c (i + 1) = (F.nvN l pv N c i).set pi (F.neg (gt (gr l i) c))) := by show _ = _; rw [Fd.nvN, loopN_succ, ← Fd.nvN, Fd.nvS, hpi]; rfl
            have HLR := hidd hlr
            clear hp1 hpi rdp rdx hlr
            go_wp2_with (go_at_call 88; refine (gneg_calls F g (gt (gr l i) c) _).mono ?_; rintro e w4 ⟨rfl, hx4⟩)
            have hi4 : Inn w4 cs (F.nraw l pv N c) := by
              have := hinn
              clear hB
              infer_instance
            have hi5 : Inn (w4.setCell ⟨wo.heap.size, pi, none⟩ (.int .i64 (F.neg (gt (gr l i) c)))) cs (F.nraw l pv N c) := hi4.by ⟨rfl, rfl, rfl, by simp [World.setCell], fun b _ hn => Below.heap_setCell w4 ⟨wo.heap.size, pi, none⟩ _ b (fun e => hn (congrArg some e))⟩ HIN.out
            clear hi4
            go_roundw
            case rel => exact ⟨i + 1, by go_num, by omega, inferInstance, by rw [HV.out]; exact own_set, inferInstance, hi5⟩
            case measure => simp [intOf] <;> omega
          · obtain rfl : i = pv.length := by omega
            have hnv : F.nvN l pv N c pv.length = F.nvec l pv N c := rfl
            rw [hnv] at hox
            have hii := hinn.snoc (c := N) (nvec_len F l pv N c).symm hox
            go_wp2_with (at_builtin; refine app_slice rfl (.tmp 69) (.tmp 71) rfl v cs _ _ _ wr.heap.size rfl rfl (by omega) ?_; intro v2 w5 hr5 hc5 hv5)
            have hi6 : Inn w5 (cs ++ [.slice (some ⟨wo.heap.size, 0, none⟩) N N]) (F.nraw l pv N c ++ [F.nvec l pv N c]) := by
              have hi4 : Inn (wr.alloc (.cells #[.slice (some ⟨wo.heap.size, 0, none⟩) N N] 22)) (cs ++ [.slice (some ⟨wo.heap.size, 0, none⟩) N N]) (F.nraw l pv N c ++ [F.nvec l pv N c]) := inferInstance
              have hr4 : Row (wr.alloc (.cells #[.slice (some ⟨wo.heap.size, 0, none⟩) N N] 22)) v 22 cs := inferInstance
              exact hi4.grown hr4 (by decide) hc5
            have hf2 : FrV w2 v2 := FrV.app hv5
            have hB2 : Bel w2 w5 := inferInstance
            go_roundw
            case rel => exact ⟨c + 1, v2, _, rfl, by go_num, by omega, hB2, hf2, hr5, by rw [HR.out]; exact hi6⟩
            case measure => simp [intOf] <;> omega
    · obtain rfl : c = N := by omega
      obtain ⟨B, kB, rfl, _, hsB⟩ := hrow.readss hinn
      have hgp2 : GFp wr g F := inferInstance
      have hrs3 : Bx wr (w.heap.size + 1 + 1) #[.int .i64 0, .slice none 0 0] 91 := inferInstance
      have hmx3 : Bx wr (w.heap.size + 1) #[.int .i64 (c : Int), .slice Ar nr cr] 91 := inferInstance
      have hBw : Bel w wr := HB02.out.then_ hB
      clear hB
      go_wp2_with (go_at_call 161; refine (HM2.out _ _ _ _).mono ?_; rintro e w6 ⟨g6, cs6, Ap6, cp6, rfl, hcp6, hown6, hinn6, hrow6, hx6⟩)
      obtain ⟨kk, hkk⟩ : ∃ kk, kk = (F.pivs (F.nraw l pv c c) c).length := ⟨_, rfl⟩
      obtain ⟨w7, hw7⟩ : ∃ w7, w7 = (w6.setCell ⟨w.heap.size + 1 + 1, 0, none⟩ (.int .i64 (c : Int))).setCell ⟨w.heap.size + 1 + 1, 1, none⟩ (.slice (some ⟨g6, 0, none⟩) (F.pivs (F.nraw l pv c c) c).length (F.pivs (F.nraw l pv c c) c).length) := ⟨_, rfl⟩
      have hB6 : Bel w w6 := hBw.then_ ⟨hx6.out⟩
      have h2 : Bx w6 (w.heap.size + 1 + 1) #[.int .i64 0, .slice none 0 0] 91 := ⟨blk_below hrs3.out hx6.out⟩
      have hbz : Bx w7 (w.heap.size + 1 + 1) #[.int .i64 (c : Int), .slice (some ⟨g6, 0, none⟩) (F.pivs (F.nraw l pv c c) c).length (F.pivs (F.nraw l pv c c) c).length] 91 := by
        have h3 := bx_set (k := 1) (u := .slice (some ⟨g6, 0, none⟩) (F.pivs (F.nraw l pv c c) c).length (F.pivs (F.nraw l pv c c) c).length) (h := bx_set (k := 0) (u := .int .i64 (c : Int)) (h := h2))
        rw [hw7]
        simpa using h3
      have a1 : Apart g6 (w.heap.size + 1 + 1) := ⟨fun e => ownv_bx_ne hown6 h2 (by decide) e.symm⟩
      have hown7 : OwnV w7 g6 22 cs6 := by
        have := hown6
        rw [hw7]
        clear hx6 hBw hB6
        infer_instance
      have hap : CsAp (w.heap.size + 1 + 1) cs6 := fun i hi e => by
        obtain ⟨q, cq, h1, h3⟩ := hinn6.out i (by rw [← hinn6.len]; exact hi)
        rw [h1, own_of] at e
        exact own_bx_ne h3 h2 (by decide) (Option.some.inj e).symm
      have hinn7 : Inn w7 cs6 (F.elim (F.nraw l pv c c) c).1 := by rw [hw7]; exact (hinn6.set_ hap).set_ hap
      have hB7 : Bel w w7 := by
        have f1 : Fr w (w.heap.size + 1 + 1) := ⟨by omega⟩
        rw [hw7]
        clear hx6 hBw
        infer_instance
      rw [← hw7]
      refine bodyPost_ret (results_cell2 rfl _ _ (w.heap.size + 1 + 1) _ _ _ _ rfl hbz.out Try.underlying91 rfl (by kernel_rfl)) rfl ?_
      exact ⟨some ⟨g6, 0, none⟩, rfl, by rw [HCAN2.out]; exact (hown7.sls hinn7).take _, hB7.ext⟩

end Go.Proofs.Ytcigdhmecfhndaa

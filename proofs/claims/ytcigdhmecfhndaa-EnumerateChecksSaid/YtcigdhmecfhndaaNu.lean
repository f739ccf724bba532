/- The null space of a matrix: plain functions; the walk of codewrightref09.Null. -/
import Derived.Test.YtcigdhmecfhndaaLco
namespace Go.Proofs.Ytcigdhmecfhndaa
open Go.RowKit
attribute [local go_sem] cell_bx froz_bx cell_own froz_own cell_rd cell_cel ints_get ints_set cell_ownv froz_ownv eql_nil_int
set_option linter.unusedVariables false
set_option linter.unusedSimpArgs false

def Fd.nvS (F : Fd) (l : List (List Int)) (pv : List Int) (c i : Nat) (x : List Int) : List Int := x.set (gt pv i).toNat (F.neg (gt (gr l i) c))
def Fd.nvN (F : Fd) (l : List (List Int)) (pv : List Int) (N c k : Nat) : List Int := loopN k (F.nvS l pv c) ((List.replicate N 0).set c 1)
/-- the vector of the null space that belongs to the column c without a pivot -/
def Fd.nvec (F : Fd) (l : List (List Int)) (pv : List Int) (N c : Nat) : List Int := F.nvN l pv N c pv.length
def Fd.nraw (F : Fd) (l : List (List Int)) (pv : List Int) (N : Nat) : Nat → List (List Int)
  | 0 => []
  | c + 1 => if (c : Int) ∈ pv then F.nraw l pv N c else F.nraw l pv N c ++ [F.nvec l pv N c]
/-- the canonical rows of the space of all words orthogonal to rows -/
def Fd.null (F : Fd) (rows : List (List Int)) (N : Nat) : List (List Int) := F.canon (F.nraw (F.canon rows N) (F.pivs rows N) N N) N
theorem nvN_len (F : Fd) (l : List (List Int)) (pv : List Int) (N c k : Nat) : (F.nvN l pv N c k).length = N := by
  rw [Fd.nvN, loopN_len _ _ _ fun _ _ => by rw [Fd.nvS, List.length_set], List.length_set, List.length_replicate]
theorem nvec_len (F : Fd) (l : List (List Int)) (pv : List Int) (N c : Nat) : (F.nvec l pv N c).length = N := nvN_len _ _ _ _ _ _
theorem nraw_len (F : Fd) (l : List (List Int)) (pv : List Int) (N : Nat) : ∀ c, (F.nraw l pv N c).length ≤ c
  | 0 => Nat.le_refl _
  | c + 1 => by
    have ih := nraw_len F l pv N c
    rw [Fd.nraw]; split
    · omega
    · rw [List.length_append, List.length_singleton]; omega
theorem nraw_mem (F : Fd) (l : List (List Int)) (pv : List Int) (N : Nat) : ∀ c x, x ∈ F.nraw l pv N c → ∃ d, d < c ∧ ¬ (d : Int) ∈ pv ∧ x = F.nvec l pv N d
  | 0, x, h => by simp [Fd.nraw] at h
  | c + 1, x, h => by
    rw [Fd.nraw] at h
    split at h
    · obtain ⟨d, h1, h2⟩ := nraw_mem F l pv N c x h
      exact ⟨d, by omega, h2⟩
    · next hc =>
      rcases List.mem_append.1 h with h | h
      · obtain ⟨d, h1, h2⟩ := nraw_mem F l pv N c x h
        exact ⟨d, by omega, h2⟩
      · exact ⟨c, by omega, hc, by simpa using h⟩
theorem nraw_grid (F : Fd) (l : List (List Int)) (pv : List Int) (N c : Nat) : Grid (F.nraw l pv N c).length N (F.nraw l pv N c) := ⟨rfl, fun k hk => by
  obtain ⟨d, _, _, e⟩ := nraw_mem F l pv N c _ (gr_mem hk)
  rw [e, nvec_len]⟩
theorem res_set {F : Fd} (hO : F.Ok) {x : List Int} (h : ∀ k, El F (gt x k)) (i : Nat) {v : Int} (hv : El F v) : ∀ k, El F (gt (x.set i v) k) := fun k => by
  by_cases hi : i < x.length
  · rw [gt_set _ _ _ _ hi]; split
    · exact hv
    · exact h k
  · rw [List.set_eq_of_length_le (by omega)]; exact h k
theorem nvN_el {F : Fd} (hO : F.Ok) (l : List (List Int)) (pv : List Int) (N c : Nat) : ∀ k j, El F (gt (F.nvN l pv N c k) j)
  | 0 => res_set hO (fun k => by rw [gt_rep]; exact el_zero hO.good) c (el_one hO.good)
  | k + 1 => by rw [Fd.nvN, loopN_succ]; exact res_set hO (nvN_el hO l pv N c k) _ (neg_el hO.good _)
theorem nraw_ent {F : Fd} (hO : F.Ok) (l : List (List Int)) (pv : List Int) (N c : Nat) : EntR F.q (F.nraw l pv N c) := fun k hk => by
  obtain ⟨d, _, _, e⟩ := nraw_mem F l pv N c _ (gr_mem hk)
  rw [e]
  exact fun j _ => nvN_el hO l pv N d _ j
theorem canon_gr {n m : Nat} (F : Fd) {l : List (List Int)} (h : Grid n m l) (t i : Nat) (hi : i < (F.pivs l t).length) : gr (F.canon l t) i = gr (F.elim l t).1 i := by
  have h1 := elim_grid F h t
  have h2 : (F.elim l t).1.length = n := h1.1.1
  have h3 : (F.elim l t).2.length ≤ n := h1.2
  rw [Fd.pivs] at hi
  rw [Fd.canon, gr, gr, List.getD_eq_getElem?_getD, List.getD_eq_getElem?_getD, List.getElem?_take_of_lt hi]
theorem canon_grid {n m : Nat} (F : Fd) {l : List (List Int)} (h : Grid n m l) (t : Nat) : Grid (F.pivs l t).length m (F.canon l t) := ⟨canon_len F h t, fun k hk => by
  have h1 := elim_grid F h t
  have h3 : (F.elim l t).2.length ≤ n := h1.2
  rw [canon_gr F h t k hk]
  exact h1.1.2 k (by rw [Fd.pivs] at hk; omega)⟩
def leadN (pv : List Int) (N k : Nat) : List Int := loopN k (fun i x => x.set (gt pv i).toNat (i : Int)) (List.replicate N (-1))
theorem leadN_len (pv : List Int) (N k : Nat) : (leadN pv N k).length = N := by rw [leadN, loopN_len _ _ _ fun _ _ => List.length_set .., List.length_replicate]
theorem leadN_spec {pv : List Int} {N : Nat} (hp : ∀ a, a < pv.length → 0 ≤ gt pv a ∧ gt pv a < N) {j : Nat} (hj : j < N) : ∀ k, k ≤ pv.length → (0 ≤ gt (leadN pv N k) j ↔ ∃ i, i < k ∧ gt pv i = j)
  | 0, _ => by
    have : gt (leadN pv N 0) j = -1 := by simp [leadN, loopN, gt, hj]
    rw [this]
    exact ⟨fun h => by omega, fun ⟨i, h, _⟩ => by omega⟩
  | k + 1, hk => by
    have ih := leadN_spec hp hj k (by omega)
    have h1 := hp k (by omega)
    rw [leadN, loopN_succ, ← leadN, gt_set _ _ _ _ (by rw [leadN_len]; omega)]
    by_cases e : (gt pv k).toNat = j
    · rw [if_pos e]
      exact ⟨fun _ => ⟨k, by omega, by omega⟩, fun _ => by omega⟩
    · rw [if_neg e, ih]
      exact ⟨fun ⟨i, h, e2⟩ => ⟨i, by omega, e2⟩, fun ⟨i, h, e2⟩ => ⟨i, by
        by_cases e3 : i = k
        · subst e3; omega
        · omega, e2⟩⟩
theorem leadN_mem {pv : List Int} {N : Nat} (hp : ∀ a, a < pv.length → 0 ≤ gt pv a ∧ gt pv a < N) {j : Nat} (hj : j < N) : 0 ≤ gt (leadN pv N pv.length) j ↔ (j : Int) ∈ pv := by
  rw [leadN_spec hp hj _ (Nat.le_refl _), mem_iff_gt]
theorem pivs_rng {F : Fd} (hF : RefOK F) {n m : Nat} {l : List (List Int)} (hg : Grid n m l) (he : EntR F.q l) {t : Nat} (ht : t ≤ m) : ∀ a, a < (F.pivs l t).length → 0 ≤ gt (F.pivs l t) a ∧ gt (F.pivs l t) a < t := fun a ha => by
  have := (red_elim hF hg he t).rng a ha
  exact ⟨this.1, this.2.1⟩

set_option maxRecDepth 100000 in
set_option maxHeartbeats 8000000 in
theorem null9_calls (F : Fd) (A : Option Addr) (n c0 : Nat) (xss : List (List Int)) (Ax : Option Addr) (nx cx N : Nat) (w : World) (hF : RefOK F) (hn : F.md.length = n) (hx : Grid nx N xss) (hel : EntR F.q xss) (hnx : nx ≤ 1000) (hN : N ≤ 1000) [hA : Sl w A F.md] [hX : Sls w Ax xss] :
    Calls Try.prog 49 #[.agg #[.int .i64 F.p, .int .i64 F.m, .slice A n c0], .slice Ax nx cx, .int .i64 (N : Int)] w fun e w' => ∃ (B : Option Addr) (k : Nat), e = .returned (.slice B (F.null xss N).length k) ∧ (F.null xss N).length ≤ k ∧ Sls w' B (F.null xss N) ∧ Ext w w' := by
  have hG := hF.good
  have hO := hF.ok
  have hpr := pivs_rng hF hx hel (Nat.le_refl N)
  have hcg := canon_grid F hx N
  have hmk := mk_int N (by omega)
  have hCN := fun w [hA : Sl w A F.md] [hX : Sls w Ax xss] => canon_calls F A n c0 xss Ax nx cx N N w hG hn hx hnx hN (Nat.le_refl _)
  have hpl : (F.pivs xss N).length ≤ 1000 := by have := (elim_grid F hx N).2; rw [Fd.pivs, Fd.elim]; omega
  have hnull : F.null xss N = F.canon (F.nraw (F.canon xss N) (F.pivs xss N) N N) N := rfl
  rw [hnull]
  generalize F.canon xss N = l at *
  generalize F.pivs xss N = pv at *
  have hrg := nraw_grid F l pv N N
  have hrl := nraw_len F l pv N N
  have hC2 := fun (B : Option Addr) (kB : Nat) w [hA : Sl w A F.md] [hX : Sls w B (F.nraw l pv N N)] => canon_calls F A n c0 (F.nraw l pv N N) B _ kB N N w hG hn hrg (by omega) hN (Nat.le_refl _)
  have hcl : (F.canon (F.nraw l pv N N) N).length = (F.pivs (F.nraw l pv N N) N).length := canon_len F hrg N
  rw [hcl]
  have HCN := hidd hCN
  have HC2 := hidd hC2
  have HPR := hidd hpr
  have HCG := hidd hcg
  clear hCN hC2 hnull hpr hcg hrg hrl hcl
  go_enter Try.func49, Try.ntmps49
  go_wp2_with (go_at_call 90; refine (HCN.out _).mono ?_; rintro e w1 ⟨Ar, cr, Ap, cp, rfl, hcr, hcp, hsr, hsp, hx1⟩)
  have hB01 : Bel w w1 := inferInstance
  have hbx1 : Bx w1 w.heap.size #[.int .i64 F.p, .int .i64 F.m, .slice A n c0] 24 := inferInstance
  have hA1 : Sl w1 A F.md := inferInstance
  have hbxl := (lo_bx (h := hbx1)).out
  obtain ⟨lb, hlb⟩ : ∃ lb, lb = w1.heap.size := ⟨_, rfl⟩
  have HB01 := hidd hB01
  have HMK := hidd hmk
  clear hx1 hB01 hmk
  have hb9 : Bel w1 (w1.alloc (.cells (ints (List.replicate N 0)) 3)) := inferInstance
  have ho9 : Own (w1.alloc (.cells (ints (List.replicate N 0)) 3)) w1.heap.size (mixL N (fun _ => -1) (fun _ => 0) 0) := by
    have e9 : mixL N (fun _ => -1) (fun _ => 0) 0 = List.replicate N 0 := by
      rw [mixL_zero]
      exact ext_gt (by rw [mkL_length, List.length_replicate]) fun k hk => by rw [mkL_length] at hk; rw [gt_mkL hk, gt_rep]
    rw [e9]; infer_instance
  go_loopw [10] (fun iv wr => ∃ (k : Nat), iv = .int .i64 k ∧ k ≤ N ∧ Bel w1 wr ∧ Own wr w1.heap.size (mixL N (fun _ => -1) (fun _ => 0) k)) (fun iv _ => N - (intOf iv).toNat)
  case atStart => exact ⟨0, rfl, by omega, hb9, ho9⟩
  case round =>
    clear hb9 ho9
    obtain ⟨k, rfl, hk, hB, ho⟩ := hrel
    by_cases hlt : k < N
    · have hin : In k (mixL N (fun _ => -1) (fun _ => 0) k).length := ⟨by rw [mixL_length]; exact hlt⟩
      have hin2 : k < (mixL N (fun _ => -1) (fun _ => 0) k).length := hin.out
      have hfr : Fr w1 w1.heap.size := ⟨Nat.le_refl _⟩
      go_wp2
      go_roundw
      case rel => exact ⟨k + 1, by go_num, by omega, inferInstance, by rw [← mixL_set N (fun _ => -1) (fun _ => 0) k (-1) hlt rfl]; exact own_set⟩
      case measure => simp [intOf] <;> omega
    · obtain rfl : k = N := by omega
      have e9 : mixL k (fun _ => -1) (fun _ => 0) k = leadN pv k 0 := by
        rw [mixL_full]
        exact ext_gt (by rw [mkL_length, leadN_len]) fun j hj => by rw [mkL_length] at hj; rw [gt_mkL hj]; simp [leadN, loopN, gt, hj]
      rw [e9] at ho
      clear e9 hlt
      obtain ⟨N, rfl⟩ : ∃ N, N = k := ⟨_, rfl⟩
      go_wp2
      go_loopw [11] (fun iv wr => ∃ (k : Nat), iv = .int .i64 k ∧ k ≤ pv.length ∧ Bel w1 wr ∧ Own wr w1.heap.size (leadN pv N k)) (fun iv _ => pv.length - (intOf iv).toNat)
      case atStart => exact ⟨0, rfl, by omega, inferInstance, ho⟩
      case round =>
        clear hB ho
        obtain ⟨k, rfl, hk, hB, ho⟩ := hrel
        by_cases hlt : k < pv.length
        · obtain ⟨adp, rfl, rdp⟩ := hsp.at_ hlt
          have hp1 := HPR.out k hlt
          obtain ⟨pi, hpi⟩ : ∃ pi : Nat, gt pv k = pi := ⟨(gt pv k).toNat, by omega⟩
          have hcp2 : Cel wr (adp.add k) (.int .i64 (pi : Int)) := ⟨by rw [← hpi]; exact below_cell hB.out (rdp.out k hlt)⟩
          have hpN : pi < N := by omega
          have hpN2 : (pi : Int) < N := by omega
          have hin : In pi (leadN pv N k).length := ⟨by rw [leadN_len]; omega⟩
          have hin2 : pi < (leadN pv N k).length := hin.out
          have hfr : Fr w1 w1.heap.size := ⟨Nat.le_refl _⟩
          have HL : Hid (leadN pv N (k + 1) = (leadN pv N k).set pi (k : Int)) := by show _ = _; rw [leadN, loopN_succ, ← leadN, hpi]; rfl
          clear hp1 hpi rdp
          go_wp2
          go_roundw
          case rel => exact ⟨k + 1, by go_num, by omega, inferInstance, by rw [HL.out]; exact own_set⟩
          case measure => simp [intOf] <;> omega
        · obtain rfl : k = pv.length := by omega
          clear hlt
          go_wp2
          go_loopw [12, 13] (fun ov cv wr => ∃ (c : Nat) (v : Value) (cs : List Value), v = ov ∧ cv = .int .i64 c ∧ c ≤ N ∧ Bel w1 wr ∧ Own wr w1.heap.size (leadN pv N pv.length) ∧ FrV w1 v ∧ Row wr v 22 cs ∧ Inn wr cs (F.nraw l pv N c)) (fun _ cv _ => N - (intOf cv).toNat)
          case atStart => exact ⟨0, _, [], rfl, rfl, by omega, inferInstance, ho, inferInstance, row_nil_at _ _, inn_nil⟩
          case round =>
            clear hB ho
            obtain ⟨c, v, cs, rfl, rfl, hc, hB, ho, hfv, hrow, hinn⟩ := hrel
            have hrl := nraw_len F l pv N c
            have hcl : cs.length ≤ 1000 := by rw [hinn.len]; omega
            by_cases hltc : c < N
            · have hin : In c (leadN pv N pv.length).length := ⟨by rw [leadN_len]; exact hltc⟩
              have hin2 : c < (leadN pv N pv.length).length := hin.out
              by_cases hmem : (c : Int) ∈ pv
              · have h0 : 0 ≤ gt (leadN pv N pv.length) c := (leadN_mem HPR.out hltc).2 hmem
                have HR : Hid (F.nraw l pv N (c + 1) = F.nraw l pv N c) := by show _ = _; rw [Fd.nraw, if_pos hmem]
                clear hmem
                go_wp2
                go_roundw
                case rel => exact ⟨c + 1, v, cs, rfl, by go_num, by omega, inferInstance, inferInstance, hfv, inferInstance, by rw [HR.out]; infer_instance⟩
                case measure => simp [intOf] <;> omega
              · have h0 : ¬ 0 ≤ gt (leadN pv N pv.length) c := fun h => hmem ((leadN_mem HPR.out hltc).1 h)
                have HR : Hid (F.nraw l pv N (c + 1) = F.nraw l pv N c ++ [F.nvec l pv N c]) := by show _ = _; rw [Fd.nraw, if_neg hmem]
                have hmk := HMK.out
                have hzc : In c (List.replicate N (0 : Int)).length := ⟨by simpa using hltc⟩
                have hzc2 : c < (List.replicate N (0 : Int)).length := hzc.out
                clear hmem
                go_wp2
                have hox : Own (wr.alloc (.cells (ints ((List.replicate N 0).set c 1)) 3)) wr.heap.size (F.nvN l pv N c 0) := by
                  show Own _ _ ((List.replicate N 0).set c 1)
                  infer_instance
                have hBA : Bel w1 (wr.alloc (.cells (ints ((List.replicate N 0).set c 1)) 3)) := inferInstance
                have hoA : Own (wr.alloc (.cells (ints ((List.replicate N 0).set c 1)) 3)) w1.heap.size (leadN pv N pv.length) := inferInstance
                have hrA : Row (wr.alloc (.cells (ints ((List.replicate N 0).set c 1)) 3)) v 22 cs := inferInstance
                have hiA : Inn (wr.alloc (.cells (ints ((List.replicate N 0).set c 1)) 3)) cs (F.nraw l pv N c) := inferInstance
                have hlbl := (lo_own (h := ho)).out
                have hszw := hB.out.size
                have hxv : some wr.heap.size ≠ v.ownBlock := fun e => by have := hrow.lt e.symm; omega
                obtain ⟨wo, rfl⟩ : ∃ wo, wo = wr := ⟨_, rfl⟩
                have HIN : Hid (InnAp cs (.slice (some ⟨wo.heap.size, 0, none⟩) 0 0)) := fun k g n' c' hk e => by
                  have hl := hinn.lt k (by rw [hinn.len]; rw [← hinn.len]; exact hk) g (by rw [e]; rfl)
                  simp only [Value.ownBlock, ne_eq, Option.some.injEq]
                  omega
                clear hB ho hrow hinn hmk
                go_loopw [15] (fun iv wr => ∃ (i : Nat), iv = .int .i64 i ∧ i ≤ pv.length ∧ Bel w1 wr ∧ Own wr w1.heap.size (leadN pv N pv.length) ∧ Own wr wo.heap.size (F.nvN l pv N c i) ∧ Row wr v 22 cs ∧ Inn wr cs (F.nraw l pv N c)) (fun iv _ => pv.length - (intOf iv).toNat)
                case atStart => exact ⟨0, rfl, by omega, hBA, hoA, hox, hrA, hiA⟩
                case round =>
                  clear hBA hoA hox hrA hiA
                  obtain ⟨i, rfl, hi, hB, ho, hox, hrow, hinn⟩ := hrel
                  by_cases hlti : i < pv.length
                  · obtain ⟨adp, rfl, rdp⟩ := hsp.at_ hlti
                    obtain ⟨adr, Br, crr, rfl, hcr0, hsr0⟩ := hsr.at_ (k := i) (by rw [HCG.out.1]; exact hlti)
                    have hlr := HCG.out.2 i hlti
                    obtain ⟨adx, rfl, rdx⟩ := hsr0.at_ (k := c) (by rw [hlr]; exact hltc)
                    have hp1 := HPR.out i hlti
                    obtain ⟨pi, hpi⟩ : ∃ pi : Nat, gt pv i = pi := ⟨(gt pv i).toNat, by omega⟩
                    have hcp2 : Cel wr (adp.add i) (.int .i64 (pi : Int)) := ⟨by rw [← hpi]; exact below_cell hB.out (rdp.out i hlti)⟩
                    have hcr2 : Cel wr (adr.add i) (.slice (some adx) (gr l i).length crr) := inferInstance
                    have hcx2 : Cel wr (adx.add c) (.int .i64 (gt (gr l i) c)) := ⟨below_cell hB.out (rdx.out c (by rw [hlr]; exact hltc))⟩
                    have hbx2 : Bx wr w.heap.size #[.int .i64 F.p, .int .i64 F.m, .slice A n c0] 24 := inferInstance
                    rw [hlr] at hcr2
                    have hl1 : Lo (adp.add i).block wr.heap.size := ⟨World.block_lt_of_cell? wr _ hcp2.out⟩
                    have hl2 : Lo (adr.add i).block wr.heap.size := ⟨World.block_lt_of_cell? wr _ hcr2.out⟩
                    have hl3 : Lo (adx.add c).block wr.heap.size := ⟨World.block_lt_of_cell? wr _ hcx2.out⟩
                    have hpN : pi < N := by omega
                    have hpN2 : (pi : Int) < N := by omega
                    have hcN2 : (c : Int) < N := by omega
                    have hin3 : In pi (F.nvN l pv N c i).length := ⟨by rw [nvN_len]; omega⟩
                    have hin4 : pi < (F.nvN l pv N c i).length := hin3.out
                    have hX : Near wr.heap.size wr wr := ⟨Below.refl _ _⟩
                    have hfr : Fr w1 wo.heap.size := ⟨hszw⟩
                    have hap1 : Apart w1.heap.size wo.heap.size := ⟨by omega⟩
                    have hapv : ApV wo.heap.size v := ⟨hxv⟩
                    have HV : Hid (F.nvN l pv N c (i + 1) = (F.nvN l pv N c i).set pi (F.neg (gt (gr l i) c))) := by show _ = _; rw [Fd.nvN, loopN_succ, ← Fd.nvN, Fd.nvS, hpi]; rfl
                    have HLR := hidd hlr
                    clear hp1 hpi rdp rdx hlr
                    go_wp2
                    go_upto_region 21 with (fail)
                    refine wp_region_E (S := fun w' => Near wr.heap.size wr w') 15 (by kernel_rfl) inferInstance (fun hHeld => ?_)
                    refine wpAnyE_take (i := 0) (oi := ⟨some 67, _, _, _, _, _⟩) (v := ?_) rfl (by kernel_rfl) (by kernel_rfl) (by kernel_rfl) (by decide) (by kernel_rfl) (fun _ _ _ h => h) (Or.inl ⟨by rfl, ?_⟩) hHeld ?_
                    rotate_left
                    · (intro w1 hS1; first | (go_simp; done) | (go_simp; with_reducible rfl))
                    try simp only [Act.put, List.setIfInBounds_toArray, List.set_cons_zero, List.set_cons_succ]
                    refine wpAnyE_take (i := 1) (oi := ⟨some 68, _, _, _, _, _⟩) (v := ?_) rfl (by kernel_rfl) (by kernel_rfl) (by kernel_rfl) (by decide) (by kernel_rfl) (fun _ _ _ h => h) (Or.inl ⟨by rfl, ?_⟩) hHeld ?_
                    rotate_left
                    · (intro w1 hS1; first | (go_simp; done) | (go_simp; with_reducible rfl))
                    try simp only [Act.put, List.setIfInBounds_toArray, List.set_cons_zero, List.set_cons_succ]
                    refine wpAnyE_take (i := 2) (oi := ⟨some 69, _, _, _, _, _⟩) (v := ?_) rfl (by kernel_rfl) (by kernel_rfl) (by kernel_rfl) (by decide) (by kernel_rfl) (fun _ _ _ h => h) (Or.inl ⟨by rfl, ?_⟩) hHeld ?_
                    rotate_left
                    · (intro w1 hS1; first | (go_simp; done) | (go_simp; with_reducible rfl))
                    try simp only [Act.put, List.setIfInBounds_toArray, List.set_cons_zero, List.set_cons_succ]
                    refine wpAnyE_take (i := 3) (oi := ⟨some 70, _, _, _, _, _⟩) (v := ?_) rfl (by kernel_rfl) (by kernel_rfl) (by kernel_rfl) (by decide) (by kernel_rfl) (fun _ _ _ h => h) (Or.inl ⟨by rfl, ?_⟩) hHeld ?_
                    rotate_left
                    · (intro w1 hS1; first | (go_simp; done) | (go_simp; with_reducible rfl))
                    try simp only [Act.put, List.setIfInBounds_toArray, List.set_cons_zero, List.set_cons_succ]
                    refine wpAnyE_take (i := 4) (oi := ⟨some 71, _, _, _, _, _⟩) (v := ?_) rfl (by kernel_rfl) (by kernel_rfl) (by kernel_rfl) (by decide) (by kernel_rfl) (fun _ _ _ h => h) (Or.inl ⟨by rfl, ?_⟩) hHeld ?_
                    rotate_left
                    · (intro w1 hS1; first | (go_simp; done) | (go_simp; with_reducible rfl))
                    try simp only [Act.put, List.setIfInBounds_toArray, List.set_cons_zero, List.set_cons_succ]
                    refine wpAnyE_take (i := 5) (oi := ⟨some 72, _, _, _, _, _⟩) (v := ?_) rfl (by kernel_rfl) (by kernel_rfl) (by kernel_rfl) (by decide) (by kernel_rfl) (fun _ _ _ h => h) (Or.inl ⟨by rfl, ?_⟩) hHeld ?_
                    rotate_left
                    · (intro w1 hS1; first | (go_simp; done) | (go_simp; with_reducible rfl))
                    try simp only [Act.put, List.setIfInBounds_toArray, List.set_cons_zero, List.set_cons_succ]
                    refine wpAnyE_take (i := 6) (oi := ⟨some 73, _, _, _, _, _⟩) (v := ?_) rfl (by kernel_rfl) (by kernel_rfl) (by kernel_rfl) (by decide) (by kernel_rfl) (fun _ _ _ h => h) (Or.inl ⟨by rfl, ?_⟩) hHeld ?_
                    rotate_left
                    · (intro w1 hS1; first | (go_simp; done) | (go_simp; with_reducible rfl))
                    try simp only [Act.put, List.setIfInBounds_toArray, List.set_cons_zero, List.set_cons_succ]
                    refine wpAnyE_take (i := 7) (oi := ⟨some 74, _, _, _, _, _⟩) (v := ?_) rfl (by kernel_rfl) (by kernel_rfl) (by kernel_rfl) (by decide) (by kernel_rfl) (fun _ _ _ h => h) (Or.inl ⟨by rfl, ?_⟩) hHeld ?_
                    rotate_left
                    · (intro w1 hS1; first | (go_simp; done) | (go_simp; with_reducible rfl))
                    try simp only [Act.put, List.setIfInBounds_toArray, List.set_cons_zero, List.set_cons_succ]
                    refine wpAnyE_take (i := 8) (oi := ⟨some 75, _, _, _, _, _⟩) (v := ?_) rfl (by kernel_rfl) (by kernel_rfl) (by kernel_rfl) (by decide) (by kernel_rfl) (fun _ _ _ h => h) (Or.inl ⟨by rfl, ?_⟩) hHeld ?_
                    rotate_left
                    · (intro w1 hS1; first | (go_simp; done) | (go_simp; with_reducible rfl))
                    try simp only [Act.put, List.setIfInBounds_toArray, List.set_cons_zero, List.set_cons_succ]
                    refine wpAnyE_take (i := 9) (oi := ⟨some 76, _, _, _, _, _⟩) (v := ?_) rfl (by kernel_rfl) (by kernel_rfl) (by kernel_rfl) (by decide) (by kernel_rfl) (fun _ _ _ h => h) (Or.inl ⟨by rfl, ?_⟩) hHeld ?_
                    rotate_left
                    · (intro w1 hS1; first | (go_simp; done) | (go_simp; with_reducible rfl))
                    try simp only [Act.put, List.setIfInBounds_toArray, List.set_cons_zero, List.set_cons_succ]
                    refine wpAnyE_take (i := 10) (oi := ⟨some 77, _, _, _, _, _⟩) (v := ?_) rfl (by kernel_rfl) (by kernel_rfl) (by kernel_rfl) (by decide) (by kernel_rfl) (fun _ _ _ h => h) (Or.inl ⟨by rfl, ?_⟩) hHeld ?_
                    rotate_left
                    · (intro w1 hS1; first | (go_simp; done) | (go_simp; with_reducible rfl))
                    try simp only [Act.put, List.setIfInBounds_toArray, List.set_cons_zero, List.set_cons_succ]
                    refine wpAnyE_take (i := 11) (oi := ⟨some 78, _, _, _, _, _⟩) (v := ?_) rfl (by kernel_rfl) (by kernel_rfl) (by kernel_rfl) (by decide) (by kernel_rfl) (fun _ _ _ h => h) (Or.inl ⟨by rfl, ?_⟩) hHeld ?_
                    rotate_left
                    · (intro w1 hS1; first | (go_simp; done) | (go_simp; with_reducible rfl))
                    try simp only [Act.put, List.setIfInBounds_toArray, List.set_cons_zero, List.set_cons_succ]
                    refine wpAnyE_take (i := 12) (oi := ⟨some 79, _, _, _, _, _⟩) (v := ?_) rfl (by kernel_rfl) (by kernel_rfl) (by kernel_rfl) (by decide) (by kernel_rfl) (fun _ _ _ h => h) (Or.inl ⟨by rfl, ?_⟩) hHeld ?_
                    rotate_left
                    · (intro w1 hS1; first | (go_simp; done) | (go_simp; with_reducible rfl))
                    try simp only [Act.put, List.setIfInBounds_toArray, List.set_cons_zero, List.set_cons_succ]
                    refine wpAnyE_one (i := 13) (o := ⟨some 80, _, _, _, _, _⟩) (by kernel_rfl) rfl (fun K hK => ?_)
                    go_simp
                    (go_at_call 91; refine (neg_calls F _ (gt (gr l i) c) _ hG).mono ?_; rintro e w4 ⟨rfl, hx4⟩)
                    clear hHeld
                    refine hK.out _ _ inferInstance (fun hHeld => ?_)
                    clear hK K
                    try simp only [Act.put, List.setIfInBounds_toArray, List.set_cons_zero, List.set_cons_succ]
                    refine wpAnyE_take (i := 14) (oi := ⟨some 81, _, _, _, _, _⟩) (v := ?_) rfl (by kernel_rfl) (by kernel_rfl) (by kernel_rfl) (by decide) (by kernel_rfl) (fun _ _ _ h => h) (Or.inl ⟨by rfl, ?_⟩) hHeld ?_
                    rotate_left
                    · (intro w1 hS1; first | (go_simp; done) | (go_simp; with_reducible rfl))
                    try simp only [Act.put, List.setIfInBounds_toArray, List.set_cons_zero, List.set_cons_succ]
                    refine wpAnyE_last (o := ⟨none, _, _, _, _, _⟩) (by kernel_rfl) rfl (fun K hK => ?_)
                    go_simp
                    refine hK.out _ _ ?_
                    clear hK K
                    try simp only [Act.put, List.setIfInBounds_toArray, List.set_cons_zero, List.set_cons_succ]
                    refine wpAnyE_done (by kernel_rfl) ?_ _

                    go_wp2
                    have hx5 : Bel wr w4 := ⟨undrew hx4.out⟩
                    have hi4 : Inn w4 cs (F.nraw l pv N c) := by
                      have := hinn
                      clear hB hX
                      infer_instance
                    have hi5 : Inn (w4.setCell ⟨wo.heap.size, pi, none⟩ (.int .i64 (F.neg (gt (gr l i) c)))) cs (F.nraw l pv N c) := hi4.by ⟨rfl, rfl, rfl, by simp [World.setCell], fun b _ hn => Below.heap_setCell w4 ⟨wo.heap.size, pi, none⟩ _ b (fun e => hn (congrArg some e))⟩ HIN.out
                    clear hx5 hi4
                    go_roundw
                    case rel => exact ⟨i + 1, by go_num, by omega, inferInstance, inferInstance, by rw [HV.out]; exact own_set, inferInstance, hi5⟩
                    case measure => simp [intOf] <;> omega
                  · obtain rfl : i = pv.length := by omega
                    have hnv : F.nvN l pv N c pv.length = F.nvec l pv N c := rfl
                    rw [hnv] at hox
                    have hapl : ApV w1.heap.size v := ⟨row_own_ne ho hrow (by decide)⟩
                    have hii := hinn.snoc (c := N) (nvec_len F l pv N c).symm hox
                    go_wp2_with (at_builtin; refine app_slice rfl (.tmp 82) (.tmp 84) rfl v cs _ _ _ wr.heap.size rfl rfl (by omega) ?_; intro v2 w5 hr5 hc5 hv5)
                    have hi6 : Inn w5 (cs ++ [.slice (some ⟨wo.heap.size, 0, none⟩) N N]) (F.nraw l pv N c ++ [F.nvec l pv N c]) := by
                      have hi4 : Inn (wr.alloc (.cells #[.slice (some ⟨wo.heap.size, 0, none⟩) N N] 22)) (cs ++ [.slice (some ⟨wo.heap.size, 0, none⟩) N N]) (F.nraw l pv N c ++ [F.nvec l pv N c]) := inferInstance
                      have hr4 : Row (wr.alloc (.cells #[.slice (some ⟨wo.heap.size, 0, none⟩) N N] 22)) v 22 cs := inferInstance
                      exact hi4.grown hr4 (by decide) hc5
                    have hf2 : FrV w1 v2 := FrV.app hv5
                    have hB2 : Bel w1 w5 := inferInstance
                    have ho5 : Own w5 w1.heap.size (leadN pv N pv.length) := inferInstance
                    go_roundw
                    case rel => exact ⟨c + 1, v2, _, rfl, by go_num, by omega, hB2, ho5, hf2, hr5, by rw [HR.out]; exact hi6⟩
                    case measure => simp [intOf] <;> omega
            · obtain rfl : c = N := by omega
              obtain ⟨B, kB, rfl, _, hsB⟩ := hrow.readss hinn
              have hAr : Sl wr A F.md := inferInstance
              have hbx2 : Bx wr w.heap.size #[.int .i64 F.p, .int .i64 F.m, .slice A n c0] 24 := inferInstance
              have hBw : Bel w wr := HB01.out.then_ hB
              go_wp2_with (go_at_call 90; refine (HC2.out _ _ _).mono ?_; rintro e w6 ⟨Ar2, cr2, Ap2, cp2, rfl, hcr2, hcp2, hsr2, hsp2, hx6⟩)
              go_ret
              exact ⟨Ar2, cr2, rfl, hcr2, hsr2, (hBw.then_ ⟨hx6.out⟩).ext⟩

end Go.Proofs.Ytcigdhmecfhndaa

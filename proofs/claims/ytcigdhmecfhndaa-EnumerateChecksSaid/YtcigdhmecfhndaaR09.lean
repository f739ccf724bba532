/- The walks of codewrightref09: Entries, Check, Copy, scale, AddTo. The walks of codewrightref09: Copy, Eliminate. -/
import Derived.Test.YtcigdhmecfhndaaR04
import Derived.Test.YtcigdhmecfhndaaGc
import Derived.Test.YtcigdhmecfhndaaLib4
import Derived.Test.YtcigdhmecfhndaaBase
import Derived.Test.YtcigdhmecfhndaaLib5
namespace Go.Proofs.Ytcigdhmecfhndaa
open Go.RowKit
attribute [local go_sem] cell_bx froz_bx cell_own froz_own cell_rd cell_cel ints_get ints_set cell_ownv froz_ownv
set_option linter.unusedVariables false
set_option linter.unusedSimpArgs false

set_option maxRecDepth 100000 in
set_option maxHeartbeats 2000000 in
theorem entries_calls (F : Fd) (mv : Value) (v : List Int) (A : Option Addr) (n c : Nat) (w : World) (hn : v.length = n) (hn2 : n ≤ 1000000000000000000) [hA : Sl w A v] :
    Calls Try.prog 116 #[.agg #[.int .i64 F.p, .int .i64 F.m, mv], .slice A n c] w fun e w' => e = .returned (.int .i64 (entE F.q v)) ∧ Ext w w' := by
  subst hn
  go_enter Try.func116, Try.ntmps116
  go_wp2
  go_loopw [5] (fun iv wr => ∃ (k : Nat), iv = .int .i64 k ∧ k ≤ v.length ∧ Bel w wr ∧ Bx wr w.heap.size #[.int .i64 F.p, .int .i64 F.m, mv] 24 ∧ Hid (∀ j, j < k → 0 ≤ gt v j ∧ gt v j < F.q)) (fun iv _ => v.length - (intOf iv).toNat)
  case atStart => exact ⟨0, rfl, by omega, inferInstance, inferInstance, fun j hj => by omega⟩
  case round =>
    obtain ⟨k, rfl, hk, hB, hbx, HI⟩ := hrel
    by_cases hlt : k < v.length
    · obtain ⟨ad, rfl, rd⟩ := hA.at_ hlt
      have hN : Near wr.heap.size wr wr := ⟨Below.refl _ _⟩
      by_cases hin : 0 ≤ gt v k ∧ gt v k < F.q
      · have hd : decide (0 ≤ gt v k ∧ gt v k < F.q) = true := decide_eq_true hin
        have HH := hidd hin
        clear hin
        go_wp2
        go_region_held3 (fun w' => Near wr.heap.size wr w') (infer_instance)
          ((go_at_call 140; refine (is_calls F mv (gt v k) _).mono ?_; rintro e w3 ⟨rfl, hx3⟩; rw [hd]))
        go_wp2
        go_roundw
        case rel => exact ⟨k + 1, by go_num, by omega, inferInstance, inferInstance, fun j hj => by
          by_cases e : j = k
          · rw [e]; exact HH.out
          · exact HI.out j (by omega)⟩
        case measure => simp [intOf] <;> omega
      · have hd : decide (0 ≤ gt v k ∧ gt v k < F.q) = false := decide_eq_false hin
        have HH := hidd hin
        clear hin
        go_wp2
        go_region_held3 (fun w' => Near wr.heap.size wr w') (infer_instance)
          ((go_at_call 140; refine (is_calls F mv (gt v k) _).mono ?_; rintro e w3 ⟨rfl, hx3⟩; rw [hd]))
        go_wp2
        go_ret
        exact ⟨ret_int (entE_no fun h => HH.out (h k hlt)).symm, Bel.ext inferInstance⟩
    · obtain rfl : k = v.length := by omega
      go_wp2
      go_ret
      exact ⟨ret_int (entE_yes HI.out).symm, Bel.ext inferInstance⟩


set_option maxRecDepth 100000 in
set_option maxHeartbeats 2000000 in
theorem scale_calls (F : Fd) (A : Option Addr) (n c : Nat) (x : Int) (a : List Int) (Aa : Option Addr) (na ca : Nat) (w : World) (hG : F.Good) (hn : F.md.length = n) (hna : a.length = na) (hnm : na ≤ 1000000) [hA : Sl w A F.md] [ha : Sl w Aa a] :
    Calls Try.prog 153 #[.agg #[.int .i64 F.p, .int .i64 F.m, .slice A n c], .int .i64 x, .slice Aa na ca] w fun e w' => ∃ g, e = .returned (.slice (some ⟨g, 0, none⟩) na na) ∧ Fr w g ∧ Own w' g (mkL na (F.scaleF x a)) ∧ Ext w w' := by
  subst hna
  have hmk := mk_int a.length (by omega)
  go_enter Try.func153, Try.ntmps153
  go_wp2
  clear hmk
  go_loopw [8] (fun iv wr => ∃ (k : Nat), iv = .int .i64 k ∧ k ≤ a.length ∧ Bel w wr ∧ Bx wr w.heap.size #[.int .i64 F.p, .int .i64 F.m, .slice A n c] 24 ∧ Own wr (w.heap.size + 1) (part a.length (F.scaleF x a) k)) (fun iv _ => a.length - (intOf iv).toNat)
  case atStart => exact ⟨0, rfl, by omega, inferInstance, inferInstance, by rw [← part_zero]; infer_instance⟩
  case round =>
    obtain ⟨k, rfl, hk, hB, hbx, ho⟩ := hrel
    by_cases hlt : k < a.length
    · obtain ⟨ad, rfl, rd⟩ := ha.at_ hlt
      have hin : In k (part a.length (F.scaleF x a) k).length := ⟨by rw [part_length]; exact hlt⟩
      have hin2 : k < (part a.length (F.scaleF x a) k).length := hin.out
      have hN : Near (w.heap.size + 1) wr wr := ⟨Below.refl _ _⟩
      have hL : Lo (w.heap.size + 1) (wr.heap.size + 1) := ⟨by have := (inferInstance : Lo w.heap.size wr.heap.size).out; omega⟩
      have hfr1 : Fr w (w.heap.size + 1) := inferInstance
      go_wp2
      go_region_held3 (fun w' => Near (w.heap.size + 1) wr w') (infer_instance)
        ((go_at_call 141; refine (mul_calls F A n c x (gt a k) _ hG hn).mono ?_; rintro e w3 ⟨rfl, hx3⟩))
      go_wp2
      go_roundw
      case rel => exact ⟨k + 1, by go_num, by omega, inferInstance, inferInstance, by
        rw [← part_set a.length (F.scaleF x a) k (F.mul x (gt a k)) hlt rfl]; exact own_set⟩
      case measure => simp [intOf] <;> omega
    · obtain rfl : k = a.length := by omega
      go_wp2
      go_ret
      rw [part_full] at ho
      exact ⟨w.heap.size + 1, rfl, inferInstance, inferInstance, Bel.ext inferInstance⟩

set_option maxRecDepth 100000 in
set_option maxHeartbeats 4000000 in
theorem addTo_calls (F : Fd) (A : Option Addr) (n c : Nat) (v u : List Int) (x : Int) (Av Au : Option Addr) (nv cv nu cu : Nat) (w : World) (hG : F.Good) (hn : F.md.length = n) (hnv : v.length = nv) (hnu : u.length = nu) (hle : nv ≤ nu) (hnm : nv ≤ 1000000) [hA : Sl w A F.md] [hv : Sl w Av v] [hu : Sl w Au u] :
    Calls Try.prog 117 #[.agg #[.int .i64 F.p, .int .i64 F.m, .slice A n c], .slice Av nv cv, .int .i64 x, .slice Au nu cu] w fun e w' => ∃ g, e = .returned (.slice (some ⟨g, 0, none⟩) nv nv) ∧ Fr w g ∧ Own w' g (mkL nv (F.addToF v x u)) ∧ Ext w w' := by
  subst hnv hnu
  have hmk := mk_int v.length (by omega)
  go_enter Try.func117, Try.ntmps117
  go_wp2
  clear hmk
  go_loopw [10] (fun iv wr => ∃ (k : Nat), iv = .int .i64 k ∧ k ≤ v.length ∧ Bel w wr ∧ Bx wr w.heap.size #[.int .i64 F.p, .int .i64 F.m, .slice A n c] 24 ∧ Own wr (w.heap.size + 1) (part v.length (F.addToF v x u) k)) (fun iv _ => v.length - (intOf iv).toNat)
  case atStart => exact ⟨0, rfl, by omega, inferInstance, inferInstance, by rw [← part_zero]; infer_instance⟩
  case round =>
    obtain ⟨k, rfl, hk, hB, hbx, ho⟩ := hrel
    by_cases hlt : k < v.length
    · obtain ⟨adv, rfl, rdv⟩ := hv.at_ hlt
      have hlt2 : k < u.length := by omega
      obtain ⟨adu, rfl, rdu⟩ := hu.at_ hlt2
      have hin : In k (part v.length (F.addToF v x u) k).length := ⟨by rw [part_length]; exact hlt⟩
      have hin2 : k < (part v.length (F.addToF v x u) k).length := hin.out
      by_cases h0 : gt u k = 0
      · have h0b : (gt u k == 0) = true := beq_iff_eq.2 h0
        have hF : F.addToF v x u k = gt v k := if_pos h0
        have HF := hidd hF
        clear h0 hF
        go_wp2
        go_roundw
        case rel => exact ⟨k + 1, by go_num, by omega, inferInstance, inferInstance, by
          rw [← part_set v.length (F.addToF v x u) k (gt v k) hlt HF.out.symm]; exact own_set⟩
        case measure => simp [intOf] <;> omega
      · have h0b : (gt u k == 0) = false := beq_eq_false_iff_ne.2 h0
        have hF : F.addToF v x u k = F.add (gt v k) (F.mul x (gt u k)) := if_neg h0
        have HF := hidd hF
        clear h0 hF
        have hfr1 : Fr w (w.heap.size + 1) := inferInstance
        have hfr2 : Fr w w.heap.size := inferInstance
        go_wp2
        obtain ⟨w1, hw1⟩ : ∃ w1, w1 = wr.setCell ⟨w.heap.size + 1, k, none⟩ (.int .i64 (gt v k)) := ⟨_, rfl⟩
        have hB1 : Bel w w1 := by rw [hw1]; infer_instance
        have hbx1 : Bx w1 w.heap.size #[.int .i64 F.p, .int .i64 F.m, .slice A n c] 24 := by rw [hw1]; infer_instance
        have ho1 : Own w1 (w.heap.size + 1) ((part v.length (F.addToF v x u) k).set k (gt v k)) := by rw [hw1]; infer_instance
        rw [← hw1]
        clear hw1 ho hbx hB
        have hN : Near (w.heap.size + 1) w1 w1 := ⟨Below.refl _ _⟩
        have hL : Lo (w.heap.size + 1) (w1.heap.size + 1) := ⟨by have := (inferInstance : Lo w.heap.size w1.heap.size).out; omega⟩
        go_region_held3 (fun w' => Near (w.heap.size + 1) w1 w') (infer_instance)
          ((first
            | (go_at_call 141; refine (mul_calls F A n c x (gt u k) _ hG hn).mono ?_; rintro e w3 ⟨rfl, hx3⟩)
            | (go_at_call 89; refine (add_calls F _ (gt v k) (F.mul x (gt u k)) _ hG).mono ?_; rintro e w4 ⟨rfl, hx4⟩)))
        go_wp2
        go_roundw
        case rel => exact ⟨k + 1, by go_num, by omega, inferInstance, inferInstance, by
          rw [← part_set v.length (F.addToF v x u) k (F.add (gt v k) (F.mul x (gt u k))) hlt HF.out.symm, ← List.set_set]; exact own_set⟩
        case measure => simp [intOf] <;> omega
    · obtain rfl : k = v.length := by omega
      go_wp2
      go_ret
      rw [part_full] at ho
      exact ⟨w.heap.size + 1, rfl, inferInstance, inferInstance, Bel.ext inferInstance⟩

end Go.Proofs.Ytcigdhmecfhndaa

namespace Go.Proofs.Ytcigdhmecfhndaa
open Go.RowKit
attribute [local go_sem] cell_bx froz_bx cell_own froz_own cell_rd cell_cel ints_get ints_set cell_ownv froz_ownv
set_option linter.unusedVariables false
set_option linter.unusedSimpArgs false

theorem take_snoc (xss : List (List Int)) {k : Nat} (h : k < xss.length) : xss.take (k + 1) = xss.take k ++ [gr xss k] := by
  rw [gr_eq h, List.take_append_getElem h]

set_option maxRecDepth 100000 in
set_option maxHeartbeats 2000000 in
theorem copy9_calls (xss : List (List Int)) (A : Option Addr) (n c : Nat) (w : World) (hn : xss.length = n) (hn2 : n ≤ 1000000) (hr : ∀ k, (gr xss k).length ≤ 1000000) [hA : Sls w A xss] :
    Calls Try.prog 152 #[.slice A n c] w fun e w' => ∃ v cs, e = .returned v ∧ Row w' v 22 cs ∧ Inn w' cs xss ∧ FrV w v ∧ Ext w w' := by
  subst hn
  have HR := hidd hr
  clear hr
  go_enter Try.func152, Try.ntmps152
  go_wp2
  go_loopw [3, 4] (fun ov iv wr => ∃ (k : Nat) (v : Value) (cs : List Value), v = ov ∧ iv = .int .i64 k ∧ k ≤ xss.length ∧ Bel w wr ∧ FrV w v ∧ Row wr v 22 cs ∧ Inn wr cs (xss.take k)) (fun _ iv _ => xss.length - (intOf iv).toNat)
  case atStart => exact ⟨0, _, [], rfl, rfl, by omega, inferInstance, inferInstance, row_nil_at _ _, inn_nil⟩
  case round =>
    obtain ⟨k, v, cs, rfl, rfl, hk, hB, hfv, hrow, hinn⟩ := hrel
    by_cases hlt : k < xss.length
    · obtain ⟨ad, B, cB, rfl, hcel, hsl⟩ := hA.at_ hlt
      have hcel1 : Cel wr (ad.add k) (.slice B (gr xss k).length cB) := inferInstance
      have hsl1 : Sl wr B (gr xss k) := inferInstance
      have hlen := HR.out k
      have hcl : cs.length ≤ 1000000 := by rw [hinn.len]; simp; omega
      have HB := hidd hB
      have HF := hidd hfv
      clear hB hfv hA hcel hsl
      go_wp2_with (first
        | (at_builtin; refine app_ints rfl (.tmp 12) (.tmp 16) rfl (.slice (some ⟨wr.heap.size, 0, none⟩) 0 0) [] (gr xss k) B _ cB rfl rfl rfl (by simp; omega) ?_; intro v1 w1 hr1 hc1 hv1; simp only [List.nil_append] at hr1; obtain ⟨b, hb⟩ : ∃ b, v1.ownBlock = some b := (by rcases hv1 with h | h <;> exact ⟨_, h⟩); have hfb : Fr wr b := ⟨by rw [hb] at hv1; simp [Value.ownBlock] at hv1; omega⟩; obtain ⟨c1, rfl, hcc, ho1⟩ := hr1.own2 hb; clear hb hv1 hcc hr1)
        | (at_builtin; refine app_slice rfl (.tmp 11) (.tmp 18) rfl v cs _ _ _ w1.heap.size rfl rfl (by omega) ?_; intro v2 w2 hr2 hc2 hv2))
      have hb1 : Bel wr w1 := inferInstance
      have hi1 : Inn w1 cs (xss.take k) := inferInstance
      have hr1 : Row w1 v 22 cs := inferInstance
      have hi2 := (hi1.snoc (c := c1) rfl ho1)
      rw [← take_snoc xss hlt] at hi2
      have hi3 : Inn w2 (cs ++ [.slice (some ⟨b, 0, none⟩) (gr xss k).length c1]) (xss.take (k + 1)) := by
        have hi4 : Inn (w1.alloc (.cells #[.slice (some ⟨b, 0, none⟩) (gr xss k).length c1] 22)) (cs ++ [.slice (some ⟨b, 0, none⟩) (gr xss k).length c1]) (xss.take (k + 1)) := inferInstance
        have hr4 : Row (w1.alloc (.cells #[.slice (some ⟨b, 0, none⟩) (gr xss k).length c1] 22)) v 22 cs := inferInstance
        exact hi4.grown hr4 (by decide) hc2
      have hB := HB.out
      have hB1 : Bel w w1 := hB.then_ hb1
      clear hb1 hB
      have hF := HF.out
      have hf2 : FrV w v2 := FrV.app hv2
      have hB2 : Bel w w2 := inferInstance
      go_roundw
      case rel => exact ⟨k + 1, v2, _, rfl, by go_num, by omega, hB2, hf2, hr2, hi3⟩
      case measure => simp [intOf] <;> omega
    · obtain rfl : k = xss.length := by omega
      go_wp2
      go_ret
      rw [List.take_length] at hinn
      exact ⟨v, cs, rfl, hrow, hinn, hfv, hB.ext⟩

end Go.Proofs.Ytcigdhmecfhndaa

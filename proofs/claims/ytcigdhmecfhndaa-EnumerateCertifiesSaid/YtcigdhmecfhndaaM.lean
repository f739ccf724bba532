/- The walks of slices.Clone, matrix.clone, matrix.open, matrix.add. The walk of matrix.open. The closures of matrix.eliminate. Elimination keeps elements elements: plain functions. The walk of matrix.eliminate. The walks of matrix.canon, matrix.Canonical, slices.Equal, slices.EqualFunc. The walks of space.open, space.Check, code.gen, code.length, code.Check, code.Size. -/
import Derived.Test.YtcigdhmecfhndaaLib6
import Derived.LoopN
import Derived.BigRegion
import Derived.Test.YtcigdhmecfhndaaField
import Derived.Test.YtcigdhmecfhndaaMa
namespace Go.Proofs.Ytcigdhmecfhndaa
open Go.RowKit
attribute [local go_sem] cell_bx froz_bx cell_own froz_own cell_rd cell_cel ints_get ints_set cell_ownv froz_ownv eql_nil_int
set_option linter.unusedVariables false
set_option linter.unusedSimpArgs false

set_option maxRecDepth 100000 in
set_option maxHeartbeats 2000000 in
theorem clone_calls (a : List Int) (Aa : Option Addr) (na ca : Nat) (w : World) (hna : a.length = na) (hnm : na ≤ 1000000) [hA : Sl w Aa a] :
    Calls Try.prog 105 #[.slice Aa na ca] w fun e w' => ∃ v, e = .returned v ∧ Row w' v 3 (nums a) ∧ FrV w v ∧ Ext w w' ∧ (0 < na → ∃ g, v.ownBlock = some g) := by
  cases Aa with
  | none =>
    obtain rfl : a = [] := by
      cases a with
      | nil => rfl
      | cons x a => obtain ⟨_, h⟩ := hA.nn (by simp); cases h
    subst hna
    go_enter Try.func105, Try.ntmps105
    go_wp2
    go_ret
    exact ⟨.slice none 0 0, rfl, inferInstance, inferInstance, Bel.ext inferInstance, fun h => absurd h (by simp)⟩
  | some ad =>
    go_enter Try.func105, Try.ntmps105
    go_wp2_with (at_builtin; refine app_ints rfl (.tmp 5) (.tmp 6) rfl (.slice (some ⟨w.heap.size, 0, none⟩) 0 0) [] a (some ad) _ ca rfl rfl hna (by simp; omega) ?_; intro v1 w1 hr1 hc1 hv1; simp only [List.nil_append] at hr1; obtain ⟨b, hb⟩ : ∃ b, v1.ownBlock = some b := (by rcases hv1 with h | h <;> exact ⟨_, h⟩))
    go_ret
    have hf : FrV w v1 := FrV.app hv1
    exact ⟨v1, rfl, hr1, hf, Bel.ext inferInstance, fun _ => ⟨b, hb⟩⟩
theorem clone_own (a : List Int) (Aa : Option Addr) (na ca : Nat) (w : World) (hna : a.length = na) (hnm : na ≤ 1000000) (h0 : 0 < na) [hA : Sl w Aa a] :
    Calls Try.prog 105 #[.slice Aa na ca] w fun e w' => ∃ g c, e = .returned (.slice (some ⟨g, 0, none⟩) na c) ∧ na ≤ c ∧ Own w' g a ∧ Fr w g ∧ Ext w w' := by
  refine (clone_calls a Aa na ca w hna hnm).mono ?_
  rintro e w' ⟨v, rfl, hr, hf, hx, hg⟩
  obtain ⟨g, hg⟩ := hg h0
  obtain ⟨c, rfl, hc, ho⟩ := hr.own2 hg
  rw [hna] at hc ⊢
  exact ⟨g, c, rfl, hc, ho, hf.fr, hx⟩

theorem mk_ints (n : Nat) (hn : n ≤ 35184372088) (w : World) : (Instr.makeSlice 25 (.int .i64 (n : Int)) (.int .i64 (n : Int))).run Try.prog w = .ok (.slice (some ⟨w.heap.size, 0, none⟩) n n) (w.alloc (.cells (Array.replicate n (.slice none 0 0)) 22)) := by
  obtain ⟨i0, hi, hz0, hz1, hz2⟩ := info_parts info_ints
  have := run_make (P := Try.prog) w 25 22 i0 (.slice none 0 0) Try.underlying25 hi hz0 .i64 .i64 n n (by omega) (Int.le_refl _) (by rw [hz2]; omega) (by omega)
  rw [this, hz1]
  have h2 : madeCells (Value.slice none 0 0).cells (Int.toNat n * 1) = Array.replicate n (.slice none 0 0) := by
    apply Array.ext'
    rw [show (Value.slice none 0 0).cells = #[.slice none 0 0] from rfl, toList_madeCells_one]; simp
  rw [h2]; simp
instance ownv_rep {w : World} {k n : Nat} {t : TypeId} {v : Value} [h : SizeIs w k] : OwnV (w.alloc (.cells (Array.replicate n v) t (0, 0))) k t (List.replicate n v) := ⟨⟨#[], by rw [← h.out, blk_new]; simp⟩⟩
instance ownv_new {w : World} {n : Nat} {t : TypeId} {cs : List Value} [h : SizeIs w n] : OwnV (w.alloc (.cells cs.toArray t (0, 0))) n t cs := ⟨⟨#[], by rw [← h.out, blk_new]; simp⟩⟩
/-- the first k rows, the others empty -/
def firstV (cs : List Value) (k n : Nat) : List Value := cs ++ List.replicate (n - k) (.slice none 0 0)

set_option maxRecDepth 100000 in
set_option maxHeartbeats 4000000 in
theorem mclone_calls (xss : List (List Int)) (A : Option Addr) (n c m : Nat) (w : World) (hx : Grid n m xss) (hn2 : n ≤ 1000000) (hm0 : 0 < m) (hm : m ≤ 1000000) [hA : Sls w A xss] :
    Calls Try.prog 166 #[.slice A n c] w fun e w' => ∃ g cs, e = .returned (.slice (some ⟨g, 0, none⟩) n n) ∧ OwnV w' g 22 cs ∧ Inn w' cs xss ∧ Dis cs ∧ CsGe w.heap.size cs ∧ Fr w g ∧ Ext w w' := by
  obtain ⟨hxl, hxm⟩ := hx
  subst hxl
  have HXM := hidd hxm
  clear hxm
  have hmk := mk_ints xss.length (by omega)
  go_enter Try.func166, Try.ntmps166
  go_wp2
  clear hmk
  go_loopw [11] (fun iv wr => ∃ (k : Nat) (cs : List Value) (ds : List Value), iv = .int .i64 k ∧ k ≤ xss.length ∧ Bel w wr ∧ OwnV wr w.heap.size 22 ds ∧ Hid (ds = firstV cs k xss.length ∧ cs.length = k) ∧ Inn wr cs (xss.take k) ∧ Hid (Dis cs) ∧ Hid (CsGe (w.heap.size + 1) cs)) (fun iv _ => xss.length - (intOf iv).toNat)
  case atStart => exact ⟨0, [], _, rfl, by omega, inferInstance, inferInstance, ⟨by rw [firstV]; rfl, rfl⟩, inn_nil, fun i j hi => absurd hi (by simp), fun i hi => absurd hi (by simp)⟩
  case round =>
    obtain ⟨k, cs, ds, rfl, hk, hB, hown, HD, hinn, HDis, HGe⟩ := hrel
    by_cases hlt : k < xss.length
    · obtain ⟨ad, B, cB, rfl, hcel, hsl⟩ := hA.at_ hlt
      have hcelw : Cel wr (ad.add k) (.slice B (gr xss k).length cB) := ⟨below_cell hB.out hcel.out⟩
      have hslw : Sl wr B (gr xss k) := hsl.move hB.out
      have hlen := HXM.out k hlt
      have hl1 : (gr xss k).length ≤ 1000000 := by omega
      have hl0 : 0 < (gr xss k).length := by omega
      clear hlen
      have hdl : ds.length = xss.length := by rw [HD.out.1, firstV]; simp; have := HD.out.2; omega
      have hkd : k < ds.length := by omega
      have hin : In k ds.length := ⟨hkd⟩
      clear hdl
      go_wp2_with (go_at_call 105; refine (clone_own (gr xss k) B _ cB _ rfl hl1 hl0).mono ?_; rintro e w2 ⟨g2, c2, rfl, hc2, ho2, hf2, hx2⟩)
      have hlo : Lo w.heap.size wr.heap.size := lo_ownv (h := hown)
      have hap : Apart g2 w.heap.size := ⟨by have := hf2.out; have := hlo.out; omega⟩
      have hinn2 : Inn w2 cs (xss.take k) := inferInstance
      have hlt2 := hinn.lt
      have hinn3 := hinn2.snoc (c := c2) rfl ho2
      rw [← take_snoc xss hlt] at hinn3
      have hci : CsAp w.heap.size (cs ++ [.slice (some ⟨g2, 0, none⟩) (gr xss k).length c2]) := fun i hi e => by
        have := (HGe.out.snoc (g := g2) (n := (gr xss k).length) (c := c2) (by have := hf2.out; have := hlo.out; omega)) i hi w.heap.size e
        omega
      have hinn4 := hinn3.set_ (k := k) (u := .slice (some ⟨g2, 0, none⟩) (gr xss k).length c2) hci
      go_roundw
      case rel => exact ⟨k + 1, _, _, by go_num, by omega, inferInstance, inferInstance, ⟨by
          rw [HD.out.1, firstV, firstV]
          have := HD.out.2
          rw [List.set_append_right _ _ (by omega), show k - cs.length = 0 by omega, show xss.length - k = xss.length - (k + 1) + 1 by omega, List.replicate_succ]
          simp, by simp [HD.out.2]⟩, hinn4, HDis.out.snoc hlt2 hf2.out, HGe.out.snoc (by have := hf2.out; have := hlo.out; omega)⟩
      case measure => simp [intOf] <;> omega
    · obtain rfl : k = xss.length := by omega
      go_wp2
      go_ret
      rw [List.take_length] at hinn
      have hds : ds = cs := by rw [HD.out.1, firstV]; simp
      rw [hds] at hown
      exact ⟨w.heap.size, cs, rfl, hown, hinn, HDis.out, fun i hi g hg => by have := HGe.out i hi g hg; omega, inferInstance, hB.ext⟩

set_option maxRecDepth 100000 in
set_option maxHeartbeats 4000000 in
theorem madd_calls (F : Fd) (b bv bu : Nat) (xs us : List Int) (a : Int) (nx cx nu cu : Nat) (w0 w : World) (hnx : xs.length = nx) (hnu : us.length = nu) (hle : nu = nx) (hnm : nx ≤ 1000000) [hg : GFp w0 b F] [hB : Bel w0 w] [hf : Fr w0 bv] [hv : Own w bv xs] [hu : Own w bu us] [hap : Apart bu bv] :
    Calls Try.prog 178 #[.pointer (some ⟨b, 0, none⟩), .slice (some ⟨bv, 0, none⟩) nx cx, .int .i64 a, .slice (some ⟨bu, 0, none⟩) nu cu] w fun e w' => e = .returned (.tuple #[]) ∧ Own w' bv (mkL nx (F.addToF xs a us)) ∧ Wrt bv w w' := by
  subst hnx hnu
  have HLE := hidd hle
  clear hle
  have hW := Wrt.refl bv w
  go_enter Try.func178, Try.ntmps178
  go_wp2
  go_loopw [12] (fun iv wr => ∃ (k : Nat) (zs : List Int), iv = .int .i64 k ∧ k ≤ us.length ∧ Bel w0 wr ∧ Wrt bv w wr ∧ Own wr bv zs ∧ Own wr bu us ∧ Hid (zs = mixL xs.length (F.addToF xs a us) (gt xs) k)) (fun iv _ => us.length - (intOf iv).toNat)
  case atStart => exact ⟨0, xs, rfl, by omega, hB, hW, hv, hu, by show _ = _; rw [mixL_zero]; exact ext_gt (by rw [mkL_length]) fun j hj => by rw [gt_mkL hj]⟩
  case round =>
    obtain ⟨k, zs, rfl, hk, hB1, hW1, hv1, hu1, HI⟩ := hrel
    clear hB hW hv hu
    by_cases hlt : k < us.length
    · have hkx : k < xs.length := by have := HLE.out; omega
      have hkz : k < zs.length := by rw [HI.out, mixL_length]; exact hkx
      have hin : In k zs.length := ⟨hkz⟩
      have hgw : GFp wr b F := GFp.move hg hB1
      by_cases he : gt us k = 0
      · have heb : (gt us k != 0) = false := by simp [he]
        have HE := hidd he
        clear he
        go_wp2
        go_roundw
        case rel => exact ⟨k + 1, zs, by go_num, by omega, hB1, hW1, hv1, hu1, by
          show _ = _
          rw [HI.out]
          refine ext_gt (by rw [mixL_length, mixL_length]) fun j hj => ?_
          rw [mixL_length] at hj
          rw [gt_mixL hj, gt_mixL hj]
          by_cases h1 : j < k
          · rw [if_pos h1, if_pos (by omega)]
          · rw [if_neg h1]
            by_cases h2 : j = k
            · subst h2; rw [if_pos (by omega), Fd.addToF, if_pos HE.out]
            · rw [if_neg (by omega)]⟩
        case measure => simp [intOf] <;> omega
      · have heb : (gt us k != 0) = true := by simp [he]
        have HE := hidd he
        clear he
        have hN : Near wr.heap.size wr wr := ⟨Below.refl _ _⟩
        go_upto_region 4 with (fail)
        refine wp_region_E (S := fun w' => Near wr.heap.size wr w') 13 (by kernel_rfl) inferInstance (fun hHeld => ?_)
        refine wpAnyE_take (i := 0) (oi := ⟨some 19, _, _, _, _, _⟩) (v := ?_) rfl (by kernel_rfl) (by kernel_rfl) (by kernel_rfl) (by decide) (by kernel_rfl) (fun _ _ _ h => h) (Or.inl ⟨by rfl, ?_⟩) hHeld ?_
        rotate_left
        · (intro w1 hS1; first | (go_simp; done) | (go_simp; with_reducible rfl))
        try simp only [Act.put, List.setIfInBounds_toArray, List.set_cons_zero, List.set_cons_succ]
        refine wpAnyE_take (i := 1) (oi := ⟨some 20, _, _, _, _, _⟩) (v := ?_) rfl (by kernel_rfl) (by kernel_rfl) (by kernel_rfl) (by decide) (by kernel_rfl) (fun _ _ _ h => h) (Or.inl ⟨by rfl, ?_⟩) hHeld ?_
        rotate_left
        · (intro w1 hS1; first | (go_simp; done) | (go_simp; with_reducible rfl))
        try simp only [Act.put, List.setIfInBounds_toArray, List.set_cons_zero, List.set_cons_succ]
        refine wpAnyE_take (i := 2) (oi := ⟨some 21, _, _, _, _, _⟩) (v := ?_) rfl (by kernel_rfl) (by kernel_rfl) (by kernel_rfl) (by decide) (by kernel_rfl) (fun _ _ _ h => h) (Or.inl ⟨by rfl, ?_⟩) hHeld ?_
        rotate_left
        · (intro w1 hS1; first | (go_simp; done) | (go_simp; with_reducible rfl))
        try simp only [Act.put, List.setIfInBounds_toArray, List.set_cons_zero, List.set_cons_succ]
        refine wpAnyE_take (i := 3) (oi := ⟨some 22, _, _, _, _, _⟩) (v := ?_) rfl (by kernel_rfl) (by kernel_rfl) (by kernel_rfl) (by decide) (by kernel_rfl) (fun _ _ _ h => h) (Or.inl ⟨by rfl, ?_⟩) hHeld ?_
        rotate_left
        · (intro w1 hS1; first | (go_simp; done) | (go_simp; with_reducible rfl))
        try simp only [Act.put, List.setIfInBounds_toArray, List.set_cons_zero, List.set_cons_succ]
        refine wpAnyE_take (i := 4) (oi := ⟨some 23, _, _, _, _, _⟩) (v := ?_) rfl (by kernel_rfl) (by kernel_rfl) (by kernel_rfl) (by decide) (by kernel_rfl) (fun _ _ _ h => h) (Or.inl ⟨by rfl, ?_⟩) hHeld ?_
        rotate_left
        · (intro w1 hS1; first | (go_simp; done) | (go_simp; with_reducible rfl))
        try simp only [Act.put, List.setIfInBounds_toArray, List.set_cons_zero, List.set_cons_succ]
        refine wpAnyE_take (i := 5) (oi := ⟨some 24, _, _, _, _, _⟩) (v := ?_) rfl (by kernel_rfl) (by kernel_rfl) (by kernel_rfl) (by decide) (by kernel_rfl) (fun _ _ _ h => h) (Or.inl ⟨by rfl, ?_⟩) hHeld ?_
        rotate_left
        · (intro w1 hS1; first | (go_simp; done) | (go_simp; with_reducible rfl))
        try simp only [Act.put, List.setIfInBounds_toArray, List.set_cons_zero, List.set_cons_succ]
        refine wpAnyE_take (i := 6) (oi := ⟨some 25, _, _, _, _, _⟩) (v := ?_) rfl (by kernel_rfl) (by kernel_rfl) (by kernel_rfl) (by decide) (by kernel_rfl) (fun _ _ _ h => h) (Or.inl ⟨by rfl, ?_⟩) hHeld ?_
        rotate_left
        · (intro w1 hS1; first | (go_simp; done) | (go_simp; with_reducible rfl))
        try simp only [Act.put, List.setIfInBounds_toArray, List.set_cons_zero, List.set_cons_succ]
        refine wpAnyE_take (i := 7) (oi := ⟨some 26, _, _, _, _, _⟩) (v := ?_) rfl (by kernel_rfl) (by kernel_rfl) (by kernel_rfl) (by decide) (by kernel_rfl) (fun _ _ _ h => h) (Or.inl ⟨by rfl, ?_⟩) hHeld ?_
        rotate_left
        · (intro w1 hS1; first | (go_simp; done) | (go_simp; with_reducible rfl))
        try simp only [Act.put, List.setIfInBounds_toArray, List.set_cons_zero, List.set_cons_succ]
        refine wpAnyE_take (i := 8) (oi := ⟨some 27, _, _, _, _, _⟩) (v := ?_) rfl (by kernel_rfl) (by kernel_rfl) (by kernel_rfl) (by decide) (by kernel_rfl) (fun _ _ _ h => h) (Or.inl ⟨by rfl, ?_⟩) hHeld ?_
        rotate_left
        · (intro w1 hS1; first | (go_simp; done) | (go_simp; with_reducible rfl))
        try simp only [Act.put, List.setIfInBounds_toArray, List.set_cons_zero, List.set_cons_succ]
        refine wpAnyE_take (i := 9) (oi := ⟨some 28, _, _, _, _, _⟩) (v := ?_) rfl (by kernel_rfl) (by kernel_rfl) (by kernel_rfl) (by decide) (by kernel_rfl) (fun _ _ _ h => h) (Or.inl ⟨by rfl, ?_⟩) hHeld ?_
        rotate_left
        · (intro w1 hS1; first | (go_simp; done) | (go_simp; with_reducible rfl))
        try simp only [Act.put, List.setIfInBounds_toArray, List.set_cons_zero, List.set_cons_succ]
        refine wpAnyE_one (i := 10) (o := ⟨some 29, _, _, _, _, _⟩) (by kernel_rfl) rfl (fun K hK => ?_)
        go_simp
        (go_at_call 107; refine (gmul_calls F b a (gt us k) _).mono ?_; rintro e w4 ⟨rfl, hx4⟩)
        clear hHeld
        refine hK.out _ _ inferInstance (fun hHeld => ?_)
        clear hK K
        try simp only [Act.put, List.setIfInBounds_toArray, List.set_cons_zero, List.set_cons_succ]
        refine wpAnyE_one (i := 11) (o := ⟨some 30, _, _, _, _, _⟩) (by kernel_rfl) rfl (fun K hK => ?_)
        go_simp
        (go_at_call 106; refine (gadd_calls F b (gt zs k) (F.mul a (gt us k)) _).mono ?_; rintro e w5 ⟨rfl, hx5⟩)
        clear hHeld
        refine hK.out _ _ inferInstance (fun hHeld => ?_)
        clear hK K
        try simp only [Act.put, List.setIfInBounds_toArray, List.set_cons_zero, List.set_cons_succ]
        refine wpAnyE_take (i := 12) (oi := ⟨some 31, _, _, _, _, _⟩) (v := ?_) rfl (by kernel_rfl) (by kernel_rfl) (by kernel_rfl) (by decide) (by kernel_rfl) (fun _ _ _ h => h) (Or.inl ⟨by rfl, ?_⟩) hHeld ?_
        rotate_left
        · (intro w1 hS1; first | (go_simp; done) | (go_simp; with_reducible rfl))
        try simp only [Act.put, List.setIfInBounds_toArray, List.set_cons_zero, List.set_cons_succ]
        refine wpAnyE_last (o := ⟨none, _, _, _, _, _⟩) (by kernel_rfl) rfl (fun K hK => ?_)
        go_simp
        refine hK.out _ _ ?_
        clear hK K
        try simp only [Act.put, List.setIfInBounds_toArray, List.set_cons_zero, List.set_cons_succ]
        refine wpAnyE_done (by kernel_rfl) ?_ _

        go_wp2
        go_roundw
        case rel => exact ⟨k + 1, _, by go_num, by omega, inferInstance, inferInstance, inferInstance, inferInstance, by
          show _ = _
          rw [HI.out]
          refine mixL_set _ _ _ _ _ hkx ?_
          rw [Fd.addToF, if_neg HE.out, gt_mixL hkx, if_neg (by omega)]⟩
        case measure => simp [intOf] <;> omega
    · obtain rfl : k = us.length := by omega
      go_wp2
      go_end0
      refine ⟨rfl, ?_, hW1⟩
      have e : mkL xs.length (F.addToF xs a us) = zs := by rw [HI.out, HLE.out, mixL_full]
      rw [e]; exact hv1

end Go.Proofs.Ytcigdhmecfhndaa

namespace Go.Proofs.Ytcigdhmecfhndaa
open Go.RowKit
attribute [local go_sem] cell_bx froz_bx cell_own froz_own cell_rd cell_cel ints_get ints_set cell_ownv froz_ownv eql_nil_int
set_option linter.unusedVariables false
set_option linter.unusedSimpArgs false

theorem new_fok (F : Fd) (A : Option Addr) (n c : Nat) (w : World) (hn : F.md.length = n) (hn2 : n ≤ 1000000000000000000) (hF : FOK F) [hA : Sl w A F.md] :
    Calls Try.prog 81 #[.agg #[.int .i64 F.p, .int .i64 F.m, .slice A n c]] w fun e w' => ∃ g, e = .returned (.tuple #[.pointer (some ⟨g, 0, none⟩), .int .i64 0]) ∧ Fr w g ∧ GFp w' g F ∧ Ext w w' := by
  obtain ⟨hs, hg⟩ := hF
  cases e : F.gen with
  | none => exact absurd e hg
  | some l => exact new_yes F A n c w hn hn2 hs l e

set_option maxRecDepth 100000 in
set_option maxHeartbeats 4000000 in
theorem open_calls (F : Fd) (A : Option Addr) (n c gm : Nat) (rows : List (List Int)) (Ar : Option Addr) (nr cr : Nat) (cols : Int) (w : World) (hn : F.md.length = n) (hn2 : n ≤ 1000000000000000000) (hr : rows.length = nr) (hr2 : nr ≤ 1000000000000000000) (hrl : ∀ k, (gr rows k).length ≤ 1000000000000000000) [hA : Sl w A F.md] [hR : Sls w Ar rows] [hb : Bx w gm #[.int .i64 cols, .slice Ar nr cr] 91] :
    Calls Try.prog 160 #[.agg #[.int .i64 F.p, .int .i64 F.m, .slice A n c], .slice (some ⟨gm, 0, none⟩) 1 1] w fun e w' => 
      (matE F cols rows ≠ 0 ∧ e = .returned (.tuple #[.pointer none, .int .i64 (matE F cols rows)]) ∧ Ext w w') ∨ (matE F cols rows = 0 ∧ ∃ g, e = .returned (.tuple #[.pointer (some ⟨g, 0, none⟩), .int .i64 0]) ∧ Fr w g ∧ GFp w' g F ∧ Ext w w') := by
  have HRL := hidd hrl
  clear hrl
  by_cases hF : FOK F
  · have hRO := fok_iff.1 hF
    have hE : matE F cols rows = shpE F cols rows := by rw [matE, if_pos hRO, shpE]
    have HE := hidd hE
    clear hE
    by_cases h0 : shpE F cols rows = 0
    · go_enter Try.func160, Try.ntmps160
      go_wp2_with (go_at_call 81; refine (new_fok F A n c _ hn hn2 hF).mono ?_; rintro e w1 ⟨g, rfl, hf, hgp, hx1⟩)
      refine wp_loop_rounds 2 ?_
      rw [rounds_succ]
      go_wp2_with (go_at_call 165; refine (mcheck_calls F g rows Ar nr cr cols _ hr hr2 HRL.out).mono ?_; rintro e w2 ⟨rfl, hx2⟩; rw [h0])
      rw [rounds_succ]
      go_wp2
      go_ret2
      exact .inr ⟨by rw [HE.out]; exact h0, g, rfl, Fr.then_ (inferInstance : Bel w _) ⟨hf.out⟩, inferInstance, Bel.ext inferInstance⟩
    · have hb0 : (shpE F cols rows != 0) = true := by simp [h0]
      have H0 := hidd h0
      clear h0
      go_enter Try.func160, Try.ntmps160
      go_wp2_with (go_at_call 81; refine (new_fok F A n c _ hn hn2 hF).mono ?_; rintro e w1 ⟨g, rfl, hf, hgp, hx1⟩)
      refine wp_loop_rounds 2 ?_
      rw [rounds_succ]
      go_wp2_with (go_at_call 165; refine (mcheck_calls F g rows Ar nr cr cols _ hr hr2 HRL.out).mono ?_; rintro e w2 ⟨rfl, hx2⟩)
      go_ret2
      exact .inl ⟨by rw [HE.out]; exact H0.out, by rw [HE.out]; rfl, Bel.ext inferInstance⟩
  · have hRO : ¬ RefOK F := fun h => hF (fok_iff.2 h)
    have hE : matE F cols rows = 1 := by rw [matE, if_neg hRO]
    have HE := hidd hE
    clear hE
    go_enter Try.func160, Try.ntmps160
    go_wp2_with (go_at_call 81; refine (new_no F A n c _ hn hn2 hF).mono ?_; rintro e w1 ⟨rfl, hx1⟩)
    go_ret2
    exact .inl ⟨by rw [HE.out]; simp, by rw [HE.out]; rfl, Bel.ext inferInstance⟩

end Go.Proofs.Ytcigdhmecfhndaa

namespace Go.Proofs.Ytcigdhmecfhndaa
open Go.RowKit
attribute [local go_sem] cell_bx froz_bx cell_own froz_own cell_rd cell_cel ints_get ints_set cell_ownv froz_ownv eql_nil_int
set_option linter.unusedVariables false
set_option linter.unusedSimpArgs false

set_option maxRecDepth 100000 in
set_option maxHeartbeats 4000000 in
theorem step2_calls (g n c bk ba k i gk gi nk ni ck ci : Nat) (cs : List Value) (w : World) (hn : cs.length = n) (hk : k < n) (hi : i < n) (hgk : gv cs k = .slice (some ⟨gk, 0, none⟩) nk ck) (hgi : gv cs i = .slice (some ⟨gi, 0, none⟩) ni ci) [ho : OwnV w g 22 cs] [hbk : Bx w bk #[.int .i64 k] 3] [hba : Bx w ba #[.int .i64 i] 3] [ha1 : Apart bk g] [ha2 : Apart ba g] :
    Calls Try.prog 173 #[.slice (some ⟨g, 0, none⟩) n c, .pointer (some ⟨bk, 0, none⟩), .pointer (some ⟨ba, 0, none⟩)] w fun e w' => e = .returned (.tuple #[]) ∧ OwnV w' g 22 (swapV cs i k) ∧ Wrt g w w' := by
  subst hn
  have hin : In i cs.length := ⟨hi⟩
  have hin2 : In k cs.length := ⟨hk⟩
  have hW := Wrt.refl g w
  go_enter Try.func173, Try.ntmps173
  go_region
  go_end0
  refine ⟨rfl, ?_, inferInstance⟩
  rw [swapV, hgk, hgi]
  infer_instance

set_option maxRecDepth 100000 in
set_option maxHeartbeats 4000000 in
theorem step3_calls (F : Fd) (b g n c b4 bi ba i ga m ca : Nat) (v : Int) (cs : List Value) (row : List Int) (w0 w : World) (hn : cs.length = n) (hi : i < n) (hgv : gv cs i = .slice (some ⟨ga, 0, none⟩) m ca) (hrow : row.length = m) (hm : m ≤ 1000000) [hg : GFp w0 b F] [hB : Bel w0 w] [ho : OwnV w g 22 cs] [hoa : Own w ga row] [hb4 : Bx w b4 #[.pointer (some ⟨b, 0, none⟩)] 97] [hbi : Bx w bi #[.int .i64 v] 3] [hba : Bx w ba #[.int .i64 i] 3] :
    Calls Try.prog 175 #[.slice (some ⟨g, 0, none⟩) n c, .pointer (some ⟨b4, 0, none⟩), .pointer (some ⟨bi, 0, none⟩), .pointer (some ⟨ba, 0, none⟩)] w fun e w' => e = .returned (.tuple #[]) ∧ ∃ g', OwnV w' g 22 (cs.set i (.slice (some ⟨g', 0, none⟩) m m)) ∧ Own w' g' (mkL m (F.scaleF v row)) ∧ w.heap.size ≤ g' ∧ Wrt g w w' := by
  subst hn
  have hin : In i cs.length := ⟨hi⟩
  have hW := Wrt.refl g w
  have hgw : GFp w b F := GFp.move hg hB
  have hN : Near w.heap.size w w := ⟨Below.refl _ _⟩
  go_enter Try.func175, Try.ntmps175
  refine wp_region_E (S := fun w' => Near w.heap.size w w') 10 (by kernel_rfl) inferInstance (fun hHeld => ?_)
  refine wpAnyE_take (i := 0) (oi := ⟨some 5, _, _, _, _, _⟩) (v := ?_) rfl (by kernel_rfl) (by kernel_rfl) (by kernel_rfl) (by decide) (by kernel_rfl) (fun _ _ _ h => h) (Or.inl ⟨by rfl, ?_⟩) hHeld ?_
  rotate_left
  · (intro w1 hS1; first | (go_simp; done) | (go_simp; with_reducible rfl))
  try simp only [Act.put, List.setIfInBounds_toArray, List.set_cons_zero, List.set_cons_succ]
  refine wpAnyE_take (i := 1) (oi := ⟨some 6, _, _, _, _, _⟩) (v := ?_) rfl (by kernel_rfl) (by kernel_rfl) (by kernel_rfl) (by decide) (by kernel_rfl) (fun _ _ _ h => h) (Or.inl ⟨by rfl, ?_⟩) hHeld ?_
  rotate_left
  · (intro w1 hS1; first | (go_simp; done) | (go_simp; with_reducible rfl))
  try simp only [Act.put, List.setIfInBounds_toArray, List.set_cons_zero, List.set_cons_succ]
  refine wpAnyE_take (i := 2) (oi := ⟨some 7, _, _, _, _, _⟩) (v := ?_) rfl (by kernel_rfl) (by kernel_rfl) (by kernel_rfl) (by decide) (by kernel_rfl) (fun _ _ _ h => h) (Or.inl ⟨by rfl, ?_⟩) hHeld ?_
  rotate_left
  · (intro w1 hS1; first | (go_simp; done) | (go_simp; with_reducible rfl))
  try simp only [Act.put, List.setIfInBounds_toArray, List.set_cons_zero, List.set_cons_succ]
  refine wpAnyE_take (i := 3) (oi := ⟨some 8, _, _, _, _, _⟩) (v := ?_) rfl (by kernel_rfl) (by kernel_rfl) (by kernel_rfl) (by decide) (by kernel_rfl) (fun _ _ _ h => h) (Or.inl ⟨by rfl, ?_⟩) hHeld ?_
  rotate_left
  · (intro w1 hS1; first | (go_simp; done) | (go_simp; with_reducible rfl))
  try simp only [Act.put, List.setIfInBounds_toArray, List.set_cons_zero, List.set_cons_succ]
  refine wpAnyE_take (i := 4) (oi := ⟨some 9, _, _, _, _, _⟩) (v := ?_) rfl (by kernel_rfl) (by kernel_rfl) (by kernel_rfl) (by decide) (by kernel_rfl) (fun _ _ _ h => h) (Or.inl ⟨by rfl, ?_⟩) hHeld ?_
  rotate_left
  · (intro w1 hS1; first | (go_simp; done) | (go_simp; with_reducible rfl))
  try simp only [Act.put, List.setIfInBounds_toArray, List.set_cons_zero, List.set_cons_succ]
  refine wpAnyE_take (i := 5) (oi := ⟨some 10, _, _, _, _, _⟩) (v := ?_) rfl (by kernel_rfl) (by kernel_rfl) (by kernel_rfl) (by decide) (by kernel_rfl) (fun _ _ _ h => h) (Or.inl ⟨by rfl, ?_⟩) hHeld ?_
  rotate_left
  · (intro w1 hS1; first | (go_simp; done) | (go_simp; with_reducible rfl))
  try simp only [Act.put, List.setIfInBounds_toArray, List.set_cons_zero, List.set_cons_succ]
  refine wpAnyE_take (i := 6) (oi := ⟨some 11, _, _, _, _, _⟩) (v := ?_) rfl (by kernel_rfl) (by kernel_rfl) (by kernel_rfl) (by decide) (by kernel_rfl) (fun _ _ _ h => h) (Or.inl ⟨by rfl, ?_⟩) hHeld ?_
  rotate_left
  · (intro w1 hS1; first | (go_simp; done) | (go_simp; with_reducible rfl))
  try simp only [Act.put, List.setIfInBounds_toArray, List.set_cons_zero, List.set_cons_succ]
  refine wpAnyE_take (i := 7) (oi := ⟨some 12, _, _, _, _, _⟩) (v := ?_) rfl (by kernel_rfl) (by kernel_rfl) (by kernel_rfl) (by decide) (by kernel_rfl) (fun _ _ _ h => h) (Or.inl ⟨by rfl, ?_⟩) hHeld ?_
  rotate_left
  · (intro w1 hS1; first | (go_simp; done) | (go_simp; with_reducible rfl))
  try simp only [Act.put, List.setIfInBounds_toArray, List.set_cons_zero, List.set_cons_succ]
  refine wpAnyE_one (i := 8) (o := ⟨some 13, _, _, _, _, _⟩) (by kernel_rfl) rfl (fun K hK => ?_)
  go_simp
  (go_at_call 176; refine (gscale_calls F b v row _ _ _ _ hrow hm).mono ?_; rintro e w4 ⟨g4, rfl, hf4, ho4, hx4⟩)
  clear hHeld
  refine hK.out _ _ inferInstance (fun hHeld => ?_)
  clear hK K
  try simp only [Act.put, List.setIfInBounds_toArray, List.set_cons_zero, List.set_cons_succ]
  refine wpAnyE_take (i := 9) (oi := ⟨some 14, _, _, _, _, _⟩) (v := ?_) rfl (by kernel_rfl) (by kernel_rfl) (by kernel_rfl) (by decide) (by kernel_rfl) (fun _ _ _ h => h) (Or.inl ⟨by rfl, ?_⟩) hHeld ?_
  rotate_left
  · (intro w1 hS1; first | (go_simp; done) | (go_simp; with_reducible rfl))
  try simp only [Act.put, List.setIfInBounds_toArray, List.set_cons_zero, List.set_cons_succ]
  refine wpAnyE_last (o := ⟨none, _, _, _, _, _⟩) (by kernel_rfl) rfl (fun K hK => ?_)
  go_simp
  refine hK.out _ _ ?_
  clear hK K
  try simp only [Act.put, List.setIfInBounds_toArray, List.set_cons_zero, List.set_cons_succ]
  refine wpAnyE_done (by kernel_rfl) ?_ _

  go_end0
  have hap : Apart g4 g := ⟨own_ownv_ne ho4 (inferInstance : OwnV w4 g 22 cs) (by decide)⟩
  exact ⟨rfl, g4, inferInstance, inferInstance, hf4.out, inferInstance⟩

set_option maxRecDepth 100000 in
set_option maxHeartbeats 4000000 in
theorem step4_calls (F : Fd) (b g n c b4 bi bx ba i j gi ga m ci ca : Nat) (x : Int) (cs : List Value) (ri ra : List Int) (w0 w : World) (hn : cs.length = n) (hi : i < n) (hj : j < n) (hgi : gv cs i = .slice (some ⟨gi, 0, none⟩) m ci) (hga : gv cs j = .slice (some ⟨ga, 0, none⟩) m ca) (hri : ri.length = m) (hra : ra.length = m) (hm : m ≤ 1000000) [hg : GFp w0 b F] [hB : Bel w0 w] [hf : Fr w0 gi] [hap : Apart ga gi] [ho : OwnV w g 22 cs] [hoi : Own w gi ri] [hoa : Own w ga ra] [hb4 : Bx w b4 #[.pointer (some ⟨b, 0, none⟩)] 97] [hbi : Bx w bi #[.int .i64 i] 3] [hbx : Bx w bx #[.int .i64 x] 3] [hba : Bx w ba #[.int .i64 j] 3] [ha1 : Apart b4 gi] [ha2 : Apart bi gi] [ha3 : Apart bx gi] [ha4 : Apart ba gi] [ha5 : Apart g gi] :
    Calls Try.prog 177 #[.slice (some ⟨g, 0, none⟩) n c, .pointer (some ⟨b4, 0, none⟩), .pointer (some ⟨bi, 0, none⟩), .pointer (some ⟨bx, 0, none⟩), .pointer (some ⟨ba, 0, none⟩)] w fun e w' => e = .returned (.tuple #[]) ∧ Own w' gi (mkL m (F.addToF ri (F.neg x) ra)) ∧ Wrt gi w w' := by
  subst hn
  have hW := Wrt.refl gi w
  have hgw : GFp w b F := GFp.move hg hB
  go_enter Try.func177, Try.ntmps177
  go_region_held3 (fun w' => Wrt gi w w') (infer_instance)
    ((first
      | (go_at_call 88; refine (gneg_calls F b x _).mono ?_; rintro e w4 ⟨rfl, hx4⟩; have hB4 : Bel w0 w4 := inferInstance; have hoi4 : Own w4 gi ri := inferInstance; have hoa4 : Own w4 ga ra := inferInstance; have hW4 : Wrt gi w w4 := inferInstance)
      | (go_at_call 178; refine (madd_calls F b gi ga ri ra (F.neg x) _ _ _ _ w0 _ hri hra rfl hm).mono ?_; rintro e w5 ⟨rfl, ho5, hw5⟩; have hW5 : Wrt gi w w5 := wrt_then hW4 hw5.out; clear hw5)))
  go_wp2
  go_end0
  exact ⟨rfl, ho5, hW5⟩

set_option maxRecDepth 100000 in
set_option maxHeartbeats 4000000 in
theorem each_calls (k : Nat) (caps : Array Value) (v : Value) (b5 b7 : Nat) (w : World) (R : World → Prop) [hb5 : Bx w b5 #[v] 25]
    (he : ∀ args w, Sem.run Try.prog (callFunc k args) w = .ok (.enter k args) w)
    (hs : Calls Try.prog k (#[v] ++ caps) w fun e w' => e = .returned (.tuple #[]) ∧ Bx w' b7 #[.slice none 0 0] 25 ∧ R w') :
    Calls Try.prog 172 #[.func (.func k) #[] caps, .pointer (some ⟨b5, 0, none⟩), .pointer (some ⟨b7, 0, none⟩)] w fun e w' => e = .returned (.tuple #[]) ∧ R w' := by
  go_enter Try.func172, Try.ntmps172
  go_wp2
  refine hs.mono ?_
  rintro e w1 ⟨rfl, hbx, hr⟩
  clear he hs
  simp only []
  go_at_K
  go_wp2
  go_end0
  exact ⟨rfl, hr⟩
theorem enter2 (args : Array Value) (w : World) : Sem.run Try.prog (callFunc 173 args) w = .ok (.enter 173 args) w := by go_simp
theorem enter3 (args : Array Value) (w : World) : Sem.run Try.prog (callFunc 175 args) w = .ok (.enter 175 args) w := by go_simp
theorem enter4 (args : Array Value) (w : World) : Sem.run Try.prog (callFunc 177 args) w = .ok (.enter 177 args) w := by go_simp

end Go.Proofs.Ytcigdhmecfhndaa

namespace Go.Proofs.Ytcigdhmecfhndaa

theorem ent_mkL {q : Int} {n : Nat} {f : Nat → Int} (h : ∀ k, k < n → 0 ≤ f k ∧ f k < q) : Ent q (mkL n f) := fun k hk => by
  rw [mkL_length] at hk
  rw [gt_mkL hk]; exact h k hk
theorem EntR.set {q : Int} {l : List (List Int)} (h : EntR q l) (k : Nat) {x : List Int} (hx : Ent q x) : EntR q (l.set k x) := fun j hj => by
  rw [List.length_set] at hj
  by_cases hk : k < l.length
  · rw [gr_set _ _ _ _ hk]
    by_cases e : k = j
    · rw [if_pos e]; exact hx
    · rw [if_neg e]; exact h j hj
  · rw [List.set_eq_of_length_le (by omega)]; exact h j hj
theorem EntR.swap {q : Int} {l : List (List Int)} (h : EntR q l) {i j : Nat} (hi : i < l.length) (hj : j < l.length) : EntR q (swapR l i j) := (h.set i (h j hj)).set j (h i hi)
theorem scale_ent {F : Fd} (hO : F.Ok) (a : Int) (v : List Int) (n : Nat) : Ent F.q (mkL n (F.scaleF a v)) := ent_mkL fun _ _ => mul_el hO _ _
theorem addTo_ent {F : Fd} (hO : F.Ok) {v : List Int} (hv : Ent F.q v) (a : Int) (u : List Int) : Ent F.q (mkL v.length (F.addToF v a u)) := ent_mkL fun k hk => by
  unfold Fd.addToF
  split
  · exact hv k hk
  · exact add_el hO.good _ _
theorem EntR.norm {F : Fd} (hO : F.Ok) {l : List (List Int)} (h : EntR F.q l) (c r : Nat) : EntR F.q (F.normR c r l) := by
  unfold Fd.normR; split
  · exact h
  · exact h.set r (scale_ent hO _ _ _)
theorem EntR.clearIn {F : Fd} (hO : F.Ok) {l : List (List Int)} (h : EntR F.q l) (c r : Nat) {i : Nat} (hi : i < l.length) : EntR F.q (F.clearIn c r i l) := by
  unfold Fd.clearIn; split
  · exact h.set i (addTo_ent hO (h i hi) _ _)
  · exact h
theorem clearIn_len (F : Fd) (c r i : Nat) (l : List (List Int)) : (F.clearIn c r i l).length = l.length := by
  unfold Fd.clearIn; split
  · rw [List.length_set]
  · rfl
theorem EntR.clearR {F : Fd} (hO : F.Ok) {l : List (List Int)} (h : EntR F.q l) (c r : Nat) {t : Nat} (ht : t ≤ l.length) : EntR F.q (F.clearR c r t l) := by
  have : EntR F.q (F.clearR c r t l) ∧ (F.clearR c r t l).length = l.length := by
    refine loopN_inv (fun x => EntR F.q x ∧ x.length = l.length) _ _ _ ⟨h, rfl⟩ fun i x hi hx => ⟨hx.1.clearIn hO c r (by rw [hx.2]; omega), by rw [clearIn_len, hx.2]⟩
  exact this.1
theorem norm_len (F : Fd) (c r : Nat) (l : List (List Int)) : (F.normR c r l).length = l.length := by
  unfold Fd.normR; split
  · rfl
  · rw [List.length_set]
theorem swapR_len (l : List (List Int)) (i j : Nat) : (swapR l i j).length = l.length := by simp [swapR]
theorem elimStep_ent {F : Fd} (hO : F.Ok) (c : Nat) (st : List (List Int) × List Int) (h : EntR F.q st.1) (hp : st.2.length ≤ st.1.length) : EntR F.q (F.elimStep c st).1 := by
  obtain ⟨l, pv⟩ := st
  simp only at h hp
  unfold Fd.elimStep
  simp only
  have hs := nzAt_spec l c (l.length - pv.length) pv.length
  split
  · next hk =>
    exact EntR.clearR hO (EntR.norm hO (h.swap (by omega) hk) c _) c _ (by rw [norm_len, swapR_len]; exact Nat.le_refl _)
  · exact h
theorem elim_ent {F : Fd} (hO : F.Ok) {n m : Nat} {l : List (List Int)} (hg : Grid n m l) (h : EntR F.q l) : ∀ t, EntR F.q (loopN t F.elimStep (l, [])).1
  | 0 => h
  | t + 1 => by
    have ih := elim_ent hO hg h t
    have hgr := elim_grid F hg t
    rw [loopN_succ]
    exact elimStep_ent hO t _ ih (by rw [hgr.1.1]; exact hgr.2)
theorem El.of {F : Fd} {l : List (List Int)} (h : EntR F.q l) {i j : Nat} (hi : i < l.length) (hj : j < (gr l i).length) : El F (gt (gr l i) j) := h i hi j hj

end Go.Proofs.Ytcigdhmecfhndaa

namespace Go.Proofs.Ytcigdhmecfhndaa
open Go.RowKit
attribute [local go_sem] cell_bx froz_bx cell_own froz_own cell_rd cell_cel ints_get ints_set cell_ownv froz_ownv eql_nil_int
set_option linter.unusedVariables false
set_option linter.unusedSimpArgs false

instance tne_gi : TNe 97 3 := ⟨by decide⟩
instance tne_ssi : TNe 25 3 := ⟨by decide⟩
theorem own_bx_ne {w : World} {b g : Nat} {cs : Array Value} {t : TypeId} {xs : List Int} (h : Own w b xs) (k : Bx w g cs t) (he : t ≠ 3) : g ≠ b := by
  rintro rfl
  obtain ⟨s1, h1⟩ := h.out
  have h2 := k.out
  rw [h1] at h2
  injection h2 with h2; injection h2 with _ h2
  exact he h2.symm
theorem ownv_bx_ne {w : World} {b g : Nat} {cs : Array Value} {t e : TypeId} {ds : List Value} (h : OwnV w b e ds) (k : Bx w g cs t) (he : t ≠ e) : g ≠ b := by
  rintro rfl
  obtain ⟨s1, h1⟩ := h.out
  have h2 := k.out
  rw [h1] at h2
  injection h2 with h2; injection h2 with _ h2
  exact he h2.symm

set_option maxRecDepth 100000 in
set_option maxHeartbeats 8000000 in
theorem melim_calls (F : Fd) (b g n c m cols : Nat) (cs0 : List Value) (xss : List (List Int)) (w0 w : World) (hF : FOK F) (hx : Grid n m xss) (hel : EntR F.q xss) (hn : n ≤ 1000) (hm0 : 0 < m) (hm : m ≤ 1000) (hcols : cols ≤ m) (hd : Dis cs0) (hge : CsGe w0.heap.size cs0) [hg : GFp w0 b F] [hB0 : Bel w0 w] [ho : OwnV w g 22 cs0] [hfg : Fr w0 g] [hi : Inn w cs0 xss] :
    Calls Try.prog 167 #[.pointer (some ⟨b, 0, none⟩), .slice (some ⟨g, 0, none⟩) n c, .int .i64 cols, .slice none 0 0] w fun e w' => ∃ (A : Option Addr) (cp : Nat) (d : Int) (cs' : List Value), e = .returned (.tuple #[.slice A (F.elim xss cols).2.length cp, .int .i64 d]) ∧ (F.elim xss cols).2.length ≤ cp ∧ Row w' (.slice A (F.elim xss cols).2.length cp) 3 (nums (F.elim xss cols).2) ∧ OwnV w' g 22 cs' ∧ Inn w' cs' (F.elim xss cols).1 ∧ Bel w0 w' := by
  have HX := hidd hx
  have HEL := hidd hel
  have HD := hidd hd
  have HGE := hidd hge
  have hcl0 : Hid (cs0.length = n) := by show _ = _; rw [hi.len]; exact hx.1
  have hlog := lo_ownv (h := ho)
  have ap4 : Apart w.heap.size g := ⟨by have := hlog.out; omega⟩
  clear hx hel hd hge
  go_enter Try.func167, Try.ntmps167
  go_wp2
  go_loopg [10, 12, 13] cols (fun gk dv pvv jv wr => ∃ (j : Nat) (d : Int) (A : Option Addr) (cp : Nat) (pv : List Int) (cs : List Value) (l : List (List Int)), gk = cols - j ∧ dv = .int .i64 d ∧ pvv = .slice A pv.length cp ∧ jv = .int .i64 j ∧ j ≤ cols ∧ pv.length ≤ n ∧ cs.length = n ∧ Bel w0 wr ∧ Bx wr w.heap.size #[.pointer (some ⟨b, 0, none⟩)] 97 ∧ Bx wr (w.heap.size + 1) #[.slice (some ⟨g, 0, none⟩) n c] 25 ∧ Bx wr (w.heap.size + 1 + 1) #[.slice none 0 0] 25 ∧ OwnV wr g 22 cs ∧ Inn wr cs l ∧ Row wr (.slice A pv.length cp) 3 (nums pv) ∧ FrV w0 (.slice A pv.length cp) ∧ ApV g (.slice A pv.length cp) ∧ Hid (InnAp cs (.slice A pv.length cp)) ∧ Hid (Dis cs) ∧ Hid (CsGe w0.heap.size cs) ∧ Hid (Grid n m l ∧ (l, pv) = loopN j F.elimStep (xss, [])))
  case atStart => exact ⟨0, 1, none, 0, [], cs0, xss, rfl, rfl, rfl, rfl, by omega, by simp, hcl0.out, inferInstance, inferInstance, inferInstance, inferInstance, inferInstance, inferInstance, row_nil, frv_nil, apv_nil, InnAp.nil _, HD.out, HGE.out, HX.out, rfl⟩
  case round =>
    obtain ⟨j, d, A, cp, pv, cs, l, rfl, rfl, rfl, rfl, hj, hpv, hcl, hB, hb4, hb5, hb7, hown, hinn, hrow, hf9, hap9, HIA, HDis, HGe, HI⟩ := hrel
    by_cases hc : j < cols
    · by_cases hat : pv.length < n
      · have hll := HI.out.1.1
        have HLL := hidd hll
        have HCL := hidd hcl
        have HGR := hidd HI.out.1.2
        have hjm : j < m := by omega
        have hin0 : ∀ k, k < n → k < l.length := fun k hk => by omega
        have HIN := hidd hin0
        have hcs0 : ∀ k, k < n → k < cs.length := fun k hk => by omega
        have HCS := hidd hcs0
        clear hll hin0 hcs0 hcl
        obtain ⟨wo, rfl⟩ : ∃ wo, wo = wr := ⟨_, rfl⟩
        go_wp2
        have hsz := (lo_bx (h := hb7)).out
        have hgl := (lo_ownv (h := hown)).out
        have hglw := hlog.out
        have hvl : ∀ q, (Value.slice A pv.length cp).ownBlock = some q → q < wo.heap.size := fun q hq => hrow.lt hq
        have apv0 : ApV wo.heap.size (.slice A pv.length cp) := ⟨fun e => by have := hvl _ e.symm; omega⟩
        have apv1 : ApV (wo.heap.size + 1) (.slice A pv.length cp) := ⟨fun e => by have := hvl _ e.symm; omega⟩
        have hlt := hinn.lt
        have HAP0 := hidd (hlt.ap (Nat.le_refl _))
        have HAP1 := hidd (hlt.ap (Nat.le_succ _))
        have a40 : Apart w.heap.size wo.heap.size := ⟨by omega⟩
        have a50 : Apart (w.heap.size + 1) wo.heap.size := ⟨by omega⟩
        have a70 : Apart (w.heap.size + 1 + 1) wo.heap.size := ⟨by omega⟩
        have a41 : Apart w.heap.size (wo.heap.size + 1) := ⟨by omega⟩
        have a51 : Apart (w.heap.size + 1) (wo.heap.size + 1) := ⟨by omega⟩
        have a71 : Apart (w.heap.size + 1 + 1) (wo.heap.size + 1) := ⟨by omega⟩
        have ag0 : Apart g wo.heap.size := ⟨by omega⟩
        have ag1 : Apart g (wo.heap.size + 1) := ⟨by omega⟩
        have a0g : Apart wo.heap.size g := ⟨by omega⟩
        have a1g : Apart (wo.heap.size + 1) g := ⟨by omega⟩
        have a4g : Apart w.heap.size g := ⟨by omega⟩
        have a5g : Apart (w.heap.size + 1) g := ⟨by omega⟩
        have a7g : Apart (w.heap.size + 1 + 1) g := ⟨by omega⟩
        clear hlt hsz hgl hglw ap4
        have HVL := hidd hvl
        clear hvl
        go_loopg [36] (n - pv.length) (fun gk _ wr => ∃ k : Nat, gk = n - k ∧ pv.length ≤ k ∧ k ≤ n ∧ Bel w0 wr ∧ Bx wr w.heap.size #[.pointer (some ⟨b, 0, none⟩)] 97 ∧ Bx wr (w.heap.size + 1) #[.slice (some ⟨g, 0, none⟩) n c] 25 ∧ Bx wr (w.heap.size + 1 + 1) #[.slice none 0 0] 25 ∧ Bx wr wo.heap.size #[.int .i64 pv.length] 3 ∧ Bx wr (wo.heap.size + 1) #[.int .i64 k] 3 ∧ OwnV wr g 22 cs ∧ Inn wr cs l ∧ Row wr (.slice A pv.length cp) 3 (nums pv) ∧ Hid (nzAt l j (n - pv.length) pv.length = nzAt l j (n - k) k))
        case atStart => exact ⟨pv.length, rfl, Nat.le_refl _, hpv, inferInstance, inferInstance, inferInstance, inferInstance, inferInstance, inferInstance, inferInstance, inferInstance, inferInstance, rfl⟩
        case round =>
          obtain ⟨k, rfl, hk1, hk2, hB1, hb41, hb51, hb71, hb14, hb15, hown1, hinn1, hrow1, HK⟩ := hrel
          by_cases hk : k < n
          · obtain ⟨gk', ck, hgk, hok⟩ := hinn1.out k (HIN.out k hk)
            have hkc := HCS.out k hk
            have hjl : j < (gr l k).length := by rw [HGR.out k hk]; exact hjm
            by_cases hz : gt (gr l k) j = 0
            · have hzb : (gt (gr l k) j == 0) = true := beq_iff_eq.2 hz
              have HZ := hidd hz
              clear hz
              go_wp2
              go_roundg (n - (k + 1))
              case measure => omega
              case rel =>
                have hb15' : Bx (wr.setCell ⟨wo.heap.size + 1, 0, none⟩ (.int .i64 ((k : Int) + 1))) (wo.heap.size + 1) #[.int .i64 ((k + 1 : Nat) : Int)] 3 := by
                  have := bx_set (k := 0) (u := .int .i64 ((k : Int) + 1)) (h := hb15)
                  simpa using this
                exact ⟨k + 1, rfl, by omega, by omega, inferInstance, inferInstance, inferInstance, inferInstance, inferInstance, hb15', inferInstance, hinn1.set_ HAP1.out, inferInstance, by
                  show _ = _
                  rw [HK.out, show n - k = (n - (k + 1)) + 1 by omega, nzAt, if_pos HZ.out]⟩
            · have hzb : (gt (gr l k) j == 0) = false := beq_eq_false_iff_ne.2 hz
              have HZ := hidd hz
              clear hz
              have hne : ((k : Int) == (n : Int)) = false := beq_eq_false_iff_ne.2 (by omega)
              obtain ⟨ga, ca, hga, hoa⟩ := hinn1.out pv.length (HIN.out _ hat)
              have hac := HCS.out _ hat
              obtain ⟨wp, rfl⟩ : ∃ wp, wp = wr := ⟨_, rfl⟩
              go_upto_if 58 with (fail)
              go_cut [10] (fun dv wc => ∃ (d2 : Int) (cs2 : List Value), dv = .int .i64 d2 ∧ cs2.length = n ∧ Bel w0 wc ∧ Bx wc w.heap.size #[.pointer (some ⟨b, 0, none⟩)] 97 ∧ Bx wc (w.heap.size + 1) #[.slice (some ⟨g, 0, none⟩) n c] 25 ∧ Bx wc (w.heap.size + 1 + 1) #[.slice none 0 0] 25 ∧ Bx wc wo.heap.size #[.int .i64 pv.length] 3 ∧ OwnV wc g 22 cs2 ∧ Inn wc cs2 (swapR l pv.length k) ∧ Row wc (.slice A pv.length cp) 3 (nums pv) ∧ Hid (InnAp cs2 (.slice A pv.length cp)) ∧ Hid (Dis cs2) ∧ Hid (CsGe w0.heap.size cs2) ∧ Hid (CsAp wo.heap.size cs2))
              case first =>
                by_cases hka : k = pv.length
                · have hkb : ((k : Int) != (pv.length : Int)) = false := by simp [hka]
                  have HKA := hidd hka
                  clear hka
                  go_wp2
                  go_meet
                  exact ⟨d, cs, rfl, HCL.out, hB1, hb41, hb51, hb71, hb14, hown1, by rw [HKA.out, swapR_self]; exact hinn1, hrow1, HIA, HDis, HGe, HAP0⟩
                · have hkb : ((k : Int) != (pv.length : Int)) = true := by simp; omega
                  have HKA := hidd hka
                  clear hka
                  go_wp2_with (fail)
                  refine (each_calls 173 #[.pointer (some ⟨wo.heap.size + 1, 0, none⟩), .pointer (some ⟨wo.heap.size, 0, none⟩)] (.slice (some ⟨g, 0, none⟩) n c) _ _ _ (fun w' => OwnV w' g 22 (swapV cs pv.length k) ∧ Wrt g wp w') enter2 ((step2_calls g n c (wo.heap.size + 1) wo.heap.size k pv.length gk' ga _ _ ck ca cs _ HCL.out hk hat hgk hga).mono ?_)).mono ?_
                  · rintro e w5 ⟨rfl, ho5, hw5⟩
                    exact ⟨rfl, inferInstance, ho5, hw5⟩
                  rintro e w5 ⟨rfl, ho5, hw5⟩
                  have hB5 : Bel w0 w5 := hw5.bel hB1 inferInstance
                  go_wp2_with (first
                    | (go_at_call 88; refine (gneg_calls F b d _).mono ?_; rintro e w6 ⟨rfl, hx6⟩))
                  go_meet
                  have hi5 : Inn w5 (swapV cs pv.length k) (swapR l pv.length k) := (hinn1.swap (HIN.out _ hat) (HIN.out _ hk)).wrt hw5 ((hinn1.ap_ownv hown1 (by decide)).swap hac hkc)
                  have hr5 : Row w5 (.slice A pv.length cp) 3 (nums pv) := hw5.row hrow1 hap9
                  exact ⟨F.neg d, swapV cs pv.length k, rfl, by rw [swapV_len]; exact HCL.out, inferInstance, inferInstance, inferInstance, inferInstance, inferInstance, inferInstance, inferInstance, inferInstance, HIA.out.swap hac hkc, HDis.out.swap hac hkc, HGe.out.swap hac hkc, HAP0.out.swap hac hkc⟩
              case rest =>
                obtain ⟨d2, cs2, rfl, hcl2, hB2, hb42, hb52, hb72, hb142, hown2, hinn2, hrow2, HIA2, HDis2, HGe2, HAP2⟩ := hcut
                obtain ⟨w2, rfl⟩ : ∃ w2, w2 = wc := ⟨_, rfl⟩
                have hgr2 : Grid n m (swapR l pv.length k) := HI.out.1.swap hat hk
                have hxg : gt (gr (swapR l pv.length k) pv.length) j = gt (gr l k) j := by
                  rw [gr_swapR (HIN.out _ hat) (HIN.out _ hk)]
                  by_cases e : k = pv.length
                  · rw [if_pos e, e]
                  · rw [if_neg e, if_pos rfl]
                have hel2 : EntR F.q (swapR l pv.length k) := by
                  have h1 := elim_ent hF.ok HX.out HEL.out j
                  rw [← HI.out.2] at h1
                  exact EntR.swap h1 (HIN.out _ hat) (HIN.out _ hk)
                have hstep : Hid (F.elimStep j (l, pv) = (F.clearR j pv.length n (F.normR j pv.length (swapR l pv.length k)), pv ++ [(j : Int)])) := by
                  show _ = _
                  rw [Fd.elimStep]
                  simp only [HLL.out]
                  have : nzAt l j (n - pv.length) pv.length = k := by
                    rw [HK.out, show n - k = (n - k - 1) + 1 by omega, nzAt, if_neg HZ.out]
                  rw [this, if_pos hk]
                obtain ⟨l2, hl2⟩ : ∃ l2, l2 = swapR l pv.length k := ⟨_, rfl⟩
                rw [← hl2] at hgr2 hxg hel2 hstep hinn2
                clear hl2
                obtain ⟨x, hxx⟩ : ∃ x, x = gt (gr l2 pv.length) j := ⟨_, rfl⟩
                have hx0 : x ≠ 0 := by rw [hxx, hxg]; exact HZ.out
                have hl2m := hgr2.2 pv.length hat
                have hjl2 : j < (gr l2 pv.length).length := by omega
                have hxel : El F x := by rw [hxx]; exact El.of hel2 (by rw [hgr2.1]; exact hat) hjl2
                obtain ⟨ga2, ca2, hga2, hoa2⟩ := hinn2.out pv.length (by rw [hgr2.1]; exact hat)
                have hat2 : pv.length < cs2.length := by omega
                have HG2 := hidd hgr2
                have HXX := hidd hxx
                have HL2M := hidd hl2m
                have HXG := hidd hxg
                have HX0 := hidd hx0
                have HCL2 := hidd hcl2
                have HXE := hidd hxel
                clear hgr2 hxg hxx hl2m hx0 hcl2 hxel
                go_upto_region 15 with (fail)
                have hN : Near w2.heap.size w2 w2 := ⟨Below.refl _ _⟩
                go_region_held3 (fun w' => Near w2.heap.size w2 w') (infer_instance)
                  ((go_at_call 107; refine (gmul_calls F b d2 (gt (gr l2 pv.length) j) _).mono ?_; rintro e w3 ⟨rfl, hx3⟩))
                have hB3 : Bel w0 w3 := inferInstance
                go_upto_region 16 with (fail)
                go_cut [16, 17] (fun pp ev wc => ∃ b16 : Nat, pp = .pointer (some ⟨b16, 0, none⟩) ∧ ev = .int .i64 0 ∧ w3.heap.size ≤ b16 ∧ Bx wc b16 #[.int .i64 (F.inv x)] 3 ∧ Ext w3 wc)
                case first =>
                  have hif : (if inE F.q (gt (gr l2 pv.length) j) = 0 then (7 : Int) else 0) = 0 := by
                    rw [← HXX.out, HXE.out.inE]; exact if_neg HX0.out
                  have hiv : F.inv (gt (gr l2 pv.length) j) = F.inv x := by rw [HXX.out]
                  have hN3 : Near w3.heap.size w3 w3 := ⟨Below.refl _ _⟩
                  go_region_held3 (fun w' => Near w3.heap.size w3 w') (infer_instance)
                    ((go_at_call 174; refine (ginv_calls F b (gt (gr l2 pv.length) j) _).mono ?_; rintro e w4 ⟨rfl, hx4⟩; rw [hif, hiv]))
                  all_goals go_wp2_with fail
                  all_goals go_meet
                  all_goals refine ⟨_, rfl, rfl, ?_, inferInstance, ?_⟩
                  all_goals first | exact Nat.le_refl _ | exact (inferInstance : Fr w3 _).out | exact ⟨(undrew hx4.out).alloc (undrew hx4.out).size _⟩ | exact ⟨(((Below.refl _ w3).drew.alloc (Nat.le_refl _) _).trans (hx4.out.mono (by simp [World.size_alloc, World.size_drew]))).setCell (p := ⟨w3.heap.size, 0, none⟩) (Nat.le_refl _) _⟩
                case rest =>
                  obtain ⟨b16, rfl, rfl, hb16, hbx16, hx5⟩ := hcut
                  obtain ⟨w5, rfl⟩ : ∃ w5, w5 = wc := ⟨_, rfl⟩
                  have hB5 : Bel w0 w5 := inferInstance
                  have hb45 : Bx w5 w.heap.size #[.pointer (some ⟨b, 0, none⟩)] 97 := inferInstance
                  have hb55 : Bx w5 (w.heap.size + 1) #[.slice (some ⟨g, 0, none⟩) n c] 25 := inferInstance
                  have hb75 : Bx w5 (w.heap.size + 1 + 1) #[.slice none 0 0] 25 := inferInstance
                  have hb145 : Bx w5 wo.heap.size #[.int .i64 pv.length] 3 := inferInstance
                  have hown5 : OwnV w5 g 22 cs2 := inferInstance
                  have hinn5 : Inn w5 cs2 l2 := inferInstance
                  have hrow5 : Row w5 (.slice A pv.length cp) 3 (nums pv) := inferInstance
                  have hoa5 : Own w5 ga2 (gr l2 pv.length) := inferInstance
                  have hb14lt := (lo_bx (h := hb142)).out
                  have hw23 : w2.heap.size ≤ w3.heap.size := hx3.out.size
                  have a16g : Apart b16 g := ⟨by have := (lo_ownv (h := hown2)).out; omega⟩
                  clear hx3 hx5 hb42 hb52 hb72 hb142 hown2 hinn2 hrow2 hoa2 hB2 hB3 hB1 hb41 hb51 hb71 hb14 hb15 hown1 hinn1 hrow1 hok hoa hw23
                  go_upto_if 92 with (fail)
                  go_cut [85] (fun _ wc => ∃ (cs3 : List Value), cs3.length = n ∧ Bel w0 wc ∧ Bx wc w.heap.size #[.pointer (some ⟨b, 0, none⟩)] 97 ∧ Bx wc (w.heap.size + 1) #[.slice (some ⟨g, 0, none⟩) n c] 25 ∧ Bx wc (w.heap.size + 1 + 1) #[.slice none 0 0] 25 ∧ Bx wc wo.heap.size #[.int .i64 pv.length] 3 ∧ OwnV wc g 22 cs3 ∧ Inn wc cs3 (F.normR j pv.length l2) ∧ Row wc (.slice A pv.length cp) 3 (nums pv) ∧ Hid (InnAp cs3 (.slice A pv.length cp)) ∧ Hid (Dis cs3) ∧ Hid (CsGe w0.heap.size cs3) ∧ Hid (CsAp wo.heap.size cs3))
                  case first =>
                    by_cases h1 : x = 1
                    · have hi1 : F.inv x = 1 := (hF.inv_one HXE.out HX0.out).2 h1
                      have hib : (F.inv x != 1) = false := by simp [hi1]
                      have hno : F.normR j pv.length l2 = l2 := by rw [Fd.normR, if_pos (by rw [← HXX.out]; exact h1)]
                      have HNO := hidd hno
                      clear hno hi1 h1
                      go_wp2
                      go_meet
                      exact ⟨cs2, HCL2.out, hB5, hb45, hb55, hb75, hb145, hown5, by rw [HNO.out]; exact hinn5, hrow5, HIA2, HDis2, HGe2, HAP2⟩
                    · have hi1 : ¬ F.inv x = 1 := fun e => h1 ((hF.inv_one HXE.out HX0.out).1 e)
                      have hib : (F.inv x != 1) = true := by simp [hi1]
                      have hno : F.normR j pv.length l2 = l2.set pv.length (mkL (gr l2 pv.length).length (F.scaleF (F.inv x) (gr l2 pv.length))) := by rw [Fd.normR, if_neg (by rw [← HXX.out]; exact h1), ← HXX.out]
                      have HNO := hidd hno
                      clear hno hi1 h1
                      go_wp2_with (fail)
                      refine (each_calls 175 #[.pointer (some ⟨w.heap.size, 0, none⟩), .pointer (some ⟨b16, 0, none⟩), .pointer (some ⟨wo.heap.size, 0, none⟩)] (.slice (some ⟨g, 0, none⟩) n c) _ _ _ (fun w' => ∃ g', OwnV w' g 22 (cs2.set pv.length (.slice (some ⟨g', 0, none⟩) (gr l2 pv.length).length (gr l2 pv.length).length)) ∧ Own w' g' (mkL (gr l2 pv.length).length (F.scaleF (F.inv x) (gr l2 pv.length))) ∧ w5.heap.size ≤ g' ∧ Wrt g w5 w') enter3 ((step3_calls F b g n c w.heap.size b16 wo.heap.size pv.length ga2 _ ca2 (F.inv x) cs2 (gr l2 pv.length) w0 _ HCL2.out hat hga2 rfl (by have := HL2M.out; omega)).mono ?_)).mono ?_
                      · rintro e w6 ⟨rfl, g6, ho6, hr6, hg6, hw6⟩
                        exact ⟨rfl, inferInstance, g6, ho6, hr6, hg6, hw6⟩
                      rintro e w6 ⟨rfl, g6, ho6, hr6, hg6, hw6⟩
                      have hB6 : Bel w0 w6 := hw6.bel hB5 inferInstance
                      have hlt5 := hinn5.lt
                      go_wp2
                      go_meet
                      have hgl := (lo_ownv (h := hown5)).out
                      have hvl5 : ∀ q, (Value.slice A pv.length cp).ownBlock = some q → q < w5.heap.size := fun q hq => hrow5.lt hq
                      have hb14l := (lo_bx (h := hb145)).out
                      have hi6 : Inn w6 cs2 l2 := hinn5.wrt hw6 (hinn5.ap_ownv hown5 (by decide))
                      have hi7 := hi6.put (k := pv.length) (g := g6) (c := (gr l2 pv.length).length) (by rw [HG2.out.1]; exact hat) (show (gr l2 pv.length).length = _ by rw [mkL_length]) hr6
                      have hr7 : Row w6 (.slice A pv.length cp) 3 (nums pv) := hw6.row hrow5 hap9
                      exact ⟨_, by rw [List.length_set]; exact HCL2.out, hB6, inferInstance, inferInstance, inferInstance, inferInstance, ho6, by rw [HNO.out]; exact hi7, hr7, HIA2.out.put pv.length (fun e => by have := hvl5 _ e.symm; omega), HDis2.out.put hlt5 hg6, HGe2.out.put (by have := hB5.out.size; omega), HAP2.out.put (by omega)⟩
                  case rest =>
                    obtain ⟨cs3, hcl3, hB6, hb46, hb56, hb76, hb146, hown6, hinn6, hrow6, HIA3, HDis3, HGe3, HAP3⟩ := hcut
                    obtain ⟨w7, rfl⟩ : ∃ w7, w7 = wc := ⟨_, rfl⟩
                    have hgr3 := HG2.out.norm F j hat
                    obtain ⟨l3, hl3⟩ : ∃ l3, l3 = F.normR j pv.length l2 := ⟨_, rfl⟩
                    rw [← hl3] at hgr3 hinn6 hstep
                    have HG3 := hidd hgr3
                    have HCL3 := hidd hcl3
                    clear hl3 hgr3 hcl3 hinn5 hown5 hrow5 hb45 hb55 hb75 hb145 hoa5 hbx16 hB5
                    go_wp2
                    go_loopg [98] n (fun gk iv wr => ∃ (i : Nat) (l4 : List (List Int)), gk = n - i ∧ iv = .int .i64 i ∧ i ≤ n ∧ Bel w0 wr ∧ Bx wr w.heap.size #[.pointer (some ⟨b, 0, none⟩)] 97 ∧ Bx wr (w.heap.size + 1) #[.slice (some ⟨g, 0, none⟩) n c] 25 ∧ Bx wr (w.heap.size + 1 + 1) #[.slice none 0 0] 25 ∧ Bx wr wo.heap.size #[.int .i64 pv.length] 3 ∧ OwnV wr g 22 cs3 ∧ Inn wr cs3 l4 ∧ Row wr (.slice A pv.length cp) 3 (nums pv) ∧ Hid (Grid n m l4 ∧ l4 = F.clearR j pv.length i l3))
                    case atStart => exact ⟨0, l3, rfl, rfl, by omega, hB6, hb46, hb56, hb76, hb146, hown6, hinn6, hrow6, HG3.out, rfl⟩
                    case round =>
                      obtain ⟨i, l4, rfl, rfl, hi4, hB8, hb48, hb58, hb78, hb148, hown8, hinn8, hrow8, HI4⟩ := hrel
                      clear hB6 hb46 hb56 hb76 hb146 hown6 hinn6 hrow6
                      have hgl8 := (lo_ownv (h := hown8)).out
                      by_cases hin : i < n
                      · have hil4 : i < l4.length := by rw [HI4.out.1.1]; exact hin
                        have hal4 : pv.length < l4.length := by rw [HI4.out.1.1]; exact hat
                        have hic : i < cs3.length := by rw [HCL3.out]; exact hin
                        have hac3 : pv.length < cs3.length := by rw [HCL3.out]; exact hat
                        obtain ⟨gi, ci, hgi, hoi⟩ := hinn8.out i hil4
                        obtain ⟨gq, cq, hgq, hoq⟩ := hinn8.out pv.length hal4
                        have hli := HI4.out.1.2 i hin
                        have hlq := HI4.out.1.2 pv.length hat
                        have hjl : j < (gr l4 i).length := by omega
                        have HLI := hidd hli
                        have HLQ := hidd hlq
                        have HIL := hidd hil4
                        clear hli hlq hil4 hal4
                        by_cases hia : i = pv.length
                        · have hb : ((i : Int) != (pv.length : Int)) = false := by simp [hia]
                          have HIA4 := hidd hia
                          clear hia
                          go_wp2
                          go_roundg (n - (i + 1))
                          case measure => omega
                          case rel => exact ⟨i + 1, l4, rfl, by go_num, by omega, inferInstance, inferInstance, inferInstance, inferInstance, inferInstance, inferInstance, inferInstance, inferInstance, HI4.out.1, by
                            rw [Fd.clearR, loopN_succ, ← Fd.clearR, ← HI4.out.2, Fd.clearIn, if_neg (fun h => h.1 HIA4.out)]⟩
                        · have hb : ((i : Int) != (pv.length : Int)) = true := by simp; omega
                          have HIA4 := hidd hia
                          clear hia
                          by_cases hz4 : gt (gr l4 i) j = 0
                          · have hzb : (gt (gr l4 i) j != 0) = false := by simp [hz4]
                            have HZ4 := hidd hz4
                            clear hz4
                            go_wp2
                            go_roundg (n - (i + 1))
                            case measure => omega
                            case rel => exact ⟨i + 1, l4, rfl, by go_num, by omega, inferInstance, inferInstance, inferInstance, inferInstance, inferInstance, inferInstance, inferInstance, inferInstance, HI4.out.1, by
                              rw [Fd.clearR, loopN_succ, ← Fd.clearR, ← HI4.out.2, Fd.clearIn, if_neg (fun h => h.2 HZ4.out)]⟩
                          · have hzb : (gt (gr l4 i) j != 0) = true := by simp [hz4]
                            have HZ4 := hidd hz4
                            clear hz4
                            go_upto_if 114 with (fail)
                            obtain ⟨w8, hw8⟩ : ∃ w8, w8 = (wr.alloc (.cells #[.int .i64 (i : Int)] 3)).alloc (.cells #[.int .i64 (gt (gr l4 i) j)] 3) := ⟨_, rfl⟩
                            rw [← hw8]
                            have hB9 : Bel w0 w8 := by rw [hw8]; infer_instance
                            have hb49 : Bx w8 w.heap.size #[.pointer (some ⟨b, 0, none⟩)] 97 := by rw [hw8]; infer_instance
                            have hb59 : Bx w8 (w.heap.size + 1) #[.slice (some ⟨g, 0, none⟩) n c] 25 := by rw [hw8]; infer_instance
                            have hb79 : Bx w8 (w.heap.size + 1 + 1) #[.slice none 0 0] 25 := by rw [hw8]; infer_instance
                            have hb149 : Bx w8 wo.heap.size #[.int .i64 pv.length] 3 := by rw [hw8]; infer_instance
                            have hb189 : Bx w8 wr.heap.size #[.int .i64 (i : Int)] 3 := by rw [hw8]; infer_instance
                            have hb199 : Bx w8 (wr.heap.size + 1) #[.int .i64 (gt (gr l4 i) j)] 3 := by rw [hw8]; infer_instance
                            have hown9 : OwnV w8 g 22 cs3 := by rw [hw8]; infer_instance
                            have hinn9 : Inn w8 cs3 l4 := by rw [hw8]; infer_instance
                            have hrow9 : Row w8 (.slice A pv.length cp) 3 (nums pv) := by rw [hw8]; infer_instance
                            have hoi9 : Own w8 gi (gr l4 i) := by rw [hw8]; infer_instance
                            have hoq9 : Own w8 gq (gr l4 pv.length) := by rw [hw8]; infer_instance
                            have hgil := (lo_own (h := hoi)).out
                            have f1 : Apart w.heap.size gi := ⟨own_bx_ne hoi hb48 (by decide)⟩
                            have f2 : Apart (w.heap.size + 1) gi := ⟨own_bx_ne hoi hb58 (by decide)⟩
                            have f3 : Apart (w.heap.size + 1 + 1) gi := ⟨own_bx_ne hoi hb78 (by decide)⟩
                            have f4 : Apart wo.heap.size gi := ⟨fun e => HAP3.out i hic (by rw [hgi, own_of, e])⟩
                            have f5 : Apart wr.heap.size gi := ⟨by omega⟩
                            have f6 : Apart (wr.heap.size + 1) gi := ⟨by omega⟩
                            have f7 : Apart g gi := ⟨fun e => own_ownv_ne hoi hown8 (by decide) e.symm⟩
                            have f8 : Apart gq gi := ⟨fun e => HDis3.out pv.length i hac3 hic (fun h => HIA4.out h.symm) (by rw [hgq, hgi, own_of, own_of, e])⟩
                            have f9 : Fr w0 gi := ⟨HGe3.out i hic gi (by rw [hgi, own_of])⟩
                            have f10 : ApV gi (.slice A pv.length cp) := ⟨HIA3.out i gi _ ci hic hgi⟩
                            have hgi2 : gv cs3 i = .slice (some ⟨gi, 0, none⟩) m ci := by rw [hgi, HLI.out]
                            have hgq2 : gv cs3 pv.length = .slice (some ⟨gq, 0, none⟩) m cq := by rw [hgq, HLQ.out]
                            clear hw8 hB8 hb48 hb58 hb78 hb148 hown8 hinn8 hrow8 hoi hoq hgil hgi hgq
                            go_wp2_with (fail)
                            refine (each_calls 177 #[.pointer (some ⟨w.heap.size, 0, none⟩), .pointer (some ⟨wr.heap.size, 0, none⟩), .pointer (some ⟨wr.heap.size + 1, 0, none⟩), .pointer (some ⟨wo.heap.size, 0, none⟩)] (.slice (some ⟨g, 0, none⟩) n c) _ _ _ (fun w' => Own w' gi (mkL m (F.addToF (gr l4 i) (F.neg (gt (gr l4 i) j)) (gr l4 pv.length))) ∧ Wrt gi w8 w') enter4 ((step4_calls F b g n c w.heap.size wr.heap.size (wr.heap.size + 1) wo.heap.size i pv.length gi gq m ci cq (gt (gr l4 i) j) cs3 (gr l4 i) (gr l4 pv.length) w0 _ HCL3.out hin hat hgi2 hgq2 HLI.out HLQ.out (by omega)).mono ?_)).mono ?_
                            · rintro e w9 ⟨rfl, ho9, hw9⟩
                              exact ⟨rfl, inferInstance, ho9, hw9⟩
                            rintro e w9 ⟨rfl, ho9, hw9⟩
                            have hB10 : Bel w0 w9 := hw9.bel hB9 inferInstance
                            go_wp2
                            go_roundg (n - (i + 1))
                            case measure => omega
                            case rel =>
                              have hi10 := hinn9.write HDis3.out HIL.out hgi2 (show m = _ by rw [mkL_length]) hw9 ho9
                              have hr10 : Row w9 (.slice A pv.length cp) 3 (nums pv) := hw9.row hrow9 f10
                              exact ⟨i + 1, _, rfl, by go_num, by omega, hB10, inferInstance, inferInstance, inferInstance, inferInstance, inferInstance, hi10, hr10, HI4.out.1.set i (mkL_length _ _), by
                                rw [Fd.clearR, loopN_succ, ← Fd.clearR, ← HI4.out.2, Fd.clearIn, if_pos ⟨HIA4.out, HZ4.out⟩, HLI.out]⟩
                      · obtain rfl : i = n := by omega
                        have HI5 := hidd HI4.out
                        clear hkc hac
                        go_wp2_with (at_builtin; refine app_int rfl (.tmp 119) (.tmp 121) rfl (.slice A pv.length cp) pv j wr.heap.size rfl rfl (by omega) ?_; intro v1 w9 hr1 hc1 hv1)
                        have hr8 : Row (wr.alloc (.cells #[.int .i64 (j : Int)] 3)) (.slice A pv.length cp) 3 (nums pv) := inferInstance
                        have hi8 : Inn (wr.alloc (.cells #[.int .i64 (j : Int)] 3)) cs3 l4 := inferInstance
                        have hB8' : Bel w0 (wr.alloc (.cells #[.int .i64 (j : Int)] 3)) := inferInstance
                        have hi9 := hi8.chg hc1 HIA3.out
                        have hia9 := HIA3.out.app hi8 hv1
                        have hf10 : FrV w0 v1 := FrV.app hv1
                        have hap10 : ApV g v1 := ⟨fun e => by
                          rcases hv1 with h | h
                          · exact hap9.out (by rw [← h]; exact e)
                          · rw [h] at e; have := Option.some.inj e; simp [World.size_alloc] at this; omega⟩
                        obtain ⟨A9, c9, rfl, hcc9, hs9, -⟩ := hr1.reads
                        rw [List.length_append, List.length_singleton] at hr1 hf10 hap10 hia9 ⊢
                        go_roundg (cols - (j + 1))
                        case measure => omega
                        case rel => exact ⟨j + 1, _, A9, c9, pv ++ [(j : Int)], cs3, l4, rfl, rfl, by rw [List.length_append]; rfl, by go_num, by omega, by rw [List.length_append]; exact hat, HCL3.out, inferInstance, inferInstance, inferInstance, inferInstance, inferInstance, hi9, by rw [List.length_append]; exact hr1, by rw [List.length_append]; exact hf10, by rw [List.length_append]; exact hap10, by rw [List.length_append]; exact hia9, HDis3, HGe3, HI5.out.1, by
                          rw [loopN_succ, ← HI.out.2, hstep.out, HI5.out.2]⟩
          · obtain rfl : k = n := by omega
            have hkk : ((k : Int) == (k : Int)) = true := beq_self_eq_true _
            go_wp2
            go_roundg (cols - (j + 1))
            case measure => omega
            case rel => exact ⟨j + 1, d, A, cp, pv, cs, l, rfl, rfl, rfl, by go_num, by omega, by omega, HCL.out, hB1, hb41, hb51, hb71, hown1, hinn1, hrow1, hf9, hap9, HIA, HDis, HGe, HI.out.1, by
              rw [loopN_succ, ← HI.out.2, Fd.elimStep]
              simp only [HLL.out]
              rw [HK.out, Nat.sub_self, nzAt, if_neg (by omega)]⟩
      · have hpn : pv.length = n := by omega
        have HPN := hidd hpn
        clear hpn
        go_wp2
        go_ret2
        obtain ⟨A9, c9, he, hcc9, hs9, -⟩ := hrow.reads
        injection he with e1 e2 e3
        subst e1 e3
        have hel : F.elim xss cols = (l, pv) := by
          have h1 := elim_full F HX.out (t := j) (by rw [← HI.out.2]; exact HPN.out) (cols - j)
          rw [show j + (cols - j) = cols by omega, ← HI.out.2] at h1
          exact h1
        exact ⟨A, cp, d, cs, by rw [hel]; rfl, by rw [hel]; exact hcc9, by rw [hel]; exact hrow, hown, by rw [hel]; exact hinn, hB⟩
    · obtain rfl : j = cols := by omega
      go_wp2
      go_ret2
      obtain ⟨A9, c9, he, hcc9, hs9, -⟩ := hrow.reads
      injection he with e1 e2 e3
      subst e1 e3
      have hel : F.elim xss j = (l, pv) := HI.out.2.symm
      exact ⟨A, cp, d, cs, by rw [hel]; rfl, by rw [hel]; exact hcc9, by rw [hel]; exact hrow, hown, by rw [hel]; exact hinn, hB⟩

end Go.Proofs.Ytcigdhmecfhndaa

namespace Go.Proofs.Ytcigdhmecfhndaa
open Go.RowKit
theorem results_cell3 {P : Program} {fn : Func} {p u v : Tmp} {ty : TypeId} (h : fn.results = #[.cell p ty, .tmp u, .tmp v]) (tmps : Array Value) (w : World) (g : Nat) (t : TypeId) (cs : Array Value) (fr : Nat × Nat) (d : TypeDesc)
    (hp : tmps.getD p undef = .pointer (some ⟨g, 0, none⟩)) (hg : w.heap[g]? = some (.cells cs t fr))
    (hu : P.underlying ty = some d) (hd : (match d with | .struct _ | .array _ _ => true | _ => false) = true) (hi : (P.info? ty).map (·.size) = some cs.size) :
    (results fn tmps).run P w = .ok (.tuple #[.agg cs, tmps.getD u undef, tmps.getD v undef]) w := by
  have hp' : tmps[p]?.getD undef = .pointer (some ⟨g, 0, none⟩) := by simpa using hp
  simp [results, h, hp', asAddr, run_loadVar_row w g t ty cs fr d hg hu hd hi]
theorem results_cell2 {P : Program} {fn : Func} {p u : Tmp} {ty : TypeId} (h : fn.results = #[.cell p ty, .tmp u]) (tmps : Array Value) (w : World) (g : Nat) (t : TypeId) (cs : Array Value) (fr : Nat × Nat) (d : TypeDesc)
    (hp : tmps.getD p undef = .pointer (some ⟨g, 0, none⟩)) (hg : w.heap[g]? = some (.cells cs t fr))
    (hu : P.underlying ty = some d) (hd : (match d with | .struct _ | .array _ _ => true | _ => false) = true) (hi : (P.info? ty).map (·.size) = some cs.size) :
    (results fn tmps).run P w = .ok (.tuple #[.agg cs, tmps.getD u undef]) w := by
  have hp' : tmps[p]?.getD undef = .pointer (some ⟨g, 0, none⟩) := by simpa using hp
  simp [results, h, hp', asAddr, run_loadVar_row w g t ty cs fr d hg hu hd hi]
attribute [local go_sem] cell_bx froz_bx cell_own froz_own cell_rd cell_cel ints_get ints_set cell_ownv froz_ownv eql_nil_int
set_option linter.unusedVariables false
set_option linter.unusedSimpArgs false

set_option maxRecDepth 100000 in
set_option maxHeartbeats 4000000 in
theorem mcanon_calls (F : Fd) (b n c m cols : Nat) (xss : List (List Int)) (Ax : Option Addr) (w : World) (hF : FOK F) (hx : Grid n m xss) (hel : EntR F.q xss) (hn : n ≤ 1000) (hm0 : 0 < m) (hm : m ≤ 1000) (hcols : cols ≤ m) [hg : GFp w b F] [hX : Sls w Ax xss] :
    Calls Try.prog 161 #[.pointer (some ⟨b, 0, none⟩), .slice Ax n c, .int .i64 cols] w fun e w' => ∃ (g : Nat) (cs : List Value) (Ap : Option Addr) (cp : Nat),
      e = .returned (.tuple #[.slice (some ⟨g, 0, none⟩) (F.pivs xss cols).length (F.pivs xss cols).length, .slice Ap (F.pivs xss cols).length cp]) ∧ (F.pivs xss cols).length ≤ cp ∧ OwnV w' g 22 cs ∧ Inn w' cs (F.elim xss cols).1 ∧ Row w' (.slice Ap (F.pivs xss cols).length cp) 3 (nums (F.pivs xss cols)) ∧ Ext w w' := by
  have hle := (elim_grid F hx cols).2
  obtain ⟨k, hk⟩ : ∃ k, k = (F.elim xss cols).2.length := ⟨_, rfl⟩
  have hkn : k ≤ n := by rw [hk]; exact hle
  have HK := hidd hk
  clear hk hle
  go_enter Try.func161, Try.ntmps161
  go_wp2_with (first
    | (go_at_call 166; refine (mclone_calls xss Ax n c m _ hx (by omega) hm0 (by omega)).mono ?_; rintro e w1 ⟨g1, cs1, rfl, hown1, hinn1, hdis1, hge1, hf1, hx1⟩; have hB1 : Bel w w1 := inferInstance)
    | (go_at_call 167; refine (melim_calls F b g1 n n m cols cs1 xss w _ hF hx hel hn hm0 hm hcols hdis1 hge1).mono ?_; rintro e w2 ⟨Ap, cp, d2, cs2, rfl, hcp, hsp, hown2, hinn2, hB2⟩; rw [← HK.out] at hcp hsp ⊢))
  go_ret2
  have hkp : (F.pivs xss cols).length = k := HK.out.symm
  rw [hkp]
  exact ⟨g1, cs2, Ap, cp, rfl, hcp, hown2, hinn2, hsp, hB2.ext⟩

set_option maxRecDepth 100000 in
set_option maxHeartbeats 4000000 in
theorem canonical_calls (F : Fd) (A : Option Addr) (n c : Nat) (rows : List (List Int)) (Ar : Option Addr) (nr cr : Nat) (cols : Int) (w : World) (hn : F.md.length = n) (hn2 : n ≤ 1000000000000000000) (hr : rows.length = nr) (hr2 : nr ≤ 1000000000000000000) (hrl : ∀ k, (gr rows k).length ≤ 1000000000000000000) (hc0 : 0 < cols) [hA : Sl w A F.md] [hR : Sls w Ar rows] :
    Calls Try.prog 156 #[.agg #[.int .i64 F.p, .int .i64 F.m, .slice A n c], .agg #[.int .i64 cols, .slice Ar nr cr]] w fun e w' =>
      (matE F cols rows ≠ 0 ∧ e = .returned (.tuple #[.agg #[.int .i64 0, .slice none 0 0], .slice none 0 0, .int .i64 (matE F cols rows)]) ∧ Ext w w') ∨ (matE F cols rows = 0 ∧ ∃ (B : Option Addr) (Ap : Option Addr) (cp : Nat), e = .returned (.tuple #[.agg #[.int .i64 cols, .slice B (F.pivs rows cols.toNat).length (F.pivs rows cols.toNat).length], .slice Ap (F.pivs rows cols.toNat).length cp, .int .i64 0]) ∧ (F.pivs rows cols.toNat).length ≤ cp ∧ Sls w' B (F.canon rows cols.toNat) ∧ Sl w' Ap (F.pivs rows cols.toNat) ∧ Ext w w') := by
  have HRL := hidd hrl
  clear hrl
  by_cases h0 : matE F cols rows = 0
  · obtain ⟨hO, hS, hE⟩ := matE_ok h0
    obtain ⟨cc, rfl⟩ : ∃ cc : Nat, cols = cc := ⟨cols.toNat, by omega⟩
    have hgr : Grid nr cc rows := ⟨hr, fun k hk => by have := hS.2.2.2 k (by omega); omega⟩
    have hnr : nr ≤ 1000 := by have := hS.2.2.1; omega
    have hcc : cc ≤ 1000 := by have := hS.2.1; omega
    have hF := fok_iff.2 hO
    have H0 := hidd h0
    clear h0 hS hO
    obtain ⟨k, hk⟩ : ∃ k, k = (F.pivs rows cc).length := ⟨_, rfl⟩
    have HK := hidd hk
    clear hk
    have htn : ((cc : Int)).toNat = cc := rfl
    go_enter Try.func156, Try.ntmps156
    go_wp2_with (first
      | (go_at_call 160; refine (open_calls F A n c _ rows Ar nr cr cc _ hn hn2 hr hr2 HRL.out).mono ?_; rintro e w1 (⟨h, _⟩ | ⟨_, g, rfl, hf1, hgp, hx1⟩); exact absurd H0.out h)
      | (go_at_call 161; refine (mcanon_calls F g nr cr cc cc rows Ar _ hF hgr hE hnr (by omega) hcc (Nat.le_refl _)).mono ?_; rintro e w2 ⟨g2, cs2, Ap, cp, rfl, hcp, hown2, hinn2, hrow2, hx2⟩; rw [← HK.out] at hcp hrow2 ⊢))
    obtain ⟨w3, hw3⟩ : ∃ w3, w3 = (w2.setCell ⟨w.heap.size + 1 + 1, 0, none⟩ (.int .i64 cc)).setCell ⟨w.heap.size + 1 + 1, 1, none⟩ (.slice (some ⟨g2, 0, none⟩) k k) := ⟨_, rfl⟩
    have h2 : Bx w2 (w.heap.size + 1 + 1) #[.int .i64 0, .slice none 0 0] 91 := inferInstance
    have hbz : Bx w3 (w.heap.size + 1 + 1) #[.int .i64 cc, .slice (some ⟨g2, 0, none⟩) k k] 91 := by
      have h3 := bx_set (k := 1) (u := .slice (some ⟨g2, 0, none⟩) k k) (h := bx_set (k := 0) (u := .int .i64 (cc : Int)) (h := h2))
      rw [hw3]
      simpa using h3
    have a1 : Apart g2 (w.heap.size + 1 + 1) := ⟨fun e => ownv_bx_ne hown2 h2 (by decide) e.symm⟩
    have a2 : ApV (w.heap.size + 1 + 1) (.slice Ap k cp) := ⟨fun e => by
      obtain ⟨c3, he, _, ho⟩ := hrow2.own2 e.symm
      exact own_bx_ne ho h2 (by decide) rfl⟩
    have hown3 : OwnV w3 g2 22 cs2 := by rw [hw3]; infer_instance
    have hrow3 : Row w3 (.slice Ap k cp) 3 (nums (F.pivs rows cc)) := by rw [hw3]; infer_instance
    have hap : CsAp (w.heap.size + 1 + 1) cs2 := fun i hi e => by
      obtain ⟨q, cq, h1, h3⟩ := hinn2.out i (by rw [← hinn2.len]; exact hi)
      rw [h1, own_of] at e
      exact own_bx_ne h3 h2 (by decide) (Option.some.inj e).symm
    have hinn3 : Inn w3 cs2 (F.elim rows cc).1 := by rw [hw3]; exact (hinn2.set_ hap).set_ hap
    have hB3 : Bel w w3 := by rw [hw3]; infer_instance
    rw [← hw3]
    obtain ⟨Ap2, c2, he, _, hs2, -⟩ := hrow3.reads
    injection he with e1 _ _
    subst e1
    refine bodyPost_ret (results_cell3 rfl _ _ (w.heap.size + 1 + 1) _ _ _ _ rfl hbz.out Try.underlying91 rfl (by kernel_rfl)) rfl ?_
    right
    rw [htn, ← HK.out]
    exact ⟨H0.out, some ⟨g2, 0, none⟩, Ap, cp, rfl, hcp, (by rw [Fd.canon, show (F.elim rows cc).2.length = k from HK.out.symm]; exact (hown3.sls hinn3).take k), hs2, hB3.ext⟩
  · have hb0 : (matE F cols rows != 0) = true := by simp [h0]
    have H0 := hidd h0
    clear h0
    go_enter Try.func156, Try.ntmps156
    go_wp2_with (go_at_call 160; refine (open_calls F A n c _ rows Ar nr cr cols _ hn hn2 hr hr2 HRL.out).mono ?_; rintro e w1 (⟨_, rfl, hx1⟩ | ⟨h, _⟩); rotate_left; exact absurd h H0.out)
    have hbz : Bx ((w1.setCell ⟨w.heap.size + 1 + 1, 0, none⟩ (.int .i64 0)).setCell ⟨w.heap.size + 1 + 1, 1, none⟩ (.slice none 0 0)) (w.heap.size + 1 + 1) #[.int .i64 0, .slice none 0 0] 91 := by
      have h2 : Bx w1 (w.heap.size + 1 + 1) #[.int .i64 0, .slice none 0 0] 91 := inferInstance
      have h3 := bx_set (k := 1) (u := .slice none 0 0) (h := bx_set (k := 0) (u := .int .i64 0) (h := h2))
      simpa using h3
    refine bodyPost_ret (results_cell3 rfl _ _ (w.heap.size + 1 + 1) _ _ _ _ rfl hbz.out Try.underlying91 rfl (by kernel_rfl)) rfl ?_
    exact .inl ⟨H0.out, rfl, Bel.ext inferInstance⟩

set_option maxRecDepth 100000 in
set_option maxHeartbeats 2000000 in
theorem sequal_calls (a b : List Int) (Aa Ab : Option Addr) (na ca nb cb : Nat) (w : World) (hna : a.length = na) (hnb : b.length = nb) (hnm : na ≤ 1000000000000000000) [hA : Sl w Aa a] [hB : Sl w Ab b] :
    Calls Try.prog 95 #[.slice Aa na ca, .slice Ab nb cb] w fun e w' => e = .returned (.bool (decide (a = b))) ∧ Ext w w' := by
  subst hna hnb
  by_cases hl : a.length = b.length
  · have hlb : ((a.length : Int) != (b.length : Int)) = false := by simp [hl]
    have HL := hidd hl
    clear hl
    go_enter Try.func95, Try.ntmps95
    go_wp2
    go_loopw [13] (fun iv wr => ∃ k : Nat, iv = .int .i64 k ∧ k ≤ a.length ∧ Bel w wr ∧ Hid (∀ j, j < k → gt a j = gt b j)) (fun iv _ => a.length - (intOf iv).toNat)
    case atStart => exact ⟨0, rfl, by omega, inferInstance, fun j hj => by omega⟩
    case round =>
      obtain ⟨k, rfl, hk, hbel, HI⟩ := hrel
      by_cases hlt : k < a.length
      · have hlt2 : k < b.length := by have := HL.out; omega
        obtain ⟨ada, rfl, rda⟩ := hA.at_ hlt
        obtain ⟨adb, rfl, rdb⟩ := hB.at_ hlt2
        by_cases he : gt a k = gt b k
        · have heb : (gt a k != gt b k) = false := by simp [he]
          have HE := hidd he
          clear he
          go_wp2
          go_quiet (fail)
          go_wp2
          go_roundw
          case rel => exact ⟨k + 1, by go_num, by omega, inferInstance, fun j hj => by
            by_cases e : j = k
            · rw [e]; exact HE.out
            · exact HI.out j (by omega)⟩
          case measure => simp [intOf] <;> omega
        · have heb : (gt a k != gt b k) = true := by simp [he]
          have HE := hidd he
          clear he
          go_wp2
          go_quiet (fail)
          go_wp2
          go_ret
          exact ⟨ret_bool (decide_eq_false (fun h => HE.out (by rw [h]))).symm, Bel.ext inferInstance⟩
      · obtain rfl : k = a.length := by omega
        go_wp2
        go_ret
        exact ⟨ret_bool (decide_eq_true (ext_gt HL.out HI.out)).symm, hbel.ext⟩
  · have hlb : ((a.length : Int) != (b.length : Int)) = true := by simp; omega
    have HL := hidd hl
    clear hl
    go_enter Try.func95, Try.ntmps95
    go_wp2
    go_ret
    exact ⟨ret_bool (decide_eq_false (fun h => HL.out (by rw [h]))).symm, Bel.ext inferInstance⟩

set_option maxRecDepth 100000 in
set_option maxHeartbeats 2000000 in
theorem sequalf_calls (a b : List (List Int)) (Aa Ab : Option Addr) (na ca nb cb : Nat) (w : World) (hna : a.length = na) (hnb : b.length = nb) (hnm : na ≤ 1000000000000000000) (hin : ∀ k, (gr a k).length ≤ 1000000000000000000) [hA : Sls w Aa a] [hB : Sls w Ab b] :
    Calls Try.prog 157 #[.slice Aa na ca, .slice Ab nb cb, .func (.func 95) #[] #[]] w fun e w' => e = .returned (.bool (decide (a = b))) ∧ Ext w w' := by
  subst hna hnb
  have HIN := hidd hin
  clear hin
  by_cases hl : a.length = b.length
  · have hlb : ((a.length : Int) != (b.length : Int)) = false := by simp [hl]
    have HL := hidd hl
    clear hl
    go_enter Try.func157, Try.ntmps157
    go_wp2
    go_loopw [17] (fun iv wr => ∃ k : Nat, iv = .int .i64 k ∧ k ≤ a.length ∧ Bel w wr ∧ Hid (∀ j, j < k → gr a j = gr b j)) (fun iv _ => a.length - (intOf iv).toNat)
    case atStart => exact ⟨0, rfl, by omega, inferInstance, fun j hj => by omega⟩
    case round =>
      obtain ⟨k, rfl, hk, hbel, HI⟩ := hrel
      by_cases hlt : k < a.length
      · have hlt2 : k < b.length := by have := HL.out; omega
        obtain ⟨ada, Ba, ka, rfl, hca, hsa⟩ := hA.at_ hlt
        obtain ⟨adb, Bb, kb, rfl, hcb, hsb⟩ := hB.at_ hlt2
        have hla := HIN.out k
        by_cases he : gr a k = gr b k
        · have heb : decide (gr a k = gr b k) = true := decide_eq_true he
          have HE := hidd he
          clear he
          go_wp2_with (go_at_call 95; refine (sequal_calls (gr a k) (gr b k) Ba Bb _ ka _ kb _ rfl rfl hla).mono ?_; rintro e w2 ⟨rfl, hx2⟩; rw [heb])
          go_roundw
          case rel => exact ⟨k + 1, by go_num, by omega, inferInstance, fun j hj => by
            by_cases e : j = k
            · rw [e]; exact HE.out
            · exact HI.out j (by omega)⟩
          case measure => simp [intOf] <;> omega
        · have heb : decide (gr a k = gr b k) = false := decide_eq_false he
          have HE := hidd he
          clear he
          go_wp2_with (go_at_call 95; refine (sequal_calls (gr a k) (gr b k) Ba Bb _ ka _ kb _ rfl rfl hla).mono ?_; rintro e w2 ⟨rfl, hx2⟩; rw [heb])
          go_ret
          exact ⟨ret_bool (decide_eq_false (fun h => HE.out (by rw [h]))).symm, Bel.ext inferInstance⟩
      · obtain rfl : k = a.length := by omega
        go_wp2
        go_ret
        exact ⟨ret_bool (decide_eq_true (ext_gr HL.out HI.out)).symm, hbel.ext⟩
  · have hlb : ((a.length : Int) != (b.length : Int)) = true := by simp; omega
    have HL := hidd hl
    clear hl
    go_enter Try.func157, Try.ntmps157
    go_wp2
    go_ret
    exact ⟨ret_bool (decide_eq_false (fun h => HL.out (by rw [h]))).symm, Bel.ext inferInstance⟩

end Go.Proofs.Ytcigdhmecfhndaa

namespace Go.Proofs.Ytcigdhmecfhndaa
open Go.RowKit
attribute [local go_sem] cell_bx froz_bx cell_own froz_own cell_rd cell_cel ints_get ints_set cell_ownv froz_ownv eql_nil_int
set_option linter.unusedVariables false
set_option linter.unusedSimpArgs false

theorem bx_four {w : World} {b : Nat} {v0 v1 v2 v3 : Value} {t : TypeId} (h : Bx w b #[v0, v1, v2, v3] t) (u0 u1 u2 u3 : Value) :
    Bx ((((w.setCell ⟨b, 0, none⟩ u0).setCell ⟨b, 1, none⟩ u1).setCell ⟨b, 2, none⟩ u2).setCell ⟨b, 3, none⟩ u3) b #[u0, u1, u2, u3] t := by
  have h4 := bx_set (k := 3) (u := u3) (h := bx_set (k := 2) (u := u2) (h := bx_set (k := 1) (u := u1) (h := bx_set (k := 0) (u := u0) (h := h))))
  simpa using h4

set_option maxRecDepth 100000 in
set_option maxHeartbeats 8000000 in
theorem sopen_calls (F : Fd) (A : Option Addr) (n c : Nat) (rows : List (List Int)) (Ar : Option Addr) (nr cr : Nat) (cols : Int) (w : World) (hn : F.md.length = n) (hn2 : n ≤ 1000000000000000000) (hr : rows.length = nr) (hr2 : nr ≤ 1000000000000000000) (hrl : ∀ k, (gr rows k).length ≤ 1000000000000000000) (hc0 : 0 < cols) [hA : Sl w A F.md] [hR : Sls w Ar rows] :
    Calls Try.prog 136 #[.agg #[.int .i64 F.p, .int .i64 F.m, .slice A n c], .agg #[.int .i64 cols, .slice Ar nr cr]] w fun e w' => ∃ (p : Option Addr) (i : Int) (A1 A2 : Option Addr) (n1 c1 n2 c2 : Nat), e = .returned (.tuple #[.agg #[.pointer p, .int .i64 i, .slice A1 n1 c1, .slice A2 n2 c2], .int .i64 (spcE F cols rows)]) ∧ Ext w w' := by
  have HRL := hidd hrl
  clear hrl
  by_cases h0 : matE F cols rows = 0
  · obtain ⟨hO, hS, hE⟩ := matE_ok h0
    have hF := fok_iff.2 hO
    have H0 := hidd h0
    have hgc : Grid rows.length cols.toNat rows := hS.grid
    have hcl : (F.canon rows cols.toNat).length = (F.pivs rows cols.toNat).length := canon_len F hgc _
    have hcg : ∀ k, (gr (F.canon rows cols.toNat) k).length ≤ 1000000000000000000 := fun k => by
      by_cases hk : k < (F.canon rows cols.toNat).length
      · have h1 := (elim_grid F hgc cols.toNat).1
        rw [← Fd.elim] at h1
        have h2 : gr (F.canon rows cols.toNat) k = gr (F.elim rows cols.toNat).1 k := by
          rw [Fd.canon] at hk ⊢
          rw [List.length_take] at hk
          simp [gr, List.getElem?_take_of_lt (show k < (F.elim rows cols.toNat).2.length by omega)]
        rw [h2, h1.2 k (by
          rw [Fd.canon, List.length_take] at hk
          have := h1.1; omega)]
        have := hS.2.1; omega
      · rw [gr_out (by omega)]; simp
    have hkn : (F.pivs rows cols.toNat).length ≤ 1000000 := by
      have := (elim_grid F hgc cols.toNat).2
      have h3 := hS.2.2.1
      rw [Fd.pivs, Fd.elim]; omega
    obtain ⟨k, hk⟩ : ∃ k, k = (F.pivs rows cols.toNat).length := ⟨_, rfl⟩
    have HK := hidd hk
    rw [← hk] at hkn hcl
    have HCL := hidd hcl
    have HCG := hidd hcg
    clear hk hcl hcg h0 hgc
    by_cases he : F.canon rows cols.toNat = rows
    · have hde : decide (F.canon rows cols.toNat = rows) = true := decide_eq_true he
      have HS : Hid (spcE F cols rows = 0) := by show _ = _; rw [spcE, if_pos H0.out, if_pos he]
      clear he
      go_enter Try.func136, Try.ntmps136
      go_wp2_with (first
        | (go_at_call 156; refine (canonical_calls F A n c rows Ar nr cr cols _ hn hn2 hr hr2 HRL.out hc0).mono ?_; rintro e w1 (⟨h, _⟩ | ⟨_, B, Ap, cp, rfl, hcp, hsb, hsp, hx1⟩); exact absurd H0.out h; rw [← HK.out] at hcp ⊢)
        | (go_at_call 157; refine (sequalf_calls (F.canon rows cols.toNat) rows B Ar _ _ _ cr _ HCL.out hr (by omega) HCG.out).mono ?_; rintro e w2 ⟨rfl, hx2⟩; rw [hde])
        | (go_at_call 81; refine (new_fok F A n c _ hn hn2 hF).mono ?_; rintro e w3 ⟨g, rfl, hf, hgp, hx3⟩))
      have h2 : Bx w3 (w.heap.size + 1 + 1) #[.pointer none, .int .i64 0, .slice none 0 0, .slice none 0 0] 143 := inferInstance
      have hbz := bx_four h2 (.pointer (some ⟨g, 0, none⟩)) (.int .i64 cols) (.slice Ar nr cr) (.slice Ap k cp)
      refine bodyPost_ret (results_cell2 rfl _ _ (w.heap.size + 1 + 1) _ _ _ _ rfl hbz.out Try.underlying143 rfl (by kernel_rfl)) rfl ?_
      exact ⟨_, _, _, _, _, _, _, _, by rw [HS.out]; rfl, Bel.ext inferInstance⟩
    · have hde : decide (F.canon rows cols.toNat = rows) = false := decide_eq_false he
      have HS : Hid (spcE F cols rows = 5) := by show _ = _; rw [spcE, if_pos H0.out, if_neg he]
      clear he
      go_enter Try.func136, Try.ntmps136
      go_wp2_with (first
        | (go_at_call 156; refine (canonical_calls F A n c rows Ar nr cr cols _ hn hn2 hr hr2 HRL.out hc0).mono ?_; rintro e w1 (⟨h, _⟩ | ⟨_, B, Ap, cp, rfl, hcp, hsb, hsp, hx1⟩); exact absurd H0.out h; rw [← HK.out] at hcp ⊢)
        | (go_at_call 157; refine (sequalf_calls (F.canon rows cols.toNat) rows B Ar _ _ _ cr _ HCL.out hr (by omega) HCG.out).mono ?_; rintro e w2 ⟨rfl, hx2⟩; rw [hde]))
      have h2 : Bx w2 (w.heap.size + 1 + 1) #[.pointer none, .int .i64 0, .slice none 0 0, .slice none 0 0] 143 := inferInstance
      have hbz := bx_four h2 (.pointer none) (.int .i64 0) (.slice none 0 0) (.slice none 0 0)
      refine bodyPost_ret (results_cell2 rfl _ _ (w.heap.size + 1 + 1) _ _ _ _ rfl hbz.out Try.underlying143 rfl (by kernel_rfl)) rfl ?_
      exact ⟨_, _, _, _, _, _, _, _, by rw [HS.out]; rfl, Bel.ext inferInstance⟩
  · have hb0 : (matE F cols rows != 0) = true := by simp [h0]
    have H0 := hidd h0
    have HS : Hid (spcE F cols rows = matE F cols rows) := by show _ = _; rw [spcE, if_neg h0]
    clear h0
    go_enter Try.func136, Try.ntmps136
    go_wp2_with (go_at_call 156; refine (canonical_calls F A n c rows Ar nr cr cols _ hn hn2 hr hr2 HRL.out hc0).mono ?_; rintro e w1 (⟨_, rfl, hx1⟩ | ⟨h, _⟩); rotate_left; exact absurd h H0.out)
    have h2 : Bx (w1.alloc (.cells #[.int .i64 0, .slice none 0 0] 91)) (w.heap.size + 1 + 1) #[.pointer none, .int .i64 0, .slice none 0 0, .slice none 0 0] 143 := inferInstance
    have hbz := bx_four h2 (.pointer none) (.int .i64 0) (.slice none 0 0) (.slice none 0 0)
    refine bodyPost_ret (results_cell2 rfl _ _ (w.heap.size + 1 + 1) _ _ _ _ rfl hbz.out Try.underlying143 rfl (by kernel_rfl)) rfl ?_
    exact ⟨_, _, _, _, _, _, _, _, by rw [HS.out]; rfl, Bel.ext inferInstance⟩

set_option maxRecDepth 100000 in
set_option maxHeartbeats 4000000 in
theorem scheck_calls (F : Fd) (A : Option Addr) (n c : Nat) (rows : List (List Int)) (Ar : Option Addr) (nr cr : Nat) (cols : Int) (w : World) (hn : F.md.length = n) (hn2 : n ≤ 1000000000000000000) (hr : rows.length = nr) (hr2 : nr ≤ 1000000000000000000) (hrl : ∀ k, (gr rows k).length ≤ 1000000000000000000) (hc0 : 0 < cols) [hA : Sl w A F.md] [hR : Sls w Ar rows] :
    Calls Try.prog 110 #[.agg #[.int .i64 F.p, .int .i64 F.m, .slice A n c], .agg #[.int .i64 cols, .slice Ar nr cr]] w fun e w' => e = .returned (.int .i64 (spcE F cols rows)) ∧ Ext w w' := by
  go_enter Try.func110, Try.ntmps110
  go_wp2_with (go_at_call 136; refine (sopen_calls F A n c rows Ar nr cr cols _ hn hn2 hr hr2 hrl hc0).mono ?_; rintro e w1 ⟨p1, i1, A1, A2, n1, c1, n2, c2, rfl, hx1⟩)
  go_ret
  exact ⟨rfl, Bel.ext inferInstance⟩

set_option maxRecDepth 100000 in
set_option maxHeartbeats 4000000 in
theorem gen_calls (F : Fd) (A : Option Addr) (n c : Nat) (Ar : Option Addr) (nr cr : Nat) (N : Int) (w : World) :
    Calls Try.prog 111 #[.agg #[.int .i64 F.p, .int .i64 F.m, .slice A n c, .int .i64 N, .slice Ar nr cr]] w fun e w' => e = .returned (.agg #[.int .i64 N, .slice Ar nr cr]) ∧ Ext w w' := by
  go_enter Try.func111, Try.ntmps111
  go_wp2
  have hbz : Bx ((w.alloc (.cells #[.int .i64 F.p, .int .i64 F.m, .slice A n c, .int .i64 N, .slice Ar nr cr] 27)).alloc (.cells #[.int .i64 N, .slice Ar nr cr] 91)) (w.heap.size + 1) #[.int .i64 N, .slice Ar nr cr] 91 := inferInstance
  refine bodyPost_ret (results_cell_row rfl _ _ (w.heap.size + 1) _ _ _ _ rfl hbz.out Try.underlying91 rfl (by kernel_rfl)) rfl ?_
  exact ⟨rfl, Bel.ext inferInstance⟩

set_option maxRecDepth 100000 in
set_option maxHeartbeats 4000000 in
theorem length_calls (N : Int) (w : World) :
    Calls Try.prog 109 #[.int .i64 N] w fun e w' => e = .returned (.int .i64 (if 1 ≤ N ∧ N ≤ 64 then 0 else 4)) ∧ Ext w w' := by
  by_cases h1 : N < 1
  · go_enter Try.func109, Try.ntmps109
    go_wp2
    go_ret
    exact ⟨rfl, Bel.ext inferInstance⟩
  · by_cases h2 : 64 < N
    · go_enter Try.func109, Try.ntmps109
      go_wp2
      go_ret
      exact ⟨rfl, Bel.ext inferInstance⟩
    · go_enter Try.func109, Try.ntmps109
      go_wp2
      go_ret
      exact ⟨rfl, Bel.ext inferInstance⟩

set_option maxRecDepth 100000 in
set_option maxHeartbeats 4000000 in
theorem ccheck_calls (F : Fd) (A : Option Addr) (n c : Nat) (rows : List (List Int)) (Ar : Option Addr) (nr cr : Nat) (N : Int) (w : World) (hn : F.md.length = n) (hn2 : n ≤ 1000000000000000000) (hr : rows.length = nr) (hr2 : nr ≤ 1000000000000000000) (hrl : ∀ k, (gr rows k).length ≤ 1000000000000000000) [hA : Sl w A F.md] [hR : Sls w Ar rows] :
    Calls Try.prog 71 #[.agg #[.int .i64 F.p, .int .i64 F.m, .slice A n c, .int .i64 N, .slice Ar nr cr]] w fun e w' => e = .returned (.int .i64 (codE F N rows)) ∧ Ext w w' := by
  have HRL := hidd hrl
  clear hrl
  by_cases hF : FOK F
  · have hfe := fokE_yes hF
    have hRO := fok_iff.1 hF
    by_cases hN : 1 ≤ N ∧ N ≤ 64
    · have hle : (if 1 ≤ N ∧ N ≤ 64 then (0 : Int) else 4) = 0 := if_pos hN
      have HC : Hid (codE F N rows = spcE F N rows) := by show _ = _; rw [codE, if_pos hRO, if_pos hN]
      have hN0 : 0 < N := by omega
      clear hN hF
      go_enter Try.func71, Try.ntmps71
      go_wp2_with (first
        | (go_at_call 108; refine (fcheck_calls F A n c _ hn hn2).mono ?_; rintro e w1 ⟨rfl, hx1⟩; rw [hfe])
        | (go_at_call 109; refine (length_calls N _).mono ?_; rintro e w2 ⟨rfl, hx2⟩; rw [hle]))
      have hN2 : Near w2.heap.size w2 w2 := ⟨Below.refl _ _⟩
      go_region_held3 (fun w' => Near w2.heap.size w2 w') (infer_instance)
        ((first
          | (go_at_call 111; refine (gen_calls F A n c Ar nr cr N _).mono ?_; rintro e w3 ⟨rfl, hx3⟩)
          | (go_at_call 110; refine (scheck_calls F A n c rows Ar nr cr N _ hn hn2 hr hr2 HRL.out hN0).mono ?_; rintro e w4 ⟨rfl, hx4⟩)))
      go_wp2
      go_ret
      exact ⟨ret_int (by rw [HC.out]), Bel.ext inferInstance⟩
    · have hle : (if 1 ≤ N ∧ N ≤ 64 then (0 : Int) else 4) = 4 := if_neg hN
      have HC : Hid (codE F N rows = 4) := by show _ = _; rw [codE, if_pos hRO, if_neg hN]
      clear hN hF
      go_enter Try.func71, Try.ntmps71
      go_wp2_with (first
        | (go_at_call 108; refine (fcheck_calls F A n c _ hn hn2).mono ?_; rintro e w1 ⟨rfl, hx1⟩; rw [hfe])
        | (go_at_call 109; refine (length_calls N _).mono ?_; rintro e w2 ⟨rfl, hx2⟩; rw [hle]))
      go_ret
      exact ⟨ret_int (by rw [HC.out]), Bel.ext inferInstance⟩
  · have hfe := fokE_no hF
    have hRO : ¬ RefOK F := fun h => hF (fok_iff.2 h)
    have HC : Hid (codE F N rows = 1) := by show _ = _; rw [codE, if_neg hRO]
    clear hF
    go_enter Try.func71, Try.ntmps71
    go_wp2_with (go_at_call 108; refine (fcheck_calls F A n c _ hn hn2).mono ?_; rintro e w1 ⟨rfl, hx1⟩; rw [hfe])
    go_ret
    exact ⟨ret_int (by rw [HC.out]), Bel.ext inferInstance⟩

set_option maxRecDepth 100000 in
set_option maxHeartbeats 4000000 in
theorem csize_calls (F : Fd) (A : Option Addr) (n c : Nat) (rows : List (List Int)) (Ar : Option Addr) (nr cr : Nat) (N : Int) (w : World) (hn : F.md.length = n) (hn2 : n ≤ 1000000000000000000) (hr : rows.length = nr) (hr2 : nr ≤ 1000000000000000000) (hrl : ∀ k, (gr rows k).length ≤ 1000000000000000000) [hA : Sl w A F.md] [hR : Sls w Ar rows] :
    Calls Try.prog 65 #[.agg #[.int .i64 F.p, .int .i64 F.m, .slice A n c, .int .i64 N, .slice Ar nr cr]] w fun e w' => e = .returned (.tuple #[.int .i64 (sizV F N rows), .int .i64 (sizE F N rows)]) ∧ Ext w w' := by
  have HRL := hidd hrl
  clear hrl
  subst hr
  by_cases h0 : codE F N rows = 0
  · have hRO := (codE_ok h0).1
    have hF := fok_iff.2 hRO
    have hq2 := hRO.good.q2
    have hq3 := hRO.good.q256
    have HOK := hidd h0
    go_enter Try.func65, Try.ntmps65
    go_wp2_with (first
      | (go_at_call 81; refine (new_fok F A n c _ hn hn2 hF).mono ?_; rintro e w1 ⟨g, rfl, hf, hgp, hx1⟩)
      | (go_at_call 71; refine (ccheck_calls F A n c rows Ar rows.length cr N _ hn hn2 rfl hr2 HRL.out).mono ?_; rintro e w2 ⟨rfl, hx2⟩; rw [h0]))
    clear h0
    have hN2 : Near w2.heap.size w2 w2 := ⟨Below.refl _ _⟩
    go_region_held3 (fun w' => Near w2.heap.size w2 w') (infer_instance)
      ((first
        | (go_at_call 102; refine (gorder_calls F g _).mono ?_; rintro e w3 ⟨rfl, hx3⟩)
        | (go_at_call 101; refine (expn_calls F.q rows.length _ hq2 hq3 hr2).mono ?_; rintro e w4 ⟨rfl, hx4⟩)))
    go_wp2
    go_ret2
    exact ⟨ret_two (by rw [sizV, if_pos HOK.out]) (by rw [sizE, if_pos HOK.out]), Bel.ext inferInstance⟩
  · have hb : (codE F N rows != 0) = true := by simp [h0]
    have HOK := hidd h0
    clear h0
    by_cases hF : FOK F
    · go_enter Try.func65, Try.ntmps65
      go_wp2_with (first
        | (go_at_call 81; refine (new_fok F A n c _ hn hn2 hF).mono ?_; rintro e w1 ⟨g, rfl, hf, hgp, hx1⟩)
        | (go_at_call 71; refine (ccheck_calls F A n c rows Ar rows.length cr N _ hn hn2 rfl hr2 HRL.out).mono ?_; rintro e w2 ⟨rfl, hx2⟩))
      go_ret2
      exact ⟨ret_two (by rw [sizV, if_neg HOK.out]) (by rw [sizE, if_neg HOK.out]), Bel.ext inferInstance⟩
    · go_enter Try.func65, Try.ntmps65
      go_wp2_with (first
        | (go_at_call 81; refine (new_no F A n c _ hn hn2 hF).mono ?_; rintro e w1 ⟨rfl, hx1⟩)
        | (go_at_call 71; refine (ccheck_calls F A n c rows Ar rows.length cr N _ hn hn2 rfl hr2 HRL.out).mono ?_; rintro e w2 ⟨rfl, hx2⟩))
      go_ret2
      exact ⟨ret_two (by rw [sizV, if_neg HOK.out]) (by rw [sizE, if_neg HOK.out]), Bel.ext inferInstance⟩

end Go.Proofs.Ytcigdhmecfhndaa

/- The walks of CosetWeights, codewrightref11.Add, codewrightref12.Count. -/
import Derived.Test.YtcigdhmecfhndaaLin
namespace Go.Proofs.Ytcigdhmecfhndaa
open Go.RowKit
attribute [local go_sem] cell_bx froz_bx cell_own froz_own cell_rd cell_cel ints_get ints_set cell_ownv froz_ownv eql_nil_int Oper.semAt_some
set_option linter.unusedVariables false
set_option linter.unusedSimpArgs false

theorem wp_region_EN {P : Program} {id : Nat} {ops : Array Oper} {Q : Exit → Act → World → Prop} {S : World → Prop} {a : Act} {w : World} (t : Nat) (hm : P.follows .mixedOrders = true) (hS : S w.drew)
    (h : S w.drew → wpAnyE P .any ops (fun e a w => e = Exit.normal ∧ Q .normal a w) S t ops.size (Array.replicate ops.size false) a w.drew) : (Code.region id ops true).wp P Q a w :=
  Code.wp_mono (fun e a w h => by obtain ⟨rfl, h⟩ := h; exact h) (wp_region_E t hm hS h)

open Classical in
noncomputable def cntV (F : Fd) (N : Int) (rows : List (List Int)) (m : Int) : Int := if sizE F N rows = 0 ∧ sizV F N rows ≤ m then sizV F N rows else 0

set_option maxRecDepth 100000 in
set_option maxHeartbeats 4000000 in
theorem count12_calls (F : Fd) (A : Option Addr) (n c : Nat) (rows : List (List Int)) (Ar : Option Addr) (nr cr : Nat) (N m : Int) (w : World) (hn : F.md.length = n) (hn2 : n ≤ 1000000000000000000) (hr : rows.length = nr) (hr2 : nr ≤ 1000000000000000000) (hrl : ∀ k, (gr rows k).length ≤ 1000000000000000000) [hA : Sl w A F.md] [hR : Sls w Ar rows] :
    Calls Try.prog 44 #[.agg #[.int .i64 F.p, .int .i64 F.m, .slice A n c, .int .i64 N, .slice Ar nr cr], .int .i64 m] w fun e w' => e = .returned (.int .i64 (cntV F N rows m)) ∧ Ext w w' := by
  by_cases hok : sizE F N rows = 0
  · by_cases hv : sizV F N rows ≤ m
    · have HS : Hid (cntV F N rows m = sizV F N rows) := by show _ = _; rw [cntV, if_pos ⟨hok, hv⟩]
      have hv2 : ¬ m < sizV F N rows := by omega
      go_enter Try.func44, Try.ntmps44
      go_wp2_with (go_at_call 22; refine (size12_calls F A n c rows Ar nr cr N _ hn hn2 hr hr2 hrl).mono ?_; rintro e w1 ⟨rfl, hx1⟩; rw [hok])
      go_ret
      exact ⟨ret_int HS.out.symm, Bel.ext inferInstance⟩
    · have HS : Hid (cntV F N rows m = 0) := by show _ = _; rw [cntV, if_neg fun h => hv h.2]
      have hv2 : m < sizV F N rows := by omega
      go_enter Try.func44, Try.ntmps44
      go_wp2_with (go_at_call 22; refine (size12_calls F A n c rows Ar nr cr N _ hn hn2 hr hr2 hrl).mono ?_; rintro e w1 ⟨rfl, hx1⟩; rw [hok])
      go_ret
      exact ⟨ret_int HS.out.symm, Bel.ext inferInstance⟩
  · have hb : (sizE F N rows != 0) = true := by simp [hok]
    have HS : Hid (cntV F N rows m = 0) := by show _ = _; rw [cntV, if_neg fun h => hok h.1]
    clear hok
    go_enter Try.func44, Try.ntmps44
    go_wp2_with (go_at_call 22; refine (size12_calls F A n c rows Ar nr cr N _ hn hn2 hr hr2 hrl).mono ?_; rintro e w1 ⟨rfl, hx1⟩)
    go_ret
    exact ⟨ret_int HS.out.symm, Bel.ext inferInstance⟩

set_option maxRecDepth 100000 in
set_option maxHeartbeats 4000000 in
theorem add11_calls (F : Fd) (mv : Value) (a b : List Int) (Aa Ab : Option Addr) (na ca nb cb : Nat) (w : World) (hG : F.Good) (hna : a.length = na) (hnb : b.length = nb) (hab : na = nb) (hnm : na ≤ 1000000) [ha : Sl w Aa a] [hb : Sl w Ab b] :
    Calls Try.prog 47 #[.agg #[.int .i64 F.p, .int .i64 F.m, mv], .slice Aa na ca, .slice Ab nb cb] w fun e w' => ∃ g, e = .returned (.tuple #[.slice (some ⟨g, 0, none⟩) na na, .int .i64 0]) ∧ Fr w g ∧ Own w' g (F.addV a b) ∧ Ext w w' := by
  subst hab
  have hmk := mk_int na (by omega)
  have HMK := hidd hmk
  go_enter Try.func47, Try.ntmps47
  go_wp2
  clear hmk
  go_loopw [9] (fun iv wr => ∃ (k : Nat), iv = .int .i64 k ∧ k ≤ na ∧ Bel w wr ∧ Bx wr w.heap.size #[.int .i64 F.p, .int .i64 F.m, mv] 24 ∧ Own wr (w.heap.size + 1) (part na (fun j => F.add (gt a j) (gt b j)) k)) (fun iv _ => na - (intOf iv).toNat)
  case atStart => exact ⟨0, rfl, by omega, inferInstance, inferInstance, by rw [← part_zero]; infer_instance⟩
  case round =>
    obtain ⟨k, rfl, hk, hB, hbx, ho⟩ := hrel
    by_cases hlt : k < na
    · obtain ⟨ad, rfl, rd⟩ := ha.at_ (k := k) (by omega)
      obtain ⟨bd, rfl, rdb⟩ := hb.at_ (k := k) (by omega)
      have hka : k < a.length := by omega
      have hkb : k < b.length := by omega
      have hca : Cel wr (ad.add k) (.int .i64 (gt a k)) := ⟨below_cell hB.out (rd.out k hka)⟩
      have hcb : Cel wr (bd.add k) (.int .i64 (gt b k)) := ⟨below_cell hB.out (rdb.out k hkb)⟩
      have hl1 : Lo (ad.add k).block wr.heap.size := ⟨World.block_lt_of_cell? wr _ hca.out⟩
      have hl2 : Lo (bd.add k).block wr.heap.size := ⟨World.block_lt_of_cell? wr _ hcb.out⟩
      have hin : In k (part na (fun j => F.add (gt a j) (gt b j)) k).length := ⟨by rw [part_length]; exact hlt⟩
      have hin2 : k < (part na (fun j => F.add (gt a j) (gt b j)) k).length := hin.out
      have hX : Near wr.heap.size wr wr := ⟨Below.refl _ _⟩
      have hfr1 : Fr w (w.heap.size + 1) := inferInstance
      go_wp2
      go_upto_region 7 with (fail)
      refine wp_region_E (S := fun w' => Near wr.heap.size wr w') 13 (by kernel_rfl) inferInstance (fun hHeld => ?_)
      refine wpAnyE_take (i := 0) (oi := ⟨some 24, _, _, _, _, _⟩) (v := ?_) rfl (by kernel_rfl) (by kernel_rfl) (by kernel_rfl) (by decide) (by kernel_rfl) (fun _ _ _ h => h) (Or.inl ⟨by rfl, ?_⟩) hHeld ?_
      rotate_left
      · (intro w1 hS1; first | (go_simp; done) | (go_simp; with_reducible rfl))
      try simp only [Act.put, List.setIfInBounds_toArray, List.set_cons_zero, List.set_cons_succ]
      refine wpAnyE_take (i := 1) (oi := ⟨some 25, _, _, _, _, _⟩) (v := ?_) rfl (by kernel_rfl) (by kernel_rfl) (by kernel_rfl) (by decide) (by kernel_rfl) (fun _ _ _ h => h) (Or.inl ⟨by rfl, ?_⟩) hHeld ?_
      rotate_left
      · (intro w1 hS1; first | (go_simp; done) | (go_simp; with_reducible rfl))
      try simp only [Act.put, List.setIfInBounds_toArray, List.set_cons_zero, List.set_cons_succ]
      refine wpAnyE_take (i := 2) (oi := ⟨some 26, _, _, _, _, _⟩) (v := ?_) rfl (by kernel_rfl) (by kernel_rfl) (by kernel_rfl) (by decide) (by kernel_rfl) (fun _ _ _ h => h) (Or.inl ⟨by rfl, ?_⟩) hHeld ?_
      rotate_left
      · (intro w1 hS1; first | (go_simp; done) | (go_simp; with_reducible rfl))
      try simp only [Act.put, List.setIfInBounds_toArray, List.set_cons_zero, List.set_cons_succ]
      refine wpAnyE_take (i := 3) (oi := ⟨some 27, _, _, _, _, _⟩) (v := ?_) rfl (by kernel_rfl) (by kernel_rfl) (by kernel_rfl) (by decide) (by kernel_rfl) (fun _ _ _ h => h) (Or.inl ⟨by rfl, ?_⟩) hHeld ?_
      rotate_left
      · (intro w1 hS1; first | (go_simp; done) | (go_simp; with_reducible rfl))
      try simp only [Act.put, List.setIfInBounds_toArray, List.set_cons_zero, List.set_cons_succ]
      refine wpAnyE_take (i := 4) (oi := ⟨some 28, _, _, _, _, _⟩) (v := ?_) rfl (by kernel_rfl) (by kernel_rfl) (by kernel_rfl) (by decide) (by kernel_rfl) (fun _ _ _ h => h) (Or.inl ⟨by rfl, ?_⟩) hHeld ?_
      rotate_left
      · (intro w1 hS1; first | (go_simp; done) | (go_simp; with_reducible rfl))
      try simp only [Act.put, List.setIfInBounds_toArray, List.set_cons_zero, List.set_cons_succ]
      refine wpAnyE_take (i := 5) (oi := ⟨some 29, _, _, _, _, _⟩) (v := ?_) rfl (by kernel_rfl) (by kernel_rfl) (by kernel_rfl) (by decide) (by kernel_rfl) (fun _ _ _ h => h) (Or.inl ⟨by rfl, ?_⟩) hHeld ?_
      rotate_left
      · (intro w1 hS1; first | (go_simp; done) | (go_simp; with_reducible rfl))
      try simp only [Act.put, List.setIfInBounds_toArray, List.set_cons_zero, List.set_cons_succ]
      refine wpAnyE_take (i := 6) (oi := ⟨some 30, _, _, _, _, _⟩) (v := ?_) rfl (by kernel_rfl) (by kernel_rfl) (by kernel_rfl) (by decide) (by kernel_rfl) (fun _ _ _ h => h) (Or.inl ⟨by rfl, ?_⟩) hHeld ?_
      rotate_left
      · (intro w1 hS1; first | (go_simp; done) | (go_simp; with_reducible rfl))
      try simp only [Act.put, List.setIfInBounds_toArray, List.set_cons_zero, List.set_cons_succ]
      refine wpAnyE_take (i := 7) (oi := ⟨some 31, _, _, _, _, _⟩) (v := ?_) rfl (by kernel_rfl) (by kernel_rfl) (by kernel_rfl) (by decide) (by kernel_rfl) (fun _ _ _ h => h) (Or.inl ⟨by rfl, ?_⟩) hHeld ?_
      rotate_left
      · (intro w1 hS1; first | (go_simp; done) | (go_simp; with_reducible rfl))
      try simp only [Act.put, List.setIfInBounds_toArray, List.set_cons_zero, List.set_cons_succ]
      refine wpAnyE_take (i := 8) (oi := ⟨some 32, _, _, _, _, _⟩) (v := ?_) rfl (by kernel_rfl) (by kernel_rfl) (by kernel_rfl) (by decide) (by kernel_rfl) (fun _ _ _ h => h) (Or.inl ⟨by rfl, ?_⟩) hHeld ?_
      rotate_left
      · (intro w1 hS1; first | (go_simp; done) | (go_simp; with_reducible rfl))
      try simp only [Act.put, List.setIfInBounds_toArray, List.set_cons_zero, List.set_cons_succ]
      refine wpAnyE_take (i := 9) (oi := ⟨some 33, _, _, _, _, _⟩) (v := ?_) rfl (by kernel_rfl) (by kernel_rfl) (by kernel_rfl) (by decide) (by kernel_rfl) (fun _ _ _ h => h) (Or.inl ⟨by rfl, ?_⟩) hHeld ?_
      rotate_left
      · (intro w1 hS1; first | (go_simp; done) | (go_simp; with_reducible rfl))
      try simp only [Act.put, List.setIfInBounds_toArray, List.set_cons_zero, List.set_cons_succ]
      refine wpAnyE_take (i := 10) (oi := ⟨some 34, _, _, _, _, _⟩) (v := ?_) rfl (by kernel_rfl) (by kernel_rfl) (by kernel_rfl) (by decide) (by kernel_rfl) (fun _ _ _ h => h) (Or.inl ⟨by rfl, ?_⟩) hHeld ?_
      rotate_left
      · (intro w1 hS1; first | (go_simp; done) | (go_simp; with_reducible rfl))
      try simp only [Act.put, List.setIfInBounds_toArray, List.set_cons_zero, List.set_cons_succ]
      refine wpAnyE_one (i := 11) (o := ⟨some 35, _, _, _, _, _⟩) (by kernel_rfl) rfl (fun K hK => ?_)
      go_simp
      (go_at_call 89; refine (add_calls F mv (gt a k) (gt b k) _ hG).mono ?_; rintro e w4 ⟨rfl, hx4⟩)
      clear hHeld
      refine hK.out _ _ inferInstance (fun hHeld => ?_)
      clear hK K
      try simp only [Act.put, List.setIfInBounds_toArray, List.set_cons_zero, List.set_cons_succ]
      refine wpAnyE_take (i := 12) (oi := ⟨some 36, _, _, _, _, _⟩) (v := ?_) rfl (by kernel_rfl) (by kernel_rfl) (by kernel_rfl) (by decide) (by kernel_rfl) (fun _ _ _ h => h) (Or.inl ⟨by rfl, ?_⟩) hHeld ?_
      rotate_left
      · (intro w1 hS1; first | (go_simp; done) | (go_simp; with_reducible rfl))
      try simp only [Act.put, List.setIfInBounds_toArray, List.set_cons_zero, List.set_cons_succ]
      refine wpAnyE_last (o := ⟨none, _, _, _, _, _⟩) (by kernel_rfl) rfl (fun K hK => ?_)
      go_simp
      refine hK.out _ _ ?_
      clear hK K
      try simp only [Act.put, List.setIfInBounds_toArray, List.set_cons_zero, List.set_cons_succ]
      refine wpAnyE_done (by kernel_rfl) ?_ _

      go_wp2
      go_roundw
      case rel => exact ⟨k + 1, by go_num, by omega, inferInstance, inferInstance, by
        rw [← part_set na (fun j => F.add (gt a j) (gt b j)) k _ hlt rfl]; exact own_set⟩
      case measure => simp [intOf] <;> omega
    · obtain rfl : k = na := by omega
      go_wp2
      go_ret2
      rw [part_full] at ho
      have e9 : F.addV a b = mkL k fun j => F.add (gt a j) (gt b j) := by rw [Fd.addV, hna]
      rw [e9]
      exact ⟨w.heap.size + 1, rfl, inferInstance, ho, Bel.ext inferInstance⟩

set_option maxRecDepth 100000 in
set_option maxHeartbeats 4000000 in
theorem cosw23_calls (F : Fd) (A : Option Addr) (n c : Nat) (rows : List (List Int)) (Ar : Option Addr) (nr cr : Nat) (N : Nat) (y : List Int) (Ay : Option Addr) (ny cy : Nat) (w : World) (hn : F.md.length = n) (hn2 : n ≤ 1000000000000000000) (hr : rows.length = nr) (hr2 : nr ≤ 1000000000000000000) (hrl : ∀ k, (gr rows k).length ≤ 1000000000000000000) (hy : y.length = ny) (hy2 : ny ≤ 1000000) (hok : nearE F (N : Int) rows y = 0) [hA : Sl w A F.md] [hR : Sls w Ar rows] [hY : Sl w Ay y] :
    Calls Try.prog 46 #[.agg #[.int .i64 F.p, .int .i64 F.m, .slice A n c, .int .i64 (N : Int), .slice Ar nr cr], .slice Ay ny cy] w fun e w' => ∃ g, e = .returned (.tuple #[.slice (some ⟨g, 0, none⟩) (ny + 1) (ny + 1), .int .i64 0]) ∧ Own w' g (prof (nearL F (N : Int) rows y) y) ∧ Ext w w' := by
  have hw : wrdE F (N : Int) rows y = 0 := by
    unfold nearE at hok
    split at hok
    · assumption
    · next h => exact absurd hok h
  have hs : sizE F (N : Int) rows = 0 := by rw [nearE, if_pos hw] at hok; exact hok
  have HLL : Hid (nearL F (N : Int) rows y = wrdL F (N : Int) rows) := by show _ = _; rw [nearL, if_pos hw]
  have hwl : (nearL F (N : Int) rows y).length ≤ 1000000000000000 := by rw [HLL.out]; have := (wrdL_len hs).2; omega
  have hN64 : N ≤ 64 := by have := codE_ok (sizE_ok hs).1; omega
  have hwe : ∀ k, (gr (nearL F (N : Int) rows y) k).length ≤ 1000000000000000000 := fun k => by rw [HLL.out]; have := wrdL_gr F (N : Int) rows k (by omega); omega
  have hNE := fun w [hA : Sl w A F.md] [hR : Sls w Ar rows] [hY : Sl w Ay y] => near23_calls F A n c rows Ar nr cr N y Ay ny cy w hn hn2 hr hr2 hrl hy (by omega)
  rw [hok] at hNE
  generalize nearL F (N : Int) rows y = W at *
  have HNE := hidd hNE
  have HWE := hidd hwe
  clear hNE hok hw hs hwe HLL
  go_enter Try.func46, Try.ntmps46
  go_wp2_with (first
    | (go_at_call 33; refine (HNE.out _).mono ?_; rintro e w1 ⟨B, kB, rfl, hsB, hx1⟩)
    | (go_at_call 68; refine (prof23_calls W y B Ay _ kB ny cy _ rfl hwl hy hy2 HWE.out).mono ?_; rintro e w2 ⟨g, rfl, hf2, ho2, hx2⟩))
  go_ret2
  exact ⟨g, rfl, ho2, Bel.ext inferInstance⟩

set_option maxRecDepth 100000 in
set_option maxHeartbeats 4000000 in
theorem cosw23_err (F : Fd) (A : Option Addr) (n c : Nat) (rows : List (List Int)) (Ar : Option Addr) (nr cr : Nat) (N : Int) (y : List Int) (Ay : Option Addr) (ny cy : Nat) (w : World) (hn : F.md.length = n) (hn2 : n ≤ 1000000000000000000) (hr : rows.length = nr) (hr2 : nr ≤ 1000000000000000000) (hrl : ∀ k, (gr rows k).length ≤ 1000000000000000000) (hy : y.length = ny) (hy2 : ny ≤ 1000000000000000000) (hno : nearE F N rows y ≠ 0) [hA : Sl w A F.md] [hR : Sls w Ar rows] [hY : Sl w Ay y] :
    Calls Try.prog 46 #[.agg #[.int .i64 F.p, .int .i64 F.m, .slice A n c, .int .i64 N, .slice Ar nr cr], .slice Ay ny cy] w fun e w' => e = .returned (.tuple #[.slice none 0 0, .int .i64 (nearE F N rows y)]) ∧ Ext w w' := by
  have hb : (nearE F N rows y != 0) = true := by simp [hno]
  clear hno
  go_enter Try.func46, Try.ntmps46
  go_wp2_with (go_at_call 33; refine (near23_calls F A n c rows Ar nr cr N y Ay ny cy _ hn hn2 hr hr2 hrl hy hy2).mono ?_; rintro e w1 ⟨B, kB, rfl, hsB, hx1⟩)
  go_ret2
  exact ⟨rfl, Bel.ext inferInstance⟩

set_option maxRecDepth 100000 in
set_option maxHeartbeats 4000000 in
theorem ecosw_err (F : Fd) (A : Option Addr) (n c : Nat) (rows : List (List Int)) (Ar : Option Addr) (nr cr : Nat) (N : Int) (y : List Int) (Ay : Option Addr) (ny cy : Nat) (w : World) (hn : F.md.length = n) (hn2 : n ≤ 1000000000000000000) (hr : rows.length = nr) (hr2 : nr ≤ 1000000000000000000) (hrl : ∀ k, (gr rows k).length ≤ 1000000000000000000) (hy : y.length = ny) (hy2 : ny ≤ 1000000000000000000) (hno : nearE F N rows y ≠ 0) [hA : Sl w A F.md] [hR : Sls w Ar rows] [hY : Sl w Ay y] :
    Calls Try.prog 45 #[.agg #[.int .i64 F.p, .int .i64 F.m, .slice A n c, .int .i64 N, .slice Ar nr cr], .slice Ay ny cy] w fun e w' => e = .returned (.tuple #[.slice none 0 0, .int .i64 (nearE F N rows y)]) ∧ Ext w w' := by
  by_cases hc : codE F N rows = 0
  · by_cases hl : lstE F.q y N = 0
    · have hw : wrdE F N rows y = 0 := by rw [wrdE, if_pos hc]; exact hl
      have he : nearE F N rows y = sizE F N rows := by rw [nearE, if_pos hw]
      rw [he] at hno
      have hb : (sizE F N rows != 0) = true := by simp [hno]
      have HE := hidd he
      clear hno he hw
      go_enter Try.func45, Try.ntmps45
      go_wp2_with (first
        | (go_at_call 79; refine (received_yes F A n c rows Ar nr cr N y Ay ny cy _ hn hn2 hr hr2 hrl hy hy2 hc).mono ?_; rintro e w2 ⟨g2, rfl, hf2, hg2, hx2⟩; rw [hl])
        | (go_at_call 65; refine (csize_calls F A n c rows Ar nr cr N _ hn hn2 hr hr2 hrl).mono ?_; rintro e w3 ⟨rfl, hx3⟩))
      go_ret2
      rw [HE.out]
      exact ⟨rfl, Bel.ext inferInstance⟩
    · have hb : (lstE F.q y N != 0) = true := by simp [hl]
      have HE : Hid (nearE F N rows y = lstE F.q y N) := by
        have hw : wrdE F N rows y = lstE F.q y N := by rw [wrdE, if_pos hc]
        show _ = _
        rw [nearE, hw, if_neg hl]
      clear hno hl
      go_enter Try.func45, Try.ntmps45
      go_wp2_with (go_at_call 79; refine (received_yes F A n c rows Ar nr cr N y Ay ny cy _ hn hn2 hr hr2 hrl hy hy2 hc).mono ?_; rintro e w2 ⟨g2, rfl, hf2, hg2, hx2⟩)
      go_ret2
      rw [HE.out]
      exact ⟨rfl, Bel.ext inferInstance⟩
  · have hb : (codE F N rows != 0) = true := by simp [hc]
    have HE : Hid (nearE F N rows y = codE F N rows) := by
      have hw : wrdE F N rows y = codE F N rows := by rw [wrdE, if_neg hc]
      show _ = _
      rw [nearE, hw, if_neg hc]
    have HC := hidd hc
    clear hno hc
    go_enter Try.func45, Try.ntmps45
    go_wp2_with (go_at_call 79; refine (received_no F A n c rows Ar nr cr N _ _ hn hn2 hr hr2 hrl HC.out).mono ?_; rintro e w2 ⟨rfl, hx2⟩)
    go_ret2
    rw [HE.out]
    exact ⟨rfl, Bel.ext inferInstance⟩

set_option maxRecDepth 100000 in
set_option maxHeartbeats 8000000 in
theorem ecosw_calls (F : Fd) (A : Option Addr) (n c : Nat) (rows : List (List Int)) (Ar : Option Addr) (nr cr : Nat) (N : Nat) (y : List Int) (Ay : Option Addr) (ny cy : Nat) (w : World) (hn : F.md.length = n) (hn2 : n ≤ 1000000000000000000) (hr : rows.length = nr) (hr2 : nr ≤ 1000000000000000000) (hrl : ∀ k, (gr rows k).length ≤ 1000000000000000000) (hy9 : y.length = ny) (hE : nearE F (N : Int) rows y = 0) [hA : Sl w A F.md] [hR : Sls w Ar rows] [hY : Sl w Ay y] :
    Calls Try.prog 45 #[.agg #[.int .i64 F.p, .int .i64 F.m, .slice A n c, .int .i64 (N : Int), .slice Ar nr cr], .slice Ay ny cy] w fun e w' => ∃ g, e = .returned (.tuple #[.slice (some ⟨g, 0, none⟩) (N + 1) (N + 1), .int .i64 0]) ∧ Own w' g (prof (F.words rows N (sizV F (N : Int) rows).toNat) (F.negV y)) ∧ Ext w w' := by
  have hwrd : wrdE F (N : Int) rows y = 0 := by
    unfold nearE at hE
    split at hE
    · assumption
    · next h => exact absurd hE h
  have hok : sizE F (N : Int) rows = 0 := by rw [nearE, if_pos hwrd] at hE; exact hE
  obtain ⟨hcod, hyl, hye⟩ := wrdE_ok hwrd
  obtain ⟨_, hv1, hv2, hv3⟩ := sizE_ok hok
  have hN64 : N ≤ 64 := by have := codE_ok hcod; omega
  have hlst : lstE F.q y (N : Int) = 0 := by rw [lstE, if_pos hyl]; exact entE_yes hye
  obtain ⟨tot, htv⟩ : ∃ tot : Nat, sizV F (N : Int) rows = tot := ⟨(sizV F (N : Int) rows).toNat, by omega⟩
  have htot : tot ≤ 65536 := by omega
  have hvi : Value.int .i64 (sizV F (N : Int) rows) = .int .i64 (tot : Int) := by rw [htv]
  have htn : (sizV F (N : Int) rows).toNat = tot := by rw [htv]; rfl
  rw [htn]
  obtain rfl : ny = N := by omega
  have hy := hy9
  have hmk := mk_int ny (by omega)
  have HRL := hidd hrl
  have HOK := hidd hok
  have HTV := hidd htv
  have HC := hidd hcod
  clear hrl hv1 hv2 hv3 htv htn hE hwrd hye hyl hcod
  refine callsIn_wide.1 (callsIn_of_wp_marks (F := Fence.wide) (n := 0) Try.func45 rfl trivial (wpIn_wide.2 ?_))
  simp only [Try.ntmps45, List.size_toArray, List.length_cons, List.length_nil, Nat.reduceAdd, Nat.reduceSub, Array.replicate_succ, Array.replicate_zero, List.push_toArray, List.append_toArray, List.nil_append, List.cons_append]
  go_wp2_with (first
    | (go_at_call 79; refine (received_yes F A n c rows Ar nr cr ny y Ay ny cy _ hn hn2 hr hr2 HRL.out hy (by omega) HC.out).mono ?_; rintro e w2 ⟨g2, rfl, hf2, hg2, hx2⟩; rw [hlst])
    | (go_at_call 65; refine (csize_calls F A n c rows Ar nr cr ny _ hn hn2 hr hr2 HRL.out).mono ?_; rintro e w1 ⟨rfl, hx1⟩; rw [hok, hvi]))
  have hB01 : Bel w w1 := inferInstance
  have hsz01 := hB01.out.size
  have hgA : GFp w1 g2 F := inferInstance
  have hbA : Bx w1 w.heap.size #[.int .i64 F.p, .int .i64 F.m, .slice A n c, .int .i64 (ny : Int), .slice Ar nr cr] 27 := inferInstance
  obtain ⟨mb, hmb⟩ : ∃ mb, mb = w1.heap.size := ⟨_, rfl⟩
  have hbAl := (lo_bx (h := hbA)).out
  obtain ⟨WA, hWA⟩ : ∃ WA, WA = (w1.alloc (.cells (ints (List.replicate ny 0)) 3)).alloc (.cells #[.slice (some ⟨w1.heap.size, 0, none⟩) ny ny] 22) := ⟨_, rfl⟩
  have hBWA : Bel w WA := by rw [hWA]; infer_instance
  have hoWA : Own WA mb (List.replicate ny 0) := by rw [hWA, hmb]; infer_instance
  have hxWA : Bx WA (mb + 1) #[.slice (some ⟨mb, 0, none⟩) ny ny] 22 := by rw [hWA, hmb]; infer_instance
  have hgWA : GFp WA g2 F := by rw [hWA]; infer_instance
  have hcWA : Bx WA w.heap.size #[.int .i64 F.p, .int .i64 F.m, .slice A n c, .int .i64 (ny : Int), .slice Ar nr cr] 27 := by rw [hWA]; infer_instance
  rw [← hWA, ← hmb]
  have hfmb : Fr w mb := ⟨by omega⟩
  have hapg : w.heap.size ≠ mb := by omega
  have HGP : Hid (∀ W, Bel w1 W → GFp W g2 F) := fun W hB => hgA.move hB
  have hBA1 : Hid (Bel w1 WA) := by show Bel w1 WA; rw [hWA]; exact ⟨((Below.refl _ w1).alloc (Nat.le_refl _) _).alloc (by simp [World.size_alloc]) _⟩
  clear hx1 hx2 hf2 hg2 hgA hbA hmk hvi hWA
  go_loopw [38] (fun iv wr => ∃ (k : Nat), iv = .int .i64 k ∧ k ≤ ny ∧ Hid (Bel w1 wr) ∧ Bel w wr ∧ Bx wr (mb + 1) #[.slice (some ⟨mb, 0, none⟩) ny ny] 22 ∧ Own wr mb (part ny (fun j => F.neg (gt y j)) k) ∧ Bx wr w.heap.size #[.int .i64 F.p, .int .i64 F.m, .slice A n c, .int .i64 (ny : Int), .slice Ar nr cr] 27) (fun iv _ => ny - (intOf iv).toNat)
  case atStart => exact ⟨0, rfl, by omega, hBA1, hBWA, hxWA, by rw [← part_zero]; exact hoWA, hcWA⟩
  case round =>
    clear hBWA hoWA hxWA hcWA hgWA hBA1
    subst hmb
    obtain ⟨k, rfl, hk, HB1, hB, hbx, ho, hcx⟩ := hrel
    have hgp : GFp wr g2 F := HGP.out wr HB1.out
    by_cases hlt : k < ny
    · obtain ⟨ad, rfl, rd⟩ := hY.at_ (k := k) (by omega)
      have hka : k < y.length := by omega
      have hca : Cel wr (ad.add k) (.int .i64 (gt y k)) := ⟨below_cell hB.out (rd.out k hka)⟩
      have hin : In k (part ny (fun j => F.neg (gt y j)) k).length := ⟨by rw [part_length]; exact hlt⟩
      have hin2 : k < (part ny (fun j => F.neg (gt y j)) k).length := hin.out
      have hX : Near wr.heap.size wr wr := ⟨Below.refl _ _⟩
      have hfr1 : Fr w1 w1.heap.size := ⟨Nat.le_refl _⟩
      have ha1 : Apart (w1.heap.size + 1) w1.heap.size := inferInstance
      have ha2 : Apart w.heap.size w1.heap.size := ⟨hapg⟩
      go_wp2
      go_upto_region 11 with (fail)
      refine wp_region_EN (S := fun w' => Near wr.heap.size wr w') 6 (by kernel_rfl) inferInstance (fun hHeld => ?_)
      refine wpAnyE_take (i := 0) (oi := ⟨some 43, _, _, _, _, _⟩) (v := ?_) rfl (by kernel_rfl) (by kernel_rfl) (by kernel_rfl) (by decide) (by kernel_rfl) (fun _ _ _ h => nomatch h.1) (Or.inl ⟨by rfl, ?_⟩) hHeld ?_
      rotate_left
      · (intro w1 hS1; first | (go_simp; done) | (go_simp; with_reducible rfl))
      try simp only [Act.put, List.setIfInBounds_toArray, List.set_cons_zero, List.set_cons_succ]
      refine wpAnyE_take (i := 1) (oi := ⟨some 44, _, _, _, _, _⟩) (v := ?_) rfl (by kernel_rfl) (by kernel_rfl) (by kernel_rfl) (by decide) (by kernel_rfl) (fun _ _ _ h => nomatch h.1) (Or.inl ⟨by rfl, ?_⟩) hHeld ?_
      rotate_left
      · (intro w1 hS1; first | (go_simp; done) | (go_simp; with_reducible rfl))
      try simp only [Act.put, List.setIfInBounds_toArray, List.set_cons_zero, List.set_cons_succ]
      refine wpAnyE_take (i := 2) (oi := ⟨some 45, _, _, _, _, _⟩) (v := ?_) rfl (by kernel_rfl) (by kernel_rfl) (by kernel_rfl) (by decide) (by kernel_rfl) (fun _ _ _ h => nomatch h.1) (Or.inl ⟨by rfl, ?_⟩) hHeld ?_
      rotate_left
      · (intro w1 hS1; first | (go_simp; done) | (go_simp; with_reducible rfl))
      try simp only [Act.put, List.setIfInBounds_toArray, List.set_cons_zero, List.set_cons_succ]
      refine wpAnyE_take (i := 3) (oi := ⟨some 46, _, _, _, _, _⟩) (v := ?_) rfl (by kernel_rfl) (by kernel_rfl) (by kernel_rfl) (by decide) (by kernel_rfl) (fun _ _ _ h => nomatch h.1) (Or.inl ⟨by rfl, ?_⟩) hHeld ?_
      rotate_left
      · (intro w1 hS1; first | (go_simp; done) | (go_simp; with_reducible rfl))
      try simp only [Act.put, List.setIfInBounds_toArray, List.set_cons_zero, List.set_cons_succ]
      refine wpAnyE_one (i := 4) (o := ⟨some 47, _, _, _, _, _⟩) (by kernel_rfl) rfl (fun K hK => ?_)
      go_simp
      (go_at_call 88; refine (gneg_calls F g2 (gt y k) _).mono ?_; rintro e w4 ⟨rfl, hx4⟩)
      clear hHeld
      refine hK.out _ _ inferInstance (fun hHeld => ?_)
      clear hK K
      try simp only [Act.put, List.setIfInBounds_toArray, List.set_cons_zero, List.set_cons_succ]
      refine wpAnyE_take (i := 5) (oi := ⟨some 48, _, _, _, _, _⟩) (v := ?_) rfl (by kernel_rfl) (by kernel_rfl) (by kernel_rfl) (by decide) (by kernel_rfl) (fun _ _ _ h => nomatch h.1) (Or.inl ⟨by rfl, ?_⟩) hHeld ?_
      rotate_left
      · (intro w1 hS1; first | (go_simp; done) | (go_simp; with_reducible rfl))
      try simp only [Act.put, List.setIfInBounds_toArray, List.set_cons_zero, List.set_cons_succ]
      refine wpAnyE_last (o := ⟨none, _, _, _, _, _⟩) (by kernel_rfl) rfl (fun K hK => ?_)
      go_simp
      refine hK.out _ _ ?_
      clear hK K
      try simp only [Act.put, List.setIfInBounds_toArray, List.set_cons_zero, List.set_cons_succ]
      refine wpAnyE_done (by kernel_rfl) ⟨rfl, ?_⟩ _

      go_wp2
      have hB1 := HB1.out
      have hBx4 : Bel wr w4 := ⟨undrew hx4.out⟩
      have hB14 : Bel w1 w4 := hB1.then_ hBx4
      have hB15 : Hid (Bel w1 (w4.setCell ⟨w1.heap.size, k, none⟩ (.int .i64 (F.neg (gt y k))))) := by
        show Bel w1 _
        clear hB hB1 hX hBx4
        infer_instance
      clear hB1 hB14 hBx4
      go_roundw
      case rel => exact ⟨k + 1, by go_num, by omega, hB15, inferInstance, inferInstance, by
        rw [← part_set ny (fun j => F.neg (gt y j)) k _ hlt rfl]; exact own_set, inferInstance⟩
      case measure => simp [intOf] <;> omega
    · obtain rfl : k = ny := by omega
      rw [part_full] at ho
      have hne : mkL k (fun j => F.neg (gt y j)) = F.negV y := by rw [Fd.negV, hy]
      rw [hne] at ho
      have hmk := mk_int (k + 1) (by omega)
      have hcast : ((k + 1 : Nat) : Int) = (k : Int) + 1 := by omega
      rw [hcast] at hmk
      clear hcast hne
      go_wp2_with (go_at_call 66; refine (walk_calls F A n c Ar nr cr k _).mono ?_; rintro e w3 ⟨rfl, hbc3, hx3⟩)
      have hszB := hB.out.size
      have hsz1 := HB1.out.out.size
      have hm3 : Own w3 w1.heap.size (F.negV y) := inferInstance
      have hx103 : Bx w3 (w1.heap.size + 1) #[.slice (some ⟨w1.heap.size, 0, none⟩) k k] 22 := inferInstance
      have hx133 : Bx w3 (wr.heap.size + 1) #[.slice (some ⟨wr.heap.size, 0, none⟩) (k + 1) (k + 1)] 22 := inferInstance
      have ho3 : Own w3 wr.heap.size (List.replicate (k + 1) 0) := inferInstance
      have hB03 : Bel w w3 := inferInstance
      have hl10 := (lo_bx (h := hx103)).out
      have hl13 := (lo_bx (h := hx133)).out
      have hlm := (lo_own (h := hm3)).out
      have hlo := (lo_own (h := ho3)).out
      have hl10r := (lo_bx (h := hbx)).out
      have hbc4 : Bx w3 (wr.heap.size + 1 + 1) #[.int .i64 F.p, .int .i64 F.m, .slice A n c, .int .i64 (k : Int), .slice Ar nr cr] 27 := by
        have := hbc3
        simp only [World.size_alloc] at this
        exact this
      have hbcl := (lo_bx (h := hbc4)).out
      obtain ⟨N, rfl⟩ : ∃ N, N = k := ⟨_, rfl⟩
      clear hx3 hbc3 hmk ho hbx hcx hB hgp
      refine walk_range (w0 := w) F A n c rows Ar nr cr N tot (wr.heap.size + 1 + 1) hn hn2 hr HOK.out HTV.out hB03 hbc4 hA hR rfl rfl (fun b => b = wr.heap.size) (fun b hb => by omega) (by omega) (fun b hb => by omega)
        (fun _ j W => Bel w W ∧ Bx W (w1.heap.size + 1) #[.slice (some ⟨w1.heap.size, 0, none⟩) N N] 22 ∧ Own W w1.heap.size (F.negV y) ∧ Bx W (wr.heap.size + 1) #[.slice (some ⟨wr.heap.size, 0, none⟩) (N + 1) (N + 1)] 22 ∧ Own W wr.heap.size (profN (F.words rows N tot) (F.negV y) j)) ?_ ?_ ?a1 ?hassign ?hbody ?hdone
      · rintro bt j X Y row hbt ⟨i1, i2, i3, i4, i5⟩ hgr hr
        have hne : ∀ b, b < w3.heap.size → some b ≠ row := fun b hb e => by rcases hr b e.symm with h | h <;> omega
        have hsz := i1.out.size
        refine ⟨⟨hgr.os.trans i1.out.os, hgr.tape.trans i1.out.tape, hgr.output.trans i1.out.output, Nat.le_trans hsz hgr.size, fun b hb => (hgr.block b (by omega) (hne b (by omega))).trans (i1.out.block b hb)⟩, ⟨(hgr.block _ (blk_lt i2.out) (hne _ hl10)).trans i2.out⟩, ⟨i3.out.imp fun _ q => (hgr.block _ (blk_lt q) (hne _ hlm)).trans q⟩, ⟨(hgr.block _ (blk_lt i4.out) (hne _ hl13)).trans i4.out⟩, ⟨i5.out.imp fun _ q => (hgr.block _ (blk_lt q) (hne _ hlo)).trans q⟩⟩
      · intro bt _
        refine ⟨hB03, hx103, hm3, hx133, ?_⟩
        have e9 : profN (F.words rows N tot) (F.negV y) 0 = List.replicate (N + 1) 0 := by rw [profN, loopN, negV_len, hy]
        rw [e9]; exact ho3
      case hassign =>
        intro l x y W K hK
        gi_wp2
        exact hK
      case hbody =>
        rintro l bt k W1 gx c9 hk hbt hbtl ⟨i1, i2, i3, i4, i5⟩ hox hgx hne
        have hnl : (F.negV y).length = N := by rw [negV_len]; exact hy
        have hwl : dist (F.word rows N (k : Int)) (F.negV y) ≤ N := by have := dist_le (F.word rows N (k : Int)) (F.negV y); omega
        have hrg := profN_rng (F.words rows N tot) (F.negV y) k (dist (F.word rows N (k : Int)) (F.negV y))
        have hpl : (profN (F.words rows N tot) (F.negV y) k).length = N + 1 := by rw [profN_len, hnl]
        have hlen : dist (F.word rows N (k : Int)) (F.negV y) < (profN (F.words rows N tot) (F.negV y) k).length := by omega
        have HNX : Hid (profN (F.words rows N tot) (F.negV y) (k + 1) = (profN (F.words rows N tot) (F.negV y) k).set (dist (F.word rows N (k : Int)) (F.negV y)) (gt (profN (F.words rows N tot) (F.negV y) k) (dist (F.word rows N (k : Int)) (F.negV y)) + 1)) := by
          show _ = _
          rw [profN, loopN_succ, ← profN, profS, words_gr _ _ _ _ hk]
        generalize profN (F.words rows N tot) (F.negV y) (k + 1) = P2 at *
        generalize profN (F.words rows N tot) (F.negV y) k = P at *
        have hec : ∀ W [Own W gx (F.word rows N (k : Int))] [Own W w1.heap.size (F.negV y)], Calls Try.prog 80 #[.slice (some ⟨gx, 0, none⟩) N c9, .slice (some ⟨w1.heap.size, 0, none⟩) N N] W fun e w' => e = .returned (.int .i64 (dist (F.word rows N (k : Int)) (F.negV y))) ∧ Ext W w' := fun W _ _ => edist_calls (F.word rows N (k : Int)) (F.negV y) _ _ N c9 N N W (word_len F rows N k) hnl rfl (by omega)
        generalize dist (F.word rows N (k : Int)) (F.negV y) = d at *
        have HEC := hidd hec
        have hin : In d P.length := ⟨hlen⟩
        obtain ⟨hr0, hr1⟩ := hrg
        have hlt : (d : Int) < (N : Int) + 1 := by omega
        have hdn : d < N + 1 := by omega
        have hwr : IntKind.i64.wrap (gt P d + 1) = gt P d + 1 := wr_in (by omega) (by omega)
        have hX : Near W1.heap.size W1 W1 := ⟨Below.refl _ _⟩
        clear hec hnl
        refine wpIn_block ?_
        refine region_round_E (S := fun w' => Near W1.heap.size W1 w') 8 l 0 (by kernel_rfl) (by rintro ⟨_, _, h0⟩; have h1 := h0.1; cases h1) (by kernel_rfl) inferInstance (fun hHeld => ?_)
        refine wpAnyE_take (i := 0) (oi := ⟨some 58, _, _, _, _, _⟩) (v := ?_) rfl (by kernel_rfl) (by kernel_rfl) (by kernel_rfl) (by decide) (by kernel_rfl) (fun _ _ _ h => h) (Or.inl ⟨by rfl, ?_⟩) hHeld ?_
        rotate_left
        · (intro w1 hS1; first | (go_simp; done) | (go_simp; with_reducible rfl))
        try simp only [Act.put, List.setIfInBounds_toArray, List.set_cons_zero, List.set_cons_succ]
        refine wpAnyE_take (i := 1) (oi := ⟨some 59, _, _, _, _, _⟩) (v := ?_) rfl (by kernel_rfl) (by kernel_rfl) (by kernel_rfl) (by decide) (by kernel_rfl) (fun _ _ _ h => h) (Or.inl ⟨by rfl, ?_⟩) hHeld ?_
        rotate_left
        · (intro w1 hS1; first | (go_simp; done) | (go_simp; with_reducible rfl))
        try simp only [Act.put, List.setIfInBounds_toArray, List.set_cons_zero, List.set_cons_succ]
        refine wpAnyE_take (i := 2) (oi := ⟨some 60, _, _, _, _, _⟩) (v := ?_) rfl (by kernel_rfl) (by kernel_rfl) (by kernel_rfl) (by decide) (by kernel_rfl) (fun _ _ _ h => h) (Or.inl ⟨by rfl, ?_⟩) hHeld ?_
        rotate_left
        · (intro w1 hS1; first | (go_simp; done) | (go_simp; with_reducible rfl))
        try simp only [Act.put, List.setIfInBounds_toArray, List.set_cons_zero, List.set_cons_succ]
        refine wpAnyE_one (i := 3) (o := ⟨some 61, _, _, _, _, _⟩) (by kernel_rfl) rfl (fun K hK => ?_)
        go_simp
        (go_at_call 80; refine (HEC.out _).mono ?_; rintro e w4 ⟨rfl, hx4⟩)
        clear hHeld
        refine hK.out _ _ inferInstance (fun hHeld => ?_)
        clear hK K
        try simp only [Act.put, List.setIfInBounds_toArray, List.set_cons_zero, List.set_cons_succ]
        refine wpAnyE_take (i := 4) (oi := ⟨some 62, _, _, _, _, _⟩) (v := ?_) rfl (by kernel_rfl) (by kernel_rfl) (by kernel_rfl) (by decide) (by kernel_rfl) (fun _ _ _ h => h) (Or.inl ⟨by rfl, ?_⟩) hHeld ?_
        rotate_left
        · (intro w1 hS1; first | (go_simp; done) | (go_simp; with_reducible rfl))
        try simp only [Act.put, List.setIfInBounds_toArray, List.set_cons_zero, List.set_cons_succ]
        refine wpAnyE_take (i := 5) (oi := ⟨some 63, _, _, _, _, _⟩) (v := ?_) rfl (by kernel_rfl) (by kernel_rfl) (by kernel_rfl) (by decide) (by kernel_rfl) (fun _ _ _ h => h) (Or.inl ⟨by rfl, ?_⟩) hHeld ?_
        rotate_left
        · (intro w1 hS1; first | (go_simp; done) | (go_simp; with_reducible rfl))
        try simp only [Act.put, List.setIfInBounds_toArray, List.set_cons_zero, List.set_cons_succ]
        refine wpAnyE_take (i := 6) (oi := ⟨some 64, _, _, _, _, _⟩) (v := ?_) rfl (by kernel_rfl) (by kernel_rfl) (by kernel_rfl) (by decide) (by kernel_rfl) (fun _ _ _ h => h) (Or.inl ⟨by rfl, ?_⟩) hHeld ?_
        rotate_left
        · (intro w1 hS1; first | (go_simp; done) | (go_simp; with_reducible rfl))
        try simp only [Act.put, List.setIfInBounds_toArray, List.set_cons_zero, List.set_cons_succ]
        refine wpAnyE_take (i := 7) (oi := ⟨some 65, _, _, _, _, _⟩) (v := ?_) rfl (by kernel_rfl) (by kernel_rfl) (by kernel_rfl) (by decide) (by kernel_rfl) (fun _ _ _ h => h) (Or.inl ⟨by rfl, ?_⟩) hHeld ?_
        rotate_left
        · (intro w1 hS1; first | (go_simp; done) | (go_simp; with_reducible rfl))
        try simp only [Act.put, List.setIfInBounds_toArray, List.set_cons_zero, List.set_cons_succ]
        refine wpAnyE_last (o := ⟨none, _, _, _, _, _⟩) (by kernel_rfl) rfl (fun K hK => ?_)
        go_simp
        refine hK.out _ _ ?_
        clear hK K
        try simp only [Act.put, List.setIfInBounds_toArray, List.set_cons_zero, List.set_cons_succ]
        refine wpAnyE_done (by kernel_rfl) ?_ _

        have hx5 : Bel W1 w4 := ⟨undrew hx4.out⟩
        have hB4 : Bel w w4 := i1.then_ hx5
        have hb104 : Bx w4 (w1.heap.size + 1) #[.slice (some ⟨w1.heap.size, 0, none⟩) N N] 22 := ⟨blk_below i2.out hx5.out⟩
        have hm4 : Own w4 w1.heap.size (F.negV y) := ⟨i3.out.imp fun _ q => blk_below q hx5.out⟩
        have hb134 : Bx w4 (wr.heap.size + 1) #[.slice (some ⟨wr.heap.size, 0, none⟩) (N + 1) (N + 1)] 22 := ⟨blk_below i4.out hx5.out⟩
        have ho4 : Own w4 wr.heap.size P := ⟨i5.out.imp fun _ q => blk_below q hx5.out⟩
        have hfr : Fr w wr.heap.size := ⟨by omega⟩
        have hap : Apart (wr.heap.size + 1) wr.heap.size := ⟨by omega⟩
        have hap2 : Apart (w1.heap.size + 1) wr.heap.size := ⟨by omega⟩
        have hap3 : Apart w1.heap.size wr.heap.size := ⟨by omega⟩
        refine ⟨rfl, ⟨?_, ?_, ?_, ?_, ?_⟩, (Ext.kpt hx5.ext).trans (kpt_set _ rfl)⟩
        · clear hx4 hX hx5 i1; infer_instance
        · clear hx4 hX hx5 i2; infer_instance
        · clear hx4 hX hx5 i3; infer_instance
        · clear hx4 hX hx5 i4; infer_instance
        · rw [HNX.out]
          exact own_set_ ho4 d (gt P d + 1) hlen
      case hdone =>
        rintro bt D W ⟨i1, i2, i3, i4, i5⟩ hbt hD hKD
        simp only [Exit.inBlock, Exit.then]
        go_at_K
        go_wp2
        refine ⟨by simp, .inl ⟨_, _, rfl, run_takeDeferred hKD, ?_⟩⟩
        have e9 : prof (F.words rows N tot) (F.negV y) = profN (F.words rows N tot) (F.negV y) tot := by rw [prof, words_len]
        rw [e9]
        refine ⟨_, results_tmp2 rfl _ _ _, wr.heap.size, rfl, ?_, ?_⟩
        · exact ⟨i5.out.imp fun _ q => (World.putObj_heap_other (by omega)).trans q⟩
        · exact ⟨i1.out.os, i1.out.tape, i1.out.output, by rw [put_size]; exact i1.out.size, fun b hb => (World.putObj_heap_other (by omega)).trans (i1.out.block b hb)⟩

end Go.Proofs.Ytcigdhmecfhndaa

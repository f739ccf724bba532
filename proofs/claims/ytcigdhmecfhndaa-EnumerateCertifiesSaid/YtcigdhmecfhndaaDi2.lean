/- The walks of Distances of right lists, and of the law EnumerateDistances. -/
import Derived.Test.YtcigdhmecfhndaaDi
namespace Go.Proofs.Ytcigdhmecfhndaa
open Go.RowKit
attribute [local go_sem] cell_bx froz_bx cell_own froz_own cell_rd cell_cel ints_get ints_set cell_ownv froz_ownv eql_nil_int
set_option linter.unusedVariables false
set_option linter.unusedSimpArgs false

theorem dis_rng {ws : List (List Int)} {n : Nat} (h : ∀ k, k < ws.length → (gr ws k).length = n) (hL : ws.length ≤ 256) (e i : Nat) (hi : i ≤ ws.length) : (0 ≤ gt (disR ws n i) e ∧ gt (disR ws n i) e ≤ 65536) ∧ 0 ≤ gt (disP ws n i) e ∧ gt (disP ws n i) e ≤ 200000 := by
  rw [gt_disR h e i hi, gt_disP h e i hi]
  have h1 := sumI_rng (f := fun i => sumI (fun j => if dist (gr ws i) (gr ws j) = e then 1 else 0) ws.length) (b := 256) (fun i => by
    have := sumI_rng (f := fun j => if dist (gr ws i) (gr ws j) = e then (1 : Int) else 0) (b := 1) (fun j => by split <;> omega) ws.length
    omega) i
  have h2 : ∀ m : Nat, m ≤ 256 → 0 ≤ sumI (fun i => sumI (fun j => if dist (gr ws i) (gr ws j) = e then (2 : Int) else 0) i) m ∧ sumI (fun i => sumI (fun j => if dist (gr ws i) (gr ws j) = e then (2 : Int) else 0) i) m ≤ m * 512 := fun m => by
    induction m with
    | zero => intro _; simp [sumI]
    | succ m ih =>
      intro hm
      have ih := ih (by omega)
      have := sumI_rng (f := fun j => if dist (gr ws m) (gr ws j) = e then (2 : Int) else 0) (b := 2) (fun j => by split <;> omega) m
      rw [sumI]
      constructor
      · omega
      · have h3 : ((m + 1 : Nat) : Int) * 512 = m * 512 + 512 := by rw [Int.natCast_succ, Int.add_mul, Int.one_mul]
        omega
  have h3 := h2 i (by omega)
  refine ⟨⟨h1.1, by omega⟩, ?_, ?_⟩
  · split <;> omega
  · split <;> omega
theorem incL_succ (f : Nat → Nat) (x : Int) (m : Nat) (out : List Int) : incL f x (m + 1) out = inc (incL f x m out) (f m) x := rfl
theorem disR_succ (ws : List (List Int)) (n m : Nat) : disR ws n (m + 1) = incL (fun j => dist (gr ws m) (gr ws j)) 1 ws.length (disR ws n m) := rfl
theorem disP_succ (ws : List (List Int)) (n m : Nat) : disP ws n (m + 1) = incL (fun j => dist (gr ws m) (gr ws j)) 2 m (disP ws n m) := rfl

set_option maxRecDepth 100000 in
set_option maxHeartbeats 8000000 in
theorem dis23_calls (F : Fd) (A : Option Addr) (nf cf : Nat) (N : Nat) (ws : List (List Int)) (Ar : Option Addr) (nr cr : Nat) (w : World) (hn : F.md.length = nf) (hn2 : nf ≤ 1000000000000000000) (hr : ws.length = nr) (hok : disE F (N : Int) ws = 0) [hA : Sl w A F.md] [hR : Sls w Ar ws] :
    Calls Try.prog 36 #[.agg #[.int .i64 F.p, .int .i64 F.m, .slice A nf cf], .int .i64 (N : Int), .slice Ar nr cr] w fun e w' => ∃ g, e = .returned (.tuple #[.slice (some ⟨g, 0, none⟩) (N + 1) (N + 1), .int .i64 0]) ∧ Own w' g (disR ws N ws.length) ∧ Ext w w' := by
  subst hr
  obtain ⟨hF, hN1, hN2, hL, hle⟩ := disE_ok hok
  have hre : refE F = 0 := refE_yes hF
  have hlen : ∀ k, k < ws.length → (gr ws k).length = N := fun k hk => by have := (lstE_ok (hle k hk)).1; omega
  have hlen2 : ∀ k, (gr ws k).length ≤ N := fun k => by
    by_cases hk : k < ws.length
    · rw [hlen k hk]; exact Nat.le_refl _
    · rw [gr_out (by omega)]; simp
  have hmk := mk_int (N + 1) (by omega)
  have hcast : ((N + 1 : Nat) : Int) = (N : Int) + 1 := by omega
  rw [hcast] at hmk
  have HLEN := hidd hlen
  have HLEN2 := hidd hlen2
  have HLE := hidd hle
  have hL2 : ¬ (256 : Int) < ws.length := by omega
  clear hok hlen hlen2 hle hcast
  go_enter Try.func36, Try.ntmps36
  go_wp2_with (go_at_call 72; refine (check_calls F A nf cf _ hn hn2).mono ?_; rintro e w1 ⟨rfl, hx1⟩; rw [hre])
  have hbx1 : Bx w1 w.heap.size #[.int .i64 F.p, .int .i64 F.m, .slice A nf cf] 24 := inferInstance
  have hB1 : Bel w w1 := inferInstance
  clear hx1
  go_loopw [8] (fun iv wr => ∃ (k : Nat), iv = .int .i64 k ∧ k ≤ ws.length ∧ Bel w wr ∧ Bx wr w.heap.size #[.int .i64 F.p, .int .i64 F.m, .slice A nf cf] 24) (fun iv _ => ws.length - (intOf iv).toNat)
  case atStart => exact ⟨0, rfl, by omega, hB1, hbx1⟩
  case round =>
    obtain ⟨k, rfl, hk, hB, hbx⟩ := hrel
    clear hB1 hbx1
    by_cases hlt : k < ws.length
    · obtain ⟨ad, Be, ce, rfl, hce, hse⟩ := hR.at_ hlt
      have hce2 : Cel wr (ad.add k) (.slice Be (gr ws k).length ce) := inferInstance
      have hse2 : Sl wr Be (gr ws k) := inferInstance
      have hla : Lo ad.block wr.heap.size := ⟨by have := World.block_lt_of_cell? wr _ hce2.out; rwa [add_block] at this⟩
      have hla2 : Lo (ad.add k).block wr.heap.size := ⟨by rw [add_block]; exact hla.out⟩
      have hX : Near wr.heap.size wr wr := ⟨Below.refl _ _⟩
      have hge := HLEN2.out k
      have hz := HLE.out k hlt
      go_wp2
      go_region_held3 (fun w' => Near wr.heap.size wr w') (infer_instance)
        ((go_at_call 76; refine (list12_calls F _ (gr ws k) Be _ _ N _ rfl (by omega)).mono ?_; rintro e w2 ⟨rfl, hx2⟩; rw [hz]))
      go_wp2
      go_roundw
      case rel => exact ⟨k + 1, by go_num, by omega, inferInstance, inferInstance⟩
      case measure => simp [intOf] <;> omega
    · obtain rfl : k = ws.length := by omega
      have hmk := mk_int (N + 1) (by omega)
      have hcast : ((N + 1 : Nat) : Int) = (N : Int) + 1 := by omega
      rw [hcast] at hmk
      clear hcast hlt
      go_wp2
      have hBA : Bel w (wr.alloc (.cells (ints (List.replicate (N + 1) 0)) 3)) := inferInstance
      have hfr : Fr w wr.heap.size := inferInstance
      have ho1 : Own (wr.alloc (.cells (ints (List.replicate (N + 1) 0)) 3)) wr.heap.size (List.replicate (N + 1) 0) := inferInstance
      obtain ⟨g, hg⟩ : ∃ g, g = wr.heap.size := ⟨_, rfl⟩
      rw [← hg] at hfr ho1 ⊢
      clear hB hbx hmk
      go_loopw [11] (fun iv wr => ∃ (i : Nat), iv = .int .i64 i ∧ i ≤ ws.length ∧ Bel w wr ∧ Own wr g (disR ws N i)) (fun iv _ => ws.length - (intOf iv).toNat)
      case atStart => exact ⟨0, rfl, by omega, hBA, ho1⟩
      case round =>
        clear hBA ho1 hg
        obtain ⟨i, rfl, hi, hB2, ho2⟩ := hrel
        by_cases hlti : i < ws.length
        · obtain ⟨ad, Bi, ci, rfl, hci, hsi⟩ := hR.at_ hlti
          go_wp2
          go_loopw [12] (fun jv wr => ∃ (j : Nat) (zs : List Int), jv = .int .i64 j ∧ j ≤ ws.length ∧ Bel w wr ∧ Own wr g zs ∧ Hid (zs = incL (fun j => dist (gr ws i) (gr ws j)) 1 j (disR ws N i))) (fun jv _ => ws.length - (intOf jv).toNat)
          case atStart => exact ⟨0, _, rfl, by omega, inferInstance, ho2, rfl⟩
          case round =>
            clear hB2 ho2
            obtain ⟨j, zs, rfl, hj, hB3, ho3, HZ⟩ := hrel
            by_cases hltj : j < ws.length
            · obtain ⟨ad2, Bj, cj, e2, hcj, hsj⟩ := hR.at_ hltj
              obtain rfl : ad = ad2 := by injection e2
              have hci2 : Cel wr (ad.add i) (.slice Bi (gr ws i).length ci) := inferInstance
              have hcj2 : Cel wr (ad.add j) (.slice Bj (gr ws j).length cj) := inferInstance
              have hsi2 : Sl wr Bi (gr ws i) := inferInstance
              have hsj2 : Sl wr Bj (gr ws j) := inferInstance
              have hla : Lo ad.block wr.heap.size := ⟨by have := World.block_lt_of_cell? wr _ hci2.out; rwa [add_block] at this⟩
              have hla2 : Lo (ad.add i).block wr.heap.size := ⟨by rw [add_block]; exact hla.out⟩
              have hla3 : Lo (ad.add j).block wr.heap.size := ⟨by rw [add_block]; exact hla.out⟩
              have hX : Near wr.heap.size wr wr := ⟨Below.refl _ _⟩
              have hli := HLEN.out i hlti
              have hlj := HLEN.out j hltj
              have hdl : dist (gr ws i) (gr ws j) < N + 1 := dist_len hlj
              have hzl : zs.length = N + 1 := by rw [HZ.out, incL_len, disR_len]
              have hdz : dist (gr ws i) (gr ws j) < zs.length := by omega
              have hdi : (dist (gr ws i) (gr ws j) : Int) < (N : Int) + 1 := by omega
              have hin : In (dist (gr ws i) (gr ws j)) zs.length := ⟨hdz⟩
              have hrg : 0 ≤ gt zs (dist (gr ws i) (gr ws j)) ∧ gt zs (dist (gr ws i) (gr ws j)) ≤ 100000 := by
                rw [HZ.out, gt_incL _ _ (fun j hj => by rw [disR_len]; exact dist_len (HLEN.out j (by omega)))]
                have h1 := (dis_rng HLEN.out hL (dist (gr ws i) (gr ws j)) i hi).1
                have h2 := cntI_rng (f := fun j => dist (gr ws i) (gr ws j)) (x := 1) (by omega) (dist (gr ws i) (gr ws j)) j
                omega
              have hwr : IntKind.i64.wrap (gt zs (dist (gr ws i) (gr ws j)) + 1) = gt zs (dist (gr ws i) (gr ws j)) + 1 := wr_in (by omega) (by omega)
              have HLI := hidd hli
              have HLJ := hidd hlj
              clear hli hlj
              have hdc : ∀ W [Sl W Bi (gr ws i)] [Sl W Bj (gr ws j)], Calls Try.prog 34 #[.slice Bi (gr ws i).length ci, .slice Bj (gr ws j).length cj] W fun e w' => e = .returned (.int .i64 (dist (gr ws i) (gr ws j))) ∧ Ext W w' := fun W _ _ => dist23_calls (gr ws i) (gr ws j) Bi Bj _ _ _ _ W rfl rfl (by rw [HLI.out]; omega)
              have HN : Hid (incL (fun j => dist (gr ws i) (gr ws j)) 1 (j + 1) (disR ws N i) = inc zs (dist (gr ws i) (gr ws j)) 1) := by show _ = _; rw [incL_succ, ← HZ.out]
              generalize dist (gr ws i) (gr ws j) = d at *
              have HDC := hidd hdc
              clear hdc hrg
              go_upto_region 20 with (fail)
              refine wp_region_E (S := fun w' => Near wr.heap.size wr w') 14 (by kernel_rfl) inferInstance (fun hHeld => ?_)
              refine wpAnyE_take (i := 0) (oi := ⟨some 56, _, _, _, _, _⟩) (v := ?_) rfl (by kernel_rfl) (by kernel_rfl) (by kernel_rfl) (by decide) (by kernel_rfl) (fun _ _ _ h => h) (Or.inl ⟨by rfl, ?_⟩) hHeld ?_
              rotate_left
              · (intro w1 hS1; first | (go_simp; done) | (go_simp; with_reducible rfl))
              try simp only [Act.put, List.setIfInBounds_toArray, List.set_cons_zero, List.set_cons_succ]
              refine wpAnyE_take (i := 1) (oi := ⟨some 57, _, _, _, _, _⟩) (v := ?_) rfl (by kernel_rfl) (by kernel_rfl) (by kernel_rfl) (by decide) (by kernel_rfl) (fun _ _ _ h => h) (Or.inl ⟨by rfl, ?_⟩) hHeld ?_
              rotate_left
              · (intro w1 hS1; first | (go_simp; done) | (go_simp; with_reducible rfl))
              try simp only [Act.put, List.setIfInBounds_toArray, List.set_cons_zero, List.set_cons_succ]
              refine wpAnyE_take (i := 2) (oi := ⟨some 58, _, _, _, _, _⟩) (v := ?_) rfl (by kernel_rfl) (by kernel_rfl) (by kernel_rfl) (by decide) (by kernel_rfl) (fun _ _ _ h => h) (Or.inl ⟨by rfl, ?_⟩) hHeld ?_
              rotate_left
              · (intro w1 hS1; first | (go_simp; done) | (go_simp; with_reducible rfl))
              try simp only [Act.put, List.setIfInBounds_toArray, List.set_cons_zero, List.set_cons_succ]
              refine wpAnyE_take (i := 3) (oi := ⟨some 59, _, _, _, _, _⟩) (v := ?_) rfl (by kernel_rfl) (by kernel_rfl) (by kernel_rfl) (by decide) (by kernel_rfl) (fun _ _ _ h => h) (Or.inl ⟨by rfl, ?_⟩) hHeld ?_
              rotate_left
              · (intro w1 hS1; first | (go_simp; done) | (go_simp; with_reducible rfl))
              try simp only [Act.put, List.setIfInBounds_toArray, List.set_cons_zero, List.set_cons_succ]
              refine wpAnyE_take (i := 4) (oi := ⟨some 60, _, _, _, _, _⟩) (v := ?_) rfl (by kernel_rfl) (by kernel_rfl) (by kernel_rfl) (by decide) (by kernel_rfl) (fun _ _ _ h => h) (Or.inl ⟨by rfl, ?_⟩) hHeld ?_
              rotate_left
              · (intro w1 hS1; first | (go_simp; done) | (go_simp; with_reducible rfl))
              try simp only [Act.put, List.setIfInBounds_toArray, List.set_cons_zero, List.set_cons_succ]
              refine wpAnyE_take (i := 5) (oi := ⟨some 61, _, _, _, _, _⟩) (v := ?_) rfl (by kernel_rfl) (by kernel_rfl) (by kernel_rfl) (by decide) (by kernel_rfl) (fun _ _ _ h => h) (Or.inl ⟨by rfl, ?_⟩) hHeld ?_
              rotate_left
              · (intro w1 hS1; first | (go_simp; done) | (go_simp; with_reducible rfl))
              try simp only [Act.put, List.setIfInBounds_toArray, List.set_cons_zero, List.set_cons_succ]
              refine wpAnyE_take (i := 6) (oi := ⟨some 62, _, _, _, _, _⟩) (v := ?_) rfl (by kernel_rfl) (by kernel_rfl) (by kernel_rfl) (by decide) (by kernel_rfl) (fun _ _ _ h => h) (Or.inl ⟨by rfl, ?_⟩) hHeld ?_
              rotate_left
              · (intro w1 hS1; first | (go_simp; done) | (go_simp; with_reducible rfl))
              try simp only [Act.put, List.setIfInBounds_toArray, List.set_cons_zero, List.set_cons_succ]
              refine wpAnyE_take (i := 7) (oi := ⟨some 63, _, _, _, _, _⟩) (v := ?_) rfl (by kernel_rfl) (by kernel_rfl) (by kernel_rfl) (by decide) (by kernel_rfl) (fun _ _ _ h => h) (Or.inl ⟨by rfl, ?_⟩) hHeld ?_
              rotate_left
              · (intro w1 hS1; first | (go_simp; done) | (go_simp; with_reducible rfl))
              try simp only [Act.put, List.setIfInBounds_toArray, List.set_cons_zero, List.set_cons_succ]
              refine wpAnyE_take (i := 8) (oi := ⟨some 64, _, _, _, _, _⟩) (v := ?_) rfl (by kernel_rfl) (by kernel_rfl) (by kernel_rfl) (by decide) (by kernel_rfl) (fun _ _ _ h => h) (Or.inl ⟨by rfl, ?_⟩) hHeld ?_
              rotate_left
              · (intro w1 hS1; first | (go_simp; done) | (go_simp; with_reducible rfl))
              try simp only [Act.put, List.setIfInBounds_toArray, List.set_cons_zero, List.set_cons_succ]
              refine wpAnyE_one (i := 9) (o := ⟨some 65, _, _, _, _, _⟩) (by kernel_rfl) rfl (fun K hK => ?_)
              go_simp
              (go_at_call 34; refine (HDC.out _).mono ?_; rintro e w4 ⟨rfl, hx4⟩)
              clear hHeld
              refine hK.out _ _ inferInstance (fun hHeld => ?_)
              clear hK K
              try simp only [Act.put, List.setIfInBounds_toArray, List.set_cons_zero, List.set_cons_succ]
              refine wpAnyE_take (i := 10) (oi := ⟨some 66, _, _, _, _, _⟩) (v := ?_) rfl (by kernel_rfl) (by kernel_rfl) (by kernel_rfl) (by decide) (by kernel_rfl) (fun _ _ _ h => h) (Or.inl ⟨by rfl, ?_⟩) hHeld ?_
              rotate_left
              · (intro w1 hS1; first | (go_simp; done) | (go_simp; with_reducible rfl))
              try simp only [Act.put, List.setIfInBounds_toArray, List.set_cons_zero, List.set_cons_succ]
              refine wpAnyE_take (i := 11) (oi := ⟨some 67, _, _, _, _, _⟩) (v := ?_) rfl (by kernel_rfl) (by kernel_rfl) (by kernel_rfl) (by decide) (by kernel_rfl) (fun _ _ _ h => h) (Or.inl ⟨by rfl, ?_⟩) hHeld ?_
              rotate_left
              · (intro w1 hS1; first | (go_simp; done) | (go_simp; with_reducible rfl))
              try simp only [Act.put, List.setIfInBounds_toArray, List.set_cons_zero, List.set_cons_succ]
              refine wpAnyE_take (i := 12) (oi := ⟨some 68, _, _, _, _, _⟩) (v := ?_) rfl (by kernel_rfl) (by kernel_rfl) (by kernel_rfl) (by decide) (by kernel_rfl) (fun _ _ _ h => h) (Or.inl ⟨by rfl, ?_⟩) hHeld ?_
              rotate_left
              · (intro w1 hS1; first | (go_simp; done) | (go_simp; with_reducible rfl))
              try simp only [Act.put, List.setIfInBounds_toArray, List.set_cons_zero, List.set_cons_succ]
              refine wpAnyE_take (i := 13) (oi := ⟨some 69, _, _, _, _, _⟩) (v := ?_) rfl (by kernel_rfl) (by kernel_rfl) (by kernel_rfl) (by decide) (by kernel_rfl) (fun _ _ _ h => h) (Or.inl ⟨by rfl, ?_⟩) hHeld ?_
              rotate_left
              · (intro w1 hS1; first | (go_simp; done) | (go_simp; with_reducible rfl))
              try simp only [Act.put, List.setIfInBounds_toArray, List.set_cons_zero, List.set_cons_succ]
              refine wpAnyE_last (o := ⟨none, _, _, _, _, _⟩) (by kernel_rfl) rfl (fun K hK => ?_)
              go_simp
              refine hK.out _ _ ?_
              clear hK K
              try simp only [Act.put, List.setIfInBounds_toArray, List.set_cons_zero, List.set_cons_succ]
              refine wpAnyE_done (by kernel_rfl) ?_ _
              go_wp2
              go_roundw
              case rel => exact ⟨j + 1, _, by go_num, by omega, inferInstance, own_set, by show _ = _; rw [HN.out]; rfl⟩
              case measure => simp [intOf] <;> omega
            · obtain rfl : j = ws.length := by omega
              go_wp2
              go_roundw
              case rel => exact ⟨i + 1, by go_num, by omega, inferInstance, by rw [disR_succ, ← HZ.out]; exact ho3⟩
              case measure => simp [intOf] <;> omega
        · obtain rfl : i = ws.length := by omega
          go_wp2
          go_ret2
          exact ⟨g, rfl, ho2, Bel.ext inferInstance⟩

end Go.Proofs.Ytcigdhmecfhndaa

/- The walks of Distances and of the law EnumerateDistances. -/
import Derived.Test.YtcigdhmecfhndaaLli
namespace Go.Proofs.Ytcigdhmecfhndaa
open Go.RowKit
attribute [local go_sem] cell_bx froz_bx cell_own froz_own cell_rd cell_cel ints_get ints_set cell_ownv froz_ownv eql_nil_int
set_option linter.unusedVariables false
set_option linter.unusedSimpArgs false

/-! ### counts -/
def inc (out : List Int) (d : Nat) (x : Int) : List Int := out.set d (gt out d + x)
theorem inc_len (out : List Int) (d : Nat) (x : Int) : (inc out d x).length = out.length := List.length_set ..
theorem gt_inc {out : List Int} {d : Nat} (h : d < out.length) (x : Int) (e : Nat) : gt (inc out d x) e = gt out e + if d = e then x else 0 := by
  rw [inc, gt_set _ _ _ _ h]
  split
  · next he => rw [he]
  · omega
def incL (f : Nat → Nat) (x : Int) (m : Nat) (out : List Int) : List Int := loopN m (fun j out => inc out (f j) x) out
theorem incL_len (f : Nat → Nat) (x : Int) (m : Nat) (out : List Int) : (incL f x m out).length = out.length := loopN_len _ _ _ fun _ _ => inc_len _ _ _
def cntI (f : Nat → Nat) (x : Int) (e : Nat) : Nat → Int
  | 0 => 0
  | k + 1 => cntI f x e k + if f k = e then x else 0
theorem gt_incL {f : Nat → Nat} {x : Int} {out : List Int} (e : Nat) : ∀ m, (∀ j, j < m → f j < out.length) → gt (incL f x m out) e = gt out e + cntI f x e m
  | 0, _ => by simp [incL, loopN, cntI]
  | m + 1, h => by
    have ih := gt_incL (x := x) (out := out) e m (fun j hj => h j (by omega))
    have hm : f m < (incL f x m out).length := by rw [incL_len]; exact h m (by omega)
    rw [incL, loopN_succ, ← incL, gt_inc hm, ih, cntI]; omega
theorem cntI_rng {f : Nat → Nat} {x : Int} (hx : 0 ≤ x) (e : Nat) : ∀ m, 0 ≤ cntI f x e m ∧ cntI f x e m ≤ m * x
  | 0 => by simp [cntI]
  | m + 1 => by
    have ih := cntI_rng (f := f) hx e m
    have h3 : ((m + 1 : Nat) : Int) * x = m * x + x := by rw [Int.natCast_succ, Int.add_mul, Int.one_mul]
    rw [cntI]
    split <;> omega
/-- all pairs -/
def disR (ws : List (List Int)) (n m : Nat) : List Int := loopN m (fun i out => incL (fun j => dist (gr ws i) (gr ws j)) 1 ws.length out) (List.replicate (n + 1) 0)
/-- each pair once, by twos -/
def disP (ws : List (List Int)) (n m : Nat) : List Int := loopN m (fun i out => incL (fun j => dist (gr ws i) (gr ws j)) 2 i out) ((List.replicate (n + 1) 0).set 0 (ws.length : Int))
theorem disR_len (ws : List (List Int)) (n m : Nat) : (disR ws n m).length = n + 1 := by
  rw [disR, loopN_len _ _ _ fun _ _ => incL_len _ _ _ _, List.length_replicate]
theorem disP_len (ws : List (List Int)) (n m : Nat) : (disP ws n m).length = n + 1 := by
  rw [disP, loopN_len _ _ _ fun _ _ => incL_len _ _ _ _, List.length_set, List.length_replicate]
def sumI (f : Nat → Int) : Nat → Int
  | 0 => 0
  | k + 1 => sumI f k + f k
theorem sumI_add (f g : Nat → Int) : ∀ k, sumI (fun i => f i + g i) k = sumI f k + sumI g k
  | 0 => rfl
  | k + 1 => by rw [sumI, sumI, sumI, sumI_add f g k]; omega
theorem sumI_congr {f g : Nat → Int} : ∀ k, (∀ i, i < k → f i = g i) → sumI f k = sumI g k
  | 0, _ => rfl
  | k + 1, h => by rw [sumI, sumI, sumI_congr k (fun i hi => h i (by omega)), h k (by omega)]
theorem cntI_sum (f : Nat → Nat) (x : Int) (e : Nat) : ∀ k, cntI f x e k = sumI (fun j => if f j = e then x else 0) k
  | 0 => rfl
  | k + 1 => by rw [cntI, sumI, cntI_sum f x e k]
theorem dist_len {a b : List Int} {n : Nat} (hb : b.length = n) : dist a b < n + 1 := by have := dist_le a b; omega
theorem difL_comm (a b : List Int) : ∀ k, difL a b k = difL b a k
  | 0 => rfl
  | k + 1 => by
    rw [difL, difL, difL_comm a b k]
    by_cases h : gt a k = gt b k
    · rw [if_pos h, if_pos h.symm]
    · rw [if_neg h, if_neg (Ne.symm h)]
theorem dist_comm (a b : List Int) : dist a b = dist b a := by rw [dist, dist, Nat.min_comm, difL_comm]
theorem difL_self (a : List Int) : ∀ k, difL a a k = 0
  | 0 => rfl
  | k + 1 => by rw [difL, if_pos rfl, difL_self a k]
theorem dist_self (a : List Int) : dist a a = 0 := difL_self _ _
theorem gt_disR {ws : List (List Int)} {n : Nat} (h : ∀ k, k < ws.length → (gr ws k).length = n) (e : Nat) : ∀ m, m ≤ ws.length → gt (disR ws n m) e = sumI (fun i => sumI (fun j => if dist (gr ws i) (gr ws j) = e then 1 else 0) ws.length) m
  | 0, _ => by rw [disR, loopN, gt_rep]; rfl
  | m + 1, hm => by
    have ih := gt_disR h e m (by omega)
    rw [disR, loopN_succ, ← disR, gt_incL e _ (fun j hj => by rw [disR_len]; exact dist_len (h j hj)), ih, sumI, cntI_sum]
theorem gt_disP {ws : List (List Int)} {n : Nat} (h : ∀ k, k < ws.length → (gr ws k).length = n) (e : Nat) : ∀ m, m ≤ ws.length → gt (disP ws n m) e = (if 0 = e then (ws.length : Int) else 0) + sumI (fun i => sumI (fun j => if dist (gr ws i) (gr ws j) = e then 2 else 0) i) m
  | 0, _ => by
    rw [disP, loopN, gt_set _ _ _ _ (by simp), gt_rep, sumI]; simp
  | m + 1, hm => by
    have ih := gt_disP h e m (by omega)
    rw [disP, loopN_succ, ← disP, gt_incL e _ (fun j hj => by rw [disP_len]; exact dist_len (h j (by omega))), ih, sumI, cntI_sum]; omega
/-- a square of pairs: twice the half, and the diagonal -/
theorem sum_square (c : Nat → Nat → Int) (d : Nat → Int) (c2 : Nat → Nat → Int) (hs : ∀ i j, c i j = c j i) (h2 : ∀ i j, c2 i j = c i j + c i j) (hd : ∀ i, c i i = d i) : ∀ L, sumI (fun i => sumI (fun j => c i j) L) L = sumI d L + sumI (fun i => sumI (fun j => c2 i j) i) L
  | 0 => rfl
  | L + 1 => by
    have ih := sum_square c d c2 hs h2 hd L
    have e1 : sumI (fun i => sumI (fun j => c i j) (L + 1)) L = sumI (fun i => sumI (fun j => c i j) L) L + sumI (fun i => c i L) L := by
      rw [← sumI_add]; exact sumI_congr L fun i _ => rfl
    have e2 : sumI (fun i => c i L) L = sumI (fun j => c L j) L := sumI_congr L fun i _ => hs i L
    have e3 : sumI (fun j => c2 L j) L = sumI (fun j => c L j) L + sumI (fun j => c L j) L := by
      rw [← sumI_add]; exact sumI_congr L fun j _ => h2 L j
    have e4 : sumI (fun i => sumI (fun j => c i j) (L + 1)) (L + 1) = sumI (fun i => sumI (fun j => c i j) (L + 1)) L + (sumI (fun j => c L j) L + c L L) := rfl
    have e5 : sumI d (L + 1) = sumI d L + d L := rfl
    have e6 : sumI (fun i => sumI (fun j => c2 i j) i) (L + 1) = sumI (fun i => sumI (fun j => c2 i j) i) L + sumI (fun j => c2 L j) L := rfl
    rw [e4, e5, e6, e1, e2, ih, e3, hd]; omega
theorem sumI_const (x : Int) : ∀ L : Nat, sumI (fun _ => x) L = L * x
  | 0 => by simp [sumI]
  | L + 1 => by rw [sumI, sumI_const x L, Int.natCast_succ, Int.add_mul, Int.one_mul]
theorem dis_eq {ws : List (List Int)} {n : Nat} (h : ∀ k, k < ws.length → (gr ws k).length = n) : disP ws n ws.length = disR ws n ws.length := by
  refine ext_gt (by rw [disP_len, disR_len]) fun e _ => ?_
  rw [gt_disP h e _ (Nat.le_refl _), gt_disR h e _ (Nat.le_refl _),
    sum_square (fun i j => if dist (gr ws i) (gr ws j) = e then 1 else 0) (fun _ => if 0 = e then 1 else 0) (fun i j => if dist (gr ws i) (gr ws j) = e then 2 else 0)
      (fun i j => by rw [dist_comm]) (fun i j => by split <;> rfl) (fun i => by rw [dist_self]), sumI_const]
  split
  · rw [Int.mul_one]
  · rw [Int.mul_zero]
theorem sumI_rng {f : Nat → Int} {b : Int} (h : ∀ i, 0 ≤ f i ∧ f i ≤ b) : ∀ k : Nat, 0 ≤ sumI f k ∧ sumI f k ≤ k * b
  | 0 => by simp [sumI]
  | k + 1 => by
    have ih := sumI_rng h k
    have h3 : ((k + 1 : Nat) : Int) * b = k * b + b := by rw [Int.natCast_succ, Int.add_mul, Int.one_mul]
    have := h k
    rw [sumI]; omega

/-! ### errors -/
/-- the first error of a list of words -/
noncomputable def fstE (q : Int) (n : Int) (ws : List (List Int)) : Nat → Int
  | 0 => 0
  | k + 1 => if fstE q n ws k = 0 then lstE q (gr ws k) n else fstE q n ws k
theorem fstE_zero {q n : Int} {ws : List (List Int)} : ∀ k, (∀ j, j < k → lstE q (gr ws j) n = 0) → fstE q n ws k = 0
  | 0, _ => rfl
  | k + 1, h => by rw [fstE, if_pos (fstE_zero k fun j hj => h j (by omega))]; exact h k (by omega)
theorem fstE_at {q n : Int} {ws : List (List Int)} {k : Nat} (h : ∀ j, j < k → lstE q (gr ws j) n = 0) (h2 : lstE q (gr ws k) n ≠ 0) : ∀ d, fstE q n ws (k + 1 + d) = lstE q (gr ws k) n
  | 0 => by rw [Nat.add_zero, fstE, if_pos (fstE_zero k h)]
  | d + 1 => by rw [← Nat.add_assoc, fstE, fstE_at h h2 d, if_neg h2]
theorem fstE_ok {q n : Int} {ws : List (List Int)} : ∀ k, fstE q n ws k = 0 → ∀ j, j < k → lstE q (gr ws j) n = 0
  | 0, _, j, hj => by omega
  | k + 1, h, j, hj => by
    rw [fstE] at h
    split at h
    · next h1 =>
      by_cases e : j = k
      · rw [e]; exact h
      · exact fstE_ok k h1 j (by omega)
    · next h1 => exact absurd h h1
open Classical in
/-- the error of Distances -/
noncomputable def disE (F : Fd) (n : Int) (ws : List (List Int)) : Int := if RefOK F then (if n < 1 ∨ 64 < n then 4 else if 256 < ws.length then 8 else fstE F.q n ws ws.length) else 1
theorem disE_ok {F : Fd} {n : Int} {ws : List (List Int)} (h : disE F n ws = 0) : RefOK F ∧ 1 ≤ n ∧ n ≤ 64 ∧ ws.length ≤ 256 ∧ ∀ j, j < ws.length → lstE F.q (gr ws j) n = 0 := by
  unfold disE at h
  split at h
  · next h1 =>
    split at h
    · cases h
    · split at h
      · cases h
      · exact ⟨h1, by omega, by omega, by omega, fstE_ok _ h⟩
  · cases h

set_option maxRecDepth 100000 in
set_option maxHeartbeats 8000000 in
theorem dis23_err (F : Fd) (A : Option Addr) (nf cf : Nat) (N : Int) (ws : List (List Int)) (Ar : Option Addr) (nr cr : Nat) (w : World) (hn : F.md.length = nf) (hn2 : nf ≤ 1000000000000000000) (hr : ws.length = nr) (hr2 : nr ≤ 1000000000000000000) (hrl : ∀ k, (gr ws k).length ≤ 1000000000000000000) (hno : disE F N ws ≠ 0) [hA : Sl w A F.md] [hR : Sls w Ar ws] :
    Calls Try.prog 36 #[.agg #[.int .i64 F.p, .int .i64 F.m, .slice A nf cf], .int .i64 N, .slice Ar nr cr] w fun e w' => e = .returned (.tuple #[.slice none 0 0, .int .i64 (disE F N ws)]) ∧ Ext w w' := by
  subst hr
  by_cases hF : RefOK F
  · have hre : refE F = 0 := refE_yes hF
    by_cases hN : N < 1
    · have HE : Hid (disE F N ws = 4) := by show _ = _; rw [disE, if_pos hF, if_pos (.inl hN)]
      clear hno
      go_enter Try.func36, Try.ntmps36
      go_wp2_with (go_at_call 72; refine (check_calls F A nf cf _ hn hn2).mono ?_; rintro e w1 ⟨rfl, hx1⟩; rw [hre])
      go_ret2
      rw [HE.out]
      exact ⟨rfl, Bel.ext inferInstance⟩
    · by_cases hN2 : 64 < N
      · have HE : Hid (disE F N ws = 4) := by show _ = _; rw [disE, if_pos hF, if_pos (.inr hN2)]
        clear hno
        go_enter Try.func36, Try.ntmps36
        go_wp2_with (go_at_call 72; refine (check_calls F A nf cf _ hn hn2).mono ?_; rintro e w1 ⟨rfl, hx1⟩; rw [hre])
        go_ret2
        rw [HE.out]
        exact ⟨rfl, Bel.ext inferInstance⟩
      · by_cases hL : 256 < ws.length
        · have HE : Hid (disE F N ws = 8) := by show _ = _; rw [disE, if_pos hF, if_neg (by omega), if_pos hL]
          have hL2 : (256 : Int) < ws.length := by omega
          clear hno
          go_enter Try.func36, Try.ntmps36
          go_wp2_with (go_at_call 72; refine (check_calls F A nf cf _ hn hn2).mono ?_; rintro e w1 ⟨rfl, hx1⟩; rw [hre])
          go_ret2
          rw [HE.out]
          exact ⟨rfl, Bel.ext inferInstance⟩
        · have HE : Hid (disE F N ws = fstE F.q N ws ws.length) := by show _ = _; rw [disE, if_pos hF, if_neg (by omega), if_neg hL]
          rw [HE.out] at hno
          have HNO := hidd hno
          have HRL := hidd hrl
          have hL2 : ¬ (256 : Int) < ws.length := by omega
          clear hno hrl
          go_enter Try.func36, Try.ntmps36
          go_wp2_with (go_at_call 72; refine (check_calls F A nf cf _ hn hn2).mono ?_; rintro e w1 ⟨rfl, hx1⟩; rw [hre])
          have hbx1 : Bx w1 w.heap.size #[.int .i64 F.p, .int .i64 F.m, .slice A nf cf] 24 := inferInstance
          have hB1 : Bel w w1 := inferInstance
          clear hx1
          go_loopw [8] (fun iv wr => ∃ (k : Nat), iv = .int .i64 k ∧ k ≤ ws.length ∧ Bel w wr ∧ Bx wr w.heap.size #[.int .i64 F.p, .int .i64 F.m, .slice A nf cf] 24 ∧ Hid (∀ j, j < k → lstE F.q (gr ws j) N = 0)) (fun iv _ => ws.length - (intOf iv).toNat)
          case atStart => exact ⟨0, rfl, by omega, hB1, hbx1, fun j hj => by omega⟩
          case round =>
            obtain ⟨k, rfl, hk, hB, hbx, HZ⟩ := hrel
            clear hB1 hbx1
            by_cases hlt : k < ws.length
            · obtain ⟨ad, Be, ce, rfl, hce, hse⟩ := hR.at_ hlt
              have hce2 : Cel wr (ad.add k) (.slice Be (gr ws k).length ce) := inferInstance
              have hse2 : Sl wr Be (gr ws k) := inferInstance
              have hla : Lo ad.block wr.heap.size := ⟨by have := World.block_lt_of_cell? wr _ hce2.out; rwa [add_block] at this⟩
              have hla2 : Lo (ad.add k).block wr.heap.size := ⟨by rw [add_block]; exact hla.out⟩
              have hX : Near wr.heap.size wr wr := ⟨Below.refl _ _⟩
              have hge := HRL.out k
              by_cases hz : lstE F.q (gr ws k) N = 0
              · have HZ2 := hidd hz
                go_wp2
                go_region_held3 (fun w' => Near wr.heap.size wr w') (infer_instance)
                  ((go_at_call 76; refine (list12_calls F _ (gr ws k) Be _ _ N _ rfl hge).mono ?_; rintro e w2 ⟨rfl, hx2⟩; rw [hz]))
                go_wp2
                go_roundw
                case rel => exact ⟨k + 1, by go_num, by omega, inferInstance, inferInstance, fun j hj => by
                  by_cases e : j = k
                  · rw [e]; exact HZ2.out
                  · exact HZ.out j (by omega)⟩
                case measure => simp [intOf] <;> omega
              · have hzb : (lstE F.q (gr ws k) N != 0) = true := by simp [hz]
                have HV : Hid (fstE F.q N ws ws.length = lstE F.q (gr ws k) N) := by
                  obtain ⟨d, hd⟩ : ∃ d, ws.length = k + 1 + d := ⟨ws.length - (k + 1), by omega⟩
                  show _ = _
                  rw [hd]; exact fstE_at HZ.out hz d
                clear hz
                go_wp2
                go_region_held3 (fun w' => Near wr.heap.size wr w') (infer_instance)
                  ((go_at_call 76; refine (list12_calls F _ (gr ws k) Be _ _ N _ rfl hge).mono ?_; rintro e w2 ⟨rfl, hx2⟩))
                go_wp2
                go_ret2
                rw [HE.out, HV.out]
                exact ⟨rfl, Bel.ext inferInstance⟩
            · obtain rfl : k = ws.length := by omega
              exact absurd (fstE_zero _ HZ.out) HNO.out
  · have hre : refE F = 1 := refE_no hF
    have HE : Hid (disE F N ws = 1) := by show _ = _; rw [disE, if_neg hF]
    clear hno
    go_enter Try.func36, Try.ntmps36
    go_wp2_with (go_at_call 72; refine (check_calls F A nf cf _ hn hn2).mono ?_; rintro e w1 ⟨rfl, hx1⟩; rw [hre])
    go_ret2
    rw [HE.out]
    exact ⟨rfl, Bel.ext inferInstance⟩

end Go.Proofs.Ytcigdhmecfhndaa

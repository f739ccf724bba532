/- The walks of package field: order, isPrime, digitsOf, valueOf, shape. The walk of field.multiply. The walk of field.multiply. The walks of field.powers, field.generator. The walks of field.generator, shape, Check. The walks of field.shape, Check. -/
import Derived.Test.YtcigdhmecfhndaaLib
import Derived.Test.YtcigdhmecfhndaaBase
import Derived.Laws.CopyOwn
import Derived.Test.YtcigdhmecfhndaaLib2
namespace Go.Proofs.Ytcigdhmecfhndaa
open Go.RowKit
attribute [local go_sem] cell_bx froz_bx cell_own froz_own cell_rd cell_cel ints_get ints_set
set_option linter.unusedVariables false
set_option linter.unusedSimpArgs false

set_option maxRecDepth 100000 in
set_option maxHeartbeats 1000000 in
theorem forder_calls (p m : Int) (w : World) :
    Calls Try.prog 120 #[.int .i64 p, .int .i64 m] w fun e w' => e = .returned (.int .i64 (ordF p m)) ∧ Ext w w' := by
  by_cases h : p < 2 ∨ 256 < p ∨ m < 1 ∨ 8 < m
  · have hf : ordF p m = 0 := by
      by_cases hc : ordF p m = 0
      · exact hc
      · obtain ⟨h1, h2, h3, h4, _⟩ := ordF_spec hc; omega
    rw [hf]
    clear hf
    rcases h with h | h | h | h
    all_goals
      go_enter Try.func120, Try.ntmps120
      go_wp2
      all_goals
        go_ret
        exact ⟨rfl, Bel.ext inferInstance⟩
  · have hf : ordF p m = (ordL p m.toNat 1).getD 0 := by unfold ordF; rw [if_neg (by omega)]
    have Hf := hidd hf
    clear hf
    have h1 : 2 ≤ p := by omega
    have h1' : p ≤ 256 := by omega
    have h2 : 1 ≤ m := by omega
    have h3 : m ≤ 8 := by omega
    clear h
    go_enter Try.func120, Try.ntmps120
    go_wp2
    go_loop [5, 21] (fun q i => ∃ (k : Nat) (qn : Int), i = .int .i64 k ∧ q = .int .i64 qn ∧ (k : Int) ≤ m ∧ 1 ≤ qn ∧ qn ≤ 256 ∧ Hid (ordL p m.toNat 1 = ordL p (m.toNat - k) qn)) (fun _ i => m.toNat - (intOf i).toNat)
    case atStart => exact ⟨0, 1, rfl, rfl, by omega, by omega, by omega, rfl⟩
    case round =>
      obtain ⟨k, qn, rfl, rfl, hk, q1, q2, HR⟩ := hrel
      by_cases hlt : (k : Int) < m
      · have hqp : qn * p ≤ 256 * 256 := Int.mul_le_mul q2 h1' (by omega) (by omega)
        have hqp0 : 0 ≤ qn * p := Int.mul_nonneg (by omega) (by omega)
        by_cases hq : qn * p > 256
        · have hq' : qn > 256 / p := Int.ediv_lt_of_lt_mul (by omega) (by omega)
          have HQ := hidd hq'
          clear hq'
          go_wp2
          go_ret
          have e : m.toNat - k = (m.toNat - (k + 1)) + 1 := by omega
          refine ⟨ret_int ?_, Bel.ext inferInstance⟩
          rw [Hf.out, HR.out, e, ordL, if_pos HQ.out]; rfl
        · have hq' : ¬ qn > 256 / p := by
            intro h
            have := Int.lt_mul_of_ediv_lt (by omega) h
            omega
          have hm0 : 1 ≤ qn * p := by
            have := Int.mul_le_mul q1 (show (1 : Int) ≤ p by omega) (by omega) (by omega)
            omega
          have HQ := hidd hq'
          clear hq'
          go_wp2
          go_round
          case rel =>
            have e : m.toNat - k = (m.toNat - (k + 1)) + 1 := by omega
            refine ⟨k + 1, qn * p, by go_num, rfl, by omega, hm0, by omega, ?_⟩
            show ordL p m.toNat 1 = _
            rw [HR.out, e, ordL, if_neg HQ.out]
          case measure => simp [intOf] <;> omega
      · go_wp2
        go_ret
        obtain rfl : m = (k : Int) := by omega
        refine ⟨ret_int ?_, Bel.ext inferInstance⟩
        rw [Hf.out, HR.out]
        simp [ordL]

theorem prime_of_small {n k : Int} (h2 : 2 ≤ n) (hk : 0 ≤ k) (hkk : n < k * k) (h : ∀ d : Int, 2 ≤ d → d < k → n % d ≠ 0) : PrimeI n := by
  intro d hd hdn hm
  by_cases hdk : d < k
  · exact h d hd hdk hm
  · have hdv : d ∣ n := Int.dvd_of_emod_eq_zero hm
    obtain ⟨e, he⟩ := hdv
    have he1 : 2 ≤ e := by
      by_cases h0 : e ≤ 0
      · have : d * e ≤ 0 := Int.mul_nonpos_of_nonneg_of_nonpos (by omega) h0
        omega
      · by_cases h1 : e = 1
        · rw [h1] at he; omega
        · omega
    have hek : e < k := by
      refine Int.not_le.1 fun hke => ?_
      have := Int.mul_le_mul (Int.not_lt.1 hdk) hke hk (by omega)
      omega
    refine h e he1 hek ?_
    rw [he]
    exact Int.mul_emod_left _ _

set_option maxRecDepth 100000 in
set_option maxHeartbeats 1000000 in
theorem isPrime_calls (n : Int) (w : World) (h2 : 2 ≤ n) (hn : n ≤ 1000000) :
    Calls Try.prog 142 #[.int .i64 n] w fun e w' => e = .returned (.bool (primeB n)) ∧ w' = w := by
  go_enter Try.func142, Try.ntmps142
  go_wp2
  go_loop [3] (fun i => ∃ k : Int, i = .int .i64 k ∧ 2 ≤ k ∧ k ≤ n + 1 ∧ Hid (∀ d : Int, 2 ≤ d → d < k → n % d ≠ 0)) (fun i => (n + 1 - intOf i).toNat)
  case atStart => exact ⟨2, rfl, by omega, by omega, fun d h1 h2 => by omega⟩
  case round =>
    obtain ⟨k, rfl, hk, hk2, HI⟩ := hrel
    have hk0 : 0 ≤ k * k := Int.mul_nonneg (by omega) (by omega)
    have hkb : k * k ≤ 1000001 * 1000001 := Int.mul_le_mul (by omega) (by omega) (by omega) (by omega)
    have hkk : k < k * k := by
      have := Int.mul_le_mul hk (Int.le_refl k) (by omega) (by omega)
      omega
    have HK := hidd hkk
    clear hkk
    by_cases hlt : k * k ≤ n
    · by_cases hd : n % k = 0
      · have hd' : (n % k == 0) = true := beq_iff_eq.2 hd
        have HD := hidd hd
        clear hd
        go_wp2
        go_ret
        exact ⟨ret_bool (primeB_no fun h => h k hk (by have := HK.out; omega) HD.out).symm, rfl⟩
      · go_wp2
        go_round
        case rel => exact ⟨k + 1, by go_num, by omega, by have := HK.out; omega, fun d h1 h2 => by
          by_cases e : d = k
          · rw [e]; exact hd
          · exact HI.out d h1 (by omega)⟩
        case measure => have := HK.out; simp [intOf] <;> omega
    · go_wp2
      go_ret
      exact ⟨ret_bool (by rw [primeB_yes (prime_of_small h2 (by omega) (by omega) HI.out)]), rfl⟩

set_option maxRecDepth 100000 in
set_option maxHeartbeats 1000000 in
theorem digitsOf_calls (x p : Int) (n : Nat) (w : World) (hx : 0 ≤ x) (hx2 : x ≤ 4611686018427387904) (hp : 1 ≤ p) (hp2 : p ≤ 4611686018427387904) (hn : n ≤ 100000) :
    Calls Try.prog 158 #[.int .i64 x, .int .i64 p, .int .i64 n] w fun e w' => ∃ g, e = .returned (.slice (some ⟨g, 0, none⟩) n n) ∧ Fr w g ∧ Own w' g (digL x p n) ∧ Ext w w' := by
  have hmk := mk_int n (by omega)
  go_enter Try.func158, Try.ntmps158
  go_wp2
  go_loopw [0, 13] (fun xv i wr => ∃ (k : Nat) (y : Int) (zs : List Int), k ≤ n ∧ i = .int .i64 k ∧ xv = .int .i64 y ∧ 0 ≤ y ∧ y ≤ x ∧ Bel w wr ∧ Own wr w.heap.size zs ∧ Hid (zs = part n (digF x p) k ∧ y = x / p ^ k)) (fun _ i _ => n - (intOf i).toNat)
  case atStart => exact ⟨0, x, _, by omega, rfl, rfl, hx, by omega, inferInstance, inferInstance, part_zero _ _, by simp⟩
  case round =>
    obtain ⟨k, y, zs, hk, rfl, rfl, hy0, hy1, hB, ho, HI⟩ := hrel
    by_cases hlt : k < n
    · have hko : In k zs.length := ⟨by rw [HI.out.1, part_length]; exact hlt⟩
      have hko' := hko.out
      have hd0 : 0 ≤ y / p := Int.ediv_nonneg hy0 (by omega)
      have hd1 : y / p ≤ y := Int.ediv_le_self _ hy0
      go_wp2
      go_roundw
      case rel =>
        refine ⟨k + 1, y / p, _, by omega, by go_num, rfl, hd0, by omega, inferInstance, inferInstance, ?_, ?_⟩
        · rw [HI.out.1]; exact part_set _ _ _ _ hlt (by rw [HI.out.2]; rfl)
        · rw [HI.out.2, Int.pow_succ, Int.ediv_ediv_of_nonneg (Int.pow_nonneg (by omega))]
      case measure => simp [intOf] <;> omega
    · go_wp2
      go_ret
      obtain rfl : k = n := by omega
      rw [HI.out.1, part_full] at ho
      exact ⟨_, rfl, inferInstance, ho, hB.ext⟩

set_option maxRecDepth 100000 in
set_option maxHeartbeats 1000000 in
theorem valueOf_calls (p : Int) (d : List Int) (A : Option Addr) (n c : Nat) (w : World) (hn : d.length = n) [hA : Sl w A d] (hp : 1 ≤ p) (hp2 : p ≤ 256) (hb : ∀ k, k < d.length → 0 ≤ gt d k ∧ gt d k < p) (hq : p ^ d.length ≤ 256) (hl : d.length ≤ 8) :
    Calls Try.prog 159 #[.slice A n c, .int .i64 p] w fun e w' => e = .returned (.int .i64 (valL p d)) ∧ Ext w w' := by
  subst hn
  have HQ := hidd hq
  have HBD := hidd hb
  clear hq hb
  go_enter Try.func159, Try.ntmps159
  go_wp2
  go_loopw [5, 6] (fun xv iv wr => ∃ (j : Nat) (x : Int), iv = .int .i64 (j - 1) ∧ xv = .int .i64 x ∧ j ≤ d.length ∧ Bel w wr ∧ Hid (x = valL p (d.drop j))) (fun _ iv _ => (intOf iv + 1).toNat)
  case atStart => exact ⟨d.length, 0, rfl, rfl, by omega, inferInstance, (by simp [valL] : (0 : Int) = valL p (d.drop d.length))⟩
  case round =>
    obtain ⟨j, x, rfl, rfl, hj, hB, HI⟩ := hrel
    by_cases hlt : 0 < j
    · obtain ⟨i, rfl⟩ : ∃ i, j = i + 1 := ⟨j - 1, by omega⟩
      have ei : ((i + 1 : Nat) : Int) - 1 = (i : Int) := by omega
      rw [ei]
      have hil : i < d.length := by omega
      obtain ⟨ad, rfl, rd⟩ := hA.at_ hil
      have hin := HBD.out i hil
      have h1 := valL_bound hp (d.drop (i + 1)) fun k hk => by
        have := HBD.out (i + 1 + k) (by simp at hk; omega)
        simpa [gt] using this
      have h2 : p ^ (d.drop (i + 1)).length ≤ 256 := Int.le_trans (pow_mono hp (by simp)) HQ.out
      rw [← HI.out] at h1
      have hx0 := h1.1
      have hx1 : x ≤ 256 := by omega
      have hg0 := hin.1
      have hg1 := hin.2
      have hxp : x * p ≤ 256 * 256 := Int.mul_le_mul hx1 hp2 (by omega) (by omega)
      have hxp0 : 0 ≤ x * p := Int.mul_nonneg hx0 (by omega)
      clear h1 h2 hin ei
      go_wp2
      go_roundw
      case rel => exact ⟨i, x * p + gt d i, by simp, rfl, by omega, inferInstance, by show x * p + gt d i = _; rw [HI.out, valL_drop p d hil]⟩
      case measure => simp [intOf] <;> omega
    · obtain rfl : j = 0 := by omega
      go_wp2
      go_ret
      exact ⟨ret_int (by rw [HI.out, List.drop_zero]), hB.ext⟩

end Go.Proofs.Ytcigdhmecfhndaa

namespace Go.Proofs.Ytcigdhmecfhndaa
open Go.RowKit
attribute [local go_sem] cell_bx froz_bx cell_own froz_own cell_rd cell_cel ints_get ints_set
set_option linter.unusedVariables false
set_option linter.unusedSimpArgs false

theorem size_int : (Try.prog.info? 3).map (·.size) = some 1 := by kernel_rfl

theorem shift_list (z0 : Int) (zt : List Int) : (mkL (zt.length + 1) fun j => if j = 0 then gt (z0 :: zt) 0 else gt (z0 :: zt) (j - 1)) = z0 :: (z0 :: zt).take zt.length := by
  refine ext_gt (by simp [mkL_length]) fun k hk => ?_
  rw [mkL_length] at hk
  rw [gt_mkL hk]
  cases k with
  | zero => simp [gt]
  | succ k =>
    rw [if_neg (by omega)]
    have : gt (z0 :: (z0 :: zt).take zt.length) (k + 1) = gt ((z0 :: zt).take zt.length) k := by simp [gt]
    rw [this, gt_take (by omega)]; rfl
theorem splice_shift (z0 : Int) (zt : List Int) (sp : List Value) : splice (nums (z0 :: zt) ++ sp) 1 (nums ((z0 :: zt).take zt.length)) = nums (mkL (zt.length + 1) fun j => if j = 0 then gt (z0 :: zt) 0 else gt (z0 :: zt) (j - 1)) ++ sp := by
  rw [shift_list]
  have hl : (nums ((z0 :: zt).take zt.length)).length = zt.length := by simp [nums]
  rw [splice, hl]
  simp only [nums, List.map_cons, List.cons_append, List.take_succ_cons, List.take_zero, List.nil_append]
  rw [Nat.add_comm, List.drop_succ_cons, List.drop_append_of_le_length (by simp)]
  simp
theorem copy_shift {W : World} {ops : Array Oper} {rest : List Oper} {o : Oper} {a : Act} {Q : Exit → Act → World → Prop} (hgd : o.guard = none) (d s : Operand)
    (ho : o.op = .call { callee := .builtin .copy, args := #[d, s], argTypes := #[22, 22] }) (g M c1 c2 : Nat) (zs : List Int) (dp : Option Addr) (hM : 1 ≤ M) (hz : zs.length = M)
    (hd : a.eval d = .slice dp (M - 1) c1) (hs : a.eval s = .slice (some ⟨g, 0, none⟩) (M - 1) c2) (hdp : 1 < M → dp = some ⟨g, 1, none⟩) (hown : Own W g zs)
    (h : ∀ w', Own w' g (mkL M fun j => if j = 0 then gt zs 0 else gt zs (j - 1)) → Near g W w' → wpList Try.prog ops Q rest (a.put o.dst (.int .i64 ((M - 1 : Nat) : Int))) w') :
    wpList Try.prog ops Q (o :: rest) a W := by
  obtain ⟨sp, e⟩ := hown.out
  have e' : W.heap[g]? = some (.cells (nums zs ++ sp.toList).toArray 3 (0, 0)) := by
    rw [e]; congr 2; apply Array.ext'; simp [ints, nums]
  refine wpList_copy_splice hgd d s 22 22 ho 3 Try.underlying22 size_int dp (some ⟨g, 0, none⟩) (M - 1) c1 (M - 1) c2 hd hs g 1 _ 3 e' (nums (zs.take (M - 1))) (by simp [nums, hz]) (fun hp => ⟨hdp (by simp [nums] at hp; omega), _, rfl, fun j v hv => ?_⟩) (by simp [nums, hz]; omega) (fun v hv => ?_) g W (Below.refl _ _) (Nat.le_refl _) fun w' hw hb => ?_
  · have hj : j < M - 1 := by
      rcases Nat.lt_or_ge j (M - 1) with h | h
      · exact h
      · rw [nums, List.getElem?_map, List.getElem?_eq_none (by simp; omega)] at hv; cases hv
    rw [add_plain, own_cell hown (by omega), gt_eq (by omega)]
    have h2 : (zs.take (M - 1))[j]? = some zs[j] := by rw [List.getElem?_take_of_lt hj, List.getElem?_eq_getElem (by omega)]
    simp only [nums, List.getElem?_map, h2, Option.map_some, Option.some.injEq] at hv
    exact congrArg some hv
  · simp only [nums, List.mem_map] at hv; obtain ⟨q, _, rfl⟩ := hv; rfl
  · have hl : (nums (zs.take (M - 1))).length = M - 1 := by simp [nums, hz]
    rw [hl]
    refine h w' ⟨⟨sp, ?_⟩⟩ ⟨hb⟩
    obtain ⟨z0, zt, rfl⟩ : ∃ z0 zt, zs = z0 :: zt := by
      cases zs with
      | nil => simp at hz; omega
      | cons z0 zt => exact ⟨z0, zt, rfl⟩
    obtain rfl : M = zt.length + 1 := by simpa using hz.symm
    rw [hw.out, Nat.add_sub_cancel, splice_shift]
    congr 2
    apply Array.ext'
    simp [ints, nums]

end Go.Proofs.Ytcigdhmecfhndaa

namespace Go.Proofs.Ytcigdhmecfhndaa
open Go.RowKit
attribute [local go_sem] cell_bx froz_bx cell_own froz_own cell_rd cell_cel ints_get ints_set
set_option linter.unusedVariables false
set_option linter.unusedSimpArgs false

set_option maxRecDepth 100000 in
set_option maxHeartbeats 4000000 in
theorem multiply_calls (F : Fd) (A : Option Addr) (n c : Nat) (x y : Int) (w : World) (hG : F.Good) (hn : F.md.length = n) (hx : 0 ≤ x ∧ x ≤ 1000000) (hy : 0 ≤ y ∧ y ≤ 1000000) [hA : Sl w A F.md] :
    Calls Try.prog 144 #[.agg #[.int .i64 F.p, .int .i64 F.m, .slice A n c], .int .i64 x, .int .i64 y] w fun e w' => e = .returned (.int .i64 (F.mulP x y)) ∧ Ext w w' := by
  obtain ⟨p, m, md⟩ := F
  obtain ⟨M, rfl⟩ : ∃ M : Nat, m = M := ⟨m.toNat, by have := hG.m1; simp at this; omega⟩
  have hp := hG.p2
  have hp2 := hG.p256
  have hm1 := hG.m1
  have hm2 := hG.m8
  have hqq := hG.q
  have hpm := hG.pm
  have hmr := hG.res
  have hml := hG.len
  simp only [Int.toNat_natCast] at hp hp2 hm1 hm2 hqq hpm hmr hml hn hA
  have HP := hidd (And.intro hqq (And.intro hpm hml))
  obtain ⟨dx, hdx⟩ : ∃ l, l = digL x p M := ⟨_, rfl⟩
  obtain ⟨dy, hdy⟩ : ∃ l, l = digL y p M := ⟨_, rfl⟩
  have hxl : dx.length = M := by rw [hdx]; exact digL_length _ _ _
  have hyl : dy.length = M := by rw [hdy]; exact digL_length _ _ _
  have hxr : Res p dx := by rw [hdx]; exact digL_res (by omega) _
  have hyr : Res p dy := by rw [hdy]; exact digL_res (by omega) _
  have HX := hidd (And.intro hdx (And.intro hdy (And.intro hxl (And.intro hyl hn))))
  clear hqq hpm hxl hyl hml hn
  have hmk := mk_int M (by omega)
  go_enter Try.func144, Try.ntmps144
  go_wp2
  have hN : Near (w.heap.size + 1) (w.alloc (.cells #[.int .i64 p, .int .i64 M, .slice A n c] 24)) (w.alloc (.cells #[.int .i64 p, .int .i64 M, .slice A n c] 24)) := ⟨Below.refl _ _⟩
  have hL : Lo (w.heap.size + 1) ((w.alloc (.cells #[.int .i64 p, .int .i64 M, .slice A n c] 24)).heap.size + 1) := ⟨by simp⟩
  go_region_held3 (fun w' => Near (w.heap.size + 1) (w.alloc (.cells #[.int .i64 p, .int .i64 M, .slice A n c] 24)) w') (infer_instance)
    ((first
      | (go_at_call_of 158 (Value.int IntKind.i64 x); refine (digitsOf_calls x p M _ hx.1 (by omega) (by omega) (by omega) (by omega)).mono ?_; rintro e w1 ⟨g, rfl, hg, ho, hx1⟩)
      | (go_at_call 158; refine (digitsOf_calls y p M _ hy.1 (by omega) (by omega) (by omega) (by omega)).mono ?_; rintro e w2 ⟨g2, rfl, hg2, ho2, hx2⟩)))
  rw [← hdx] at ho
  rw [← hdy] at ho2
  have ho1 : Own w2 g dx := inferInstance
  have hb1 : Bel w w2 := inferInstance
  have hbx1 : Bx w2 w.heap.size #[.int .i64 p, .int .i64 M, .slice A n c] 24 := inferInstance
  have hl1 : g < w2.heap.size := by obtain ⟨sp, e⟩ := ho1.out; exact blk_lt e
  have hl2 : g2 < w2.heap.size := by obtain ⟨sp, e⟩ := ho2.out; exact blk_lt e
  have hl3 : w.heap.size < w2.heap.size := blk_lt hbx1.out
  clear hdx hdy hx1 hx2 ho hg hN hL
  go_wp2
  obtain ⟨g3, hg3⟩ : ∃ g3, g3 = w2.heap.size := ⟨_, rfl⟩
  obtain ⟨w3, hw3⟩ : ∃ w3, w3 = w2.alloc (.cells (ints (List.replicate M 0)) 3) := ⟨_, rfl⟩
  have ho3 : Own w3 g3 (List.replicate M 0) := by rw [hw3, hg3]; infer_instance
  have hb2 : Bel w w3 := by rw [hw3]; infer_instance
  have hbx2 : Bx w3 w.heap.size #[.int .i64 p, .int .i64 M, .slice A n c] 24 := by rw [hw3]; infer_instance
  have hoa : Own w3 g dx := by rw [hw3]; infer_instance
  have hob : Own w3 g2 dy := by rw [hw3]; infer_instance
  rw [← hw3, ← hg3]
  have ap1 : Apart g g3 := ⟨by omega⟩
  have ap2 : Apart g2 g3 := ⟨by omega⟩
  have ap3 : Apart w.heap.size g3 := ⟨by omega⟩
  have fr3 : Fr w g3 := ⟨by omega⟩
  have lo1 : Lo g g3 := ⟨by omega⟩
  have lo2 : Lo g2 g3 := ⟨by omega⟩
  have lo3 : Lo w.heap.size g3 := ⟨by omega⟩
  clear hw3 hg3 hl1 hl2 hl3 hg2 hb1 hbx1 ho1 ho2 hmk
  go_loopw [10] (fun iv wr => ∃ (t : Nat) (zs : List Int), iv = .int .i64 (M - 1 - t) ∧ t ≤ M ∧ Bel w wr ∧ Bx wr w.heap.size #[.int .i64 p, .int .i64 M, .slice A n c] 24 ∧ Own wr g dx ∧ Own wr g2 dy ∧ Own wr g3 zs ∧ Hid (zs = hornN ⟨p, M, md⟩ dx dy t ∧ zs.length = M)) (fun iv _ => (intOf iv + 1).toNat)
  case atStart => exact ⟨0, _, by simp, by omega, hb2, hbx2, hoa, hob, ho3, rfl, by simp⟩
  case round =>
    obtain ⟨t, zs, rfl, ht, hB, hbx, hox, hoy, hoz, HI⟩ := hrel
    clear hb2 hbx2 hoa hob ho3
    by_cases hlt : t < M
    · obtain ⟨i, hi⟩ : ∃ i : Nat, i = M - 1 - t := ⟨_, rfl⟩
      have ei : (M : Int) - 1 - (t : Int) = (i : Int) := by omega
      rw [ei]
      have hiM : i < M := by omega
      have hiy : i < dy.length := by rw [HX.out.2.2.2.1]; exact hiM
      have hMz : M - 1 < zs.length := by rw [HI.out.2]; omega
      have hin0 : In 0 zs.length := ⟨by omega⟩
      have HE := hidd (And.intro hi ei)
      clear hi ei
      have e1 : IntKind.i64.wrap ((M : Int) - 1) = (M : Int) - 1 := wr_in (by omega) (by omega)
      have e2 : ((M : Int) - 1).toNat = M - 1 := by omega
      have e3 : (M : Int) - 1 < (M : Int) := by omega
      have e4 : (M : Int) - 1 ≤ (M : Int) := by omega
      have e5 : (1 : Int) ≤ (M : Int) := by omega
      go_upto_region 7 with (fail)
      go_still_tail 7, (by kernel_rfl)
      change wpList _ _ _ _ _ wr.drew
      refine copy_shift rfl (.tmp 43) (.tmp 48) rfl g3 M _ _ zs _ (by omega) HI.out.2 rfl rfl (fun h => ?_) (inferInstance : Own wr.drew g3 zs) fun w4 ho4 hn4 => ?_
      · first | rfl | (rw [if_neg (by omega)])
      clear e1 e2 e3 e4 e5
      have hb4 : Bel w w4 := inferInstance
      have hbx4 : Bx w4 w.heap.size #[.int .i64 p, .int .i64 M, .slice A n c] 24 := inferInstance
      have hox4 : Own w4 g dx := inferInstance
      have hoy4 : Own w4 g2 dy := inferInstance
      clear hn4 hB hbx hox hoy hoz
      obtain ⟨z4, hz4⟩ : ∃ z4, z4 = mkL M fun j => if j = 0 then gt zs 0 else gt zs (j - 1) := ⟨_, rfl⟩
      rw [← hz4] at ho4
      have hl4 : 0 < z4.length := by rw [hz4, mkL_length]; omega
      have hin4 : In 0 z4.length := ⟨hl4⟩
      have hs4 : z4.set 0 0 = shiftL M zs := by
        rw [hz4]; refine ext_gt (by simp [mkL_length, shiftL]) fun k hk => ?_
        rw [List.length_set, mkL_length] at hk
        rw [gt_set _ _ _ _ (by rw [mkL_length]; omega), shiftL, gt_mkL hk, gt_mkL hk]
        by_cases h0 : k = 0
        · rw [if_pos h0.symm, if_pos h0]
        · rw [if_neg (fun h => h0 h.symm), if_neg h0, if_neg h0]
      have HS4 := hidd hs4
      clear hs4 hz4
      have hM0 : 0 < M := by omega
      have hM0' : (0 : Int) < (M : Int) := by omega
      obtain ⟨top, htop⟩ : ∃ top, top = gt zs (M - 1) := ⟨_, rfl⟩
      have hzres : Res p zs := by rw [HI.out.1]; exact hornN_res ⟨p, M, md⟩ (by show 0 < p; omega) _ _ _
      have ht1 := (hzres (M - 1)).1
      have ht2 := (hzres (M - 1)).2
      rw [← htop] at ht1 ht2 ⊢
      have HT := hidd htop
      clear htop
      generalize (if M = 1 then (some ⟨g3, 0, none⟩ : Option Addr) else some ⟨g3, 1, none⟩) = dp0
      go_wp2
      obtain ⟨w5, hw5⟩ : ∃ w5, w5 = w4.setCell ⟨g3, 0, none⟩ (.int .i64 0) := ⟨_, rfl⟩
      have hb5 : Bel w w5 := by rw [hw5]; infer_instance
      have hbx5 : Bx w5 w.heap.size #[.int .i64 p, .int .i64 M, .slice A n c] 24 := by rw [hw5]; infer_instance
      have hox5 : Own w5 g dx := by rw [hw5]; infer_instance
      have hoy5 : Own w5 g2 dy := by rw [hw5]; infer_instance
      have hoz5 : Own w5 g3 (z4.set 0 0) := by rw [hw5]; infer_instance
      rw [← hw5]
      rw [HS4.out] at hoz5
      clear hw5 hb4 hbx4 hox4 hoy4 ho4 hl4 hin4 HS4
      have hshres : Res p (shiftL M zs) := mkL_res (by omega) _ _ fun j _ => by
        by_cases h : j = 0
        · rw [if_pos h]; omega
        · rw [if_neg h]; exact hzres _
      go_loopw [54] (fun jv wr => ∃ (j : Nat) (ys : List Int), jv = .int .i64 j ∧ j ≤ M ∧ Bel w wr ∧ Bx wr w.heap.size #[.int .i64 p, .int .i64 M, .slice A n c] 24 ∧ Own wr g dx ∧ Own wr g2 dy ∧ Own wr g3 ys ∧ Hid (ys = mixL M (hornF ⟨p, M, md⟩ dx (gt dy i) top (shiftL M zs)) (gt (shiftL M zs)) j)) (fun jv _ => M - (intOf jv).toNat)
      case atStart => exact ⟨0, _, rfl, by omega, hb5, hbx5, hox5, hoy5, hoz5, by
        show shiftL M zs = _
        rw [mixL_zero]; exact ext_gt (by rw [mkL_length, shiftL, mkL_length]) fun k hk => by rw [gt_mkL (by rw [shiftL, mkL_length] at hk; exact hk)]⟩
      case round =>
        obtain ⟨j, ys, rfl, hj, hB2, hbx2, hox2, hoy2, hoz2, HI2⟩ := hrel
        clear hb5 hbx5 hox5 hoy5 hoz5
        by_cases hjl : j < M
        · have hjx : j < dx.length := by rw [HX.out.2.2.1]; exact hjl
          have hjy : j < ys.length := by rw [HI2.out, mixL_length]; exact hjl
          have hin2 : In j ys.length := ⟨hjy⟩
          have hyj : gt ys j = gt (shiftL M zs) j := by rw [HI2.out, gt_mixL hjl, if_neg (by omega)]
          have h1 := (hxr j).1
          have h2 := (hxr j).2
          have h3 := (hyr i).1
          have h4 := (hyr i).2
          have h5 := (hshres j).1
          have h6 := (hshres j).2
          rw [← hyj] at h5 h6
          have HY := hidd hyj
          clear hyj
          have h7 : gt dy i * gt dx j ≤ 256 * 256 := Int.mul_le_mul (by omega) (by omega) h1 (by omega)
          have h8 : 0 ≤ gt dy i * gt dx j := Int.mul_nonneg h3 h1
          by_cases hM1 : (1 : Int) < M
          · have hnj : j < md.length := by have := HP.out.2.2 (by omega); omega
            obtain ⟨ad, rfl, rm⟩ := hA.at_ hnj
            have hnj2 : j < n := by have := HX.out.2.2.2.2; omega
            have ha := (hmr j).1
            have hb := (hmr j).2
            have h9 : (p - top) * gt md j ≤ 256 * 256 := Int.mul_le_mul (by omega) (by omega) ha (by omega)
            have h10 : 0 ≤ (p - top) * gt md j := Int.mul_nonneg (by omega) ha
            have e1 : IntKind.i64.wrap (p - top) = p - top := wr_in (by omega) (by omega)
            have e2 : IntKind.i64.wrap ((p - top) * gt md j) = (p - top) * gt md j := wr_in (by omega) (by omega)
            have e3 : IntKind.i64.wrap (gt ys j + (p - top) * gt md j) = gt ys j + (p - top) * gt md j := wr_in (by omega) (by omega)
            have e4 : IntKind.i64.wrap (gt dy i * gt dx j) = gt dy i * gt dx j := wr_in (by omega) (by omega)
            have e5 : IntKind.i64.wrap (gt ys j + (p - top) * gt md j + gt dy i * gt dx j) = gt ys j + (p - top) * gt md j + gt dy i * gt dx j := wr_in (by omega) (by omega)
            have e6 : (gt ys j + (p - top) * gt md j + gt dy i * gt dx j).tmod p = (gt ys j + (p - top) * gt md j + gt dy i * gt dx j) % p := Int.tmod_eq_emod_of_nonneg (by omega)
            have e7 : ¬ p = 0 := by omega
            go_wp2
            go_still_tail 27, (by kernel_rfl)
            change wpList _ _ _ _ _ wr.drew
            clear e1 e2 e3 e4 e5 e6 e7
            go_wp2
            go_roundw
            case rel => exact ⟨j + 1, _, by go_num, by omega, inferInstance, inferInstance, inferInstance, inferInstance, inferInstance, by
              rw [HI2.out]; exact mixL_set _ _ _ _ _ hjl (by rw [← HI2.out, HY.out]; simp only [hornF, Fd.low, if_pos hM1])⟩
            case measure => simp [intOf] <;> omega
          · have e2 : IntKind.i64.wrap ((p - top) * 0) = 0 := by rw [Int.mul_zero]; rfl
            have e1 : IntKind.i64.wrap (p - top) = p - top := wr_in (by omega) (by omega)
            have e3 : IntKind.i64.wrap (gt ys j) = gt ys j := wr_in (by omega) (by omega)
            have e4 : IntKind.i64.wrap (gt dy i * gt dx j) = gt dy i * gt dx j := wr_in (by omega) (by omega)
            have e5 : IntKind.i64.wrap (gt ys j + gt dy i * gt dx j) = gt ys j + gt dy i * gt dx j := wr_in (by omega) (by omega)
            have e6 : (gt ys j + gt dy i * gt dx j).tmod p = (gt ys j + gt dy i * gt dx j) % p := Int.tmod_eq_emod_of_nonneg (by omega)
            have e7 : ¬ p = 0 := by omega
            go_wp2
            go_still_tail 27, (by kernel_rfl)
            change wpList _ _ _ _ _ wr.drew
            clear e1 e2 e3 e4 e5 e6 e7
            go_wp2
            go_roundw
            case rel => exact ⟨j + 1, _, by go_num, by omega, inferInstance, inferInstance, inferInstance, inferInstance, inferInstance, by
              rw [HI2.out]; exact mixL_set _ _ _ _ _ hjl (by rw [← HI2.out, HY.out]; simp only [hornF, Fd.low, if_neg (show ¬ (1 : Int) < (M : Int) by omega), Int.mul_zero, Int.add_zero])⟩
            case measure => simp [intOf] <;> omega
        · obtain rfl : j = M := by omega
          have hys : ys = hornN ⟨p, j, md⟩ dx dy (t + 1) := by
            rw [HI2.out, mixL_full, hornN, loopN_succ, HE.out.1, HT.out, HI.out.1]; rfl
          have HYS := hidd hys
          clear hys
          go_wp2
          go_roundw
          case rel => exact ⟨t + 1, ys, by have := HE.out.2; simp <;> omega, by omega, hB2, hbx2, hox2, hoy2, hoz2, HYS.out, by rw [HYS.out]; exact hornN_len _ _ _ _⟩
          case measure => have := HE.out.2; simp [intOf] <;> omega
    · obtain rfl : t = M := by omega
      have hzl : zs.length = t := HI.out.2
      have HZL := hidd hzl
      clear hzl
      go_wp2_with (go_at_call 159; refine (valueOf_calls p zs _ _ _ _ HZL.out (by omega) hp2 (fun j hj => by rw [HI.out.1]; exact hornN_res ⟨p, t, md⟩ (by show 0 < p; omega) _ _ _ j) (by rw [HZL.out]; exact HP.out.2.1) (by rw [HZL.out]; omega)).mono ?_; rintro e w6 ⟨rfl, hx6⟩)
      go_ret
      exact ⟨ret_int (by rw [HI.out.1, HX.out.1, HX.out.2.1]; rfl), Bel.ext inferInstance⟩

end Go.Proofs.Ytcigdhmecfhndaa

namespace Go.Proofs.Ytcigdhmecfhndaa
open Go.RowKit
attribute [local go_sem] cell_bx froz_bx cell_own froz_own cell_rd cell_cel ints_get ints_set cell_ownb froz_ownb bools_get bools_set
set_option linter.unusedVariables false
set_option linter.unusedSimpArgs false

theorem count_set_true {l : List Bool} {i : Nat} (h : i < l.length) (hf : gb l i = false) : (l.set i true).count false + 1 = l.count false := by
  have h1 : l[i] = false := by simpa [gb, h] using hf
  rw [List.count_set h, h1]
  have h2 : 0 < l.count false := List.count_pos_iff.2 (h1 ▸ List.getElem_mem h)
  rw [if_pos (by rfl), if_neg (by decide)]
  omega
theorem gb_set_true {l : List Bool} {i k : Nat} (h : i < l.length) : gb (l.set i true) k = (decide (i = k) || gb l k) := by
  unfold gb
  rw [List.getD_eq_getElem?_getD, List.getD_eq_getElem?_getD, List.getElem?_set]
  by_cases e : i = k
  · subst e; rw [if_pos rfl, if_pos h, decide_eq_true rfl]; rfl
  · rw [if_neg e, decide_eq_false e]; rfl
theorem gb_rep (n k : Nat) : gb (List.replicate n false) k = false := by
  unfold gb
  rw [List.getD_eq_getElem?_getD, List.getElem?_replicate]
  split <;> rfl

set_option maxRecDepth 100000 in
set_option maxHeartbeats 4000000 in
theorem powers_calls (F : Fd) (A : Option Addr) (n c : Nat) (x : Int) (w : World) (hG : F.Good) (hn : F.md.length = n) (hx : 0 ≤ x ∧ x < F.q) [hA : Sl w A F.md] :
    Calls Try.prog 143 #[.agg #[.int .i64 F.p, .int .i64 F.m, .slice A n c], .int .i64 F.q, .int .i64 x] w fun e w' => ∃ g cap, e = .returned (.slice (some ⟨g, 0, none⟩) (F.powersP x).length cap) ∧ (F.powersP x).length ≤ cap ∧ (F.powersP x).length ≤ 256 ∧ Fr w g ∧ Own w' g (F.powersP x) ∧ Ext w w' := by
  have hq2 : 2 ≤ F.q := by
    rw [hG.q]; have h1 := hG.m1; have h2 := hG.p2
    have := pow_mono (p := F.p) (by omega) (show 1 ≤ F.m.toNat by omega)
    rw [show F.p ^ 1 = F.p by rw [Int.pow_succ, Int.pow_zero, Int.one_mul]] at this; omega
  have hq3 : F.q ≤ 256 := by rw [hG.q]; exact hG.pm
  obtain ⟨q, hq⟩ : ∃ q : Nat, F.q = q := ⟨F.q.toNat, by omega⟩
  obtain ⟨x0, rfl⟩ : ∃ x0 : Nat, x = x0 := ⟨x.toNat, by omega⟩
  rw [hq]
  have HQ := hidd (And.intro hq hx)
  have hx2 : (x0 : Int) < 256 := by omega
  rw [hq] at hq2 hq3
  have h1q : 1 < q := by omega
  have h1q' : (1 : Int) < (q : Int) := by omega
  clear hq hx
  have hmk := mk_bool q (by omega)
  have hin1 : 1 < (List.replicate q false).length := by simp; omega
  go_enter Try.func143, Try.ntmps143
  go_wp2
  have hB0 : Bel w (((w.alloc (.cells #[.int .i64 F.p, .int .i64 F.m, .slice A n c] 24)).alloc (.cells #[.int .i64 1] 3)).alloc (.cells (bools ((List.replicate q false).set 1 true)) 4)) := inferInstance
  go_loopw [7, 9] (fun ov yv wr => ∃ (os : List Int) (g cap y : Nat), ov = .slice (some ⟨g, 0, none⟩) os.length cap ∧ yv = .int .i64 y ∧ (y : Int) < q ∧ 0 < os.length ∧ os.length ≤ cap ∧ Fr w g ∧ Bel w wr ∧ Bx wr w.heap.size #[.int .i64 F.p, .int .i64 F.m, .slice A n c] 24 ∧ Row wr (.slice (some ⟨g, 0, none⟩) os.length cap) 3 (nums os) ∧
      ∃ sn : List Bool, OwnB wr (w.heap.size + 1 + 1) sn ∧ Hid (sn.length = q ∧ (∀ k : Nat, k < q → gb sn k = decide ((k : Int) ∈ os)) ∧ sn.count false + os.length = q ∧ F.powersP x0 = powGo F.mulP x0 (q - os.length + 1) os y)) (fun ov _ _ => q + 1 - lenOf ov)
  case atStart =>
    refine ⟨[1], w.heap.size + 1, 1, x0, rfl, rfl, by have := HQ.out; omega, by simp, by simp, inferInstance, inferInstance, inferInstance, ?_, _, inferInstance, ?_, ?_, ?_, ?_⟩
    · refine ⟨by simp [nums], .inr ⟨w.heap.size + 1, 1, #[.int .i64 1], by simp [nums], Nat.zero_le _, ?_, by simp [nums], by decide, by simp, by simp [nums]⟩⟩
      exact (inferInstance : Bx (((w.alloc (.cells #[.int .i64 F.p, .int .i64 F.m, .slice A n c] 24)).alloc (.cells #[.int .i64 1] 3)).alloc (.cells (bools ((List.replicate q false).set 1 true)) 4)) (w.heap.size + 1) #[.int .i64 1] 3).out
    · simp
    · intro k hk
      rw [gb_set_true hin1]
      by_cases e : 1 = k
      · subst e; simp
      · rw [gb_rep]; simp [e]; omega
    · have := count_set_true hin1 (gb_rep _ _)
      simp at this ⊢; omega
    · rw [Fd.powersP, HQ.out.1]; congr 1; simp; omega
  case round =>
    obtain ⟨os, g, cap, y, rfl, rfl, hy, hos, hoc, hfg, hB, hbx, hrow, sn, hsn, HI⟩ := hrel
    clear hB0
    have hyq : y < q := by omega
    have hysn : y < sn.length := by rw [HI.out.1]; exact hyq
    have hos2 : os.length ≤ 256 := by have := HI.out.2.2.1; omega
    have hlast : (y = 0 ∨ (y : Int) ∈ os) → F.powersP x0 = os := fun h => by
      rw [HI.out.2.2.2, powGo, if_pos (by rcases h with h | h; exact .inl (by omega); exact .inr h)]
    have HLAST := hidd hlast
    clear hlast
    have hown := hrow.own hos
    by_cases h0 : y = 0
    · subst h0
      go_wp2
      go_ret
      obtain ⟨g', cap', e, hc', ho⟩ := hown
      have hl := HLAST.out (by simp)
      obtain ⟨rfl, _⟩ : g = g' ∧ True := ⟨by injection e with e; injection e with e; injection e, trivial⟩
      refine ⟨g, cap, ?_, ?_, ?_, hfg, ?_, hB.ext⟩
      · exact ret_val (by rw [hl]; rfl)
      · rw [hl]; exact hoc
      · rw [hl]; exact hos2
      · rw [hl]; exact ho
    · have h0' : ((y : Int) != 0) = true := by simpa using h0
      by_cases hm : (y : Int) ∈ os
      · have hs : gb sn y = true := by rw [HI.out.2.1 y hyq]; exact decide_eq_true hm
        go_wp2
        go_ret
        obtain ⟨g', cap', e, hc', ho⟩ := hown
        have hl := HLAST.out (.inr hm)
        obtain ⟨rfl, _⟩ : g = g' ∧ True := ⟨by injection e with e; injection e with e; injection e, trivial⟩
        refine ⟨g, cap, ?_, ?_, ?_, hfg, ?_, hB.ext⟩
        · exact ret_val (by rw [hl]; rfl)
        · rw [hl]; exact hoc
        · rw [hl]; exact hos2
        · rw [hl]; exact ho
      · have hs : gb sn y = false := by rw [HI.out.2.1 y hyq]; exact decide_eq_false hm
        have hmb := mulP_bound F hG y x0
        have hmb1 := hmb.1
        have hmb2 : F.mulP y x0 < q := by have := HQ.out.1; omega
        obtain ⟨y2, hy2⟩ : ∃ y2 : Nat, F.mulP y x0 = y2 := ⟨(F.mulP y x0).toNat, by omega⟩
        have HY2 := hidd hy2
        have HM := hidd hm
        have HS := hidd hs
        have hnx : F.powersP x0 = powGo F.mulP x0 (q - (os ++ [(y : Int)]).length + 1) (os ++ [(y : Int)]) y2 := by
          have hq1 : q - os.length + 1 = (q - (os ++ [(y : Int)]).length + 1) + 1 := by
            have := count_set_true hysn hs
            have := HI.out.2.2.1
            simp; omega
          rw [HI.out.2.2.2, hq1, powGo, if_neg (by rintro (h | h); exact h0 (by omega); exact hm h), hy2]
        have HNX := hidd hnx
        clear hnx hy2 hmb hm hown
        have ap1 : ApV (w.heap.size + 1 + 1) (.slice (some ⟨g, 0, none⟩) os.length cap) := ⟨fun h => by
          obtain ⟨g', cap', e, hc', ho⟩ := hrow.own hos
          injection e with e; injection e with e; injection e with e
          subst e
          obtain ⟨sp, ho⟩ := ho.out
          have h3 : w.heap.size + 1 + 1 = g := by simpa [Value.ownBlock] using h
          subst h3
          have := hsn.out
          rw [ho] at this; injection this with this; injection this with _ ht; exact absurd ht (by decide)⟩
        have hrow2 : Row (wr.setCell ⟨w.heap.size + 1 + 1, y, none⟩ (.bool true)) (.slice (some ⟨g, 0, none⟩) os.length cap) 3 (nums os) := inferInstance
        go_wp2_with (first
          | (at_builtin; refine app_int rfl (.tmp 32) (.tmp 34) rfl (.slice (some ⟨g, 0, none⟩) os.length cap) os y wr.heap.size rfl rfl (by omega) ?_; intro v1 w1 hr1 hc1 hv1; have hf1 : FrV w v1 := FrV.app hv1)
          | (go_at_call 144; refine (multiply_calls F A n c y x0 _ hG hn (by omega) (by omega)).mono ?_; rintro e w2 ⟨rfl, hx2⟩))
        obtain ⟨g2, cap2, rfl, hcap2, ho2⟩ := hr1.own (by simp)
        rw [HY2.out]
        go_roundw
        case rel => 
          refine ⟨os ++ [(y : Int)], g2, cap2, y2, rfl, rfl, by have := HY2.out; omega, by simp, hcap2, hf1.fr, inferInstance, inferInstance, inferInstance, _, inferInstance, ?_, ?_, ?_, HNX.out⟩
          · rw [List.length_set]; exact HI.out.1
          · intro k hk
            rw [gb_set_true hysn, HI.out.2.1 k hk]
            by_cases e : y = k
            · subst e; simp
            · have : ¬ (k : Int) = (y : Int) := by omega
              simp [e, this]
          · have := count_set_true hysn HS.out
            have := HI.out.2.2.1
            simp; omega
        case measure => have := HI.out.2.2.1; simp [lenOf]; omega

end Go.Proofs.Ytcigdhmecfhndaa

namespace Go.Proofs.Ytcigdhmecfhndaa
open Go.RowKit
attribute [local go_sem] cell_bx froz_bx cell_own froz_own cell_rd cell_cel ints_get ints_set cell_ownb froz_ownb bools_get bools_set
set_option linter.unusedVariables false
set_option linter.unusedSimpArgs false

def GenPost (F : Fd) (w : World) (e : Ending) (w' : World) : Prop := (F.gen = none ∧ e = .returned (.slice none 0 0) ∧ Ext w w') ∨ (∃ (l : List Int) (g cap : Nat), F.gen = some l ∧ e = .returned (.slice (some ⟨g, 0, none⟩) l.length cap) ∧ l.length ≤ cap ∧ l.length ≤ 256 ∧ Fr w g ∧ Own w' g l ∧ Ext w w')

set_option maxRecDepth 100000 in
set_option maxHeartbeats 4000000 in
theorem generator_calls (F : Fd) (A : Option Addr) (n c : Nat) (w : World) (hG : F.Good) (hn : F.md.length = n) [hA : Sl w A F.md] :
    Calls Try.prog 121 #[.agg #[.int .i64 F.p, .int .i64 F.m, .slice A n c], .int .i64 F.q] w (GenPost F w) := by
  have hq2 : 2 ≤ F.q := by
    rw [hG.q]; have h1 := hG.m1; have h2 := hG.p2
    have := pow_mono (p := F.p) (by omega) (show 1 ≤ F.m.toNat by omega)
    rw [show F.p ^ 1 = F.p by rw [Int.pow_succ, Int.pow_zero, Int.one_mul]] at this; omega
  have hq3 : F.q ≤ 256 := by rw [hG.q]; exact hG.pm
  go_enter Try.func121, Try.ntmps121
  go_wp2
  go_loopw [5] (fun xv wr => ∃ (k : Nat), xv = .int .i64 (k + 1) ∧ (k : Int) + 1 ≤ F.q ∧ Bel w wr ∧ Bx wr w.heap.size #[.int .i64 F.p, .int .i64 F.m, .slice A n c] 24 ∧ Hid (F.gen = F.genFrom ((F.q - 1).toNat - k))) (fun xv _ => (F.q - intOf xv).toNat)
  case atStart => exact ⟨0, by simp, by omega, inferInstance, inferInstance, rfl⟩
  case round =>
    obtain ⟨k, rfl, hk, hB, hbx, HI⟩ := hrel
    by_cases hlt : (k : Int) + 1 < F.q
    · have hs : (F.q - 1).toNat - k = ((F.q - 1).toNat - (k + 1)) + 1 := by omega
      have hy : F.q - (((F.q - 1).toNat - (k + 1) : Nat) + 1) = (k : Int) + 1 := by omega
      have HS := hidd (And.intro hs hy)
      clear hs hy
      go_wp2_with fail
      refine (powers_calls F A n c ((k : Int) + 1) _ hG hn ⟨by omega, hlt⟩).mono ?_
      rintro e w1 ⟨g, cap, rfl, hcap, hlen, hfg, ho, hx1⟩
      obtain ⟨l, hl⟩ : ∃ l, l = F.powersP ((k : Int) + 1) := ⟨_, rfl⟩
      rw [← hl] at hcap hlen ho ⊢
      have HL := hidd hl
      clear hl
      by_cases hll : (l.length : Int) = F.q - 1
      · have hll' : ((l.length : Int) == F.q - 1) = true := beq_iff_eq.2 hll
        have hi : (F.q - 2).toNat < l.length := by omega
        have hi1 : F.q - 2 < (l.length : Int) := by omega
        have hi2 : 0 ≤ F.q - 2 := by omega
        have hb1 : Bel w w1 := inferInstance
        have hfr : Fr w g := ⟨by have := hfg.out; have := hB.out.size; omega⟩
        have hbx1 : Bx w1 w.heap.size #[.int .i64 F.p, .int .i64 F.m, .slice A n c] 24 := inferInstance
        have hN : Near w1.heap.size w1 w1 := ⟨Below.refl _ _⟩
        have hlr := hidd (show 0 ≤ gt l (F.q - 2).toNat ∧ gt l (F.q - 2).toNat ≤ 1000000 by
          have := powersP_res F hG ((k : Int) + 1) (by omega) hlt (F.q - 2).toNat
          rw [← HL.out] at this; omega)
        have HLL := hidd hll
        clear hll hx1
        by_cases hm : F.mulP (gt l (F.q - 2).toNat) ((k : Int) + 1) = 1
        · have hm' : (F.mulP (gt l (F.q - 2).toNat) ((k : Int) + 1) == 1) = true := beq_iff_eq.2 hm
          have HM := hidd hm
          clear hm
          have e1 : IntKind.i64.wrap (F.q - 1) = F.q - 1 := wr_in (by omega) (by omega)
          have e2 : IntKind.i64.wrap (F.q - 2) = F.q - 2 := wr_in (by omega) (by omega)
          go_wp2
          go_region_held3 (fun w' => Near w1.heap.size w1 w') (infer_instance)
            ((go_at_call 144; refine (multiply_calls F A n c (gt l (F.q - 2).toNat) ((k : Int) + 1) _ hG hn hlr.out (by omega)).mono ?_; rintro e w2 ⟨rfl, hx2⟩))
          go_wp2
          go_ret
          exact .inr ⟨l, g, cap, by rw [HI.out, HS.out.1, Fd.genFrom, HS.out.2, ← HL.out, if_pos ⟨HLL.out, HM.out⟩], rfl, hcap, hlen, hfr, inferInstance, Bel.ext inferInstance⟩
        · have hm' : (F.mulP (gt l (F.q - 2).toNat) ((k : Int) + 1) == 1) = false := beq_eq_false_iff_ne.2 hm
          have HM := hidd hm
          clear hm
          have e1 : IntKind.i64.wrap (F.q - 1) = F.q - 1 := wr_in (by omega) (by omega)
          have e2 : IntKind.i64.wrap (F.q - 2) = F.q - 2 := wr_in (by omega) (by omega)
          go_wp2
          go_region_held3 (fun w' => Near w1.heap.size w1 w') (infer_instance)
            ((go_at_call 144; refine (multiply_calls F A n c (gt l (F.q - 2).toNat) ((k : Int) + 1) _ hG hn hlr.out (by omega)).mono ?_; rintro e w2 ⟨rfl, hx2⟩))
          clear e1 e2
          go_wp2
          go_roundw
          case rel => exact ⟨k + 1, by go_num, by omega, inferInstance, inferInstance, by show F.gen = _; rw [HI.out, HS.out.1, Fd.genFrom, HS.out.2, ← HL.out, if_neg fun h => HM.out h.2]⟩
          case measure => simp [intOf] <;> omega
      · have hll' : ((l.length : Int) == F.q - 1) = false := beq_eq_false_iff_ne.2 hll
        have HLL := hidd hll
        clear hll
        have hb1 : Bel w w1 := inferInstance
        have hbx1 : Bx w1 w.heap.size #[.int .i64 F.p, .int .i64 F.m, .slice A n c] 24 := inferInstance
        have e1 : IntKind.i64.wrap (F.q - 1) = F.q - 1 := wr_in (by omega) (by omega)
        clear hx1
        go_wp2
        go_quiet (fail)
        clear e1
        go_wp2
        go_roundw
        case rel => exact ⟨k + 1, by go_num, by omega, inferInstance, inferInstance, by show F.gen = _; rw [HI.out, HS.out.1, Fd.genFrom, HS.out.2, ← HL.out, if_neg fun h => HLL.out h.1]⟩
        case measure => simp [intOf] <;> omega
    · go_wp2
      go_ret
      exact .inl ⟨by rw [HI.out, show (F.q - 1).toNat - k = 0 by omega]; rfl, rfl, hB.ext⟩

end Go.Proofs.Ytcigdhmecfhndaa

namespace Go.Proofs.Ytcigdhmecfhndaa
open Go.RowKit
attribute [local go_sem] cell_bx froz_bx cell_own froz_own cell_rd cell_cel ints_get ints_set cell_ownb froz_ownb bools_get bools_set eql_nil_int
set_option linter.unusedVariables false
set_option linter.unusedSimpArgs false

set_option maxRecDepth 100000 in
set_option maxHeartbeats 2000000 in
theorem shape_calls (F : Fd) (A : Option Addr) (n c : Nat) (w : World) (hn : F.md.length = n) (hn2 : n ≤ 1000000000000000000) [hA : Sl w A F.md] :
    Calls Try.prog 119 #[.agg #[.int .i64 F.p, .int .i64 F.m, .slice A n c]] w fun e w' => e = .returned (.bool (shapeB F)) ∧ Ext w w' := by
  obtain ⟨p, m, md⟩ := F
  simp only at hn hA
  subst hn
  by_cases h0 : ordF p m = 0
  · have h1 : (ordF p m == 0) = true := beq_iff_eq.2 h0
    have H0 := hidd h0
    clear h0
    go_enter Try.func119, Try.ntmps119
    go_wp2_with (go_at_call 120; refine (forder_calls p m _).mono ?_; rintro e w3 ⟨rfl, hx⟩)
    go_ret
    exact ⟨ret_bool (shapeB_no fun h => h.1 H0.out).symm, Bel.ext inferInstance⟩
  have h1 : (ordF p m == 0) = false := beq_eq_false_iff_ne.2 h0
  obtain ⟨hp, hp2, hm1, hm2, hqe, hpm⟩ := ordF_spec h0
  have H0 := hidd (And.intro h0 (And.intro hqe hpm))
  clear h0 hqe hpm
  by_cases h2 : primeB p = true
  rotate_left
  · have h3 : primeB p = false := by simpa using h2
    clear h2
    go_enter Try.func119, Try.ntmps119
    go_wp2_with (first
      | (go_at_call 120; refine (forder_calls p m _).mono ?_; rintro e w3 ⟨rfl, hx⟩)
      | (go_at_call 142; refine (isPrime_calls p _ hp (by omega)).mono ?_; rintro e w4 ⟨rfl, rfl⟩))
    go_ret
    exact ⟨ret_bool (shapeB_no fun h => by rw [primeB_yes h.2.1] at h3; cases h3).symm, Bel.ext inferInstance⟩
  have hpr : PrimeI p := of_decide_eq_true h2
  have HPR := hidd hpr
  clear hpr
  by_cases hm : m = 1
  · have e1 : (m == 1) = true := beq_iff_eq.2 hm
    by_cases hl : md.length = 0
    · have e2 : ((md.length : Int) == 0) = true := by simpa using hl
      have HL := hidd (And.intro hm hl)
      clear hm hl
      go_enter Try.func119, Try.ntmps119
      go_wp2_with (first
        | (go_at_call 120; refine (forder_calls p m _).mono ?_; rintro e w3 ⟨rfl, hx⟩)
        | (go_at_call 142; refine (isPrime_calls p _ hp (by omega)).mono ?_; rintro e w4 ⟨rfl, rfl⟩))
      go_ret
      exact ⟨ret_bool (shapeB_yes ⟨H0.out.1, HPR.out, fun _ => HL.out.2, fun h => absurd HL.out.1 h⟩).symm, Bel.ext inferInstance⟩
    · have e2 : ((md.length : Int) == 0) = false := by simpa using hl
      have HL := hidd (And.intro hm hl)
      clear hm hl
      go_enter Try.func119, Try.ntmps119
      go_wp2_with (first
        | (go_at_call 120; refine (forder_calls p m _).mono ?_; rintro e w3 ⟨rfl, hx⟩)
        | (go_at_call 142; refine (isPrime_calls p _ hp (by omega)).mono ?_; rintro e w4 ⟨rfl, rfl⟩))
      go_ret
      exact ⟨ret_bool (shapeB_no fun h => HL.out.2 (h.2.2.1 HL.out.1)).symm, Bel.ext inferInstance⟩
  have e1 : (m == 1) = false := beq_eq_false_iff_ne.2 hm
  have HM := hidd hm
  clear hm
  by_cases hl : (md.length : Int) = m
  rotate_left
  · have e2 : ((md.length : Int) != m) = true := bne_iff_ne.2 hl
    have HL := hidd hl
    clear hl
    go_enter Try.func119, Try.ntmps119
    go_wp2_with (first
      | (go_at_call 120; refine (forder_calls p m _).mono ?_; rintro e w3 ⟨rfl, hx⟩)
      | (go_at_call 142; refine (isPrime_calls p _ hp (by omega)).mono ?_; rintro e w4 ⟨rfl, rfl⟩))
    go_ret
    exact ⟨ret_bool (shapeB_no fun h => HL.out (h.2.2.2 HM.out).1).symm, Bel.ext inferInstance⟩
  subst hl
  go_enter Try.func119, Try.ntmps119
  go_wp2_with (first
    | (go_at_call 120; refine (forder_calls p _ _).mono ?_; rintro e w3 ⟨rfl, hx⟩)
    | (go_at_call 142; refine (isPrime_calls p _ hp (by omega)).mono ?_; rintro e w4 ⟨rfl, hw4⟩; obtain rfl := hw4.symm))
  have hb3 : Bel w w3 := inferInstance
  have hbx3 : Bx w3 w.heap.size #[.int .i64 p, .int .i64 md.length, .slice A md.length c] 24 := inferInstance
  clear hx
  go_loopw [33] (fun iv wr => ∃ (k : Nat), iv = .int .i64 k ∧ k ≤ md.length ∧ Bel w wr ∧ Bx wr w.heap.size #[.int .i64 p, .int .i64 md.length, .slice A md.length c] 24 ∧ Hid (∀ j, j < k → 0 ≤ gt md j ∧ gt md j < p)) (fun iv _ => md.length - (intOf iv).toNat)
  case atStart => exact ⟨0, rfl, by omega, hb3, hbx3, fun j hj => absurd hj (by omega)⟩
  case round =>
    obtain ⟨k, rfl, hk, hB, hbx, HI⟩ := hrel
    clear hb3 hbx3
    by_cases hlt : k < md.length
    · obtain ⟨ad, rfl, rd⟩ := hA.at_ hlt
      by_cases ha : gt md k < 0
      · have ha1 : decide (gt md k < 0) = true := decide_eq_true ha
        go_wp2
        go_ret
        exact ⟨ret_bool (shapeB_no fun h => by have := ((h.2.2.2 HM.out).2 k hlt).1; simp only at this; omega).symm, hB.ext⟩
      · have ha1 : decide (gt md k < 0) = false := decide_eq_false ha
        by_cases hb : p ≤ gt md k
        · go_wp2
          go_ret
          exact ⟨ret_bool (shapeB_no fun h => by have := ((h.2.2.2 HM.out).2 k hlt).2; simp only at this; omega).symm, hB.ext⟩
        · have hb1 : decide (p ≤ gt md k) = false := decide_eq_false hb
          go_wp2
          go_roundw
          case rel => exact ⟨k + 1, by go_num, by omega, inferInstance, inferInstance, fun j hj => by
            by_cases e : j = k
            · rw [e]; omega
            · exact HI.out j (by omega)⟩
          case measure => simp [intOf] <;> omega
    · obtain rfl : k = md.length := by omega
      go_wp2
      go_ret
      exact ⟨ret_bool (shapeB_yes ⟨H0.out.1, HPR.out, fun h => absurd h HM.out, fun _ => ⟨rfl, fun j hj => HI.out j hj⟩⟩).symm, hB.ext⟩

set_option maxRecDepth 100000 in
set_option maxHeartbeats 2000000 in
theorem fcheck_calls (F : Fd) (A : Option Addr) (n c : Nat) (w : World) (hn : F.md.length = n) (hn2 : n ≤ 1000000000000000000) [hA : Sl w A F.md] :
    Calls Try.prog 108 #[.agg #[.int .i64 F.p, .int .i64 F.m, .slice A n c]] w fun e w' => e = .returned (.int .i64 (fokE F)) ∧ Ext w w' := by
  have hN : Near (w.heap.size + 1) (w.alloc (.cells #[.int .i64 F.p, .int .i64 F.m, .slice A n c] 24)) (w.alloc (.cells #[.int .i64 F.p, .int .i64 F.m, .slice A n c] 24)) := ⟨Below.refl _ _⟩
  have hL : Lo (w.heap.size + 1) ((w.alloc (.cells #[.int .i64 F.p, .int .i64 F.m, .slice A n c] 24)).heap.size + 1) := ⟨by simp⟩
  by_cases hs : Shape F
  · have hsb : shapeB F = true := shapeB_yes hs
    have hG := hs.good
    have hord : ordF F.p F.m = F.q := rfl
    by_cases hg : F.gen = none
    · go_enter Try.func108, Try.ntmps108
      go_wp2
      go_region_held3 (fun w' => Near (w.heap.size + 1) (w.alloc (.cells #[.int .i64 F.p, .int .i64 F.m, .slice A n c] 24)) w') (infer_instance)
        ((first
          | (go_at_call 119; refine (shape_calls F A n c _ hn hn2).mono ?_; rintro e w1 ⟨rfl, hx1⟩; rw [hsb])
          | (go_at_call 120; refine (forder_calls F.p F.m _).mono ?_; rintro e w2 ⟨rfl, hx2⟩; rw [hord])
          | (go_at_call 121; refine (generator_calls F A n c _ hG hn).mono ?_; rintro e w3 (⟨_, rfl, hx3⟩ | ⟨l, g, cap, h, _⟩); rotate_left; exact absurd h (by rw [hg]; simp))))
      go_wp2
      go_ret
      exact ⟨ret_int (fokE_no fun h => h.2 hg).symm, Bel.ext inferInstance⟩
    · go_enter Try.func108, Try.ntmps108
      go_wp2
      go_region_held3 (fun w' => Near (w.heap.size + 1) (w.alloc (.cells #[.int .i64 F.p, .int .i64 F.m, .slice A n c] 24)) w') (infer_instance)
        ((first
          | (go_at_call 119; refine (shape_calls F A n c _ hn hn2).mono ?_; rintro e w1 ⟨rfl, hx1⟩; rw [hsb])
          | (go_at_call 120; refine (forder_calls F.p F.m _).mono ?_; rintro e w2 ⟨rfl, hx2⟩; rw [hord])
          | (go_at_call 121; refine (generator_calls F A n c _ hG hn).mono ?_; rintro e w3 (⟨h, _, _⟩ | ⟨l, g, cap, hl, rfl, hcap, _, hfg, ho, hx3⟩); exact absurd h hg)))
      go_wp2
      go_ret
      exact ⟨ret_int (fokE_yes ⟨hs, hg⟩).symm, Bel.ext inferInstance⟩
  · have hsb : shapeB F = false := shapeB_no hs
    go_enter Try.func108, Try.ntmps108
    go_wp2
    refine wp_region_held_drew (S := fun w' => Near (w.heap.size + 1) (w.alloc (.cells #[.int .i64 F.p, .int .i64 F.m, .slice A n c] 24)) w') (by kernel_rfl) inferInstance (fun hHeld => ?_)
    refine wpAnyH_take (i := 0) (oi := ⟨some 3, _, _, _, _, _⟩) (v := .agg #[.int .i64 F.p, .int .i64 F.m, .slice A n c]) rfl (by kernel_rfl) (by kernel_rfl) (by kernel_rfl) (fun _ _ _ h => h) (Or.inl ⟨by rfl, fun w1 hS => ?_⟩) hHeld ?_
    · go_simp
    try simp only [Act.put, List.setIfInBounds_toArray, List.set_cons_zero, List.set_cons_succ]
    refine wpAnyH_ready (rs := [1]) (by kernel_rfl) (by simp) ?_
    refine AllReadyH.cons rfl (fun K hK => ?_) AllReadyH.nil
    go_simp
    go_at_call 119
    refine (shape_calls F A n c _ hn hn2).mono ?_
    rintro e w1 ⟨rfl, hx1⟩
    rw [hsb]
    refine hK.out _ _ inferInstance (fun hHeld2 => ?_)
    clear hK K
    try simp only [Act.put, List.setIfInBounds_toArray, List.set_cons_zero, List.set_cons_succ]
    refine wpAnyH_take (i := 2) (oi := ⟨some 5, _, _, _, _, _⟩) (v := .bool true) rfl (by kernel_rfl) (by kernel_rfl) (by kernel_rfl) (fun _ _ _ h => h) (Or.inl ⟨by rfl, fun w1 hS => by go_simp⟩) hHeld2 ?_
    try simp only [Act.put, List.setIfInBounds_toArray, List.set_cons_zero, List.set_cons_succ]
    refine wpAnyH_take (i := 3) (oi := ⟨some 6, _, _, _, _, _⟩) (v := .bool true) rfl (by kernel_rfl) (by kernel_rfl) (by kernel_rfl) (fun _ _ _ h => h) (Or.inl ⟨by rfl, fun w1 hS => by go_simp⟩) hHeld2 ?_
    try simp only [Act.put, List.setIfInBounds_toArray, List.set_cons_zero, List.set_cons_succ]
    refine wpAnyH_take (i := 4) (oi := ⟨some 7, _, _, _, _, _⟩) (v := undef) rfl (by kernel_rfl) (by kernel_rfl) (by kernel_rfl) (fun _ _ _ h => h) (Or.inr ⟨by rfl, rfl⟩) hHeld2 ?_
    try simp only [Act.put, List.setIfInBounds_toArray, List.set_cons_zero, List.set_cons_succ]
    refine wpAnyH_take (i := 5) (oi := ⟨some 8, _, _, _, _, _⟩) (v := undef) rfl (by kernel_rfl) (by kernel_rfl) (by kernel_rfl) (fun _ _ _ h => h) (Or.inr ⟨by rfl, rfl⟩) hHeld2 ?_
    try simp only [Act.put, List.setIfInBounds_toArray, List.set_cons_zero, List.set_cons_succ]
    refine wpAnyH_take (i := 6) (oi := ⟨some 9, _, _, _, _, _⟩) (v := undef) rfl (by kernel_rfl) (by kernel_rfl) (by kernel_rfl) (fun _ _ _ h => h) (Or.inr ⟨by rfl, rfl⟩) hHeld2 ?_
    try simp only [Act.put, List.setIfInBounds_toArray, List.set_cons_zero, List.set_cons_succ]
    refine wpAnyH_take (i := 7) (oi := ⟨some 10, _, _, _, _, _⟩) (v := undef) rfl (by kernel_rfl) (by kernel_rfl) (by kernel_rfl) (fun _ _ _ h => h) (Or.inr ⟨by rfl, rfl⟩) hHeld2 ?_
    try simp only [Act.put, List.setIfInBounds_toArray, List.set_cons_zero, List.set_cons_succ]
    refine wpAnyH_take (i := 8) (oi := ⟨some 11, _, _, _, _, _⟩) (v := undef) rfl (by kernel_rfl) (by kernel_rfl) (by kernel_rfl) (fun _ _ _ h => h) (Or.inr ⟨by rfl, rfl⟩) hHeld2 ?_
    try simp only [Act.put, List.setIfInBounds_toArray, List.set_cons_zero, List.set_cons_succ]
    refine wpAnyH_take (i := 9) (oi := ⟨some 12, _, _, _, _, _⟩) (v := undef) rfl (by kernel_rfl) (by kernel_rfl) (by kernel_rfl) (fun _ _ _ h => h) (Or.inr ⟨by rfl, rfl⟩) hHeld2 ?_
    try simp only [Act.put, List.setIfInBounds_toArray, List.set_cons_zero, List.set_cons_succ]
    refine wpAnyH_take (i := 10) (oi := ⟨some 13, _, _, _, _, _⟩) (v := undef) rfl (by kernel_rfl) (by kernel_rfl) (by kernel_rfl) (fun _ _ _ h => h) (Or.inr ⟨by rfl, rfl⟩) hHeld2 ?_
    try simp only [Act.put, List.setIfInBounds_toArray, List.set_cons_zero, List.set_cons_succ]
    refine wpAnyH_take (i := 11) (oi := ⟨some 14, _, _, _, _, _⟩) (v := undef) rfl (by kernel_rfl) (by kernel_rfl) (by kernel_rfl) (fun _ _ _ h => h) (Or.inr ⟨by rfl, rfl⟩) hHeld2 ?_
    try simp only [Act.put, List.setIfInBounds_toArray, List.set_cons_zero, List.set_cons_succ]
    refine wpAnyH_take (i := 12) (oi := ⟨some 15, _, _, _, _, _⟩) (v := .bool true) rfl (by kernel_rfl) (by kernel_rfl) (by kernel_rfl) (fun _ _ _ h => h) (Or.inl ⟨by rfl, fun w1 hS => by go_simp⟩) hHeld2 ?_
    try simp only [Act.put, List.setIfInBounds_toArray, List.set_cons_zero, List.set_cons_succ]
    refine wpAnyH_done (by kernel_rfl) ?_ _
    go_wp2
    go_ret
    exact ⟨ret_int (fokE_no fun h => hs h.1).symm, Bel.ext inferInstance⟩

end Go.Proofs.Ytcigdhmecfhndaa

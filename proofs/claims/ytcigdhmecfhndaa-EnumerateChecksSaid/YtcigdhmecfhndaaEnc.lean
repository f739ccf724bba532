/- The walks of codewrightref12.Encode and codewrightref11.Clean, Support, Weight; the word of a message has an index. -/
import Derived.Test.YtcigdhmecfhndaaNe
namespace Go.Proofs.Ytcigdhmecfhndaa
open Go.RowKit
attribute [local go_sem] cell_bx froz_bx cell_own froz_own cell_rd cell_cel ints_get ints_set cell_ownv froz_ownv eql_nil_int
set_option linter.unusedVariables false
set_option linter.unusedSimpArgs false

/-- the error of a code and a message -/
noncomputable def encE (F : Fd) (N : Int) (rows : List (List Int)) (msg : List Int) : Int := if codE F N rows = 0 then lstE F.q msg rows.length else codE F N rows

set_option maxRecDepth 100000 in
set_option maxHeartbeats 4000000 in
theorem enc12_no (F : Fd) (A : Option Addr) (n c : Nat) (rows : List (List Int)) (Ar : Option Addr) (nr cr : Nat) (N : Int) (y : List Int) (Ay : Option Addr) (ny cy : Nat) (w : World) (hn : F.md.length = n) (hn2 : n ≤ 1000000000000000000) (hr : rows.length = nr) (hr2 : nr ≤ 1000000000000000000) (hrl : ∀ k, (gr rows k).length ≤ 1000000000000000000) (hy : y.length = ny) (hy2 : ny ≤ 1000000000000000000) (hno : encE F N rows y ≠ 0) [hA : Sl w A F.md] [hR : Sls w Ar rows] [hY : Sl w Ay y] :
    Calls Try.prog 30 #[.agg #[.int .i64 F.p, .int .i64 F.m, .slice A n c, .int .i64 N, .slice Ar nr cr], .slice Ay ny cy] w fun e w' => e = .returned (.tuple #[.slice none 0 0, .int .i64 (encE F N rows y)]) ∧ Ext w w' := by
  subst hr
  by_cases hc : codE F N rows = 0
  · have he : encE F N rows y = lstE F.q y rows.length := by rw [encE, if_pos hc]
    rw [he] at hno
    have hb : (lstE F.q y rows.length != 0) = true := by simp [hno]
    have HE := hidd he
    clear hno he
    go_enter Try.func30, Try.ntmps30
    go_wp2_with (first
      | (go_at_call 24; refine (check12_calls F A n c rows Ar _ cr N _ hn hn2 rfl hr2 hrl).mono ?_; rintro e w1 ⟨rfl, hx1⟩; rw [hc])
      | (go_at_call 76; refine (list12_calls F _ y Ay ny cy _ _ hy hy2).mono ?_; rintro e w2 ⟨rfl, hx2⟩))
    go_ret2
    rw [HE.out]
    exact ⟨rfl, Bel.ext inferInstance⟩
  · have hb : (codE F N rows != 0) = true := by simp [hc]
    have hb2 : (codE F N rows == 0) = false := by simp [hc]
    have HE : Hid (encE F N rows y = codE F N rows) := by show _ = _; rw [encE, if_neg hc]
    clear hno hc
    go_enter Try.func30, Try.ntmps30
    go_wp2_with (go_at_call 24; refine (check12_calls F A n c rows Ar _ cr N _ hn hn2 rfl hr2 hrl).mono ?_; rintro e w1 ⟨rfl, hx1⟩)
    go_ret2
    rw [HE.out]
    exact ⟨rfl, Bel.ext inferInstance⟩

theorem encE_ok {F : Fd} {N : Int} {rows : List (List Int)} {y : List Int} (h : encE F N rows y = 0) : codE F N rows = 0 ∧ y.length = rows.length ∧ Ent F.q y := by
  unfold encE at h
  split at h
  · next h1 =>
    have := lstE_ok h
    exact ⟨h1, by omega, this.2⟩
  · next h1 => exact absurd h h1

set_option maxRecDepth 100000 in
set_option maxHeartbeats 4000000 in
theorem enc12_yes (F : Fd) (A : Option Addr) (n c : Nat) (rows : List (List Int)) (Ar : Option Addr) (nr cr : Nat) (N : Nat) (y : List Int) (Ay : Option Addr) (ny cy : Nat) (w : World) (hn : F.md.length = n) (hn2 : n ≤ 1000000000000000000) (hr : rows.length = nr) (hr2 : nr ≤ 1000000000000000000) (hrl : ∀ k, (gr rows k).length ≤ 1000000000000000000) (hy : y.length = ny) (hy2 : ny ≤ 1000000000000000000) (hok : encE F (N : Int) rows y = 0) [hA : Sl w A F.md] [hR : Sls w Ar rows] [hY : Sl w Ay y] :
    Calls Try.prog 30 #[.agg #[.int .i64 F.p, .int .i64 F.m, .slice A n c, .int .i64 (N : Int), .slice Ar nr cr], .slice Ay ny cy] w fun e w' => ∃ g, e = .returned (.tuple #[.slice (some ⟨g, 0, none⟩) N N, .int .i64 0]) ∧ Fr w g ∧ Own w' g (F.comb y rows N) ∧ Ext w w' := by
  obtain ⟨hc, hl, he⟩ := encE_ok hok
  obtain ⟨k1, k2, k3, k4, k5, k6⟩ := codE_ok hc
  have hG := k1.good
  have hg : Grid nr N rows := ⟨hr, fun k hk => by have := k4.2.2.2 k (by omega); omega⟩
  have hr9 : nr ≤ 1000 := by have := k4.2.2.1; omega
  subst hr
  obtain rfl : ny = rows.length := by omega
  have hls : lstE F.q y (rows.length : Int) = 0 := by rw [lstE, if_pos (by omega)]; exact entE_yes he
  clear hok k4 k5 k6
  go_enter Try.func30, Try.ntmps30
  go_wp2_with (first
    | (go_at_call 24; refine (check12_calls F A n c rows Ar _ cr N _ hn hn2 rfl hr2 hrl).mono ?_; rintro e w1 ⟨rfl, hx1⟩; rw [hc])
    | (go_at_call 76; refine (list12_calls F _ y Ay _ cy _ _ hy hy2).mono ?_; rintro e w2 ⟨rfl, hx2⟩; rw [hls])
    | (go_at_call 77; refine (combine_calls F A n c y rows _ _ _ _ _ cr N _ hG hn hy hg (by omega) (by omega)).mono ?_; rintro e w3 ⟨g, rfl, hf3, ho3, hx3⟩))
  go_ret2
  have hB2 : Bel w w2 := inferInstance
  exact ⟨g, rfl, Fr.then_ hB2 hf3, ho3, Bel.ext inferInstance⟩

def cleanF (q : Int) (w : List Int) (k : Nat) : Int := if 0 ≤ gt w k ∧ gt w k < q then gt w k else 0
/-- w with 0 in the place of what is no element -/
def cleanL (q : Int) (w : List Int) : List Int := mkL w.length (cleanF q w)

set_option maxRecDepth 100000 in
set_option maxHeartbeats 4000000 in
theorem clean_calls (F : Fd) (mv : Value) (a : List Int) (Aa : Option Addr) (na ca : Nat) (w : World) (hna : a.length = na) (hnm : na ≤ 1000000) [ha : Sl w Aa a] :
    Calls Try.prog 118 #[.agg #[.int .i64 F.p, .int .i64 F.m, mv], .slice Aa na ca] w fun e w' => ∃ g, e = .returned (.slice (some ⟨g, 0, none⟩) na na) ∧ Fr w g ∧ Own w' g (cleanL F.q a) ∧ Ext w w' := by
  subst hna
  have hmk := mk_int a.length (by omega)
  have hq : ordF F.p F.m = F.q := rfl
  go_enter Try.func118, Try.ntmps118
  go_wp2_with (go_at_call 55; refine (order_calls F.p F.m mv _).mono ?_; rintro e w1 ⟨rfl, hx1⟩; rw [hq])
  have hB1 : Bel w w1 := inferInstance
  have hBA : Bel w (w1.alloc (.cells (ints (List.replicate a.length 0)) 3)) := inferInstance
  have hfr : Fr w w1.heap.size := inferInstance
  have ho1 : Own (w1.alloc (.cells (ints (List.replicate a.length 0)) 3)) w1.heap.size (List.replicate a.length 0) := inferInstance
  clear hmk hx1 hB1
  go_loopw [7] (fun iv wr => ∃ (k : Nat), iv = .int .i64 k ∧ k ≤ a.length ∧ Bel w wr ∧ Own wr w1.heap.size (part a.length (cleanF F.q a) k)) (fun iv _ => a.length - (intOf iv).toNat)
  case atStart => exact ⟨0, rfl, by omega, hBA, by rw [← part_zero]; exact ho1⟩
  case round =>
    obtain ⟨k, rfl, hk, hB, ho⟩ := hrel
    clear hBA ho1
    by_cases hlt : k < a.length
    · obtain ⟨ad, rfl, rd⟩ := ha.at_ hlt
      have hin : In k (part a.length (cleanF F.q a) k).length := ⟨by rw [part_length]; exact hlt⟩
      have hin2 : k < (part a.length (cleanF F.q a) k).length := hin.out
      by_cases h1 : 0 ≤ gt a k
      · by_cases h2 : gt a k < F.q
        · have HE : Hid (gt a k = cleanF F.q a k) := by show _ = _; rw [cleanF, if_pos ⟨h1, h2⟩]
          go_wp2
          go_roundw
          case rel => exact ⟨k + 1, by go_num, by omega, inferInstance, by rw [← part_set a.length (cleanF F.q a) k _ hlt HE.out]; exact own_set⟩
          case measure => simp [intOf] <;> omega
        · have HE : Hid (part a.length (cleanF F.q a) (k + 1) = part a.length (cleanF F.q a) k) := by
            show _ = _
            refine ext_gt (by rw [part_length, part_length]) fun j hj => ?_
            rw [part_length] at hj
            rw [gt_part hj, gt_part hj]
            by_cases e : j = k
            · subst e; rw [if_pos (by omega), if_neg (by omega), cleanF, if_neg (by omega)]
            · by_cases e2 : j < k
              · rw [if_pos (by omega), if_pos e2]
              · rw [if_neg (by omega), if_neg e2]
          go_wp2
          go_roundw
          case rel => exact ⟨k + 1, by go_num, by omega, inferInstance, by rw [HE.out]; infer_instance⟩
          case measure => simp [intOf] <;> omega
      · have HE : Hid (part a.length (cleanF F.q a) (k + 1) = part a.length (cleanF F.q a) k) := by
          show _ = _
          refine ext_gt (by rw [part_length, part_length]) fun j hj => ?_
          rw [part_length] at hj
          rw [gt_part hj, gt_part hj]
          by_cases e : j = k
          · subst e; rw [if_pos (by omega), if_neg (by omega), cleanF, if_neg (by omega)]
          · by_cases e2 : j < k
            · rw [if_pos (by omega), if_pos e2]
            · rw [if_neg (by omega), if_neg e2]
        go_wp2
        go_roundw
        case rel => exact ⟨k + 1, by go_num, by omega, inferInstance, by rw [HE.out]; infer_instance⟩
        case measure => simp [intOf] <;> omega
    · obtain rfl : k = a.length := by omega
      go_wp2
      go_ret
      rw [part_full] at ho
      exact ⟨w1.heap.size, rfl, hfr, ho, Bel.ext inferInstance⟩

/-- the indices below k of entries that are not 0 -/
def suppL (c : List Int) : Nat → List Int
  | 0 => []
  | k + 1 => if gt c k = 0 then suppL c k else suppL c k ++ [(k : Int)]
theorem suppL_len (c : List Int) : ∀ k, (suppL c k).length = wgtN c k
  | 0 => rfl
  | k + 1 => by
    rw [suppL, wgtN]
    split
    · exact suppL_len c k
    · rw [List.length_append, suppL_len c k]; rfl

set_option maxRecDepth 100000 in
set_option maxHeartbeats 4000000 in
theorem supp_calls (F : Fd) (mv : Value) (a : List Int) (Aa : Option Addr) (na ca : Nat) (w : World) (hna : a.length = na) (hnm : na ≤ 1000000) [ha : Sl w Aa a] :
    Calls Try.prog 78 #[.agg #[.int .i64 F.p, .int .i64 F.m, mv], .slice Aa na ca] w fun e w' => ∃ B c, e = .returned (.slice B (wgt (cleanL F.q a)) c) ∧ Ext w w' := by
  have hlc : (cleanL F.q a).length = na := by rw [cleanL, mkL_length, hna]
  have hCL := fun w [ha : Sl w Aa a] => clean_calls F mv a Aa na ca w hna hnm
  generalize cleanL F.q a = C at *
  have HCL := hidd hCL
  clear hCL
  go_enter Try.func78, Try.ntmps78
  go_wp2_with (go_at_call 118; refine (HCL.out _).mono ?_; rintro e w1 ⟨g, rfl, hf1, ho1, hx1⟩)
  have hB1 : Bel w w1 := inferInstance
  have he0 : Bx (w1.alloc (.cells #[] 3 (0, 0))) w1.heap.size #[] 3 := inferInstance
  have hr0 := row_empty_at he0
  have ho9 : Own (w1.alloc (.cells #[] 3 (0, 0))) g C := inferInstance
  have hBA : Bel w (w1.alloc (.cells #[] 3 (0, 0))) := inferInstance
  have hgl := (lo_own (h := ho1)).out
  have hs1 := hB1.out.size
  have hfr1 : Fr w w1.heap.size := ⟨hs1⟩
  clear hx1 he0 hB1 ho1 hf1
  go_loopw [6, 7] (fun ov iv wr => ∃ (k : Nat) (v : Value) (xs : List Int), v = ov ∧ iv = .int .i64 k ∧ k ≤ na ∧ Bel w wr ∧ Own wr g C ∧ FrV w v ∧ ApV g v ∧ Row wr v 3 (nums xs) ∧ Hid (xs = suppL C k)) (fun _ iv _ => na - (intOf iv).toNat)
  case atStart => exact ⟨0, _, [], rfl, rfl, by omega, hBA, ho9, inferInstance, ⟨by simp only [Value.ownBlock, ne_eq, Option.some.injEq]; omega⟩, hr0, rfl⟩
  case round =>
    obtain ⟨k, v, xs, rfl, rfl, hk, hB, ho, hfv, hap, hrow, HX⟩ := hrel
    clear hBA ho9 hr0
    have hxl : xs.length ≤ 1000000 := by
      rw [HX.out, suppL_len]
      have := wgtN_le C k
      omega
    by_cases hlt : k < na
    · have hkc : k < C.length := by omega
      by_cases he : gt C k = 0
      · have heb : (gt C k != 0) = false := by simp [he]
        have HE : Hid (suppL C (k + 1) = suppL C k) := by show _ = _; rw [suppL, if_pos he]
        clear he
        go_wp2
        go_roundw
        case rel => exact ⟨k + 1, v, xs, rfl, by go_num, by omega, inferInstance, inferInstance, hfv, hap, inferInstance, by show _ = _; rw [HE.out]; exact HX.out⟩
        case measure => simp [intOf] <;> omega
      · have heb : (gt C k != 0) = true := by simp [he]
        have HE : Hid (suppL C (k + 1) = suppL C k ++ [(k : Int)]) := by show _ = _; rw [suppL, if_neg he]
        have hgw := (lo_own (h := ho)).out
        clear he
        go_wp2_with (at_builtin; refine app_int rfl (.tmp 23) (.tmp 25) rfl v xs (k : Int) wr.heap.size rfl rfl (by omega) ?_; intro v2 w2 hr2 hc2 hv2)
        have hf2 : FrV w v2 := FrV.app hv2
        have hap2 : ApV g v2 := ⟨fun e => by
          rcases hv2 with h | h
          · exact hap.out (e.trans h)
          · rw [h] at e
            have := Option.some.inj e
            simp only [World.size_alloc] at this
            omega⟩
        have hB2 : Bel w w2 := inferInstance
        have ho2 : Own w2 g C := inferInstance
        go_roundw
        case rel => exact ⟨k + 1, v2, _, rfl, by go_num, by omega, hB2, ho2, hf2, hap2, hr2, by show _ = _; rw [HE.out, ← HX.out]⟩
        case measure => simp [intOf] <;> omega
    · obtain rfl : k = na := by omega
      obtain ⟨B, c, rfl, _, _⟩ := hrow.reads
      go_wp2
      go_ret
      have hl9 : xs.length = wgt C := by rw [HX.out, suppL_len, wgt, hlc]
      rw [hl9]
      exact ⟨B, c, rfl, Bel.ext inferInstance⟩

set_option maxRecDepth 100000 in
set_option maxHeartbeats 4000000 in
theorem weight11_calls (F : Fd) (mv : Value) (a : List Int) (Aa : Option Addr) (na ca : Nat) (w : World) (hna : a.length = na) (hnm : na ≤ 1000000) [ha : Sl w Aa a] :
    Calls Try.prog 31 #[.agg #[.int .i64 F.p, .int .i64 F.m, mv], .slice Aa na ca] w fun e w' => e = .returned (.int .i64 (wgt (cleanL F.q a))) ∧ Ext w w' := by
  go_enter Try.func31, Try.ntmps31
  go_wp2_with (go_at_call 78; refine (supp_calls F mv a Aa na ca _ hna hnm).mono ?_; rintro e w1 ⟨B, c, rfl, hx1⟩)
  go_ret
  exact ⟨rfl, Bel.ext inferInstance⟩

theorem clean_id {q : Int} {w : List Int} (h : Ent q w) : cleanL q w = w := by
  refine ext_gt (by rw [cleanL, mkL_length]) fun k hk => ?_
  rw [cleanL, mkL_length] at hk
  rw [cleanL, gt_mkL hk, cleanF, if_pos (h k hk)]

/-! ### the index of a message -/
def numL (q : Nat) : List Int → Nat → Nat
  | _, 0 => 0
  | m, k + 1 => numL q m k * q + (gt m k).toNat
theorem numL_lt {q : Nat} {m : List Int} (h : ∀ k, 0 ≤ gt m k ∧ gt m k < q) : ∀ k, numL q m k < q ^ k
  | 0 => by simp [numL]
  | k + 1 => by
    have ih := numL_lt h k
    have hk := h k
    rw [numL, Nat.pow_succ]
    have h1 : (numL q m k + 1) * q ≤ q ^ k * q := Nat.mul_le_mul_right q ih
    rw [Nat.add_mul, Nat.one_mul] at h1
    omega
theorem numL_dig {q : Nat} {m : List Int} (h : ∀ k, 0 ≤ gt m k ∧ gt m k < q) : ∀ K j, j < K → ((numL q m K / q ^ (K - 1 - j) % q : Nat) : Int) = gt m j
  | 0, j, hj => by omega
  | K + 1, j, hj => by
    have hq : 0 < q := by have := h 0; omega
    have hK := h K
    by_cases e : j = K
    · subst e
      rw [show j + 1 - 1 - j = 0 by omega, Nat.pow_zero, Nat.div_one, numL, Nat.mul_comm, Nat.mul_add_mod, Nat.mod_eq_of_lt (by omega)]
      omega
    · have ih := numL_dig h K j (by omega)
      rw [show K + 1 - 1 - j = (K - 1 - j) + 1 by omega, Nat.pow_succ, Nat.mul_comm (q ^ (K - 1 - j)) q, ← Nat.div_div_eq_div_mul, numL]
      have : (numL q m K * q + (gt m K).toNat) / q = numL q m K := by
        rw [Nat.mul_comm, Nat.mul_add_div hq, Nat.div_eq_of_lt (by omega)]; rfl
      rw [this]
      exact ih
theorem msgL_num {q : Nat} {m : List Int} (h : Ent q m) (hq : 0 < q) : msgL q m.length (numL q m m.length : Nat) = m := by
  have h' : ∀ k, 0 ≤ gt m k ∧ gt m k < q := fun k => by
    by_cases hk : k < m.length
    · exact h k hk
    · rw [gt_out (by omega)]; omega
  refine ext_gt (by rw [msgL, mkL_length]) fun k hk => ?_
  rw [msgL, mkL_length] at hk
  rw [msgL, gt_mkL hk, msgF_nat]
  exact numL_dig h' m.length k hk
/-- the word of a message is one of the words -/
theorem comb_word {F : Fd} {rows : List (List Int)} {msg : List Int} (hG : F.Good) (hl : msg.length = rows.length) (he : Ent F.q msg) (N : Nat) : ∃ i : Nat, (i : Int) < F.q ^ rows.length ∧ F.comb msg rows N = F.word rows N (i : Int) := by
  obtain ⟨q, hq⟩ : ∃ q : Nat, F.q = q := ⟨F.q.toNat, by have := hG.q2; omega⟩
  have hq2 := hG.q2
  rw [hq] at he
  refine ⟨numL q msg msg.length, ?_, ?_⟩
  · rw [hq, ← hl]
    have h' : ∀ k, 0 ≤ gt msg k ∧ gt msg k < q := fun k => by
      by_cases hk : k < msg.length
      · exact he k hk
      · rw [gt_out (by omega)]; omega
    have := numL_lt h' msg.length
    rw [← Int.natCast_pow]
    exact Int.ofNat_lt.2 this
  · rw [Fd.word, hq, ← hl, msgL_num he (by omega)]
theorem bst_le (F : Fd) (rows : List (List Int)) (N : Nat) (f : List Int → Nat) (z : Bool) : ∀ k i, i < k → (z = true → 0 < i) → (F.bst rows N f z k).1 ≤ f (F.word rows N (i : Int))
  | 0, i, hi, _ => by omega
  | k + 1, i, hi, hz => by
    rw [Fd.bst]
    by_cases e : i = k
    · subst e
      split
      · exact Int.le_refl _
      · next h =>
        have : ¬ (f (F.word rows N (i : Int)) : Int) < (F.bst rows N f z i).1 := fun h2 => h ⟨hz, h2⟩
        omega
    · have ih := bst_le F rows N f z k i (by omega) hz
      split
      · next h => simp only; omega
      · exact ih

end Go.Proofs.Ytcigdhmecfhndaa

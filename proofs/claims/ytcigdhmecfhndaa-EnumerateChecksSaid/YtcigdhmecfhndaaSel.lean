/- The walks of codewrightref11.SameLists, codewrightref12.Word, codewrightref23.Near and Within and Nearest, enumerate.distance and entries and received. -/
import Derived.Test.YtcigdhmecfhndaaW
namespace Go.Proofs.Ytcigdhmecfhndaa
open Go.RowKit
attribute [local go_sem] cell_bx froz_bx cell_own froz_own cell_rd cell_cel ints_get ints_set cell_ownv froz_ownv eql_nil_int
set_option linter.unusedVariables false
set_option linter.unusedSimpArgs false

set_option maxRecDepth 100000 in
set_option maxHeartbeats 4000000 in
theorem sameLists_calls (a b : List (List Int)) (Aa Ab : Option Addr) (na ca nb cb : Nat) (w : World) (hna : a.length = na) (hnb : b.length = nb) (hnm : na ≤ 1000000000000000000) (hin : ∀ k, (gr a k).length ≤ 1000000000000000000) (hin2 : ∀ k, (gr b k).length ≤ 1000000000000000000) [hA : Sls w Aa a] [hB : Sls w Ab b] :
    Calls Try.prog 26 #[.slice Aa na ca, .slice Ab nb cb] w fun e w' => e = .returned (.bool (decide (a = b))) ∧ Ext w w' := by
  subst hna hnb
  have HIN := hidd hin
  have HIN2 := hidd hin2
  clear hin hin2
  by_cases hl : a.length = b.length
  · have HL := hidd hl
    have hlb : ((a.length : Int) != (b.length : Int)) = false := by simp [hl]
    clear hl
    go_enter Try.func26, Try.ntmps26
    go_wp2
    clear hlb
    go_loopw [5] (fun iv wr => ∃ (k : Nat), iv = .int .i64 k ∧ k ≤ a.length ∧ Bel w wr ∧ Hid (∀ j, j < k → gr a j = gr b j)) (fun iv _ => a.length - (intOf iv).toNat)
    case atStart => exact ⟨0, rfl, by omega, inferInstance, fun j hj => by omega⟩
    case round =>
      obtain ⟨k, rfl, hk, hB1, HI⟩ := hrel
      by_cases hlt : k < a.length
      · have hlt2 : k < b.length := by rw [← HL.out]; exact hlt
        obtain ⟨ada, Ba, ka, rfl, hca, hsa⟩ := hA.at_ hlt
        obtain ⟨adb, Bb, kb, rfl, hcb, hsb⟩ := hB.at_ hlt2
        have hca2 : Cel wr (ada.add k) (.slice Ba (gr a k).length ka) := inferInstance
        have hcb2 : Cel wr (adb.add k) (.slice Bb (gr b k).length kb) := inferInstance
        have hla : Lo ada.block wr.heap.size := ⟨by have := World.block_lt_of_cell? wr _ hca2.out; rwa [add_block] at this⟩
        have hlb : Lo adb.block wr.heap.size := ⟨by have := World.block_lt_of_cell? wr _ hcb2.out; rwa [add_block] at this⟩
        have hla2 : Lo (ada.add k).block wr.heap.size := ⟨by rw [add_block]; exact hla.out⟩
        have hlb2 : Lo (adb.add k).block wr.heap.size := ⟨by rw [add_block]; exact hlb.out⟩
        have hN : Near wr.heap.size wr wr := ⟨Below.refl _ _⟩
        have hlen := HIN.out k
        have hlen2 := HIN2.out k
        by_cases he : gr a k = gr b k
        · have heb : cmpL (gr a k) (gr b k) = 0 := (cmpL_zero _ _).2 he
          have HE := hidd he
          clear he
          go_wp2
          go_region_held3 (fun w' => Near wr.heap.size wr w') (infer_instance)
            ((go_at_call 69; refine (cmp11_calls (gr a k) (gr b k) Ba Bb _ _ _ _ _ rfl rfl hlen hlen2).mono ?_; rintro e w1 ⟨rfl, hx1⟩; rw [heb]))
          go_wp2
          go_roundw
          case rel => exact ⟨k + 1, by go_num, by omega, inferInstance, fun j hj => by
            by_cases e : j = k
            · rw [e]; exact HE.out
            · exact HI.out j (by omega)⟩
          case measure => simp [intOf] <;> omega
        · have heb : (cmpL (gr a k) (gr b k) != 0) = true := by rw [bne_iff_ne]; exact fun e => he ((cmpL_zero _ _).1 e)
          have HE := hidd he
          clear he
          go_wp2
          go_region_held3 (fun w' => Near wr.heap.size wr w') (infer_instance)
            ((go_at_call 69; refine (cmp11_calls (gr a k) (gr b k) Ba Bb _ _ _ _ _ rfl rfl hlen hlen2).mono ?_; rintro e w1 ⟨rfl, hx1⟩))
          go_wp2
          go_ret
          exact ⟨ret_bool (decide_eq_false (fun h => HE.out (by rw [h]))).symm, Bel.ext inferInstance⟩
      · obtain rfl : k = a.length := by omega
        go_wp2
        go_ret
        exact ⟨ret_bool (decide_eq_true (ext_gr HL.out HI.out)).symm, Bel.ext inferInstance⟩
  · have HL := hidd hl
    have hlb : ((a.length : Int) != (b.length : Int)) = true := by simp; omega
    clear hl
    go_enter Try.func26, Try.ntmps26
    go_wp2
    go_ret
    exact ⟨ret_bool (decide_eq_false (fun h => HL.out (by rw [h]))).symm, Bel.ext inferInstance⟩

/-- the error of a code and a word -/
noncomputable def wrdE (F : Fd) (N : Int) (rows : List (List Int)) (y : List Int) : Int := if codE F N rows = 0 then lstE F.q y N else codE F N rows

set_option maxRecDepth 100000 in
set_option maxHeartbeats 4000000 in
theorem word12_calls (F : Fd) (A : Option Addr) (n c : Nat) (rows : List (List Int)) (Ar : Option Addr) (nr cr : Nat) (N : Int) (y : List Int) (Ay : Option Addr) (ny cy : Nat) (w : World) (hn : F.md.length = n) (hn2 : n ≤ 1000000000000000000) (hr : rows.length = nr) (hr2 : nr ≤ 1000000000000000000) (hrl : ∀ k, (gr rows k).length ≤ 1000000000000000000) (hy : y.length = ny) (hy2 : ny ≤ 1000000000000000000) [hA : Sl w A F.md] [hR : Sls w Ar rows] [hY : Sl w Ay y] :
    Calls Try.prog 74 #[.agg #[.int .i64 F.p, .int .i64 F.m, .slice A n c, .int .i64 N, .slice Ar nr cr], .slice Ay ny cy] w fun e w' => e = .returned (.int .i64 (wrdE F N rows y)) ∧ Ext w w' := by
  by_cases hok : codE F N rows = 0
  · have HS : Hid (wrdE F N rows y = lstE F.q y N) := by show _ = _; rw [wrdE, if_pos hok]
    go_enter Try.func74, Try.ntmps74
    go_wp2_with (first
      | (go_at_call 24; refine (check12_calls F A n c rows Ar nr cr N _ hn hn2 hr hr2 hrl).mono ?_; rintro e w1 ⟨rfl, hx1⟩; rw [hok])
      | (go_at_call 76; refine (list12_calls F _ y Ay ny cy N _ hy hy2).mono ?_; rintro e w2 ⟨rfl, hx2⟩))
    go_ret
    exact ⟨ret_int (by rw [HS.out]), Bel.ext inferInstance⟩
  · have hb : (codE F N rows == 0) = false := by simp [hok]
    have HS : Hid (wrdE F N rows y = codE F N rows) := by show _ = _; rw [wrdE, if_neg hok]
    clear hok
    go_enter Try.func74, Try.ntmps74
    go_wp2_with (go_at_call 24; refine (check12_calls F A n c rows Ar nr cr N _ hn hn2 hr hr2 hrl).mono ?_; rintro e w1 ⟨rfl, hx1⟩)
    go_ret
    exact ⟨ret_int (by rw [HS.out]), Bel.ext inferInstance⟩

/-- the error of a code, a word and the limit, and the words -/
noncomputable def nearE (F : Fd) (N : Int) (rows : List (List Int)) (y : List Int) : Int := if wrdE F N rows y = 0 then sizE F N rows else wrdE F N rows y
noncomputable def nearL (F : Fd) (N : Int) (rows : List (List Int)) (y : List Int) : List (List Int) := if wrdE F N rows y = 0 then wrdL F N rows else []

set_option maxRecDepth 100000 in
set_option maxHeartbeats 4000000 in
theorem near23_calls (F : Fd) (A : Option Addr) (n c : Nat) (rows : List (List Int)) (Ar : Option Addr) (nr cr : Nat) (N : Int) (y : List Int) (Ay : Option Addr) (ny cy : Nat) (w : World) (hn : F.md.length = n) (hn2 : n ≤ 1000000000000000000) (hr : rows.length = nr) (hr2 : nr ≤ 1000000000000000000) (hrl : ∀ k, (gr rows k).length ≤ 1000000000000000000) (hy : y.length = ny) (hy2 : ny ≤ 1000000000000000000) [hA : Sl w A F.md] [hR : Sls w Ar rows] [hY : Sl w Ay y] :
    Calls Try.prog 33 #[.agg #[.int .i64 F.p, .int .i64 F.m, .slice A n c, .int .i64 N, .slice Ar nr cr], .slice Ay ny cy] w fun e w' => ∃ (B : Option Addr) (k : Nat), e = .returned (.tuple #[.slice B (nearL F N rows y).length k, .int .i64 (nearE F N rows y)]) ∧ Sls w' B (nearL F N rows y) ∧ Ext w w' := by
  by_cases hok : wrdE F N rows y = 0
  · have HE : Hid (nearE F N rows y = sizE F N rows) := by show _ = _; rw [nearE, if_pos hok]
    have HL : Hid (nearL F N rows y = wrdL F N rows) := by show _ = _; rw [nearL, if_pos hok]
    go_enter Try.func33, Try.ntmps33
    go_wp2_with (first
      | (go_at_call 74; refine (word12_calls F A n c rows Ar nr cr N y Ay ny cy _ hn hn2 hr hr2 hrl hy hy2).mono ?_; rintro e w1 ⟨rfl, hx1⟩; rw [hok])
      | (go_at_call 28; refine (words12_calls F A n c rows Ar nr cr N _ hn hn2 hr hr2 hrl).mono ?_; rintro e w2 ⟨B, kB, rfl, hkB, hsB, hx2⟩))
    go_ret2
    rw [HE.out, HL.out]
    exact ⟨B, kB, rfl, hsB, Bel.ext inferInstance⟩
  · have hb : (wrdE F N rows y != 0) = true := by simp [hok]
    have HE : Hid (nearE F N rows y = wrdE F N rows y) := by show _ = _; rw [nearE, if_neg hok]
    have HL : Hid (nearL F N rows y = []) := by show _ = _; rw [nearL, if_neg hok]
    clear hok
    go_enter Try.func33, Try.ntmps33
    go_wp2_with (go_at_call 74; refine (word12_calls F A n c rows Ar nr cr N y Ay ny cy _ hn hn2 hr hr2 hrl hy hy2).mono ?_; rintro e w1 ⟨rfl, hx1⟩)
    go_ret2
    rw [HE.out, HL.out]
    exact ⟨none, 0, rfl, ⟨fun _ e => (by cases e), fun h => absurd h (by simp)⟩, Bel.ext inferInstance⟩

/-- those from distance lo to distance hi of y -/
def selB (y : List Int) (lo hi : Int) (x : List Int) : Bool := decide (lo ≤ (dist x y : Int) ∧ (dist x y : Int) ≤ hi)
def selL (ws : List (List Int)) (y : List Int) (lo hi : Int) (k : Nat) : List (List Int) := (ws.take k).filter (selB y lo hi)
theorem take_gr {ws : List (List Int)} {k : Nat} (h : k < ws.length) : ws.take (k + 1) = ws.take k ++ [gr ws k] := by
  rw [List.take_add_one, List.getElem?_eq_getElem h, gr_eq h]; rfl
theorem selL_yes {ws : List (List Int)} {y : List Int} {lo hi : Int} {k : Nat} (h : k < ws.length) (h2 : lo ≤ (dist (gr ws k) y : Int)) (h3 : (dist (gr ws k) y : Int) ≤ hi) : selL ws y lo hi (k + 1) = selL ws y lo hi k ++ [gr ws k] := by
  have : selB y lo hi (gr ws k) = true := decide_eq_true ⟨h2, h3⟩
  rw [selL, take_gr h, List.filter_append, List.filter_cons, this]; rfl
theorem selL_no {ws : List (List Int)} {y : List Int} {lo hi : Int} {k : Nat} (h : k < ws.length) (h2 : ¬ (lo ≤ (dist (gr ws k) y : Int) ∧ (dist (gr ws k) y : Int) ≤ hi)) : selL ws y lo hi (k + 1) = selL ws y lo hi k := by
  have : selB y lo hi (gr ws k) = false := decide_eq_false h2
  rw [selL, take_gr h, List.filter_append, List.filter_cons, this]; simp [selL]
theorem selL_le (ws : List (List Int)) (y : List Int) (lo hi : Int) (k : Nat) : (selL ws y lo hi k).length ≤ k :=
  Nat.le_trans (List.length_filter_le _ _) (by rw [List.length_take]; omega)
/-- the error of Within, and its words -/
noncomputable def witE (F : Fd) (N : Int) (rows : List (List Int)) (y : List Int) (lo hi : Int) : Int := if wrdE F N rows y = 0 then (if lo < 0 ∨ N < hi ∨ hi < 0 then 6 else sizE F N rows) else wrdE F N rows y
noncomputable def witL (F : Fd) (N : Int) (rows : List (List Int)) (y : List Int) (lo hi : Int) : List (List Int) := if witE F N rows y lo hi = 0 then selL (wrdL F N rows) y lo hi (wrdL F N rows).length else []

set_option maxRecDepth 100000 in
set_option maxHeartbeats 4000000 in
theorem within23_no (F : Fd) (A : Option Addr) (n c : Nat) (rows : List (List Int)) (Ar : Option Addr) (nr cr : Nat) (N : Int) (y : List Int) (Ay : Option Addr) (ny cy : Nat) (lo hi : Int) (w : World) (hn : F.md.length = n) (hn2 : n ≤ 1000000000000000000) (hr : rows.length = nr) (hr2 : nr ≤ 1000000000000000000) (hrl : ∀ k, (gr rows k).length ≤ 1000000000000000000) (hy : y.length = ny) (hy2 : ny ≤ 1000000000000000000) (hno : witE F N rows y lo hi ≠ 0) [hA : Sl w A F.md] [hR : Sls w Ar rows] [hY : Sl w Ay y] :
    Calls Try.prog 25 #[.agg #[.int .i64 F.p, .int .i64 F.m, .slice A n c, .int .i64 N, .slice Ar nr cr], .slice Ay ny cy, .int .i64 lo, .int .i64 hi] w fun e w' => e = .returned (.tuple #[.slice none 0 0, .int .i64 (witE F N rows y lo hi)]) ∧ Ext w w' := by
  by_cases hok : wrdE F N rows y = 0
  · by_cases hl : lo < 0
    · have HE : Hid (witE F N rows y lo hi = 6) := by show _ = _; rw [witE, if_pos hok, if_pos (by omega)]
      clear hno
      go_enter Try.func25, Try.ntmps25
      go_wp2_with (go_at_call 74; refine (word12_calls F A n c rows Ar nr cr N y Ay ny cy _ hn hn2 hr hr2 hrl hy hy2).mono ?_; rintro e w1 ⟨rfl, hx1⟩; rw [hok])
      go_ret2
      rw [HE.out]
      exact ⟨rfl, Bel.ext inferInstance⟩
    · by_cases hl2 : N < hi
      · have HE : Hid (witE F N rows y lo hi = 6) := by show _ = _; rw [witE, if_pos hok, if_pos (by omega)]
        clear hno
        go_enter Try.func25, Try.ntmps25
        go_wp2_with (go_at_call 74; refine (word12_calls F A n c rows Ar nr cr N y Ay ny cy _ hn hn2 hr hr2 hrl hy hy2).mono ?_; rintro e w1 ⟨rfl, hx1⟩; rw [hok])
        go_ret2
        rw [HE.out]
        exact ⟨rfl, Bel.ext inferInstance⟩
      · by_cases hl3 : hi < 0
        · have HE : Hid (witE F N rows y lo hi = 6) := by show _ = _; rw [witE, if_pos hok, if_pos (by omega)]
          clear hno
          go_enter Try.func25, Try.ntmps25
          go_wp2_with (go_at_call 74; refine (word12_calls F A n c rows Ar nr cr N y Ay ny cy _ hn hn2 hr hr2 hrl hy hy2).mono ?_; rintro e w1 ⟨rfl, hx1⟩; rw [hok])
          go_ret2
          rw [HE.out]
          exact ⟨rfl, Bel.ext inferInstance⟩
        · have he : witE F N rows y lo hi = sizE F N rows := by rw [witE, if_pos hok, if_neg (by omega)]
          rw [he] at hno
          have hb : (sizE F N rows != 0) = true := by simp [hno]
          have HE := hidd he
          clear he hno
          go_enter Try.func25, Try.ntmps25
          go_wp2_with (first
            | (go_at_call 74; refine (word12_calls F A n c rows Ar nr cr N y Ay ny cy _ hn hn2 hr hr2 hrl hy hy2).mono ?_; rintro e w1 ⟨rfl, hx1⟩; rw [hok])
            | (go_at_call 28; refine (words12_calls F A n c rows Ar nr cr N _ hn hn2 hr hr2 hrl).mono ?_; rintro e w2 ⟨B, kB, rfl, hkB, hsB, hx2⟩))
          go_ret2
          rw [HE.out]
          exact ⟨rfl, Bel.ext inferInstance⟩
  · have hb : (wrdE F N rows y != 0) = true := by simp [hok]
    have HE : Hid (witE F N rows y lo hi = wrdE F N rows y) := by show _ = _; rw [witE, if_neg hok]
    clear hok hno
    go_enter Try.func25, Try.ntmps25
    go_wp2_with (go_at_call 74; refine (word12_calls F A n c rows Ar nr cr N y Ay ny cy _ hn hn2 hr hr2 hrl hy hy2).mono ?_; rintro e w1 ⟨rfl, hx1⟩)
    go_ret2
    rw [HE.out]
    exact ⟨rfl, Bel.ext inferInstance⟩

/-- the slices of one list, as a slice's cells -/
class Ins (w : World) (cs : List Value) (xss : outParam (List (List Int))) : Prop where
  len : cs.length = xss.length
  at_ : ∀ j, j < xss.length → ∃ B c, gv cs j = .slice B (gr xss j).length c ∧ Sl w B (gr xss j)
instance ins_bel {w0 w : World} {cs : List Value} {xss : List (List Int)} [b : Bel w0 w] [h : Ins w0 cs xss] : Ins w cs xss := ⟨h.len, fun j hj => by
  obtain ⟨B, c, e, s⟩ := h.at_ j hj
  exact ⟨B, c, e, s.move b.out⟩⟩
theorem ins_nil {w : World} : Ins w [] [] := ⟨rfl, fun j hj => absurd hj (by simp)⟩
theorem Ins.snoc {w : World} {cs : List Value} {xss : List (List Int)} (h : Ins w cs xss) {B : Option Addr} {n c : Nat} {xs : List Int} (hn : n = xs.length) (hs : Sl w B xs) : Ins w (cs ++ [.slice B n c]) (xss ++ [xs]) := ⟨by simp [h.len], fun j hj => by
  by_cases e : j < xss.length
  · obtain ⟨B', c', e1, s1⟩ := h.at_ j e
    refine ⟨B', c', ?_, ?_⟩
    · rw [gr_snoc_lt e, ← e1]
      have : j < cs.length := by rw [h.len]; exact e
      simp [gv, List.getElem?_append_left this]
    · rw [gr_snoc_lt e]; exact s1
  · have hj2 : j = xss.length := by simp at hj; omega
    subst hj2
    refine ⟨B, c, ?_, ?_⟩
    · rw [gr_snoc, ← hn, ← h.len]; simp [gv]
    · rw [gr_snoc]; exact hs⟩
theorem Row.readss' {w : World} {v : Value} {cs : List Value} {xss : List (List Int)} (h : Row w v 22 cs) (hi : Ins w cs xss) : ∃ A c, v = .slice A xss.length c ∧ xss.length ≤ c ∧ Sls w A xss := by
  rcases h.out.2 with ⟨rfl, hn⟩ | ⟨g, cap, cur, rfl, _, hh, hc, _, hsz, hcur⟩
  · have hx : xss = [] := List.eq_nil_of_length_eq_zero (by rw [← hi.len]; omega)
    subst hx
    exact ⟨none, 0, rfl, Nat.le_refl _, ⟨fun _ e => (by cases e), fun h => absurd h (by simp)⟩⟩
  · rw [hi.len] at hc hcur ⊢
    refine ⟨_, cap, rfl, hc, ⟨fun ad e j hj => ?_, fun _ => ⟨_, rfl⟩⟩⟩
    cases e
    obtain ⟨B, c, e1, s1⟩ := hi.at_ j hj
    refine ⟨B, c, ?_, s1⟩
    rw [add_plain, blk_cell hh]
    have h1 : cur.toList[j]? = some (gv cs j) := by
      have h2 : (cur.toList.take (xss.length * 1))[j]? = cur.toList[j]? := List.getElem?_take_of_lt (by omega)
      have hj2 : j < cs.length := by rw [hi.len]; exact hj
      rw [← h2, hcur]; simp [gv, hj2]
    rw [← e1]
    simpa using h1


theorem wrdL_gr (F : Fd) (N : Int) (rows : List (List Int)) (k : Nat) (hN : 0 ≤ N) : (gr (wrdL F N rows) k).length ≤ N.toNat := by
  unfold wrdL
  split
  · by_cases hk : k < (sizV F N rows).toNat
    · rw [words_gr _ _ _ _ hk, word_len]; exact Nat.le_refl _
    · rw [gr_out (by rw [words_len]; omega)]; simp
  · simp [gr]
theorem wrdL_len {F : Fd} {N : Int} {rows : List (List Int)} (h : sizE F N rows = 0) : ((wrdL F N rows).length : Int) = sizV F N rows ∧ (wrdL F N rows).length ≤ 65536 := by
  have := sizE_ok h
  rw [wrdL, if_pos h, words_len]
  omega

set_option maxRecDepth 100000 in
set_option maxHeartbeats 4000000 in
theorem within23_yes (F : Fd) (A : Option Addr) (n c : Nat) (rows : List (List Int)) (Ar : Option Addr) (nr cr : Nat) (N : Int) (y : List Int) (Ay : Option Addr) (ny cy : Nat) (lo hi : Int) (w : World) (hn : F.md.length = n) (hn2 : n ≤ 1000000000000000000) (hr : rows.length = nr) (hr2 : nr ≤ 1000000000000000000) (hrl : ∀ k, (gr rows k).length ≤ 1000000000000000000) (hy : y.length = ny) (hy2 : ny ≤ 1000000000000000000) (hok : witE F N rows y lo hi = 0) [hA : Sl w A F.md] [hR : Sls w Ar rows] [hY : Sl w Ay y] :
    Calls Try.prog 25 #[.agg #[.int .i64 F.p, .int .i64 F.m, .slice A n c, .int .i64 N, .slice Ar nr cr], .slice Ay ny cy, .int .i64 lo, .int .i64 hi] w fun e w' => ∃ (B : Option Addr) (k : Nat), e = .returned (.tuple #[.slice B (witL F N rows y lo hi).length k, .int .i64 0]) ∧ Sls w' B (witL F N rows y lo hi) ∧ Ext w w' := by
  have hw : wrdE F N rows y = 0 := by
    unfold witE at hok
    split at hok
    · assumption
    · exact absurd hok (by assumption)
  have hr9 : ¬ (lo < 0 ∨ N < hi ∨ hi < 0) := fun h => by rw [witE, if_pos hw, if_pos h] at hok; cases hok
  have hs : sizE F N rows = 0 := by rw [witE, if_pos hw, if_neg hr9] at hok; exact hok
  have hl1 : ¬ lo < 0 := fun h => hr9 (.inl h)
  have hl2 : ¬ N < hi := fun h => hr9 (.inr (.inl h))
  have hl3 : ¬ hi < 0 := fun h => hr9 (.inr (.inr h))
  have HL : Hid (witL F N rows y lo hi = selL (wrdL F N rows) y lo hi (wrdL F N rows).length) := by show _ = _; rw [witL, if_pos hok]
  have hlen := (wrdL_len hs).2
  have hN0 : 0 ≤ N := by have := codE_ok (sizE_ok hs).1; omega
  have hN64 : N ≤ 64 := by have := codE_ok (sizE_ok hs).1; omega
  have HWG := hidd (fun k => wrdL_gr F N rows k hN0)
  have HRL := hidd hrl
  clear hok hr9 hrl
  go_enter Try.func25, Try.ntmps25
  go_wp2_with (first
    | (go_at_call 74; refine (word12_calls F A n c rows Ar nr cr N y Ay ny cy _ hn hn2 hr hr2 HRL.out hy hy2).mono ?_; rintro e w1 ⟨rfl, hx1⟩; rw [hw])
    | (go_at_call 28; refine (words12_calls F A n c rows Ar nr cr N _ hn hn2 hr hr2 HRL.out).mono ?_; rintro e w2 ⟨B, kB, rfl, hkB, hsB, hx2⟩; rw [hs]))
  generalize wrdL F N rows = W at *
  have he0 : Bx (w2.alloc (.cells #[] 22 (0, 0))) w2.heap.size #[] 22 := inferInstance
  have hr0 := row_empty_at he0
  have hbW : Bel w w2 := inferInstance
  have hf0 : FrV w (.slice (some ⟨w2.heap.size, 0, none⟩) 0 0) := inferInstance
  have hY9 : Sl w2 Ay y := inferInstance
  have HBW := hidd hbW
  clear hx1 hx2 he0 hbW
  go_loopw [12, 13] (fun ov iv wr => ∃ (k : Nat) (v : Value) (cs : List Value), v = ov ∧ iv = .int .i64 k ∧ k ≤ W.length ∧ Bel w2 wr ∧ FrV w2 v ∧ Row wr v 22 cs ∧ Ins w2 cs (selL W y lo hi k)) (fun _ iv _ => W.length - (intOf iv).toNat)
  case atStart => exact ⟨0, _, [], rfl, rfl, by omega, inferInstance, inferInstance, hr0, ins_nil⟩
  case round =>
    obtain ⟨k, v, cs, rfl, rfl, hk, hB, hfv, hrow, hinn⟩ := hrel
    have hle := selL_le W y lo hi k
    have hcl : cs.length ≤ 100000 := by rw [hinn.len]; omega
    by_cases hlt : k < W.length
    · obtain ⟨ad, Be, ce, rfl, hce, hse⟩ := hsB.at_ hlt
      have hce2 : Cel wr (ad.add k) (.slice Be (gr W k).length ce) := inferInstance
      have hse2 : Sl wr Be (gr W k) := inferInstance
      have hyr : Sl wr Ay y := inferInstance
      have hge := HWG.out k
      by_cases h1 : lo ≤ (dist (gr W k) y : Int)
      · by_cases h2 : (dist (gr W k) y : Int) ≤ hi
        · have HS : Hid (selL W y lo hi (k + 1) = selL W y lo hi k ++ [gr W k]) := selL_yes hlt h1 h2
          have hblt := World.block_lt_of_cell? wr _ hce2.out
          go_wp2_with (first
            | (go_at_call 34; refine (dist23_calls (gr W k) y Be Ay _ _ _ _ _ rfl hy (by omega)).mono ?_; rintro e w4 ⟨rfl, hx4⟩)
            | (at_builtin; refine app_slice rfl (.tmp 62) (.tmp 67) rfl v cs _ _ _ w4.heap.size rfl rfl (by omega) ?_; intro v2 w5 hr5 hc5 hv5))
          have hf2 : FrV w2 v2 := FrV.app hv5
          have hB2 : Bel w2 w5 := inferInstance
          go_roundw
          case rel => exact ⟨k + 1, v2, _, rfl, by go_num, by omega, hB2, hf2, hr5, by rw [HS.out]; exact hinn.snoc rfl hse⟩
          case measure => simp [intOf] <;> omega
        · have HS : Hid (selL W y lo hi (k + 1) = selL W y lo hi k) := selL_no hlt (fun h => h2 h.2)
          go_wp2_with (go_at_call 34; refine (dist23_calls (gr W k) y Be Ay _ _ _ _ _ rfl hy (by omega)).mono ?_; rintro e w4 ⟨rfl, hx4⟩)
          go_roundw
          case rel => exact ⟨k + 1, v, _, rfl, by go_num, by omega, inferInstance, hfv, inferInstance, by rw [HS.out]; exact hinn⟩
          case measure => simp [intOf] <;> omega
      · have HS : Hid (selL W y lo hi (k + 1) = selL W y lo hi k) := selL_no hlt (fun h => h1 h.1)
        go_wp2_with (go_at_call 34; refine (dist23_calls (gr W k) y Be Ay _ _ _ _ _ rfl hy (by omega)).mono ?_; rintro e w4 ⟨rfl, hx4⟩)
        go_roundw
        case rel => exact ⟨k + 1, v, _, rfl, by go_num, by omega, inferInstance, hfv, inferInstance, by rw [HS.out]; exact hinn⟩
        case measure => simp [intOf] <;> omega
    · obtain rfl : k = W.length := by omega
      have hinr : Ins wr cs (selL W y lo hi W.length) := inferInstance
      obtain ⟨A2, c2, rfl, _, hs2⟩ := hrow.readss' hinr
      have HB9 : Bel w wr := HBW.out.then_ hB
      go_wp2
      go_ret2
      rw [HL.out]
      exact ⟨A2, c2, rfl, hs2, HB9.ext⟩


end Go.Proofs.Ytcigdhmecfhndaa

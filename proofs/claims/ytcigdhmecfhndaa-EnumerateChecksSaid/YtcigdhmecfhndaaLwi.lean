/- The walks of enumerate.Within and of the law EnumerateWithin. -/
import Derived.Test.YtcigdhmecfhndaaLow
namespace Go.Proofs.Ytcigdhmecfhndaa
open Go.RowKit
attribute [local go_sem] cell_bx froz_bx cell_own froz_own cell_rd cell_cel ints_get ints_set cell_ownv froz_ownv eql_nil_int Oper.semAt_some
set_option linter.unusedVariables false
set_option linter.unusedSimpArgs false

/-- the words within distance t of y among the first k -/
def Fd.wit (F : Fd) (rows : List (List Int)) (N : Nat) (y : List Int) (t : Int) (k : Nat) : List (List Int) := (F.words rows N k).filter (selB y 0 t)
theorem wit_yes {F : Fd} {rows : List (List Int)} {N : Nat} {y : List Int} {t : Int} {k : Nat} (h : (dist (F.word rows N (k : Int)) y : Int) ≤ t) : F.wit rows N y t (k + 1) = F.wit rows N y t k ++ [F.word rows N (k : Int)] := by
  have : selB y 0 t (F.word rows N (k : Int)) = true := decide_eq_true ⟨by omega, h⟩
  rw [Fd.wit, words_succ, List.filter_append, List.filter_cons, this]; rfl
theorem wit_no {F : Fd} {rows : List (List Int)} {N : Nat} {y : List Int} {t : Int} {k : Nat} (h : ¬ (dist (F.word rows N (k : Int)) y : Int) ≤ t) : F.wit rows N y t (k + 1) = F.wit rows N y t k := by
  have : selB y 0 t (F.word rows N (k : Int)) = false := decide_eq_false fun h2 => h h2.2
  rw [Fd.wit, words_succ, List.filter_append, List.filter_cons, this]; simp [Fd.wit]
theorem wit_le (F : Fd) (rows : List (List Int)) (N : Nat) (y : List Int) (t : Int) (k : Nat) : (F.wit rows N y t k).length ≤ k :=
  Nat.le_trans (List.length_filter_le _ _) (by rw [words_len]; exact Nat.le_refl _)
theorem lstE_ok {q : Int} {l : List Int} {n : Int} (h : lstE q l n = 0) : (l.length : Int) = n ∧ Ent q l := by
  unfold lstE at h
  split at h
  · next h1 =>
    refine ⟨h1, ?_⟩
    unfold entE at h
    split at h
    · assumption
    · cases h
  · cases h
theorem wrdE_ok {F : Fd} {N : Int} {rows : List (List Int)} {y : List Int} (h : wrdE F N rows y = 0) : codE F N rows = 0 ∧ (y.length : Int) = N ∧ Ent F.q y := by
  unfold wrdE at h
  split at h
  · next h1 => exact ⟨h1, lstE_ok h⟩
  · next h1 => exact absurd h h1
theorem witE_ok {F : Fd} {N : Int} {rows : List (List Int)} {y : List Int} {lo hi : Int} (h : witE F N rows y lo hi = 0) : wrdE F N rows y = 0 ∧ 0 ≤ lo ∧ hi ≤ N ∧ 0 ≤ hi ∧ sizE F N rows = 0 := by
  unfold witE at h
  split at h
  · next h1 =>
    split at h
    · cases h
    · next h2 => exact ⟨h1, by omega, by omega, by omega, h⟩
  · next h1 => exact absurd h h1

set_option maxRecDepth 100000 in
set_option maxHeartbeats 8000000 in
theorem ewit_calls (F : Fd) (A : Option Addr) (n c : Nat) (rows : List (List Int)) (Ar : Option Addr) (nr cr : Nat) (N : Nat) (y : List Int) (Ay : Option Addr) (ny cy : Nat) (t : Int) (w : World) (hn : F.md.length = n) (hn2 : n ≤ 1000000000000000000) (hr : rows.length = nr) (hr2 : nr ≤ 1000000000000000000) (hrl : ∀ k, (gr rows k).length ≤ 1000000000000000000) (hy9 : y.length = ny) (hy2 : ny ≤ 1000000000000000000) (hE : witE F (N : Int) rows y 0 t = 0) [hA : Sl w A F.md] [hR : Sls w Ar rows] [hY : Sl w Ay y] :
    Calls Try.prog 48 #[.agg #[.int .i64 F.p, .int .i64 F.m, .slice A n c, .int .i64 (N : Int), .slice Ar nr cr], .slice Ay ny cy, .int .i64 t] w fun e w' => ∃ (B : Option Addr) (k : Nat), e = .returned (.tuple #[.slice B (F.wit rows N y t (sizV F (N : Int) rows).toNat).length k, .int .i64 0]) ∧ Sls w' B (F.wit rows N y t (sizV F (N : Int) rows).toNat) ∧ Ext w w' := by
  obtain ⟨hwrd, _, ht1, ht0, hok⟩ := witE_ok hE
  obtain ⟨hcod, hyl, hye⟩ := wrdE_ok hwrd
  obtain ⟨_, hv1, hv2, hv3⟩ := sizE_ok hok
  have hN64 : N ≤ 64 := by have := codE_ok hcod; omega
  have hlst : lstE F.q y (N : Int) = 0 := by rw [lstE, if_pos hyl]; exact entE_yes hye
  obtain ⟨tot, htv⟩ : ∃ tot : Nat, sizV F (N : Int) rows = tot := ⟨(sizV F (N : Int) rows).toNat, by omega⟩
  have htot : tot ≤ 65536 := by omega
  have hvi : Value.int .i64 (sizV F (N : Int) rows) = .int .i64 (tot : Int) := by rw [htv]
  have htn : (sizV F (N : Int) rows).toNat = tot := by rw [htv]; rfl
  rw [htn]
  obtain rfl : ny = N := by omega
  have hy := hy9
  have HRL := hidd hrl
  have HOK := hidd hok
  have HTV := hidd htv
  have HC := hidd hcod
  clear hrl hv1 hv2 hv3 htv htn hE hwrd hye hyl hcod
  refine callsIn_wide.1 (callsIn_of_wp_marks (F := Fence.wide) (n := 0) Try.func48 rfl trivial (wpIn_wide.2 ?_))
  simp only [Try.ntmps48, List.size_toArray, List.length_cons, List.length_nil, Nat.reduceAdd, Nat.reduceSub, Array.replicate_succ, Array.replicate_zero, List.push_toArray, List.append_toArray, List.nil_append, List.cons_append]
  go_wp2_with (first
    | (go_at_call 79; refine (received_yes F A n c rows Ar nr cr ny y Ay ny cy _ hn hn2 hr hr2 HRL.out hy (by omega) HC.out).mono ?_; rintro e w2 ⟨g2, rfl, hf2, hg2, hx2⟩; rw [hlst])
    | (go_at_call 65; refine (csize_calls F A n c rows Ar nr cr ny _ hn hn2 hr hr2 HRL.out).mono ?_; rintro e w1 ⟨rfl, hx1⟩; rw [hok, hvi])
    | (go_at_call 66; refine (walk_calls F A n c Ar nr cr ny _).mono ?_; rintro e w3 ⟨rfl, hbc3, hx3⟩))
  have hB01 : Bel w w1 := inferInstance
  have hB13 : Bel w1 w3 := ⟨((Below.refl _ w1).alloc (Nat.le_refl _) _).trans (hx3.out.mono (by simp [World.size_alloc]))⟩
  have hby : Bx w1 (w.heap.size + 1) #[.slice Ay ny cy] 22 := inferInstance
  have hbt9 : Bx w1 (w.heap.size + 1 + 1) #[.int .i64 t] 3 := inferInstance
  have hob3 : Bx w3 w1.heap.size #[.slice none 0 0] 25 := inferInstance
  have hyw1 : Sl w1 Ay y := inferInstance
  have hbc4 : Bx w3 (w1.heap.size + 1) #[.int .i64 F.p, .int .i64 F.m, .slice A n c, .int .i64 (ny : Int), .slice Ar nr cr] 27 := by
    have := hbc3
    simp only [World.size_alloc] at this
    exact this
  have hbcl := (lo_bx (h := hbc4)).out
  have hbwl := (lo_bx (h := hbt9)).out
  have hB03 : Bel w w3 := hB01.then_ hB13
  have hsz01 := hB01.out.size
  obtain ⟨N, rfl⟩ : ∃ N, N = ny := ⟨_, rfl⟩
  clear hx1 hx2 hx3 hvi hbc3 hf2 hg2
  refine walk_range (w0 := w) F A n c rows Ar nr cr N tot (w1.heap.size + 1) hn hn2 hr HOK.out HTV.out hB03 hbc4 hA hR rfl rfl (fun b => b = w1.heap.size) (fun b hb => by omega) (by omega) (fun b hb => by omega)
    (fun bt k W => Lst w1 w1.heap.size bt (w3.heap.size + 1) (F.wit rows N y t k) W) ?_ ?_ ?a1 ?hassign ?hbody ?hdone
  · intro bt k X Y row hbt h hgr hr
    exact h.by hgr hr (by omega) (by omega) (by omega) (by omega) (by omega)
  · intro bt hbt
    exact ⟨hB13, _, [], hob3, row_nil_at _ _, inn_nil, fun r e => by simp [Value.ownBlock] at e, InnAp.of_nil _, InnAp.of_nil _⟩
  case hassign =>
    intro l x y W K hK
    gi_wp2
    exact hK
  case hbody =>
    rintro l bt k W1 gx c9 hk hbt hbtl ⟨i1, v, cs, i2, i3, i4, i5, i6, i7⟩ hox hgx hne
    have hle := wit_le F rows N y t k
    have hcl : cs.length ≤ 100000 := by rw [i4.len]; omega
    have hgl := (lo_own (h := hox)).out
    refine wpIn_block ?_
    refine wpIn_seq ?_
    refine region_round_X (S := fun w' => Bel w1 w') 4 l 0 (by kernel_rfl) (by rintro ⟨_, _, h0⟩; have h1 := h0.1; cases h1) (by kernel_rfl) inferInstance (fun hHeld => ?_)
    refine wpAnyX_take (i := 0) (oi := ⟨some 44, _, _, _, _, _⟩) (v := ?_) rfl (by kernel_rfl) (by kernel_rfl) (by kernel_rfl) (by decide) (by kernel_rfl) (fun _ _ _ h => h) (Or.inl ⟨by rfl, ?_⟩) hHeld ?_
    rotate_left
    · (intro w1 hS1; first | (go_simp; done) | (go_simp; with_reducible rfl))
    try simp only [Act.put, List.setIfInBounds_toArray, List.set_cons_zero, List.set_cons_succ]
    refine wpAnyX_take (i := 1) (oi := ⟨some 45, _, _, _, _, _⟩) (v := ?_) rfl (by kernel_rfl) (by kernel_rfl) (by kernel_rfl) (by decide) (by kernel_rfl) (fun _ _ _ h => h) (Or.inl ⟨by rfl, ?_⟩) hHeld ?_
    rotate_left
    · (intro w1 hS1; first | (go_simp; done) | (go_simp; with_reducible rfl))
    try simp only [Act.put, List.setIfInBounds_toArray, List.set_cons_zero, List.set_cons_succ]
    refine wpAnyX_take (i := 3) (oi := ⟨some 47, _, _, _, _, _⟩) (v := ?_) rfl (by kernel_rfl) (by kernel_rfl) (by kernel_rfl) (by decide) (by kernel_rfl) (fun _ _ _ h => h) (Or.inl ⟨by rfl, ?_⟩) hHeld ?_
    rotate_left
    · (intro w1 hS1; first | (go_simp; done) | (go_simp; with_reducible rfl))
    try simp only [Act.put, List.setIfInBounds_toArray, List.set_cons_zero, List.set_cons_succ]
    refine wpAnyX_one (i := 2) (o := ⟨some 46, _, _, _, _, _⟩) (by kernel_rfl) (by decide) rfl (fun K hK => ?_)
    go_simp
    (go_at_call 80; refine (edist_calls (F.word rows N (k : Int)) y _ Ay N c9 N cy _ (word_len F rows N k) hy rfl (by omega)).mono ?_; rintro e w4 ⟨rfl, hx4⟩)
    clear hHeld
    refine hK.out _ _ inferInstance (fun hHeld => ?_)
    clear hK K
    try simp only [Act.put, List.setIfInBounds_toArray, List.set_cons_zero, List.set_cons_succ]
    refine wpAnyX_t (by kernel_rfl) (wpOp_step rfl (fun K hK => ?_))
    go_simp
    refine hK _ _ ?_
    clear hK K
    try simp only [Act.put, List.setIfInBounds_toArray, List.set_cons_zero, List.set_cons_succ]
    refine wpAnyX_done (by kernel_rfl) ?_ _
    have hx5 : Bel W1 w4 := ⟨undrew hx4.out⟩
    have i1' := i1
    clear i1
    by_cases he : (dist (F.word rows N (k : Int)) y : Int) ≤ t
    · have heb : decide ((dist (F.word rows N (k : Int)) y : Int) ≤ t) = true := decide_eq_true he
      have HO : Hid (F.wit rows N y t (k + 1) = F.wit rows N y t k ++ [F.word rows N (k : Int)]) := wit_yes he
      clear he
      refine wpIn_cond_true (by simp only [go_sem]; rw [← heb]; rfl) ?_
      refine region_round_0 l 0 (by rintro ⟨_, _, h0⟩; have h1 := h0.1; cases h1) (by kernel_rfl) ?_
      have i24 : Bx w4 w1.heap.size #[v] 25 := inferInstance
      have i34 : Row w4 v 22 cs := inferInstance
      have htn : TNe 25 22 := ⟨by decide⟩
      go_wp2_with (at_builtin; refine app_slice rfl (.tmp 49) (.tmp 51) rfl v cs _ _ _ w4.heap.size rfl rfl (by omega) ?_; intro v2 w5 hr5 hc5 hv5; obtain ⟨A2, n2, c2, rfl⟩ := hr5.shape)
      have hpu := Lst.push (c9 := c9) (i1'.then_ hx5) i24 i34 (inferInstance : Inn w4 cs (F.wit rows N y t k)) i5 i6 i7 (inferInstance : Own w4 gx (F.word rows N (k : Int))) (word_len F rows N k).symm hne (by omega) (by have := hx5.out.size; omega) (Nat.le_refl _) (by omega) hc5 hr5 hv5
      refine ⟨trivial, ?_, (Ext.kpt hx5.ext).trans hpu.2⟩
      rw [HO.out]
      exact hpu.1
    · have heb : decide ((dist (F.word rows N (k : Int)) y : Int) ≤ t) = false := decide_eq_false he
      have HO : Hid (F.wit rows N y t (k + 1) = F.wit rows N y t k) := wit_no he
      clear he
      refine wpIn_cond_false (by simp only [go_sem]; rw [← heb]; rfl) (wpIn_skip ?_)
      refine ⟨rfl, ?_, Ext.kpt hx5.ext⟩
      rw [HO.out]
      exact Lst.bel_ ⟨i1', v, cs, i2, i3, i4, i5, i6, i7⟩ hx5
  case hdone =>
    rintro bt D W ⟨i1, v, cs, i2, i3, i4, i5, i6, i7⟩ hbt hD hKD
    obtain ⟨B2, c2, rfl, _, hs2⟩ := i3.readss i4
    simp only [Exit.inBlock, Exit.then]
    go_at_K
    go_wp2
    refine ⟨by simp, .inl ⟨_, _, rfl, run_takeDeferred hKD, ?_⟩⟩
    have hBW : Bel w W := hB01.then_ i1
    have hKl : w.heap.size ≤ D := by omega
    refine ⟨_, results_tmp2 rfl _ _ _, B2, c2, rfl, ?_, ?_⟩
    · exact Sls.put hs2 hKD
    · exact ⟨hBW.out.os, hBW.out.tape, hBW.out.output, by rw [put_size]; exact hBW.out.size, fun b hb => (World.putObj_heap_other (by omega)).trans (hBW.out.block b hb)⟩

set_option maxRecDepth 100000 in
set_option maxHeartbeats 4000000 in
theorem ewit_err (F : Fd) (A : Option Addr) (n c : Nat) (rows : List (List Int)) (Ar : Option Addr) (nr cr : Nat) (N : Int) (y : List Int) (Ay : Option Addr) (ny cy : Nat) (t : Int) (w : World) (hn : F.md.length = n) (hn2 : n ≤ 1000000000000000000) (hr : rows.length = nr) (hr2 : nr ≤ 1000000000000000000) (hrl : ∀ k, (gr rows k).length ≤ 1000000000000000000) (hy : y.length = ny) (hy2 : ny ≤ 1000000000000000000) (hno : witE F N rows y 0 t ≠ 0) [hA : Sl w A F.md] [hR : Sls w Ar rows] [hY : Sl w Ay y] :
    Calls Try.prog 48 #[.agg #[.int .i64 F.p, .int .i64 F.m, .slice A n c, .int .i64 N, .slice Ar nr cr], .slice Ay ny cy, .int .i64 t] w fun e w' => e = .returned (.tuple #[.slice none 0 0, .int .i64 (witE F N rows y 0 t)]) ∧ Ext w w' := by
  by_cases hc : codE F N rows = 0
  · by_cases hl : lstE F.q y N = 0
    · have hw : wrdE F N rows y = 0 := by rw [wrdE, if_pos hc]; exact hl
      by_cases h1 : t < 0
      · have HE : Hid (witE F N rows y 0 t = 6) := by show _ = _; rw [witE, if_pos hw, if_pos (by omega)]
        clear hno hw
        go_enter Try.func48, Try.ntmps48
        go_wp2_with (go_at_call 79; refine (received_yes F A n c rows Ar nr cr N y Ay ny cy _ hn hn2 hr hr2 hrl hy hy2 hc).mono ?_; rintro e w2 ⟨g2, rfl, hf2, hg2, hx2⟩; rw [hl])
        go_ret2
        rw [HE.out]
        exact ⟨rfl, Bel.ext inferInstance⟩
      · by_cases h2 : N < t
        · have HE : Hid (witE F N rows y 0 t = 6) := by show _ = _; rw [witE, if_pos hw, if_pos (by omega)]
          clear hno hw
          go_enter Try.func48, Try.ntmps48
          go_wp2_with (go_at_call 79; refine (received_yes F A n c rows Ar nr cr N y Ay ny cy _ hn hn2 hr hr2 hrl hy hy2 hc).mono ?_; rintro e w2 ⟨g2, rfl, hf2, hg2, hx2⟩; rw [hl])
          go_ret2
          rw [HE.out]
          exact ⟨rfl, Bel.ext inferInstance⟩
        · have he : witE F N rows y 0 t = sizE F N rows := by rw [witE, if_pos hw, if_neg (by omega)]
          rw [he] at hno
          have hb : (sizE F N rows != 0) = true := by simp [hno]
          have HE := hidd he
          clear hno he hw
          go_enter Try.func48, Try.ntmps48
          go_wp2_with (first
            | (go_at_call 79; refine (received_yes F A n c rows Ar nr cr N y Ay ny cy _ hn hn2 hr hr2 hrl hy hy2 hc).mono ?_; rintro e w2 ⟨g2, rfl, hf2, hg2, hx2⟩; rw [hl])
            | (go_at_call 65; refine (csize_calls F A n c rows Ar nr cr N _ hn hn2 hr hr2 hrl).mono ?_; rintro e w3 ⟨rfl, hx3⟩))
          go_ret2
          rw [HE.out]
          exact ⟨rfl, Bel.ext inferInstance⟩
    · have hb : (lstE F.q y N != 0) = true := by simp [hl]
      have HE : Hid (witE F N rows y 0 t = lstE F.q y N) := by
        have hw : wrdE F N rows y = lstE F.q y N := by rw [wrdE, if_pos hc]
        show _ = _
        rw [witE, hw, if_neg hl]
      clear hno hl
      go_enter Try.func48, Try.ntmps48
      go_wp2_with (go_at_call 79; refine (received_yes F A n c rows Ar nr cr N y Ay ny cy _ hn hn2 hr hr2 hrl hy hy2 hc).mono ?_; rintro e w2 ⟨g2, rfl, hf2, hg2, hx2⟩)
      go_ret2
      rw [HE.out]
      exact ⟨rfl, Bel.ext inferInstance⟩
  · have hb : (codE F N rows != 0) = true := by simp [hc]
    have HE : Hid (witE F N rows y 0 t = codE F N rows) := by
      have hw : wrdE F N rows y = codE F N rows := by rw [wrdE, if_neg hc]
      show _ = _
      rw [witE, hw, if_neg hc]
    have HC := hidd hc
    clear hno hc
    go_enter Try.func48, Try.ntmps48
    go_wp2_with (go_at_call 79; refine (received_no F A n c rows Ar nr cr N _ _ hn hn2 hr hr2 hrl HC.out).mono ?_; rintro e w2 ⟨rfl, hx2⟩)
    go_ret2
    rw [HE.out]
    exact ⟨rfl, Bel.ext inferInstance⟩

theorem fwords_gr (F : Fd) (rows : List (List Int)) (N tot : Nat) (p : List Int → Bool) (hN : N ≤ 1000000000000000000) (k : Nat) : (gr ((F.words rows N tot).filter p) k).length ≤ 1000000000000000000 := by
  by_cases hk : k < ((F.words rows N tot).filter p).length
  · have := gr_mem hk
    simp only [List.mem_filter, Fd.words, List.mem_map] at this
    obtain ⟨⟨i, _, e⟩, _⟩ := this
    have e2 : gr ((F.words rows N tot).filter p) k = F.word rows N i := by rw [e]; rfl
    rw [e2, word_len]; exact hN
  · rw [gr_out (by omega)]; simp

set_option maxRecDepth 100000 in
set_option maxHeartbeats 4000000 in
theorem law_enumerateWithin (F : Fd) (A : Option Addr) (n c : Nat) (rows : List (List Int)) (Ar : Option Addr) (nr cr : Nat) (N : Int) (y : List Int) (Ay : Option Addr) (ny cy : Nat) (t : Int) (w : World) (hn : F.md.length = n) (hn2 : n ≤ 1000000000000000000) (hr : rows.length = nr) (hr2 : nr ≤ 1000000000000000000) (hrl : ∀ k, (gr rows k).length ≤ 1000000000000000000) (hy : y.length = ny) (hy2 : ny ≤ 1000000000000000000) [hA : Sl w A F.md] [hR : Sls w Ar rows] [hY : Sl w Ay y] :
    Calls Try.prog 11 #[.agg #[.int .i64 F.p, .int .i64 F.m, .slice A n c, .int .i64 N, .slice Ar nr cr], .slice Ay ny cy, .int .i64 t] w fun e w' => e = .returned (.bool true) ∧ Ext w w' := by
  cases hs : smallB F N rows with
  | false =>
    go_enter Try.func11, Try.ntmps11
    go_wp2_with (first
      | (go_at_call 17; refine (small_calls F A n c rows Ar nr cr N _ hn hn2 hr hr2 hrl).mono ?_; rintro e w1 ⟨rfl, hx1⟩; rw [hs])
      | (go_at_call 18; refine (alive_calls _).mono ?_; rintro e w2 ⟨rfl, hx2⟩))
    go_ret
    exact ⟨rfl, Bel.ext inferInstance⟩
  | true =>
    by_cases hE : witE F N rows y 0 t = 0
    · obtain ⟨hwrd, _, _, _, hok⟩ := witE_ok hE
      obtain ⟨k1, k2, k3, k4, k5, k6⟩ := codE_ok (sizE_ok hok).1
      obtain ⟨NN, rfl⟩ : ∃ NN : Nat, N = NN := ⟨N.toNat, by omega⟩
      have hOW := fun w [hA : Sl w A F.md] [hR : Sls w Ar rows] [hY : Sl w Ay y] => ewit_calls F A n c rows Ar nr cr NN y Ay ny cy t w hn hn2 hr hr2 hrl hy hy2 hE
      have hWI := fun w [hA : Sl w A F.md] [hR : Sls w Ar rows] [hY : Sl w Ay y] => within23_yes F A n c rows Ar nr cr NN y Ay ny cy 0 t w hn hn2 hr hr2 hrl hy hy2 hE
      have hwL : witL F NN rows y 0 t = F.wit rows NN y t (sizV F NN rows).toNat := by
        rw [witL, if_pos hE, selL, List.take_length, wrdL, if_pos hok]; rfl
      rw [hwL] at hWI
      have hgr : ∀ k, (gr (F.wit rows NN y t (sizV F NN rows).toNat) k).length ≤ 1000000000000000000 := fwords_gr F rows NN _ _ (by omega)
      have hle := wit_le F rows NN y t (sizV F NN rows).toNat
      have hv := (sizE_ok hok).2.2.1
      generalize F.wit rows NN y t (sizV F NN rows).toNat = L at *
      have hll : L.length ≤ 1000000 := by omega
      have HOW := hidd hOW
      have HWI := hidd hWI
      have HGR := hidd hgr
      clear hOW hWI hgr hE hwrd hok hwL hle hv k4 k5 k6
      go_enter Try.func11, Try.ntmps11
      go_wp2_with (first
        | (go_at_call 17; refine (small_calls F A n c rows Ar nr cr NN _ hn hn2 hr hr2 hrl).mono ?_; rintro e w1 ⟨rfl, hx1⟩; rw [hs])
        | (go_at_call 48; refine (HOW.out _).mono ?_; rintro e w2 ⟨B2, kB2, rfl, hs2, hx2⟩)
        | (go_at_call 25; refine (HWI.out _).mono ?_; rintro e w4 ⟨B4, kB4, rfl, hs4, hx4⟩)
        | (go_at_call 26; refine (sameLists_calls L L _ _ _ _ _ _ _ rfl rfl (by omega) HGR.out HGR.out).mono ?_; rintro e w5 ⟨rfl, hx5⟩; simp only [decide_true])
        | (go_at_call 18; refine (alive_calls _).mono ?_; rintro e w7 ⟨rfl, hx7⟩))
      go_ret
      exact ⟨rfl, Bel.ext inferInstance⟩
    · have hOW := fun w [hA : Sl w A F.md] [hR : Sls w Ar rows] [hY : Sl w Ay y] => ewit_err F A n c rows Ar nr cr N y Ay ny cy t w hn hn2 hr hr2 hrl hy hy2 hE
      have hWI := fun w [hA : Sl w A F.md] [hR : Sls w Ar rows] [hY : Sl w Ay y] => within23_no F A n c rows Ar nr cr N y Ay ny cy 0 t w hn hn2 hr hr2 hrl hy hy2 hE
      generalize witE F N rows y 0 t = E at *
      have HOW := hidd hOW
      have HWI := hidd hWI
      clear hOW hWI hE
      go_enter Try.func11, Try.ntmps11
      go_wp2_with (first
        | (go_at_call 17; refine (small_calls F A n c rows Ar nr cr N _ hn hn2 hr hr2 hrl).mono ?_; rintro e w1 ⟨rfl, hx1⟩; rw [hs])
        | (go_at_call 48; refine (HOW.out _).mono ?_; rintro e w2 ⟨rfl, hx2⟩)
        | (go_at_call 25; refine (HWI.out _).mono ?_; rintro e w4 ⟨rfl, hx4⟩)
        | (go_at_call 26; refine (sameLists_calls [] [] none none 0 0 0 0 _ rfl rfl (by omega) (fun k => by simp [gr]) (fun k => by simp [gr])).mono ?_; rintro e w5 ⟨rfl, hx5⟩; simp only [decide_true])
        | (go_at_call 18; refine (alive_calls _).mono ?_; rintro e w7 ⟨rfl, hx7⟩))
      go_ret
      exact ⟨rfl, Bel.ext inferInstance⟩

end Go.Proofs.Ytcigdhmecfhndaa

/- The walk of enumerate.OfWeight. -/
import Derived.Test.YtcigdhmecfhndaaWr
namespace Go.Proofs.Ytcigdhmecfhndaa
open Go.RowKit
attribute [local go_sem] cell_bx froz_bx cell_own froz_own cell_rd cell_cel ints_get ints_set cell_ownv froz_ownv eql_nil_int Oper.semAt_some
set_option linter.unusedVariables false
set_option linter.unusedSimpArgs false

theorem Row.shape {w : World} {v : Value} {e : TypeId} {cs : List Value} (h : Row w v e cs) : ∃ A n c, v = .slice A n c := by
  rcases h.out.2 with ⟨rfl, _⟩ | ⟨g, cap, cur, rfl, _⟩
  · exact ⟨_, _, _, rfl⟩
  · exact ⟨_, _, _, rfl⟩
theorem InnAp.snoc {cs : List Value} {v : Value} (h : InnAp cs v) {g n c : Nat} (hg : some g ≠ v.ownBlock) : InnAp (cs ++ [.slice (some ⟨g, 0, none⟩) n c]) v := fun k g' n' c' hk e => by
  by_cases h1 : k < cs.length
  · have : gv (cs ++ [.slice (some ⟨g, 0, none⟩) n c]) k = gv cs k := by simp [gv, List.getElem?_append_left h1]
    rw [this] at e
    exact h k g' n' c' h1 e
  · obtain rfl : k = cs.length := by simp at hk; omega
    have : gv (cs ++ [.slice (some ⟨g, 0, none⟩) n c]) cs.length = .slice (some ⟨g, 0, none⟩) n c := by simp [gv]
    rw [this] at e
    injection e with e _ _
    injection e with e
    injection e with e _ _
    rw [← e]; exact hg
theorem Inn.by {w w' : World} {cs : List Value} {xss : List (List Int)} (h : Inn w cs xss) {r : Nat} (c : w.grownBy w' (some r)) (a : InnAp cs (.slice (some ⟨r, 0, none⟩) 0 0)) : Inn w' cs xss :=
  h.chg (v := .slice (some ⟨r, 0, none⟩) 0 0) ⟨c⟩ a
/-- what a body of a round that lists words has in memory: the list, in the box ob -/
structure Lst (w : World) (ob bt lp : Nat) (xss : List (List Int)) (W : World) : Prop where
  bel : Bel w W
  ex : ∃ v cs, Bx W ob #[v] 25 ∧ Row W v 22 cs ∧ Inn W cs xss ∧ (∀ r, v.ownBlock = some r → bt < r) ∧ InnAp cs (.slice (some ⟨bt, 0, none⟩) 0 0) ∧ InnAp cs (.slice (some ⟨lp, 0, none⟩) 0 0)
theorem Lst.by {w W W' : World} {ob bt lp : Nat} {xss : List (List Int)} (h : Lst w ob bt lp xss W) {row : Option Nat} (hgr : W.grownBy W' row) (hr : ∀ r, row = some r → r = bt ∨ r = lp) (h1 : w.heap.size ≤ bt) (h2 : w.heap.size ≤ lp) (h3 : lp < bt) (h4 : ob ≠ bt) (h5 : ob ≠ lp) : Lst w ob bt lp xss W' := by
  obtain ⟨hb, v, cs, i1, i2, i3, i4, i5, i6⟩ := h
  have hne : ∀ b, b ≠ bt → b ≠ lp → some b ≠ row := fun b h1 h2 e => (hr b e.symm).elim h1 h2
  have hb' : Bel w W' := ⟨⟨hgr.os.trans hb.out.os, hgr.tape.trans hb.out.tape, hgr.output.trans hb.out.output, Nat.le_trans hb.out.size hgr.size, fun b h9 => (hgr.block b (Nat.lt_of_lt_of_le h9 hb.out.size) (hne b (by omega) (by omega))).trans (hb.out.block b h9)⟩⟩
  refine ⟨hb', v, cs, ⟨(hgr.block _ (blk_lt i1.out) (hne _ h4 h5)).trans i1.out⟩, i2.move fun g hg => hgr.block g (i2.lt hg) (hne g (by have := i4 g hg; omega) (by have := i4 g hg; omega)), ?_, i4, i5, i6⟩
  cases row with
  | none => exact i3.move fun g xs ho => ⟨ho.out.imp fun _ q => (hgr.block g (blk_lt q) (by simp)).trans q⟩
  | some r =>
    rcases hr r rfl with e | e
    · subst e; exact i3.by hgr i5
    · subst e; exact i3.by hgr i6
theorem Lst.bel_ {w W W' : World} {ob bt lp : Nat} {xss : List (List Int)} (h : Lst w ob bt lp xss W) (hb : Bel W W') : Lst w ob bt lp xss W' := by
  obtain ⟨hb0, v, cs, i1, i2, i3, i4, i5, i6⟩ := h
  exact ⟨hb0.then_ hb, v, cs, inferInstance, inferInstance, inferInstance, i4, i5, i6⟩

theorem Lst.push {w W4 w5 : World} {ob bt lp gx c9 N : Nat} {xss : List (List Int)} {x : List Int} {v v2 : Value} {cs : List Value}
    (i1 : Bel w W4) (i2 : Bx W4 ob #[v] 25) (i3 : Row W4 v 22 cs) (i4 : Inn W4 cs xss) (i5 : ∀ r, v.ownBlock = some r → bt < r) (i6 : InnAp cs (.slice (some ⟨bt, 0, none⟩) 0 0)) (i7 : InnAp cs (.slice (some ⟨lp, 0, none⟩) 0 0))
    (hox : Own W4 gx x) (hN : N = x.length) (h1 : gx ≠ bt) (h2 : gx ≠ lp) (hbtl : bt < W4.heap.size) (hob : w.heap.size ≤ ob) (hob2 : ob < bt)
    (hc5 : Chg v (W4.alloc (.cells #[.slice (some ⟨gx, 0, none⟩) N c9] 22)) w5) (hr5 : Row w5 v2 22 (cs ++ [.slice (some ⟨gx, 0, none⟩) N c9]))
    (hv5 : v2.ownBlock = v.ownBlock ∨ v2.ownBlock = some (W4.alloc (.cells #[.slice (some ⟨gx, 0, none⟩) N c9] 22)).heap.size) :
    Lst w ob bt lp (xss ++ [x]) (w5.setCell ⟨ob, 0, none⟩ v2) ∧ Kpt (bt + 1) (fun b => b = ob) W4 (w5.setCell ⟨ob, 0, none⟩ v2) := by
  have htn : TNe 25 22 := ⟨by decide⟩
  have hrA : Row (W4.alloc (.cells #[.slice (some ⟨gx, 0, none⟩) N c9] 22)) v 22 cs := inferInstance
  have hiA : Inn (W4.alloc (.cells #[.slice (some ⟨gx, 0, none⟩) N c9] 22)) (cs ++ [.slice (some ⟨gx, 0, none⟩) N c9]) (xss ++ [x]) := by
    have := i4.snoc (c := c9) hN hox
    infer_instance
  have hi5 : Inn w5 (cs ++ [.slice (some ⟨gx, 0, none⟩) N c9]) (xss ++ [x]) := hiA.grown hrA (by decide) hc5
  have hb5 : Bx w5 ob #[v] 25 := inferInstance
  have hFv : FrV w v := ⟨fun g e => by have := i5 g e; omega⟩
  have hfo : Fr w ob := ⟨hob⟩
  have hB5 : Bel w w5 := inferInstance
  have h5 : ∀ r, v2.ownBlock = some r → bt < r := fun r e => by
    rcases hv5 with h | h
    · exact i5 r (h ▸ e)
    · rw [h] at e; injection e with e; rw [← e, World.size_alloc]; omega
  have hap : ApV ob v2 := ⟨fun e => by have := h5 ob e.symm; omega⟩
  refine ⟨⟨inferInstance, v2, _, ?_, inferInstance, hi5.move fun g xs ho => ?_, h5, i6.snoc (fun e => h1 (Option.some.inj e)), i7.snoc (fun e => h2 (Option.some.inj e))⟩, ?_⟩
  · have := bx_set (k := 0) (u := v2) (h := hb5)
    simpa using this
  · have hne : g ≠ ob := fun e => by
      subst e
      obtain ⟨sp, q⟩ := ho.out
      have := hb5.out
      rw [q] at this
      injection this with this; injection this with _ ht
      exact absurd ht (by decide)
    have : Apart g ob := ⟨hne⟩
    infer_instance
  · have hk1 : Kpt (bt + 1) (fun b => b = ob) W4 (W4.alloc (.cells #[.slice (some ⟨gx, 0, none⟩) N c9] 22)) := Ext.kpt ⟨(Below.refl _ W4).alloc (Nat.le_refl _) _⟩
    exact (hk1.trans (hc5.kpt hrA fun g e => i5 g e)).trans (kpt_set _ rfl)
theorem Sl.put {W : World} {A : Option Addr} {xs : List Int} {D : Nat} {o : Obj} {ds : List Deferred} (h : Sl W A xs) (hD : W.heap[D]? = some (.deferred (some ds))) : Sl (W.putObj D o) A xs := ⟨fun ad e => ⟨fun j hj => by
  have hc := (h.rd ad e).out j hj
  rw [← hc]
  refine World.cell?_of_block (w := W) (World.putObj_heap_other fun e9 => ?_)
  rw [World.cell?, e9, hD] at hc
  cases hc⟩, h.nn⟩
theorem Sls.put {W : World} {A : Option Addr} {xss : List (List Int)} {D : Nat} {o : Obj} {ds : List Deferred} (h : Sls W A xss) (hD : W.heap[D]? = some (.deferred (some ds))) : Sls (W.putObj D o) A xss := ⟨fun ad e j hj => by
  obtain ⟨B, c, hc, hs⟩ := h.rd ad e j hj
  refine ⟨B, c, ?_, hs.put hD⟩
  rw [← hc]
  refine World.cell?_of_block (w := W) (World.putObj_heap_other fun e9 => ?_)
  rw [World.cell?, e9, hD] at hc
  exact (nomatch hc), h.nn⟩
theorem InnAp.of_nil (v : Value) : InnAp [] v := fun k g n c h => by simp at h
/-- the words of a weight among the first k -/
def Fd.ofw (F : Fd) (rows : List (List Int)) (N : Nat) (wt : Int) (k : Nat) : List (List Int) := (F.words rows N k).filter fun x => decide ((wgt x : Int) = wt)
theorem ofw_yes {F : Fd} {rows : List (List Int)} {N : Nat} {wt : Int} {k : Nat} (h : (wgt (F.word rows N (k : Int)) : Int) = wt) : F.ofw rows N wt (k + 1) = F.ofw rows N wt k ++ [F.word rows N (k : Int)] := by
  rw [Fd.ofw, words_succ, List.filter_append, List.filter_cons, decide_eq_true h]; rfl
theorem ofw_no {F : Fd} {rows : List (List Int)} {N : Nat} {wt : Int} {k : Nat} (h : ¬ (wgt (F.word rows N (k : Int)) : Int) = wt) : F.ofw rows N wt (k + 1) = F.ofw rows N wt k := by
  rw [Fd.ofw, words_succ, List.filter_append, List.filter_cons, decide_eq_false h]; simp [Fd.ofw]
theorem ofw_le (F : Fd) (rows : List (List Int)) (N : Nat) (wt : Int) (k : Nat) : (F.ofw rows N wt k).length ≤ k :=
  Nat.le_trans (List.length_filter_le _ _) (by rw [words_len]; exact Nat.le_refl _)

set_option maxRecDepth 100000 in
set_option maxHeartbeats 8000000 in
theorem ofw_calls (F : Fd) (A : Option Addr) (n c : Nat) (rows : List (List Int)) (Ar : Option Addr) (nr cr : Nat) (N : Nat) (wt : Int) (w : World) (hn : F.md.length = n) (hn2 : n ≤ 1000000000000000000) (hr : rows.length = nr) (hr2 : nr ≤ 1000000000000000000) (hrl : ∀ k, (gr rows k).length ≤ 1000000000000000000) (hok : sizE F (N : Int) rows = 0) (hw0 : 0 ≤ wt) (hw1 : wt ≤ N) [hA : Sl w A F.md] [hR : Sls w Ar rows] :
    Calls Try.prog 23 #[.agg #[.int .i64 F.p, .int .i64 F.m, .slice A n c, .int .i64 (N : Int), .slice Ar nr cr], .int .i64 wt] w fun e w' => ∃ (B : Option Addr) (k : Nat), e = .returned (.tuple #[.slice B (F.ofw rows N wt (sizV F (N : Int) rows).toNat).length k, .int .i64 0]) ∧ Sls w' B (F.ofw rows N wt (sizV F (N : Int) rows).toNat) ∧ Ext w w' := by
  obtain ⟨hcod, hv1, hv2, hv3⟩ := sizE_ok hok
  have hN64 : N ≤ 64 := by have := codE_ok hcod; omega
  obtain ⟨tot, htv⟩ : ∃ tot : Nat, sizV F (N : Int) rows = tot := ⟨(sizV F (N : Int) rows).toNat, by omega⟩
  have htot : tot ≤ 65536 := by omega
  have hvi : Value.int .i64 (sizV F (N : Int) rows) = .int .i64 (tot : Int) := by rw [htv]
  have htn : (sizV F (N : Int) rows).toNat = tot := by rw [htv]; rfl
  rw [htn]
  have HRL := hidd hrl
  have HOK := hidd hok
  have HTV := hidd htv
  clear hrl hv1 hv2 hv3 htv htn
  refine callsIn_wide.1 (callsIn_of_wp_marks (F := Fence.wide) (n := 0) Try.func23 rfl trivial (wpIn_wide.2 ?_))
  simp only [Try.ntmps23, List.size_toArray, List.length_cons, List.length_nil, Nat.reduceAdd, Nat.reduceSub, Array.replicate_succ, Array.replicate_zero, List.push_toArray, List.append_toArray, List.nil_append, List.cons_append]
  go_wp2_with (first
    | (go_at_call 71; refine (ccheck_calls F A n c rows Ar nr cr N _ hn hn2 hr hr2 HRL.out).mono ?_; rintro e w2 ⟨rfl, hx2⟩; rw [hcod])
    | (go_at_call 65; refine (csize_calls F A n c rows Ar nr cr N _ hn hn2 hr hr2 HRL.out).mono ?_; rintro e w1 ⟨rfl, hx1⟩; rw [hok, hvi])
    | (go_at_call 66; refine (walk_calls F A n c Ar nr cr N _).mono ?_; rintro e w3 ⟨rfl, hbc3, hx3⟩))
  have hB01 : Bel w w1 := inferInstance
  have hB13 : Bel w1 w3 := ⟨((Below.refl _ w1).alloc (Nat.le_refl _) _).trans (hx3.out.mono (by simp [World.size_alloc]))⟩
  have hbw : Bx w1 (w.heap.size + 1) #[.int .i64 wt] 3 := inferInstance
  have hob3 : Bx w3 w1.heap.size #[.slice none 0 0] 25 := inferInstance
  have hbc4 : Bx w3 (w1.heap.size + 1) #[.int .i64 F.p, .int .i64 F.m, .slice A n c, .int .i64 (N : Int), .slice Ar nr cr] 27 := by
    have := hbc3
    simp only [World.size_alloc] at this
    exact this
  have hbcl := (lo_bx (h := hbc4)).out
  have hbwl := (lo_bx (h := hbw)).out
  have hB03 : Bel w w3 := hB01.then_ hB13
  have hsz01 := hB01.out.size
  clear hx1 hx2 hx3 hvi hbc3
  refine walk_range (w0 := w) F A n c rows Ar nr cr N tot (w1.heap.size + 1) hn hn2 hr HOK.out HTV.out hB03 hbc4 hA hR rfl rfl (fun b => b = w1.heap.size) (fun b hb => by omega) (by omega) (fun b hb => by omega)
    (fun bt k W => Lst w1 w1.heap.size bt (w3.heap.size + 1) (F.ofw rows N wt k) W) ?_ ?_ ?a1 ?hassign ?hbody ?hdone
  · intro bt k X Y row hbt h hgr hr
    exact h.by hgr hr (by omega) (by omega) (by omega) (by omega) (by omega)
  · intro bt hbt
    exact ⟨hB13, _, [], hob3, row_nil_at _ _, inn_nil, fun r e => by simp [Value.ownBlock] at e, InnAp.of_nil _, InnAp.of_nil _⟩
  case hassign =>
    intro l x y W K hK
    gi_wp2
    exact hK
  case hbody =>
    rintro l bt k W1 gx c9 hk hbt hbtl ⟨i1, v, cs, i2, i3, i4, i5, i6, i7⟩ hox hgx hne
    have hbwr : Bx W1 (w.heap.size + 1) #[.int .i64 wt] 3 := inferInstance
    have hle := ofw_le F rows N wt k
    have hcl : cs.length ≤ 100000 := by rw [i4.len]; omega
    have hX : Near W1.heap.size W1 W1 := ⟨Below.refl _ _⟩
    have hgl := (lo_own (h := hox)).out
    refine wpIn_block ?_
    refine wpIn_seq ?_
    refine region_round_X (S := fun w' => Near W1.heap.size W1 w') 3 l 0 (by kernel_rfl) (by rintro ⟨_, _, h0⟩; have h1 := h0.1; cases h1) (by kernel_rfl) inferInstance (fun hHeld => ?_)
    refine wpAnyX_take (i := 0) (oi := ⟨some 37, _, _, _, _, _⟩) (v := ?_) rfl (by kernel_rfl) (by kernel_rfl) (by kernel_rfl) (by decide) (by kernel_rfl) (fun _ _ _ h => h) (Or.inl ⟨by rfl, ?_⟩) hHeld ?_
    rotate_left
    · (intro w1 hS1; first | (go_simp; done) | (go_simp; with_reducible rfl))
    try simp only [Act.put, List.setIfInBounds_toArray, List.set_cons_zero, List.set_cons_succ]
    refine wpAnyX_take (i := 2) (oi := ⟨some 39, _, _, _, _, _⟩) (v := ?_) rfl (by kernel_rfl) (by kernel_rfl) (by kernel_rfl) (by decide) (by kernel_rfl) (fun _ _ _ h => h) (Or.inl ⟨by rfl, ?_⟩) hHeld ?_
    rotate_left
    · (intro w1 hS1; first | (go_simp; done) | (go_simp; with_reducible rfl))
    try simp only [Act.put, List.setIfInBounds_toArray, List.set_cons_zero, List.set_cons_succ]
    refine wpAnyX_one (i := 1) (o := ⟨some 38, _, _, _, _, _⟩) (by kernel_rfl) (by decide) rfl (fun K hK => ?_)
    go_simp
    (go_at_call 67; refine (weight_calls (F.word rows N (k : Int)) _ N c9 _ (word_len F rows N k) (by omega)).mono ?_; rintro e w4 ⟨rfl, hx4⟩)
    clear hHeld
    refine hK.out _ _ inferInstance (fun hHeld => ?_)
    clear hK K
    try simp only [Act.put, List.setIfInBounds_toArray, List.set_cons_zero, List.set_cons_succ]
    refine wpAnyX_t (by kernel_rfl) (wpOp_step rfl (fun K hK => ?_))
    go_simp
    refine hK _ _ ?_
    clear hK K
    try simp only [Act.put, List.setIfInBounds_toArray, List.set_cons_zero, List.set_cons_succ]
    refine wpAnyX_done (by kernel_rfl) ?_ _
    have hx5 : Bel W1 w4 := ⟨undrew hx4.out⟩
    by_cases he : (wgt (F.word rows N (k : Int)) : Int) = wt
    · have heb : ((wgt (F.word rows N (k : Int)) : Int) == wt) = true := by simp [he]
      have HO : Hid (F.ofw rows N wt (k + 1) = F.ofw rows N wt k ++ [F.word rows N (k : Int)]) := ofw_yes he
      clear he
      refine wpIn_cond_true (by simp only [go_sem]; rw [← heb]; rfl) ?_
      refine region_round_0 l 0 (by rintro ⟨_, _, h0⟩; have h1 := h0.1; cases h1) (by kernel_rfl) ?_
      have i24 : Bx w4 w1.heap.size #[v] 25 := inferInstance
      have i34 : Row w4 v 22 cs := inferInstance
      have htn : TNe 25 22 := ⟨by decide⟩
      go_wp2_with (at_builtin; refine app_slice rfl (.tmp 41) (.tmp 43) rfl v cs _ _ _ w4.heap.size rfl rfl (by omega) ?_; intro v2 w5 hr5 hc5 hv5; obtain ⟨A2, n2, c2, rfl⟩ := hr5.shape)
      have hpu := Lst.push (c9 := c9) (i1.then_ hx5) i24 i34 (inferInstance : Inn w4 cs (F.ofw rows N wt k)) i5 i6 i7 (inferInstance : Own w4 gx (F.word rows N (k : Int))) (word_len F rows N k).symm hne (by omega) (by have := hx5.out.size; omega) (Nat.le_refl _) (by omega) hc5 hr5 hv5
      refine ⟨trivial, ?_, (Ext.kpt hx5.ext).trans hpu.2⟩
      rw [HO.out]
      exact hpu.1
    · have heb : ((wgt (F.word rows N (k : Int)) : Int) == wt) = false := by simp [he]
      have HO : Hid (F.ofw rows N wt (k + 1) = F.ofw rows N wt k) := ofw_no he
      clear he
      refine wpIn_cond_false (by simp only [go_sem]; rw [← heb]; rfl) (wpIn_skip ?_)
      refine ⟨rfl, ?_, Ext.kpt hx5.ext⟩
      rw [HO.out]
      exact Lst.bel_ ⟨i1, v, cs, i2, i3, i4, i5, i6, i7⟩ hx5
  case hdone =>
    rintro bt D W ⟨i1, v, cs, i2, i3, i4, i5, i6, i7⟩ hbt hD hKD
    obtain ⟨B2, c2, rfl, _, hs2⟩ := i3.readss i4
    simp only [Exit.inBlock, Exit.then]
    go_at_K
    go_wp2
    refine ⟨by simp, .inl ⟨_, _, rfl, run_takeDeferred hKD, ?_⟩⟩
    have hBW : Bel w W := hB01.then_ i1
    have hKl : w.heap.size ≤ D := by omega
    refine ⟨_, results_tmp2 rfl _ _ _, B2, c2, rfl, ?_, ?_⟩
    · exact Sls.put hs2 hKD
    · exact ⟨hBW.out.os, hBW.out.tape, hBW.out.output, by rw [put_size]; exact hBW.out.size, fun b hb => (World.putObj_heap_other (by omega)).trans (hBW.out.block b hb)⟩

end Go.Proofs.Ytcigdhmecfhndaa

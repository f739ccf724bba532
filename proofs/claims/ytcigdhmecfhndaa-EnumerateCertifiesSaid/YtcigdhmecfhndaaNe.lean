/- The walks of enumerate.Nearest and Lightest. -/
import Derived.Test.YtcigdhmecfhndaaLwi
namespace Go.Proofs.Ytcigdhmecfhndaa
open Go.RowKit
attribute [local go_sem] cell_bx froz_bx cell_own froz_own cell_rd cell_cel ints_get ints_set cell_ownv froz_ownv eql_nil_int Oper.semAt_some
set_option linter.unusedVariables false
set_option linter.unusedSimpArgs false

/-- the least value of f among the first k words (from the second on, if z), and the first word that has it -/
def Fd.bst (F : Fd) (rows : List (List Int)) (N : Nat) (f : List Int → Nat) (z : Bool) : Nat → Int × List Int
  | 0 => ((N : Int) + 1, [])
  | k + 1 => if (z = true → 0 < k) ∧ (f (F.word rows N (k : Int)) : Int) < (F.bst rows N f z k).1 then ((f (F.word rows N (k : Int)) : Int), F.word rows N (k : Int)) else F.bst rows N f z k
theorem bst_rng (F : Fd) (rows : List (List Int)) (N : Nat) (f : List Int → Nat) (z : Bool) : ∀ k, 0 ≤ (F.bst rows N f z k).1 ∧ (F.bst rows N f z k).1 ≤ (N : Int) + 1
  | 0 => ⟨by simp only [Fd.bst]; omega, by simp only [Fd.bst]; omega⟩
  | k + 1 => by
    have ih := bst_rng F rows N f z k
    rw [Fd.bst]
    split
    · next h => exact ⟨by simp only; omega, by simp only; omega⟩
    · exact ih
/-- what a body of a round that keeps the best word has in memory -/
structure Bst (w : World) (bb wb bt lp : Nat) (st : Int × List Int) (W : World) : Prop where
  bel : Bel w W
  b : Bx W bb #[.int .i64 st.1] 3
  x : ∃ A c, Bx W wb #[.slice A st.2.length c] 22 ∧ ((A = none ∧ st.2 = []) ∨ ∃ g, A = some ⟨g, 0, none⟩ ∧ Own W g st.2 ∧ g ≠ bt ∧ lp < g)
theorem Bst.by {w W W' : World} {bb wb bt lp : Nat} {st : Int × List Int} (h : Bst w bb wb bt lp st W) {row : Option Nat} (hgr : W.grownBy W' row) (hr : ∀ r, row = some r → r = bt ∨ r = lp) (h1 : w.heap.size ≤ bt) (h2 : w.heap.size ≤ lp) (h3 : lp < bt) (h4 : bb < lp) (h5 : wb < lp) : Bst w bb wb bt lp st W' := by
  obtain ⟨hb, i2, A, c, i3, i4⟩ := h
  have hne : ∀ b, b ≠ bt → b ≠ lp → some b ≠ row := fun b h1 h2 e => (hr b e.symm).elim h1 h2
  have hb' : Bel w W' := ⟨⟨hgr.os.trans hb.out.os, hgr.tape.trans hb.out.tape, hgr.output.trans hb.out.output, Nat.le_trans hb.out.size hgr.size, fun b h9 => (hgr.block b (Nat.lt_of_lt_of_le h9 hb.out.size) (hne b (by omega) (by omega))).trans (hb.out.block b h9)⟩⟩
  refine ⟨hb', ⟨(hgr.block _ (blk_lt i2.out) (hne _ (by omega) (by omega))).trans i2.out⟩, A, c, ⟨(hgr.block _ (blk_lt i3.out) (hne _ (by omega) (by omega))).trans i3.out⟩, ?_⟩
  rcases i4 with i4 | ⟨g, e, ho, hg1, hg2⟩
  · exact .inl i4
  · exact .inr ⟨g, e, ⟨ho.out.imp fun _ q => (hgr.block g (blk_lt q) (hne _ hg1 (by omega))).trans q⟩, hg1, hg2⟩
theorem Bst.bel_ {w W W' : World} {bb wb bt lp : Nat} {st : Int × List Int} (h : Bst w bb wb bt lp st W) (hb : Bel W W') : Bst w bb wb bt lp st W' := by
  obtain ⟨hb0, i2, A, c, i3, i4⟩ := h
  refine ⟨hb0.then_ hb, inferInstance, A, c, inferInstance, ?_⟩
  rcases i4 with i4 | ⟨g, e, ho, hg1, hg2⟩
  · exact .inl i4
  · exact .inr ⟨g, e, inferInstance, hg1, hg2⟩
theorem Bst.put {w W : World} {bb wb bt lp g c : Nat} {st : Int × List Int} {d : Int} {x : List Int} {n : Nat} (h : Bst w bb wb bt lp st W) (ho : Own W g x) (hn : n = x.length) (hg : g ≠ bt) (hg2 : lp < g) (h0 : w.heap.size ≤ bb) (h1 : w.heap.size ≤ wb) (hbw : bb ≠ wb) (h4 : bb < lp) (h5 : wb < lp) :
    Bst w bb wb bt lp (d, x) ((W.setCell ⟨bb, 0, none⟩ (.int .i64 d)).setCell ⟨wb, 0, none⟩ (.slice (some ⟨g, 0, none⟩) n c)) ∧ ∀ s, Kpt s (fun b => b = bb ∨ b = wb) W ((W.setCell ⟨bb, 0, none⟩ (.int .i64 d)).setCell ⟨wb, 0, none⟩ (.slice (some ⟨g, 0, none⟩) n c)) := by
  obtain ⟨hb0, i2, A, c', i3, i4⟩ := h
  have f1 : Fr w bb := ⟨h0⟩
  have f2 : Fr w wb := ⟨h1⟩
  have a1 : Apart bb wb := ⟨hbw⟩
  have a2 : Apart wb bb := ⟨fun e => hbw e.symm⟩
  have a3 : Apart g bb := ⟨by omega⟩
  have a4 : Apart g wb := ⟨by omega⟩
  subst hn
  refine ⟨⟨inferInstance, ?_, _, c, ?_, .inr ⟨g, rfl, inferInstance, hg, hg2⟩⟩, fun s => (kpt_set _ (.inl rfl)).trans (kpt_set _ (.inr rfl))⟩
  · have h9 : Bx (W.setCell ⟨bb, 0, none⟩ (.int .i64 d)) bb #[.int .i64 d] 3 := by
      have := bx_set (k := 0) (u := .int .i64 d) (h := i2)
      simpa using this
    infer_instance
  · have h8 : Bx (W.setCell ⟨bb, 0, none⟩ (.int .i64 d)) wb #[.slice A st.2.length c'] 22 := inferInstance
    have := bx_set (k := 0) (u := .slice (some ⟨g, 0, none⟩) x.length c) (h := h8)
    simpa using this

set_option maxRecDepth 100000 in
set_option maxHeartbeats 8000000 in
theorem enearest_calls (F : Fd) (A : Option Addr) (n c : Nat) (rows : List (List Int)) (Ar : Option Addr) (nr cr : Nat) (N : Nat) (y : List Int) (Ay : Option Addr) (ny cy : Nat) (w : World) (hn : F.md.length = n) (hn2 : n ≤ 1000000000000000000) (hr : rows.length = nr) (hr2 : nr ≤ 1000000000000000000) (hrl : ∀ k, (gr rows k).length ≤ 1000000000000000000) (hy9 : y.length = ny) (hy2 : ny ≤ 1000000000000000000) (hE : nearE F (N : Int) rows y = 0) [hA : Sl w A F.md] [hR : Sls w Ar rows] [hY : Sl w Ay y] :
    Calls Try.prog 32 #[.agg #[.int .i64 F.p, .int .i64 F.m, .slice A n c, .int .i64 (N : Int), .slice Ar nr cr], .slice Ay ny cy] w fun e w' => ∃ (B : Option Addr) (k : Nat), e = .returned (.tuple #[.slice B (F.bst rows N (fun x => dist x y) false (sizV F (N : Int) rows).toNat).2.length k, .int .i64 (F.bst rows N (fun x => dist x y) false (sizV F (N : Int) rows).toNat).1, .int .i64 0]) ∧ Sl w' B (F.bst rows N (fun x => dist x y) false (sizV F (N : Int) rows).toNat).2 ∧ Ext w w' := by
  have hwrd : wrdE F (N : Int) rows y = 0 := by
    unfold nearE at hE
    split at hE
    · assumption
    · next h => exact absurd hE h
  have hok : sizE F (N : Int) rows = 0 := by rw [nearE, if_pos hwrd] at hE; exact hE
  obtain ⟨hcod, hyl, hye⟩ := wrdE_ok hwrd
  obtain ⟨_, hv1, hv2, hv3⟩ := sizE_ok hok
  have hN64 : N ≤ 64 := by have := codE_ok hcod; omega
  have hlst : lstE F.q y (N : Int) = 0 := by rw [lstE, if_pos hyl]; exact entE_yes hye
  obtain ⟨tot, htv⟩ : ∃ tot : Nat, sizV F (N : Int) rows = tot := ⟨(sizV F (N : Int) rows).toNat, by omega⟩
  have htot : tot ≤ 65536 := by omega
  have hvi : Value.int .i64 (sizV F (N : Int) rows) = .int .i64 (tot : Int) := by rw [htv]
  have htn : (sizV F (N : Int) rows).toNat = tot := by rw [htv]; rfl
  rw [htn]
  obtain rfl : ny = N := by omega
  have hy := hy9
  have HRL := hidd hrl
  have HOK := hidd hok
  have HTV := hidd htv
  have HC := hidd hcod
  clear hrl hv1 hv2 hv3 htv htn hE hwrd hye hyl hcod
  refine callsIn_wide.1 (callsIn_of_wp_marks (F := Fence.wide) (n := 0) Try.func32 rfl trivial (wpIn_wide.2 ?_))
  simp only [Try.ntmps32, List.size_toArray, List.length_cons, List.length_nil, Nat.reduceAdd, Nat.reduceSub, Array.replicate_succ, Array.replicate_zero, List.push_toArray, List.append_toArray, List.nil_append, List.cons_append]
  go_wp2_with (first
    | (go_at_call 79; refine (received_yes F A n c rows Ar nr cr ny y Ay ny cy _ hn hn2 hr hr2 HRL.out hy (by omega) HC.out).mono ?_; rintro e w2 ⟨g2, rfl, hf2, hg2, hx2⟩; rw [hlst])
    | (go_at_call 65; refine (csize_calls F A n c rows Ar nr cr ny _ hn hn2 hr hr2 HRL.out).mono ?_; rintro e w1 ⟨rfl, hx1⟩; rw [hok, hvi])
    | (go_at_call 66; refine (walk_calls F A n c Ar nr cr ny _).mono ?_; rintro e w3 ⟨rfl, hbc3, hx3⟩))
  have hB01 : Bel w w1 := inferInstance
  have hB13 : Bel w1 w3 := ⟨(((Below.refl _ w1).alloc (Nat.le_refl _) _).alloc (by simp [World.size_alloc]) _).trans (hx3.out.mono (by simp only [World.size_alloc]; omega))⟩
  have hby : Bx w1 (w.heap.size + 1) #[.slice Ay ny cy] 22 := inferInstance
  have hyw1 : Sl w1 Ay y := inferInstance
  have hbb3 : Bx w3 w1.heap.size #[.int .i64 ((ny : Int) + 1)] 3 := inferInstance
  have hwb3 : Bx w3 (w1.heap.size + 1) #[.slice none 0 0] 22 := inferInstance
  have hbc4 : Bx w3 (w1.heap.size + 1 + 1) #[.int .i64 F.p, .int .i64 F.m, .slice A n c, .int .i64 (ny : Int), .slice Ar nr cr] 27 := by
    have := hbc3
    simp only [World.size_alloc] at this
    exact this
  have hbcl := (lo_bx (h := hbc4)).out
  have hbwl := (lo_bx (h := hby)).out
  have hB03 : Bel w w3 := hB01.then_ hB13
  have hsz01 := hB01.out.size
  obtain ⟨N, rfl⟩ : ∃ N, N = ny := ⟨_, rfl⟩
  clear hx1 hx2 hx3 hvi hbc3 hf2 hg2
  refine walk_range (w0 := w) F A n c rows Ar nr cr N tot (w1.heap.size + 1 + 1) hn hn2 hr HOK.out HTV.out hB03 hbc4 hA hR rfl rfl (fun b => b = w1.heap.size ∨ b = w1.heap.size + 1) (fun b hb => by omega) (by omega) (fun b hb => by omega)
    (fun bt k W => Bst w1 w1.heap.size (w1.heap.size + 1) bt (w3.heap.size + 1) (F.bst rows N (fun x => dist x y) false k) W) ?_ ?_ ?a1 ?hassign ?hbody ?hdone
  · intro bt k X Y row hbt h hgr hr
    exact h.by hgr hr (by omega) (by omega) (by omega) (by omega) (by omega)
  · intro bt hbt
    exact ⟨hB13, hbb3, none, 0, hwb3, .inl ⟨rfl, rfl⟩⟩
  case hassign =>
    intro l x y W K hK
    gi_wp2
    exact hK
  case hbody =>
    intro l bt k W1 gx c9 hk hbt hbtl hI hox hgx hne
    have hI9 := hI
    obtain ⟨i1, i2, A2, c2, i3, i4⟩ := hI
    have hgl := (lo_own (h := hox)).out
    have hbr := bst_rng F rows N (fun x => dist x y) false k
    have hdl : dist (F.word rows N (k : Int)) y ≤ N := by have := dist_le (F.word rows N (k : Int)) y; omega
    have HST : ∀ j, Hid (F.bst rows N (fun x => dist x y) false (j + 1) = if (dist (F.word rows N (j : Int)) y : Int) < (F.bst rows N (fun x => dist x y) false j).1 then ((dist (F.word rows N (j : Int)) y : Int), F.word rows N (j : Int)) else F.bst rows N (fun x => dist x y) false j) := fun j => by
      show _ = _
      rw [Fd.bst]
      simp
    have HS := HST k
    clear HST
    generalize F.bst rows N (fun x => dist x y) false k = st at *
    generalize F.bst rows N (fun x => dist x y) false (k + 1) = st2 at *
    have hw1r : W1.heap.size ≤ W1.heap.size := Nat.le_refl _
    by_cases he : (dist (F.word rows N (k : Int)) y : Int) < st.1
    · have HS2 : Hid (st2 = ((dist (F.word rows N (k : Int)) y : Int), F.word rows N (k : Int))) := by show _ = _; rw [HS.out, if_pos he]
      clear HS
      gi_wp2_with (refine ⟨trivial, rfl, ?_⟩; gi_at_call 80; refine (CallsIn.inRound l (callsIn_wide.2 (edist_calls (F.word rows N (k : Int)) y _ Ay N c9 N cy _ (word_len F rows N k) hy rfl (by omega)))).mono ?_; rintro e w4 ⟨rfl, hx4⟩)
      have hx5 : Bel W1 w4 := ⟨hx4.out⟩
      have hpu := (hI9.bel_ hx5).put (c := c9) (d := (dist (F.word rows N (k : Int)) y : Int)) (inferInstance : Own w4 gx (F.word rows N (k : Int))) (word_len F rows N k).symm hne (by omega) (Nat.le_refl _) (by omega) (by omega) (by omega) (by omega)
      refine ⟨trivial, ?_, (Ext.kpt hx5.ext).trans (hpu.2 _)⟩
      rw [HS2.out]
      exact hpu.1
    · have HS2 : Hid (st2 = st) := by show _ = _; rw [HS.out, if_neg he]
      clear HS
      gi_wp2_with (refine ⟨trivial, rfl, ?_⟩; gi_at_call 80; refine (CallsIn.inRound l (callsIn_wide.2 (edist_calls (F.word rows N (k : Int)) y _ Ay N c9 N cy _ (word_len F rows N k) hy rfl (by omega)))).mono ?_; rintro e w4 ⟨rfl, hx4⟩)
      have hx5 : Bel W1 w4 := ⟨hx4.out⟩
      rw [HS2.out]
      exact ⟨hI9.bel_ hx5, Ext.kpt hx5.ext⟩
  case hdone =>
    rintro bt D W ⟨i1, i2, A2, c2, i3, i4⟩ hbt hD hKD
    simp only [Exit.inBlock, Exit.then]
    go_at_K
    go_wp2
    go_quiet (fail)
    go_wp2
    have hBW : Bel w W := hB01.then_ i1
    have hBW2 : Bel w (W.drewN nq) := inferInstance
    have hKl : w.heap.size ≤ D := by omega
    have hs2 : Sl (W.drewN nq) A2 (F.bst rows N (fun x => dist x y) false tot).2 := by
      rcases i4 with ⟨rfl, e⟩ | ⟨g, rfl, ho, _, _⟩
      · rw [e]; infer_instance
      · infer_instance
    have hKD2 : (W.drewN nq).heap[D]? = some (.deferred (some [])) := hKD
    refine ⟨by simp, .inl ⟨_, _, rfl, run_takeDeferred hKD2, ?_⟩⟩
    refine ⟨_, results_tmp3 rfl _ _ _, A2, c2, rfl, ?_, ?_⟩
    · exact hs2.put hKD2
    · exact ⟨hBW2.out.os, hBW2.out.tape, hBW2.out.output, by rw [put_size]; exact hBW2.out.size, fun b hb => (World.putObj_heap_other (by omega)).trans (hBW2.out.block b hb)⟩

set_option maxRecDepth 100000 in
set_option maxHeartbeats 8000000 in
theorem elight_calls (F : Fd) (A : Option Addr) (n c : Nat) (rows : List (List Int)) (Ar : Option Addr) (nr cr : Nat) (N : Nat) (w : World) (hn : F.md.length = n) (hn2 : n ≤ 1000000000000000000) (hr : rows.length = nr) (hr2 : nr ≤ 1000000000000000000) (hrl : ∀ k, (gr rows k).length ≤ 1000000000000000000) (hok : sizE F (N : Int) rows = 0) (hnr : 0 < nr) [hA : Sl w A F.md] [hR : Sls w Ar rows] :
    Calls Try.prog 27 #[.agg #[.int .i64 F.p, .int .i64 F.m, .slice A n c, .int .i64 (N : Int), .slice Ar nr cr]] w fun e w' => ∃ (B : Option Addr) (k : Nat), e = .returned (.tuple #[.int .i64 (F.bst rows N wgt true (sizV F (N : Int) rows).toNat).1, .slice B (F.bst rows N wgt true (sizV F (N : Int) rows).toNat).2.length k, .int .i64 0]) ∧ Sl w' B (F.bst rows N wgt true (sizV F (N : Int) rows).toNat).2 ∧ Ext w w' := by
  obtain ⟨hcod, hv1, hv2, hv3⟩ := sizE_ok hok
  have hN64 : N ≤ 64 := by have := codE_ok hcod; omega
  obtain ⟨tot, htv⟩ : ∃ tot : Nat, sizV F (N : Int) rows = tot := ⟨(sizV F (N : Int) rows).toNat, by omega⟩
  have htot : tot ≤ 65536 := by omega
  have hvi : Value.int .i64 (sizV F (N : Int) rows) = .int .i64 (tot : Int) := by rw [htv]
  have htn : (sizV F (N : Int) rows).toNat = tot := by rw [htv]; rfl
  rw [htn]
  obtain ⟨ny, rfl⟩ : ∃ ny, ny = N := ⟨_, rfl⟩
  have HRL := hidd hrl
  have HOK := hidd hok
  have HTV := hidd htv
  have HC := hidd hcod
  have hnb : ((nr : Int) == 0) = false := by rw [beq_eq_false_iff_ne]; omega
  clear hrl hv1 hv2 hv3 htv htn
  refine callsIn_wide.1 (callsIn_of_wp_marks (F := Fence.wide) (n := 0) Try.func27 rfl trivial (wpIn_wide.2 ?_))
  simp only [Try.ntmps27, List.size_toArray, List.length_cons, List.length_nil, Nat.reduceAdd, Nat.reduceSub, Array.replicate_succ, Array.replicate_zero, List.push_toArray, List.append_toArray, List.nil_append, List.cons_append]
  go_wp2_with (first
    | (go_at_call 71; refine (ccheck_calls F A n c rows Ar nr cr ny _ hn hn2 hr hr2 HRL.out).mono ?_; rintro e w2 ⟨rfl, hx2⟩; rw [hcod])
    | (go_at_call 65; refine (csize_calls F A n c rows Ar nr cr ny _ hn hn2 hr hr2 HRL.out).mono ?_; rintro e w1 ⟨rfl, hx1⟩; rw [hok, hvi])
    | (go_at_call 66; refine (walk_calls F A n c Ar nr cr ny _).mono ?_; rintro e w3 ⟨rfl, hbc3, hx3⟩))
  have hB01 : Bel w w1 := inferInstance
  have hB13 : Bel w1 w3 := ⟨(((Below.refl _ w1).alloc (Nat.le_refl _) _).alloc (by simp [World.size_alloc]) _).trans (hx3.out.mono (by simp only [World.size_alloc]; omega))⟩
  have hbb3 : Bx w3 w1.heap.size #[.int .i64 ((ny : Int) + 1)] 3 := inferInstance
  have hwb3 : Bx w3 (w1.heap.size + 1) #[.slice none 0 0] 22 := inferInstance
  have hbc4 : Bx w3 (w1.heap.size + 1 + 1) #[.int .i64 F.p, .int .i64 F.m, .slice A n c, .int .i64 (ny : Int), .slice Ar nr cr] 27 := by
    have := hbc3
    simp only [World.size_alloc] at this
    exact this
  have hbcl := (lo_bx (h := hbc4)).out
  have hB03 : Bel w w3 := hB01.then_ hB13
  have hsz01 := hB01.out.size
  obtain ⟨N, rfl⟩ : ∃ N, N = ny := ⟨_, rfl⟩
  clear hx1 hx2 hx3 hvi hbc3
  refine walk_range (w0 := w) F A n c rows Ar nr cr N tot (w1.heap.size + 1 + 1) hn hn2 hr HOK.out HTV.out hB03 hbc4 hA hR rfl rfl (fun b => b = w1.heap.size ∨ b = w1.heap.size + 1) (fun b hb => by omega) (by omega) (fun b hb => by omega)
    (fun bt k W => Bst w1 w1.heap.size (w1.heap.size + 1) bt (w3.heap.size + 1) (F.bst rows N wgt true k) W) ?_ ?_ ?a1 ?hassign ?hbody ?hdone
  · intro bt k X Y row hbt h hgr hr
    exact h.by hgr hr (by omega) (by omega) (by omega) (by omega) (by omega)
  · intro bt hbt
    exact ⟨hB13, hbb3, none, 0, hwb3, .inl ⟨rfl, rfl⟩⟩
  case hassign =>
    intro l x y W K hK
    gi_wp2
    exact hK
  case hbody =>
    intro l bt k W1 gx c9 hk hbt hbtl hI hox hgx hne
    have hI9 := hI
    obtain ⟨i1, i2, A2, c2, i3, i4⟩ := hI
    have hgl := (lo_own (h := hox)).out
    have hbr := bst_rng F rows N wgt true k
    have hdl : wgt (F.word rows N (k : Int)) ≤ N := wgt_word_le F rows N (k : Int)
    have HST : ∀ j, Hid (F.bst rows N wgt true (j + 1) = if 0 < j ∧ (wgt (F.word rows N (j : Int)) : Int) < (F.bst rows N wgt true j).1 then ((wgt (F.word rows N (j : Int)) : Int), F.word rows N (j : Int)) else F.bst rows N wgt true j) := fun j => by
      show _ = _
      rw [Fd.bst]
      simp
    have HS := HST k
    clear HST
    generalize F.bst rows N wgt true k = st at *
    generalize F.bst rows N wgt true (k + 1) = st2 at *
    have hw1r : W1.heap.size ≤ W1.heap.size := Nat.le_refl _
    by_cases he : 0 < k ∧ (wgt (F.word rows N (k : Int)) : Int) < st.1
    · have HS2 : Hid (st2 = ((wgt (F.word rows N (k : Int)) : Int), F.word rows N (k : Int))) := by show _ = _; rw [HS.out, if_pos he]
      obtain ⟨he1, he2⟩ := he
      have he3 : (0 : Int) < k := by omega
      clear HS
      gi_wp2_with (refine ⟨trivial, rfl, ?_⟩; gi_at_call 67; refine (CallsIn.inRound l (callsIn_wide.2 (weight_calls (F.word rows N (k : Int)) _ N c9 _ (word_len F rows N k) (by omega)))).mono ?_; rintro e w4 ⟨rfl, hx4⟩)
      have hx5 : Bel W1 w4 := ⟨hx4.out⟩
      have hpu := (hI9.bel_ hx5).put (c := c9) (d := (wgt (F.word rows N (k : Int)) : Int)) (inferInstance : Own w4 gx (F.word rows N (k : Int))) (word_len F rows N k).symm hne (by omega) (Nat.le_refl _) (by omega) (by omega) (by omega) (by omega)
      refine ⟨trivial, ?_, (Ext.kpt hx5.ext).trans (hpu.2 _)⟩
      rw [HS2.out]
      exact hpu.1
    · have HS2 : Hid (st2 = st) := by show _ = _; rw [HS.out, if_neg he]
      have hd9 : (decide ((0 : Int) < k) && decide ((wgt (F.word rows N (k : Int)) : Int) < st.1)) = false := by
        rw [Bool.and_eq_false_iff]
        by_cases h0 : 0 < k
        · right; exact decide_eq_false fun h => he ⟨h0, h⟩
        · left; exact decide_eq_false (by omega)
      clear HS
      by_cases h0 : (0 : Int) < k
      · have h1 : ¬ (wgt (F.word rows N (k : Int)) : Int) < st.1 := fun h => he ⟨by omega, h⟩
        clear he
        gi_wp2_with (refine ⟨trivial, rfl, ?_⟩; gi_at_call 67; refine (CallsIn.inRound l (callsIn_wide.2 (weight_calls (F.word rows N (k : Int)) _ N c9 _ (word_len F rows N k) (by omega)))).mono ?_; rintro e w4 ⟨rfl, hx4⟩)
        have hx5 : Bel W1 w4 := ⟨hx4.out⟩
        rw [HS2.out]
        first | exact ⟨hI9.bel_ hx5, Ext.kpt hx5.ext⟩ | exact ⟨trivial, hI9.bel_ hx5, Ext.kpt hx5.ext⟩
      · clear he
        gi_wp2_with (refine ⟨trivial, rfl, ?_⟩; gi_at_call 67; refine (CallsIn.inRound l (callsIn_wide.2 (weight_calls (F.word rows N (k : Int)) _ N c9 _ (word_len F rows N k) (by omega)))).mono ?_; rintro e w4 ⟨rfl, hx4⟩)
        have hx5 : Bel W1 w4 := ⟨hx4.out⟩
        rw [HS2.out]
        first | exact ⟨hI9.bel_ hx5, Ext.kpt hx5.ext⟩ | exact ⟨trivial, hI9.bel_ hx5, Ext.kpt hx5.ext⟩
  case hdone =>
    rintro bt D W ⟨i1, i2, A2, c2, i3, i4⟩ hbt hD hKD
    simp only [Exit.inBlock, Exit.then]
    go_at_K
    go_wp2
    go_quiet (fail)
    go_wp2
    have hBW : Bel w W := hB01.then_ i1
    have hBW2 : Bel w (W.drewN nq) := inferInstance
    have hKl : w.heap.size ≤ D := by omega
    have hs2 : Sl (W.drewN nq) A2 (F.bst rows N wgt true tot).2 := by
      rcases i4 with ⟨rfl, e⟩ | ⟨g, rfl, ho, _, _⟩
      · rw [e]; infer_instance
      · infer_instance
    have hKD2 : (W.drewN nq).heap[D]? = some (.deferred (some [])) := hKD
    refine ⟨by simp, .inl ⟨_, _, rfl, run_takeDeferred hKD2, ?_⟩⟩
    refine ⟨_, results_tmp3 rfl _ _ _, A2, c2, rfl, ?_, ?_⟩
    · exact hs2.put hKD2
    · exact ⟨hBW2.out.os, hBW2.out.tape, hBW2.out.output, by rw [put_size]; exact hBW2.out.size, fun b hb => (World.putObj_heap_other (by omega)).trans (hBW2.out.block b hb)⟩

set_option maxRecDepth 100000 in
set_option maxHeartbeats 4000000 in
theorem enearest_err (F : Fd) (A : Option Addr) (n c : Nat) (rows : List (List Int)) (Ar : Option Addr) (nr cr : Nat) (N : Int) (y : List Int) (Ay : Option Addr) (ny cy : Nat) (w : World) (hn : F.md.length = n) (hn2 : n ≤ 1000000000000000000) (hr : rows.length = nr) (hr2 : nr ≤ 1000000000000000000) (hrl : ∀ k, (gr rows k).length ≤ 1000000000000000000) (hy : y.length = ny) (hy2 : ny ≤ 1000000000000000000) (hno : nearE F N rows y ≠ 0) [hA : Sl w A F.md] [hR : Sls w Ar rows] [hY : Sl w Ay y] :
    Calls Try.prog 32 #[.agg #[.int .i64 F.p, .int .i64 F.m, .slice A n c, .int .i64 N, .slice Ar nr cr], .slice Ay ny cy] w fun e w' => e = .returned (.tuple #[.slice none 0 0, .int .i64 0, .int .i64 (nearE F N rows y)]) ∧ Ext w w' := by
  by_cases hc : codE F N rows = 0
  · by_cases hl : lstE F.q y N = 0
    · have hw : wrdE F N rows y = 0 := by rw [wrdE, if_pos hc]; exact hl
      have he : nearE F N rows y = sizE F N rows := by rw [nearE, if_pos hw]
      rw [he] at hno
      have hb : (sizE F N rows != 0) = true := by simp [hno]
      have HE := hidd he
      clear hno he hw
      go_enter Try.func32, Try.ntmps32
      go_wp2_with (first
        | (go_at_call 79; refine (received_yes F A n c rows Ar nr cr N y Ay ny cy _ hn hn2 hr hr2 hrl hy hy2 hc).mono ?_; rintro e w2 ⟨g2, rfl, hf2, hg2, hx2⟩; rw [hl])
        | (go_at_call 65; refine (csize_calls F A n c rows Ar nr cr N _ hn hn2 hr hr2 hrl).mono ?_; rintro e w3 ⟨rfl, hx3⟩))
      refine bodyPost_ret (results_tmp3 rfl _ _ _) rfl ?_
      simp only []
      rw [HE.out]
      exact ⟨rfl, Bel.ext inferInstance⟩
    · have hb : (lstE F.q y N != 0) = true := by simp [hl]
      have HE : Hid (nearE F N rows y = lstE F.q y N) := by
        have hw : wrdE F N rows y = lstE F.q y N := by rw [wrdE, if_pos hc]
        show _ = _
        rw [nearE, hw, if_neg hl]
      clear hno hl
      go_enter Try.func32, Try.ntmps32
      go_wp2_with (go_at_call 79; refine (received_yes F A n c rows Ar nr cr N y Ay ny cy _ hn hn2 hr hr2 hrl hy hy2 hc).mono ?_; rintro e w2 ⟨g2, rfl, hf2, hg2, hx2⟩)
      refine bodyPost_ret (results_tmp3 rfl _ _ _) rfl ?_
      simp only []
      rw [HE.out]
      exact ⟨rfl, Bel.ext inferInstance⟩
  · have hb : (codE F N rows != 0) = true := by simp [hc]
    have HE : Hid (nearE F N rows y = codE F N rows) := by
      have hw : wrdE F N rows y = codE F N rows := by rw [wrdE, if_neg hc]
      show _ = _
      rw [nearE, hw, if_neg hc]
    have HC := hidd hc
    clear hno hc
    go_enter Try.func32, Try.ntmps32
    go_wp2_with (go_at_call 79; refine (received_no F A n c rows Ar nr cr N _ _ hn hn2 hr hr2 hrl HC.out).mono ?_; rintro e w2 ⟨rfl, hx2⟩)
    refine bodyPost_ret (results_tmp3 rfl _ _ _) rfl ?_
    simp only []
    rw [HE.out]
    exact ⟨rfl, Bel.ext inferInstance⟩

/-- the error of Lightest -/
noncomputable def ligE (F : Fd) (N : Int) (rows : List (List Int)) : Int := if codE F N rows = 0 then (if rows.length = 0 then 11 else sizE F N rows) else codE F N rows

set_option maxRecDepth 100000 in
set_option maxHeartbeats 4000000 in
theorem elight_err (F : Fd) (A : Option Addr) (n c : Nat) (rows : List (List Int)) (Ar : Option Addr) (nr cr : Nat) (N : Int) (w : World) (hn : F.md.length = n) (hn2 : n ≤ 1000000000000000000) (hr : rows.length = nr) (hr2 : nr ≤ 1000000000000000000) (hrl : ∀ k, (gr rows k).length ≤ 1000000000000000000) (hno : ligE F N rows ≠ 0) [hA : Sl w A F.md] [hR : Sls w Ar rows] :
    Calls Try.prog 27 #[.agg #[.int .i64 F.p, .int .i64 F.m, .slice A n c, .int .i64 N, .slice Ar nr cr]] w fun e w' => e = .returned (.tuple #[.int .i64 0, .slice none 0 0, .int .i64 (ligE F N rows)]) ∧ Ext w w' := by
  by_cases hc : codE F N rows = 0
  · by_cases hl : rows.length = 0
    · have HE : Hid (ligE F N rows = 11) := by show _ = _; rw [ligE, if_pos hc, if_pos hl]
      have hnb : ((nr : Int) == 0) = true := by rw [beq_iff_eq]; omega
      clear hno
      go_enter Try.func27, Try.ntmps27
      go_wp2_with (go_at_call 71; refine (ccheck_calls F A n c rows Ar nr cr N _ hn hn2 hr hr2 hrl).mono ?_; rintro e w2 ⟨rfl, hx2⟩; rw [hc])
      refine bodyPost_ret (results_tmp3 rfl _ _ _) rfl ?_
      simp only []
      rw [HE.out]
      exact ⟨rfl, Bel.ext inferInstance⟩
    · have he : ligE F N rows = sizE F N rows := by rw [ligE, if_pos hc, if_neg hl]
      rw [he] at hno
      have hb : (sizE F N rows != 0) = true := by simp [hno]
      have hnb : ((nr : Int) == 0) = false := by rw [beq_eq_false_iff_ne]; omega
      have HE := hidd he
      have HL := hidd hl
      clear hno he hl
      go_enter Try.func27, Try.ntmps27
      go_wp2_with (first
        | (go_at_call 71; refine (ccheck_calls F A n c rows Ar nr cr N _ hn hn2 hr hr2 hrl).mono ?_; rintro e w2 ⟨rfl, hx2⟩; rw [hc])
        | (go_at_call 65; refine (csize_calls F A n c rows Ar nr cr N _ hn hn2 hr hr2 hrl).mono ?_; rintro e w3 ⟨rfl, hx3⟩))
      refine bodyPost_ret (results_tmp3 rfl _ _ _) rfl ?_
      simp only []
      rw [HE.out]
      exact ⟨rfl, Bel.ext inferInstance⟩
  · have hb : (codE F N rows != 0) = true := by simp [hc]
    have HE : Hid (ligE F N rows = codE F N rows) := by show _ = _; rw [ligE, if_neg hc]
    clear hno hc
    go_enter Try.func27, Try.ntmps27
    go_wp2_with (go_at_call 71; refine (ccheck_calls F A n c rows Ar nr cr N _ hn hn2 hr hr2 hrl).mono ?_; rintro e w2 ⟨rfl, hx2⟩)
    refine bodyPost_ret (results_tmp3 rfl _ _ _) rfl ?_
    simp only []
    rw [HE.out]
    exact ⟨rfl, Bel.ext inferInstance⟩

end Go.Proofs.Ytcigdhmecfhndaa

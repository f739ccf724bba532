/- The walk of the function by which code.Walk's iterator goes from row to row. The walks of code.Walk's iterator and of code.Walk. The walk of enumerate.Weights. The walks of enumerate.Weights at an error, codewrightref23.Weights, and the law's small and alive. The reduced form of a matrix: plain functions. -/
import Derived.Test.YtcigdhmecfhndaaSink2
import Derived.Laws.EntriesVeiled
namespace Go.Proofs.Ytcigdhmecfhndaa
open Go.RowKit
attribute [local go_sem] cell_bx froz_bx cell_own froz_own cell_rd cell_cel ints_get ints_set cell_ownv froz_ownv eql_nil_int
set_option linter.unusedVariables false
set_option linter.unusedSimpArgs false

theorem wpOp_yield {P : Program} {ops : Array Oper} {Q : Exit → Act → World → Prop} {t : Nat} {o : Oper} {s x y : Operand} {ts : Array TypeId} {a : Act} {w : World} {K : Act → World → Prop} {l : Nat} {v1 v2 : Value} {R : World → Prop}
    (ho : ops[t]? = some o) (hgd : o.guard = none) (hop : o.op = .call { callee := .value s, args := #[x, y], argTypes := ts }) (hs : a.eval s = .func (.yield l) #[] #[]) (hx : a.eval x = v1) (hy : a.eval y = v2)
    (h : YieldW P l #[v1, v2] w R) (hk : ∀ W', R W' → K (a.put o.dst (.bool true)) W') : wpOpIn Fence.wide 0 P ops Q t K a w := by
  obtain ⟨fn, tmps, assign, body, hyi, hr⟩ := h
  unfold wpOpIn
  simp only [ho, Region.wanted, hgd]
  refine ⟨fun _ _ => trivial, ?_⟩
  rw [show Fence.wide.round = none from rfl, Oper.semAt_none]
  have he : ∀ ρ : Operand → Value, ρ s = .func (.yield l) #[] #[] → ρ x = v1 → ρ y = v2 → Sem.run P (execOp ρ o) w = .ok (.round l fn tmps assign body) w := by
    intro ρ h1 h2 h3
    simp only [execOp, hop, resolve, invoke, Sem.run_bind, Sem.run_pure, Result.andThen_ok, List.map_toArray, List.map_cons, List.map_nil, h1, h2, h3]
    simp [Deferred.ofValue, go_sem, hyi]
  rw [he _ hs hx hy, Oper.uponIn_round]
  refine ⟨fun e => by simp [Fence.wide] at e, hr.mono ?_⟩
  rintro e W' ⟨rfl, hR⟩
  exact hk W' hR

theorem Kpt.drew (s : Nat) (M : Nat → Prop) (W : World) : Kpt s M W W.drew := ⟨rfl, rfl, rfl, Nat.le_refl _, fun _ _ _ _ => rfl⟩
theorem Ext.kpt_drew {s : Nat} {M : Nat → Prop} {W W' : World} (h : Ext W.drew W') : Kpt s M W W' := (Kpt.drew s M W).trans h.kpt
theorem GFq.same {B : Nat} {wG W : World} {b : Nat} {F : Fd} (h : GFq B wG b F) (hs : ∀ k, B ≤ k → k < wG.heap.size → W.heap[k]? = wG.heap[k]?) : GFq B W b F := by
  obtain ⟨A, n, c, ge, ce, gl, cl, ex, lg, h1, h2, h3, h3b, h4, h4b, h5, h5b, h6⟩ := h.out
  refine ⟨h.fr, A, n, c, ge, ce, gl, cl, ex, lg, ⟨(hs b h.fr (blk_lt h1.out)).trans h1.out⟩, h2, ⟨fun ad e => ⟨fun j hj => ?_⟩, h3.nn⟩, h3b, ⟨h4.out.imp fun _ q => (hs ge h4b (blk_lt q)).trans q⟩, h4b, ⟨h5.out.imp fun _ q => (hs gl h5b (blk_lt q)).trans q⟩, h5b, h6⟩
  have hc := (h3.rd ad e).out j hj
  have hbl := World.block_lt_of_cell? wG _ hc
  exact (World.cell?_of_block (hs _ (by rw [add_block]; exact h3b ad e) hbl)).trans hc

theorem Bel.grown {W W' : World} (h : Bel W W') (row : Option Nat) : W.grownBy W' row := ⟨h.out.os, h.out.tape, h.out.output, h.out.size, fun b hb _ => h.out.block b hb⟩
/-- what the iterator has in memory -/
structure Itr (w00 wG : World) (B0 bc bt by_ bg bf gf l : Nat) (cc caps : Array Value) (k : Nat) (W : World) : Prop where
  bel : Bel w00 W
  c : Bx W bc cc 27
  t : Bx W bt #[.int .i64 (k : Int)] 3
  y : Bx W by_ #[.func (.yield l) #[] #[]] 125
  g : Bx W bg #[.pointer (some ⟨gf, 0, none⟩)] 97
  f : Bx W bf #[.func (.func 104) #[] caps] 125
  same : ∀ b, B0 ≤ b → b < wG.heap.size → W.heap[b]? = wG.heap[b]?
/-- how its blocks lie -/
structure ItC (w00 wG : World) (M : Nat → Prop) (B0 bc bt by_ bg bf gf : Nat) (F : Fd) : Prop where
  m0 : ∀ b, M b → b < B0
  mc : ¬ M bc
  mw : ∀ b, b < w00.heap.size → ¬ M b
  w0 : w00.heap.size ≤ B0
  ht : B0 ≤ bt
  hy : B0 ≤ by_
  hg : B0 ≤ bg
  hf : B0 ≤ bf
  tc : bc ≠ bt
  ty : by_ ≠ bt
  tg : bg ≠ bt
  tf : bf ≠ bt
  gt : wG.heap.size ≤ bt
  gq : GFq B0 wG gf F
section
variable {w00 wG : World} {M : Nat → Prop} {B0 bc bt by_ bg bf gf l : Nat} {cc caps : Array Value} {k : Nat} {W W' : World} {F : Fd}
theorem Itr.kpt (h : Itr w00 wG B0 bc bt by_ bg bf gf l cc caps k W) (hC : ItC w00 wG M B0 bc bt by_ bg bf gf F) (hk : Kpt (bt + 1) M W W') : Itr w00 wG B0 bc bt by_ bg bf gf l cc caps k W' := by
  have hM : ∀ b, B0 ≤ b → ¬ M b := fun b hb hm => by have := hC.m0 b hm; omega
  refine ⟨hk.bel h.bel hC.mw (by have := hC.w0; have := hC.ht; omega), hk.bx h.c hC.mc, hk.bx h.t (hM _ hC.ht), hk.bx h.y (hM _ hC.hy), hk.bx h.g (hM _ hC.hg), hk.bx h.f (hM _ hC.hf), fun b h1 h2 => ?_⟩
  refine (hk.block b ?_ (hM b h1) (fun h9 => by have := hC.gt; omega)).trans (h.same b h1 h2)
  have := blk_lt h.t.out
  have := hC.gt
  omega
theorem Itr.ext (h : Itr w00 wG B0 bc bt by_ bg bf gf l cc caps k W) (hC : ItC w00 wG M B0 bc bt by_ bg bf gf F) (hk : Bel W W') : Itr w00 wG B0 bc bt by_ bg bf gf l cc caps k W' := h.kpt hC (Ext.kpt hk.ext)
theorem Itr.gfp (h : Itr w00 wG B0 bc bt by_ bg bf gf l cc caps k W) (hC : ItC w00 wG M B0 bc bt by_ bg bf gf F) : GFp W gf F := (hC.gq.same h.same).gfp
theorem Itr.put (h : Itr w00 wG B0 bc bt by_ bg bf gf l cc caps k W) (hC : ItC w00 wG M B0 bc bt by_ bg bf gf F) : Itr w00 wG B0 bc bt by_ bg bf gf l cc caps (k + 1) (W.setCell ⟨bt, 0, none⟩ (.int .i64 ((k : Int) + 1))) := by
  have a1 : Apart bc bt := ⟨hC.tc⟩
  have a2 : Apart by_ bt := ⟨hC.ty⟩
  have a3 : Apart bg bt := ⟨hC.tg⟩
  have a4 : Apart bf bt := ⟨hC.tf⟩
  have h1 := h.c; have h2 := h.y; have h3 := h.g; have h4 := h.f
  refine ⟨⟨h.bel.out.os, h.bel.out.tape, h.bel.out.output, by simp [World.setCell]; exact h.bel.out.size, fun b hb => (Below.heap_setCell W ⟨bt, 0, none⟩ _ b (by have := hC.w0; have := hC.ht; simp only; omega)).trans (h.bel.out.block b hb)⟩, inferInstance, ?_, inferInstance, inferInstance, inferInstance, fun b hb1 hb2 => (Below.heap_setCell W ⟨bt, 0, none⟩ _ b (by have := hC.gt; simp only; omega)).trans (h.same b hb1 hb2)⟩
  have := bx_set (k := 0) (u := .int .i64 ((k : Int) + 1)) (h := h.t)
  simpa using this
end

/-- what the call at row r, d rows to come, does -/
def FromAt (F : Fd) (A : Option Addr) (n c : Nat) (rows : List (List Int)) (Ar : Option Addr) (nr cr N q l tot : Nat) (w00 wG : World) (M : Nat → Prop) (B0 bc bt by_ bg bf gf : Nat) (J : Nat → World → Prop) (d r : Nat) : Prop :=
  ∀ k w gw cw, q ^ d ∣ k → k + q ^ d ≤ tot →
      Itr w00 wG B0 bc bt by_ bg bf gf l #[.int .i64 F.p, .int .i64 F.m, .slice A n c, .int .i64 (N : Int), .slice Ar nr cr] #[.pointer (some ⟨bc, 0, none⟩), .pointer (some ⟨bt, 0, none⟩), .pointer (some ⟨by_, 0, none⟩), .pointer (some ⟨bg, 0, none⟩), .pointer (some ⟨bf, 0, none⟩)] k w →
      J k w → Own w gw (F.pcomb rows N k r) → B0 ≤ gw → gw ≠ bt →
      Calls Try.prog 104 #[.int .i64 (r : Int), .slice (some ⟨gw, 0, none⟩) N cw, .pointer (some ⟨bc, 0, none⟩), .pointer (some ⟨bt, 0, none⟩), .pointer (some ⟨by_, 0, none⟩), .pointer (some ⟨bg, 0, none⟩), .pointer (some ⟨bf, 0, none⟩)] w fun e W' => e = .returned (.bool true) ∧ J (k + q ^ d) W' ∧
        Itr w00 wG B0 bc bt by_ bg bf gf l #[.int .i64 F.p, .int .i64 F.m, .slice A n c, .int .i64 (N : Int), .slice Ar nr cr] #[.pointer (some ⟨bc, 0, none⟩), .pointer (some ⟨bt, 0, none⟩), .pointer (some ⟨by_, 0, none⟩), .pointer (some ⟨bg, 0, none⟩), .pointer (some ⟨bf, 0, none⟩)] (k + q ^ d) W' ∧ Kpt (bt + 1) (fun b => M b ∨ b = bt) w W'

set_option maxRecDepth 100000 in
set_option maxHeartbeats 8000000 in
theorem from_zero (F : Fd) (A : Option Addr) (n c : Nat) (rows : List (List Int)) (Ar : Option Addr) (nr cr N q l tot : Nat) (w00 wG : World) (M : Nat → Prop) (B0 bc bt by_ bg bf gf : Nat) (J : Nat → World → Prop)
    (hRO : RefOK F)
    (hq : F.q = q) (hgr : Grid nr N rows) (hN0 : 0 < N) (hN : N ≤ 1000) (hnr : nr ≤ 1000) (htot : tot ≤ 65536)
    (hC : ItC w00 wG M B0 bc bt by_ bg bf gf F) (hR0 : Sls w00 Ar rows)
    (hJ : ∀ k X Y row, J k X → X.grownBy Y row → (∀ r, row = some r → r = bt) → J k Y)
    (hY : ∀ k W1 gx c, k < tot → bt < W1.heap.size → J k W1 → Own W1 gx (F.word rows N (k : Int)) → B0 ≤ gx → gx ≠ bt → YieldW Try.prog l #[.int .i64 (k : Int), .slice (some ⟨gx, 0, none⟩) N c] W1 fun W' => J (k + 1) W' ∧ Kpt (bt + 1) M W1 W') (r : Nat) (hr : r + 0 = nr) : FromAt F A n c rows Ar nr cr N q l tot w00 wG M B0 bc bt by_ bg bf gf J 0 r := by
  intro k w gw cw hdv hkt0 hI hJk hgw hgB hgt

  obtain rfl : r = nr := by omega
  have hrn : rows.length = r := hgr.1
  rw [Nat.pow_zero] at hkt0
  have hkt : k < tot := by omega
  have hM : ∀ b, B0 ≤ b → ¬ M b := fun b hb hm => by have := hC.m0 b hm; omega
  have hMy := hM _ hC.hy
  have hMt := hM _ hC.ht
  have hMw := hM _ hgB
  have hc9 := hI.c
  have ht9 := hI.t
  have hrb : ((r : Int) == (r : Int)) = true := beq_self_eq_true _
  have hwk : IntKind.i64.wrap (k : Int) = (k : Int) := wr_in (by omega) (by omega)
  have hI1' := hI.put hC
  have agt : Apart gw bt := ⟨hgt⟩
  have hJ1' : J k (w.setCell ⟨bt, 0, none⟩ (.int .i64 ((k : Int) + 1))) := hJ k w _ (some bt) hJk ⟨rfl, rfl, rfl, by simp [World.setCell], fun b _ hn => Below.heap_setCell w ⟨bt, 0, none⟩ _ b (fun e => hn (congrArg some e))⟩ (fun r e => (Option.some.inj e).symm)
  have hgw1' : Own (w.setCell ⟨bt, 0, none⟩ (.int .i64 ((k : Int) + 1))) gw (F.pcomb rows N k r) := inferInstance
  go_enter Try.func104, Try.ntmps104
  go_upto_region 3 with (fail)
  obtain ⟨w1, hw1⟩ : ∃ w1, w1 = w.setCell ⟨bt, 0, none⟩ (.int .i64 ((k : Int) + 1)) := ⟨_, rfl⟩
  rw [← hw1] at hI1' hJ1' hgw1' ⊢
  have hI1 := hI1'
  have hJ1 := hJ1'
  have hgw1 := hgw1'
  have hk1 : Kpt (bt + 1) (fun b => M b ∨ b = bt) w w1 := by rw [hw1]; exact kpt_set _ (.inr rfl)
  have hsz1 : w1.heap.size = w.heap.size := by rw [hw1]; simp [World.setCell]
  have hbl := blk_lt ht9.out
  have hg2 : ∀ {g2 : Nat}, Fr w1.drew g2 → B0 ≤ g2 := fun h => by have h1 : w1.heap.size ≤ _ := h.out; have := hC.ht; omega
  have hg2' : ∀ {g2 : Nat}, Fr w1.drew g2 → g2 ≠ bt := fun h => by have h1 : w1.heap.size ≤ _ := h.out; omega
  have hJ2 : ∀ w2, Ext w1.drew w2 → J k w2 := fun w2 hx => hJ k w1 w2 none hJ1 ⟨hx.out.os, hx.out.tape, hx.out.output, hx.out.size, fun b hb _ => hx.out.block b hb⟩ (fun r e => by cases e)
  clear hw1 hI1' hJ1' hgw1' hc9 ht9 hI hJk hgw
  refine wp_region_X (S := fun w' => Kpt (bt + 1) M w1 w') 5 (by kernel_rfl) (by rintro ⟨_, _, h0⟩; have h1 := h0.1; cases h1) (Kpt.drew _ _ _) (fun hHeld => ?_)
  refine wpAnyX_take (i := 0) (oi := ⟨some 21, _, _, _, _, _⟩) (v := ?_) rfl (by kernel_rfl) (by kernel_rfl) (by kernel_rfl) (by decide) (by kernel_rfl) (fun _ _ _ h => h) (Or.inl ⟨by rfl, ?_⟩) hHeld ?_
  rotate_left
  · (intro w1 hS1; have hy9 := hS1.bx hI1.y hMy; have ht9 := hS1.bx hI1.t hMt; have ho9 := hS1.own hgw1 hMw; first | (go_simp; done) | (go_simp; with_reducible rfl))
  try simp only [Act.put, List.setIfInBounds_toArray, List.set_cons_zero, List.set_cons_succ]
  refine wpAnyX_take (i := 1) (oi := ⟨some 22, _, _, _, _, _⟩) (v := ?_) rfl (by kernel_rfl) (by kernel_rfl) (by kernel_rfl) (by decide) (by kernel_rfl) (fun _ _ _ h => h) (Or.inl ⟨by rfl, ?_⟩) hHeld ?_
  rotate_left
  · (intro w1 hS1; have hy9 := hS1.bx hI1.y hMy; have ht9 := hS1.bx hI1.t hMt; have ho9 := hS1.own hgw1 hMw; first | (go_simp; done) | (go_simp; with_reducible rfl))
  try simp only [Act.put, List.setIfInBounds_toArray, List.set_cons_zero, List.set_cons_succ]
  refine wpAnyX_take (i := 2) (oi := ⟨some 23, _, _, _, _, _⟩) (v := ?_) rfl (by kernel_rfl) (by kernel_rfl) (by kernel_rfl) (by decide) (by kernel_rfl) (fun _ _ _ h => h) (Or.inl ⟨by rfl, ?_⟩) hHeld ?_
  rotate_left
  · (intro w1 hS1; have hy9 := hS1.bx hI1.y hMy; have ht9 := hS1.bx hI1.t hMt; have ho9 := hS1.own hgw1 hMw; first | (go_simp; done) | (go_simp; with_reducible rfl))
  try simp only [Act.put, List.setIfInBounds_toArray, List.set_cons_zero, List.set_cons_succ]
  refine wpAnyX_take (i := 3) (oi := ⟨some 24, _, _, _, _, _⟩) (v := ?_) rfl (by kernel_rfl) (by kernel_rfl) (by kernel_rfl) (by decide) (by kernel_rfl) (fun _ _ _ h => h) (Or.inl ⟨by rfl, ?_⟩) hHeld ?_
  rotate_left
  · (intro w1 hS1; have hy9 := hS1.bx hI1.y hMy; have ht9 := hS1.bx hI1.t hMt; have ho9 := hS1.own hgw1 hMw; first | (go_simp; done) | (go_simp; with_reducible rfl))
  try simp only [Act.put, List.setIfInBounds_toArray, List.set_cons_zero, List.set_cons_succ]
  refine wpAnyX_one (i := 4) (o := ⟨some 25, _, _, _, _, _⟩) (by kernel_rfl) (by decide) rfl (fun K hK => ?_)
  go_simp
  (go_at_call 105; refine (clone_own (F.pcomb rows N k r) _ N cw _ (pcomb_len F rows N k r) (by omega) hN0).mono ?_; rintro e w2 ⟨g2, c2, rfl, hc2, ho2, hf2, hx2⟩)
  clear hHeld
  refine hK.out _ _ (hx2.kpt_drew) (fun hHeld => ?_)
  clear hK K
  try simp only [Act.put, List.setIfInBounds_toArray, List.set_cons_zero, List.set_cons_succ]
  refine wpAnyX_t (by kernel_rfl) ?_
  refine wpOp_yield rfl rfl rfl rfl rfl rfl (hY k w2 g2 c2 hkt (by have h1 : w1.heap.size ≤ w2.heap.size := hx2.out.size; omega) (hJ2 w2 hx2) (by rw [pcomb_word, hrn]; exact ho2) (hg2 hf2) (hg2' hf2)) (fun W3 hW3 => ?_)
  try simp only [Act.put, List.setIfInBounds_toArray, List.set_cons_zero, List.set_cons_succ]
  refine wpAnyX_one (i := 6) (o := ⟨some 9, _, _, _, _, _⟩) (by kernel_rfl) (by decide) rfl (fun K hK => ?_)
  go_simp
  refine hK.out _ _ (hx2.kpt_drew.trans hW3.2) (fun hHeld => ?_)
  clear hK K
  try simp only [Act.put, List.setIfInBounds_toArray, List.set_cons_zero, List.set_cons_succ]
  refine wpAnyX_done (by kernel_rfl) ?_ _
  go_wp2
  go_ret
  have hI3 := (hI1.kpt hC hx2.kpt_drew).kpt hC hW3.2
  rw [Nat.pow_zero]
  exact ⟨rfl, hW3.1, hI3, hk1.trans ((hx2.kpt_drew.trans hW3.2).weak fun b h => .inl h)⟩
set_option maxRecDepth 100000 in
set_option maxHeartbeats 8000000 in
theorem from_succ (F : Fd) (A : Option Addr) (n c : Nat) (rows : List (List Int)) (Ar : Option Addr) (nr cr N q l tot : Nat) (w00 wG : World) (M : Nat → Prop) (B0 bc bt by_ bg bf gf : Nat) (J : Nat → World → Prop)
    (hRO : RefOK F)
    (hq : F.q = q) (hgr : Grid nr N rows) (hN0 : 0 < N) (hN : N ≤ 1000) (hnr : nr ≤ 1000) (htot : tot ≤ 65536)
    (hC : ItC w00 wG M B0 bc bt by_ bg bf gf F) (hR0 : Sls w00 Ar rows)
    (hJ : ∀ k X Y row, J k X → X.grownBy Y row → (∀ r, row = some r → r = bt) → J k Y)
    (hY : ∀ k W1 gx c, k < tot → bt < W1.heap.size → J k W1 → Own W1 gx (F.word rows N (k : Int)) → B0 ≤ gx → gx ≠ bt → YieldW Try.prog l #[.int .i64 (k : Int), .slice (some ⟨gx, 0, none⟩) N c] W1 fun W' => J (k + 1) W' ∧ Kpt (bt + 1) M W1 W') (d r : Nat) (hr : r + (d + 1) = nr) (ih : FromAt F A n c rows Ar nr cr N q l tot w00 wG M B0 bc bt by_ bg bf gf J d (r + 1)) : FromAt F A n c rows Ar nr cr N q l tot w00 wG M B0 bc bt by_ bg bf gf J (d + 1) r := by
  intro k w gw cw hdv hkt0 hI hJk hgw hgB hgt
  have hrl : r < nr := by omega
  have hrn : rows.length = nr := hgr.1
  have hrr : r + (d + 1) = rows.length := by omega
  have hM : ∀ b, B0 ≤ b → ¬ M b := fun b hb hm => by have := hC.m0 b hm; omega
  have hMw : ¬ (M gw ∨ gw = bt) := fun h => h.elim (hM _ hgB) hgt
  have hq2 := hRO.good.q2
  have hq3 := hRO.good.q256
  have hqn2 : 2 ≤ q := by omega
  have hqn3 : q ≤ 256 := by omega
  have hp0 : 0 < q ^ d := Nat.pow_pos (by omega)
  have hrb : ((r : Int) == (nr : Int)) = false := beq_eq_false_iff_ne.2 (by omega)
  have hwr1 : IntKind.i64.wrap ((r : Int) + 1) = ((r + 1 : Nat) : Int) := by rw [wr_in (by omega) (by omega)]; omega
  have hc9 := hI.c
  have hg9 := hI.g
  have hgp9 := hI.gfp hC
  obtain ⟨ad, Br, crr, hAr, hcr0, hsr0⟩ := hR0.at_ (k := r) (by omega)
  have HAR := hidd hAr
  clear hAr
  rw [HAR.out] at hc9
  have hlenr := hgr.2 r hrl
  have HIH := hidd ih
  clear ih
  have HHR := hidd hgr
  have HLR := hidd hlenr
  have HHI := hidd hI
  have HRR := hidd hrr
  have HDV := hidd hdv
  have HKT := hidd hkt0
  have HGW := hidd hgw
  clear hgr hlenr hI hrn hrr hdv hkt0 hgw
  go_enter Try.func104, Try.ntmps104
  go_wp2_with (go_at_call 102; refine (gorder_calls F gf _).mono ?_; rintro e w1 ⟨rfl, hx1⟩; rw [hq])
  clear hgp9 hc9 hg9
  go_loopg [10, 11, 29] q (fun gk _ _ av wr => ∃ a : Nat, gk = q - a ∧ av = .int .i64 a ∧ a ≤ q ∧ Hid (J (k + a * q ^ d) wr) ∧ Hid (Itr w00 wG B0 bc bt by_ bg bf gf l #[.int .i64 F.p, .int .i64 F.m, .slice A n c, .int .i64 (N : Int), .slice Ar nr cr] #[.pointer (some ⟨bc, 0, none⟩), .pointer (some ⟨bt, 0, none⟩), .pointer (some ⟨by_, 0, none⟩), .pointer (some ⟨bg, 0, none⟩), .pointer (some ⟨bf, 0, none⟩)] (k + a * q ^ d) wr) ∧ Hid (Kpt (bt + 1) (fun b => M b ∨ b = bt) w wr))
  case atStart =>
    refine ⟨0, rfl, rfl, by omega, ?_, ?_, hx1.kpt⟩
    · show J _ _
      rw [Nat.zero_mul, Nat.add_zero]
      exact hJ k w w1 none hJk (Bel.grown ⟨hx1.out⟩ none) (fun r e => by cases e)
    · show Itr _ _ _ _ _ _ _ _ _ _ _ _ _ _
      rw [Nat.zero_mul, Nat.add_zero]
      exact HHI.out.kpt hC hx1.kpt
  case round =>
    obtain ⟨a, rfl, rfl, ha, HJA, HIA, HKA⟩ := hrel
    by_cases hlt : a < q
    · have hgwr : Own wr gw (F.pcomb rows N k r) := HKA.out.own HGW.out hMw
      have hca := HIA.out.c
      have hga := HIA.out.g
      have hfa := HIA.out.f
      have hgpa := HIA.out.gfp hC
      have hcr : Cel wr (ad.add r) (.slice Br (gr rows r).length crr) := ⟨below_cell HIA.out.bel.out hcr0.out⟩
      have hsr : Sl wr Br (gr rows r) := hsr0.move HIA.out.bel.out
      have hbtl := blk_lt HIA.out.t.out
      rw [HAR.out] at hca
      have hlr : (gr rows r).length = N := HLR.out
      rw [hlr] at hcr
      obtain ⟨wo, rfl⟩ : ∃ wo, wo = wr := ⟨_, rfl⟩
      have HLR2 := hidd hlr
      have hBo : Bel wo wo := bel_refl _
      clear hlr
      go_wp2_with (go_at_call 105; refine (clone_own (F.pcomb rows N k r) _ N cw _ (pcomb_len F rows N k r) (by omega) hN0).mono ?_; rintro e w2 ⟨g2, c2, rfl, hc2, ho2, hf2, hx2⟩; have hcr2 : Cel w2 (ad.add r) (.slice Br N crr) := inferInstance)
      have hfo : Fr wo g2 := ⟨hf2.out⟩
      have hB2 : Bel wo w2 := ⟨hx2.out⟩
      have hg2B : B0 ≤ g2 := by have := hfo.out; have := hC.ht; omega
      have hg2t : g2 ≠ bt := by have := hfo.out; omega
      have HZ0 : Hid (∀ j, (if a = 0 then F.pcomb rows N k r else mixL N (F.addToF (F.pcomb rows N k r) (a : Int) (gr rows r)) (gt (F.pcomb rows N k r)) j).length = N) := fun j => by
        by_cases e : a = 0
        · rw [if_pos e]; exact pcomb_len F rows N k r
        · rw [if_neg e]; exact mixL_length _ _ _ _
      clear hBo hx2 hcr2 hgwr
      go_loopg [12, 13, 40] N (fun gk _ _ jv wr => ∃ (j : Nat) (zs : List Int), gk = N - j ∧ jv = .int .i64 j ∧ j ≤ N ∧ Bel wo wr ∧ Own wr g2 zs ∧ Hid (zs = if a = 0 then F.pcomb rows N k r else mixL N (F.addToF (F.pcomb rows N k r) (a : Int) (gr rows r)) (gt (F.pcomb rows N k r)) j))
      case atStart => exact ⟨0, _, rfl, rfl, by omega, hB2, ho2, by
        show _ = _
        by_cases e : a = 0
        · rw [if_pos e]
        · rw [if_neg e, mixL_zero]
          exact ext_gt (by rw [mkL_length, pcomb_len]) fun j hj => by rw [pcomb_len] at hj; rw [gt_mkL hj]⟩
      case round =>
        obtain ⟨j, zs, rfl, rfl, hj, hB5, hoz, HZ⟩ := hrel
        clear hB2 ho2
        by_cases hjn : j < N
        · obtain ⟨adr, rfl, rdr⟩ := hsr.at_ (k := j) (by rw [HLR2.out]; exact hjn)
          have hjr : j < (gr rows r).length := by rw [HLR2.out]; exact hjn
          have hjz : j < zs.length := by rw [HZ.out, HZ0.out]; exact hjn
          have hin : In j zs.length := ⟨hjz⟩
          by_cases ha0 : a = 0
          · have hab : ((a : Int) != 0) = false := by simp [ha0]
            have HA0 := hidd ha0
            clear ha0
            go_wp2
            go_roundg (N - (j + 1))
            case measure => omega
            case rel => exact ⟨j + 1, zs, rfl, by go_num, by omega, inferInstance, inferInstance, by show _ = _; rw [HZ.out, if_pos HA0.out, if_pos HA0.out]⟩
          · have hab : ((a : Int) != 0) = true := by simp [ha0]
            have HA0 := hidd ha0
            clear ha0
            have HZ2 : Hid (zs = mixL N (F.addToF (F.pcomb rows N k r) (a : Int) (gr rows r)) (gt (F.pcomb rows N k r)) j) := by
              show _ = _
              rw [HZ.out, if_neg HA0.out]
            by_cases hx0 : gt (gr rows r) j = 0
            · have hxb : (gt (gr rows r) j != 0) = false := by simp [hx0]
              have HX0 := hidd hx0
              clear hx0
              go_wp2
              go_roundg (N - (j + 1))
              case measure => omega
              case rel => exact ⟨j + 1, zs, rfl, by go_num, by omega, inferInstance, inferInstance, by
                show _ = _
                rw [if_neg HA0.out, HZ2.out]
                refine ext_gt (by rw [mixL_length, mixL_length]) fun i hi => ?_
                rw [mixL_length] at hi
                rw [gt_mixL hi, gt_mixL hi]
                by_cases h1 : i < j
                · rw [if_pos h1, if_pos (by omega)]
                · rw [if_neg h1]
                  by_cases h2 : i = j
                  · subst h2; rw [if_pos (by omega), Fd.addToF, if_pos HX0.out]
                  · rw [if_neg (by omega)]⟩
            · have hxb : (gt (gr rows r) j != 0) = true := by simp [hx0]
              have HX0 := hidd hx0
              clear hx0
              have hN5 : Near wr.heap.size wr wr := ⟨Below.refl _ _⟩
              go_upto_region 12 with (fail)
              refine wp_region_E (S := fun w' => Near wr.heap.size wr w') 13 (by kernel_rfl) inferInstance (fun hHeld => ?_)
              refine wpAnyE_take (i := 0) (oi := ⟨some 51, _, _, _, _, _⟩) (v := ?_) rfl (by kernel_rfl) (by kernel_rfl) (by kernel_rfl) (by decide) (by kernel_rfl) (fun _ _ _ h => h) (Or.inl ⟨by rfl, ?_⟩) hHeld ?_
              rotate_left
              · (intro w1 hS1; first | (go_simp; done) | (go_simp; with_reducible rfl))
              try simp only [Act.put, List.setIfInBounds_toArray, List.set_cons_zero, List.set_cons_succ]
              refine wpAnyE_take (i := 1) (oi := ⟨some 52, _, _, _, _, _⟩) (v := ?_) rfl (by kernel_rfl) (by kernel_rfl) (by kernel_rfl) (by decide) (by kernel_rfl) (fun _ _ _ h => h) (Or.inl ⟨by rfl, ?_⟩) hHeld ?_
              rotate_left
              · (intro w1 hS1; first | (go_simp; done) | (go_simp; with_reducible rfl))
              try simp only [Act.put, List.setIfInBounds_toArray, List.set_cons_zero, List.set_cons_succ]
              refine wpAnyE_take (i := 2) (oi := ⟨some 53, _, _, _, _, _⟩) (v := ?_) rfl (by kernel_rfl) (by kernel_rfl) (by kernel_rfl) (by decide) (by kernel_rfl) (fun _ _ _ h => h) (Or.inl ⟨by rfl, ?_⟩) hHeld ?_
              rotate_left
              · (intro w1 hS1; first | (go_simp; done) | (go_simp; with_reducible rfl))
              try simp only [Act.put, List.setIfInBounds_toArray, List.set_cons_zero, List.set_cons_succ]
              refine wpAnyE_take (i := 3) (oi := ⟨some 54, _, _, _, _, _⟩) (v := ?_) rfl (by kernel_rfl) (by kernel_rfl) (by kernel_rfl) (by decide) (by kernel_rfl) (fun _ _ _ h => h) (Or.inl ⟨by rfl, ?_⟩) hHeld ?_
              rotate_left
              · (intro w1 hS1; first | (go_simp; done) | (go_simp; with_reducible rfl))
              try simp only [Act.put, List.setIfInBounds_toArray, List.set_cons_zero, List.set_cons_succ]
              refine wpAnyE_take (i := 4) (oi := ⟨some 55, _, _, _, _, _⟩) (v := ?_) rfl (by kernel_rfl) (by kernel_rfl) (by kernel_rfl) (by decide) (by kernel_rfl) (fun _ _ _ h => h) (Or.inl ⟨by rfl, ?_⟩) hHeld ?_
              rotate_left
              · (intro w1 hS1; first | (go_simp; done) | (go_simp; with_reducible rfl))
              try simp only [Act.put, List.setIfInBounds_toArray, List.set_cons_zero, List.set_cons_succ]
              refine wpAnyE_take (i := 5) (oi := ⟨some 56, _, _, _, _, _⟩) (v := ?_) rfl (by kernel_rfl) (by kernel_rfl) (by kernel_rfl) (by decide) (by kernel_rfl) (fun _ _ _ h => h) (Or.inl ⟨by rfl, ?_⟩) hHeld ?_
              rotate_left
              · (intro w1 hS1; first | (go_simp; done) | (go_simp; with_reducible rfl))
              try simp only [Act.put, List.setIfInBounds_toArray, List.set_cons_zero, List.set_cons_succ]
              refine wpAnyE_take (i := 6) (oi := ⟨some 57, _, _, _, _, _⟩) (v := ?_) rfl (by kernel_rfl) (by kernel_rfl) (by kernel_rfl) (by decide) (by kernel_rfl) (fun _ _ _ h => h) (Or.inl ⟨by rfl, ?_⟩) hHeld ?_
              rotate_left
              · (intro w1 hS1; first | (go_simp; done) | (go_simp; with_reducible rfl))
              try simp only [Act.put, List.setIfInBounds_toArray, List.set_cons_zero, List.set_cons_succ]
              refine wpAnyE_take (i := 7) (oi := ⟨some 58, _, _, _, _, _⟩) (v := ?_) rfl (by kernel_rfl) (by kernel_rfl) (by kernel_rfl) (by decide) (by kernel_rfl) (fun _ _ _ h => h) (Or.inl ⟨by rfl, ?_⟩) hHeld ?_
              rotate_left
              · (intro w1 hS1; first | (go_simp; done) | (go_simp; with_reducible rfl))
              try simp only [Act.put, List.setIfInBounds_toArray, List.set_cons_zero, List.set_cons_succ]
              refine wpAnyE_take (i := 8) (oi := ⟨some 59, _, _, _, _, _⟩) (v := ?_) rfl (by kernel_rfl) (by kernel_rfl) (by kernel_rfl) (by decide) (by kernel_rfl) (fun _ _ _ h => h) (Or.inl ⟨by rfl, ?_⟩) hHeld ?_
              rotate_left
              · (intro w1 hS1; first | (go_simp; done) | (go_simp; with_reducible rfl))
              try simp only [Act.put, List.setIfInBounds_toArray, List.set_cons_zero, List.set_cons_succ]
              refine wpAnyE_take (i := 9) (oi := ⟨some 60, _, _, _, _, _⟩) (v := ?_) rfl (by kernel_rfl) (by kernel_rfl) (by kernel_rfl) (by decide) (by kernel_rfl) (fun _ _ _ h => h) (Or.inl ⟨by rfl, ?_⟩) hHeld ?_
              rotate_left
              · (intro w1 hS1; first | (go_simp; done) | (go_simp; with_reducible rfl))
              try simp only [Act.put, List.setIfInBounds_toArray, List.set_cons_zero, List.set_cons_succ]
              refine wpAnyE_one (i := 10) (o := ⟨some 61, _, _, _, _, _⟩) (by kernel_rfl) rfl (fun K hK => ?_)
              go_simp
              (go_at_call 107; refine (gmul_calls F gf (a : Int) (gt (gr rows r) j) _).mono ?_; rintro e w4 ⟨rfl, hx4⟩)
              clear hHeld
              refine hK.out _ _ inferInstance (fun hHeld => ?_)
              clear hK K
              try simp only [Act.put, List.setIfInBounds_toArray, List.set_cons_zero, List.set_cons_succ]
              refine wpAnyE_one (i := 11) (o := ⟨some 62, _, _, _, _, _⟩) (by kernel_rfl) rfl (fun K hK => ?_)
              go_simp
              (go_at_call 106; refine (gadd_calls F gf (gt zs j) (F.mul (a : Int) (gt (gr rows r) j)) _).mono ?_; rintro e w5 ⟨rfl, hx5⟩)
              clear hHeld
              refine hK.out _ _ inferInstance (fun hHeld => ?_)
              clear hK K
              try simp only [Act.put, List.setIfInBounds_toArray, List.set_cons_zero, List.set_cons_succ]
              refine wpAnyE_take (i := 12) (oi := ⟨some 63, _, _, _, _, _⟩) (v := ?_) rfl (by kernel_rfl) (by kernel_rfl) (by kernel_rfl) (by decide) (by kernel_rfl) (fun _ _ _ h => h) (Or.inl ⟨by rfl, ?_⟩) hHeld ?_
              rotate_left
              · (intro w1 hS1; first | (go_simp; done) | (go_simp; with_reducible rfl))
              try simp only [Act.put, List.setIfInBounds_toArray, List.set_cons_zero, List.set_cons_succ]
              refine wpAnyE_last (o := ⟨none, _, _, _, _, _⟩) (by kernel_rfl) rfl (fun K hK => ?_)
              go_simp
              refine hK.out _ _ ?_
              clear hK K
              try simp only [Act.put, List.setIfInBounds_toArray, List.set_cons_zero, List.set_cons_succ]
              refine wpAnyE_done (by kernel_rfl) ?_ _
              go_wp2
              go_roundg (N - (j + 1))
              case measure => omega
              case rel => exact ⟨j + 1, _, rfl, by go_num, by omega, inferInstance, inferInstance, by
                show _ = _
                rw [if_neg HA0.out, HZ2.out]
                refine mixL_set _ _ _ _ _ hjn ?_
                rw [Fd.addToF, if_neg HX0.out, gt_mixL hjn, if_neg (by omega)]⟩
        · obtain rfl : j = N := by omega
          have hz : zs = F.pcomb rows j (k + a * q ^ d) (r + 1) := by
            rw [pcomb_step F rows j hq hlt HRR.out HDV.out, HZ.out, mixL_full]
          rw [hz] at hoz
          clear hz HZ HZ0
          have hI5 := HIA.out.ext hC hB5
          have hJ5 := hJ _ _ _ none HJA.out (hB5.grown none) (fun r e => by cases e)
          have hf5 := hI5.f
          have hsum : k + a * q ^ d + q ^ d = k + (a + 1) * q ^ d := by rw [Nat.add_mul, Nat.one_mul, Nat.add_assoc]
          have hle : (a + 1) * q ^ d ≤ q ^ (d + 1) := by rw [Nat.pow_succ, Nat.mul_comm (q ^ d)]; exact Nat.mul_le_mul_right _ (by omega)
          have hdv5 : q ^ d ∣ k + a * q ^ d := Nat.dvd_add (Nat.dvd_trans ⟨q, Nat.pow_succ _ _⟩ HDV.out) (Nat.dvd_mul_left _ _)
          have hkt5 : k + a * q ^ d + q ^ d ≤ tot := by rw [hsum]; have := HKT.out; omega
          have hc5 := HIH.out (k + a * q ^ d) wr g2 c2 hdv5 hkt5 hI5 hJ5 hoz hg2B hg2t
          rw [hsum] at hc5
          have HC5 := hidd hc5
          have hB5' := hB5
          clear hc5 hI5 hJ5 hdv5 hkt5 hsum hle
          go_wp2_with (go_at_call 104; refine HC5.out.mono ?_; rintro e w6 ⟨rfl, hJ6, hI6, hK6⟩; have HJ6 := hidd hJ6; have HI6 := hidd hI6; have HK6 := hidd hK6; clear hJ6 hI6 hK6)
          go_roundg (q - (a + 1))
          case measure => omega
          case rel => exact ⟨a + 1, rfl, by go_num, by omega, HJ6, HI6, (HKA.out.trans (Ext.kpt hB5'.ext)).trans HK6.out⟩
    · obtain rfl : a = q := by omega
      go_wp2
      go_ret
      have e : a * a ^ d = a ^ (d + 1) := by rw [Nat.pow_succ, Nat.mul_comm]
      rw [← e]
      exact ⟨rfl, HJA.out, HIA.out, HKA.out⟩

theorem from_calls (F : Fd) (A : Option Addr) (n c : Nat) (rows : List (List Int)) (Ar : Option Addr) (nr cr N q l tot : Nat) (w00 wG : World) (M : Nat → Prop) (B0 bc bt by_ bg bf gf : Nat) (J : Nat → World → Prop)
    (hRO : RefOK F)
    (hq : F.q = q) (hgr : Grid nr N rows) (hN0 : 0 < N) (hN : N ≤ 1000) (hnr : nr ≤ 1000) (htot : tot ≤ 65536)
    (hC : ItC w00 wG M B0 bc bt by_ bg bf gf F) (hR0 : Sls w00 Ar rows)
    (hJ : ∀ k X Y row, J k X → X.grownBy Y row → (∀ r, row = some r → r = bt) → J k Y)
    (hY : ∀ k W1 gx c, k < tot → bt < W1.heap.size → J k W1 → Own W1 gx (F.word rows N (k : Int)) → B0 ≤ gx → gx ≠ bt → YieldW Try.prog l #[.int .i64 (k : Int), .slice (some ⟨gx, 0, none⟩) N c] W1 fun W' => J (k + 1) W' ∧ Kpt (bt + 1) M W1 W') : ∀ d r, r + d = nr → FromAt F A n c rows Ar nr cr N q l tot w00 wG M B0 bc bt by_ bg bf gf J d r
  | 0, r, hr => from_zero F A n c rows Ar nr cr N q l tot w00 wG M B0 bc bt by_ bg bf gf J hRO hq hgr hN0 hN hnr htot hC hR0 hJ hY r hr
  | d + 1, r, hr => from_succ F A n c rows Ar nr cr N q l tot w00 wG M B0 bc bt by_ bg bf gf J hRO hq hgr hN0 hN hnr htot hC hR0 hJ hY d r hr (from_calls F A n c rows Ar nr cr N q l tot w00 wG M B0 bc bt by_ bg bf gf J hRO hq hgr hN0 hN hnr htot hC hR0 hJ hY d (r + 1) (by omega))

end Go.Proofs.Ytcigdhmecfhndaa

namespace Go.Proofs.Ytcigdhmecfhndaa
open Go.RowKit
attribute [local go_sem] cell_bx froz_bx cell_own froz_own cell_rd cell_cel ints_get ints_set cell_ownv froz_ownv eql_nil_int
set_option linter.unusedVariables false
set_option linter.unusedSimpArgs false

theorem GFq.low {B B' : Nat} {w : World} {b : Nat} {F : Fd} (h : GFq B' w b F) (hB : B ≤ B') : GFq B w b F := by
  obtain ⟨A, n, c, ge, ce, gl, cl, ex, lg, h1, h2, h3, h3b, h4, h4b, h5, h5b, h6⟩ := h.out
  exact ⟨Nat.le_trans hB h.fr, A, n, c, ge, ce, gl, cl, ex, lg, h1, h2, h3, fun ad e => Nat.le_trans hB (h3b ad e), h4, Nat.le_trans hB h4b, h5, Nat.le_trans hB h5b, h6⟩
theorem newq_fok (F : Fd) (A : Option Addr) (n c : Nat) (w : World) (hn : F.md.length = n) (hn2 : n ≤ 1000000000000000000) (hF : FOK F) [hA : Sl w A F.md] :
    Calls Try.prog 81 #[.agg #[.int .i64 F.p, .int .i64 F.m, .slice A n c]] w fun e w' => ∃ g, e = .returned (.tuple #[.pointer (some ⟨g, 0, none⟩), .int .i64 0]) ∧ GFq w.heap.size w' g F ∧ Ext w w' := by
  obtain ⟨hs, hg⟩ := hF
  cases e : F.gen with
  | none => exact absurd e hg
  | some l => exact new_loc F A n c w hn hn2 hs l e

set_option maxRecDepth 100000 in
set_option maxHeartbeats 8000000 in
theorem iter_calls (F : Fd) (A : Option Addr) (n c : Nat) (rows : List (List Int)) (Ar : Option Addr) (nr cr N q l tot : Nat) (w00 w : World) (M : Nat → Prop) (bc : Nat) (J : Nat → Nat → World → Prop)
    (hn : F.md.length = n) (hn2 : n ≤ 1000000000000000000) (hr : rows.length = nr) (hcod : codE F (N : Int) rows = 0) (hq : F.q = q) (htq : q ^ nr = tot) (htot : tot ≤ 65536)
    (hM0 : ∀ b, M b → b < w.heap.size) (hMc : ¬ M bc) (hMw : ∀ b, b < w00.heap.size → ¬ M b) (hB0 : Bel w00 w) (hbc : Bx w bc #[.int .i64 F.p, .int .i64 F.m, .slice A n c, .int .i64 (N : Int), .slice Ar nr cr] 27)
    (hA0 : Sl w00 A F.md) (hR0 : Sls w00 Ar rows)
    (hJ : ∀ bt k X Y row, w.heap.size ≤ bt → J bt k X → X.grownBy Y row → (∀ r, row = some r → r = bt) → J bt k Y)
    (hY : ∀ bt k W1 gx c, k < tot → w.heap.size ≤ bt → bt < W1.heap.size → J bt k W1 → Own W1 gx (F.word rows N (k : Int)) → w.heap.size ≤ gx → gx ≠ bt → YieldW Try.prog l #[.int .i64 (k : Int), .slice (some ⟨gx, 0, none⟩) N c] W1 fun W' => J bt (k + 1) W' ∧ Kpt (bt + 1) M W1 W')
    (h0 : ∀ bt, w.heap.size ≤ bt → J bt 0 w) :
    Calls Try.prog 103 #[.func (.yield l) #[] #[], .pointer (some ⟨bc, 0, none⟩)] w fun e W' => (∃ v, e = .returned v) ∧ ∃ bt, w.heap.size ≤ bt ∧ J bt tot W' := by
  obtain ⟨k1, k2, k3, k4, k5, k6⟩ := codE_ok hcod
  have hF := fok_iff.2 k1
  have hgr : Grid nr N rows := ⟨hr, fun k hk => by have := k4.2.2.2 k (by omega); omega⟩
  have hnr : nr ≤ 1000 := by have := k4.2.2.1; omega
  have hrl : ∀ k, (gr rows k).length ≤ 1000000000000000000 := fun k => by
    by_cases hk : k < nr
    · have := hgr.2 k hk; omega
    · rw [gr_out (by omega)]; simp
  have hN0 : 0 < N := by omega
  have hN9 : N ≤ 1000 := by omega
  have hmk := mk_int N (by omega)
  have hszB := hB0.out.size
  have hbcl := blk_lt hbc.out
  have hAw : Sl w A F.md := hA0.move hB0.out
  have hRw : Sls w Ar rows := hR0.move hB0.out
  have HJ := hidd hJ
  have HY := hidd hY
  have H0 := hidd h0
  have HRL := hidd hrl
  have HGR := hidd hgr
  clear hJ hY h0 hrl hgr k4 k5 k6
  go_enter Try.func103, Try.ntmps103
  go_upto_region 6 with (first
    | (go_at_call 71; refine (ccheck_calls F A n c rows Ar nr cr N _ hn hn2 hr (by omega) HRL.out).mono ?_; rintro e w1 ⟨rfl, hx1⟩; rw [hcod])
    | (go_at_call 81; refine (newq_fok F A n c _ hn hn2 hF).mono ?_; rintro e w2 ⟨gf, rfl, hgq, hx2⟩))
  obtain ⟨bt, hbt⟩ : ∃ bt, bt = w2.heap.size + 1 := ⟨_, rfl⟩
  obtain ⟨w5, hw5⟩ : ∃ w5, w5 = ((w2.alloc (.cells #[.pointer (some ⟨gf, 0, none⟩)] 97)).alloc (.cells #[.int .i64 0] 3)).alloc (.cells #[.func (.func 104) #[] #[.pointer (some ⟨bc, 0, none⟩), .pointer (some ⟨w2.heap.size + 1, 0, none⟩), .pointer (some ⟨w.heap.size, 0, none⟩), .pointer (some ⟨w2.heap.size, 0, none⟩), .pointer (some ⟨w2.heap.size + 1 + 1, 0, none⟩)]] 125) := ⟨_, rfl⟩
  rw [← hw5]
  have hB2 : Bel w w2 := Bel.then_ (w1 := w.alloc (.cells #[.func (.yield l) #[] #[]] 125)) ⟨(Below.refl _ w).alloc (Nat.le_refl _) _⟩ (Bel.then_ (w1 := w1) ⟨hx1.out⟩ ⟨hx2.out⟩)
  have hs1 : w.heap.size + 1 ≤ w1.heap.size := by have := hx1.out.size; simpa [World.size_alloc] using this
  have hs2 : w1.heap.size ≤ w2.heap.size := hx2.out.size
  have hb25 : Bel w2 w5 := by rw [hw5]; exact ⟨(((Below.refl _ w2).alloc (Nat.le_refl _) _).alloc (by simp only [World.size_alloc]; omega) _).alloc (by simp only [World.size_alloc]; omega) _⟩
  have hsz5 : w5.heap.size = w2.heap.size + 3 := by rw [hw5]; simp [World.size_alloc]
  have hy0 : Bx (w.alloc (.cells #[.func (.yield l) #[] #[]] 125)) w.heap.size #[.func (.yield l) #[] #[]] 125 := inferInstance
  have hy2 : Bx w2 w.heap.size #[.func (.yield l) #[] #[]] 125 := ⟨blk_below hy0.out (Bel.then_ (w1 := w1) ⟨hx1.out⟩ ⟨hx2.out⟩ : Bel _ w2).out⟩
  have hy5 : Bx w5 w.heap.size #[.func (.yield l) #[] #[]] 125 := ⟨blk_below hy2.out hb25.out⟩
  have hc2 : Bx w2 bc #[.int .i64 F.p, .int .i64 F.m, .slice A n c, .int .i64 (N : Int), .slice Ar nr cr] 27 := ⟨blk_below hbc.out hB2.out⟩
  have hc5 : Bx w5 bc #[.int .i64 F.p, .int .i64 F.m, .slice A n c, .int .i64 (N : Int), .slice Ar nr cr] 27 := ⟨blk_below hc2.out hb25.out⟩
  have hb6 : Bx w5 (w2.heap.size + 1 + 1) #[.func (.func 104) #[] #[.pointer (some ⟨bc, 0, none⟩), .pointer (some ⟨w2.heap.size + 1, 0, none⟩), .pointer (some ⟨w.heap.size, 0, none⟩), .pointer (some ⟨w2.heap.size, 0, none⟩), .pointer (some ⟨w2.heap.size + 1 + 1, 0, none⟩)]] 125 := by rw [hw5]; infer_instance
  have hb4 : Bx w5 w2.heap.size #[.pointer (some ⟨gf, 0, none⟩)] 97 := by rw [hw5]; infer_instance
  have hb5 : Bx w5 (w2.heap.size + 1) #[.int .i64 0] 3 := by rw [hw5]; infer_instance
  have hI5 : Itr w00 w2 w.heap.size bc (w2.heap.size + 1) w.heap.size w2.heap.size (w2.heap.size + 1 + 1) gf l #[.int .i64 F.p, .int .i64 F.m, .slice A n c, .int .i64 (N : Int), .slice Ar nr cr] #[.pointer (some ⟨bc, 0, none⟩), .pointer (some ⟨w2.heap.size + 1, 0, none⟩), .pointer (some ⟨w.heap.size, 0, none⟩), .pointer (some ⟨w2.heap.size, 0, none⟩), .pointer (some ⟨w2.heap.size + 1 + 1, 0, none⟩)] 0 w5 :=
    ⟨hB0.then_ (hB2.then_ hb25), hc5, hb5, hy5, hb4, hb6, fun b _ hb => hb25.out.block b hb⟩
  have hC : ItC w00 w2 M w.heap.size bc (w2.heap.size + 1) w.heap.size w2.heap.size (w2.heap.size + 1 + 1) gf F :=
    ⟨hM0, hMc, hMw, hszB, by omega, Nat.le_refl _, by omega, by omega, by omega, by omega, by omega, by omega, by omega, hgq.low (by omega)⟩
  have hMf : ¬ M (w2.heap.size + 1 + 1) := fun h => by have := hM0 _ h; omega
  have hK6 : Kpt (w2.heap.size + 1 + 1) M w5 (w5.drew.alloc (.cells (ints (List.replicate N 0)) 3)) := Ext.kpt ⟨(Below.refl _ w5).drew.alloc (Nat.le_refl _) _⟩
  have HI6 := hidd (hI5.kpt hC hK6)
  have hB56 : Bel w (w5.drew.alloc (.cells (ints (List.replicate N 0)) 3)) := hB2.then_ (hb25.then_ ⟨(Below.refl _ w5).drew.alloc (Nat.le_refl _) _⟩)
  have HJ6 := hidd (HJ.out (w2.heap.size + 1) 0 w _ none (by omega) (H0.out _ (by omega)) (hB56.grown none) (fun r e => by cases e))
  have hfc : ∀ W gw cw, Itr w00 w2 w.heap.size bc (w2.heap.size + 1) w.heap.size w2.heap.size (w2.heap.size + 1 + 1) gf l #[.int .i64 F.p, .int .i64 F.m, .slice A n c, .int .i64 (N : Int), .slice Ar nr cr] #[.pointer (some ⟨bc, 0, none⟩), .pointer (some ⟨w2.heap.size + 1, 0, none⟩), .pointer (some ⟨w.heap.size, 0, none⟩), .pointer (some ⟨w2.heap.size, 0, none⟩), .pointer (some ⟨w2.heap.size + 1 + 1, 0, none⟩)] 0 W →
      J (w2.heap.size + 1) 0 W → Own W gw (List.replicate N 0) → w.heap.size ≤ gw → gw ≠ w2.heap.size + 1 → Calls Try.prog 104 #[.int .i64 0, .slice (some ⟨gw, 0, none⟩) N cw, .pointer (some ⟨bc, 0, none⟩), .pointer (some ⟨w2.heap.size + 1, 0, none⟩), .pointer (some ⟨w.heap.size, 0, none⟩), .pointer (some ⟨w2.heap.size, 0, none⟩), .pointer (some ⟨w2.heap.size + 1 + 1, 0, none⟩)] W fun e W' => e = .returned (.bool true) ∧ J (w2.heap.size + 1) tot W' := fun W gw cw hI hJ0 ho h1 h2 => by
    have hat : FromAt F A n c rows Ar nr cr N q l tot w00 w2 M w.heap.size bc (w2.heap.size + 1) w.heap.size w2.heap.size (w2.heap.size + 1 + 1) gf (J (w2.heap.size + 1)) nr 0 :=
      from_calls F A n c rows Ar nr cr N q l tot w00 w2 M w.heap.size bc (w2.heap.size + 1) w.heap.size w2.heap.size (w2.heap.size + 1 + 1) gf (J (w2.heap.size + 1)) k1 hq HGR.out hN0 hN9 hnr htot hC hR0
        (fun k X Y row => HJ.out _ k X Y row (by omega)) (fun k W1 gx c hk => HY.out _ k W1 gx c hk (by omega)) nr 0 (by omega)
    have h9 := hat 0 W gw cw (Nat.dvd_zero _) (by omega) hI hJ0 ho h1 h2
    rw [show ((0 : Nat) : Int) = 0 from rfl, Nat.zero_add, htq] at h9
    exact h9.mono fun e W' h => ⟨h.1, h.2.1⟩
  have HFC := hidd hfc
  have HSZ5 := hidd hsz5
  have hlt5 : w.heap.size ≤ w5.heap.size := by omega
  have hne5 : w5.heap.size ≠ w2.heap.size + 1 := by omega
  clear hfc hw5 hmk hbt hI5 hsz5
  have hmk := mk_int N (by omega)
  refine wp_region_X (S := fun w' => Kpt (w2.heap.size + 1 + 1) M w5 w') 4 (by kernel_rfl) (by rintro ⟨_, _, h0⟩; have h1 := h0.1; obtain ⟨_, h2⟩ := h1; cases h2) (Kpt.drew _ _ _) (fun hHeld => ?_)
  refine wpAnyX_take (i := 0) (oi := ⟨some 17, _, _, _, _, _⟩) (v := ?_) rfl (by kernel_rfl) (by kernel_rfl) (by kernel_rfl) (by decide) (by kernel_rfl) (fun _ _ _ h => h) (Or.inl ⟨by rfl, ?_⟩) hHeld ?_
  rotate_left
  · (intro w1 hS1; have hf9 := hS1.bx hb6 hMf; have hc9 := hS1.bx hc5 hMc; first | (go_simp; done) | (go_simp; with_reducible rfl))
  try simp only [Act.put, List.setIfInBounds_toArray, List.set_cons_zero, List.set_cons_succ]
  refine wpAnyX_take (i := 1) (oi := ⟨some 18, _, _, _, _, _⟩) (v := ?_) rfl (by kernel_rfl) (by kernel_rfl) (by kernel_rfl) (by decide) (by kernel_rfl) (fun _ _ _ h => h) (Or.inl ⟨by rfl, ?_⟩) hHeld ?_
  rotate_left
  · (intro w1 hS1; have hf9 := hS1.bx hb6 hMf; have hc9 := hS1.bx hc5 hMc; first | (go_simp; done) | (go_simp; with_reducible rfl))
  try simp only [Act.put, List.setIfInBounds_toArray, List.set_cons_zero, List.set_cons_succ]
  refine wpAnyX_take (i := 2) (oi := ⟨some 19, _, _, _, _, _⟩) (v := ?_) rfl (by kernel_rfl) (by kernel_rfl) (by kernel_rfl) (by decide) (by kernel_rfl) (fun _ _ _ h => h) (Or.inl ⟨by rfl, ?_⟩) hHeld ?_
  rotate_left
  · (intro w1 hS1; have hf9 := hS1.bx hb6 hMf; have hc9 := hS1.bx hc5 hMc; first | (go_simp; done) | (go_simp; with_reducible rfl))
  try simp only [Act.put, List.setIfInBounds_toArray, List.set_cons_zero, List.set_cons_succ]
  refine wpAnyX_one (i := 3) (o := ⟨some 20, _, _, _, _, _⟩) (by kernel_rfl) (by decide) rfl (fun K hK => ?_)
  go_simp
  clear hHeld
  refine hK.out _ _ hK6 (fun hHeld => ?_)
  clear hK K
  try simp only [Act.put, List.setIfInBounds_toArray, List.set_cons_zero, List.set_cons_succ]
  refine wpAnyX_t (by kernel_rfl) ?_
  refine wpOp_wide 0 (by rintro ⟨_, _, h0⟩; have h1 := h0.1; obtain ⟨_, h2⟩ := h1; cases h2) (wpOp_step rfl (fun K hK => ?_))
  go_simp
  go_at_call 104
  refine (HFC.out _ _ _ HI6.out HJ6.out inferInstance hlt5 hne5).mono ?_
  rintro e W' ⟨rfl, hJ9⟩
  refine hK _ _ ?_
  clear hK K
  try simp only [Act.put, List.setIfInBounds_toArray, List.set_cons_zero, List.set_cons_succ]
  refine wpAnyX_done (by kernel_rfl) ?_ _
  go_end0
  exact ⟨⟨_, rfl⟩, w2.heap.size + 1, by have := hB2.out.size; omega, hJ9⟩

set_option maxRecDepth 100000 in
set_option maxHeartbeats 4000000 in
theorem walk_calls (F : Fd) (A : Option Addr) (n c : Nat) (Ar : Option Addr) (nr cr : Nat) (N : Int) (w : World) :
    Calls Try.prog 66 #[.agg #[.int .i64 F.p, .int .i64 F.m, .slice A n c, .int .i64 N, .slice Ar nr cr]] w fun e w' => e = .returned (.func (.func 103) #[] #[.pointer (some ⟨w.heap.size, 0, none⟩)]) ∧ Bx w' w.heap.size #[.int .i64 F.p, .int .i64 F.m, .slice A n c, .int .i64 N, .slice Ar nr cr] 27 ∧ Ext w w' := by
  go_enter Try.func66, Try.ntmps66
  go_wp2
  go_ret
  exact ⟨rfl, inferInstance, Bel.ext inferInstance⟩
theorem enter_iter (args : Array Value) (w : World) : Sem.run Try.prog (callFunc 103 args) w = .ok (.enter 103 args) w := by go_simp

end Go.Proofs.Ytcigdhmecfhndaa

namespace Go.Proofs.Ytcigdhmecfhndaa
open Go.RowKit
attribute [local go_sem] cell_bx froz_bx cell_own froz_own cell_rd cell_cel ints_get ints_set cell_ownv froz_ownv eql_nil_int Oper.semAt_some
set_option linter.unusedVariables false
set_option linter.unusedSimpArgs false

def noDeferB (ops : Array Oper) : Bool := ops.all fun o => match o.op with | .defer _ => false | _ => true
theorem noDeferB_spec {ops : Array Oper} (h : noDeferB ops = true) (i : Nat) (o : Oper) (ho : ops[i]? = some o) (c : Call) : o.op ≠ .defer c := by
  intro e
  unfold noDeferB at h
  rw [Array.all_eq_true_iff_forall_mem] at h
  have := h o (Array.mem_of_getElem? ho)
  rw [e] at this
  cases this
theorem region_round_E {P : Program} {id : Nat} {ops : Array Oper} {Q : Exit → Act → World → Prop} {S : World → Prop} {a : Act} {w : World} (t l n : Nat) (hm : P.follows .mixedOrders = true) (hno : ¬ LetsOut Q) (hd : noDeferB ops = true) (hS : S w.drew)
    (h : S w.drew → wpAnyE P .any ops Q S t ops.size (Array.replicate ops.size false) a w.drew) : (Code.region id ops true).wpIn (Fence.wide.inRound l) n P Q a w :=
  region_round l n hm hno (noDeferB_spec hd) (wpAny_of_E _ _ _ _ (h hS))

def wdS (F : Fd) (rows : List (List Int)) (N : Nat) (i : Nat) (out : List Int) : List Int := out.set (wgt (F.word rows N (i : Int))) (gt out (wgt (F.word rows N (i : Int))) + 1)
/-- how many of the first k words have each weight -/
def Fd.wdist (F : Fd) (rows : List (List Int)) (N k : Nat) : List Int := loopN k (wdS F rows N) (List.replicate (N + 1) 0)
theorem wdist_len (F : Fd) (rows : List (List Int)) (N k : Nat) : (F.wdist rows N k).length = N + 1 := by
  rw [Fd.wdist, loopN_len _ _ _ fun i x => by rw [wdS, List.length_set], List.length_replicate]
theorem wdist_rng (F : Fd) (rows : List (List Int)) (N : Nat) : ∀ k j, 0 ≤ gt (F.wdist rows N k) j ∧ gt (F.wdist rows N k) j ≤ k
  | 0, j => by
    have : gt (F.wdist rows N 0) j = 0 := by
      simp only [Fd.wdist, loopN, gt, List.getD_eq_getElem?_getD, List.getElem?_replicate]
      split <;> rfl
    omega
  | k + 1, j => by
    have ih := wdist_rng F rows N k
    rw [Fd.wdist, loopN_succ, ← Fd.wdist, wdS]
    have h1 := ih j
    by_cases hd : wgt (F.word rows N (k : Int)) < (F.wdist rows N k).length
    · rw [gt_set _ _ _ _ hd]
      split
      · have := ih (wgt (F.word rows N (k : Int))); omega
      · omega
    · rw [List.set_eq_of_length_le (by omega)]; omega
theorem wgt_le (a : List Int) : wgt a ≤ a.length := wgtN_le a _

set_option maxRecDepth 100000 in
set_option maxHeartbeats 8000000 in
theorem eweights_calls (F : Fd) (A : Option Addr) (n c : Nat) (rows : List (List Int)) (Ar : Option Addr) (nr cr : Nat) (N : Nat) (w : World) (hn : F.md.length = n) (hn2 : n ≤ 1000000000000000000) (hr : rows.length = nr) (hr2 : nr ≤ 1000000000000000000) (hrl : ∀ k, (gr rows k).length ≤ 1000000000000000000) (hok : sizE F (N : Int) rows = 0) [hA : Sl w A F.md] [hR : Sls w Ar rows] :
    Calls Try.prog 19 #[.agg #[.int .i64 F.p, .int .i64 F.m, .slice A n c, .int .i64 (N : Int), .slice Ar nr cr]] w fun e w' => ∃ g, e = .returned (.tuple #[.slice (some ⟨g, 0, none⟩) (N + 1) (N + 1), .int .i64 0]) ∧ Own w' g (F.wdist rows N (sizV F (N : Int) rows).toNat) ∧ Ext w w' := by
  obtain ⟨hcod, hv1, hv2, hv3⟩ := sizE_ok hok
  obtain ⟨k1, k2, k3, k4, k5, k6⟩ := codE_ok hcod
  obtain ⟨q, hq⟩ : ∃ q : Nat, F.q = q := ⟨F.q.toNat, by have := k1.good.q2; omega⟩
  obtain ⟨tot, htv⟩ : ∃ tot : Nat, sizV F (N : Int) rows = tot := ⟨(sizV F (N : Int) rows).toNat, by omega⟩
  have htq : q ^ nr = tot := by
    rw [htv, hq, hr] at hv3
    have : ((q ^ nr : Nat) : Int) = (tot : Int) := by rw [Int.natCast_pow]; exact hv3.symm
    exact Int.ofNat.inj this
  have htot : tot ≤ 65536 := by omega
  have hN64 : N ≤ 64 := by omega
  have hmk := mk_int (N + 1) (by omega)
  have hcast : ((N + 1 : Nat) : Int) = (N : Int) + 1 := by omega
  rw [hcast] at hmk
  have HRL := hidd hrl
  have HCOD := hidd hcod
  rw [htv]
  have hvi : Value.int .i64 (sizV F (N : Int) rows) = .int .i64 (tot : Int) := by rw [htv]
  clear hrl k4 k5 k6 hcast hcod hv1 hv2 hv3 htv
  refine callsIn_wide.1 (callsIn_of_wp_marks (F := Fence.wide) (n := 0) Try.func19 rfl trivial (wpIn_wide.2 ?_))
  simp only [Try.ntmps19, List.size_toArray, List.length_cons, List.length_nil, Nat.reduceAdd, Nat.reduceSub, Array.replicate_succ, Array.replicate_zero, List.push_toArray, List.append_toArray, List.nil_append, List.cons_append]
  go_wp2_with (first
    | (go_at_call 65; refine (csize_calls F A n c rows Ar nr cr N _ hn hn2 hr hr2 HRL.out).mono ?_; rintro e w1 ⟨rfl, hx1⟩; rw [hok, hvi])
    | (go_at_call 66; refine (walk_calls F A n c Ar nr cr N _).mono ?_; rintro e w3 ⟨rfl, hbc3, hx3⟩))
  have ho3 : Own w3 w1.heap.size (List.replicate (N + 1) 0) := inferInstance
  have hb63 : Bx w3 (w1.heap.size + 1) #[.slice (some ⟨w1.heap.size, 0, none⟩) (N + 1) (N + 1)] 22 := inferInstance
  have hB3 : Bel w w3 := inferInstance
  have hog := (lo_own (h := ho3)).out
  have hb6l := (lo_bx (h := hb63)).out
  have hbc4 : Bx w3 (w1.heap.size + 1 + 1) #[.int .i64 F.p, .int .i64 F.m, .slice A n c, .int .i64 (N : Int), .slice Ar nr cr] 27 := by
    have := hbc3
    simp only [World.size_alloc] at this
    exact this
  have hbcl := (lo_bx (h := hbc4)).out
  have hw1 : w.heap.size < w1.heap.size := by have := hx1.out.size; simp only [World.size_alloc] at this; omega
  have HMK := hidd hmk
  clear hmk hx1 hx3 hvi
  refine range_wp (gf := 103) (lb := #[.pointer (some ⟨w1.heap.size + 1 + 1, 0, none⟩)]) rfl enter_iter rfl (fun b => b = w1.heap.size) (fun b hb => by omega) tot (fun k => F.word rows N (k : Int)) N
    (fun _ k W => Bel w W ∧ Bx W (w1.heap.size + 1) #[.slice (some ⟨w1.heap.size, 0, none⟩) (N + 1) (N + 1)] 22 ∧ Own W w1.heap.size (F.wdist rows N k)) ?_ ?_ ?_ ?a1 ?hassign ?hbody ?hdone
  · rintro bt k X Y row hbt ⟨i1, i2, i3⟩ hgr hr
    have hne : ∀ b, b < w3.heap.size → some b ≠ row := fun b hb e => by rcases hr b e.symm with h | h <;> omega
    have hsz := i1.out.size
    have hl := (lo_own (h := i3)).out
    refine ⟨⟨hgr.os.trans i1.out.os, hgr.tape.trans i1.out.tape, hgr.output.trans i1.out.output, Nat.le_trans hsz hgr.size, fun b hb => (hgr.block b (by omega) (hne b (by omega))).trans (i1.out.block b hb)⟩, ⟨(hgr.block _ (blk_lt i2.out) (hne _ hb6l)).trans i2.out⟩, ⟨i3.out.imp fun _ q => (hgr.block _ hl (hne _ hog)).trans q⟩⟩
  · exact fun bt _ => ⟨hB3, hb63, ho3⟩
  · intro l J W hbW hszW hJ hY h0
    have hBW : Bel w W := hB3.then_ ⟨hbW⟩
    have hbcW : Bx W (w1.heap.size + 1 + 1) #[.int .i64 F.p, .int .i64 F.m, .slice A n c, .int .i64 (N : Int), .slice Ar nr cr] 27 := ⟨blk_below hbc4.out hbW⟩
    simp only [List.append_toArray, List.cons_append, List.nil_append]
    exact iter_calls F A n c rows Ar nr cr N q l tot w W (fun b => b = w1.heap.size ∨ b = w3.heap.size + 1) (w1.heap.size + 1 + 1) J hn hn2 hr HCOD.out hq htq htot (fun b hb => by omega) (by omega) (fun b hb => by omega) hBW hbcW hA hR hJ hY h0
  case hassign =>
    intro l x y W K hK
    gi_wp2
    exact hK
  case hbody =>
    rintro l bt k W1 gx c9 hk hbt hbtl ⟨i1, i2, i3⟩ hox hgx hne
    have hwl : wgt (F.word rows N (k : Int)) ≤ N := by have := wgt_le (F.word rows N (k : Int)); rw [word_len] at this; exact this
    have hrg := wdist_rng F rows N k (wgt (F.word rows N (k : Int)))
    have hlen : wgt (F.word rows N (k : Int)) < (F.wdist rows N k).length := by rw [wdist_len]; omega
    have hin : In (wgt (F.word rows N (k : Int))) (F.wdist rows N k).length := ⟨hlen⟩
    obtain ⟨hr0, hr1⟩ := hrg
    have hlt : ((wgt (F.word rows N (k : Int)) : Nat) : Int) < (N : Int) + 1 := by omega
    obtain ⟨d, hd⟩ : ∃ d, d = wgt (F.word rows N (k : Int)) := ⟨_, rfl⟩
    have HD := hidd hd
    have hwr : IntKind.i64.wrap (gt (F.wdist rows N k) (wgt (F.word rows N (k : Int))) + 1) = gt (F.wdist rows N k) (wgt (F.word rows N (k : Int))) + 1 := wr_in (by omega) (by omega)
    have hX : Near W1.heap.size W1 W1 := ⟨Below.refl _ _⟩
    clear hd
    refine wpIn_block ?_
    refine region_round_E (S := fun w' => Near W1.heap.size W1 w') 7 l 0 (by kernel_rfl) (by rintro ⟨_, _, h0⟩; have h1 := h0.1; cases h1) (by kernel_rfl) inferInstance (fun hHeld => ?_)
    refine wpAnyE_take (i := 0) (oi := ⟨some 25, _, _, _, _, _⟩) (v := ?_) rfl (by kernel_rfl) (by kernel_rfl) (by kernel_rfl) (by decide) (by kernel_rfl) (fun _ _ _ h => h) (Or.inl ⟨by rfl, ?_⟩) hHeld ?_
    rotate_left
    · (intro w1 hS1; first | (go_simp; done) | (go_simp; with_reducible rfl))
    try simp only [Act.put, List.setIfInBounds_toArray, List.set_cons_zero, List.set_cons_succ]
    refine wpAnyE_take (i := 1) (oi := ⟨some 26, _, _, _, _, _⟩) (v := ?_) rfl (by kernel_rfl) (by kernel_rfl) (by kernel_rfl) (by decide) (by kernel_rfl) (fun _ _ _ h => h) (Or.inl ⟨by rfl, ?_⟩) hHeld ?_
    rotate_left
    · (intro w1 hS1; first | (go_simp; done) | (go_simp; with_reducible rfl))
    try simp only [Act.put, List.setIfInBounds_toArray, List.set_cons_zero, List.set_cons_succ]
    refine wpAnyE_one (i := 2) (o := ⟨some 27, _, _, _, _, _⟩) (by kernel_rfl) rfl (fun K hK => ?_)
    go_simp
    (go_at_call 67; refine (weight_calls (F.word rows N (k : Int)) _ N c9 _ (word_len F rows N k) (by omega)).mono ?_; rintro e w4 ⟨rfl, hx4⟩)
    clear hHeld
    refine hK.out _ _ inferInstance (fun hHeld => ?_)
    clear hK K
    try simp only [Act.put, List.setIfInBounds_toArray, List.set_cons_zero, List.set_cons_succ]
    refine wpAnyE_take (i := 3) (oi := ⟨some 28, _, _, _, _, _⟩) (v := ?_) rfl (by kernel_rfl) (by kernel_rfl) (by kernel_rfl) (by decide) (by kernel_rfl) (fun _ _ _ h => h) (Or.inl ⟨by rfl, ?_⟩) hHeld ?_
    rotate_left
    · (intro w1 hS1; first | (go_simp; done) | (go_simp; with_reducible rfl))
    try simp only [Act.put, List.setIfInBounds_toArray, List.set_cons_zero, List.set_cons_succ]
    refine wpAnyE_take (i := 4) (oi := ⟨some 29, _, _, _, _, _⟩) (v := ?_) rfl (by kernel_rfl) (by kernel_rfl) (by kernel_rfl) (by decide) (by kernel_rfl) (fun _ _ _ h => h) (Or.inl ⟨by rfl, ?_⟩) hHeld ?_
    rotate_left
    · (intro w1 hS1; first | (go_simp; done) | (go_simp; with_reducible rfl))
    try simp only [Act.put, List.setIfInBounds_toArray, List.set_cons_zero, List.set_cons_succ]
    refine wpAnyE_take (i := 5) (oi := ⟨some 30, _, _, _, _, _⟩) (v := ?_) rfl (by kernel_rfl) (by kernel_rfl) (by kernel_rfl) (by decide) (by kernel_rfl) (fun _ _ _ h => h) (Or.inl ⟨by rfl, ?_⟩) hHeld ?_
    rotate_left
    · (intro w1 hS1; first | (go_simp; done) | (go_simp; with_reducible rfl))
    try simp only [Act.put, List.setIfInBounds_toArray, List.set_cons_zero, List.set_cons_succ]
    refine wpAnyE_take (i := 6) (oi := ⟨some 31, _, _, _, _, _⟩) (v := ?_) rfl (by kernel_rfl) (by kernel_rfl) (by kernel_rfl) (by decide) (by kernel_rfl) (fun _ _ _ h => h) (Or.inl ⟨by rfl, ?_⟩) hHeld ?_
    rotate_left
    · (intro w1 hS1; first | (go_simp; done) | (go_simp; with_reducible rfl))
    try simp only [Act.put, List.setIfInBounds_toArray, List.set_cons_zero, List.set_cons_succ]
    refine wpAnyE_last (o := ⟨none, _, _, _, _, _⟩) (by kernel_rfl) rfl (fun K hK => ?_)
    go_simp
    refine hK.out _ _ ?_
    clear hK K
    try simp only [Act.put, List.setIfInBounds_toArray, List.set_cons_zero, List.set_cons_succ]
    refine wpAnyE_done (by kernel_rfl) ?_ _
    have hx5 : Bel W1 w4 := ⟨undrew hx4.out⟩
    have hB4 : Bel w w4 := i1.then_ hx5
    have hb64 : Bx w4 (w1.heap.size + 1) #[.slice (some ⟨w1.heap.size, 0, none⟩) (N + 1) (N + 1)] 22 := ⟨blk_below i2.out hx5.out⟩
    have ho4 : Own w4 w1.heap.size (F.wdist rows N k) := ⟨i3.out.imp fun _ q => blk_below q hx5.out⟩
    have hfr : Fr w w1.heap.size := ⟨by omega⟩
    have hap : Apart (w1.heap.size + 1) w1.heap.size := ⟨by omega⟩
    refine ⟨rfl, ⟨?_, ?_, ?_⟩, (Ext.kpt hx5.ext).trans (kpt_set _ rfl)⟩
    · clear hx4 hX hx5 i1; infer_instance
    · clear hx4 hX hx5 i2; infer_instance
    · have h9 := own_set_ ho4 (wgt (F.word rows N (k : Int))) (gt (F.wdist rows N k) (wgt (F.word rows N (k : Int))) + 1) hlen
      have e9 : F.wdist rows N (k + 1) = (F.wdist rows N k).set (wgt (F.word rows N (k : Int))) (gt (F.wdist rows N k) (wgt (F.word rows N (k : Int))) + 1) := rfl
      rw [e9]
      exact h9
  case hdone =>
    rintro bt D W ⟨i1, i2, i3⟩ hbt hD hKD
    simp only [Exit.inBlock, Exit.then]
    go_at_K
    go_wp2
    refine ⟨by simp, .inl ⟨_, _, rfl, run_takeDeferred hKD, ?_⟩⟩
    refine ⟨_, results_tmp2 rfl _ _ _, w1.heap.size, rfl, ?_, ?_⟩
    · exact ⟨i3.out.imp fun _ q => (World.putObj_heap_other (by omega)).trans q⟩
    · exact ⟨i1.out.os, i1.out.tape, i1.out.output, by rw [put_size]; exact i1.out.size, fun b hb => (World.putObj_heap_other (by omega)).trans (i1.out.block b hb)⟩

end Go.Proofs.Ytcigdhmecfhndaa

namespace Go.Proofs.Ytcigdhmecfhndaa
open Go.RowKit
attribute [local go_sem] cell_bx froz_bx cell_own froz_own cell_rd cell_cel ints_get ints_set cell_ownv froz_ownv eql_nil_int
set_option linter.unusedVariables false
set_option linter.unusedSimpArgs false

set_option maxRecDepth 100000 in
set_option maxHeartbeats 4000000 in
theorem eweights_no (F : Fd) (A : Option Addr) (n c : Nat) (rows : List (List Int)) (Ar : Option Addr) (nr cr : Nat) (N : Int) (w : World) (hn : F.md.length = n) (hn2 : n ≤ 1000000000000000000) (hr : rows.length = nr) (hr2 : nr ≤ 1000000000000000000) (hrl : ∀ k, (gr rows k).length ≤ 1000000000000000000) (hno : sizE F N rows ≠ 0) [hA : Sl w A F.md] [hR : Sls w Ar rows] :
    Calls Try.prog 19 #[.agg #[.int .i64 F.p, .int .i64 F.m, .slice A n c, .int .i64 N, .slice Ar nr cr]] w fun e w' => e = .returned (.tuple #[.slice none 0 0, .int .i64 (sizE F N rows)]) ∧ Ext w w' := by
  have hb : (sizE F N rows != 0) = true := by simp [hno]
  go_enter Try.func19, Try.ntmps19
  clear hno
  go_wp2_with (go_at_call 65; refine (csize_calls F A n c rows Ar nr cr N _ hn hn2 hr hr2 hrl).mono ?_; rintro e w1 ⟨rfl, hx1⟩)
  go_ret2
  exact ⟨rfl, Bel.ext inferInstance⟩

set_option maxRecDepth 100000 in
set_option maxHeartbeats 4000000 in
theorem weights23_no (F : Fd) (A : Option Addr) (n c : Nat) (rows : List (List Int)) (Ar : Option Addr) (nr cr : Nat) (N : Int) (w : World) (hn : F.md.length = n) (hn2 : n ≤ 1000000000000000000) (hr : rows.length = nr) (hr2 : nr ≤ 1000000000000000000) (hrl : ∀ k, (gr rows k).length ≤ 1000000000000000000) (hno : sizE F N rows ≠ 0) [hA : Sl w A F.md] [hR : Sls w Ar rows] :
    Calls Try.prog 20 #[.agg #[.int .i64 F.p, .int .i64 F.m, .slice A n c, .int .i64 N, .slice Ar nr cr]] w fun e w' => e = .returned (.tuple #[.slice none 0 0, .int .i64 (sizE F N rows)]) ∧ Ext w w' := by
  have hb : (sizE F N rows != 0) = true := by simp [hno]
  go_enter Try.func20, Try.ntmps20
  clear hno
  go_wp2_with (go_at_call 28; refine (words12_calls F A n c rows Ar nr cr N _ hn hn2 hr hr2 hrl).mono ?_; rintro e w1 ⟨B, kB, rfl, hkB, hsB, hx1⟩)
  go_ret2
  exact ⟨rfl, Bel.ext inferInstance⟩

set_option maxRecDepth 100000 in
set_option maxHeartbeats 4000000 in
theorem weights23_calls (F : Fd) (A : Option Addr) (n c : Nat) (rows : List (List Int)) (Ar : Option Addr) (nr cr : Nat) (N : Nat) (w : World) (hn : F.md.length = n) (hn2 : n ≤ 1000000000000000000) (hr : rows.length = nr) (hr2 : nr ≤ 1000000000000000000) (hrl : ∀ k, (gr rows k).length ≤ 1000000000000000000) (hok : sizE F (N : Int) rows = 0) [hA : Sl w A F.md] [hR : Sls w Ar rows] :
    Calls Try.prog 20 #[.agg #[.int .i64 F.p, .int .i64 F.m, .slice A n c, .int .i64 (N : Int), .slice Ar nr cr]] w fun e w' => ∃ g, e = .returned (.tuple #[.slice (some ⟨g, 0, none⟩) (N + 1) (N + 1), .int .i64 0]) ∧ Fr w g ∧ Own w' g (prof (wrdL F (N : Int) rows) (List.replicate N 0)) ∧ Ext w w' := by
  obtain ⟨hcod, hv1, hv2, hv3⟩ := sizE_ok hok
  obtain ⟨k1, k2, k3, k4, k5, k6⟩ := codE_ok hcod
  have hmk := mk_int N (by omega)
  have hwl : (wrdL F (N : Int) rows).length ≤ 1000000000000000 := by
    rw [wrdL, if_pos hok, words_len]; omega
  have hwe : ∀ k, (gr (wrdL F (N : Int) rows) k).length ≤ 1000000000000000000 := fun k => by
    rw [wrdL, if_pos hok]
    by_cases hk : k < (sizV F (N : Int) rows).toNat
    · rw [words_gr _ _ _ _ hk, word_len]; omega
    · rw [gr_out (by rw [words_len]; omega)]; simp
  have HWL := hidd hwl
  have HWE := hidd hwe
  have hN64 : N ≤ 64 := by omega
  clear hwl hwe hv1 hv2 hv3 k4 k5 k6 hcod
  go_enter Try.func20, Try.ntmps20
  go_wp2_with (first
    | (go_at_call 28; refine (words12_calls F A n c rows Ar nr cr N _ hn hn2 hr hr2 hrl).mono ?_; rintro e w1 ⟨B, kB, rfl, hkB, hsB, hx1⟩; rw [hok])
    | (go_at_call 68; refine (prof23_calls (wrdL F (N : Int) rows) (List.replicate N 0) B _ _ kB N _ _ rfl HWL.out (by simp) (by omega) HWE.out).mono ?_; rintro e w2 ⟨g, rfl, hf2, ho2, hx2⟩))
  go_ret2
  have hB1 : Bel w w1 := ⟨by have h1 : Bel w (w.alloc (.cells #[.int .i64 F.p, .int .i64 F.m, .slice A n c, .int .i64 (N : Int), .slice Ar nr cr] 27)) := ⟨(Below.refl _ w).alloc (Nat.le_refl _) _⟩; exact (h1.then_ ⟨hx1.out⟩).out⟩
  exact ⟨g, rfl, ⟨by have := hf2.out; have := hB1.out.size; simp only [World.size_alloc] at *; omega⟩, ho2, Bel.ext inferInstance⟩

open Classical in
/-- the law's small -/
noncomputable def smallB (F : Fd) (N : Int) (rows : List (List Int)) : Bool := decide (sizE F N rows ≠ 0 ∨ sizV F N rows ≤ 4096)

set_option maxRecDepth 100000 in
set_option maxHeartbeats 4000000 in
theorem small_calls (F : Fd) (A : Option Addr) (n c : Nat) (rows : List (List Int)) (Ar : Option Addr) (nr cr : Nat) (N : Int) (w : World) (hn : F.md.length = n) (hn2 : n ≤ 1000000000000000000) (hr : rows.length = nr) (hr2 : nr ≤ 1000000000000000000) (hrl : ∀ k, (gr rows k).length ≤ 1000000000000000000) [hA : Sl w A F.md] [hR : Sls w Ar rows] :
    Calls Try.prog 17 #[.agg #[.int .i64 F.p, .int .i64 F.m, .slice A n c, .int .i64 N, .slice Ar nr cr]] w fun e w' => e = .returned (.bool (smallB F N rows)) ∧ Ext w w' := by
  by_cases hok : sizE F N rows = 0
  · by_cases hv : sizV F N rows ≤ 4096
    · have hs : smallB F N rows = true := decide_eq_true (.inr hv)
      have HS := hidd hs
      clear hs
      go_enter Try.func17, Try.ntmps17
      go_wp2_with (go_at_call 22; refine (size12_calls F A n c rows Ar nr cr N _ hn hn2 hr hr2 hrl).mono ?_; rintro e w1 ⟨rfl, hx1⟩; rw [hok])
      go_ret
      exact ⟨ret_bool HS.out.symm, Bel.ext inferInstance⟩
    · have hs : smallB F N rows = false := decide_eq_false (fun h => h.elim (fun h => h hok) hv)
      have HS := hidd hs
      clear hs
      go_enter Try.func17, Try.ntmps17
      go_wp2_with (go_at_call 22; refine (size12_calls F A n c rows Ar nr cr N _ hn hn2 hr hr2 hrl).mono ?_; rintro e w1 ⟨rfl, hx1⟩; rw [hok])
      go_ret
      exact ⟨ret_bool (by rw [HS.out]; exact decide_eq_false (by omega)), Bel.ext inferInstance⟩
  · have hb : (sizE F N rows != 0) = true := by simp [hok]
    have hs : smallB F N rows = true := decide_eq_true (.inl hok)
    have HS := hidd hs
    clear hs hok
    go_enter Try.func17, Try.ntmps17
    go_wp2_with (go_at_call 22; refine (size12_calls F A n c rows Ar nr cr N _ hn hn2 hr hr2 hrl).mono ?_; rintro e w1 ⟨rfl, hx1⟩)
    go_ret
    exact ⟨ret_bool HS.out.symm, Bel.ext inferInstance⟩

/-- the field of two elements -/
def F2 : Fd := ⟨2, 1, []⟩
theorem f2_ok : RefOK F2 := ⟨by decide, by decide, fun _ => rfl, fun h => absurd rfl h⟩
theorem f2_canon : F2.canon [[1]] 1 = [[1]] := by kernel_rfl
theorem f2_code : codE F2 1 [[1]] = 0 := by
  have hS : Shp 1 [[1]] := ⟨by omega, by omega, by simp, fun k hk => by
    obtain rfl : k = 0 := by simpa using hk
    rfl⟩
  have hq : F2.q = 2 := by kernel_rfl
  have hE : EntR F2.q [[1]] := fun k hk => by
    obtain rfl : k = 0 := by simpa using hk
    intro i hi
    obtain rfl : i = 0 := by simpa [gr] using hi
    rw [hq]
    exact ⟨by decide, by decide⟩
  have hm : matE F2 1 [[1]] = 0 := by rw [matE, if_pos f2_ok, if_pos hS, if_pos hE]
  rw [codE, if_pos f2_ok, if_pos (by omega), spcE, if_pos hm]
  exact if_pos f2_canon
theorem f2_size : sizE F2 1 [[1]] = 0 ∧ sizV F2 1 [[1]] = 2 := by
  have h : expL F2.q ([[1]] : List (List Int)).length 1 = some 2 := by kernel_rfl
  constructor
  · rw [sizE, if_pos f2_code, expE, h]; rfl
  · rw [sizV, if_pos f2_code, expV, h]; rfl
theorem f2_dist : F2.wdist [[1]] 1 2 = [1, 1] := by kernel_rfl

set_option maxRecDepth 100000 in
set_option maxHeartbeats 4000000 in
theorem alive_calls (w : World) : Calls Try.prog 18 #[] w fun e w' => e = .returned (.bool true) ∧ Ext w w' := by
  have ho1 : Own (w.alloc (.cells #[.int .i64 1] 3)) w.heap.size [1] := own_new (xs := [1])
  obtain ⟨W, hW⟩ : ∃ W, W = (w.alloc (.cells #[.int .i64 1] 3)).alloc (.cells #[.slice (some ⟨w.heap.size, 0, none⟩) 1 1] 22) := ⟨_, rfl⟩
  have hv : OwnV W (w.heap.size + 1) 22 [.slice (some ⟨w.heap.size, 0, none⟩) 1 1] := by rw [hW]; exact ownv_new (cs := [.slice (some ⟨w.heap.size, 0, none⟩) 1 1])
  have hi : Inn W [.slice (some ⟨w.heap.size, 0, none⟩) 1 1] [[1]] := Inn.snoc (xss := []) (cs := []) inn_nil rfl (by rw [hW]; infer_instance)
  have hsl : Sls W (some ⟨w.heap.size + 1, 0, none⟩) [[1]] := hv.sls hi
  have hsn : Sl W none F2.md := (inferInstance : Sl W none [])
  have hBW : Bel w W := by rw [hW]; infer_instance
  have h := eweights_calls F2 none 0 0 [[1]] (some ⟨w.heap.size + 1, 0, none⟩) 1 1 1 W rfl (by omega) rfl (by omega) (fun k => by
    by_cases hk : k = 0
    · subst hk; simp [gr]
    · rw [gr_out (by simp; omega)]; simp) f2_size.1
  have e1 : (sizV F2 ((1 : Nat) : Int) [[1]]).toNat = 2 := by rw [show ((1 : Nat) : Int) = 1 from rfl, f2_size.2]; rfl
  rw [e1, f2_dist] at h
  change Calls _ _ #[.agg #[.int .i64 2, .int .i64 1, .slice none 0 0, .int .i64 1, .slice (some ⟨w.heap.size + 1, 0, none⟩) 1 1]] W (fun e w' => ∃ g, e = .returned (.tuple #[.slice (some ⟨g, 0, none⟩) 2 2, .int .i64 0]) ∧ Own w' g [1, 1] ∧ Ext W w') at h
  have H := hidd h
  clear h e1 hv hi hsl hsn ho1
  go_enter Try.func18, Try.ntmps18
  go_wp2_with (fail)
  rw [← hW]
  refine H.out.mono ?_
  rintro e w1 ⟨g, rfl, ho, hx⟩
  have hg0 : gt [1, 1] 0 = 1 := rfl
  have hg1 : gt [1, 1] 1 = 1 := rfl
  have hBx : Bel w w1 := hBW.then_ ⟨hx.out⟩
  clear hW H
  simp only []
  go_at_K
  go_wp2
  go_ret
  exact ⟨rfl, hBx.ext⟩

end Go.Proofs.Ytcigdhmecfhndaa

namespace Go.Proofs.Ytcigdhmecfhndaa

/-- l is reduced in its first t columns, with the pivots pv -/
structure Red (F : Fd) (n m t : Nat) (l : List (List Int)) (pv : List Int) : Prop where
  grid : Grid n m l
  ent : EntR F.q l
  len : pv.length ≤ n
  rng : ∀ a, a < pv.length → 0 ≤ gt pv a ∧ gt pv a < t ∧ gt pv a < m
  inc : ∀ a b, a < b → b < pv.length → gt pv a < gt pv b
  unit : ∀ a, a < pv.length → ∀ i, i < n → gt (gr l i) (gt pv a).toNat = if i = a then 1 else 0
  lead : ∀ a, a < pv.length → ∀ j : Nat, (j : Int) < gt pv a → gt (gr l a) j = 0
  rest : ∀ i, pv.length ≤ i → i < n → ∀ j, j < t → gt (gr l i) j = 0

theorem gr_swap {l : List (List Int)} {r k : Nat} (hr : r < l.length) (hk : k < l.length) (i : Nat) : gr (swapR l r k) i = if i = k then gr l r else if i = r then gr l k else gr l i := by
  rw [swapR, gr_set _ _ _ _ (by rw [List.length_set]; exact hk), gr_set _ _ _ _ hr]
  by_cases e : k = i
  · rw [if_pos e, if_pos e.symm]
  · rw [if_neg e, if_neg (Ne.symm e)]
    by_cases e2 : r = i
    · rw [if_pos e2, if_pos e2.symm]
    · rw [if_neg e2, if_neg (Ne.symm e2)]

theorem clear_spec {F : Fd} (hO : F.Ok) {n m t r : Nat} {l : List (List Int)} (hg : Grid n m l) (he : EntR F.q l) (hr : r < n) (ht : t < m) (h1 : gt (gr l r) t = 1) (h0 : ∀ j, j < t → gt (gr l r) j = 0) :
    ∀ c, c ≤ n → Grid n m (F.clearR t r c l) ∧ EntR F.q (F.clearR t r c l) ∧ gr (F.clearR t r c l) r = gr l r ∧ (∀ i j, j < t → gt (gr (F.clearR t r c l) i) j = gt (gr l i) j) ∧ (∀ i, c ≤ i → gr (F.clearR t r c l) i = gr l i) ∧ ∀ i, i < c → i ≠ r → gt (gr (F.clearR t r c l) i) t = 0
  | 0, _ => ⟨hg, he, rfl, fun _ _ _ => rfl, fun _ _ => rfl, fun i hi => by omega⟩
  | c + 1, hc => by
    obtain ⟨a1, a2, a3, a4, a5, a6⟩ := clear_spec hO hg he hr ht h1 h0 c (by omega)
    have hx : F.clearR t r (c + 1) l = F.clearIn t r c (F.clearR t r c l) := rfl
    generalize F.clearR t r c l = x at *
    rw [hx]
    refine ⟨a1.clearIn F t r (by omega), a2.clearIn hO t r (by rw [a1.1]; omega), ?_⟩
    have hxl := a1.1
    have hxc := a1.2 c (by omega)
    unfold Fd.clearIn
    by_cases h : c ≠ r ∧ gt (gr x c) t ≠ 0
    · rw [if_pos h]
      have hg' : ∀ i, gr (x.set c (mkL (gr x c).length (F.addToF (gr x c) (F.neg (gt (gr x c) t)) (gr x r)))) i = if c = i then mkL (gr x c).length (F.addToF (gr x c) (F.neg (gt (gr x c) t)) (gr x r)) else gr x i := fun i => gr_set _ _ _ _ (by omega)
      refine ⟨?_, ?_, ?_, ?_⟩
      · rw [hg', if_neg h.1]; exact a3
      · intro i j hj
        rw [hg']
        by_cases e : c = i
        · subst e
          rw [if_pos rfl, gt_mkL (by omega), Fd.addToF, a3, if_pos (h0 j hj)]
          exact a4 c j hj
        · rw [if_neg e]; exact a4 i j hj
      · intro i hi
        rw [hg', if_neg (by omega)]; exact a5 i (by omega)
      · intro i hi hir
        rw [hg']
        by_cases e : c = i
        · subst e
          rw [if_pos rfl, gt_mkL (by omega), Fd.addToF, a3, if_neg (by rw [h1]; decide), h1, mul_one' hO, (neg_el hO.good _).inE, add_neg' hO]
        · rw [if_neg e]; exact a6 i (by omega) hir
    · rw [if_neg h]
      refine ⟨a3, a4, fun i hi => a5 i (by omega), fun i hi hir => ?_⟩
      by_cases e : i = c
      · subst e
        exact Classical.byContradiction fun hn => h ⟨hir, hn⟩
      · exact a6 i (by omega) hir

theorem Red.step {F : Fd} (h : RefOK F) {n m t : Nat} {l : List (List Int)} {pv : List Int} (H : Red F n m t l pv) : Red F n m (t + 1) (F.elimStep t (l, pv)).1 (F.elimStep t (l, pv)).2 := by
  have hO := h.ok
  obtain ⟨hg, he, hl, hrg, hinc, hu, hld, hrs⟩ := H
  have hll := hg.1
  obtain ⟨s1, s2, s3, s4⟩ := nzAt_spec l t (l.length - pv.length) pv.length
  unfold Fd.elimStep
  simp only
  generalize nzAt l t (l.length - pv.length) pv.length = k at *
  by_cases hk : k < l.length
  · rw [if_pos hk]
    simp only
    have hk0 := s4 (by omega)
    have ht : t < m := by
      refine Classical.byContradiction fun hn => hk0 ?_
      rw [gt_out (by rw [hg.2 k (by omega)]; omega)]
    generalize hr : pv.length = r at *
    have hrl : r < l.length := by omega
    have hsw := gr_swap (l := l) hrl hk
    have hg1 : Grid n m (swapR l r k) := hg.swap (by omega) (by omega)
    have he1 : EntR F.q (swapR l r k) := he.swap hrl hk
    generalize swapR l r k = l1 at *
    have h1r : gr l1 r = gr l k := by
      rw [hsw]; split
      · next e => rw [e]
      · rw [if_pos rfl]
    have hl1 := hg1.1
    have hx0 : El F (gt (gr l k) t) := he k hk t (by rw [hg.2 k (by omega)]; exact ht)
    have hz : ∀ j, j < t → gt (gr l k) j = 0 := fun j hj => hrs k (by omega) (by omega) j hj
    have hn : Grid n m (F.normR t r l1) ∧ EntR F.q (F.normR t r l1) ∧ gt (gr (F.normR t r l1) r) t = 1 ∧ (∀ j, j < t → gt (gr (F.normR t r l1) r) j = 0) ∧ ∀ i, i ≠ r → gr (F.normR t r l1) i = gr l1 i := by
      refine ⟨hg1.norm F t (by omega), he1.norm hO t r, ?_⟩
      unfold Fd.normR
      rw [h1r]
      by_cases e : gt (gr l k) t = 1
      · rw [if_pos e, h1r]
        exact ⟨e, hz, fun _ _ => rfl⟩
      · rw [if_neg e]
        have hgs : ∀ i, gr (l1.set r (mkL (gr l k).length (F.scaleF (F.inv (gt (gr l k) t)) (gr l k)))) i = if r = i then mkL (gr l k).length (F.scaleF (F.inv (gt (gr l k) t)) (gr l k)) else gr l1 i := fun i => gr_set _ _ _ _ (by omega)
        have hkl := hg.2 k (by omega)
        refine ⟨?_, fun j hj => ?_, fun i hi => by rw [hgs, if_neg (Ne.symm hi)]⟩
        · rw [hgs, if_pos rfl, gt_mkL (by omega), Fd.scaleF, mul_comm' hO]
          exact (h.fok.inv_el hx0 hk0).2.2
        · rw [hgs, if_pos rfl, gt_mkL (by omega), Fd.scaleF, hz j hj, mul_zero' hO]
    obtain ⟨n1, n2, n3, n4, n5⟩ := hn
    generalize F.normR t r l1 = l2 at *
    obtain ⟨c1, c2, c3, c4, c5, c6⟩ := clear_spec hO n1 n2 (by omega) ht n3 n4 n (by omega)
    rw [hll] at *
    generalize F.clearR t r n l2 = l3 at *
    have low : ∀ i, i ≠ r → ∀ j, j < t → gt (gr l3 i) j = gt (gr l1 i) j := fun i hi j hj => by rw [c4 i j hj, n5 i hi]
    have lowr : ∀ j, j < t → gt (gr l3 r) j = 0 := fun j hj => by rw [c3]; exact n4 j hj
    have at_t : ∀ i, i < n → gt (gr l3 i) t = if i = r then 1 else 0 := fun i hi => by
      by_cases e : i = r
      · rw [if_pos e, e, c3, n3]
      · rw [if_neg e]; exact c6 i hi e
    have hgl : ∀ a, a < r → gt (pv ++ [(t : Int)]) a = gt pv a := fun a ha => gt_snoc_lt (by omega)
    have hgr' : gt (pv ++ [(t : Int)]) r = t := by rw [← hr]; exact gt_snoc
    refine ⟨c1, c2, by simp; omega, ?_, ?_, ?_, ?_, ?_⟩
    · intro a ha
      simp only [List.length_append, List.length_cons, List.length_nil] at ha
      by_cases e : a < r
      · rw [hgl a e]; have := hrg a e; omega
      · obtain rfl : a = r := by omega
        rw [hgr']; omega
    · intro a b hab hb
      simp only [List.length_append, List.length_cons, List.length_nil] at hb
      rw [hgl a (by omega)]
      by_cases e : b < r
      · rw [hgl b e]; exact hinc a b hab e
      · obtain rfl : b = r := by omega
        rw [hgr']; have := hrg a (by omega); omega
    · intro a ha i hi
      simp only [List.length_append, List.length_cons, List.length_nil] at ha
      by_cases e : a < r
      · rw [hgl a e]
        have hra := hrg a e
        have hj : (gt pv a).toNat < t := by omega
        by_cases e2 : i = r
        · rw [e2, lowr _ hj, if_neg (by omega)]
        · rw [low i e2 _ hj, hsw]
          by_cases e3 : i = k
          · rw [if_pos e3, hu a e r (by omega), if_neg (by omega), if_neg (by omega)]
          · rw [if_neg e3, if_neg e2]; exact hu a e i hi
      · obtain rfl : a = r := by omega
        rw [hgr', Int.toNat_natCast]; exact at_t i hi
    · intro a ha j hj
      simp only [List.length_append, List.length_cons, List.length_nil] at ha
      by_cases e : a < r
      · rw [hgl a e] at hj
        have hra := hrg a e
        rw [low a (by omega) j (by omega), hsw, if_neg (by omega), if_neg (by omega)]
        exact hld a e j hj
      · obtain rfl : a = r := by omega
        rw [hgr'] at hj
        exact lowr j (by omega)
    · intro i hi hin j hj
      simp only [List.length_append, List.length_cons, List.length_nil] at hi
      by_cases e : j = t
      · rw [e, at_t i hin, if_neg (by omega)]
      · rw [low i (by omega) j (by omega), hsw]
        by_cases e3 : i = k
        · rw [if_pos e3]; exact hrs r (by omega) (by omega) j (by omega)
        · rw [if_neg e3, if_neg (by omega)]; exact hrs i (by omega) hin j (by omega)
  · rw [if_neg hk]
    show Red F n m (t + 1) l pv
    refine ⟨hg, he, hl, fun a ha => by have := hrg a ha; omega, hinc, hu, hld, fun i hi hin j hj => ?_⟩
    by_cases e : j = t
    · rw [e]; exact s3 i (by omega) (by omega)
    · exact hrs i hi hin j (by omega)

theorem red_elim {F : Fd} (h : RefOK F) {n m : Nat} {l : List (List Int)} (hg : Grid n m l) (he : EntR F.q l) : ∀ t, Red F n m t (loopN t F.elimStep (l, [])).1 (loopN t F.elimStep (l, [])).2
  | 0 => ⟨hg, he, by simp [loopN], fun a ha => by simp [loopN] at ha, fun a b _ hb => by simp [loopN] at hb, fun a ha => by simp [loopN] at ha, fun a ha => by simp [loopN] at ha, fun _ _ _ _ hj => by omega⟩
  | t + 1 => by
    rw [loopN_succ]
    exact (red_elim h hg he t).step h

/-- a matrix that is its own reduced form -/
theorem red_canon {F : Fd} (h : RefOK F) {K N : Nat} {rows : List (List Int)} (hg : Grid K N rows) (he : EntR F.q rows) (hc : F.canon rows N = rows) : Red F K N N rows (F.pivs rows N) ∧ (F.pivs rows N).length = K := by
  have H := red_elim h hg he N
  have hp : (F.pivs rows N).length = K := by
    have h1 := congrArg List.length hc
    have h2 : (F.elim rows N).2.length ≤ K := H.len
    have h3 : (F.elim rows N).1.length = K := H.grid.1
    rw [Fd.canon, List.length_take, h3, hg.1] at h1
    show (F.elim rows N).2.length = K
    omega
  have hl : (F.elim rows N).1 = rows := by
    rw [Fd.canon, List.take_of_length_le (by rw [show (F.elim rows N).1.length = K from H.grid.1]; exact Nat.le_of_eq hp.symm)] at hc
    exact hc
  refine ⟨?_, hp⟩
  have H2 : Red F K N N (F.elim rows N).1 (F.pivs rows N) := H
  rwa [hl] at H2

/-! ### sums -/
/-- x's combination of the entries of column j, of the first n rows -/
def Fd.colN (F : Fd) (x : List Int) (rows : List (List Int)) (j n : Nat) : Int := loopN n (fun i s => F.add s (F.mul (gt x i) (gt (gr rows i) j))) 0
theorem colN_el {F : Fd} (hO : F.Ok) (x : List Int) (rows : List (List Int)) (j : Nat) : ∀ n, El F (F.colN x rows j n)
  | 0 => el_zero hO.good
  | n + 1 => by rw [Fd.colN, loopN_succ]; exact add_el hO.good _ _
theorem zero_mul' {F : Fd} (hO : F.Ok) (x : Int) : F.mul 0 x = 0 := by rw [mul_comm' hO, mul_zero' hO]
theorem comb_at {F : Fd} (hO : F.Ok) (x : List Int) (rows : List (List Int)) {N j : Nat} (hj : j < N) : gt (F.comb x rows N) j = F.colN x rows j (min rows.length x.length) := by
  rw [Fd.comb]
  generalize min rows.length x.length = n
  induction n with
  | zero => show gt (List.replicate N 0) j = 0; simp [gt, hj]
  | succ n ih =>
    rw [loopN_succ, Fd.colN, loopN_succ, ← Fd.colN, ← ih]
    have hl : (loopN n (F.combIn x rows) (List.replicate N 0)).length = N := by
      rw [loopN_len _ _ _ fun _ _ => combIn_len _ _ _ _ _, List.length_replicate]
    have hel : El F (gt (loopN n (F.combIn x rows) (List.replicate N 0)) j) := by rw [ih]; exact colN_el hO _ _ _ _
    generalize loopN n (F.combIn x rows) (List.replicate N 0) = out at *
    unfold Fd.combIn
    by_cases e : gt x n = 0
    · rw [if_pos e, e, zero_mul' hO, add_zero' hO, hel.inE]
    · rw [if_neg e, gt_mkL (by omega), Fd.addToF]
      by_cases e2 : gt (gr rows n) j = 0
      · rw [if_pos e2, e2, mul_zero' hO, add_zero' hO, hel.inE]
      · rw [if_neg e2]
theorem colN_congr {F : Fd} {x y : List Int} {rows : List (List Int)} {j : Nat} : ∀ n, (∀ i, i < n → gt x i = gt y i ∨ gt (gr rows i) j = 0) → F.Ok → F.colN x rows j n = F.colN y rows j n
  | 0, _, _ => rfl
  | n + 1, h, hO => by
    rw [Fd.colN, Fd.colN, loopN_succ, loopN_succ, ← Fd.colN, ← Fd.colN, colN_congr n (fun i hi => h i (by omega)) hO]
    rcases h n (by omega) with e | e
    · rw [e]
    · rw [e, mul_zero' hO, mul_zero' hO]
theorem colN_zero {F : Fd} (hO : F.Ok) {x : List Int} {rows : List (List Int)} {j : Nat} : ∀ n, (∀ i, i < n → gt x i = 0 ∨ gt (gr rows i) j = 0) → F.colN x rows j n = 0
  | 0, _ => rfl
  | n + 1, h => by
    rw [Fd.colN, loopN_succ, ← Fd.colN, colN_zero hO n fun i hi => h i (by omega)]
    rcases h n (by omega) with e | e
    · rw [e, zero_mul' hO, add_zero' hO, (el_zero hO.good).inE]
    · rw [e, mul_zero' hO, add_zero' hO, (el_zero hO.good).inE]
theorem colN_unit {F : Fd} (hO : F.Ok) {x : List Int} {rows : List (List Int)} {j a : Nat} (hx : El F (gt x a)) (h1 : gt (gr rows a) j = 1) : ∀ n, a < n → (∀ i, i < n → i ≠ a → gt (gr rows i) j = 0) → F.colN x rows j n = gt x a
  | 0, h, _ => by omega
  | n + 1, ha, h => by
    rw [Fd.colN, loopN_succ, ← Fd.colN]
    by_cases e : a = n
    · subst e
      rw [colN_zero hO a fun i hi => .inr (h i (by omega) (by omega)), h1, mul_one' hO, hx.inE, zero_add' hO hx]
    · rw [colN_unit hO hx h1 n (by omega) fun i hi => h i (by omega), h n (by omega) (Ne.symm e), mul_zero' hO, add_zero' hO, hx.inE]
theorem word_at {F : Fd} (hO : F.Ok) (rows : List (List Int)) {N j : Nat} (hj : j < N) (i : Int) : gt (F.word rows N i) j = F.colN (msgL F.q rows.length i) rows j rows.length := by
  rw [Fd.word, comb_at hO _ _ hj, msgL, mkL_length, Nat.min_self]
theorem msg_el {F : Fd} (hG : F.Good) (K : Nat) (i : Int) (a : Nat) : El F (gt (msgL F.q K i) a) := by
  by_cases h : a < K
  · rw [msgL, gt_mkL h, msgF]
    have := hG.q2
    exact ⟨Int.emod_nonneg _ (by omega), Int.emod_lt_of_pos _ (by omega)⟩
  · rw [msgL, gt_out (by rw [mkL_length]; omega)]; exact el_zero hG
/-- at the pivots a word reads its message -/
theorem word_piv {F : Fd} (hO : F.Ok) {K N : Nat} {rows : List (List Int)} {pv : List Int} (H : Red F K N N rows pv) {a : Nat} (ha : a < pv.length) (i : Int) : gt (F.word rows N i) (gt pv a).toNat = gt (msgL F.q K i) a := by
  have hr := H.rng a ha
  have hl := H.len
  have hK := H.grid.1
  rw [word_at hO _ (by omega), hK]
  refine colN_unit hO (msg_el hO.good _ _ _) ?_ K (by omega) fun i hi hia => ?_
  · rw [H.unit a ha a (by omega), if_pos rfl]
  · rw [H.unit a ha i (by omega), if_neg hia]

/-- the digits of a number below q^K are not all 0 unless it is 0 -/
theorem dig_ne {q : Nat} (hq : 0 < q) : ∀ (K k : Nat), k < q ^ K → k ≠ 0 → ∃ a, a < K ∧ k / q ^ a % q ≠ 0
  | 0, k, h, h0 => by simp at h; omega
  | K + 1, k, h, h0 => by
    by_cases e : k % q = 0
    · have hd : k / q < q ^ K := Nat.div_lt_of_lt_mul (by rw [Nat.pow_succ, Nat.mul_comm] at h; exact h)
      have h1 : k / q ≠ 0 := fun h2 => by
        have := Nat.div_add_mod k q
        rw [h2, e, Nat.mul_zero] at this; omega
      obtain ⟨a, ha, hn⟩ := dig_ne hq K (k / q) hd h1
      refine ⟨a + 1, by omega, ?_⟩
      rw [Nat.pow_succ, Nat.mul_comm, ← Nat.div_div_eq_div_mul]; exact hn
    · exact ⟨0, by omega, by simpa using e⟩
theorem msg_zero (q : Int) (K a : Nat) : gt (msgL q K 0) a = 0 := by
  by_cases h : a < K
  · rw [msgL, gt_mkL h, msgF]; simp
  · rw [msgL, gt_out (by rw [mkL_length]; omega)]
theorem wgtN_zero {a : List Int} : ∀ {k : Nat}, wgtN a k = 0 ↔ ∀ j, j < k → gt a j = 0
  | 0 => ⟨fun _ j hj => by omega, fun _ => rfl⟩
  | k + 1 => by
    rw [wgtN]
    constructor
    · intro h j hj
      by_cases e : gt a k = 0
      · rw [if_pos e] at h
        by_cases e2 : j = k
        · rw [e2]; exact e
        · exact wgtN_zero.1 h j (by omega)
      · rw [if_neg e] at h; omega
    · intro h
      rw [if_pos (h k (by omega))]
      exact wgtN_zero.2 fun j hj => h j (by omega)
theorem wgt_word0 {F : Fd} (hO : F.Ok) (rows : List (List Int)) (N : Nat) : wgt (F.word rows N 0) = 0 := by
  rw [wgt, wgtN_zero]
  intro j hj
  rw [word_len] at hj
  rw [word_at hO _ hj]
  exact colN_zero hO _ fun i _ => .inl (msg_zero _ _ _)
theorem wgt_word_ne {F : Fd} (hO : F.Ok) {K N : Nat} {rows : List (List Int)} {pv : List Int} (H : Red F K N N rows pv) (hp : pv.length = K) {k : Nat} (hk : (k : Int) < F.q ^ K) (h0 : k ≠ 0) : wgt (F.word rows N (k : Int)) ≠ 0 := by
  have hq2 := hO.good.q2
  obtain ⟨q, hq⟩ : ∃ q : Nat, F.q = q := ⟨F.q.toNat, by omega⟩
  rw [hq] at hk
  obtain ⟨d, hd, hn⟩ := dig_ne (q := q) (by omega) K k (by exact_mod_cast hk) h0
  intro hw
  rw [wgt, wgtN_zero, word_len] at hw
  have hr := H.rng (K - 1 - d) (by omega)
  have h1 := hw (gt pv (K - 1 - d)).toNat (by omega)
  rw [word_piv hO H (by omega), msgL, gt_mkL (by omega), hq, msgF_nat, show K - 1 - (K - 1 - d) = d by omega] at h1
  exact hn (by exact_mod_cast h1)

/-! ### the weights -/
theorem wdist_zero {F : Fd} (hO : F.Ok) {K N : Nat} {rows : List (List Int)} {pv : List Int} (H : Red F K N N rows pv) (hp : pv.length = K) : ∀ k : Nat, ((k + 1 : Nat) : Int) ≤ F.q ^ K → gt (F.wdist rows N (k + 1)) 0 = 1
  | 0, _ => by
    rw [Fd.wdist, loopN_succ, wdS]
    rw [show ((0 : Nat) : Int) = 0 from rfl, wgt_word0 hO, gt_set _ _ _ _ (by simp [loopN]), if_pos rfl]
    simp [loopN, gt]
  | k + 1, hk => by
    rw [Fd.wdist, loopN_succ, ← Fd.wdist, wdS]
    have h1 := wgt_word_ne hO H hp (k := k + 1) (by omega) (by omega)
    have h2 : wgt (F.word rows N ((k + 1 : Nat) : Int)) ≤ N := by have := wgtN_le (F.word rows N ((k + 1 : Nat) : Int)) (F.word rows N ((k + 1 : Nat) : Int)).length; rw [wgt]; rw [word_len] at *; exact this
    rw [gt_set _ _ _ _ (by rw [wdist_len]; omega), if_neg h1]
    exact wdist_zero hO H hp k (by omega)

/-- the sum of the first n entries -/
def sumL (l : List Int) : Nat → Int
  | 0 => 0
  | n + 1 => sumL l n + gt l n
theorem sumL_set {l : List Int} {i : Nat} (hi : i < l.length) (x : Int) : ∀ n, sumL (l.set i x) n = sumL l n + if i < n then x - gt l i else 0
  | 0 => by simp [sumL]
  | n + 1 => by
    rw [sumL, sumL, sumL_set hi x n, gt_set _ _ _ _ hi]
    by_cases e : i = n
    · subst e
      rw [if_neg (by omega), if_pos rfl, if_pos (by omega)]; omega
    · rw [if_neg e]
      by_cases e2 : i < n
      · rw [if_pos e2, if_pos (by omega)]; omega
      · rw [if_neg e2, if_neg (by omega)]; omega
theorem sumL_rep (m : Nat) : ∀ n, sumL (List.replicate m 0) n = 0
  | 0 => rfl
  | n + 1 => by
    rw [sumL, sumL_rep m n]
    by_cases h : n < m
    · simp [gt, h]
    · rw [gt_out (by simp; omega)]; rfl
theorem wgt_word_le (F : Fd) (rows : List (List Int)) (N : Nat) (i : Int) : wgt (F.word rows N i) ≤ N := by
  have := wgtN_le (F.word rows N i) (F.word rows N i).length
  rw [wgt]; rw [word_len] at *; exact this
theorem wdist_sum (F : Fd) (rows : List (List Int)) (N : Nat) : ∀ k, sumL (F.wdist rows N k) (N + 1) = k
  | 0 => sumL_rep _ _
  | k + 1 => by
    have h2 := wgt_word_le F rows N (k : Int)
    rw [Fd.wdist, loopN_succ, ← Fd.wdist, wdS, sumL_set (by rw [wdist_len]; omega), wdist_sum F rows N k, if_pos (by omega)]
    omega
theorem difL_zero (a : List Int) (n : Nat) : ∀ k, difL a (List.replicate n 0) k = wgtN a k
  | 0 => rfl
  | k + 1 => by
    have h : gt (List.replicate n 0) k = 0 := by
      by_cases h : k < n
      · simp [gt, h]
      · rw [gt_out (by simp; omega)]
    rw [difL, wgtN, h, difL_zero a n k]
theorem dist_zero {a : List Int} {n : Nat} (h : a.length = n) : dist a (List.replicate n 0) = wgt a := by
  rw [dist, wgt, List.length_replicate, difL_zero, h, Nat.min_self]
theorem prof_wdist (F : Fd) (rows : List (List Int)) (N n : Nat) : prof (F.words rows N n) (List.replicate N 0) = F.wdist rows N n := by
  rw [prof, profN, Fd.wdist, words_len, List.length_replicate]
  refine loopN_congr n _ fun i x hi => ?_
  rw [profS, wdS, words_gr _ _ _ _ hi, dist_zero (word_len _ _ _ _)]

end Go.Proofs.Ytcigdhmecfhndaa

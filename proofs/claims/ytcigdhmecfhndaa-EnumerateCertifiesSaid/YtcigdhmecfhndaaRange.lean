/- A range over a function whose rounds all go on: the law for the statement, where the iterator keeps a count in a cell of its own. -/
import Derived.Test.YtcigdhmecfhndaaM
import Derived.RangeFuncFrom
import Derived.RangeFuncLeaves
import Derived.OrdersIn
import Derived.RangeFuncCalls
namespace Go.Proofs.Ytcigdhmecfhndaa
open Go.RowKit

/-! ### what holds without a fence holds in a round -/
theorem oper_round {P : Program} {o : Oper} {a : Act} {w : World} {K : Act → World → Prop} {Q : Exit → Act → World → Prop} (l n : Nat) (hd : ∀ c, o.op ≠ .defer c) (h : o.wp P a w K Q) : o.wpIn (Fence.wide.inRound l) n P a w K Q := by
  refine ⟨fun _ _ => trivial, ?_⟩
  rw [show (Fence.wide.inRound l).round = some l from rfl, Oper.semAt_some l _ _ hd]
  unfold Oper.wp at h
  generalize (execOp a.eval o).run P w = r at *
  have hdep : (Fence.wide.inRound l).depth.isSome = true → 1 ≤ n := fun e => by simp [Fence.wide] at e
  cases r with
  | ok x w' =>
    cases x <;> simp only [Oper.upon, Oper.uponIn] at h ⊢ <;> first
      | exact h
      | exact ⟨hdep, CallsIn.inRound l (callsIn_wide.2 h)⟩
      | exact ⟨hdep, fun c cs _ => by
          obtain ⟨v, w', r, s⟩ := h c cs
          exact ⟨v, w', r, stepsIn_wide.2 s⟩⟩
  | halt x w' => cases x <;> simp only [Oper.upon, Oper.uponIn] at h ⊢ <;> exact h
theorem wpOp_round {P : Program} {ops : Array Oper} {Q : Exit → Act → World → Prop} (l n : Nat) (hno : ¬ LetsOut Q) (hd : ∀ (i : Nat) (o : Oper), ops[i]? = some o → ∀ c, o.op ≠ .defer c) {i : Nat} {K : Act → World → Prop} {a : Act} {w : World} (h : wpOp P ops Q i K a w) : wpOpIn (Fence.wide.inRound l) n P ops Q i K a w := by
  unfold wpOp at h
  unfold wpOpIn
  cases ho : ops[i]? with
  | none => simp only [ho] at h ⊢; exact h
  | some o =>
    simp only [ho] at h ⊢
    by_cases hw : Region.wanted o (yielded ops a.tmps) = true
    · rw [if_pos hw] at h ⊢
      rcases h with h | h
      · exact oper_round l n (hd i o ho) h
      · exact absurd h.2 hno
    · rw [if_neg hw] at h ⊢
      exact ⟨fun _ _ => trivial, h⟩
theorem wpAny_round {P : Program} {md : Region.Mode} {ops : Array Oper} {Q : Exit → Act → World → Prop} (l n : Nat) (hno : ¬ LetsOut Q) (hd : ∀ (i : Nat) (o : Oper), ops[i]? = some o → ∀ c, o.op ≠ .defer c) : ∀ (fuel : Nat) (listed : Array Bool) (a : Act) (w : World),
    wpAny P md ops Q fuel listed a w → wpAnyIn (Fence.wide.inRound l) n P md ops Q fuel listed a w
  | 0, _, _, _, h => h
  | fuel + 1, _, _, _, h => ⟨h.1, fun i hi => wpOpIn_mono (fun a' w' h' => wpAny_round l n hno hd fuel _ a' w' h') (wpOp_round l n hno hd (h.2 i hi))⟩
/-- a region that draws its order, in a round -/
theorem region_round {P : Program} {id : Nat} {ops : Array Oper} {Q : Exit → Act → World → Prop} {a : Act} {w : World} (l n : Nat) (hm : P.follows .mixedOrders = true) (hno : ¬ LetsOut Q) (hd : ∀ (i : Nat) (o : Oper), ops[i]? = some o → ∀ c, o.op ≠ .defer c)
    (h : wpAny P .any ops Q ops.size (Array.replicate ops.size false) a w.drew) : (Code.region id ops true).wpIn (Fence.wide.inRound l) n P Q a w :=
  wpIn_region_any hm (wpAny_round l n hno hd _ _ _ _ h)

/-! ### the statement -/
/-- yield is called: the round goes on, and R holds behind it -/
def YieldW (P : Program) (l : Nat) (args : Array Value) (W : World) (R : World → Prop) : Prop :=
  ∃ fn tmps assign body, (Instr.yield l args).run P W = .ok (.round l fn tmps assign body) W ∧ RoundIn Fence.wide 0 P l fn tmps assign body W fun e W' => e = .returned (.bool true) ∧ R W'
/-- in block b lies no row of rows -/
def NoRows (W : World) (b : Nat) : Prop := ∀ cs fr, W.heap[b]? ≠ some (.cells cs 22 fr)
theorem NoRows.of {W : World} {b : Nat} {cs : Array Value} {t : TypeId} {fr : Nat × Nat} (h : W.heap[b]? = some (.cells cs t fr)) (ht : t ≠ 22) : NoRows W b := fun cs' fr' e => by
  rw [h] at e; injection e with e; injection e with _ e2; exact ht e2
/-- what lay there, but for the blocks of M, and for rows of rows from block s on, lies as it lay -/
structure Kpt (s : Nat) (M : Nat → Prop) (W W' : World) : Prop where
  os : W'.os = W.os
  tape : W'.tape = W.tape
  output : W'.output = W.output
  size : W.heap.size ≤ W'.heap.size
  block : ∀ b, b < W.heap.size → ¬ M b → (s ≤ b → NoRows W b) → W'.heap[b]? = W.heap[b]?
section
variable {s : Nat} {M : Nat → Prop}
theorem Kpt.refl (s : Nat) (M : Nat → Prop) (W : World) : Kpt s M W W := ⟨rfl, rfl, rfl, Nat.le_refl _, fun _ _ _ _ => rfl⟩
theorem Kpt.trans {X Y Z : World} (h : Kpt s M X Y) (k : Kpt s M Y Z) : Kpt s M X Z := ⟨k.os.trans h.os, k.tape.trans h.tape, k.output.trans h.output, Nat.le_trans h.size k.size, fun b hb hn hr => (k.block b (Nat.lt_of_lt_of_le hb h.size) hn (fun hs cs fr e => hr hs cs fr ((h.block b hb hn hr).symm.trans e))).trans (h.block b hb hn hr)⟩
theorem kpt_put {l : Nat} {W : World} (o : Obj) (h : M l) : Kpt s M W (W.putObj l o) := ⟨rfl, rfl, rfl, by simp [World.putObj], fun b _ hn _ => World.putObj_heap_other (fun e => hn (e ▸ h))⟩
theorem kpt_set {l k : Nat} {W : World} (v : Value) (h : M l) : Kpt s M W (W.setCell ⟨l, k, none⟩ v) := ⟨rfl, rfl, rfl, by simp [World.setCell], fun b _ hn _ => Below.heap_setCell W ⟨l, k, none⟩ v b (fun e => hn (e ▸ h))⟩
theorem Kpt.weak {M' : Nat → Prop} {W W' : World} (h : Kpt s M W W') (hM : ∀ b, M b → M' b) : Kpt s M' W W' := ⟨h.os, h.tape, h.output, h.size, fun b hb hn => h.block b hb (fun hm => hn (hM b hm))⟩
theorem Ext.kpt {W W' : World} (h : Ext W W') : Kpt s M W W' := ⟨h.out.os, h.out.tape, h.out.output, h.out.size, fun b hb _ _ => h.out.block b hb⟩
theorem Kpt.bel {w0 W W' : World} (h : Kpt s M W W') (b : Bel w0 W) (hM : ∀ k, k < w0.heap.size → ¬ M k) (hs : w0.heap.size ≤ s) : Bel w0 W' := ⟨h.os.trans b.out.os, h.tape.trans b.out.tape, h.output.trans b.out.output, Nat.le_trans b.out.size h.size, fun k hk => (h.block k (Nat.lt_of_lt_of_le hk b.out.size) (hM k hk) (fun h => absurd hk (by omega))).trans (b.out.block k hk)⟩
theorem Kpt.bx {W W' : World} (h : Kpt s M W W') {b : Nat} {cs : Array Value} {t : TypeId} (k : Bx W b cs t) (hM : ¬ M b) (ht : t ≠ 22 := by decide) : Bx W' b cs t := ⟨(h.block b (blk_lt k.out) hM (fun _ => .of k.out ht)).trans k.out⟩
theorem Kpt.own {W W' : World} (h : Kpt s M W W') {b : Nat} {xs : List Int} (k : Own W b xs) (hM : ¬ M b) : Own W' b xs := ⟨k.out.imp fun _ q => (h.block b (blk_lt q) hM (fun _ => .of q (by decide))).trans q⟩
/-- a row grew: its block is a row of rows from s on, or new -/
theorem Chg.kpt {v : Value} {cs : List Value} {W W' : World} (h : Chg v W W') (r : Row W v 22 cs) (hs : ∀ g, v.ownBlock = some g → s ≤ g) : Kpt s M W W' := ⟨h.out.os, h.out.tape, h.out.output, h.out.size, fun b hb _ hr => h.out.block b hb (fun e => by
  rcases r.out.2 with ⟨hv, _⟩ | ⟨g, cap, cur, hv, _, hh, _⟩
  · rw [hv] at e; simp [Value.ownBlock] at e
  · rw [hv] at e
    obtain rfl : b = g := by simpa [Value.ownBlock] using e
    exact hr (hs b (by rw [hv]; rfl)) _ _ hh)⟩
end
theorem put_size (W : World) (l : Nat) (o : Obj) : (W.putObj l o).heap.size = W.heap.size := by simp [World.putObj]

variable {P : Program}
/-- **for i, w := range f: every round goes on; the iterator's own cell is bt.** -/
theorem range_wp {g : Operand} {ps : Array Tmp} {assign body : Code} {Q : Exit → Act → World → Prop} {a : Act} {w : World} {gf : Nat} {lb : Array Value}
    (hg : a.eval g = .func (.func gf) #[] lb) (eg : ∀ args w, Sem.run P (callFunc gf args) w = .ok (.enter gf args) w) (hps : ps.size = 2)
    (M : Nat → Prop) (hM : ∀ b, M b → b < w.heap.size) (tot : Nat) (wd : Nat → List Int) (N : Nat) (I : Nat → Nat → World → Prop)
    (hI : ∀ bt k A B row, w.heap.size + 2 ≤ bt → I bt k A → A.grownBy B row → (∀ r, row = some r → r = bt ∨ r = w.heap.size + 1) → I bt k B)
    (h0 : ∀ bt, w.heap.size + 2 ≤ bt → I bt 0 w)
    (hseq : ∀ (l : Nat) (J : Nat → Nat → World → Prop) (W : World), Below w.heap.size w W → W.heap.size = w.heap.size + 2 →
      (∀ bt k A B row, W.heap.size ≤ bt → J bt k A → A.grownBy B row → (∀ r, row = some r → r = bt) → J bt k B) →
      (∀ bt k W1 gx c, k < tot → W.heap.size ≤ bt → bt < W1.heap.size → J bt k W1 → Own W1 gx (wd k) → W.heap.size ≤ gx → gx ≠ bt → YieldW P l #[.int .i64 (k : Int), .slice (some ⟨gx, 0, none⟩) N c] W1 fun W' => J bt (k + 1) W' ∧ Kpt (bt + 1) (fun b => M b ∨ b = w.heap.size + 1) W1 W') →
      (∀ bt, W.heap.size ≤ bt → J bt 0 W) →
      Calls P gf (#[.func (.yield l) #[] #[]] ++ lb) W fun e W' => (∃ v, e = .returned v) ∧ ∃ bt, W.heap.size ≤ bt ∧ J bt tot W')
    (a₁ : Value → Value → Act)
    (hassign : ∀ (l : Nat) (x y : Value) (W : World) (K : Act → World → Prop), K (a₁ x y) W →
      assign.wpIn (Fence.wide.inRound l) 0 P (Exit.then K (fun _ _ _ => False)) { tmps := (ps.zip #[x, y]).foldl (fun t (p, v) => t.setIfInBounds p v) a.tmps, defers := [] } W)
    (hbody : ∀ (l bt k : Nat) (W1 : World) (gx c : Nat), k < tot → w.heap.size + 2 ≤ bt → bt < W1.heap.size → I bt k W1 → Own W1 gx (wd k) → w.heap.size + 2 ≤ gx → gx ≠ bt →
      body.wpIn (Fence.wide.inRound l) 0 P (fun e _ W' => e = .normal ∧ I bt (k + 1) W' ∧ Kpt (bt + 1) M W1 W') (a₁ (.int .i64 (k : Int)) (.slice (some ⟨gx, 0, none⟩) N c)) W1)
    (hdone : ∀ (bt D : Nat) (W : World), I bt tot W → w.heap.size + 2 ≤ bt → w.heap.size ≤ D → W.heap[D]? = some (.deferred (some [])) → Q .normal { a with defers := { target := .collected D, args := #[] } :: a.defers } W) :
    (Code.rangeFunc g ps assign body).wp P Q a w := by
  refine (wpIn_wide (n := 0)).1 (wpIn_rangeFunc fun fn hfn => ?_)
  obtain ⟨rec, hrec⟩ : ∃ rec : LoopState → Loop, rec = fun st => { state := st, pending := none, fn, tmps := a.tmps, params := ps, assign, body, defers := w.heap.size } := ⟨_, rfl⟩
  obtain ⟨W0, hW0⟩ : ∃ W0, W0 = (w.alloc (.deferred (some []))).alloc (.loop (rec .ready)) := ⟨_, rfl⟩
  have hsz : W0.heap.size = w.heap.size + 2 := by rw [hW0]; simp [World.size_alloc]
  have hb0 : Below w.heap.size w W0 := by rw [hW0]; exact ((Below.refl _ w).alloc (Nat.le_refl _) _).alloc (by simp [World.size_alloc]) _
  have hL0 : W0.heap[w.heap.size + 1]? = some (.loop (rec .ready)) := by
    rw [hW0]; have := heap_alloc_new (w.alloc (.deferred (some []))) (.loop (rec .ready)); rwa [World.size_alloc] at this
  have hD0 : W0.heap[w.heap.size]? = some (.deferred (some [])) := by
    rw [hW0]; exact (Below.heap_alloc _ _ _ (by simp [World.size_alloc])).trans (heap_alloc_new w _)
  have hI0 : ∀ bt, W0.heap.size ≤ bt → I bt 0 W0 := fun bt hbt =>
    hI bt 0 w W0 none (by omega) (h0 bt (by omega)) (by rw [hW0]; exact ⟨rfl, rfl, rfl, by simp only [World.size_alloc]; omega, fun b hb _ => (Below.heap_alloc _ _ b (by rw [World.size_alloc]; omega)).trans (Below.heap_alloc _ _ b hb)⟩) (fun r e => by cases e)
  refine ⟨w.heap.size + 1, [{ target := .collected w.heap.size, args := #[] }], W0, { target := .fn (.func gf) lb, args := #[.func (.yield (w.heap.size + 1)) #[] #[]] }, W0, gf,
    #[.func (.yield (w.heap.size + 1)) #[] #[]] ++ lb, W0, ?_, ?_, fun _ _ => trivial, ?_, fun e => by simp [Fence.wide] at e, ?_⟩
  · rw [hW0, hrec]; exact run_enterLoop_outer _ _ _ _ _
  · simp only [resolve, hg]
    simp [go_sem]
  · have := eg (#[.func (.yield (w.heap.size + 1)) #[] #[]] ++ lb) W0
    simp [invoke, go_sem, this]
  · refine callsIn_wide.2 ((hseq (w.heap.size + 1) (fun bt k W => I bt k W ∧ W.heap[w.heap.size + 1]? = some (.loop (rec .ready)) ∧ W.heap[w.heap.size]? = some (.deferred (some []))) W0 hb0 hsz ?_ ?_ ?_).mono ?_)
    · rintro bt k A B row hbt ⟨i1, i2, i3⟩ hgr hr
      have hl := (Array.getElem?_eq_some_iff.1 i2).1
      exact ⟨hI bt k A B row (by omega) i1 hgr (fun r e => .inl (hr r e)), (hgr.block _ hl (fun e => by have := hr _ e.symm; omega)).trans i2, (hgr.block _ (by omega) (fun e => by have := hr _ e.symm; omega)).trans i3⟩
    · rintro bt k W1 gx c hk hbt hbtl ⟨i1, i2, i3⟩ ho hgx hne
      have hl := (Array.getElem?_eq_some_iff.1 i2).1
      have hy := run_yield (P := P) (args := #[.int .i64 (k : Int), .slice (some ⟨gx, 0, none⟩) N c]) i2 (by rw [hrec, hps]; rfl)
      rw [hrec] at hy
      refine ⟨fn, _, assign, body, hy, roundIn_of_wpIn trivial (hassign _ _ _ W1 _ ⟨_, run_beginRound i2 (by rw [hrec]), ?_⟩)⟩
      obtain ⟨W2, hW2⟩ : ∃ W2, W2 = W1.putObj (w.heap.size + 1) (.loop { rec .ready with state := .busy }) := ⟨_, rfl⟩
      rw [← hW2]
      have hs2 : W2.heap.size = W1.heap.size := by rw [hW2, put_size]
      have hL2 : W2.heap[w.heap.size + 1]? = some (.loop { rec .ready with state := .busy }) := by rw [hW2]; exact World.putObj_heap_same hl
      have hD2 : W2.heap[w.heap.size]? = some (.deferred (some [])) := by rw [hW2]; exact (World.putObj_heap_other (by omega)).trans i3
      have hI2 : I bt k W2 := hI bt k W1 W2 (some (w.heap.size + 1)) (by omega) i1 (by rw [hW2]; exact grownBy_putObj' _ _ _) (fun r e => .inr (Option.some.inj e).symm)
      have ho2 : Own W2 gx (wd k) := ⟨ho.out.imp fun _ q => by rw [hW2]; exact (World.putObj_heap_other (by omega)).trans q⟩
      have hk2 : Kpt (bt + 1) (fun b => M b ∨ b = w.heap.size + 1) W1 W2 := by rw [hW2]; exact kpt_put _ (.inr rfl)
      refine wpIn_mono (hbody _ bt k W2 gx c hk (by omega) (by omega) hI2 ho2 (by omega) hne) ?_
      rintro e a3 W3 ⟨rfl, hI3, hk3⟩
      have hL3 : W3.heap[w.heap.size + 1]? = some (.loop { rec .ready with state := .busy }) := (hk3.block _ (by omega) (fun h => by have := hM _ h; omega) (fun h => by omega)).trans hL2
      have hD3 : W3.heap[w.heap.size]? = some (.deferred (some [])) := (hk3.block _ (by omega) (fun h => by have := hM _ h; omega) (fun h => by omega)).trans hD2
      have he := run_endRound (P := P) none hL3
      refine ⟨_, _, he, rfl, ⟨?_, ?_, ?_⟩, ?_⟩
      · exact hI bt (k + 1) W3 _ (some (w.heap.size + 1)) (by omega) hI3 (grownBy_putObj' _ _ _) (fun r e => .inr (Option.some.inj e).symm)
      · rw [World.putObj_heap_same (Array.getElem?_eq_some_iff.1 hL3).1, hrec]; rfl
      · exact (World.putObj_heap_other (by omega)).trans hD3
      · exact (hk2.trans (hk3.weak fun b h => .inl h)).trans (kpt_put _ (.inr rfl))
    · exact fun bt hbt => ⟨hI0 bt hbt, hL0, hD0⟩
    · rintro e W2 ⟨⟨v, rfl⟩, bt, hbt, i1, i2, i3⟩
      have hl := (Array.getElem?_eq_some_iff.1 i2).1
      have he := run_endLoop (P := P) i2 (by rw [hrec]; simp)
      rw [show (rec .ready).pending = none by rw [hrec]] at he
      exact ⟨none, _, he, hdone bt w.heap.size _ (hI bt tot W2 _ (some (w.heap.size + 1)) (by omega) i1 (grownBy_putObj' _ _ _) (fun r e => .inr (Option.some.inj e).symm)) (by omega) (Nat.le_refl _) ((World.putObj_heap_other (by omega)).trans i3)⟩

end Go.Proofs.Ytcigdhmecfhndaa

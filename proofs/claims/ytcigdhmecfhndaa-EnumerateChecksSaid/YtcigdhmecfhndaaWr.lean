/- A range over code.Walk, once for all; the operations of a round's body as anywhere. -/
import Derived.Test.YtcigdhmecfhndaaSel2
namespace Go.Proofs.Ytcigdhmecfhndaa
open Go.RowKit
set_option linter.unusedVariables false
set_option linter.unusedSimpArgs false

theorem wpListIn_round {P : Program} {ops : Array Oper} {Q : Exit → Act → World → Prop} (l n : Nat) (hno : ¬ LetsOut Q) : ∀ (xs : List Oper), (∀ o ∈ xs, ∀ c, o.op ≠ .defer c) → ∀ (a : Act) (w : World), wpList P ops Q xs a w → wpListIn (Fence.wide.inRound l) n P ops Q xs a w
  | [], _, _, _, h => h
  | o :: rest, hd, a, w, h => by
    have ih := wpListIn_round (P := P) (ops := ops) l n hno rest (fun o' ho' => hd o' (List.mem_cons_of_mem _ ho'))
    unfold wpList at h
    unfold wpListIn
    split
    · next hw =>
      rw [if_pos hw] at h
      rcases h with h | h
      · exact Oper.wpIn_mono (fun a' w' h' => ih a' w' h') (oper_round l n (hd o (List.mem_cons_self ..)) h)
      · exact absurd h.2 hno
    · next hw =>
      rw [if_neg hw] at h
      exact ⟨fun _ _ => trivial, ih _ _ h⟩
/-- a region that draws nothing, in a round -/
theorem region_round_0 {P : Program} {id : Nat} {xs : List Oper} {Q : Exit → Act → World → Prop} {a : Act} {w : World} (l n : Nat) (hno : ¬ LetsOut Q) (hd : noDeferB xs.toArray = true) (h : wpList P xs.toArray Q xs a w) : (Code.region id xs.toArray false).wpIn (Fence.wide.inRound l) n P Q a w :=
  wpIn_region_lit (wpListIn_round l n hno xs (fun o ho c => by
    obtain ⟨i, hi, e⟩ := List.mem_iff_getElem.1 ho
    exact noDeferB_spec hd i o (by simp [hi, e]) c) a w h)

theorem wpAny_of_X {P : Program} {md : Region.Mode} {ops : Array Oper} {Q : Exit → Act → World → Prop} {S : World → Prop} {t : Nat} : ∀ (fuel : Nat) (listed : Array Bool) (a : Act) (w : World), wpAnyX P md ops Q S t (fun K a w => wpOp P ops Q t K a w) fuel listed a w → wpAny P md ops Q fuel listed a w
  | 0, _, _, _, h => h
  | fuel + 1, _, _, _, h => ⟨h.1, fun i hi => by
    by_cases e : i = t
    · have h1 := (h.2 i hi).1 e
      rw [show wpOp P ops Q i = wpOp P ops Q t by rw [e]]
      exact wpOp_mono (fun a' w' h' => wpAny_of_X fuel _ a' w' h') h1
    · exact wpOp_mono (fun a' w' h' => wpAny_of_X fuel _ a' w' h'.2) ((h.2 i hi).2 e)⟩
theorem region_round_X {P : Program} {id : Nat} {ops : Array Oper} {Q : Exit → Act → World → Prop} {S : World → Prop} {a : Act} {w : World} (t l n : Nat) (hm : P.follows .mixedOrders = true) (hno : ¬ LetsOut Q) (hd : noDeferB ops = true) (hS : S w.drew)
    (h : S w.drew → wpAnyX P .any ops Q S t (fun K a w => wpOp P ops Q t K a w) ops.size (Array.replicate ops.size false) a w.drew) : (Code.region id ops true).wpIn (Fence.wide.inRound l) n P Q a w :=
  region_round l n hm hno (noDeferB_spec hd) (wpAny_of_X _ _ _ _ (h hS))
/-- for i, x := range code.Walk(c) -/
theorem walk_range {g : Operand} {ps : Array Tmp} {assign body : Code} {Q : Exit → Act → World → Prop} {a : Act} {w0 w : World}
    (F : Fd) (A : Option Addr) (n c : Nat) (rows : List (List Int)) (Ar : Option Addr) (nr cr N tot bc : Nat) (hn : F.md.length = n) (hn2 : n ≤ 1000000000000000000) (hr : rows.length = nr) (hok : sizE F (N : Int) rows = 0) (htv : sizV F (N : Int) rows = tot)
    (hB : Bel w0 w) (hbc : Bx w bc #[.int .i64 F.p, .int .i64 F.m, .slice A n c, .int .i64 (N : Int), .slice Ar nr cr] 27) (hA : Sl w0 A F.md) (hR : Sls w0 Ar rows)
    (hg : a.eval g = .func (.func 103) #[] #[.pointer (some ⟨bc, 0, none⟩)]) (hps : ps.size = 2)
    (M : Nat → Prop) (hM : ∀ b, M b → b < w.heap.size) (hMc : ¬ M bc) (hM0 : ∀ b, b < w0.heap.size → ¬ M b) (I : Nat → Nat → World → Prop)
    (hI : ∀ bt k X Y row, w.heap.size + 2 ≤ bt → I bt k X → X.grownBy Y row → (∀ r, row = some r → r = bt ∨ r = w.heap.size + 1) → I bt k Y)
    (h0 : ∀ bt, w.heap.size + 2 ≤ bt → I bt 0 w)
    (a₁ : Value → Value → Act)
    (hassign : ∀ (l : Nat) (x y : Value) (W : World) (K : Act → World → Prop), K (a₁ x y) W →
      assign.wpIn (Fence.wide.inRound l) 0 Try.prog (Exit.then K (fun _ _ _ => False)) { tmps := (ps.zip #[x, y]).foldl (fun t (p, v) => t.setIfInBounds p v) a.tmps, defers := [] } W)
    (hbody : ∀ (l bt k : Nat) (W1 : World) (gx c : Nat), k < tot → w.heap.size + 2 ≤ bt → bt < W1.heap.size → I bt k W1 → Own W1 gx (F.word rows N (k : Int)) → w.heap.size + 2 ≤ gx → gx ≠ bt →
      body.wpIn (Fence.wide.inRound l) 0 Try.prog (fun e _ W' => e = .normal ∧ I bt (k + 1) W' ∧ Kpt (bt + 1) M W1 W') (a₁ (.int .i64 (k : Int)) (.slice (some ⟨gx, 0, none⟩) N c)) W1)
    (hdone : ∀ (bt D : Nat) (W : World), I bt tot W → w.heap.size + 2 ≤ bt → w.heap.size ≤ D → W.heap[D]? = some (.deferred (some [])) → Q .normal { a with defers := { target := .collected D, args := #[] } :: a.defers } W) :
    (Code.rangeFunc g ps assign body).wp Try.prog Q a w := by
  obtain ⟨hcod, hv1, hv2, hv3⟩ := sizE_ok hok
  obtain ⟨k1, k2, k3, k4, k5, k6⟩ := codE_ok hcod
  obtain ⟨q, hq⟩ : ∃ q : Nat, F.q = q := ⟨F.q.toNat, by have := k1.good.q2; omega⟩
  have htq : q ^ nr = tot := by
    rw [htv, hq, hr] at hv3
    have : ((q ^ nr : Nat) : Int) = (tot : Int) := by rw [Int.natCast_pow]; exact hv3.symm
    exact Int.ofNat.inj this
  have htot : tot ≤ 65536 := by omega
  have hbcl := blk_lt hbc.out
  refine range_wp (gf := 103) (lb := #[.pointer (some ⟨bc, 0, none⟩)]) hg enter_iter hps M hM tot (fun k => F.word rows N (k : Int)) N I hI h0 ?_ a₁ hassign hbody hdone
  intro l J W hbW hszW hJ hY h0
  have hBW : Bel w0 W := hB.then_ ⟨hbW⟩
  have hbcW : Bx W bc #[.int .i64 F.p, .int .i64 F.m, .slice A n c, .int .i64 (N : Int), .slice Ar nr cr] 27 := ⟨blk_below hbc.out hbW⟩
  have hsz := hB.out.size
  simp only [List.append_toArray, List.cons_append, List.nil_append]
  exact iter_calls F A n c rows Ar nr cr N q l tot w0 W (fun b => M b ∨ b = w.heap.size + 1) bc J hn hn2 hr hcod hq htq htot (fun b hb => by rcases hb with h | h; have := hM b h; omega; omega) (fun h => by rcases h with h | h; exact hMc h; omega) (fun b hb h => by rcases h with h | h; exact hM0 b hb h; omega) hBW hbcW hA hR hJ hY h0

end Go.Proofs.Ytcigdhmecfhndaa

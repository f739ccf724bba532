/- field.New again: all that lies behind the pointer is new. -/
import Derived.Test.YtcigdhmecfhndaaRange
namespace Go.Proofs.Ytcigdhmecfhndaa
open Go.RowKit
attribute [local go_sem] cell_bx froz_bx cell_own froz_own cell_rd cell_cel ints_get ints_set cell_ownb froz_ownb bools_get bools_set eql_nil_int
set_option linter.unusedVariables false
set_option linter.unusedSimpArgs false

/-- a field's pointer, and all that lies behind it, lies from block B on -/
structure GFq (B : Nat) (w : World) (b : Nat) (F : Fd) : Prop where
  fr : B ≤ b
  out : ∃ (A : Option Addr) (n c ge ce gl cl : Nat) (ex lg : List Int), Bx w b #[.int .i64 F.p, .int .i64 F.m, .slice A n c, .int .i64 F.q, .slice (some ⟨ge, 0, none⟩) ex.length ce, .slice (some ⟨gl, 0, none⟩) lg.length cl] 137 ∧ n = F.md.length ∧ Sl w A F.md ∧ (∀ ad, A = some ad → B ≤ ad.block) ∧ Own w ge ex ∧ B ≤ ge ∧ Own w gl lg ∧ B ≤ gl ∧ GFm F ex lg
theorem GFq.gfp {B : Nat} {w : World} {b : Nat} {F : Fd} (h : GFq B w b F) : GFp w b F := by
  obtain ⟨A, n, c, ge, ce, gl, cl, ex, lg, h1, h2, h3, _, h4, _, h5, _, h6⟩ := h.out
  exact ⟨A, n, c, ge, ce, gl, cl, ex, lg, h1, h2, h3, h4, h5, h6⟩

set_option maxRecDepth 100000 in
set_option maxHeartbeats 2000000 in
theorem new_loc (F : Fd) (A : Option Addr) (n c : Nat) (w : World) (hn : F.md.length = n) (hn2 : n ≤ 1000000000000000000) (hs : Shape F) (l : List Int) (hl : F.gen = some l) [hA : Sl w A F.md] :
    Calls Try.prog 81 #[.agg #[.int .i64 F.p, .int .i64 F.m, .slice A n c]] w fun e w' => ∃ g, e = .returned (.tuple #[.pointer (some ⟨g, 0, none⟩), .int .i64 0]) ∧ GFq w.heap.size w' g F ∧ Ext w w' := by
  have hsb : shapeB F = true := shapeB_yes hs
  have hG := hs.good
  have hord : ordF F.p F.m = F.q := rfl
  have hq2 := hG.q2
  have hq3 : F.q ≤ 256 := by have := hG.pm; have := hG.q; omega
  have hn8 : n ≤ 8 := by
    have := hG.m8; have := hG.m1
    by_cases hm : F.m = 1
    · have := hs.2.2.1 hm; omega
    · have := (hs.2.2.2 hm).1; omega
  have hmk : ∀ w : World, (Instr.makeSlice 22 (.int .i64 F.q) (.int .i64 F.q)).run Try.prog w = .ok (.slice (some ⟨w.heap.size, 0, none⟩) F.q.toNat F.q.toNat) (w.alloc (.cells (ints (List.replicate F.q.toNat 0)) 3)) := fun w => by
    have := mk_int F.q.toNat (by omega) w
    rwa [Int.toNat_of_nonneg (by omega)] at this
  go_enter Try.func81, Try.ntmps81
  go_upto_region 7 with (first
    | (go_at_call 119; refine (shape_calls F A n c _ hn hn2).mono ?_; rintro e w1 ⟨rfl, hx1⟩; rw [hsb])
    | (go_at_call 120; refine (forder_calls F.p F.m _).mono ?_; rintro e w2 ⟨rfl, hx2⟩; rw [hord])
    | (go_at_call 121; refine (generator_calls F A n c _ hG hn).mono ?_; rintro e w3 (⟨h, _⟩ | ⟨l', g, cap, hl', rfl, hcap, hl256, hfg, ho, hx3⟩); exact absurd h (by rw [hl]; simp); obtain rfl : l = l' := by rw [hl] at hl'; injection hl'))
  have hbx3 : Bx w3 w.heap.size #[.int .i64 F.p, .int .i64 F.m, .slice A n c] 24 := inferInstance
  have hb3 : Bel w w3 := inferInstance
  have hfr : Fr w g := ⟨by have h1 : Bel w w2 := inferInstance; have := h1.out.size; have := hfg.out; omega⟩
  clear hx1 hx2 hx3 hl'
  go_cut [6] (fun v wc => ∃ (gf gl : Nat) (A1 : Option Addr) (c1 : Nat), v = .pointer (some ⟨gf, 0, none⟩) ∧ Bel w wc ∧ Fr w gf ∧ Fr w gl ∧ Apart gf gl ∧ Apart g gl ∧ Apart w.heap.size gl ∧ (∀ ad, A1 = some ad → ad.block ≠ gl) ∧ (∀ ad, A1 = some ad → w.heap.size ≤ ad.block) ∧
    Bx wc gf #[.int .i64 F.p, .int .i64 F.m, .slice A1 n c1, .int .i64 F.q, .slice (some ⟨g, 0, none⟩) l.length cap, .slice (some ⟨gl, 0, none⟩) F.q.toNat F.q.toNat] 137 ∧ Sl wc A1 F.md ∧ Own wc gl (List.replicate F.q.toNat 0) ∧ Own wc g l)
  case first =>
    have hN : Near w3.heap.size w3 w3 := ⟨Below.refl _ _⟩
    go_region_held3 (fun w' => Near w3.heap.size w3 w') (infer_instance)
      ((refine app0_step rfl (.tmp 26) (.tmp 28) rfl _ F.md A n c rfl rfl hn (by omega) ?_; intro v1 w4 hr1 hc1 hv1; have hlt := fun g => hr1.lt (g := g); obtain ⟨A1, c1, rfl, hcc1, hs1, _⟩ := hr1.reads; clear hr1))
    all_goals go_wp2_with fail
    all_goals go_meet
    all_goals have hg3 : Lo g w3.heap.size := inferInstance
    all_goals have hw3 : Lo w.heap.size w3.heap.size := inferInstance
    all_goals have hz := hc1.out.size
    all_goals have hb4 : Bel w w4 := inferInstance
    all_goals have ho4 : Own w4 g l := inferInstance
    all_goals have hz0 := hb3.out.size
    all_goals simp only [World.size_alloc, World.size_drew] at hz hv1
    · have ha2 : ∀ ad, A1 = some ad → ad.block ≠ w4.heap.size := by
        rintro ad rfl h
        have := hlt ad.block rfl
        omega
      exact ⟨w4.heap.size + 1, w4.heap.size, A1, c1, rfl, inferInstance, inferInstance, inferInstance, ⟨by omega⟩, ⟨by have := hg3.out; omega⟩, ⟨by have := hw3.out; omega⟩, ha2, (by rintro ad rfl; simp only [Value.ownBlock, Option.some.injEq] at hv1; have := hw3.out; omega), inferInstance, inferInstance, inferInstance, inferInstance⟩
    · have ha2 : ∀ ad, A1 = some ad → ad.block ≠ w3.heap.size + 1 := by
        rintro ad rfl h
        simp only [Value.ownBlock, Option.some.injEq] at hv1
        omega
      exact ⟨w4.heap.size, w3.heap.size + 1, A1, c1, rfl, inferInstance, inferInstance, inferInstance, ⟨by omega⟩, ⟨by have := hg3.out; omega⟩, ⟨by have := hw3.out; omega⟩, ha2, (by rintro ad rfl; simp only [Value.ownBlock, Option.some.injEq] at hv1; have := hw3.out; omega), inferInstance, inferInstance, inferInstance, inferInstance⟩
    · have ha2 : ∀ ad, A1 = some ad → ad.block ≠ w3.heap.size := by
        rintro ad rfl h
        simp only [Value.ownBlock, Option.some.injEq] at hv1
        omega
      exact ⟨w4.heap.size, w3.heap.size, A1, c1, rfl, inferInstance, inferInstance, inferInstance, ⟨by omega⟩, ⟨by have := hg3.out; omega⟩, ⟨by have := hw3.out; omega⟩, ha2, (by rintro ad rfl; simp only [Value.ownBlock, Option.some.injEq] at hv1; have := hw3.out; omega), inferInstance, inferInstance, inferInstance, inferInstance⟩
  case rest =>
    obtain ⟨gf, gl, A1, c1, rfl, hB, hf1, hf2, ha1, ha2, ha3, ha4, ha9, hbx, hsl, hol, hoe⟩ := hcut
    have HA9 := hidd ha9
    have HFG := hidd hfr
    clear ha9
    have HG := hidd hl
    have hR : Hid (Res F.q l) := by
      obtain ⟨x, hx0, hx1, rfl, _⟩ := gen_spec hG hl
      exact hidd (powersP_res F hG x (by omega) hx1)
    clear hord hmk hl hbx3 hb3 hfr ho hfg hcap hsb
    have hap : ∀ k (u : Value) (w1 : World), Sl w1 A1 F.md → Sl (w1.setCell ⟨gl, k, none⟩ u) A1 F.md := fun k u w1 h => ⟨fun ad e => by
      have := h.rd ad e
      have : Apart ad.block gl := ⟨ha4 ad e⟩
      infer_instance, h.nn⟩
    have HA := hidd hap
    clear hap ha4
    have hle := hidd hn
    clear hn
    go_wp2
    go_loopw [39] (fun iv wr => ∃ (k : Nat), iv = .int .i64 k ∧ k ≤ l.length ∧ Bel w wr ∧ Bx wr gf #[.int .i64 F.p, .int .i64 F.m, .slice A1 n c1, .int .i64 F.q, .slice (some ⟨g, 0, none⟩) l.length cap, .slice (some ⟨gl, 0, none⟩) F.q.toNat F.q.toNat] 137 ∧ Sl wr A1 F.md ∧ Own wr gl (logL F.q.toNat l k) ∧ Own wr g l) (fun iv _ => l.length - (intOf iv).toNat)
    case atStart => exact ⟨0, rfl, by omega, inferInstance, inferInstance, inferInstance, hol, inferInstance⟩
    case round =>
      obtain ⟨k, rfl, hk, hB2, hbx2, hsl2, hol2, hoe2⟩ := hrel
      by_cases hlt : k < l.length
      · have hlt' : (k : Int) < l.length := by omega
        have hr := hR.out k
        have hr3 : (gt l k).toNat < (logL F.q.toNat l k).length := by rw [logL_length]; omega
        have hin : In (gt l k).toNat (logL F.q.toNat l k).length := ⟨hr3⟩
        have hr4 : (gt l k) < (F.q.toNat : Int) := by omega
        go_wp2
        go_roundw
        case rel => exact ⟨k + 1, by simp, by omega, inferInstance, inferInstance, HA.out _ _ _ inferInstance, own_set_ hol2 _ _ hr3, inferInstance⟩
        case measure => simp [intOf] <;> omega
      · obtain rfl : k = l.length := by omega
        go_wp2
        go_ret2
        refine ⟨gf, rfl, ⟨hf1.out, A1, n, c1, g, cap, gl, F.q.toNat, l, logL F.q.toNat l l.length, ?_, hle.out.symm, inferInstance, HA9.out, inferInstance, HFG.out.out, inferInstance, hf2.out, GFm.of hs HG.out⟩, Bel.ext inferInstance⟩
        rw [logL_length]; infer_instance

end Go.Proofs.Ytcigdhmecfhndaa

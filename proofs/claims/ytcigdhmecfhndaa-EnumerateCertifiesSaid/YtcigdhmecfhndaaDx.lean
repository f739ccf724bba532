/- The walks of code.own, code.of, code.Dual, enumerate.side. -/
import Derived.Test.YtcigdhmecfhndaaDw
namespace Go.Proofs.Ytcigdhmecfhndaa
open Go.RowKit
attribute [local go_sem] cell_bx froz_bx cell_own froz_own cell_rd cell_cel ints_get ints_set cell_ownv froz_ownv eql_nil_int
set_option linter.unusedVariables false
set_option linter.unusedSimpArgs false

/-- a field stored into a box -/
def stF (w : World) (b : Nat) (v0 v1 v2 : Value) : World := ((w.setCell ⟨b, 0, none⟩ v0).setCell ⟨b, 1, none⟩ v1).setCell ⟨b, 2, none⟩ v2
theorem stF_bx {w : World} {b : Nat} {u0 u1 u2 : Value} (h : Bx w b #[u0, u1, u2] 24) (v0 v1 v2 : Value) : Bx (stF w b v0 v1 v2) b #[v0, v1, v2] 24 := by
  have h3 := bx_set (k := 2) (u := v2) (h := bx_set (k := 1) (u := v1) (h := bx_set (k := 0) (u := v0) (h := h)))
  simpa [stF] using h3
theorem stF_out {w : World} {b : Nat} {v0 v1 v2 : Value} : ∀ c, c ≠ b → (stF w b v0 v1 v2).heap[c]? = w.heap[c]? := fun c hc => by
  unfold stF
  rw [set_out c hc, set_out c hc, set_out c hc]
theorem stF_bel {w0 w : World} {b : Nat} {v0 v1 v2 : Value} (h : Bel w0 w) (hb : w0.heap.size ≤ b) : Bel w0 (stF w b v0 v1 v2) := by
  have : Fr w0 b := ⟨hb⟩
  unfold stF
  infer_instance

/-- a matrix stored into a box -/
def stM (w : World) (b : Nat) (v0 v1 : Value) : World := (w.setCell ⟨b, 0, none⟩ v0).setCell ⟨b, 1, none⟩ v1
theorem stM_bx {w : World} {b : Nat} {u0 u1 : Value} (h : Bx w b #[u0, u1] 91) (v0 v1 : Value) : Bx (stM w b v0 v1) b #[v0, v1] 91 := by
  have h3 := bx_set (k := 1) (u := v1) (h := bx_set (k := 0) (u := v0) (h := h))
  simpa [stM] using h3
theorem stM_out {w : World} {b : Nat} {v0 v1 : Value} : ∀ c, c ≠ b → (stM w b v0 v1).heap[c]? = w.heap[c]? := fun c hc => by
  unfold stM
  rw [set_out c hc, set_out c hc]
theorem stM_bel {w0 w : World} {b : Nat} {v0 v1 : Value} (h : Bel w0 w) (hb : w0.heap.size ≤ b) : Bel w0 (stM w b v0 v1) := by
  have : Fr w0 b := ⟨hb⟩
  unfold stM
  infer_instance
theorem zeros_mat (k : Nat) (v : Value) (h : (#[.int .i64 0, .slice none 0 0] : Array Value)[k]? = some v) : v = Value.int .i64 0 ∨ v = Value.slice none 0 0 := by
  rcases k with _ | _ | k <;> simp at h <;> simp [← h]

set_option maxRecDepth 100000 in
set_option maxHeartbeats 2000000 in
theorem cown_calls (F : Fd) (A : Option Addr) (n c : Nat) (w : World) (hn : F.md.length = n) (hn8 : n ≤ 1000) [hA : Sl w A F.md] :
    Calls Try.prog 163 #[.agg #[.int .i64 F.p, .int .i64 F.m, .slice A n c]] w fun e w' => ∃ B k, e = .returned (.agg #[.int .i64 F.p, .int .i64 F.m, .slice B n k]) ∧ Sl w' B F.md ∧ New w B ∧ Ext w w' := by
  go_enter Try.func163, Try.ntmps163
  go_wp2_with (go_at_call 105; refine (clone_calls F.md A n c _ hn (by omega)).mono ?_; rintro e w1 ⟨v, rfl, hr1, hf1, hx1, _⟩; obtain ⟨A1, c1, e1, hcc1, hs1, _⟩ := hr1.reads; rw [hn] at hcc1 e1; subst e1; have hnw := fun ad (e : A1 = some ad) => hf1.out ad.block (by rw [e]; rfl); simp only [World.size_alloc] at hnw; clear hr1 hf1)
  have hB1 : Bel w w1 := inferInstance
  have hb1 : Bx w1 (w.heap.size + 1) #[.int .i64 0, .int .i64 0, .slice none 0 0] 24 := inferInstance
  have hf0 : Fr w w.heap.size := ⟨Nat.le_refl _⟩
  have hb2 : Bx (w1.setCell ⟨w.heap.size, 2, none⟩ (.slice A1 n c1)) (w.heap.size + 1) #[.int .i64 0, .int .i64 0, .slice none 0 0] 24 := inferInstance
  have hB2 : Bel w (w1.setCell ⟨w.heap.size, 2, none⟩ (.slice A1 n c1)) := inferInstance
  have hs2 : Sl (w1.setCell ⟨w.heap.size, 2, none⟩ (.slice A1 n c1)) A1 F.md := hs1.off (fun ad e h => by have := hnw ad e; omega) set_out
  have hbz := stF_bx hb2 (.int .i64 F.p) (.int .i64 F.m) (.slice A1 n c1)
  refine bodyPost_ret (results_cell_row rfl _ _ (w.heap.size + 1) _ _ _ _ rfl hbz.out Try.underlying24 rfl (by kernel_rfl)) rfl ?_
  exact ⟨A1, c1, rfl, hs2.off (fun ad e h => by have := hnw ad e; omega) stF_out, ⟨fun ad e => by have := hnw ad e; omega⟩, (stF_bel hB2 (by omega)).ext⟩

set_option maxRecDepth 100000 in
set_option maxHeartbeats 2000000 in
theorem of_calls (F : Fd) (A : Option Addr) (n c0 : Nat) (l : List (List Int)) (Al : Option Addr) (nl cl N : Nat) (w : World) (hn : F.md.length = n) (hn8 : n ≤ 1000) [hA : Sl w A F.md] [hX : Sls w Al l] :
    Calls Try.prog 146 #[.agg #[.int .i64 F.p, .int .i64 F.m, .slice A n c0], .agg #[.int .i64 (N : Int), .slice Al nl cl], .int .i64 0] w fun e w' => ∃ B k, e = .returned (.tuple #[.agg #[.int .i64 F.p, .int .i64 F.m, .slice B n k, .int .i64 (N : Int), .slice Al nl cl], .int .i64 0]) ∧ Sl w' B F.md ∧ New w B ∧ Ext w w' := by
  go_enter Try.func146, Try.ntmps146
  go_upto_region 3 with fail
  have hb1 : Bx (((w.alloc (.cells #[.int .i64 F.p, .int .i64 F.m, .slice A n c0] 24)).alloc (.cells #[.int .i64 (N : Int), .slice Al nl cl] 91)).alloc (.cells #[.int .i64 0, .int .i64 0, .slice none 0 0, .int .i64 0, .slice none 0 0] 27)) w.heap.size #[.int .i64 F.p, .int .i64 F.m, .slice A n c0] 24 := inferInstance
  have hb2 : Bx (((w.alloc (.cells #[.int .i64 F.p, .int .i64 F.m, .slice A n c0] 24)).alloc (.cells #[.int .i64 (N : Int), .slice Al nl cl] 91)).alloc (.cells #[.int .i64 0, .int .i64 0, .slice none 0 0, .int .i64 0, .slice none 0 0] 27)) (w.heap.size + 1) #[.int .i64 (N : Int), .slice Al nl cl] 91 := inferInstance
  have hb3 : Bx (((w.alloc (.cells #[.int .i64 F.p, .int .i64 F.m, .slice A n c0] 24)).alloc (.cells #[.int .i64 (N : Int), .slice Al nl cl] 91)).alloc (.cells #[.int .i64 0, .int .i64 0, .slice none 0 0, .int .i64 0, .slice none 0 0] 27)) (w.heap.size + 1 + 1) #[.int .i64 0, .int .i64 0, .slice none 0 0, .int .i64 0, .slice none 0 0] 27 := inferInstance
  have hB : Bel w (((w.alloc (.cells #[.int .i64 F.p, .int .i64 F.m, .slice A n c0] 24)).alloc (.cells #[.int .i64 (N : Int), .slice Al nl cl] 91)).alloc (.cells #[.int .i64 0, .int .i64 0, .slice none 0 0, .int .i64 0, .slice none 0 0] 27)) := inferInstance
  generalize (((w.alloc (.cells #[.int .i64 F.p, .int .i64 F.m, .slice A n c0] 24)).alloc (.cells #[.int .i64 (N : Int), .slice Al nl cl] 91)).alloc (.cells #[.int .i64 0, .int .i64 0, .slice none 0 0, .int .i64 0, .slice none 0 0] 27)) = W at *
  have hl2 := (lo_bx (h := hb3)).out
  have hN : Near (w.heap.size + 1 + 1) W W := ⟨Below.refl _ _⟩
  have hL : Lo (w.heap.size + 1 + 1) (W.heap.size + 1) := ⟨by omega⟩
  go_region_held3 (fun w' => Near (w.heap.size + 1 + 1) W w') (infer_instance)
    ((go_at_call 163; refine (cown_calls F A n c0 _ hn hn8).mono ?_; rintro e w3 ⟨B, k, rfl, hs3, hnew, hx3⟩))
  all_goals go_wp2
  all_goals
    have hb4 : Bx w3 (w.heap.size + 1 + 1) #[.int .i64 0, .int .i64 0, .slice none 0 0, .int .i64 0, .slice none 0 0] 27 := inferInstance
    have hB3 : Bel w w3 := inferInstance
    have hnw := hnew.out
    simp only [World.size_drew] at hnw
    have hbz := stC_bx hb4 (.int .i64 F.p) (.int .i64 F.m) (.slice B n k) (.int .i64 (N : Int)) (.slice Al nl cl)
    refine bodyPost_ret (results_cell2 rfl _ _ (w.heap.size + 1 + 1) _ _ _ _ rfl hbz.out Try.underlying27 rfl (by kernel_rfl)) rfl ?_
    exact ⟨B, k, rfl, hs3.off (fun ad e h => by have := hnw ad e; omega) stC_out, ⟨fun ad e => by have := hnw ad e; omega⟩, (stC_bel hB3 (by omega)).ext⟩

set_option maxRecDepth 100000 in
set_option maxHeartbeats 4000000 in
theorem cdual_calls (F : Fd) (A : Option Addr) (n c0 : Nat) (rows : List (List Int)) (Ar : Option Addr) (nr cr N : Nat) (w : World) (hn : F.md.length = n) (hC : Cod F N rows) (hr : rows.length = nr) [hA : Sl w A F.md] [hX : Sls w Ar rows] :
    Calls Try.prog 123 #[.agg #[.int .i64 F.p, .int .i64 F.m, .slice A n c0, .int .i64 (N : Int), .slice Ar nr cr]] w fun e w' => ∃ B k Br kr, e = .returned (.tuple #[.agg #[.int .i64 F.p, .int .i64 F.m, .slice B n k, .int .i64 (N : Int), .slice Br (F.null rows N).length kr], .int .i64 0]) ∧ Sl w' B F.md ∧ New w B ∧ Sls w' Br (F.null rows N) ∧ Ext w w' := by
  have h64 := hC.n64
  have hle := hC.le
  have h8 := hC.ref.md8
  have hKE := fun w [hA : Sl w A F.md] [hX : Sls w Ar rows] => kernel_calls F A n c0 rows Ar nr cr N w hn (by omega) hr hC.matE hC.n1
  have hOF := fun Br kr w [hA : Sl w A F.md] [hX : Sls w Br (F.null rows N)] => of_calls F A n c0 (F.null rows N) Br (F.null rows N).length kr N w hn (by omega)
  have hcd := hC.codE
  have hdual := hC.dual
  have hlr := hC.rlen
  generalize F.null rows N = l at *
  have HKE := hidd hKE
  have HOF := hidd hOF
  have HCD := hidd hcd
  have HLR := hidd hlr
  clear hKE hOF hcd hlr
  go_enter Try.func123, Try.ntmps123
  go_upto_region 4 with (go_at_call 71; refine (ccheck_calls F A n c0 rows Ar nr cr N _ hn (by omega) hr (by omega) HLR.out).mono ?_; rintro e w1 ⟨rfl, hx1⟩; rw [HCD.out])
  have hb1 : Bx w1 w.heap.size #[.int .i64 F.p, .int .i64 F.m, .slice A n c0, .int .i64 (N : Int), .slice Ar nr cr] 27 := inferInstance
  have hb2 : Bx w1 (w.heap.size + 1) #[.int .i64 0, .int .i64 0, .slice none 0 0, .int .i64 0, .slice none 0 0] 27 := inferInstance
  have hB : Bel w w1 := inferInstance
  clear hx1
  have hl2 := (lo_bx (h := hb2)).out
  go_cut [5, 6] (fun v er wc => ∃ (gm : Nat) (B : Option Addr), v = .pointer (some ⟨gm, 0, none⟩) ∧ er = .int .i64 0 ∧ Bel w wc ∧ Bx wc w.heap.size #[.int .i64 F.p, .int .i64 F.m, .slice A n c0, .int .i64 (N : Int), .slice Ar nr cr] 27 ∧ Bx wc (w.heap.size + 1) #[.int .i64 0, .int .i64 0, .slice none 0 0, .int .i64 0, .slice none 0 0] 27 ∧ Bx wc gm #[.int .i64 (N : Int), .slice B l.length l.length] 91 ∧ Sls wc B l)
  case first =>
    have hN : Near w1.heap.size w1 w1 := ⟨Below.refl _ _⟩
    go_region_held3 (fun w' => Near w1.heap.size w1 w') (infer_instance)
      (first
        | (go_at_call 111; refine (gen_calls F A n c0 Ar nr cr (N : Int) _).mono ?_; rintro e w2 ⟨rfl, hx2⟩; have hLL : Lo w1.heap.size (w2.heap.size + 1) := ⟨by have := hx2.out.size; simp only [World.size_drew, World.size_alloc] at this; omega⟩)
        | (go_at_call 145; refine (HKE.out _).mono ?_; rintro e w3 ⟨B, rfl, hs3, hx3⟩))
    all_goals go_wp2_with fail
    all_goals go_meet
    all_goals have hB3 : Bel w w3 := inferInstance
    all_goals have hb3 : Bx w3 w.heap.size #[.int .i64 F.p, .int .i64 F.m, .slice A n c0, .int .i64 (N : Int), .slice Ar nr cr] 27 := inferInstance
    all_goals have hb4 : Bx w3 (w.heap.size + 1) #[.int .i64 0, .int .i64 0, .slice none 0 0, .int .i64 0, .slice none 0 0] 27 := inferInstance
    all_goals have hsz := hx2.out.size
    all_goals simp only [World.size_drew, World.size_alloc] at hsz
    all_goals first
      | exact ⟨_, B, rfl, rfl, inferInstance, inferInstance, inferInstance, inferInstance, inferInstance⟩
      | (have hbm : Bx w3 w2.heap.size #[.int .i64 0, .slice none 0 0] 91 := inferInstance
         exact ⟨_, B, rfl, rfl, stM_bel hB3 (by omega), ⟨(stM_out _ (by omega)).trans hb3.out⟩, ⟨(stM_out _ (by omega)).trans hb4.out⟩, stM_bx hbm _ _, hs3.off hbm zeros_mat hdual.nz stM_out⟩)
      | (have hbm : Bx w3 w1.heap.size #[.int .i64 0, .slice none 0 0] 91 := inferInstance
         exact ⟨_, B, rfl, rfl, stM_bel hB3 (by omega), ⟨(stM_out _ (by omega)).trans hb3.out⟩, ⟨(stM_out _ (by omega)).trans hb4.out⟩, stM_bx hbm _ _, hs3.off hbm zeros_mat hdual.nz stM_out⟩)
  case rest =>
    obtain ⟨gm, B, rfl, rfl, hBc, hbc, hbr, hbm, hsl⟩ := hcut
    clear hb1 hb2 hB
    go_wp2_with (go_at_call 146; refine (HOF.out _ _ _).mono ?_; rintro e w4 ⟨B2, k2, rfl, hs4, hnew, hx4⟩)
    have hbr4 : Bx w4 (w.heap.size + 1) #[.int .i64 0, .int .i64 0, .slice none 0 0, .int .i64 0, .slice none 0 0] 27 := inferInstance
    have hB4 : Bel w w4 := inferInstance
    have hsl4 : Sls w4 B l := inferInstance
    have hlr := (lo_bx (h := hbr)).out
    have hbz := stC_bx hbr4 (.int .i64 F.p) (.int .i64 F.m) (.slice B2 n k2) (.int .i64 (N : Int)) (.slice B l.length l.length)
    refine bodyPost_ret (results_cell2 rfl _ _ (w.heap.size + 1) _ _ _ _ rfl hbz.out Try.underlying27 rfl (by kernel_rfl)) rfl ?_
    exact ⟨B2, k2, B, l.length, rfl, hs4.off (fun ad e h => by have := hnew.out ad e; omega) stC_out, ⟨fun ad e => by have := hnew.out ad e; omega⟩, hsl4.off hbr4 zeros_code hdual.nz stC_out, (stC_bel hB4 (by omega)).ext⟩
end Go.Proofs.Ytcigdhmecfhndaa

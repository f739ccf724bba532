/- The walks of enumerate.side, Check, Certify, of ref23.Check, Certify. -/
import Derived.Test.YtcigdhmecfhndaaDx
namespace Go.Proofs.Ytcigdhmecfhndaa
open Go.RowKit
attribute [local go_sem] cell_bx froz_bx cell_own froz_own cell_rd cell_cel ints_get ints_set cell_ownv froz_ownv eql_nil_int
set_option linter.unusedVariables false
set_option linter.unusedSimpArgs false

theorem expE_cases (q : Int) (k : Nat) : expE q k = 8 ∨ expE q k = 0 := by
  unfold expE
  split
  · exact .inl rfl
  · exact .inr rfl

set_option maxRecDepth 100000 in
set_option maxHeartbeats 4000000 in
theorem side_no (F : Fd) (A : Option Addr) (n c0 : Nat) (rows : List (List Int)) (Ar : Option Addr) (nr cr N : Nat) (d : Bool) (w : World) (hn : F.md.length = n) (hC : Cod F N rows) (hr : rows.length = nr) (hE : expE F.q (F.sid rows N d).length = 8) [hA : Sl w A F.md] [hX : Sls w Ar rows] :
    Calls Try.prog 94 #[.agg #[.int .i64 F.p, .int .i64 F.m, .slice A n c0, .int .i64 (N : Int), .slice Ar nr cr], .bool d] w fun e w' => e = .returned (.tuple #[.agg #[.int .i64 0, .int .i64 0, .slice none 0 0, .int .i64 0, .slice none 0 0], .int .i64 8]) ∧ Ext w w' := by
  have h64 := hC.n64
  have hle := hC.le
  have h8 := hC.ref.md8
  have hF := fok_iff.2 hC.ref
  have hq2 := hC.ref.good.q2
  have hq3 := hC.ref.good.q256
  cases d
  · have hE2 : expE F.q nr = 8 := by rw [← hr]; exact hE
    go_enter Try.func94, Try.ntmps94
    go_wp2_with (first
      | (go_at_call 81; refine (new_fok F A n c0 _ hn (by omega) hF).mono ?_; rintro e w1 ⟨g, rfl, hf, hgp, hx1⟩)
      | (go_at_call 102; refine (gorder_calls F g _).mono ?_; rintro e w3 ⟨rfl, hx3⟩)
      | (go_at_call 101; refine (expn_calls F.q nr _ hq2 hq3 (by omega)).mono ?_; rintro e w4 ⟨rfl, hx4⟩; rw [hE2]))
    have hbz : Bx w4 (w.heap.size + 1) #[.int .i64 0, .int .i64 0, .slice none 0 0, .int .i64 0, .slice none 0 0] 27 := inferInstance
    have hB4 : Bel w w4 := inferInstance
    have hbz := stC_bx hbz (.int .i64 0) (.int .i64 0) (.slice none 0 0) (.int .i64 0) (.slice none 0 0)
    refine bodyPost_ret (results_cell2 rfl _ _ (w.heap.size + 1) _ _ _ _ rfl hbz.out Try.underlying27 rfl (by kernel_rfl)) rfl ?_
    exact ⟨rfl, (stC_bel hB4 (by omega)).ext⟩
  · have hnl := hC.null_len
    have hE2 : expE F.q (F.null rows N).length = 8 := hE
    generalize F.null rows N = l at *
    have hw : IntKind.i64.wrap ((N : Int) - (nr : Int)) = (l.length : Int) := by rw [wr_in (by omega) (by omega)]; omega
    go_enter Try.func94, Try.ntmps94
    go_wp2_with (first
      | (go_at_call 81; refine (new_fok F A n c0 _ hn (by omega) hF).mono ?_; rintro e w1 ⟨g, rfl, hf, hgp, hx1⟩)
      | (go_at_call 102; refine (gorder_calls F g _).mono ?_; rintro e w3 ⟨rfl, hx3⟩)
      | (go_at_call 101; refine (expn_calls F.q l.length _ hq2 hq3 (by omega)).mono ?_; rintro e w4 ⟨rfl, hx4⟩; rw [hE2]))
    have hbz : Bx w4 (w.heap.size + 1) #[.int .i64 0, .int .i64 0, .slice none 0 0, .int .i64 0, .slice none 0 0] 27 := inferInstance
    have hB4 : Bel w w4 := inferInstance
    have hbz := stC_bx hbz (.int .i64 0) (.int .i64 0) (.slice none 0 0) (.int .i64 0) (.slice none 0 0)
    refine bodyPost_ret (results_cell2 rfl _ _ (w.heap.size + 1) _ _ _ _ rfl hbz.out Try.underlying27 rfl (by kernel_rfl)) rfl ?_
    exact ⟨rfl, (stC_bel hB4 (by omega)).ext⟩

set_option maxRecDepth 100000 in
set_option maxHeartbeats 4000000 in
theorem side_calls (F : Fd) (A : Option Addr) (n c0 : Nat) (rows : List (List Int)) (Ar : Option Addr) (nr cr N : Nat) (d : Bool) (w : World) (hn : F.md.length = n) (hC : Cod F N rows) (hr : rows.length = nr) (hE : expE F.q (F.sid rows N d).length = 0) [hA : Sl w A F.md] [hX : Sls w Ar rows] :
    Calls Try.prog 94 #[.agg #[.int .i64 F.p, .int .i64 F.m, .slice A n c0, .int .i64 (N : Int), .slice Ar nr cr], .bool d] w fun e w' => ∃ B k Br kr, e = .returned (.tuple #[.agg #[.int .i64 F.p, .int .i64 F.m, .slice B n k, .int .i64 (N : Int), .slice Br (F.sid rows N d).length kr], .int .i64 0]) ∧ Sl w' B F.md ∧ Sls w' Br (F.sid rows N d) ∧ Ext w w' := by
  have h64 := hC.n64
  have hle := hC.le
  have h8 := hC.ref.md8
  have hF := fok_iff.2 hC.ref
  have hq2 := hC.ref.good.q2
  have hq3 := hC.ref.good.q256
  cases d
  · have hE2 : expE F.q nr = 0 := by rw [← hr]; exact hE
    go_enter Try.func94, Try.ntmps94
    go_wp2_with (first
      | (go_at_call 81; refine (new_fok F A n c0 _ hn (by omega) hF).mono ?_; rintro e w1 ⟨g, rfl, hf, hgp, hx1⟩)
      | (go_at_call 102; refine (gorder_calls F g _).mono ?_; rintro e w3 ⟨rfl, hx3⟩)
      | (go_at_call 101; refine (expn_calls F.q nr _ hq2 hq3 (by omega)).mono ?_; rintro e w4 ⟨rfl, hx4⟩; rw [hE2]))
    have hbz : Bx w4 (w.heap.size + 1) #[.int .i64 0, .int .i64 0, .slice none 0 0, .int .i64 0, .slice none 0 0] 27 := inferInstance
    have hB4 : Bel w w4 := inferInstance
    have hbz := stC_bx hbz (.int .i64 F.p) (.int .i64 F.m) (.slice A n c0) (.int .i64 (N : Int)) (.slice Ar nr cr)
    refine bodyPost_ret (results_cell2 rfl _ _ (w.heap.size + 1) _ _ _ _ rfl hbz.out Try.underlying27 rfl (by kernel_rfl)) rfl ?_
    have hBz := stC_bel (v0 := .int .i64 F.p) (v1 := .int .i64 F.m) (v2 := .slice A n c0) (v3 := .int .i64 (N : Int)) (v4 := .slice Ar nr cr) hB4 (b := w.heap.size + 1) (by omega)
    exact ⟨A, c0, Ar, cr, by rw [← hr]; rfl, hA.move hBz.out, (hX.move hBz.out : Sls _ Ar rows), hBz.ext⟩
  · have hnl := hC.null_len
    have hDU := fun w [hA : Sl w A F.md] [hX : Sls w Ar rows] => cdual_calls F A n c0 rows Ar nr cr N w hn hC hr
    have hdual := hC.dual
    have hsd : F.sid rows N true = F.null rows N := rfl
    rw [hsd] at hE ⊢
    clear hsd
    generalize F.null rows N = l at *
    have HDU := hidd hDU
    have hw : IntKind.i64.wrap ((N : Int) - (nr : Int)) = (l.length : Int) := by rw [wr_in (by omega) (by omega)]; omega
    clear hDU
    go_enter Try.func94, Try.ntmps94
    go_wp2_with (first
      | (go_at_call 81; refine (new_fok F A n c0 _ hn (by omega) hF).mono ?_; rintro e w1 ⟨g, rfl, hf, hgp, hx1⟩)
      | (go_at_call 102; refine (gorder_calls F g _).mono ?_; rintro e w3 ⟨rfl, hx3⟩)
      | (go_at_call 101; refine (expn_calls F.q l.length _ hq2 hq3 (by omega)).mono ?_; rintro e w4 ⟨rfl, hx4⟩; rw [hE])
      | (go_at_call 123; refine (HDU.out _).mono ?_; rintro e w5 ⟨B, k, Br, kr, rfl, hs5, hnew, hsr, hx5⟩))
    have hbz : Bx w5 (w.heap.size + 1) #[.int .i64 0, .int .i64 0, .slice none 0 0, .int .i64 0, .slice none 0 0] 27 := inferInstance
    have hbz4 : Bx w4 (w.heap.size + 1) #[.int .i64 0, .int .i64 0, .slice none 0 0, .int .i64 0, .slice none 0 0] 27 := inferInstance
    have hl4 := (lo_bx (h := hbz4)).out
    have hB4 : Bel w w5 := inferInstance
    have hb3 := hbz
    have hbz := stC_bx hbz (.int .i64 F.p) (.int .i64 F.m) (.slice B n k) (.int .i64 (N : Int)) (.slice Br l.length kr)
    refine bodyPost_ret (results_cell2 rfl _ _ (w.heap.size + 1) _ _ _ _ rfl hbz.out Try.underlying27 rfl (by kernel_rfl)) rfl ?_
    exact ⟨B, k, Br, kr, rfl, hs5.off (fun ad e h => by have := hnew.out ad e; omega) stC_out, hsr.off hb3 zeros_code hdual.nz stC_out, (stC_bel hB4 (by omega)).ext⟩
end Go.Proofs.Ytcigdhmecfhndaa

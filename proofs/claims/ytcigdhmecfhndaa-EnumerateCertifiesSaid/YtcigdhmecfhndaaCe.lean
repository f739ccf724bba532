/- The walks of enumerate.Certify, ref23.Certify. -/
import Derived.Test.YtcigdhmecfhndaaLck
namespace Go.Proofs.Ytcigdhmecfhndaa
open Go.RowKit
attribute [local go_sem] cell_bx froz_bx cell_own froz_own cell_rd cell_cel ints_get ints_set cell_ownv froz_ownv eql_nil_int
set_option linter.unusedVariables false
set_option linter.unusedSimpArgs false

/-- a tally stored into a box -/
def stT (w : World) (b : Nat) (v0 v1 : Value) : World := (w.setCell ⟨b, 0, none⟩ v0).setCell ⟨b, 1, none⟩ v1
theorem stT_bx {w : World} {b : Nat} {u0 u1 : Value} (h : Bx w b #[u0, u1] 74) (v0 v1 : Value) : Bx (stT w b v0 v1) b #[v0, v1] 74 := by
  have h3 := bx_set (k := 1) (u := v1) (h := bx_set (k := 0) (u := v0) (h := h))
  simpa [stT] using h3
theorem stT_out {w : World} {b : Nat} {v0 v1 : Value} : ∀ c, c ≠ b → (stT w b v0 v1).heap[c]? = w.heap[c]? := fun c hc => by
  unfold stT
  rw [set_out c hc, set_out c hc]
theorem stT_bel {w0 w : World} {b : Nat} {v0 v1 : Value} (h : Bel w0 w) (hb : w0.heap.size ≤ b) : Bel w0 (stT w b v0 v1) := by
  have : Fr w0 b := ⟨hb⟩
  unfold stT
  infer_instance
theorem Own.off {w w' : World} {g b : Nat} {xs : List Int} (h : Own w g xs) (hg : g ≠ b) (ho : ∀ c, c ≠ b → w'.heap[c]? = w.heap[c]?) : Own w' g xs := ⟨h.out.imp fun _ k => (ho g hg).trans k⟩

theorem ret_tal {a b : Bool} {v k : Value} (h : a = b) : Ending.returned (.tuple #[.agg #[.bool a, v], k]) = .returned (.tuple #[.agg #[.bool b, v], k]) := by rw [h]
/-- the side that Certify takes -/
def cerD (N : Nat) (rows : List (List Int)) : Bool := decide (N < 2 * rows.length)
/-- the answer of Certify -/
noncomputable def cerE (F : Fd) (N : Int) (rows : List (List Int)) : Int := if codE F N rows = 0 then sizE F N (F.sid rows N.toNat (cerD N.toNat rows)) else codE F N rows

set_option maxRecDepth 100000 in
set_option maxHeartbeats 4000000 in
theorem cer23_no (F : Fd) (A : Option Addr) (n c : Nat) (rows : List (List Int)) (Ar : Option Addr) (nr cr : Nat) (N : Int) (w : World) (hn : F.md.length = n) (hn2 : n ≤ 1000000000000000000) (hr : rows.length = nr) (hr2 : nr ≤ 1000000000000000000) (hrl : ∀ k, (gr rows k).length ≤ 1000000000000000000) (hno : cerE F N rows ≠ 0) [hA : Sl w A F.md] [hR : Sls w Ar rows] :
    Calls Try.prog 60 #[.agg #[.int .i64 F.p, .int .i64 F.m, .slice A n c, .int .i64 N, .slice Ar nr cr]] w fun e w' => e = .returned (.tuple #[.agg #[.bool false, .slice none 0 0], .int .i64 (cerE F N rows)]) ∧ Ext w w' := by
  have HRL := hidd hrl
  clear hrl
  by_cases hc : codE F N rows = 0
  · obtain ⟨M, rfl⟩ : ∃ M : Nat, N = M := ⟨N.toNat, by have := (codE_ok hc).2.1; omega⟩
    have hC := Cod.of hc
    have hrn := hC.le
    have h64 := hC.n64
    obtain ⟨d, hd⟩ : ∃ d, d = cerD M rows := ⟨_, rfl⟩
    have hCS := hC.sid d
    have hSI : ∀ d', d' = d → ∀ w [hA : Sl w A F.md] [hX : Sls w Ar rows], Calls Try.prog 56 #[.agg #[.int .i64 F.p, .int .i64 F.m, .slice A n c, .int .i64 (M : Int), .slice Ar nr cr], .bool d'] w fun e w' => ∃ B k Br kr, e = .returned (.agg #[.int .i64 F.p, .int .i64 F.m, .slice B n k, .int .i64 (M : Int), .slice Br (F.sid rows M d).length kr]) ∧ Sl w' B F.md ∧ Sls w' Br (F.sid rows M d) ∧ Ext w w' := fun d' e w hA hX => by subst e; exact side23_calls F A n c rows Ar nr cr M _ w hn hC hr
    have h8 := hC.ref.md8
    have hle := hCS.le
    have he : cerE F (M : Int) rows = sizE F (M : Int) (F.sid rows M d) := by rw [cerE, if_pos hc, Int.toNat_natCast, hd]
    rw [he] at hno ⊢
    generalize F.sid rows M d = l at *
    have hlr := hCS.rlen
    have hW := fun B k Br kr w [hA : Sl w B F.md] [hX : Sls w Br l] => weights23_no F B n k l Br l.length kr M w hn hn2 rfl (by omega) hlr hno
    have hb : (sizE F (M : Int) l != 0) = true := by simp [hno]
    have HSI := hidd hSI
    have HC := hidd hc
    have HW := hidd hW
    have HD := hidd hd
    clear hSI hlr hc hW hno he hd
    go_enter Try.func60, Try.ntmps60
    go_wp2_with (first
      | (go_at_call 24; refine (check12_calls F A n c rows Ar nr cr M _ hn hn2 hr hr2 HRL.out).mono ?_; rintro e w1 ⟨rfl, hx1⟩; rw [HC.out])
      | (go_at_call 56; refine (HSI.out _ (by rw [HD.out, cerD]; exact decide_eq_decide.2 (by omega)) _).mono ?_; rintro e w2 ⟨B, k, Br, kr, rfl, hs2, hr2', hx2⟩)
      | (go_at_call 20; refine (HW.out _ _ _ _ _).mono ?_; rintro e w3 ⟨rfl, hx3⟩))
    have hbz : Bx w3 (w.heap.size + 1) #[.bool false, .slice none 0 0] 74 := inferInstance
    have hB3 : Bel w w3 := inferInstance
    have hbz := stT_bx hbz (.bool false) (.slice none 0 0)
    refine bodyPost_ret (results_cell2 rfl _ _ (w.heap.size + 1) _ _ _ _ rfl hbz.out Try.underlying74 rfl (by kernel_rfl)) rfl ?_
    exact ⟨rfl, (stT_bel hB3 (by omega)).ext⟩
  · have hb : (codE F N rows != 0) = true := by simp [hc]
    have he : cerE F N rows = codE F N rows := by rw [cerE, if_neg hc]
    have HC := hidd hc
    clear hc hno
    rw [he]
    go_enter Try.func60, Try.ntmps60
    go_wp2_with (go_at_call 24; refine (check12_calls F A n c rows Ar nr cr N _ hn hn2 hr hr2 HRL.out).mono ?_; rintro e w1 ⟨rfl, hx1⟩)
    have hbz : Bx w1 (w.heap.size + 1) #[.bool false, .slice none 0 0] 74 := inferInstance
    have hB3 : Bel w w1 := inferInstance
    have hbz := stT_bx hbz (.bool false) (.slice none 0 0)
    refine bodyPost_ret (results_cell2 rfl _ _ (w.heap.size + 1) _ _ _ _ rfl hbz.out Try.underlying74 rfl (by kernel_rfl)) rfl ?_
    exact ⟨rfl, (stT_bel hB3 (by omega)).ext⟩

set_option maxRecDepth 100000 in
set_option maxHeartbeats 4000000 in
theorem cer23_yes (F : Fd) (A : Option Addr) (n c : Nat) (rows : List (List Int)) (Ar : Option Addr) (nr cr : Nat) (M : Nat) (w : World) (hn : F.md.length = n) (hn2 : n ≤ 1000000000000000000) (hr : rows.length = nr) (hr2 : nr ≤ 1000000000000000000) (hrl : ∀ k, (gr rows k).length ≤ 1000000000000000000) (hc : codE F (M : Int) rows = 0) (hs : sizE F (M : Int) (F.sid rows M (cerD M rows)) = 0) [hA : Sl w A F.md] [hR : Sls w Ar rows] :
    Calls Try.prog 60 #[.agg #[.int .i64 F.p, .int .i64 F.m, .slice A n c, .int .i64 (M : Int), .slice Ar nr cr]] w fun e w' => ∃ g, e = .returned (.tuple #[.agg #[.bool (cerD M rows), .slice (some ⟨g, 0, none⟩) (M + 1) (M + 1)], .int .i64 0]) ∧ Own w' g (F.wtS M (F.sid rows M (cerD M rows))) ∧ Ext w w' := by
  have HRL := hidd hrl
  clear hrl
  have hC := Cod.of hc
  have hrn := hC.le
  have h64 := hC.n64
  obtain ⟨d, hd⟩ : ∃ d, d = cerD M rows := ⟨_, rfl⟩
  rw [← hd] at hs ⊢
  have hCS := hC.sid d
  have hSI : ∀ d', d' = d → ∀ w [hA : Sl w A F.md] [hX : Sls w Ar rows], Calls Try.prog 56 #[.agg #[.int .i64 F.p, .int .i64 F.m, .slice A n c, .int .i64 (M : Int), .slice Ar nr cr], .bool d'] w fun e w' => ∃ B k Br kr, e = .returned (.agg #[.int .i64 F.p, .int .i64 F.m, .slice B n k, .int .i64 (M : Int), .slice Br (F.sid rows M d).length kr]) ∧ Sl w' B F.md ∧ Sls w' Br (F.sid rows M d) ∧ Ext w w' := fun d' e w hA hX => by subst e; exact side23_calls F A n c rows Ar nr cr M _ w hn hC hr
  have h8 := hC.ref.md8
  have hle := hCS.le
  generalize F.sid rows M d = l at *
  have hlr := hCS.rlen
  have hW := fun B k Br kr w [hA : Sl w B F.md] [hX : Sls w Br l] => weights23_calls F B n k l Br l.length kr M w hn hn2 rfl (by omega) hlr hs
  rw [prof_wtS hs] at hW
  generalize F.wtS M l = v at *
  have HSI := hidd hSI
  have HC := hidd hc
  have HW := hidd hW
  have HD := hidd hd
  clear hSI hlr hc hW hs hd
  go_enter Try.func60, Try.ntmps60
  go_wp2_with (first
    | (go_at_call 24; refine (check12_calls F A n c rows Ar nr cr M _ hn hn2 hr hr2 HRL.out).mono ?_; rintro e w1 ⟨rfl, hx1⟩; rw [HC.out])
    | (go_at_call 56; refine (HSI.out _ (by rw [HD.out, cerD]; exact decide_eq_decide.2 (by omega)) _).mono ?_; rintro e w2 ⟨B, k, Br, kr, rfl, hs2, hr2', hx2⟩)
    | (go_at_call 20; refine (HW.out _ _ _ _ _).mono ?_; rintro e w3 ⟨g, rfl, hf3, ho3, hx3⟩))
  have hb3 : Bx w3 (w.heap.size + 1) #[.bool false, .slice none 0 0] 74 := inferInstance
  have hB3 : Bel w w3 := inferInstance
  refine bodyPost_ret (results_cell2 rfl _ _ (w.heap.size + 1) _ _ _ _ rfl (stT_bx hb3 _ _).out Try.underlying74 rfl (by kernel_rfl)) rfl ?_
  exact ⟨g, ret_tal (by rw [HD.out, cerD]; exact decide_eq_decide.2 (by omega)), ho3.off (own_bx_ne ho3 hb3 (by decide)).symm stT_out, (stT_bel hB3 (by omega)).ext⟩
set_option maxRecDepth 100000 in
set_option maxHeartbeats 4000000 in
theorem ecer_no (F : Fd) (A : Option Addr) (n c : Nat) (rows : List (List Int)) (Ar : Option Addr) (nr cr : Nat) (N : Int) (w : World) (hn : F.md.length = n) (hn2 : n ≤ 1000000000000000000) (hr : rows.length = nr) (hr2 : nr ≤ 1000000000000000000) (hrl : ∀ k, (gr rows k).length ≤ 1000000000000000000) (hno : cerE F N rows ≠ 0) [hA : Sl w A F.md] [hR : Sls w Ar rows] :
    Calls Try.prog 59 #[.agg #[.int .i64 F.p, .int .i64 F.m, .slice A n c, .int .i64 N, .slice Ar nr cr]] w fun e w' => e = .returned (.tuple #[.agg #[.bool false, .slice none 0 0], .int .i64 (cerE F N rows)]) ∧ Ext w w' := by
  have HRL := hidd hrl
  clear hrl
  by_cases hc : codE F N rows = 0
  · obtain ⟨M, rfl⟩ : ∃ M : Nat, N = M := ⟨N.toNat, by have := (codE_ok hc).2.1; omega⟩
    have hC := Cod.of hc
    have hrn := hC.le
    have h64 := hC.n64
    obtain ⟨d, hd⟩ : ∃ d, d = cerD M rows := ⟨_, rfl⟩
    have hCS := hC.sid d
    have hSI : expE F.q (F.sid rows M d).length = 8 → ∀ d', d' = d → ∀ w [hA : Sl w A F.md] [hX : Sls w Ar rows], Calls Try.prog 94 #[.agg #[.int .i64 F.p, .int .i64 F.m, .slice A n c, .int .i64 (M : Int), .slice Ar nr cr], .bool d'] w fun e w' => e = .returned (.tuple #[.agg #[.int .i64 0, .int .i64 0, .slice none 0 0, .int .i64 0, .slice none 0 0], .int .i64 8]) ∧ Ext w w' := fun hE d' e w hA hX => by subst e; exact side_no F A n c rows Ar nr cr M _ w hn hC hr hE
    have h8 := hC.ref.md8
    have hle := hCS.le
    have he : cerE F (M : Int) rows = sizE F (M : Int) (F.sid rows M d) := by rw [cerE, if_pos hc, Int.toNat_natCast, hd]
    rw [he] at hno ⊢
    generalize F.sid rows M d = l at *
    rw [hCS.sizE] at hno ⊢
    have hE8 := (expE_cases F.q l.length).resolve_right hno
    rw [hE8]
    have HSI := hidd (hSI hE8)
    have HC := hidd hc
    have HD := hidd hd
    clear hSI hc hno he hd hE8
    go_enter Try.func59, Try.ntmps59
    go_wp2_with (first
      | (go_at_call 71; refine (ccheck_calls F A n c rows Ar nr cr M _ hn hn2 hr hr2 HRL.out).mono ?_; rintro e w1 ⟨rfl, hx1⟩; rw [HC.out])
      | (go_at_call 94; refine (HSI.out _ (by rw [HD.out, cerD]; exact decide_eq_decide.2 (by omega)) _).mono ?_; rintro e w2 ⟨rfl, hx2⟩))
    have hB3 : Bel w (w2.alloc (.cells #[.int .i64 0, .int .i64 0, .slice none 0 0, .int .i64 0, .slice none 0 0] 27)) := inferInstance
    have hbz : Bx (w2.alloc (.cells #[.int .i64 0, .int .i64 0, .slice none 0 0, .int .i64 0, .slice none 0 0] 27)) (w.heap.size + 1) #[.bool false, .slice none 0 0] 74 := inferInstance
    refine bodyPost_ret (results_cell2 rfl _ _ (w.heap.size + 1) _ _ _ _ rfl (stT_bx hbz _ _).out Try.underlying74 rfl (by kernel_rfl)) rfl ?_
    exact ⟨rfl, (stT_bel hB3 (by omega)).ext⟩
  · have hb : (codE F N rows != 0) = true := by simp [hc]
    have he : cerE F N rows = codE F N rows := by rw [cerE, if_neg hc]
    have HC := hidd hc
    clear hc hno
    rw [he]
    go_enter Try.func59, Try.ntmps59
    go_wp2_with (go_at_call 71; refine (ccheck_calls F A n c rows Ar nr cr N _ hn hn2 hr hr2 HRL.out).mono ?_; rintro e w1 ⟨rfl, hx1⟩)
    have hbz : Bx w1 (w.heap.size + 1) #[.bool false, .slice none 0 0] 74 := inferInstance
    have hB3 : Bel w w1 := inferInstance
    refine bodyPost_ret (results_cell2 rfl _ _ (w.heap.size + 1) _ _ _ _ rfl (stT_bx hbz _ _).out Try.underlying74 rfl (by kernel_rfl)) rfl ?_
    exact ⟨rfl, (stT_bel hB3 (by omega)).ext⟩

set_option maxRecDepth 100000 in
set_option maxHeartbeats 4000000 in
theorem ecer_yes (F : Fd) (A : Option Addr) (n c : Nat) (rows : List (List Int)) (Ar : Option Addr) (nr cr : Nat) (M : Nat) (w : World) (hn : F.md.length = n) (hn2 : n ≤ 1000000000000000000) (hr : rows.length = nr) (hr2 : nr ≤ 1000000000000000000) (hrl : ∀ k, (gr rows k).length ≤ 1000000000000000000) (hc : codE F (M : Int) rows = 0) (hs : sizE F (M : Int) (F.sid rows M (cerD M rows)) = 0) [hA : Sl w A F.md] [hR : Sls w Ar rows] :
    Calls Try.prog 59 #[.agg #[.int .i64 F.p, .int .i64 F.m, .slice A n c, .int .i64 (M : Int), .slice Ar nr cr]] w fun e w' => ∃ g, e = .returned (.tuple #[.agg #[.bool (cerD M rows), .slice (some ⟨g, 0, none⟩) (M + 1) (M + 1)], .int .i64 0]) ∧ Own w' g (F.wtS M (F.sid rows M (cerD M rows))) ∧ Ext w w' := by
  have HRL := hidd hrl
  clear hrl
  have hC := Cod.of hc
  have hrn := hC.le
  have h64 := hC.n64
  obtain ⟨d, hd⟩ : ∃ d, d = cerD M rows := ⟨_, rfl⟩
  rw [← hd] at hs ⊢
  have hCS := hC.sid d
  have hSI : expE F.q (F.sid rows M d).length = 0 → ∀ d', d' = d → ∀ w [hA : Sl w A F.md] [hX : Sls w Ar rows], Calls Try.prog 94 #[.agg #[.int .i64 F.p, .int .i64 F.m, .slice A n c, .int .i64 (M : Int), .slice Ar nr cr], .bool d'] w fun e w' => ∃ B k Br kr, e = .returned (.tuple #[.agg #[.int .i64 F.p, .int .i64 F.m, .slice B n k, .int .i64 (M : Int), .slice Br (F.sid rows M d).length kr], .int .i64 0]) ∧ Sl w' B F.md ∧ Sls w' Br (F.sid rows M d) ∧ Ext w w' := fun hE d' e w hA hX => by subst e; exact side_calls F A n c rows Ar nr cr M _ w hn hC hr hE
  have h8 := hC.ref.md8
  have hle := hCS.le
  generalize F.sid rows M d = l at *
  have hlr := hCS.rlen
  have hW := fun B k Br kr w [hA : Sl w B F.md] [hX : Sls w Br l] => eweights_calls F B n k l Br l.length kr M w hn hn2 rfl (by omega) hlr hs
  rw [Fd.wtS]
  generalize F.wdist l M (sizV F (M : Int) l).toNat = v at *
  rw [hCS.sizE] at hs
  have HSI := hidd (hSI hs)
  have HC := hidd hc
  have HW := hidd hW
  have HD := hidd hd
  clear hSI hlr hc hW hs hd
  go_enter Try.func59, Try.ntmps59
  go_wp2_with (first
    | (go_at_call 71; refine (ccheck_calls F A n c rows Ar nr cr M _ hn hn2 hr hr2 HRL.out).mono ?_; rintro e w1 ⟨rfl, hx1⟩; rw [HC.out])
    | (go_at_call 94; refine (HSI.out _ (by rw [HD.out, cerD]; exact decide_eq_decide.2 (by omega)) _).mono ?_; rintro e w2 ⟨B, k, Br, kr, rfl, hs2, hr2', hx2⟩)
    | (go_at_call 19; refine (HW.out _ _ _ _ _).mono ?_; rintro e w3 ⟨g, rfl, ho3, hx3⟩))
  have hb3 : Bx w3 (w.heap.size + 1) #[.bool false, .slice none 0 0] 74 := inferInstance
  have hB3 : Bel w w3 := inferInstance
  refine bodyPost_ret (results_cell2 rfl _ _ (w.heap.size + 1) _ _ _ _ rfl (stT_bx hb3 _ _).out Try.underlying74 rfl (by kernel_rfl)) rfl ?_
  exact ⟨g, ret_tal (by rw [HD.out, cerD]; exact decide_eq_decide.2 (by omega)), ho3.off (own_bx_ne ho3 hb3 (by decide)).symm stT_out, (stT_bel hB3 (by omega)).ext⟩
end Go.Proofs.Ytcigdhmecfhndaa

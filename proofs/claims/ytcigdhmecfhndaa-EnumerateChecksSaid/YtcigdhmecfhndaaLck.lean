/- The walk of the law EnumerateChecks. -/
import Derived.Test.YtcigdhmecfhndaaDz
namespace Go.Proofs.Ytcigdhmecfhndaa
open Go.RowKit
attribute [local go_sem] cell_bx froz_bx cell_own froz_own cell_rd cell_cel ints_get ints_set cell_ownv froz_ownv eql_nil_int
set_option linter.unusedVariables false
set_option linter.unusedSimpArgs false

set_option maxRecDepth 100000 in
set_option maxHeartbeats 4000000 in
theorem law_enumerateChecks (F : Fd) (A : Option Addr) (n c : Nat) (rows : List (List Int)) (Ar : Option Addr) (nr cr : Nat) (N : Int) (d : Bool) (t : List Int) (At : Option Addr) (nt ct : Nat) (w : World) (hn : F.md.length = n) (hn2 : n ≤ 1000000000000000000) (hr : rows.length = nr) (hr2 : nr ≤ 1000000000000000000) (hrl : ∀ k, (gr rows k).length ≤ 1000000000000000000) (ht : t.length = nt) (ht2 : nt ≤ 1000000000000000000) [hA : Sl w A F.md] [hR : Sls w Ar rows] [hT : Sl w At t] :
    Calls Try.prog 13 #[.agg #[.int .i64 F.p, .int .i64 F.m, .slice A n c, .int .i64 N, .slice Ar nr cr], .agg #[.bool d, .slice At nt ct]] w fun e w' => e = .returned (.bool true) ∧ Bel w w' := by
  have HRL := hidd hrl
  clear hrl
  have hEC := fun w [hA : Sl w A F.md] [hR : Sls w Ar rows] [hT : Sl w At t] => echk_calls F A n c rows Ar nr cr N d t At nt ct w hn hn2 hr hr2 HRL.out ht ht2
  have hRC := fun w [hA : Sl w A F.md] [hR : Sls w Ar rows] [hT : Sl w At t] => chk23_calls F A n c rows Ar nr cr N d t At nt ct w hn hn2 hr hr2 HRL.out ht ht2
  have hCH := fun w [hA : Sl w A F.md] [hR : Sls w Ar rows] => check12_calls F A n c rows Ar nr cr N w hn hn2 hr hr2 HRL.out
  generalize chkE F N rows d t = ce at *
  have hbe : (ce == ce) = true := by simp
  by_cases hc : codE F N rows = 0
  · obtain ⟨M, rfl⟩ : ∃ M : Nat, N = M := ⟨N.toNat, by have := (codE_ok hc).2.1; omega⟩
    have hC := Cod.of hc
    have hCS := hC.sid d
    have hSI := fun w [hA : Sl w A F.md] [hX : Sls w Ar rows] => side23_calls F A n c rows Ar nr cr M d w hn hC hr
    have h8 := hC.ref.md8
    have hle := hCS.le
    have h64 := hC.n64
    generalize F.sid rows M d = l at *
    have hlr := hCS.rlen
    have hSM := fun B k Br kr w [hA : Sl w B F.md] [hX : Sls w Br l] => small_calls F B n k l Br l.length kr M w hn hn2 rfl (by omega) hlr
    rw [hc] at hCH
    have HSI := hidd hSI
    have HSM := hidd hSM
    have HEC := hidd hEC
    have HRC := hidd hRC
    have HCH := hidd hCH
    clear hSI hSM hEC hRC hCH hlr hc
    go_enter Try.func13, Try.ntmps13
    cases hs : smallB F (M : Int) l with
    | false =>
      go_wp2_with (first
        | (go_at_call 24; refine (HCH.out _).mono ?_; rintro e w1 ⟨rfl, hx1⟩)
        | (go_at_call 56; refine (HSI.out _).mono ?_; rintro e w2 ⟨B, k, Br, kr, rfl, hs2, hr2', hx2⟩)
        | (go_at_call 17; refine (HSM.out _ _ _ _ _).mono ?_; rintro e w3 ⟨rfl, hx3⟩; rw [hs])
        | (go_at_call 18; refine (alive_calls _).mono ?_; rintro e w4 ⟨rfl, hx4⟩))
      go_ret
      exact ⟨rfl, inferInstance⟩
    | true =>
      go_upto_region 3 with (first
        | (go_at_call 24; refine (HCH.out _).mono ?_; rintro e w1 ⟨rfl, hx1⟩)
        | (go_at_call 56; refine (HSI.out _).mono ?_; rintro e w2 ⟨B, k, Br, kr, rfl, hs2, hr2', hx2⟩)
        | (go_at_call 17; refine (HSM.out _ _ _ _ _).mono ?_; rintro e w3 ⟨rfl, hx3⟩; rw [hs])
        | (go_at_call 18; refine (alive_calls _).mono ?_; rintro e w4 ⟨rfl, hx4⟩))
      have hN3 : Near w3.heap.size w3 w3 := ⟨Below.refl _ _⟩
      have hb1 : Bx w3 w.heap.size #[.int .i64 F.p, .int .i64 F.m, .slice A n c, .int .i64 (M : Int), .slice Ar nr cr] 27 := inferInstance
      have hb2 : Bx w3 (w.heap.size + 1) #[.bool d, .slice At nt ct] 74 := inferInstance
      have hB3 : Bel w w3 := inferInstance
      clear hx1 hx2 hx3 hs2 hr2'
      go_region_held3 (fun w' => Near w3.heap.size w3 w') (infer_instance)
        ((first
          | (go_at_call 57; refine (HEC.out _).mono ?_; rintro e w4 ⟨rfl, hx4⟩)
          | (go_at_call 58; refine (HRC.out _).mono ?_; rintro e w5 ⟨rfl, hx5⟩)
          | (go_at_call 18; refine (alive_calls _).mono ?_; rintro e w6 ⟨rfl, hx6⟩)))
      all_goals go_wp2
      all_goals go_ret
      all_goals exact ⟨rfl, inferInstance⟩
  · have hb : (codE F N rows == 0) = false := by simp [hc]
    have HEC := hidd hEC
    have HRC := hidd hRC
    have HCH := hidd hCH
    clear hEC hRC hCH hc
    go_enter Try.func13, Try.ntmps13
    go_upto_region 3 with (first
      | (go_at_call 24; refine (HCH.out _).mono ?_; rintro e w1 ⟨rfl, hx1⟩))
    have hN3 : Near w1.heap.size w1 w1 := ⟨Below.refl _ _⟩
    have hb1 : Bx w1 w.heap.size #[.int .i64 F.p, .int .i64 F.m, .slice A n c, .int .i64 N, .slice Ar nr cr] 27 := inferInstance
    have hb2 : Bx w1 (w.heap.size + 1) #[.bool d, .slice At nt ct] 74 := inferInstance
    have hB3 : Bel w w1 := inferInstance
    clear hx1
    go_region_held3 (fun w' => Near w1.heap.size w1 w') (infer_instance)
      ((first
        | (go_at_call 57; refine (HEC.out _).mono ?_; rintro e w4 ⟨rfl, hx4⟩)
        | (go_at_call 58; refine (HRC.out _).mono ?_; rintro e w5 ⟨rfl, hx5⟩)
        | (go_at_call 18; refine (alive_calls _).mono ?_; rintro e w6 ⟨rfl, hx6⟩)))
    all_goals go_wp2
    all_goals go_ret
    all_goals exact ⟨rfl, inferInstance⟩
end Go.Proofs.Ytcigdhmecfhndaa

/- The walk of the law EnumerateCertifies. -/
import Derived.Test.YtcigdhmecfhndaaCe
namespace Go.Proofs.Ytcigdhmecfhndaa
open Go.RowKit
attribute [local go_sem] cell_bx froz_bx cell_own froz_own cell_rd cell_cel ints_get ints_set cell_ownv froz_ownv eql_nil_int
set_option linter.unusedVariables false
set_option linter.unusedSimpArgs false

set_option maxRecDepth 100000 in
set_option maxHeartbeats 8000000 in
theorem law_enumerateCertifies (F : Fd) (A : Option Addr) (n c : Nat) (rows : List (List Int)) (Ar : Option Addr) (nr cr : Nat) (N : Int) (w : World) (hn : F.md.length = n) (hn2 : n ≤ 1000000000000000000) (hr : rows.length = nr) (hr2 : nr ≤ 1000000000000000000) (hrl : ∀ k, (gr rows k).length ≤ 1000000000000000000) [hA : Sl w A F.md] [hR : Sls w Ar rows] :
    Calls Try.prog 14 #[.agg #[.int .i64 F.p, .int .i64 F.m, .slice A n c, .int .i64 N, .slice Ar nr cr]] w fun e w' => e = .returned (.bool true) ∧ Bel w w' := by
  have HRL := hidd hrl
  clear hrl
  have hCH := fun w [hA : Sl w A F.md] [hR : Sls w Ar rows] => check12_calls F A n c rows Ar nr cr N w hn hn2 hr hr2 HRL.out
  have hEN := fun (h : cerE F N rows ≠ 0) w [hA : Sl w A F.md] [hR : Sls w Ar rows] => ecer_no F A n c rows Ar nr cr N w hn hn2 hr hr2 HRL.out h
  have hRN := fun (h : cerE F N rows ≠ 0) w [hA : Sl w A F.md] [hR : Sls w Ar rows] => cer23_no F A n c rows Ar nr cr N w hn hn2 hr hr2 HRL.out h
  by_cases hc : codE F N rows = 0
  · rw [hc] at hCH
    obtain ⟨M, rfl⟩ : ∃ M : Nat, N = M := ⟨N.toNat, by have := (codE_ok hc).2.1; omega⟩
    have hC := Cod.of hc
    have hCD := hC.dual
    have hSI := fun w [hA : Sl w A F.md] [hX : Sls w Ar rows] => side23_calls F A n c rows Ar nr cr M true w hn hC hr
    have hsd : F.sid rows M true = F.null rows M := rfl
    rw [hsd] at hSI
    clear hsd
    have h8 := hC.ref.md8
    have h64 := hC.n64
    have hle := hCD.le
    have hS1 := fun w [hA : Sl w A F.md] [hX : Sls w Ar rows] => small_calls F A n c rows Ar nr cr M w hn hn2 hr hr2 HRL.out
    have hlr := hCD.rlen
    have hEY := fun (hs : sizE F (M : Int) (F.sid rows M (cerD M rows)) = 0) w [hA : Sl w A F.md] [hR : Sls w Ar rows] => ecer_yes F A n c rows Ar nr cr M w hn hn2 hr hr2 HRL.out hc hs
    have hRY := fun (hs : sizE F (M : Int) (F.sid rows M (cerD M rows)) = 0) w [hA : Sl w A F.md] [hR : Sls w Ar rows] => cer23_yes F A n c rows Ar nr cr M w hn hn2 hr hr2 HRL.out hc hs
    have hCK := fun (hs : sizE F (M : Int) (F.sid rows M (cerD M rows)) = 0) g w [hA : Sl w A F.md] [hR : Sls w Ar rows] [hO : Own w g (F.wtS M (F.sid rows M (cerD M rows)))] => echk_calls F A n c rows Ar nr cr M (cerD M rows) (F.wtS M (F.sid rows M (cerD M rows))) (some ⟨g, 0, none⟩) (M + 1) (M + 1) w hn hn2 hr hr2 HRL.out (wtS_len _ _ _) (by omega)
    have hce : cerE F (M : Int) rows = sizE F (M : Int) (F.sid rows M (cerD M rows)) := by rw [cerE, if_pos hc, Int.toNat_natCast]
    have hck : sizE F (M : Int) (F.sid rows M (cerD M rows)) = 0 → chkE F (M : Int) rows (cerD M rows) (F.wtS M (F.sid rows M (cerD M rows))) = 0 := fun hs => by
      rw [chkE, if_pos hc, Int.toNat_natCast, if_pos hs, if_pos rfl]
    have hvl := wtS_len F M (F.sid rows M (cerD M rows))
    generalize F.wtS M (F.sid rows M (cerD M rows)) = v at *
    generalize F.null rows M = l at *
    have hS2 := fun B k Br kr w [hA : Sl w B F.md] [hX : Sls w Br l] => small_calls F B n k l Br l.length kr M w hn hn2 rfl (by omega) hlr
    generalize cerD M rows = d at *
    have HCH := hidd hCH
    have HSI := hidd hSI
    have HS1 := hidd hS1
    have HS2 := hidd hS2
    clear hCH hSI hS1 hS2 hlr hc
    cases hs1 : smallB F (M : Int) rows with
    | false =>
      clear hEN hRN hEY hRY hCK hck hce
      go_enter Try.func14, Try.ntmps14
      go_wp2_with (first
        | (go_at_call 24; refine (HCH.out _).mono ?_; rintro e w1 ⟨rfl, hx1⟩)
        | (go_at_call 17; refine (HS1.out _).mono ?_; rintro e w2 ⟨rfl, hx2⟩; rw [hs1])
        | (go_at_call 18; refine (alive_calls _).mono ?_; rintro e w9 ⟨rfl, hx9⟩))
      go_ret
      exact ⟨rfl, inferInstance⟩
    | true =>
      cases hs2 : smallB F (M : Int) l with
      | false =>
        clear hEN hRN hEY hRY hCK hck hce
        go_enter Try.func14, Try.ntmps14
        go_wp2_with (first
          | (go_at_call 24; refine (HCH.out _).mono ?_; rintro e w1 ⟨rfl, hx1⟩)
          | (go_at_call 17; refine (HS2.out B3 k3 Br3 kr3 _).mono ?_; rintro e w4 ⟨rfl, hx4⟩; rw [hs2])
          | (go_at_call 17; refine (HS1.out _).mono ?_; rintro e w2 ⟨rfl, hx2⟩; rw [hs1])
          | (go_at_call 56; refine (HSI.out _).mono ?_; rintro e w3 ⟨B3, k3, Br3, kr3, rfl, hs3, hr3, hx3⟩)
          | (go_at_call 18; refine (alive_calls _).mono ?_; rintro e w9 ⟨rfl, hx9⟩))
        go_ret
        exact ⟨rfl, inferInstance⟩
      | true =>
        by_cases hs : sizE F (M : Int) (F.sid rows M d) = 0
        · rw [hck hs] at hCK
          have HEN := hidd (hEY hs)
          have HRN := hidd (hRY hs)
          have HCK := hidd (hCK hs)
          clear hEN hRN hEY hRY hCK hck hce hs
          go_enter Try.func14, Try.ntmps14
          go_wp2_with (first
            | (go_at_call 24; refine (HCH.out _).mono ?_; rintro e w1 ⟨rfl, hx1⟩)
            | (go_at_call 17; refine (HS2.out B3 k3 Br3 kr3 _).mono ?_; rintro e w4 ⟨rfl, hx4⟩; rw [hs2])
            | (go_at_call 17; refine (HS1.out _).mono ?_; rintro e w2 ⟨rfl, hx2⟩; rw [hs1])
            | (go_at_call 56; refine (HSI.out _).mono ?_; rintro e w3 ⟨B3, k3, Br3, kr3, rfl, hs3, hr3, hx3⟩)
            | (go_at_call 59; refine (HEN.out _).mono ?_; rintro e w5 ⟨g5, rfl, ho5, hx5⟩)
            | (go_at_call 60; refine (HRN.out _).mono ?_; rintro e w6 ⟨g6, rfl, ho6, hx6⟩)
            | (go_at_call 21; refine (same11_calls v v _ _ (M + 1) _ (M + 1) _ _ hvl hvl (by omega) (by omega)).mono ?_; rintro e w7 ⟨rfl, hx7⟩; rw [decide_eq_true (Eq.refl v)])
            | (go_at_call 57; refine (HCK.out _ _).mono ?_; rintro e w8 ⟨rfl, hx8⟩)
            | (go_at_call 18; refine (alive_calls _).mono ?_; rintro e w9 ⟨rfl, hx9⟩))
          go_ret
          exact ⟨rfl, inferInstance⟩
        · have hno : cerE F (M : Int) rows ≠ 0 := by rw [hce]; exact hs
          have HEN := hidd (hEN hno)
          have HRN := hidd (hRN hno)
          have hb : (cerE F (M : Int) rows != 0) = true := by simp [hno]
          clear hEN hRN hEY hRY hCK hck hce hs hno
          generalize cerE F (M : Int) rows = ce at *
          have hb2 : (ce != ce) = false := by simp
          go_enter Try.func14, Try.ntmps14
          go_wp2_with (first
            | (go_at_call 24; refine (HCH.out _).mono ?_; rintro e w1 ⟨rfl, hx1⟩)
            | (go_at_call 17; refine (HS2.out B3 k3 Br3 kr3 _).mono ?_; rintro e w4 ⟨rfl, hx4⟩; rw [hs2])
            | (go_at_call 17; refine (HS1.out _).mono ?_; rintro e w2 ⟨rfl, hx2⟩; rw [hs1])
            | (go_at_call 56; refine (HSI.out _).mono ?_; rintro e w3 ⟨B3, k3, Br3, kr3, rfl, hs3, hr3, hx3⟩)
            | (go_at_call 59; refine (HEN.out _).mono ?_; rintro e w5 ⟨rfl, hx5⟩)
            | (go_at_call 60; refine (HRN.out _).mono ?_; rintro e w6 ⟨rfl, hx6⟩)
            | (go_at_call 21; refine (same11_calls [] [] none none 0 _ 0 _ _ rfl rfl (by omega) (by omega)).mono ?_; rintro e w7 ⟨rfl, hx7⟩)
            | (go_at_call 18; refine (alive_calls _).mono ?_; rintro e w9 ⟨rfl, hx9⟩))
          go_ret
          exact ⟨rfl, inferInstance⟩
  · have hce : cerE F N rows = codE F N rows := by rw [cerE, if_neg hc]
    have hb0 : (codE F N rows == 0) = false := by simp [hc]
    have hno : cerE F N rows ≠ 0 := by rw [hce]; exact hc
    have HEN := hidd (hEN hno)
    have HRN := hidd (hRN hno)
    have HCH := hidd hCH
    have hb : (cerE F N rows != 0) = true := by simp [hno]
    clear hEN hRN hce hno hCH hc
    generalize cerE F N rows = ce at *
    have hb2 : (ce != ce) = false := by simp
    go_enter Try.func14, Try.ntmps14
    go_wp2_with (first
      | (go_at_call 24; refine (HCH.out _).mono ?_; rintro e w1 ⟨rfl, hx1⟩)
      | (go_at_call 59; refine (HEN.out _).mono ?_; rintro e w5 ⟨rfl, hx5⟩)
      | (go_at_call 60; refine (HRN.out _).mono ?_; rintro e w6 ⟨rfl, hx6⟩)
      | (go_at_call 21; refine (same11_calls [] [] none none 0 _ 0 _ _ rfl rfl (by omega) (by omega)).mono ?_; rintro e w7 ⟨rfl, hx7⟩)
      | (go_at_call 18; refine (alive_calls _).mono ?_; rintro e w9 ⟨rfl, hx9⟩))
    go_ret
    exact ⟨rfl, inferInstance⟩
end Go.Proofs.Ytcigdhmecfhndaa

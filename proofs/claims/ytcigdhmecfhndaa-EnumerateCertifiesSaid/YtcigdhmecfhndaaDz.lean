/- The walks of enumerate.Check, ref23.Check. -/
import Derived.Test.YtcigdhmecfhndaaDy
namespace Go.Proofs.Ytcigdhmecfhndaa
open Go.RowKit
attribute [local go_sem] cell_bx froz_bx cell_own froz_own cell_rd cell_cel ints_get ints_set cell_ownv froz_ownv eql_nil_int
set_option linter.unusedVariables false
set_option linter.unusedSimpArgs false

theorem Cod.sizE {F : Fd} {N : Nat} {rows : List (List Int)} (H : Cod F N rows) : sizE F (N : Int) rows = expE F.q rows.length := by
  rw [Go.Proofs.Ytcigdhmecfhndaa.sizE, if_pos H.codE]
/-- the weights of a code, or of its dual -/
noncomputable def Fd.wtS (F : Fd) (N : Nat) (rows : List (List Int)) : List Int := F.wdist rows N (sizV F (N : Int) rows).toNat
theorem wtS_len (F : Fd) (N : Nat) (rows : List (List Int)) : (F.wtS N rows).length = N + 1 := wdist_len _ _ _ _
theorem prof_wtS {F : Fd} {N : Nat} {rows : List (List Int)} (h : sizE F (N : Int) rows = 0) : prof (wrdL F (N : Int) rows) (List.replicate N 0) = F.wtS N rows := by
  rw [wrdL, if_pos h, Int.toNat_natCast, prof_wdist, Fd.wtS]
open Classical in
/-- the answer of Check -/
noncomputable def chkE (F : Fd) (N : Int) (rows : List (List Int)) (d : Bool) (t : List Int) : Int :=
  if codE F N rows = 0 then (if sizE F N (F.sid rows N.toNat d) = 0 then (if F.wtS N.toNat (F.sid rows N.toNat d) = t then 0 else 13) else sizE F N (F.sid rows N.toNat d)) else codE F N rows

set_option maxRecDepth 100000 in
set_option maxHeartbeats 4000000 in
theorem chk23_calls (F : Fd) (A : Option Addr) (n c : Nat) (rows : List (List Int)) (Ar : Option Addr) (nr cr : Nat) (N : Int) (d : Bool) (t : List Int) (At : Option Addr) (nt ct : Nat) (w : World) (hn : F.md.length = n) (hn2 : n ≤ 1000000000000000000) (hr : rows.length = nr) (hr2 : nr ≤ 1000000000000000000) (hrl : ∀ k, (gr rows k).length ≤ 1000000000000000000) (ht : t.length = nt) (ht2 : nt ≤ 1000000000000000000) [hA : Sl w A F.md] [hR : Sls w Ar rows] [hT : Sl w At t] :
    Calls Try.prog 58 #[.agg #[.int .i64 F.p, .int .i64 F.m, .slice A n c, .int .i64 N, .slice Ar nr cr], .agg #[.bool d, .slice At nt ct]] w fun e w' => e = .returned (.int .i64 (chkE F N rows d t)) ∧ Ext w w' := by
  have HRL := hidd hrl
  clear hrl
  by_cases hc : codE F N rows = 0
  · obtain ⟨M, rfl⟩ : ∃ M : Nat, N = M := ⟨N.toNat, by have := (codE_ok hc).2.1; omega⟩
    have hC := Cod.of hc
    have hCS := hC.sid d
    have hSI := fun w [hA : Sl w A F.md] [hX : Sls w Ar rows] => side23_calls F A n c rows Ar nr cr M d w hn hC hr
    have h8 := hC.ref.md8
    have hle := hCS.le
    have h64 := hC.n64
    have HE : Hid (chkE F (M : Int) rows d t = if sizE F (M : Int) (F.sid rows M d) = 0 then (if F.wtS M (F.sid rows M d) = t then 0 else 13) else sizE F (M : Int) (F.sid rows M d)) := by show _ = _; rw [chkE, if_pos hc, Int.toNat_natCast]
    generalize F.sid rows M d = l at *
    have hlr := hCS.rlen
    have HSI := hidd hSI
    have HC := hidd hc
    have HLR := hidd hlr
    clear hSI hlr hc
    by_cases hs : sizE F (M : Int) l = 0
    · have hW := fun B k Br kr w [hA : Sl w B F.md] [hX : Sls w Br l] => weights23_calls F B n k l Br l.length kr M w hn hn2 rfl (by omega) HLR.out hs
      rw [prof_wtS hs] at hW
      have hwl := wtS_len F M l
      generalize F.wtS M l = v at *
      have HW := hidd hW
      have HS := hidd hs
      clear hW hs
      go_enter Try.func58, Try.ntmps58
      by_cases hq : v = t
      · have hd : decide (v = t) = true := decide_eq_true hq
        have HQ := hidd hq
        clear hq
        go_wp2_with (first
          | (go_at_call 24; refine (check12_calls F A n c rows Ar nr cr M _ hn hn2 hr hr2 HRL.out).mono ?_; rintro e w1 ⟨rfl, hx1⟩; rw [HC.out])
          | (go_at_call 56; refine (HSI.out _).mono ?_; rintro e w2 ⟨B, k, Br, kr, rfl, hs2, hr2', hx2⟩)
          | (go_at_call 20; refine (HW.out _ _ _ _ _).mono ?_; rintro e w3 ⟨g, rfl, hf3, ho3, hx3⟩)
          | (go_at_call 21; refine (same11_calls v t _ At (M + 1) _ nt ct _ hwl ht (by omega) ht2).mono ?_; rintro e w4 ⟨rfl, hx4⟩; rw [hd]))
        go_ret
        exact ⟨ret_int (by rw [HE.out, if_pos HS.out, if_pos HQ.out]), Bel.ext inferInstance⟩
      · have hd : decide (v = t) = false := decide_eq_false hq
        have HQ := hidd hq
        clear hq
        go_wp2_with (first
          | (go_at_call 24; refine (check12_calls F A n c rows Ar nr cr M _ hn hn2 hr hr2 HRL.out).mono ?_; rintro e w1 ⟨rfl, hx1⟩; rw [HC.out])
          | (go_at_call 56; refine (HSI.out _).mono ?_; rintro e w2 ⟨B, k, Br, kr, rfl, hs2, hr2', hx2⟩)
          | (go_at_call 20; refine (HW.out _ _ _ _ _).mono ?_; rintro e w3 ⟨g, rfl, hf3, ho3, hx3⟩)
          | (go_at_call 21; refine (same11_calls v t _ At (M + 1) _ nt ct _ hwl ht (by omega) ht2).mono ?_; rintro e w4 ⟨rfl, hx4⟩; rw [hd]))
        go_ret
        exact ⟨ret_int (by rw [HE.out, if_pos HS.out, if_neg HQ.out]), Bel.ext inferInstance⟩
    · have hW := fun B k Br kr w [hA : Sl w B F.md] [hX : Sls w Br l] => weights23_no F B n k l Br l.length kr M w hn hn2 rfl (by omega) HLR.out hs
      have hb : (sizE F (M : Int) l != 0) = true := by simp [hs]
      have HW := hidd hW
      have HS := hidd hs
      clear hW hs
      go_enter Try.func58, Try.ntmps58
      go_wp2_with (first
        | (go_at_call 24; refine (check12_calls F A n c rows Ar nr cr M _ hn hn2 hr hr2 HRL.out).mono ?_; rintro e w1 ⟨rfl, hx1⟩; rw [HC.out])
        | (go_at_call 56; refine (HSI.out _).mono ?_; rintro e w2 ⟨B, k, Br, kr, rfl, hs2, hr2', hx2⟩)
        | (go_at_call 20; refine (HW.out _ _ _ _ _).mono ?_; rintro e w3 ⟨rfl, hx3⟩))
      go_ret
      exact ⟨ret_int (by rw [HE.out, if_neg HS.out]), Bel.ext inferInstance⟩
  · have hb : (codE F N rows != 0) = true := by simp [hc]
    have HC := hidd hc
    clear hc
    go_enter Try.func58, Try.ntmps58
    go_wp2_with (go_at_call 24; refine (check12_calls F A n c rows Ar nr cr N _ hn hn2 hr hr2 HRL.out).mono ?_; rintro e w1 ⟨rfl, hx1⟩)
    go_ret
    exact ⟨ret_int (by rw [chkE, if_neg HC.out]), Bel.ext inferInstance⟩

set_option maxRecDepth 100000 in
set_option maxHeartbeats 4000000 in
theorem echk_calls (F : Fd) (A : Option Addr) (n c : Nat) (rows : List (List Int)) (Ar : Option Addr) (nr cr : Nat) (N : Int) (d : Bool) (t : List Int) (At : Option Addr) (nt ct : Nat) (w : World) (hn : F.md.length = n) (hn2 : n ≤ 1000000000000000000) (hr : rows.length = nr) (hr2 : nr ≤ 1000000000000000000) (hrl : ∀ k, (gr rows k).length ≤ 1000000000000000000) (ht : t.length = nt) (ht2 : nt ≤ 1000000000000000000) [hA : Sl w A F.md] [hR : Sls w Ar rows] [hT : Sl w At t] :
    Calls Try.prog 57 #[.agg #[.int .i64 F.p, .int .i64 F.m, .slice A n c, .int .i64 N, .slice Ar nr cr], .agg #[.bool d, .slice At nt ct]] w fun e w' => e = .returned (.int .i64 (chkE F N rows d t)) ∧ Ext w w' := by
  have HRL := hidd hrl
  clear hrl
  by_cases hc : codE F N rows = 0
  · obtain ⟨M, rfl⟩ : ∃ M : Nat, N = M := ⟨N.toNat, by have := (codE_ok hc).2.1; omega⟩
    have hC := Cod.of hc
    have hCS := hC.sid d
    have hSI := fun hE w [hA : Sl w A F.md] [hX : Sls w Ar rows] => side_calls F A n c rows Ar nr cr M d w hn hC hr hE
    have hSN := fun hE w [hA : Sl w A F.md] [hX : Sls w Ar rows] => side_no F A n c rows Ar nr cr M d w hn hC hr hE
    have h8 := hC.ref.md8
    have hle := hCS.le
    have h64 := hC.n64
    have HE : Hid (chkE F (M : Int) rows d t = if sizE F (M : Int) (F.sid rows M d) = 0 then (if F.wtS M (F.sid rows M d) = t then 0 else 13) else sizE F (M : Int) (F.sid rows M d)) := by show _ = _; rw [chkE, if_pos hc, Int.toNat_natCast]
    generalize F.sid rows M d = l at *
    have hlr := hCS.rlen
    have HSI := hidd hSI
    have HSN := hidd hSN
    have HC := hidd hc
    have HLR := hidd hlr
    clear hSI hSN hlr hc
    by_cases hs : sizE F (M : Int) l = 0
    · have hW := fun B k Br kr w [hA : Sl w B F.md] [hX : Sls w Br l] => eweights_calls F B n k l Br l.length kr M w hn hn2 rfl (by omega) HLR.out hs
      have hwl := wtS_len F M l
      rw [Fd.wtS] at hwl HE
      generalize F.wdist l M (sizV F (M : Int) l).toNat = v at *
      have HW := hidd hW
      have HS := hidd hs
      rw [hCS.sizE] at hs
      have HSE := hidd hs
      clear hW hs
      go_enter Try.func57, Try.ntmps57
      by_cases hq : v = t
      · have hd : decide (v = t) = true := decide_eq_true hq
        have HQ := hidd hq
        clear hq
        go_wp2_with (first
          | (go_at_call 71; refine (ccheck_calls F A n c rows Ar nr cr M _ hn hn2 hr hr2 HRL.out).mono ?_; rintro e w1 ⟨rfl, hx1⟩; rw [HC.out])
          | (go_at_call 94; refine (HSI.out HSE.out _).mono ?_; rintro e w2 ⟨B, k, Br, kr, rfl, hs2, hr2', hx2⟩)
          | (go_at_call 19; refine (HW.out _ _ _ _ _).mono ?_; rintro e w3 ⟨g, rfl, ho3, hx3⟩)
          | (go_at_call 95; refine (sequal_calls v t _ At (M + 1) _ nt ct _ hwl ht (by omega)).mono ?_; rintro e w4 ⟨rfl, hx4⟩; rw [hd]))
        go_ret
        exact ⟨ret_int (by rw [HE.out, if_pos HS.out, if_pos HQ.out]), Bel.ext inferInstance⟩
      · have hd : decide (v = t) = false := decide_eq_false hq
        have HQ := hidd hq
        clear hq
        go_wp2_with (first
          | (go_at_call 71; refine (ccheck_calls F A n c rows Ar nr cr M _ hn hn2 hr hr2 HRL.out).mono ?_; rintro e w1 ⟨rfl, hx1⟩; rw [HC.out])
          | (go_at_call 94; refine (HSI.out HSE.out _).mono ?_; rintro e w2 ⟨B, k, Br, kr, rfl, hs2, hr2', hx2⟩)
          | (go_at_call 19; refine (HW.out _ _ _ _ _).mono ?_; rintro e w3 ⟨g, rfl, ho3, hx3⟩)
          | (go_at_call 95; refine (sequal_calls v t _ At (M + 1) _ nt ct _ hwl ht (by omega)).mono ?_; rintro e w4 ⟨rfl, hx4⟩; rw [hd]))
        go_ret
        exact ⟨ret_int (by rw [HE.out, if_pos HS.out, if_neg HQ.out]), Bel.ext inferInstance⟩
    · have he : expE F.q l.length = 8 := (expE_cases F.q l.length).resolve_right (by rw [← hCS.sizE]; exact hs)
      have HS := hidd hs
      have HE8 := hidd he
      clear hs he
      go_enter Try.func57, Try.ntmps57
      go_wp2_with (first
        | (go_at_call 71; refine (ccheck_calls F A n c rows Ar nr cr M _ hn hn2 hr hr2 HRL.out).mono ?_; rintro e w1 ⟨rfl, hx1⟩; rw [HC.out])
        | (go_at_call 94; refine (HSN.out HE8.out _).mono ?_; rintro e w2 ⟨rfl, hx2⟩))
      go_ret
      exact ⟨ret_int (by rw [HE.out, if_neg HS.out, hCS.sizE, HE8.out]), Bel.ext inferInstance⟩
  · have hb : (codE F N rows != 0) = true := by simp [hc]
    have HC := hidd hc
    clear hc
    go_enter Try.func57, Try.ntmps57
    go_wp2_with (go_at_call 71; refine (ccheck_calls F A n c rows Ar nr cr N _ hn hn2 hr hr2 HRL.out).mono ?_; rintro e w1 ⟨rfl, hx1⟩)
    go_ret
    exact ⟨ret_int (by rw [chkE, if_neg HC.out]), Bel.ext inferInstance⟩
end Go.Proofs.Ytcigdhmecfhndaa

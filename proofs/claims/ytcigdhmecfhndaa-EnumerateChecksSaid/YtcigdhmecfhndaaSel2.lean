/- The walks of codewrightref23.Nearest, enumerate.distance, entries, received. -/
import Derived.Test.YtcigdhmecfhndaaSel
namespace Go.Proofs.Ytcigdhmecfhndaa
open Go.RowKit
attribute [local go_sem] cell_bx froz_bx cell_own froz_own cell_rd cell_cel ints_get ints_set cell_ownv froz_ownv eql_nil_int
set_option linter.unusedVariables false
set_option linter.unusedSimpArgs false

/-- the least distance from y, other than 0 if o is set, of the first k words, and the first word that has it -/
def nstN (ws : List (List Int)) (y : List Int) (o : Bool) : Nat → Int × List Int
  | 0 => (-1, [])
  | k + 1 => if o = true ∧ dist (gr ws k) y = 0 then nstN ws y o k else if (nstN ws y o k).1 < 0 ∨ (dist (gr ws k) y : Int) < (nstN ws y o k).1 then ((dist (gr ws k) y : Int), gr ws k) else nstN ws y o k
theorem nstN_rng (ws : List (List Int)) (y : List Int) (o : Bool) : ∀ k, -1 ≤ (nstN ws y o k).1 ∧ (nstN ws y o k).1 ≤ y.length
  | 0 => ⟨by simp only [nstN]; omega, by simp only [nstN]; omega⟩
  | k + 1 => by
    have ih := nstN_rng ws y o k
    have hd := dist_le (gr ws k) y
    rw [nstN]
    split
    · exact ih
    · split
      · exact ⟨by simp only; omega, by simp only; omega⟩
      · exact ih

set_option maxRecDepth 100000 in
set_option maxHeartbeats 4000000 in
theorem nearest23_calls (ws : List (List Int)) (y : List Int) (o : Bool) (A Ay : Option Addr) (n c ny cy : Nat) (w : World) (hn : ws.length = n) (hn2 : n ≤ 1000000000000000) (hy : y.length = ny) (hy2 : ny ≤ 1000000000000000) (hwl : ∀ k, (gr ws k).length ≤ 1000000000000000000) [hA : Sls w A ws] [hY : Sl w Ay y] :
    Calls Try.prog 29 #[.slice A n c, .slice Ay ny cy, .bool o] w fun e w' => ∃ (B : Option Addr) (k : Nat), e = .returned (.tuple #[.slice B (nstN ws y o ws.length).2.length k, .int .i64 (nstN ws y o ws.length).1]) ∧ Sl w' B (nstN ws y o ws.length).2 ∧ Ext w w' := by
  subst hn
  have HW := hidd hwl
  clear hwl
  go_enter Try.func29, Try.ntmps29
  go_wp2
  go_loopw [8, 9, 10] (fun bv wv iv wr => ∃ (k kc : Nat) (B : Option Addr) (st : Int × List Int), iv = .int .i64 k ∧ bv = .int .i64 st.1 ∧ wv = .slice B st.2.length kc ∧ k ≤ ws.length ∧ Bel w wr ∧ Sl w B st.2 ∧ Hid (st = nstN ws y o k)) (fun _ _ iv _ => ws.length - (intOf iv).toNat)
  case atStart => exact ⟨0, 0, none, nstN ws y o 0, rfl, rfl, rfl, by omega, inferInstance, sl_nil, rfl⟩
  case round =>
    obtain ⟨k, kc, B, ⟨st, sw⟩, rfl, rfl, rfl, hk, hB, hsw, HS⟩ := hrel
    have hrng : Hid (-1 ≤ st ∧ st ≤ y.length) := by
      have := nstN_rng ws y o k
      rw [← HS.out] at this
      exact this
    simp only [] at *
    by_cases hlt : k < ws.length
    · obtain ⟨ad, Be, ce, rfl, hce, hse⟩ := hA.at_ hlt
      have hce2 : Cel wr (ad.add k) (.slice Be (gr ws k).length ce) := inferInstance
      have hse2 : Sl wr Be (gr ws k) := inferInstance
      have hyr : Sl wr Ay y := inferInstance
      have hge := HW.out k
      have hst1 : -1 ≤ st := hrng.out.1
      have hst2 : st ≤ y.length := hrng.out.2
      have HN : Hid (nstN ws y o (k + 1) = if o = true ∧ dist (gr ws k) y = 0 then (st, sw) else if st < 0 ∨ (dist (gr ws k) y : Int) < st then ((dist (gr ws k) y : Int), gr ws k) else (st, sw)) := by
        show _ = _
        rw [nstN, ← HS.out]
      generalize hdd : dist (gr ws k) y = d at *
      have HD := hidd hdd
      clear hdd HS
      have hcall : ∀ W [Sl W Be (gr ws k)] [Sl W Ay y], Calls Try.prog 34 #[.slice Be (gr ws k).length ce, .slice Ay ny cy] W fun e w' => e = .returned (.int .i64 d) ∧ Ext W w' := fun W _ _ => by
        rw [← HD.out]
        exact dist23_calls (gr ws k) y Be Ay _ _ _ _ W rfl hy hge
      have HC := hidd hcall
      clear hcall
      by_cases hod : o = true ∧ d = 0
      · obtain ⟨rfl, rfl⟩ := hod
        have HN2 : Hid (nstN ws y true (k + 1) = (st, sw)) := by show _ = _; rw [HN.out, if_pos ⟨rfl, rfl⟩]
        clear HN
        go_wp2_with (go_at_call 34; refine (HC.out _).mono ?_; rintro e w4 ⟨rfl, hx4⟩)
        go_roundw
        case rel => exact ⟨k + 1, kc, B, (st, sw), by go_num, rfl, rfl, by omega, inferInstance, hsw, HN2.out.symm⟩
        case measure => simp [intOf] <;> omega
      · have hob : (o && ((d : Int) == 0)) = false := by
          cases o
          · rfl
          · simp only [true_and] at hod
            simp [hod]
        by_cases hlt2 : st < 0 ∨ (d : Int) < st
        · have HN2 : Hid (nstN ws y o (k + 1) = ((d : Int), gr ws k)) := by show _ = _; rw [HN.out, if_neg hod, if_pos hlt2]
          have HO := hidd hod
          clear HN hod
          cases o
          · by_cases h1 : st < 0
            · clear hlt2
              go_wp2_with (go_at_call 34; refine (HC.out _).mono ?_; rintro e w4 ⟨rfl, hx4⟩)
              go_roundw
              case rel => exact ⟨k + 1, ce, Be, ((d : Int), gr ws k), by go_num, rfl, rfl, by omega, inferInstance, hse, HN2.out.symm⟩
              case measure => simp [intOf] <;> omega
            · have h2 : (d : Int) < st := by omega
              clear hlt2
              go_wp2_with (go_at_call 34; refine (HC.out _).mono ?_; rintro e w4 ⟨rfl, hx4⟩)
              go_roundw
              case rel => exact ⟨k + 1, ce, Be, ((d : Int), gr ws k), by go_num, rfl, rfl, by omega, inferInstance, hse, HN2.out.symm⟩
              case measure => simp [intOf] <;> omega
          · have hd0 : ((d : Int) == 0) = false := by simpa using hob
            by_cases h1 : st < 0
            · clear hlt2
              go_wp2_with (go_at_call 34; refine (HC.out _).mono ?_; rintro e w4 ⟨rfl, hx4⟩)
              go_roundw
              case rel => exact ⟨k + 1, ce, Be, ((d : Int), gr ws k), by go_num, rfl, rfl, by omega, inferInstance, hse, HN2.out.symm⟩
              case measure => simp [intOf] <;> omega
            · have h2 : (d : Int) < st := by omega
              clear hlt2
              go_wp2_with (go_at_call 34; refine (HC.out _).mono ?_; rintro e w4 ⟨rfl, hx4⟩)
              go_roundw
              case rel => exact ⟨k + 1, ce, Be, ((d : Int), gr ws k), by go_num, rfl, rfl, by omega, inferInstance, hse, HN2.out.symm⟩
              case measure => simp [intOf] <;> omega
        · have HN2 : Hid (nstN ws y o (k + 1) = (st, sw)) := by show _ = _; rw [HN.out, if_neg hod, if_neg hlt2]
          have HO := hidd hod
          have h1 : ¬ st < 0 := fun h => hlt2 (.inl h)
          have h2 : ¬ (d : Int) < st := fun h => hlt2 (.inr h)
          clear HN hod hlt2
          cases o
          · go_wp2_with (go_at_call 34; refine (HC.out _).mono ?_; rintro e w4 ⟨rfl, hx4⟩)
            go_roundw
            case rel => exact ⟨k + 1, kc, B, (st, sw), by go_num, rfl, rfl, by omega, inferInstance, hsw, HN2.out.symm⟩
            case measure => simp [intOf] <;> omega
          · have hd0 : ((d : Int) == 0) = false := by simpa using hob
            go_wp2_with (go_at_call 34; refine (HC.out _).mono ?_; rintro e w4 ⟨rfl, hx4⟩)
            go_roundw
            case rel => exact ⟨k + 1, kc, B, (st, sw), by go_num, rfl, rfl, by omega, inferInstance, hsw, HN2.out.symm⟩
            case measure => simp [intOf] <;> omega
    · obtain rfl : k = ws.length := by omega
      go_wp2
      go_ret2
      rw [← HS.out]
      exact ⟨B, kc, rfl, inferInstance, hB.ext⟩

set_option maxRecDepth 100000 in
set_option maxHeartbeats 2000000 in
theorem edist_calls (a b : List Int) (Aa Ab : Option Addr) (na ca nb cb : Nat) (w : World) (hna : a.length = na) (hnb : b.length = nb) (hab : na = nb) (hnm : na ≤ 1000000000000000000) [hA : Sl w Aa a] [hB : Sl w Ab b] :
    Calls Try.prog 80 #[.slice Aa na ca, .slice Ab nb cb] w fun e w' => e = .returned (.int .i64 (dist a b)) ∧ Ext w w' := by
  subst hna hnb
  go_enter Try.func80, Try.ntmps80
  go_wp2
  go_loopw [5, 9] (fun dv iv wr => ∃ (k d : Nat), iv = .int .i64 k ∧ dv = .int .i64 d ∧ k ≤ a.length ∧ d ≤ k ∧ Bel w wr ∧ Hid (d = difL a b k)) (fun _ iv _ => a.length - (intOf iv).toNat)
  case atStart => exact ⟨0, 0, rfl, rfl, by omega, by omega, inferInstance, rfl⟩
  case round =>
    obtain ⟨k, d, rfl, rfl, hk, hd, hbel, HI⟩ := hrel
    by_cases hlt : k < a.length
    · have hlt2 : k < b.length := by omega
      obtain ⟨ada, rfl, rda⟩ := hA.at_ hlt
      obtain ⟨adb, rfl, rdb⟩ := hB.at_ hlt2
      by_cases he : gt a k = gt b k
      · have heb : (gt a k != gt b k) = false := by simp [he]
        have HE := hidd he
        clear he
        go_wp2
        go_quiet (fail)
        go_wp2
        go_roundw
        case rel => exact ⟨k + 1, d, by go_num, rfl, by omega, by omega, inferInstance, by show _ = _; rw [difL, if_pos HE.out]; exact HI.out⟩
        case measure => simp [intOf] <;> omega
      · have heb : (gt a k != gt b k) = true := by simp [he]
        have HE := hidd he
        clear he
        go_wp2
        go_quiet (fail)
        go_wp2
        go_roundw
        case rel => exact ⟨k + 1, d + 1, by go_num, by go_num, by omega, by omega, inferInstance, by show _ = _; rw [difL, if_neg HE.out, ← HI.out]⟩
        case measure => simp [intOf] <;> omega
    · obtain rfl : k = a.length := by omega
      go_wp2
      go_ret
      exact ⟨ret_int (by rw [HI.out, dist, Nat.min_eq_left (by omega)]), hbel.ext⟩

set_option maxRecDepth 100000 in
set_option maxHeartbeats 2000000 in
theorem eentries_calls (F : Fd) (b : Nat) (a : List Int) (Aa : Option Addr) (na ca : Nat) (N : Int) (w : World) (hna : a.length = na) (hnm : na ≤ 1000000000000000000) [hg : GFp w b F] [hA : Sl w Aa a] :
    Calls Try.prog 82 #[.pointer (some ⟨b, 0, none⟩), .slice Aa na ca, .int .i64 N] w fun e w' => e = .returned (.int .i64 (lstE F.q a N)) ∧ Ext w w' := by
  subst hna
  by_cases hl : (a.length : Int) = N
  · have hlb : ((a.length : Int) != N) = false := by simp [hl]
    have HL := hidd hl
    clear hl
    go_enter Try.func82, Try.ntmps82
    go_wp2
    go_loopw [15] (fun iv wr => ∃ (k : Nat), iv = .int .i64 k ∧ k ≤ a.length ∧ Bel w wr ∧ Hid (∀ j, j < k → 0 ≤ gt a j ∧ gt a j < F.q)) (fun iv _ => a.length - (intOf iv).toNat)
    case atStart => exact ⟨0, rfl, by omega, inferInstance, fun j hj => by omega⟩
    case round =>
      obtain ⟨k, rfl, hk, hbel, HI⟩ := hrel
      by_cases hlt : k < a.length
      · obtain ⟨ada, rfl, rda⟩ := hA.at_ hlt
        by_cases he : 0 ≤ gt a k ∧ gt a k < F.q
        · have heb : decide (0 ≤ gt a k ∧ gt a k < F.q) = true := decide_eq_true he
          have HE := hidd he
          clear he
          go_wp2_with (go_at_call 122; refine (gis_calls F b (gt a k) _).mono ?_; rintro e w1 ⟨rfl, hx1⟩; rw [heb])
          go_roundw
          case rel => exact ⟨k + 1, by go_num, by omega, inferInstance, fun j hj => by
            by_cases e : j = k
            · rw [e]; exact HE.out
            · exact HI.out j (by omega)⟩
          case measure => simp [intOf] <;> omega
        · have heb : decide (0 ≤ gt a k ∧ gt a k < F.q) = false := decide_eq_false he
          have HE := hidd he
          clear he
          go_wp2_with (go_at_call 122; refine (gis_calls F b (gt a k) _).mono ?_; rintro e w1 ⟨rfl, hx1⟩; rw [heb])
          go_ret
          exact ⟨ret_int (by rw [lstE, if_pos HL.out]; exact (entE_no fun h => HE.out (h k hlt)).symm), Bel.ext inferInstance⟩
      · obtain rfl : k = a.length := by omega
        go_wp2
        go_ret
        exact ⟨ret_int (by rw [lstE, if_pos HL.out]; exact (entE_yes HI.out).symm), Bel.ext inferInstance⟩
  · have hlb : ((a.length : Int) != N) = true := by simp [hl]
    have HL := hidd hl
    clear hl
    go_enter Try.func82, Try.ntmps82
    go_wp2
    go_ret
    exact ⟨ret_int (by rw [lstE, if_neg HL.out]), Bel.ext inferInstance⟩

set_option maxRecDepth 100000 in
set_option maxHeartbeats 2000000 in
theorem received_no (F : Fd) (A : Option Addr) (n c : Nat) (rows : List (List Int)) (Ar : Option Addr) (nr cr : Nat) (N : Int) (yv : Value) (w : World) (hn : F.md.length = n) (hn2 : n ≤ 1000000000000000000) (hr : rows.length = nr) (hr2 : nr ≤ 1000000000000000000) (hrl : ∀ k, (gr rows k).length ≤ 1000000000000000000) (hno : codE F N rows ≠ 0) [hA : Sl w A F.md] [hR : Sls w Ar rows] :
    Calls Try.prog 79 #[.agg #[.int .i64 F.p, .int .i64 F.m, .slice A n c, .int .i64 N, .slice Ar nr cr], yv] w fun e w' => e = .returned (.tuple #[.pointer none, .int .i64 (codE F N rows)]) ∧ Ext w w' := by
  have hb : (codE F N rows != 0) = true := by simp [hno]
  clear hno
  go_enter Try.func79, Try.ntmps79
  go_wp2_with (go_at_call 71; refine (ccheck_calls F A n c rows Ar nr cr N _ hn hn2 hr hr2 hrl).mono ?_; rintro e w1 ⟨rfl, hx1⟩)
  go_ret2
  exact ⟨rfl, Bel.ext inferInstance⟩

set_option maxRecDepth 100000 in
set_option maxHeartbeats 2000000 in
theorem received_yes (F : Fd) (A : Option Addr) (n c : Nat) (rows : List (List Int)) (Ar : Option Addr) (nr cr : Nat) (N : Int) (y : List Int) (Ay : Option Addr) (ny cy : Nat) (w : World) (hn : F.md.length = n) (hn2 : n ≤ 1000000000000000000) (hr : rows.length = nr) (hr2 : nr ≤ 1000000000000000000) (hrl : ∀ k, (gr rows k).length ≤ 1000000000000000000) (hy : y.length = ny) (hy2 : ny ≤ 1000000000000000000) (hok : codE F N rows = 0) [hA : Sl w A F.md] [hR : Sls w Ar rows] [hY : Sl w Ay y] :
    Calls Try.prog 79 #[.agg #[.int .i64 F.p, .int .i64 F.m, .slice A n c, .int .i64 N, .slice Ar nr cr], .slice Ay ny cy] w fun e w' => ∃ g, e = .returned (.tuple #[.pointer (some ⟨g, 0, none⟩), .int .i64 (lstE F.q y N)]) ∧ Fr w g ∧ GFp w' g F ∧ Ext w w' := by
  have hF := fok_iff.2 (codE_ok hok).1
  go_enter Try.func79, Try.ntmps79
  go_wp2_with (first
    | (go_at_call 71; refine (ccheck_calls F A n c rows Ar nr cr N _ hn hn2 hr hr2 hrl).mono ?_; rintro e w1 ⟨rfl, hx1⟩; rw [hok])
    | (go_at_call 81; refine (new_fok F A n c _ hn hn2 hF).mono ?_; rintro e w2 ⟨g, rfl, hf2, hg2, hx2⟩)
    | (go_at_call 82; refine (eentries_calls F g y Ay ny cy N _ hy hy2).mono ?_; rintro e w3 ⟨rfl, hx3⟩))
  go_ret2
  have hB1 : Bel w w1 := inferInstance
  exact ⟨g, rfl, Fr.then_ hB1 hf2, inferInstance, Bel.ext inferInstance⟩

end Go.Proofs.Ytcigdhmecfhndaa

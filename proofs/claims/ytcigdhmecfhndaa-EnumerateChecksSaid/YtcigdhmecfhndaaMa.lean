/- The walks of matrix.entries, matrix.check, slices.Clone. -/
import Derived.Test.YtcigdhmecfhndaaR23
import Derived.Test.YtcigdhmecfhndaaField
namespace Go.Proofs.Ytcigdhmecfhndaa
open Go.RowKit
attribute [local go_sem] cell_bx froz_bx cell_own froz_own cell_rd cell_cel ints_get ints_set cell_ownv froz_ownv
set_option linter.unusedVariables false
set_option linter.unusedSimpArgs false

set_option maxRecDepth 100000 in
set_option maxHeartbeats 2000000 in
theorem mentries_calls (F : Fd) (b : Nat) (a : List Int) (Aa : Option Addr) (na ca : Nat) (w : World) (hna : a.length = na) (hnm : na ≤ 1000000000000000000) [hg : GFp w b F] [hA : Sl w Aa a] :
    Calls Try.prog 171 #[.pointer (some ⟨b, 0, none⟩), .slice Aa na ca] w fun e w' => e = .returned (.int .i64 (entE F.q a)) ∧ Ext w w' := by
  subst hna
  go_enter Try.func171, Try.ntmps171
  go_wp2
  go_loopw [9] (fun iv wr => ∃ (k : Nat), iv = .int .i64 k ∧ k ≤ a.length ∧ Bel w wr ∧ Hid (∀ j, j < k → 0 ≤ gt a j ∧ gt a j < F.q)) (fun iv _ => a.length - (intOf iv).toNat)
  case atStart => exact ⟨0, rfl, by omega, inferInstance, fun j hj => by omega⟩
  case round =>
    obtain ⟨k, rfl, hk, hbel, HI⟩ := hrel
    by_cases hlt : k < a.length
    · obtain ⟨ada, rfl, rda⟩ := hA.at_ hlt
      have hgw : GFp wr b F := inferInstance
      by_cases he : 0 ≤ gt a k ∧ gt a k < F.q
      · have hd : decide (0 ≤ gt a k ∧ gt a k < F.q) = true := decide_eq_true he
        have HE := hidd he
        clear he
        go_wp2_with (go_at_call 122; refine (gis_calls F b (gt a k) _).mono ?_; rintro e w2 ⟨rfl, hx2⟩; rw [hd])
        go_roundw
        case rel => exact ⟨k + 1, by go_num, by omega, inferInstance, fun j hj => by
          by_cases e : j = k
          · rw [e]; exact HE.out
          · exact HI.out j (by omega)⟩
        case measure => simp [intOf] <;> omega
      · have hd : decide (0 ≤ gt a k ∧ gt a k < F.q) = false := decide_eq_false he
        have HE := hidd he
        clear he
        go_wp2_with (go_at_call 122; refine (gis_calls F b (gt a k) _).mono ?_; rintro e w2 ⟨rfl, hx2⟩; rw [hd])
        go_ret
        exact ⟨ret_int (by rw [entE_no fun h => HE.out (h k hlt)]), Bel.ext inferInstance⟩
    · obtain rfl : k = a.length := by omega
      go_wp2
      go_ret
      exact ⟨ret_int (by rw [entE_yes HI.out]), hbel.ext⟩

open Classical in
/-- matrix.check -/
noncomputable def shpE (F : Fd) (cols : Int) (rows : List (List Int)) : Int := if Shp cols rows then (if EntR F.q rows then 0 else 2) else 3

set_option maxRecDepth 100000 in
set_option maxHeartbeats 4000000 in
theorem mcheck_calls (F : Fd) (b : Nat) (rows : List (List Int)) (Ar : Option Addr) (nr cr : Nat) (cols : Int) (w : World) (hr : rows.length = nr) (hr2 : nr ≤ 1000000000000000000) (hrl : ∀ k, (gr rows k).length ≤ 1000000000000000000) [hg : GFp w b F] [hR : Sls w Ar rows] :
    Calls Try.prog 165 #[.pointer (some ⟨b, 0, none⟩), .agg #[.int .i64 cols, .slice Ar nr cr]] w fun e w' => e = .returned (.int .i64 (shpE F cols rows)) ∧ Ext w w' := by
  have HRL := hidd hrl
  clear hrl
  subst hr
  by_cases h0 : cols < 0
  · go_enter Try.func165, Try.ntmps165
    go_wp2
    go_ret
    exact ⟨ret_int (by rw [shpE, if_neg (fun h => by have := h.1; omega)]), Bel.ext inferInstance⟩
  · by_cases h1 : 256 < cols
    · go_enter Try.func165, Try.ntmps165
      go_wp2
      go_ret
      exact ⟨ret_int (by rw [shpE, if_neg (fun h => by have := h.2.1; omega)]), Bel.ext inferInstance⟩
    · by_cases h2 : 256 < rows.length
      · go_enter Try.func165, Try.ntmps165
        go_wp2
        go_ret
        exact ⟨ret_int (by rw [shpE, if_neg (fun h => by have := h.2.2.1; omega)]), Bel.ext inferInstance⟩
      · go_enter Try.func165, Try.ntmps165
        go_wp2
        go_loopw [27] (fun iv wr => ∃ (k : Nat), iv = .int .i64 k ∧ k ≤ rows.length ∧ Bel w wr ∧ Bx wr w.heap.size #[.int .i64 cols, .slice Ar rows.length cr] 91 ∧ Hid (∀ j, j < k → ((gr rows j).length : Int) = cols)) (fun iv _ => rows.length - (intOf iv).toNat)
        case atStart => exact ⟨0, rfl, by omega, inferInstance, inferInstance, fun j hj => by omega⟩
        case round =>
          obtain ⟨k, rfl, hk, hbel, hbx, HI⟩ := hrel
          by_cases hlt : k < rows.length
          · obtain ⟨ad, B, cB, rfl, hcel, hsl⟩ := hR.at_ hlt
            have hlen := HRL.out k
            by_cases he : ((gr rows k).length : Int) = cols
            · have hd : (((gr rows k).length : Int) != cols) = false := by simp [he]
              have HE := hidd he
              clear he
              go_wp2
              go_roundw
              case rel => exact ⟨k + 1, by go_num, by omega, inferInstance, inferInstance, fun j hj => by
                by_cases e : j = k
                · rw [e]; exact HE.out
                · exact HI.out j (by omega)⟩
              case measure => simp [intOf] <;> omega
            · have hd : (((gr rows k).length : Int) != cols) = true := by simp [he]
              have HE := hidd he
              clear he
              go_wp2
              go_ret
              exact ⟨ret_int (by rw [shpE, if_neg (fun h => HE.out (h.2.2.2 k hlt))]), Bel.ext inferInstance⟩
          · obtain rfl : k = rows.length := by omega
            have HS : Hid (Shp cols rows) := ⟨by omega, by omega, by omega, HI.out⟩
            obtain ⟨wo, rfl⟩ : ∃ wo, wo = wr := ⟨_, rfl⟩
            clear HI
            go_wp2
            go_loopw [40] (fun iv wr => ∃ (k : Nat), iv = .int .i64 k ∧ k ≤ rows.length ∧ Bel w wr ∧ Bx wr w.heap.size #[.int .i64 cols, .slice Ar rows.length cr] 91 ∧ Hid (∀ j, j < k → Ent F.q (gr rows j))) (fun iv _ => rows.length - (intOf iv).toNat)
            case atStart => exact ⟨0, rfl, by omega, hbel, hbx, fun j hj => by omega⟩
            case round =>
              obtain ⟨k, rfl, hk, hbel, hbx, HI⟩ := hrel
              by_cases hlt : k < rows.length
              · obtain ⟨ad, B, cB, rfl, hcel, hsl⟩ := hR.at_ hlt
                have hlen := HRL.out k
                have hgw : GFp wr b F := GFp.move hg hbel
                have hslw : Sl wr B (gr rows k) := hsl.move hbel.out
                have hcelw : Cel wr (ad.add k) (.slice B (gr rows k).length cB) := ⟨below_cell hbel.out hcel.out⟩
                by_cases he : Ent F.q (gr rows k)
                · have hd := entE_yes he
                  have HE := hidd he
                  clear he
                  go_wp2_with (go_at_call 171; refine (mentries_calls F b (gr rows k) B _ cB _ rfl hlen).mono ?_; rintro e w2 ⟨rfl, hx2⟩; rw [hd])
                  go_roundw
                  case rel => exact ⟨k + 1, by go_num, by omega, inferInstance, inferInstance, fun j hj => by
                    by_cases e : j = k
                    · rw [e]; exact HE.out
                    · exact HI.out j (by omega)⟩
                  case measure => simp [intOf] <;> omega
                · have hd := entE_no he
                  have HE := hidd he
                  clear he
                  go_wp2_with (go_at_call 171; refine (mentries_calls F b (gr rows k) B _ cB _ rfl hlen).mono ?_; rintro e w2 ⟨rfl, hx2⟩; rw [hd])
                  go_ret
                  exact ⟨ret_int (by rw [shpE, if_pos HS.out, if_neg (fun h => HE.out (h k hlt))]), Bel.ext inferInstance⟩
              · obtain rfl : k = rows.length := by omega
                go_wp2
                go_ret
                exact ⟨ret_int (by rw [shpE, if_pos HS.out, if_pos (show EntR F.q rows from HI.out)]), hbel.ext⟩

end Go.Proofs.Ytcigdhmecfhndaa

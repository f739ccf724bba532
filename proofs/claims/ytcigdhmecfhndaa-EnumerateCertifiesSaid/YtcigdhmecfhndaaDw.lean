/- The walks of ref12.Field, Make, Parity, Dual and of ref23.Side. -/
import Derived.Test.YtcigdhmecfhndaaKe
import Derived.Test.YtcigdhmecfhndaaDu2
namespace Go.Proofs.Ytcigdhmecfhndaa
open Go.RowKit
attribute [local go_sem] cell_bx froz_bx cell_own froz_own cell_rd cell_cel ints_get ints_set cell_ownv froz_ownv eql_nil_int
set_option linter.unusedVariables false
set_option linter.unusedSimpArgs false

theorem RefOK.md8 {F : Fd} (h : RefOK F) : F.md.length ≤ 8 := by
  have := h.good.m8
  rcases h.md with ⟨_, e⟩ | ⟨_, e⟩
  · rw [e]; simp
  · omega

/-- a slice made since w -/
structure New (w : World) (A : Option Addr) : Prop where out : ∀ ad, A = some ad → w.heap.size ≤ ad.block
theorem cell_out {w w' : World} {b : Nat} (ho : ∀ c, c ≠ b → w'.heap[c]? = w.heap[c]?) {a : Addr} (ha : a.block ≠ b) : w'.cell? a = w.cell? a := by
  unfold World.cell?; rw [ho _ ha]
theorem Sl.off {w w' : World} {A : Option Addr} {xs : List Int} {b : Nat} (h : Sl w A xs) (hz : ∀ ad, A = some ad → ad.block ≠ b) (ho : ∀ c, c ≠ b → w'.heap[c]? = w.heap[c]?) : Sl w' A xs :=
  ⟨fun ad e => ⟨fun j hj => (cell_out ho (by rw [add_block]; exact hz ad e)).trans ((h.rd ad e).out j hj)⟩, h.nn⟩
/-- rows that are not all 0 do not lie in a box of zeros -/
theorem Sls.off {w w' : World} {A : Option Addr} {xss : List (List Int)} {b : Nat} {cs : Array Value} {t : TypeId} (h : Sls w A xss) (hb : Bx w b cs t)
    (hz : ∀ (k : Nat) (v : Value), cs[k]? = some v → v = Value.int .i64 0 ∨ v = Value.slice none 0 0) (hn : ∀ j, j < xss.length → ∃ k, k < (gr xss j).length ∧ gt (gr xss j) k ≠ 0)
    (ho : ∀ c, c ≠ b → w'.heap[c]? = w.heap[c]?) : Sls w' A xss := by
  have hc : ∀ (a : Addr) (v : Value), w.cell? a = some v → a.block = b → v = Value.int .i64 0 ∨ v = Value.slice none 0 0 := fun a v hv e => by
    unfold World.cell? at hv
    rw [e, hb.out] at hv
    simp only at hv
    split at hv
    · cases hv
    · exact hz _ _ hv
  refine ⟨fun ad e j hj => ?_, h.nn⟩
  obtain ⟨B, c, h1, h2⟩ := h.rd ad e j hj
  obtain ⟨k, hk, h0⟩ := hn j hj
  obtain ⟨a2, rfl⟩ := h2.nn (by omega)
  refine ⟨some a2, c, (cell_out ho fun e2 => ?_).trans h1, h2.off (fun a3 e3 e2 => ?_) ho⟩
  · rcases hc _ _ h1 e2 with h | h <;> cases h
  · injection e3 with e3
    subst e3
    rcases hc _ _ ((h2.rd a2 rfl).out k hk) (by rw [add_block]; exact e2) with h | h
    · injection h with _ h; exact h0 h
    · cases h
theorem Cod.nz {F : Fd} {N : Nat} {rows : List (List Int)} (H : Cod F N rows) : ∀ j, j < rows.length → ∃ k, k < (gr rows j).length ∧ gt (gr rows j) k ≠ 0 := fun j hj => by
  obtain ⟨r, e⟩ := H.red
  have h1 := r.prng j (by omega)
  refine ⟨(gt (F.pivs rows N) j).toNat, by rw [H.grid.2 j hj]; omega, ?_⟩
  rw [r.unit j (by omega) j hj, if_pos rfl]; decide

theorem sl_set {w : World} {A : Option Addr} {xs : List Int} {g k : Nat} {u : Value} (h : Sl w A xs) (hz : ∀ ad, A = some ad → ad.block ≠ g) : Sl (w.setCell ⟨g, k, none⟩ u) A xs := ⟨fun ad e => by
  have := h.rd ad e
  have : Apart ad.block g := ⟨hz ad e⟩
  infer_instance, h.nn⟩

set_option maxRecDepth 100000 in
set_option maxHeartbeats 2000000 in
theorem field12_calls (F : Fd) (A : Option Addr) (n c : Nat) (w : World) (hn : F.md.length = n) (hn8 : n ≤ 1000) [hA : Sl w A F.md] :
    Calls Try.prog 155 #[.agg #[.int .i64 F.p, .int .i64 F.m, .slice A n c]] w fun e w' => ∃ B k, e = .returned (.agg #[.int .i64 F.p, .int .i64 F.m, .slice B n k]) ∧ n ≤ k ∧ Sl w' B F.md ∧ New w B ∧ Ext w w' := by
  go_enter Try.func155, Try.ntmps155
  go_upto_region 1 with fail
  have hb1 : Bx ((w.alloc (.cells #[.int .i64 F.p, .int .i64 F.m, .slice A n c] 24)).alloc (.cells #[.int .i64 0, .int .i64 0, .slice none 0 0] 24)) w.heap.size #[.int .i64 F.p, .int .i64 F.m, .slice A n c] 24 := inferInstance
  have hb2 : Bx ((w.alloc (.cells #[.int .i64 F.p, .int .i64 F.m, .slice A n c] 24)).alloc (.cells #[.int .i64 0, .int .i64 0, .slice none 0 0] 24)) (w.heap.size + 1) #[.int .i64 0, .int .i64 0, .slice none 0 0] 24 := inferInstance
  have hB : Bel w ((w.alloc (.cells #[.int .i64 F.p, .int .i64 F.m, .slice A n c] 24)).alloc (.cells #[.int .i64 0, .int .i64 0, .slice none 0 0] 24)) := inferInstance
  generalize ((w.alloc (.cells #[.int .i64 F.p, .int .i64 F.m, .slice A n c] 24)).alloc (.cells #[.int .i64 0, .int .i64 0, .slice none 0 0] 24)) = W at *
  have hl2 := (lo_bx (h := hb2)).out
  have hN : Near (w.heap.size + 1) W W := ⟨Below.refl _ _⟩
  have hL : Lo (w.heap.size + 1) (W.heap.size + 1) := ⟨by omega⟩
  go_region_held3 (fun w' => Near (w.heap.size + 1) W w') (infer_instance)
    ((refine app0_step rfl (.tmp 7) (.tmp 9) rfl _ F.md A n c rfl rfl hn (by omega) ?_; intro v1 w4 hr1 hc1 hv1; obtain ⟨A1, c1, e1, hcc1, hs1, _⟩ := hr1.reads; rw [hn] at hcc1 e1; subst e1; clear hr1))
  all_goals go_wp2
  have hb4 : Bx w4 (w.heap.size + 1) #[.int .i64 0, .int .i64 0, .slice none 0 0] 24 := inferInstance
  have hB4 : Bel w w4 := inferInstance
  have hz1 : ∀ ad, A1 = some ad → w.heap.size ≤ ad.block := by
    rintro ad rfl
    simp only [Value.ownBlock, Option.some.injEq, World.size_drew, World.size_alloc] at hv1
    omega
  have hz : ∀ ad, A1 = some ad → ad.block ≠ w.heap.size + 1 := by
    rintro ad rfl e
    simp only [Value.ownBlock, Option.some.injEq, World.size_drew, World.size_alloc] at hv1
    omega
  have hbz := bx_set (k := 2) (u := .slice A1 n c1) (h := bx_set (k := 1) (u := .int .i64 F.m) (h := bx_set (k := 0) (u := .int .i64 F.p) (h := hb4)))
  have hBz : Bel w (((w4.setCell ⟨w.heap.size + 1, 0, none⟩ (.int .i64 F.p)).setCell ⟨w.heap.size + 1, 1, none⟩ (.int .i64 F.m)).setCell ⟨w.heap.size + 1, 2, none⟩ (.slice A1 n c1)) := by
    have f1 : Fr w (w.heap.size + 1) := ⟨by omega⟩
    infer_instance
  refine bodyPost_ret (results_cell_row rfl _ _ (w.heap.size + 1) _ _ _ _ rfl hbz.out Try.underlying24 rfl (by kernel_rfl)) rfl ?_
  exact ⟨A1, c1, by simp, hcc1, sl_set (sl_set (sl_set hs1 hz) hz) hz, ⟨hz1⟩, hBz.ext⟩

/-- a code stored into a box -/
def stC (w : World) (b : Nat) (v0 v1 v2 v3 v4 : Value) : World := ((((w.setCell ⟨b, 0, none⟩ v0).setCell ⟨b, 1, none⟩ v1).setCell ⟨b, 2, none⟩ v2).setCell ⟨b, 3, none⟩ v3).setCell ⟨b, 4, none⟩ v4
theorem stC_bx {w : World} {b : Nat} {u0 u1 u2 u3 u4 : Value} (h : Bx w b #[u0, u1, u2, u3, u4] 27) (v0 v1 v2 v3 v4 : Value) : Bx (stC w b v0 v1 v2 v3 v4) b #[v0, v1, v2, v3, v4] 27 := by
  have h3 := bx_set (k := 4) (u := v4) (h := bx_set (k := 3) (u := v3) (h := bx_set (k := 2) (u := v2) (h := bx_set (k := 1) (u := v1) (h := bx_set (k := 0) (u := v0) (h := h)))))
  simpa [stC] using h3
theorem set_out {w : World} {b k : Nat} {v : Value} (c : Nat) (hc : c ≠ b) : (w.setCell ⟨b, k, none⟩ v).heap[c]? = w.heap[c]? := Below.heap_setCell w ⟨b, k, none⟩ v c hc
theorem stC_out {w : World} {b : Nat} {v0 v1 v2 v3 v4 : Value} : ∀ c, c ≠ b → (stC w b v0 v1 v2 v3 v4).heap[c]? = w.heap[c]? := fun c hc => by
  unfold stC
  rw [set_out c hc, set_out c hc, set_out c hc, set_out c hc, set_out c hc]
theorem stC_bel {w0 w : World} {b : Nat} {v0 v1 v2 v3 v4 : Value} (h : Bel w0 w) (hb : w0.heap.size ≤ b) : Bel w0 (stC w b v0 v1 v2 v3 v4) := by
  have : Fr w0 b := ⟨hb⟩
  unfold stC
  infer_instance
theorem zeros_code (k : Nat) (v : Value) (h : (#[.int .i64 0, .int .i64 0, .slice none 0 0, .int .i64 0, .slice none 0 0] : Array Value)[k]? = some v) : v = Value.int .i64 0 ∨ v = Value.slice none 0 0 := by
  rcases k with _ | _ | _ | _ | _ | k <;> simp at h <;> simp [← h]

set_option maxRecDepth 100000 in
set_option maxHeartbeats 2000000 in
theorem make12_calls (F : Fd) (A : Option Addr) (n c0 : Nat) (l : List (List Int)) (Al : Option Addr) (nl cl N : Nat) (w : World) (hn : F.md.length = n) (hC : Cod F N l) (hl : l.length = nl) [hA : Sl w A F.md] [hX : Sls w Al l] :
    Calls Try.prog 132 #[.agg #[.int .i64 F.p, .int .i64 F.m, .slice A n c0], .slice Al nl cl, .int .i64 (N : Int)] w fun e w' => ∃ B k Br cr, e = .returned (.agg #[.int .i64 F.p, .int .i64 F.m, .slice B n k, .int .i64 (N : Int), .slice Br nl cr]) ∧ Sl w' B F.md ∧ New w B ∧ Sls w' Br l ∧ Ext w w' := by
  have h64 := hC.n64
  have hle := hC.le
  have h8 := hC.ref.md8
  have hCN := fun w [hA : Sl w A F.md] [hX : Sls w Al l] => canon_calls F A n c0 l Al nl cl N N w hC.ref.good hn (hl ▸ hC.grid) (by omega) (by omega) (Nat.le_refl _)
  rw [hC.red.2, hC.canon, hl] at hCN
  have HCN := hidd hCN
  clear hCN
  go_enter Try.func132, Try.ntmps132
  go_wp2_with (first
    | (go_at_call 90; refine (HCN.out _).mono ?_; rintro e w1 ⟨Ar, cr, Ap, cp, rfl, hcr, hcp, hsr, hsp, hx1⟩)
    | (go_at_call 155; refine (field12_calls F A n c0 _ hn (by omega)).mono ?_; rintro e w2 ⟨B, k, rfl, hk, hs2, hnew, hx2⟩))
  have hB2 : Bel w w2 := inferInstance
  have hbx2 : Bx w2 (w.heap.size + 1) #[.int .i64 0, .int .i64 0, .slice none 0 0, .int .i64 0, .slice none 0 0] 27 := inferInstance
  have hsl2 : Sls w2 Ar l := inferInstance
  have hl1 : w.heap.size + 1 < w1.heap.size := by
    have h1 : Bx w1 (w.heap.size + 1) #[.int .i64 0, .int .i64 0, .slice none 0 0, .int .i64 0, .slice none 0 0] 27 := inferInstance
    have := (lo_bx (h := h1)).out
    omega
  have hbz := stC_bx hbx2 (.int .i64 F.p) (.int .i64 F.m) (.slice B n k) (.int .i64 (N : Int)) (.slice Ar nl cr)
  refine bodyPost_ret (results_cell_row rfl _ _ (w.heap.size + 1) _ _ _ _ rfl hbz.out Try.underlying27 rfl (by kernel_rfl)) rfl ?_
  exact ⟨B, k, Ar, cr, rfl, hs2.off (fun ad e h => by have := hnew.out ad e; omega) stC_out, ⟨fun ad e => by have := hnew.out ad e; omega⟩, hsl2.off hbx2 zeros_code hC.nz stC_out, (stC_bel hB2 (by omega)).ext⟩

set_option maxRecDepth 100000 in
set_option maxHeartbeats 2000000 in
theorem parity12_calls (F : Fd) (A : Option Addr) (n c0 : Nat) (rows : List (List Int)) (Ar : Option Addr) (nr cr N : Nat) (w : World) (hn : F.md.length = n) (hC : Cod F N rows) (hr : rows.length = nr) [hA : Sl w A F.md] [hX : Sls w Ar rows] :
    Calls Try.prog 133 #[.agg #[.int .i64 F.p, .int .i64 F.m, .slice A n c0, .int .i64 (N : Int), .slice Ar nr cr]] w fun e w' => ∃ (B : Option Addr) (k : Nat), e = .returned (.slice B (F.null rows N).length k) ∧ (F.null rows N).length ≤ k ∧ Sls w' B (F.null rows N) ∧ Ext w w' := by
  have h64 := hC.n64
  have hle := hC.le
  have hCN := fun w [hA : Sl w A F.md] [hX : Sls w Ar rows] => null9_calls F A n c0 rows Ar nr cr N w hC.ref hn (hr ▸ hC.grid) hC.ent (by omega) (by omega)
  have HCN := hidd hCN
  clear hCN
  go_enter Try.func133, Try.ntmps133
  go_wp2_with (go_at_call 49; refine (HCN.out _).mono ?_; rintro e w1 ⟨B, k, rfl, hk, hs, hx1⟩)
  go_ret
  exact ⟨B, k, rfl, hk, hs, Bel.ext inferInstance⟩

set_option maxRecDepth 100000 in
set_option maxHeartbeats 4000000 in
theorem dual12_calls (F : Fd) (A : Option Addr) (n c0 : Nat) (rows : List (List Int)) (Ar : Option Addr) (nr cr N : Nat) (w : World) (hn : F.md.length = n) (hC : Cod F N rows) (hr : rows.length = nr) [hA : Sl w A F.md] [hX : Sls w Ar rows] :
    Calls Try.prog 93 #[.agg #[.int .i64 F.p, .int .i64 F.m, .slice A n c0, .int .i64 (N : Int), .slice Ar nr cr]] w fun e w' => ∃ B k Br kr, e = .returned (.tuple #[.agg #[.int .i64 F.p, .int .i64 F.m, .slice B n k, .int .i64 (N : Int), .slice Br (F.null rows N).length kr], .int .i64 0]) ∧ Sl w' B F.md ∧ New w B ∧ Sls w' Br (F.null rows N) ∧ Ext w w' := by
  have h64 := hC.n64
  have hle := hC.le
  have h8 := hC.ref.md8
  have hPA := fun w [hA : Sl w A F.md] [hX : Sls w Ar rows] => parity12_calls F A n c0 rows Ar nr cr N w hn hC hr
  have hMK := fun Br kr w [hA : Sl w A F.md] [hX : Sls w Br (F.null rows N)] => make12_calls F A n c0 (F.null rows N) Br _ kr N w hn hC.dual rfl
  have hcd := hC.codE
  have hnl := hC.null_len
  have hdual := hC.dual
  have hlr := hC.rlen
  generalize F.null rows N = l at *
  have HPA := hidd hPA
  have HMK := hidd hMK
  have HCD := hidd hcd
  have HLR := hidd hlr
  clear hPA hMK hcd hlr
  go_enter Try.func93, Try.ntmps93
  go_upto_region 4 with (go_at_call 24; refine (check12_calls F A n c0 rows Ar nr cr N _ hn (by omega) hr (by omega) HLR.out).mono ?_; rintro e w1 ⟨rfl, hx1⟩; rw [HCD.out])
  have hb1 : Bx w1 w.heap.size #[.int .i64 F.p, .int .i64 F.m, .slice A n c0, .int .i64 (N : Int), .slice Ar nr cr] 27 := inferInstance
  have hb2 : Bx w1 (w.heap.size + 1) #[.int .i64 0, .int .i64 0, .slice none 0 0, .int .i64 0, .slice none 0 0] 27 := inferInstance
  have hB : Bel w w1 := inferInstance
  clear hx1
  have hl2 := (lo_bx (h := hb2)).out
  have hN : Near (w.heap.size + 1) w1 w1 := ⟨Below.refl _ _⟩
  have hL : Lo (w.heap.size + 1) (w1.heap.size + 1) := ⟨by omega⟩
  go_region_held3 (fun w' => Near (w.heap.size + 1) w1 w') (infer_instance)
    (first
      | (go_at_call 133; refine (HPA.out _).mono ?_; rintro e w2 ⟨Bp, kp, rfl, hkp, hsp, hx2⟩)
      | (go_at_call 132; refine (HMK.out _ _ _).mono ?_; rintro e w3 ⟨B, k, Br, kr, rfl, hs3, hnew, hsr, hx3⟩))
  all_goals go_wp2
  all_goals
    have hb3 : Bx w3 (w.heap.size + 1) #[.int .i64 0, .int .i64 0, .slice none 0 0, .int .i64 0, .slice none 0 0] 27 := inferInstance
    have hB3 : Bel w w3 := inferInstance
    have hl3 : w.heap.size + 1 < w2.heap.size := by
      have h1 : Bx w2 (w.heap.size + 1) #[.int .i64 0, .int .i64 0, .slice none 0 0, .int .i64 0, .slice none 0 0] 27 := inferInstance
      exact (lo_bx (h := h1)).out
    have hbz := stC_bx hb3 (.int .i64 F.p) (.int .i64 F.m) (.slice B n k) (.int .i64 (N : Int)) (.slice Br l.length kr)
    refine bodyPost_ret (results_cell2 rfl _ _ (w.heap.size + 1) _ _ _ _ rfl hbz.out Try.underlying27 rfl (by kernel_rfl)) rfl ?_
    exact ⟨B, k, Br, kr, rfl, hs3.off (fun ad e h => by have := hnew.out ad e; omega) stC_out, ⟨fun ad e => by have := hnew.out ad e; omega⟩, hsr.off hb3 zeros_code hdual.nz stC_out, (stC_bel hB3 (by omega)).ext⟩

/-- the rows of the code or of its dual -/
noncomputable def Fd.sid (F : Fd) (rows : List (List Int)) (N : Nat) (d : Bool) : List (List Int) := if d then F.null rows N else rows
theorem Cod.sid {F : Fd} {N : Nat} {rows : List (List Int)} (H : Cod F N rows) (d : Bool) : Cod F N (F.sid rows N d) := by
  cases d
  · exact H
  · exact H.dual

set_option maxRecDepth 100000 in
set_option maxHeartbeats 4000000 in
theorem side23_calls (F : Fd) (A : Option Addr) (n c0 : Nat) (rows : List (List Int)) (Ar : Option Addr) (nr cr N : Nat) (d : Bool) (w : World) (hn : F.md.length = n) (hC : Cod F N rows) (hr : rows.length = nr) [hA : Sl w A F.md] [hX : Sls w Ar rows] :
    Calls Try.prog 56 #[.agg #[.int .i64 F.p, .int .i64 F.m, .slice A n c0, .int .i64 (N : Int), .slice Ar nr cr], .bool d] w fun e w' => ∃ B k Br kr, e = .returned (.agg #[.int .i64 F.p, .int .i64 F.m, .slice B n k, .int .i64 (N : Int), .slice Br (F.sid rows N d).length kr]) ∧ Sl w' B F.md ∧ Sls w' Br (F.sid rows N d) ∧ Ext w w' := by
  cases d
  · go_enter Try.func56, Try.ntmps56
    go_wp2
    have hbz : Bx ((w.alloc (.cells #[.int .i64 F.p, .int .i64 F.m, .slice A n c0, .int .i64 (N : Int), .slice Ar nr cr] 27)).alloc (.cells #[.int .i64 F.p, .int .i64 F.m, .slice A n c0, .int .i64 (N : Int), .slice Ar nr cr] 27)) (w.heap.size + 1) #[.int .i64 F.p, .int .i64 F.m, .slice A n c0, .int .i64 (N : Int), .slice Ar nr cr] 27 := inferInstance
    refine bodyPost_ret (results_cell_row rfl _ _ (w.heap.size + 1) _ _ _ _ rfl hbz.out Try.underlying27 rfl (by kernel_rfl)) rfl ?_
    exact ⟨A, c0, Ar, cr, by rw [← hr]; rfl, inferInstance, (inferInstance : Sls _ Ar rows), Bel.ext inferInstance⟩
  · have h64 := hC.n64
    have hDU := fun w [hA : Sl w A F.md] [hX : Sls w Ar rows] => dual12_calls F A n c0 rows Ar nr cr N w hn hC hr
    have hdual := hC.dual
    have hsd : F.sid rows N true = F.null rows N := rfl
    rw [hsd]
    clear hsd
    generalize F.null rows N = l at *
    have HDU := hidd hDU
    clear hDU
    go_enter Try.func56, Try.ntmps56
    go_wp2_with (go_at_call 93; refine (HDU.out _).mono ?_; rintro e w3 ⟨B, k, Br, kr, rfl, hs3, hnew, hsr, hx3⟩)
    have hb3 : Bx (w3.alloc (.cells #[.int .i64 F.p, .int .i64 F.m, .slice B n k, .int .i64 (N : Int), .slice Br l.length kr] 27)) (w.heap.size + 1) #[.int .i64 0, .int .i64 0, .slice none 0 0, .int .i64 0, .slice none 0 0] 27 := inferInstance
    have hB3 : Bel w (w3.alloc (.cells #[.int .i64 F.p, .int .i64 F.m, .slice B n k, .int .i64 (N : Int), .slice Br l.length kr] 27)) := inferInstance
    have hs4 : Sl (w3.alloc (.cells #[.int .i64 F.p, .int .i64 F.m, .slice B n k, .int .i64 (N : Int), .slice Br l.length kr] 27)) B F.md := inferInstance
    have hsr4 : Sls (w3.alloc (.cells #[.int .i64 F.p, .int .i64 F.m, .slice B n k, .int .i64 (N : Int), .slice Br l.length kr] 27)) Br l := inferInstance
    have hbz := stC_bx hb3 (.int .i64 F.p) (.int .i64 F.m) (.slice B n k) (.int .i64 (N : Int)) (.slice Br l.length kr)
    refine bodyPost_ret (results_cell_row rfl _ _ (w.heap.size + 1) _ _ _ _ rfl hbz.out Try.underlying27 rfl (by kernel_rfl)) rfl ?_
    exact ⟨B, k, Br, kr, rfl, hs4.off (fun ad e h => by have := hnew.out ad e; simp only [World.size_alloc] at this; omega) stC_out, hsr4.off hb3 zeros_code hdual.nz stC_out, (stC_bel hB3 (by omega)).ext⟩
end Go.Proofs.Ytcigdhmecfhndaa

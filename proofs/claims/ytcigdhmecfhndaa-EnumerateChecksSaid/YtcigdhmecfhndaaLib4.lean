/- Words for slices of slices. -/
import Derived.Test.YtcigdhmecfhndaaLib3
import Derived.Test.YtcigdhmecfhndaaBase
namespace Go.Proofs.Ytcigdhmecfhndaa
open Go.RowKit

/-- a slice's elements, slices of whole numbers -/
class Sls (w : World) (A : Option Addr) (xss : outParam (List (List Int))) : Prop where
  rd : ∀ ad, A = some ad → ∀ j, j < xss.length → ∃ (B : Option Addr) (c : Nat), w.cell? (ad.add j) = some (.slice B (gr xss j).length c) ∧ Sl w B (gr xss j)
  nn : 0 < xss.length → ∃ ad, A = some ad
theorem Sls.move {w w' : World} {A : Option Addr} {xss : List (List Int)} (h : Sls w A xss) (hb : Below w.heap.size w w') : Sls w' A xss := ⟨fun ad e j hj => by
  obtain ⟨B, c, h1, h2⟩ := h.rd ad e j hj
  exact ⟨B, c, below_cell hb h1, h2.move hb⟩, h.nn⟩
instance sls_alloc {w : World} {A : Option Addr} {xss : List (List Int)} {o : Obj} [h : Sls w A xss] : Sls (w.alloc o) A xss := h.move ((Below.refl _ w).alloc (Nat.le_refl _) o)
instance sls_drew {w : World} {A : Option Addr} {xss : List (List Int)} [h : Sls w A xss] : Sls w.drew A xss := h.move (Below.refl _ w).drew
instance sls_drewN {w : World} {A : Option Addr} {xss : List (List Int)} {n : Nat} [h : Sls w A xss] : Sls (w.drewN n) A xss := h.move (bel_drewN (w0 := w)).out
instance sls_ext {w w' : World} {A : Option Addr} {xss : List (List Int)} [e : Ext w w'] [h : Sls w A xss] : Sls w' A xss := h.move e.out
instance sls_bel {w0 w : World} {A : Option Addr} {xss : List (List Int)} [e : Bel w0 w] [h : Sls w0 A xss] : Sls w A xss := h.move e.out
instance sls_mk {w : World} {d : Nat} {A : Option Addr} {xss : List (List Int)} [h : Sls w A xss] : Sls ⟨w.heap, w.tape, d, w.os, w.output⟩ A xss := h.move (bel_mk (w0 := w)).out
instance sls_nil {w : World} : Sls w none [] := ⟨fun _ e => (by cases e), fun h => absurd h (by simp)⟩
theorem Sls.at_ {w : World} {A : Option Addr} {xss : List (List Int)} (h : Sls w A xss) {k : Nat} (hk : k < xss.length) : ∃ ad B c, A = some ad ∧ Cel w (ad.add k) (.slice B (gr xss k).length c) ∧ Sl w B (gr xss k) := by
  obtain ⟨ad, e⟩ := h.nn (by omega)
  obtain ⟨B, c, h1, h2⟩ := h.rd ad e k hk
  exact ⟨ad, B, c, e, ⟨h1⟩, h2⟩

/-! ### rows of one's own that hold slices -/
/-- the value with the number k -/
def gv (cs : List Value) (k : Nat) : Value := cs.getD k (.slice none 0 0)
theorem gv_eq {cs : List Value} {k : Nat} (h : k < cs.length) : gv cs k = cs[k] := by simp [gv, h]
theorem gv_set (cs : List Value) (k j : Nat) (x : Value) (h : k < cs.length) : gv (cs.set k x) j = if k = j then x else gv cs j := by
  unfold gv
  by_cases e : k = j
  · subst e; simp [h]
  · simp [e, List.getElem?_set_ne e]
theorem gv_snoc {l : List Value} {y : Value} : gv (l ++ [y]) l.length = y := by simp [gv]
theorem gv_snoc_lt {l : List Value} {y : Value} {k : Nat} (h : k < l.length) : gv (l ++ [y]) k = gv l k := by
  simp [gv, List.getElem?_append_left h]
/-- a row of one's own of values of the type e -/
class OwnV (w : World) (b : Nat) (e : outParam TypeId) (cs : outParam (List Value)) : Prop where out : ∃ sp : Array Value, w.heap[b]? = some (.cells (cs.toArray ++ sp) e (0, 0))
instance ownv_alloc {w : World} {b : Nat} {e : TypeId} {cs : List Value} {o' : Obj} [h : OwnV w b e cs] : OwnV (w.alloc o') b e cs := ⟨h.out.imp fun _ k => blk_alloc k o'⟩
instance ownv_drew {w : World} {b : Nat} {e : TypeId} {cs : List Value} [h : OwnV w b e cs] : OwnV w.drew b e cs := ⟨h.out⟩
instance ownv_drewN {w : World} {b n : Nat} {e : TypeId} {cs : List Value} [h : OwnV w b e cs] : OwnV (w.drewN n) b e cs := ⟨h.out⟩
instance ownv_ext {w w' : World} {b : Nat} {e : TypeId} {cs : List Value} [x : Ext w w'] [h : OwnV w b e cs] : OwnV w' b e cs := ⟨h.out.imp fun _ k => blk_below k x.out⟩
instance ownv_bel {w w' : World} {b : Nat} {e : TypeId} {cs : List Value} [x : Bel w w'] [h : OwnV w b e cs] : OwnV w' b e cs := ⟨h.out.imp fun _ k => blk_below k x.out⟩
instance ownv_near {w w' : World} {B b : Nat} {e : TypeId} {cs : List Value} [x : Near B w w'] [h : OwnV w b e cs] [l : Lo b B] : OwnV w' b e cs := ⟨h.out.imp fun _ k => (x.out.block b l.out).trans k⟩
instance ownv_mk {w : World} {d b : Nat} {e : TypeId} {cs : List Value} [h : OwnV w b e cs] : OwnV ⟨w.heap, w.tape, d, w.os, w.output⟩ b e cs := ⟨h.out⟩
instance ownv_far {w : World} {b g k : Nat} {e : TypeId} {cs : List Value} {u : Value} [h : OwnV w b e cs] [n : Apart b g] : OwnV (w.setCell ⟨g, k, none⟩ u) b e cs := ⟨h.out.imp fun _ q => blk_far q (p := ⟨g, k, none⟩) n.out u⟩
theorem ownv_set_ {w : World} {g : Nat} {e : TypeId} {cs : List Value} (h : OwnV w g e cs) (k : Nat) (v : Value) (hk : k < cs.length) : OwnV (w.setCell ⟨g, k, none⟩ v) g e (cs.set k v) := ⟨by
  obtain ⟨sp, q⟩ := h.out
  refine ⟨sp, ?_⟩
  rw [blk_set q k, Array.setIfInBounds_append_left (by simpa using hk)]
  simp⟩
instance ownv_set {w : World} {g k : Nat} {e : TypeId} {cs : List Value} {v : Value} [h : OwnV w g e cs] [i : In k cs.length] : OwnV (w.setCell ⟨g, k, none⟩ v) g e (cs.set k v) := ownv_set_ h k v i.out
instance inv_set {k j : Nat} {cs : List Value} {x : Value} [i : In k cs.length] : In k (cs.set j x).length := ⟨by rw [List.length_set]; exact i.out⟩
theorem cell_ownv {w : World} {b k : Nat} {e : TypeId} {cs : List Value} [h : OwnV w b e cs] (hk : k < cs.length) : w.cell? ⟨b, k, none⟩ = some (gv cs k) := by
  obtain ⟨sp, q⟩ := h.out
  rw [blk_cell q, Array.getElem?_append_left (by simpa using hk)]
  simp [gv, hk]
theorem froz_ownv {w : World} {b k : Nat} {e : TypeId} {cs : List Value} [h : OwnV w b e cs] : w.frozen? ⟨b, k, none⟩ = false := by
  obtain ⟨sp, q⟩ := h.out
  exact blk_frozen q k
instance lo_ownv {w : World} {b : Nat} {e : TypeId} {cs : List Value} [h : OwnV w b e cs] : Lo b w.heap.size := ⟨by obtain ⟨sp, e⟩ := h.out; exact blk_lt e⟩
/-- rows of different types are different rows -/
theorem own_ownv_ne {w : World} {b g : Nat} {e : TypeId} {cs : List Value} {xs : List Int} (h : Own w b xs) (k : OwnV w g e cs) (he : e ≠ 3) : b ≠ g := by
  rintro rfl
  obtain ⟨s1, h1⟩ := h.out
  obtain ⟨s2, h2⟩ := k.out
  rw [h1] at h2
  injection h2 with h2; injection h2 with _ h2
  exact he h2.symm
/-- the values cs are slices of rows of one's own that hold xss -/
class Inn (w : World) (cs : List Value) (xss : outParam (List (List Int))) : Prop where
  len : cs.length = xss.length
  out : ∀ j, j < xss.length → ∃ g c, gv cs j = .slice (some ⟨g, 0, none⟩) (gr xss j).length c ∧ Own w g (gr xss j)
theorem Inn.move {w w' : World} {cs : List Value} {xss : List (List Int)} (h : Inn w cs xss) (hm : ∀ g xs, Own w g xs → Own w' g xs) : Inn w' cs xss := ⟨h.len, fun j hj => by
  obtain ⟨g, c, h1, h2⟩ := h.out j hj
  exact ⟨g, c, h1, hm _ _ h2⟩⟩
instance inn_alloc {w : World} {cs : List Value} {xss : List (List Int)} {o' : Obj} [h : Inn w cs xss] : Inn (w.alloc o') cs xss := h.move fun _ _ _ => inferInstance
instance inn_drew {w : World} {cs : List Value} {xss : List (List Int)} [h : Inn w cs xss] : Inn w.drew cs xss := h.move fun _ _ _ => inferInstance
instance inn_drewN {w : World} {n : Nat} {cs : List Value} {xss : List (List Int)} [h : Inn w cs xss] : Inn (w.drewN n) cs xss := h.move fun _ _ _ => inferInstance
instance inn_mk {w : World} {d : Nat} {cs : List Value} {xss : List (List Int)} [h : Inn w cs xss] : Inn ⟨w.heap, w.tape, d, w.os, w.output⟩ cs xss := h.move fun _ _ _ => inferInstance
instance inn_ext {w w' : World} {cs : List Value} {xss : List (List Int)} [x : Ext w w'] [h : Inn w cs xss] : Inn w' cs xss := h.move fun _ _ _ => inferInstance
instance inn_bel {w w' : World} {cs : List Value} {xss : List (List Int)} [x : Bel w w'] [h : Inn w cs xss] : Inn w' cs xss := h.move fun _ _ _ => inferInstance
instance inn_nil {w : World} : Inn w [] [] := ⟨rfl, fun j hj => absurd hj (by simp)⟩
/-- a store into the outer row leaves the inner ones -/
theorem Inn.store {w : World} {cs : List Value} {xss : List (List Int)} (h : Inn w cs xss) {g : Nat} {e : TypeId} {ds : List Value} (k : OwnV w g e ds) (he : e ≠ 3) (i : Nat) (u : Value) : Inn (w.setCell ⟨g, i, none⟩ u) cs xss := h.move fun b xs ho => by
  have : Apart b g := ⟨own_ownv_ne ho k he⟩
  infer_instance
theorem row_own_ne {w : World} {v : Value} {e : TypeId} {cs : List Value} {b : Nat} {xs : List Int} (h : Own w b xs) (r : Row w v e cs) (he : e ≠ 3) : some b ≠ v.ownBlock := fun hb => by
  rcases r.out.2 with ⟨hv, _⟩ | ⟨g, cap, cur, hv, _, hh, _⟩
  · rw [hv] at hb; simp [Value.ownBlock] at hb
  · rw [hv] at hb
    obtain rfl : b = g := by simpa [Value.ownBlock] using hb
    obtain ⟨sp, h1⟩ := h.out
    rw [hh] at h1
    injection h1 with h1; injection h1 with _ h1
    exact he h1
/-- so does the growth of the outer row -/
theorem Inn.grown {w w' : World} {cs : List Value} {xss : List (List Int)} (h : Inn w cs xss) {v : Value} {e : TypeId} {ds : List Value} (k : Row w v e ds) (he : e ≠ 3) (c : Chg v w w') : Inn w' cs xss := h.move fun b xs ho => by
  have : ApV b v := ⟨row_own_ne ho k he⟩
  infer_instance
theorem Inn.snoc {w : World} {cs : List Value} {xss : List (List Int)} (h : Inn w cs xss) {g n c : Nat} {xs : List Int} (hn : n = xs.length) (ho : Own w g xs) : Inn w (cs ++ [.slice (some ⟨g, 0, none⟩) n c]) (xss ++ [xs]) := ⟨by simp [h.len], fun j hj => by
  simp only [List.length_append, List.length_singleton] at hj
  by_cases e : j < xss.length
  · rw [gr_snoc_lt e, gv_snoc_lt (by rw [h.len]; exact e)]; exact h.out j e
  · obtain rfl : j = xss.length := by omega
    rw [gr_snoc, ← h.len, gv_snoc]; exact ⟨g, c, by rw [hn], ho⟩⟩
theorem Inn.put {w : World} {cs : List Value} {xss : List (List Int)} (h : Inn w cs xss) {k g n c : Nat} {xs : List Int} (hk : k < xss.length) (hn : n = xs.length) (ho : Own w g xs) : Inn w (cs.set k (.slice (some ⟨g, 0, none⟩) n c)) (xss.set k xs) := ⟨by simp [h.len], fun j hj => by
  rw [List.length_set] at hj
  rw [gv_set _ _ _ _ (by rw [h.len]; exact hk), gr_set _ _ _ _ hk]
  by_cases e : k = j
  · rw [if_pos e, if_pos e]; exact ⟨g, c, by rw [hn], ho⟩
  · rw [if_neg e, if_neg e]; exact h.out j hj⟩
/-- what a grown slice of slices reads as -/
theorem Row.readss {w : World} {v : Value} {cs : List Value} {xss : List (List Int)} (h : Row w v 22 cs) (hi : Inn w cs xss) : ∃ A c, v = .slice A xss.length c ∧ xss.length ≤ c ∧ Sls w A xss := by
  have ho := h.out
  rcases ho.2 with ⟨rfl, hn⟩ | ⟨g, cap, cur, rfl, _, hh, hc, _, hsz, hcur⟩
  · obtain rfl : xss = [] := List.eq_nil_of_length_eq_zero (by rw [← hi.len]; exact hn)
    exact ⟨none, 0, by simp, by simp, inferInstance⟩
  · refine ⟨_, cap, by rw [hi.len], by rw [← hi.len]; exact hc, ⟨fun ad e j hj => ?_, fun _ => ⟨_, rfl⟩⟩⟩
    cases e
    obtain ⟨gj, cj, h1, h2⟩ := hi.out j hj
    refine ⟨some ⟨gj, 0, none⟩, cj, ?_, inferInstance⟩
    rw [add_plain, blk_cell hh, ← h1]
    have h3 : (cur.toList.take (cs.length * 1))[j]? = cur.toList[j]? := List.getElem?_take_of_lt (by rw [hi.len]; omega)
    have h4 : cur.toList[j]? = some (gv cs j) := by rw [← h3, hcur, gv_eq (by rw [hi.len]; exact hj)]; simp [hi.len, hj]
    simpa using h4
theorem Row.ownv {w : World} {v : Value} {e : TypeId} {cs : List Value} (h : Row w v e cs) (hp : 0 < cs.length) : ∃ g cap, v = .slice (some ⟨g, 0, none⟩) cs.length cap ∧ cs.length ≤ cap ∧ OwnV w g e cs := by
  rcases h.out.2 with ⟨rfl, hn⟩ | ⟨g, cap, cur, rfl, _, hh, hc, _, hsz, hcur⟩
  · omega
  · refine ⟨g, cap, rfl, hc, ⟨⟨(cur.toList.drop cs.length).toArray, ?_⟩⟩⟩
    rw [hh]
    congr 2
    apply Array.ext'
    rw [Array.toList_append]
    have : cs = cur.toList.take (cs.length * 1) := hcur.symm
    rw [List.toList_toArray, List.toList_toArray]
    conv => rhs; lhs; rw [this]
    simp
theorem OwnV.sls {w : World} {g : Nat} {cs : List Value} {xss : List (List Int)} (h : OwnV w g 22 cs) (hi : Inn w cs xss) : Sls w (some ⟨g, 0, none⟩) xss := ⟨fun ad e j hj => by
  cases e
  obtain ⟨gj, cj, h1, h2⟩ := hi.out j hj
  refine ⟨some ⟨gj, 0, none⟩, cj, ?_, inferInstance⟩
  rw [add_plain, cell_ownv (by rw [hi.len]; exact hj), h1], fun _ => ⟨_, rfl⟩⟩

theorem info_ints : (Try.prog.info? 22).map (fun i => (i.zero, i.size, i.bytes)) = some (some (.slice none 0 0), 1, 24) := by kernel_rfl

end Go.Proofs.Ytcigdhmecfhndaa

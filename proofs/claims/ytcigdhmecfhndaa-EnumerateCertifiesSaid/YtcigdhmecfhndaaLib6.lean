/- Words for rows that are written in place. -/
import Derived.Test.YtcigdhmecfhndaaMa
import Derived.Test.YtcigdhmecfhndaaSink
namespace Go.Proofs.Ytcigdhmecfhndaa
open Go.RowKit

/-- block g may have been written, and memory made -/
class Wrt (g : outParam Nat) (w0 : outParam World) (w : World) : Prop where out : w0.grownBy w (some g)
theorem Wrt.refl (g : Nat) (w : World) : Wrt g w w := ⟨World.grownBy.refl w _⟩
theorem wrt_then {g : Nat} {w0 w w' : World} (h : Wrt g w0 w) (k : w.grownBy w' (some g)) : Wrt g w0 w' :=
  ⟨⟨k.os.trans h.out.os, k.tape.trans h.out.tape, k.output.trans h.out.output, Nat.le_trans h.out.size k.size, fun b hb hn => (k.block b (Nat.lt_of_lt_of_le hb h.out.size) hn).trans (h.out.block b hb hn)⟩⟩
theorem grown_below {g : Nat} {w w' : World} (h : Below w.heap.size w w') : w.grownBy w' (some g) := ⟨h.os, h.tape, h.output, h.size, fun b hb _ => h.block b hb⟩
instance wrt_drew {g : Nat} {w0 w : World} [h : Wrt g w0 w] : Wrt g w0 w.drew := wrt_then h (grown_below (Below.refl _ _).drew)
instance wrt_drewN {g n : Nat} {w0 w : World} [h : Wrt g w0 w] : Wrt g w0 (w.drewN n) := wrt_then h (grown_below (bel_drewN (w0 := w)).out)
instance wrt_mk {g d : Nat} {w0 w : World} [h : Wrt g w0 w] : Wrt g w0 ⟨w.heap, w.tape, d, w.os, w.output⟩ := wrt_then h (grown_below (bel_mk (w0 := w)).out)
instance wrt_alloc {g : Nat} {w0 w : World} {o : Obj} [h : Wrt g w0 w] : Wrt g w0 (w.alloc o) := wrt_then h (grown_below ((Below.refl _ w).alloc (Nat.le_refl _) o))
instance wrt_ext {g : Nat} {w0 w w' : World} [e : Ext w w'] [h : Wrt g w0 w] : Wrt g w0 w' := wrt_then h (grown_below e.out)
instance wrt_set {g k : Nat} {w0 w : World} {u : Value} [h : Wrt g w0 w] : Wrt g w0 (w.setCell ⟨g, k, none⟩ u) := wrt_then h ⟨rfl, rfl, rfl, by simp [World.setCell], fun b _ hn => Below.heap_setCell w ⟨g, k, none⟩ u b (fun e => hn (congrArg some e))⟩
/-- a block that was not there is written -/
theorem Wrt.far {g b k : Nat} {w0 w : World} {u : Value} (h : Wrt g w0 w) (hb : w0.heap.size ≤ b) : Wrt g w0 (w.setCell ⟨b, k, none⟩ u) :=
  ⟨⟨h.out.os, h.out.tape, h.out.output, by simp [World.setCell]; exact h.out.size, fun c hc hn => (Below.heap_setCell w ⟨b, k, none⟩ u c (by simp only; omega)).trans (h.out.block c hc hn)⟩⟩
instance own_wrt {w w' : World} {g b : Nat} {xs : List Int} [c : Wrt g w w'] [h : Own w b xs] [a : Apart b g] : Own w' b xs := ⟨h.out.imp fun _ k => (c.out.block b (blk_lt k) (fun e => a.out (Option.some.inj e))).trans k⟩
instance bx_wrt {w w' : World} {g b : Nat} {cs : Array Value} {t : TypeId} [c : Wrt g w w'] [h : Bx w b cs t] [a : Apart b g] : Bx w' b cs t := ⟨(c.out.block b (blk_lt h.out) (fun e => a.out (Option.some.inj e))).trans h.out⟩
instance ownv_wrt {w w' : World} {g b : Nat} {e : TypeId} {cs : List Value} [c : Wrt g w w'] [h : OwnV w b e cs] [a : Apart b g] : OwnV w' b e cs := ⟨h.out.imp fun _ k => (c.out.block b (blk_lt k) (fun e => a.out (Option.some.inj e))).trans k⟩
theorem Wrt.bel {w0 w w' : World} {g : Nat} (c : Wrt g w w') (h : Bel w0 w) (f : Fr w0 g) : Bel w0 w' := ⟨c.out.os.trans h.out.os, c.out.tape.trans h.out.tape, c.out.output.trans h.out.output, Nat.le_trans h.out.size c.out.size, fun b hb => (c.out.block b (Nat.lt_of_lt_of_le hb h.out.size) (fun e => by have := f.out; have := Option.some.inj e; omega)).trans (h.out.block b hb)⟩
theorem Wrt.row {w w' : World} {g : Nat} {v : Value} {e : TypeId} {cs : List Value} (c : Wrt g w w') (h : Row w v e cs) (a : ApV g v) : Row w' v e cs := h.move fun b hb => by
  refine c.out.block b ?_ (fun e => a.out (by rw [hb, ← Option.some.inj e]))
  rcases h.out.2 with ⟨hv, _⟩ | ⟨k, cap, cur, hv, _, hh, _⟩
  · rw [hv] at hb; simp [Value.ownBlock] at hb
  · rw [hv] at hb
    obtain rfl : k = b := by simpa [Value.ownBlock] using hb
    exact blk_lt hh

/-! ### rows that are all different -/
def Dis (cs : List Value) : Prop := ∀ i j, i < cs.length → j < cs.length → i ≠ j → (gv cs i).ownBlock ≠ (gv cs j).ownBlock
/-- all rows are above B -/
def CsGe (B : Nat) (cs : List Value) : Prop := ∀ i, i < cs.length → ∀ g, (gv cs i).ownBlock = some g → B ≤ g
/-- all rows are below B -/
def CsLt (B : Nat) (cs : List Value) : Prop := ∀ i, i < cs.length → ∀ g, (gv cs i).ownBlock = some g → g < B
theorem own_of {g n c : Nat} : (Value.slice (some ⟨g, 0, none⟩) n c).ownBlock = some g := rfl
theorem Inn.lt {w : World} {cs : List Value} {xss : List (List Int)} (h : Inn w cs xss) : CsLt w.heap.size cs := fun i hi g hg => by
  obtain ⟨b, c, h1, h2⟩ := h.out i (by rw [← h.len]; exact hi)
  rw [h1, own_of] at hg
  obtain rfl := Option.some.inj hg
  exact (lo_own (h := h2)).out
theorem CsLt.mono {A B : Nat} {cs : List Value} (h : CsLt A cs) (hab : A ≤ B) : CsLt B cs := fun i hi g hg => Nat.lt_of_lt_of_le (h i hi g hg) hab
theorem CsLt.put {B k g n c : Nat} {cs : List Value} (h : CsLt B cs) (hg : g < B) : CsLt B (cs.set k (.slice (some ⟨g, 0, none⟩) n c)) := fun i hi b hb => by
  rw [List.length_set] at hi
  by_cases hk : k < cs.length
  · rw [gv_set _ _ _ _ hk] at hb
    by_cases e : k = i
    · rw [if_pos e, own_of] at hb; have := Option.some.inj hb; omega
    · rw [if_neg e] at hb; exact h i hi b hb
  · rw [List.set_eq_of_length_le (by omega)] at hb; exact h i hi b hb
theorem CsGe.put {B k g n c : Nat} {cs : List Value} (h : CsGe B cs) (hg : B ≤ g) : CsGe B (cs.set k (.slice (some ⟨g, 0, none⟩) n c)) := fun i hi b hb => by
  rw [List.length_set] at hi
  by_cases hk : k < cs.length
  · rw [gv_set _ _ _ _ hk] at hb
    by_cases e : k = i
    · rw [if_pos e, own_of] at hb; have := Option.some.inj hb; omega
    · rw [if_neg e] at hb; exact h i hi b hb
  · rw [List.set_eq_of_length_le (by omega)] at hb; exact h i hi b hb
theorem CsGe.snoc {B g n c : Nat} {cs : List Value} (h : CsGe B cs) (hg : B ≤ g) : CsGe B (cs ++ [.slice (some ⟨g, 0, none⟩) n c]) := fun i hi b hb => by
  simp only [List.length_append, List.length_singleton] at hi
  by_cases e : i < cs.length
  · rw [gv_snoc_lt e] at hb; exact h i e b hb
  · obtain rfl : i = cs.length := by omega
    rw [gv_snoc, own_of] at hb; have := Option.some.inj hb; omega
theorem Dis.put {B k g n c : Nat} {cs : List Value} (h : Dis cs) (hl : CsLt B cs) (hg : B ≤ g) : Dis (cs.set k (.slice (some ⟨g, 0, none⟩) n c)) := fun i j hi hj hij => by
  rw [List.length_set] at hi hj
  by_cases hk : k < cs.length
  · rw [gv_set _ _ _ _ hk, gv_set _ _ _ _ hk]
    by_cases e1 : k = i
    · rw [if_pos e1, if_neg (by omega), own_of]
      intro e; have := hl j hj g e.symm; omega
    · rw [if_neg e1]
      by_cases e2 : k = j
      · rw [if_pos e2, own_of]
        intro e; have := hl i hi g e; omega
      · rw [if_neg e2]; exact h i j hi hj hij
  · rw [List.set_eq_of_length_le (by omega)]; exact h i j hi hj hij
theorem Dis.snoc {B g n c : Nat} {cs : List Value} (h : Dis cs) (hl : CsLt B cs) (hg : B ≤ g) : Dis (cs ++ [.slice (some ⟨g, 0, none⟩) n c]) := fun i j hi hj hij => by
  simp only [List.length_append, List.length_singleton] at hi hj
  by_cases e1 : i < cs.length
  · rw [gv_snoc_lt e1]
    by_cases e2 : j < cs.length
    · rw [gv_snoc_lt e2]; exact h i j e1 e2 hij
    · obtain rfl : j = cs.length := by omega
      rw [gv_snoc, own_of]
      intro e; have := hl i e1 g e; omega
  · obtain rfl : i = cs.length := by omega
    rw [gv_snoc, gv_snoc_lt (by omega), own_of]
    intro e; have := hl j (by omega) g e.symm; omega
def swapV (cs : List Value) (i j : Nat) : List Value := (cs.set i (gv cs j)).set j (gv cs i)
theorem swapV_len (cs : List Value) (i j : Nat) : (swapV cs i j).length = cs.length := by simp [swapV]
theorem gv_swapV {cs : List Value} {i j : Nat} (hi : i < cs.length) (hj : j < cs.length) (k : Nat) : gv (swapV cs i j) k = if j = k then gv cs i else if i = k then gv cs j else gv cs k := by
  rw [swapV, gv_set _ _ _ _ (by rw [List.length_set]; exact hj), gv_set _ _ _ _ hi]
theorem gr_swapR {l : List (List Int)} {i j : Nat} (hi : i < l.length) (hj : j < l.length) (k : Nat) : gr (swapR l i j) k = if j = k then gr l i else if i = k then gr l j else gr l k := by
  rw [swapR, gr_set _ _ _ _ (by rw [List.length_set]; exact hj), gr_set _ _ _ _ hi]
/-- the place that comes to k -/
def swI (i j k : Nat) : Nat := if j = k then i else if i = k then j else k
theorem gv_swap' {cs : List Value} {i j : Nat} (hi : i < cs.length) (hj : j < cs.length) (k : Nat) : gv (swapV cs i j) k = gv cs (swI i j k) := by
  rw [gv_swapV hi hj, swI]; split
  · rfl
  · split <;> rfl
theorem gr_swap' {l : List (List Int)} {i j : Nat} (hi : i < l.length) (hj : j < l.length) (k : Nat) : gr (swapR l i j) k = gr l (swI i j k) := by
  rw [gr_swapR hi hj, swI]; split
  · rfl
  · split <;> rfl
theorem swI_lt {i j k n : Nat} (hi : i < n) (hj : j < n) (hk : k < n) : swI i j k < n := by
  unfold swI
  split
  · exact hi
  · split <;> assumption
theorem swI_ne {i j a b : Nat} (h : a ≠ b) : swI i j a ≠ swI i j b := by unfold swI; split <;> split <;> (try split) <;> (try split) <;> omega
theorem Inn.swap {w : World} {cs : List Value} {xss : List (List Int)} (h : Inn w cs xss) {i j : Nat} (hi : i < xss.length) (hj : j < xss.length) : Inn w (swapV cs i j) (swapR xss i j) :=
  ⟨by rw [swapV_len, swapR, List.length_set, List.length_set]; exact h.len, fun k hk => by
    rw [swapR, List.length_set, List.length_set] at hk
    rw [gv_swap' (by rw [h.len]; exact hi) (by rw [h.len]; exact hj), gr_swap' hi hj]
    exact h.out _ (swI_lt hi hj hk)⟩
theorem Dis.swap {cs : List Value} (h : Dis cs) {i j : Nat} (hi : i < cs.length) (hj : j < cs.length) : Dis (swapV cs i j) := fun a b ha hb hab => by
  rw [swapV_len] at ha hb
  rw [gv_swap' hi hj, gv_swap' hi hj]
  exact h _ _ (swI_lt hi hj ha) (swI_lt hi hj hb) (swI_ne hab)
theorem CsGe.swap {B : Nat} {cs : List Value} (h : CsGe B cs) {i j : Nat} (hi : i < cs.length) (hj : j < cs.length) : CsGe B (swapV cs i j) := fun a ha g hg => by
  rw [swapV_len] at ha
  rw [gv_swap' hi hj] at hg
  exact h _ (swI_lt hi hj ha) g hg
/-- a block that none of the rows is -/
def CsAp (b : Nat) (cs : List Value) : Prop := ∀ i, i < cs.length → (gv cs i).ownBlock ≠ some b
theorem CsLt.ap {B b : Nat} {cs : List Value} (h : CsLt B cs) (hb : B ≤ b) : CsAp b cs := fun i hi e => by have := h i hi b e; omega
theorem Inn.keep {w w' : World} {cs : List Value} {xss : List (List Int)} (h : Inn w cs xss) {b : Nat} (ha : CsAp b cs) (hm : ∀ g xs, g ≠ b → Own w g xs → Own w' g xs) : Inn w' cs xss := ⟨h.len, fun j hj => by
  obtain ⟨g, c, h1, h2⟩ := h.out j hj
  refine ⟨g, c, h1, hm _ _ (fun e => ?_) h2⟩
  exact ha j (by rw [h.len]; exact hj) (by rw [h1, own_of, e])⟩
theorem Inn.wrt {w w' : World} {cs : List Value} {xss : List (List Int)} (h : Inn w cs xss) {b : Nat} (c : Wrt b w w') (ha : CsAp b cs) : Inn w' cs xss := h.keep ha fun g xs hg ho => by
  have : Apart g b := ⟨hg⟩
  infer_instance
theorem Inn.set_ {w : World} {cs : List Value} {xss : List (List Int)} (h : Inn w cs xss) {b k : Nat} {u : Value} (ha : CsAp b cs) : Inn (w.setCell ⟨b, k, none⟩ u) cs xss := h.keep ha fun g xs hg ho => by
  have : Apart g b := ⟨hg⟩
  infer_instance
/-- row i was written -/
theorem Inn.write {w w' : World} {cs : List Value} {xss : List (List Int)} (h : Inn w cs xss) (hd : Dis cs) {i g n c : Nat} {xs : List Int} (hi : i < xss.length) (hg : gv cs i = .slice (some ⟨g, 0, none⟩) n c) (hn : n = xs.length) (hw : Wrt g w w') (ho : Own w' g xs) : Inn w' cs (xss.set i xs) :=
  ⟨by rw [List.length_set]; exact h.len, fun j hj => by
    rw [List.length_set] at hj
    rw [gr_set _ _ _ _ hi]
    by_cases e : i = j
    · rw [if_pos e]; subst e; exact ⟨g, c, by rw [hg, hn], ho⟩
    · rw [if_neg e]
      obtain ⟨b, cb, h1, h2⟩ := h.out j hj
      have : Apart b g := ⟨fun e2 => hd j i (by rw [h.len]; exact hj) (by rw [h.len]; exact hi) (fun e3 => e e3.symm) (by rw [h1, hg, own_of, own_of, e2])⟩
      exact ⟨b, cb, h1, inferInstance⟩⟩

theorem Inn.ap_ownv {w : World} {cs : List Value} {xss : List (List Int)} (h : Inn w cs xss) {g : Nat} {e : TypeId} {ds : List Value} (k : OwnV w g e ds) (he : e ≠ 3) : CsAp g cs := fun i hi hb => by
  obtain ⟨b, c, h1, h2⟩ := h.out i (by rw [← h.len]; exact hi)
  rw [h1, own_of] at hb
  exact own_ownv_ne h2 k he (Option.some.inj hb)
theorem CsAp.put {b k g n c : Nat} {cs : List Value} (h : CsAp b cs) (hg : g ≠ b) : CsAp b (cs.set k (.slice (some ⟨g, 0, none⟩) n c)) := fun i hi hb => by
  rw [List.length_set] at hi
  by_cases hk : k < cs.length
  · rw [gv_set _ _ _ _ hk] at hb
    by_cases e : k = i
    · rw [if_pos e, own_of] at hb; exact hg (Option.some.inj hb)
    · rw [if_neg e] at hb; exact h i hi hb
  · rw [List.set_eq_of_length_le (by omega)] at hb; exact h i hi hb
theorem CsAp.swap {b : Nat} {cs : List Value} (h : CsAp b cs) {i j : Nat} (hi : i < cs.length) (hj : j < cs.length) : CsAp b (swapV cs i j) := fun a ha hb => by
  rw [swapV_len] at ha
  rw [gv_swap' hi hj] at hb
  exact h _ (swI_lt hi hj ha) hb
theorem InnAp.swap {cs : List Value} {v : Value} (h : InnAp cs v) {i j : Nat} (hi : i < cs.length) (hj : j < cs.length) : InnAp (swapV cs i j) v := fun k g n c hk e => by
  rw [swapV_len] at hk
  rw [gv_swap' hi hj] at e
  exact h _ g n c (swI_lt hi hj hk) e

end Go.Proofs.Ytcigdhmecfhndaa

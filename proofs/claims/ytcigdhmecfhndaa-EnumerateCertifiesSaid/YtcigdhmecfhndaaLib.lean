/- The words of this seat's walks: what a world holds, as classes, so that the walk's own simp finds it by itself. -/
import Derived.Test.YtcigdhmecfhndaaProg
import Derived.Test.YtcigdhmecfhndaaBase
import Derived.WalkKit
import Derived.WalkSpells
import Derived.WalkLawsBesides
import Derived.KernelRfl
import Derived.Deep.LoopGhost
import Derived.Deep.RegionHeld3
import Derived.Deep.Cut
import Derived.Deep.DeepCutAuto
import Derived.Deep.CutBlock
import Derived.Deep.DeepMust
import Derived.StillTailTactics
import Derived.Deep.QuietTactic
import Derived.BigQuiet
import Derived.Maps.AppendAt
namespace Go.Proofs.Ytcigdhmecfhndaa
open Go.RowKit

theorem hidd {p : Prop} (h : p) : Hid p := h

theorem wr_in {x : Int} (h0 : -4611686018427387904 ≤ x) (h1 : x ≤ 4611686018427387904) : IntKind.i64.wrap x = x := by rw [IntKind.wrap_i64]; omega
theorem wr_mod {x p : Int} (h0 : 0 ≤ x) (hp : 0 < p) (h1 : p ≤ 4611686018427387904) : IntKind.i64.wrap (x.tmod p) = x % p := by
  rw [Int.tmod_eq_emod_of_nonneg h0]
  have := Int.emod_nonneg x (show p ≠ 0 by omega)
  have := Int.emod_lt_of_pos x hp
  exact wr_in (by omega) (by omega)
theorem ret_bool {a b : Bool} (h : a = b) : Ending.returned (.bool a) = .returned (.bool b) := by rw [h]
theorem ret_int {a b : Int} (h : a = b) : Ending.returned (.int .i64 a) = .returned (.int .i64 b) := by rw [h]
theorem ret_val {a b : Value} (h : a = b) : Ending.returned a = .returned b := by rw [h]
/-! ### blocks -/
def ints (xs : List Int) : Array Value := (xs.map (Value.int .i64)).toArray
theorem ints_get (xs : List Int) (k : Nat) (h : k < xs.length) : (ints xs)[k]? = some (.int .i64 (gt xs k)) := by simp [ints, gt, h]
theorem ints_set (xs : List Int) (i : Nat) (x : Int) : (ints xs).setIfInBounds i (.int .i64 x) = ints (xs.set i x) := by
  simp [ints, List.map_set]
theorem blk_lt {w : World} {g : Nat} {o : Obj} (h : w.heap[g]? = some o) : g < w.heap.size := (Array.getElem?_eq_some_iff.1 h).1
theorem blk_new (w : World) (o : Obj) : (w.alloc o).heap[w.heap.size]? = some o := heap_alloc_new w o
theorem blk_alloc {w : World} {g : Nat} {o : Obj} (h : w.heap[g]? = some o) (o' : Obj) : (w.alloc o').heap[g]? = some o := (Below.heap_alloc w o' g (blk_lt h)).trans h
theorem blk_cell {w : World} {g : Nat} {t : TypeId} {cs : Array Value} {fr : Nat × Nat} (h : w.heap[g]? = some (.cells cs t fr)) (i : Nat) : w.cell? ⟨g, i, none⟩ = cs[i]? := cell_of_row w g i cs t fr h
theorem blk_frozen {w : World} {g : Nat} {t : TypeId} {cs : Array Value} (h : w.heap[g]? = some (.cells cs t (0, 0))) (i : Nat) : w.frozen? ⟨g, i, none⟩ = false := by simp [World.frozen?, h]
theorem add_block (a : Addr) (k : Nat) : (a.add k).block = a.block := by unfold Addr.add; split <;> rfl
theorem add_plain (g j : Nat) : (⟨g, 0, none⟩ : Addr).add j = ⟨g, j, none⟩ := by unfold Addr.add; split <;> simp_all
theorem blk_set {w : World} {g : Nat} {t : TypeId} {cs : Array Value} (h : w.heap[g]? = some (.cells cs t (0, 0))) (i : Nat) (u : Value) : (w.setCell ⟨g, i, none⟩ u).heap[g]? = some (.cells (cs.setIfInBounds i u) t (0, 0)) := by
  simp only [World.setCell, Array.getElem?_modify, h]
  simp
theorem blk_far {w : World} {g : Nat} {o : Obj} (h : w.heap[g]? = some o) {p : Addr} (hp : g ≠ p.block) (u : Value) : (w.setCell p u).heap[g]? = some o := (Below.heap_setCell w p u g hp).trans h
theorem blk_below {w w1 : World} {g : Nat} {o : Obj} (h : w.heap[g]? = some o) (hb : Below w.heap.size w w1) : w1.heap[g]? = some o := (hb.block g (blk_lt h)).trans h
theorem undrew {w w1 : World} (h : Below w.drew.heap.size w.drew w1) : Below w.heap.size w w1 := (Below.refl _ _).drew.trans h

/-! ### what a world holds: classes -/
/-- the world's blocks are n -/
class SizeIs (w : World) (n : outParam Nat) : Prop where out : w.heap.size = n
instance (priority := low) size_is (w : World) : SizeIs w w.heap.size := ⟨rfl⟩
instance size_alloc {w : World} {o : Obj} {n : Nat} [h : SizeIs w n] : SizeIs (w.alloc o) (n + 1) := ⟨by rw [World.size_alloc, h.out]⟩
instance size_drew {w : World} {n : Nat} [h : SizeIs w n] : SizeIs w.drew n := ⟨h.out⟩
/-- two numbers that differ -/
class Apart (a b : Nat) : Prop where out : a ≠ b
instance apart_add {n k : Nat} : Apart n (n + (k + 1)) := ⟨by omega⟩
instance apart_add' {n k : Nat} : Apart (n + (k + 1)) n := ⟨by omega⟩
instance apart_01 {n : Nat} : Apart (n + 1) (n + 2) := ⟨by omega⟩
instance apart_10 {n : Nat} : Apart (n + 2) (n + 1) := ⟨by omega⟩
/-- What was there at the start is there. -/
class Bel (w0 : outParam World) (w : World) : Prop where out : Below w0.heap.size w0 w
/-- A callee has made memory, no more. -/
class Ext (w : outParam World) (w' : World) : Prop where out : Below w.heap.size w w'
/-- Below block B the world is as wX. -/
class Near (B : outParam Nat) (wX : outParam World) (w' : World) : Prop where out : Below B wX w'
/-- A block from the start on. -/
class Fr (w0 : World) (g : Nat) : Prop where out : w0.heap.size ≤ g
/-- a is below b -/
class Lo (a b : Nat) : Prop where out : a < b
instance lo_add {n k : Nat} : Lo n (n + (k + 1)) := ⟨by omega⟩
instance lo_12 {n : Nat} : Lo (n + 1) (n + 2) := ⟨by omega⟩
/-- a block of a few cells -/
class Bx (w : World) (b : Nat) (cs : outParam (Array Value)) (t : outParam TypeId) : Prop where out : w.heap[b]? = some (.cells cs t (0, 0))
/-- a row of whole numbers of one's own -/
class Own (w : World) (b : Nat) (xs : outParam (List Int)) : Prop where out : ∃ sp : Array Value, w.heap[b]? = some (.cells (ints xs ++ sp) 3 (0, 0))
/-- a cell -/
class Cel (w : World) (a : Addr) (v : outParam Value) : Prop where out : w.cell? a = some v
/-- a slice's elements, whole numbers -/
class Rd (w : World) (ad : Addr) (xs : outParam (List Int)) : Prop where out : ∀ j, j < xs.length → w.cell? (ad.add j) = some (.int .i64 (gt xs j))
/-- a slice that has grown by append, or nil: all of its row is one's own -/
class Row (w : World) (v : Value) (e : outParam TypeId) (cs : outParam (List Value)) : Prop where out : w.ownsRow 0 e 1 v cs.length cs
/-- v's row lies from the start on -/
class FrV (w0 : World) (v : Value) : Prop where out : ∀ g, v.ownBlock = some g → w0.heap.size ≤ g
/-- v's row may have been written, and memory made -/
class Chg (v : outParam Value) (w : outParam World) (w' : World) : Prop where out : w.grownBy w' v.ownBlock
/-- b is not v's row -/
class ApV (b : Nat) (v : Value) : Prop where out : some b ≠ v.ownBlock
/-- two types that differ -/
class TNe (a b : TypeId) : Prop where out : a ≠ b
class Sl (w : World) (A : Option Addr) (xs : outParam (List Int)) : Prop where
  rd : ∀ ad, A = some ad → Rd w ad xs
  nn : 0 < xs.length → ∃ ad, A = some ad

instance (priority := low) bel_refl (w : World) : Bel w w := ⟨Below.refl _ _⟩
instance bel_alloc {w0 w : World} {o : Obj} [h : Bel w0 w] : Bel w0 (w.alloc o) := ⟨h.out.alloc h.out.size o⟩
instance bel_drew {w0 w : World} [h : Bel w0 w] : Bel w0 w.drew := ⟨h.out.drew⟩
instance bel_drewN {w0 w : World} {n : Nat} [h : Bel w0 w] : Bel w0 (w.drewN n) := ⟨⟨h.out.os, h.out.tape, h.out.output, h.out.size, h.out.block⟩⟩
instance bel_set {w0 w : World} {g k : Nat} {u : Value} [h : Bel w0 w] [f : Fr w0 g] : Bel w0 (w.setCell ⟨g, k, none⟩ u) := ⟨h.out.setCell (p := ⟨g, k, none⟩) f.out u⟩
instance bel_ext {w0 w w' : World} [e : Ext w w'] [h : Bel w0 w] : Bel w0 w' := ⟨h.out.trans (e.out.mono h.out.size)⟩
instance bel_near {w0 w w' : World} {B : Nat} [e : Near B w w'] [h : Bel w0 w] [f : Fr w0 B] : Bel w0 w' := ⟨h.out.trans (e.out.mono f.out)⟩
instance fr_size {w0 w : World} [h : Bel w0 w] : Fr w0 w.heap.size := ⟨h.out.size⟩
instance fr_add {w0 : World} {g k : Nat} [h : Fr w0 g] : Fr w0 (g + k) := ⟨Nat.le_trans h.out (Nat.le_add_right _ _)⟩
theorem Bel.ext {w0 w : World} (h : Bel w0 w) : Ext w0 w := ⟨h.out⟩

instance near_drew {B : Nat} {wX w : World} [h : Near B wX w] : Near B wX w.drew := ⟨h.out.drew⟩
instance near_set {B : Nat} {wX w : World} {g k : Nat} {u : Value} [h : Near B wX w] [f : Lo B (g + 1)] : Near B wX (w.setCell ⟨g, k, none⟩ u) := ⟨h.out.setCell (p := ⟨g, k, none⟩) (Nat.le_of_lt_succ f.out) u⟩
instance near_ext {B : Nat} {wX w w' : World} [e : Ext w w'] [h : Near B wX w] [f : Lo B (wX.heap.size + 1)] : Near B wX w' := ⟨h.out.trans (e.out.mono (Nat.le_trans (Nat.le_of_lt_succ f.out) h.out.size))⟩
instance near_alloc {B : Nat} {wX w : World} {o : Obj} [h : Near B wX w] [f : Lo B (wX.heap.size + 1)] : Near B wX (w.alloc o) := ⟨h.out.alloc (Nat.le_trans (Nat.le_of_lt_succ f.out) h.out.size) o⟩

instance bx_new {w : World} {n : Nat} {cs : Array Value} {t : TypeId} [h : SizeIs w n] : Bx (w.alloc (.cells cs t (0, 0))) n cs t := ⟨by rw [← h.out]; exact blk_new _ _⟩
instance bx_alloc {w : World} {b : Nat} {cs : Array Value} {t : TypeId} {o' : Obj} [h : Bx w b cs t] : Bx (w.alloc o') b cs t := ⟨blk_alloc h.out o'⟩
instance bx_drew {w : World} {b : Nat} {cs : Array Value} {t : TypeId} [h : Bx w b cs t] : Bx w.drew b cs t := ⟨h.out⟩
instance bx_drewN {w : World} {b n : Nat} {cs : Array Value} {t : TypeId} [h : Bx w b cs t] : Bx (w.drewN n) b cs t := ⟨h.out⟩
instance bx_ext {w w' : World} {b : Nat} {cs : Array Value} {t : TypeId} [e : Ext w w'] [h : Bx w b cs t] : Bx w' b cs t := ⟨blk_below h.out e.out⟩
instance bx_bel {w w' : World} {b : Nat} {cs : Array Value} {t : TypeId} [e : Bel w w'] [h : Bx w b cs t] : Bx w' b cs t := ⟨blk_below h.out e.out⟩
instance bx_near {w w' : World} {B b : Nat} {cs : Array Value} {t : TypeId} [e : Near B w w'] [h : Bx w b cs t] [l : Lo b B] : Bx w' b cs t := ⟨(e.out.block b l.out).trans h.out⟩
instance bx_chg {w w' : World} {v : Value} {b : Nat} {cs : Array Value} {t e : TypeId} {vs : List Value} [c : Chg v w w'] [h : Bx w b cs t] [r : Row w v e vs] [n : TNe t e] : Bx w' b cs t := ⟨by
  refine (c.out.block b (blk_lt h.out) fun he => ?_).trans h.out
  rcases r.out.2 with ⟨hv, _⟩ | ⟨g, cap, cur, hv, _, hh, _⟩
  · rw [hv] at he; simp [Value.ownBlock] at he
  · rw [hv] at he
    obtain rfl : b = g := by simpa [Value.ownBlock] using he
    have := h.out
    rw [hh] at this
    injection this with this; injection this with _ ht
    exact n.out ht.symm⟩
instance bx_far {w : World} {b g k : Nat} {cs : Array Value} {t : TypeId} {u : Value} [h : Bx w b cs t] [n : Apart b g] : Bx (w.setCell ⟨g, k, none⟩ u) b cs t := ⟨blk_far h.out (p := ⟨g, k, none⟩) n.out u⟩
instance own_new {w : World} {n : Nat} {xs : List Int} [h : SizeIs w n] : Own (w.alloc (.cells (ints xs) 3 (0, 0))) n xs := ⟨⟨#[], by rw [← h.out, blk_new]; simp⟩⟩
instance own_alloc {w : World} {b : Nat} {xs : List Int} {o' : Obj} [h : Own w b xs] : Own (w.alloc o') b xs := ⟨h.out.imp fun _ k => blk_alloc k o'⟩
instance own_drew {w : World} {b : Nat} {xs : List Int} [h : Own w b xs] : Own w.drew b xs := ⟨h.out⟩
instance own_drewN {w : World} {b n : Nat} {xs : List Int} [h : Own w b xs] : Own (w.drewN n) b xs := ⟨h.out⟩
instance own_ext {w w' : World} {b : Nat} {xs : List Int} [e : Ext w w'] [h : Own w b xs] : Own w' b xs := ⟨h.out.imp fun _ k => blk_below k e.out⟩
instance own_bel {w w' : World} {b : Nat} {xs : List Int} [e : Bel w w'] [h : Own w b xs] : Own w' b xs := ⟨h.out.imp fun _ k => blk_below k e.out⟩
instance own_near {w w' : World} {B b : Nat} {xs : List Int} [e : Near B w w'] [h : Own w b xs] [l : Lo b B] : Own w' b xs := ⟨h.out.imp fun _ k => (e.out.block b l.out).trans k⟩
instance own_far {w : World} {b g k : Nat} {xs : List Int} {u : Value} [h : Own w b xs] [n : Apart b g] : Own (w.setCell ⟨g, k, none⟩ u) b xs := ⟨h.out.imp fun _ q => blk_far q (p := ⟨g, k, none⟩) n.out u⟩
instance own_chg {w w' : World} {v : Value} {b : Nat} {xs : List Int} [c : Chg v w w'] [h : Own w b xs] [n : ApV b v] : Own w' b xs := ⟨h.out.imp fun _ k => (c.out.block b (blk_lt k) n.out).trans k⟩
instance bx_set {w : World} {g k : Nat} {cs : Array Value} {t : TypeId} {u : Value} [h : Bx w g cs t] : Bx (w.setCell ⟨g, k, none⟩ u) g (cs.setIfInBounds k u) t := ⟨blk_set h.out k u⟩
theorem own_set_ {w : World} {g : Nat} {xs : List Int} (h : Own w g xs) (k : Nat) (x : Int) (hk : k < xs.length) : Own (w.setCell ⟨g, k, none⟩ (.int .i64 x)) g (xs.set k x) := ⟨by
  obtain ⟨sp, e⟩ := h.out
  refine ⟨sp, ?_⟩
  rw [blk_set e k, ← ints_set]
  congr 2
  rw [Array.setIfInBounds_append_left (by simp [ints]; exact hk)]⟩
/-- places within -/
class In (k : Nat) (n : Nat) : Prop where out : k < n
instance own_set {w : World} {g k : Nat} {xs : List Int} {x : Int} [h : Own w g xs] [i : In k xs.length] : Own (w.setCell ⟨g, k, none⟩ (.int .i64 x)) g (xs.set k x) := own_set_ h k x i.out
instance in_set {k j : Nat} {xs : List Int} {x : Int} [i : In k xs.length] : In k (xs.set j x).length := ⟨by rw [List.length_set]; exact i.out⟩

theorem below_cell {w w' : World} (h : Below w.heap.size w w') {a : Addr} {v : Value} (hc : w.cell? a = some v) : w'.cell? a = some v := (h.cell (World.block_lt_of_cell? w a hc)).trans hc
instance cel_alloc {w : World} {a : Addr} {v : Value} {o : Obj} [h : Cel w a v] : Cel (w.alloc o) a v := ⟨below_cell ((Below.refl _ w).alloc (Nat.le_refl _) o) h.out⟩
instance cel_drew {w : World} {a : Addr} {v : Value} [h : Cel w a v] : Cel w.drew a v := ⟨h.out⟩
instance cel_drewN {w : World} {a : Addr} {v : Value} {n : Nat} [h : Cel w a v] : Cel (w.drewN n) a v := ⟨h.out⟩
instance cel_ext {w w' : World} {a : Addr} {v : Value} [e : Ext w w'] [h : Cel w a v] : Cel w' a v := ⟨below_cell e.out h.out⟩
instance cel_bel {w0 w : World} {a : Addr} {v : Value} [e : Bel w0 w] [h : Cel w0 a v] : Cel w a v := ⟨below_cell e.out h.out⟩
instance cel_near {w w' : World} {B : Nat} {a : Addr} {v : Value} [e : Near B w w'] [h : Cel w a v] [l : Lo a.block B] : Cel w' a v := ⟨(e.out.cell l.out).trans h.out⟩
instance cel_set {w : World} {a : Addr} {v u : Value} {g k : Nat} [h : Cel w a v] [n : Apart a.block g] : Cel (w.setCell ⟨g, k, none⟩ u) a v := ⟨by
  rw [← h.out]; exact World.cell?_of_block (w := w) (Below.heap_setCell w ⟨g, k, none⟩ u a.block n.out)⟩

theorem Rd.move {w w' : World} {ad : Addr} {xs : List Int} (h : Rd w ad xs) (hb : Below w.heap.size w w') : Rd w' ad xs := ⟨fun j hj => below_cell hb (h.out j hj)⟩
instance rd_alloc {w : World} {ad : Addr} {xs : List Int} {o : Obj} [h : Rd w ad xs] : Rd (w.alloc o) ad xs := h.move ((Below.refl _ w).alloc (Nat.le_refl _) o)
instance rd_drew {w : World} {ad : Addr} {xs : List Int} [h : Rd w ad xs] : Rd w.drew ad xs := ⟨h.out⟩
instance rd_drewN {w : World} {ad : Addr} {xs : List Int} {n : Nat} [h : Rd w ad xs] : Rd (w.drewN n) ad xs := ⟨h.out⟩
instance rd_ext {w w' : World} {ad : Addr} {xs : List Int} [e : Ext w w'] [h : Rd w ad xs] : Rd w' ad xs := h.move e.out
instance rd_bel {w0 w : World} {ad : Addr} {xs : List Int} [e : Bel w0 w] [h : Rd w0 ad xs] : Rd w ad xs := h.move e.out
instance rd_near {w w' : World} {B : Nat} {ad : Addr} {xs : List Int} [e : Near B w w'] [h : Rd w ad xs] [l : Lo ad.block B] : Rd w' ad xs := ⟨fun j hj => (e.out.cell (by rw [add_block]; exact l.out)).trans (h.out j hj)⟩
instance rd_set {w : World} {ad : Addr} {xs : List Int} {u : Value} {g k : Nat} [h : Rd w ad xs] [n : Apart ad.block g] : Rd (w.setCell ⟨g, k, none⟩ u) ad xs := ⟨fun j hj => by
  rw [← h.out j hj]; exact World.cell?_of_block (w := w) (Below.heap_setCell w ⟨g, k, none⟩ u _ (by rw [add_block]; exact n.out))⟩
theorem own_cell {w : World} {b k : Nat} {xs : List Int} (h : Own w b xs) (hk : k < xs.length) : w.cell? ⟨b, k, none⟩ = some (.int .i64 (gt xs k)) := by
  obtain ⟨sp, e⟩ := h.out
  rw [blk_cell e, Array.getElem?_append_left (by simp [ints]; exact hk), ints_get _ _ hk]
instance rd_chg {w w' : World} {v : Value} {ad : Addr} {xs : List Int} [c : Chg v w w'] [h : Rd w ad xs] [n : ApV ad.block v] : Rd w' ad xs := ⟨fun j hj => c.out.cell (h.out j hj) (by rw [add_block]; exact n.out)⟩
instance cel_chg {w w' : World} {v u : Value} {a : Addr} [c : Chg v w w'] [h : Cel w a u] [n : ApV a.block v] : Cel w' a u := ⟨c.out.cell h.out n.out⟩
instance bel_chg {w0 w w' : World} {v : Value} [c : Chg v w w'] [h : Bel w0 w] [f : FrV w0 v] : Bel w0 w' := ⟨h.out.grown c.out h.out.size fun k e => f.out k e⟩
instance rd_own {w : World} {g : Nat} {xs : List Int} [h : Own w g xs] : Rd w ⟨g, 0, none⟩ xs := ⟨fun j hj => by rw [add_plain]; exact own_cell h hj⟩

theorem Sl.move {w w' : World} {A : Option Addr} {xs : List Int} (h : Sl w A xs) (hb : Below w.heap.size w w') : Sl w' A xs := ⟨fun ad e => (h.rd ad e).move hb, h.nn⟩
instance sl_alloc {w : World} {A : Option Addr} {xs : List Int} {o : Obj} [h : Sl w A xs] : Sl (w.alloc o) A xs := h.move ((Below.refl _ w).alloc (Nat.le_refl _) o)
instance sl_drew {w : World} {A : Option Addr} {xs : List Int} [h : Sl w A xs] : Sl w.drew A xs := ⟨fun ad e => ⟨(h.rd ad e).out⟩, h.nn⟩
instance sl_drewN {w : World} {A : Option Addr} {xs : List Int} {n : Nat} [h : Sl w A xs] : Sl (w.drewN n) A xs := ⟨fun ad e => ⟨(h.rd ad e).out⟩, h.nn⟩
instance sl_ext {w w' : World} {A : Option Addr} {xs : List Int} [e : Ext w w'] [h : Sl w A xs] : Sl w' A xs := h.move e.out
instance sl_bel {w0 w : World} {A : Option Addr} {xs : List Int} [e : Bel w0 w] [h : Sl w0 A xs] : Sl w A xs := h.move e.out
instance sl_rd {w : World} {ad : Addr} {xs : List Int} [h : Rd w ad xs] : Sl w (some ad) xs := ⟨fun _ e => by cases e; exact h, fun _ => ⟨_, rfl⟩⟩
instance sl_nil {w : World} : Sl w none [] := ⟨fun _ e => (by cases e), fun h => absurd h (by simp)⟩
theorem Sl.at_ {w : World} {A : Option Addr} {xs : List Int} (h : Sl w A xs) {k : Nat} (hk : k < xs.length) : ∃ ad, A = some ad ∧ Rd w ad xs := by
  obtain ⟨ad, e⟩ := h.nn (by omega)
  exact ⟨ad, e, h.rd ad e⟩

/-! ### the walk's own rules -/
theorem cell_bx {w : World} {b k : Nat} {cs : Array Value} {t : TypeId} [h : Bx w b cs t] : w.cell? ⟨b, k, none⟩ = cs[k]? := blk_cell h.out k
theorem froz_bx {w : World} {b k : Nat} {cs : Array Value} {t : TypeId} [h : Bx w b cs t] : w.frozen? ⟨b, k, none⟩ = false := blk_frozen h.out k
theorem cell_own {w : World} {b k : Nat} {xs : List Int} [h : Own w b xs] (hk : k < xs.length) : w.cell? ⟨b, k, none⟩ = some (.int .i64 (gt xs k)) := own_cell h hk
theorem froz_own {w : World} {b k : Nat} {xs : List Int} [h : Own w b xs] : w.frozen? ⟨b, k, none⟩ = false := by
  obtain ⟨sp, e⟩ := h.out
  exact blk_frozen e k
theorem cell_rd {w : World} {ad : Addr} {k : Nat} {xs : List Int} [h : Rd w ad xs] (hk : k < xs.length) : w.cell? (ad.add k) = some (.int .i64 (gt xs k)) := h.out k hk
theorem cell_cel {w : World} {a : Addr} {v : Value} [h : Cel w a v] : w.cell? a = some v := h.out

theorem info_int : (Try.prog.info? 3).map (fun i => (i.zero, i.size, i.bytes)) = some (some (.int .i64 0), 1, 8) := by kernel_rfl
theorem madeCells_int (n : Nat) : madeCells #[Value.int .i64 0] n = ints (List.replicate n 0) := by
  apply Array.ext'
  rw [toList_madeCells_one]; simp [ints]
theorem mk_int (n : Nat) (hn : n ≤ 35184372088832) (w : World) : (Instr.makeSlice 22 (.int .i64 (n : Int)) (.int .i64 (n : Int))).run Try.prog w = .ok (.slice (some ⟨w.heap.size, 0, none⟩) n n) (w.alloc (.cells (ints (List.replicate n 0)) 3)) := by
  obtain ⟨i0, hi, hz0, hz1, hz2⟩ := info_parts info_int
  have := run_make (P := Try.prog) w 22 3 i0 (.int .i64 0) Try.underlying22 hi hz0 .i64 .i64 n n (by omega) (Int.le_refl _) (by rw [hz2]; omega) (by omega)
  rw [this, hz1]
  simp [Value.cells, madeCells_int]

/-! ### rows that grow -/
def nums (xs : List Int) : List Value := xs.map (Value.int .i64)
theorem nums_length (xs : List Int) : (nums xs).length = xs.length := by simp [nums]
theorem nums_append (xs ys : List Int) : nums (xs ++ ys) = nums xs ++ nums ys := by simp [nums]
instance row_nil {w : World} : Row w (.slice none 0 0) 3 (nums []) := ⟨World.ownsRow_nil _ _ _ _⟩
theorem row_nil_at (w : World) (e : TypeId) : Row w (.slice none 0 0) e [] := ⟨World.ownsRow_nil _ _ _ _⟩
theorem row_empty_at {w : World} {g : Nat} {e : TypeId} (h : Bx w g #[] e) : Row w (.slice (some ⟨g, 0, none⟩) 0 0) e [] := ⟨by simp, .inr ⟨g, 0, #[], rfl, Nat.zero_le _, h.out, Nat.le_refl _, Nat.zero_le _, by simp, by simp⟩⟩
instance row_empty {w : World} {g : Nat} [h : Bx w g #[] 3] : Row w (.slice (some ⟨g, 0, none⟩) 0 0) 3 (nums []) := row_empty_at h
theorem Row.move {w w' : World} {v : Value} {e : TypeId} {cs : List Value} (h : Row w v e cs) (hm : ∀ g, v.ownBlock = some g → w'.heap[g]? = w.heap[g]?) : Row w' v e cs := ⟨by
  refine ⟨h.out.1, ?_⟩
  rcases h.out.2 with h2 | ⟨g, cap, cur, hv, hb, hh, r⟩
  · exact .inl h2
  · exact .inr ⟨g, cap, cur, hv, hb, by rw [hm g (by rw [hv]; rfl)]; exact hh, r⟩⟩
theorem Row.lt {w : World} {v : Value} {e : TypeId} {cs : List Value} (h : Row w v e cs) {g : Nat} (hg : v.ownBlock = some g) : g < w.heap.size := (h.out.lt g hg).2
instance row_alloc {w : World} {v : Value} {e : TypeId} {cs : List Value} {o : Obj} [h : Row w v e cs] : Row (w.alloc o) v e cs := h.move fun g hg => Below.heap_alloc w o g (h.lt hg)
instance row_drew {w : World} {v : Value} {e : TypeId} {cs : List Value} [h : Row w v e cs] : Row w.drew v e cs := ⟨h.out⟩
instance row_drewN {w : World} {v : Value} {n : Nat} {e : TypeId} {cs : List Value} [h : Row w v e cs] : Row (w.drewN n) v e cs := ⟨h.out⟩
instance row_ext {w w' : World} {v : Value} {e : TypeId} {cs : List Value} [x : Ext w w'] [h : Row w v e cs] : Row w' v e cs := h.move fun g hg => x.out.block g (h.lt hg)
instance row_set {w : World} {v u : Value} {g k : Nat} {e : TypeId} {cs : List Value} [h : Row w v e cs] [n : ApV g v] : Row (w.setCell ⟨g, k, none⟩ u) v e cs := h.move fun b hb => Below.heap_setCell w ⟨g, k, none⟩ u b fun e => n.out (by rw [hb, e])
instance row_bel {w w' : World} {v : Value} {e : TypeId} {cs : List Value} [x : Bel w w'] [h : Row w v e cs] : Row w' v e cs := h.move fun g hg => x.out.block g (h.lt hg)
instance frv_nil {w0 : World} : FrV w0 (.slice none 0 0) := ⟨fun g h => by simp [Value.ownBlock] at h⟩
instance frv_own {w0 : World} {g n c : Nat} [f : Fr w0 g] : FrV w0 (.slice (some ⟨g, 0, none⟩) n c) := ⟨fun k h => by
  obtain rfl : g = k := by simpa [Value.ownBlock] using h
  exact f.out⟩
instance apv_apart {b g n c : Nat} [a : Apart b g] : ApV b (.slice (some ⟨g, 0, none⟩) n c) := ⟨fun h => a.out (by simpa [Value.ownBlock] using h)⟩
instance apv_nil {b : Nat} : ApV b (.slice none 0 0) := ⟨fun h => by simp [Value.ownBlock] at h⟩
theorem FrV.app {w0 W : World} {v v1 : Value} [f : FrV w0 v] [b : Bel w0 W] (h : v1.ownBlock = v.ownBlock ∨ v1.ownBlock = some W.heap.size) : FrV w0 v1 := ⟨fun g e => by
  rcases h with h | h
  · exact f.out g (by rw [← h]; exact e)
  · rw [h] at e; injection e with e; subst e; exact b.out.size⟩
theorem FrV.fr {w0 : World} {g n c : Nat} (h : FrV w0 (.slice (some ⟨g, 0, none⟩) n c)) : Fr w0 g := ⟨h.out g rfl⟩
/-- what a grown slice of whole numbers reads as -/
theorem Row.reads {w : World} {v : Value} {xs : List Int} (h : Row w v 3 (nums xs)) : ∃ A c, v = .slice A xs.length c ∧ xs.length ≤ c ∧ Sl w A xs ∧ (xs = [] → v = .slice none 0 0 ∨ ∃ g, A = some ⟨g, 0, none⟩) := by
  have ho := h.out
  rcases ho.2 with ⟨rfl, hn⟩ | ⟨g, cap, cur, rfl, _, hh, hc, _, hsz, hcur⟩
  · obtain rfl : xs = [] := List.eq_nil_of_length_eq_zero (by simpa [nums] using hn)
    exact ⟨none, 0, by simp, by simp, inferInstance, fun _ => .inl rfl⟩
  · rw [nums_length] at hc hcur ⊢
    refine ⟨_, cap, rfl, hc, ?_, fun _ => .inr ⟨g, rfl⟩⟩
    have : Rd w ⟨g, 0, none⟩ xs := ⟨fun j hj => by
      rw [add_plain, blk_cell hh]
      have h1 : cur.toList[j]? = some (.int .i64 (gt xs j)) := by
        have h2 : (cur.toList.take (xs.length * 1))[j]? = cur.toList[j]? := List.getElem?_take_of_lt (by omega)
        rw [← h2, hcur]; simp [nums, gt, hj]
      simpa using h1⟩
    infer_instance
/-- a grown slice that is not empty is a row of one's own -/
theorem Row.own {w : World} {v : Value} {xs : List Int} (h : Row w v 3 (nums xs)) (hp : 0 < xs.length) : ∃ g cap, v = .slice (some ⟨g, 0, none⟩) xs.length cap ∧ xs.length ≤ cap ∧ Own w g xs := by
  rcases h.out.2 with ⟨rfl, hn⟩ | ⟨g, cap, cur, rfl, _, hh, hc, _, hsz, hcur⟩
  · rw [nums_length] at hn; omega
  · rw [nums_length] at hc hcur ⊢
    refine ⟨g, cap, rfl, hc, ⟨⟨(cur.toList.drop xs.length).toArray, ?_⟩⟩⟩
    rw [hh]
    congr 2
    apply Array.ext'
    rw [Array.toList_append]
    have : (ints xs).toList = cur.toList.take (xs.length * 1) := by rw [hcur]; simp [ints, nums]
    rw [this]; simp
theorem Own.take {w : World} {g : Nat} {xs : List Int} (h : Own w g xs) (m : Nat) : Rd w ⟨g, 0, none⟩ (xs.take m) := ⟨fun j hj => by
  simp only [List.length_take] at hj
  rw [add_plain, own_cell h (by omega), gt_take (by omega)]⟩
theorem Own.row {w : World} {g : Nat} {xs : List Int} (h : Own w g xs) : ∃ cap, ∀ n, n = xs.length → Row w (.slice (some ⟨g, 0, none⟩) n cap) 3 (nums xs) ∨ maxLen < cap := by
  obtain ⟨sp, e⟩ := h.out
  refine ⟨(ints xs ++ sp).size, fun n hn => ?_⟩
  subst hn
  by_cases hm : (ints xs ++ sp).size ≤ maxLen
  · refine .inl ⟨⟨by simp, .inr ⟨g, _, _, by rw [nums_length], Nat.zero_le _, e, by simp [nums, ints], hm, by simp, ?_⟩⟩⟩
    rw [Array.toList_append, nums_length]; simp [ints, nums]
  · exact .inr (by omega)

/-! ### a world with another count of draws, written out -/
instance bel_mk {w0 w : World} {d : Nat} [h : Bel w0 w] : Bel w0 ⟨w.heap, w.tape, d, w.os, w.output⟩ := ⟨⟨h.out.os, h.out.tape, h.out.output, h.out.size, h.out.block⟩⟩
instance near_mk {wX w : World} {B d : Nat} [h : Near B wX w] : Near B wX ⟨w.heap, w.tape, d, w.os, w.output⟩ := ⟨⟨h.out.os, h.out.tape, h.out.output, h.out.size, h.out.block⟩⟩
instance bx_mk {w : World} {d b : Nat} {cs : Array Value} {t : TypeId} [h : Bx w b cs t] : Bx ⟨w.heap, w.tape, d, w.os, w.output⟩ b cs t := ⟨h.out⟩
instance own_mk {w : World} {d b : Nat} {xs : List Int} [h : Own w b xs] : Own ⟨w.heap, w.tape, d, w.os, w.output⟩ b xs := ⟨h.out⟩
instance cel_mk {w : World} {d : Nat} {a : Addr} {v : Value} [h : Cel w a v] : Cel ⟨w.heap, w.tape, d, w.os, w.output⟩ a v := ⟨h.out⟩
instance rd_mk {w : World} {d : Nat} {ad : Addr} {xs : List Int} [h : Rd w ad xs] : Rd ⟨w.heap, w.tape, d, w.os, w.output⟩ ad xs := ⟨h.out⟩
instance sl_mk {w : World} {d : Nat} {A : Option Addr} {xs : List Int} [h : Sl w A xs] : Sl ⟨w.heap, w.tape, d, w.os, w.output⟩ A xs := ⟨fun ad e => ⟨(h.rd ad e).out⟩, h.nn⟩
instance row_mk {w : World} {d : Nat} {v : Value} {e : TypeId} {cs : List Value} [h : Row w v e cs] : Row ⟨w.heap, w.tape, d, w.os, w.output⟩ v e cs := ⟨h.out⟩

section
variable {P : Program} {ops : Array Oper} {rest : List Oper} {o : Oper} {a : Act} {Q : Exit → Act → World → Prop}
/-- append(v, ys...), v a row of one's own; ys read, nil let in -/
theorem app_row {W : World} (hgd : o.guard = none) (s x : Operand) (t e : TypeId) (z : Value) (bytes : Nat)
    (ho : o.op = .call { callee := .builtin .append, args := #[s, x], argTypes := #[t, t] })
    (ht : P.underlying t = some (.slice e)) (hinfo : (P.info? e).map (fun i => (i.zero, i.size, i.bytes)) = some (some z, 1, bytes)) (hzc : z.cells.size = 1) (hb0 : 0 < bytes)
    (v : Value) (xs ys : List Value) (A : Option Addr) (m c : Nat) (hs : a.eval s = v) (hx : a.eval x = .slice A m c)
    (hr : Row W v e xs) (hm : ys.length = m) (hy : ∀ j u, ys[j]? = some u → ∃ ad, A = some ad ∧ W.cell? (ad.add j) = some u) (h1 : ∀ u ∈ ys, u.oneCell' = true)
    (hl : (xs.length + m) * bytes ≤ 140737488355328)
    (h : ∀ v1 w1, Row w1 v1 e (xs ++ ys) → Chg v W w1 → (v1.ownBlock = v.ownBlock ∨ v1.ownBlock = some W.heap.size) → wpList P ops Q rest (a.put o.dst v1) w1) :
    wpList P ops Q (o :: rest) a W := by
  obtain ⟨i0, hi, hzz⟩ := Option.map_eq_some_iff.1 hinfo
  simp only [Prod.mk.injEq] at hzz
  obtain ⟨hz0, hz1, hz2⟩ := hzz
  have hlen : xs.length + m ≤ 140737488355328 := Nat.le_trans (Nat.le_mul_of_pos_right _ hb0) hl
  have hrun : ∃ v1 w1, (Builtin.append_ #[t, t] o.type #[v, .slice A m c]).run P W = .ok v1 w1 ∧ w1.ownsRow 0 e 1 v1 (xs ++ ys).length (xs ++ ys) ∧ W.grownBy w1 v.ownBlock ∧ (v1.ownBlock = v.ownBlock ∨ v1.ownBlock = some W.heap.size) := by
    rcases A with _ | ad
    · have h0 : ys = [] := by
        cases ys with
        | nil => rfl
        | cons y ys => obtain ⟨_, h, _⟩ := hy 0 y rfl; cases h
      subst h0
      obtain rfl : m = 0 := by simpa using hm.symm
      refine ⟨v, W, ?_, by simpa using hr.out, World.grownBy.refl W _, .inl rfl⟩
      rcases hr.out.2 with ⟨rfl, hn⟩ | ⟨g, cap, cur, rfl, _, _, hnc, _⟩
      · simp [Builtin.append_, run_underlying ht, sizeOf, typeInfo, hi, Builtin.lenOf, Builtin.firstCells]
      · simp [Builtin.append_, run_underlying ht, sizeOf, typeInfo, hi, Builtin.lenOf, Builtin.firstCells, hnc, storeCells]
    · obtain ⟨v1, w1, hr, h2, h3, _, h5⟩ := run_append_own_at (P := P) W 0 t o.type e i0 z 1 bytes ht hi hz0 hz1 hz2 hzc (by omega) v xs.length xs hr.out ad m c ys (by simp [hm])
        (fun j u hu => by obtain ⟨ad', e', hc⟩ := hy j u hu; cases e'; exact hc) h1 (by simp only [maxLen]; omega) hl (Nat.zero_le _)
      exact ⟨v1, w1, hr, by simpa [hm] using h2, h3, h5⟩
  obtain ⟨v1, w1, hr', hown, hg, hat⟩ := hrun
  refine wpList_plain hgd fun K hK => ?_
  unfold Oper.wp execOp
  simp only [ho, resolve, invoke, builtin, Sem.run_bind, Sem.run_pure, Result.andThen_ok, List.map_toArray, List.map_cons, List.map_nil, hs, hx, hr']
  exact hK _ _ (h v1 w1 ⟨hown⟩ ⟨hg⟩ hat)
end
/-- append(v, y), y a whole number, behind its box -/
theorem app_int {ops : Array Oper} {rest : List Oper} {o : Oper} {a : Act} {Q : Exit → Act → World → Prop} {W : World} (hgd : o.guard = none) (s x : Operand)
    (ho : o.op = .call { callee := .builtin .append, args := #[s, x], argTypes := #[22, 22] })
    (v : Value) (xs : List Int) (y : Int) (g : Nat) (hs : a.eval s = v) (hx : a.eval x = .slice (some ⟨g, 0, none⟩) 1 1)
    [hr : Row W v 3 (nums xs)] [hb : Bx W g #[.int .i64 y] 3] (hl : xs.length ≤ 10000000000)
    (h : ∀ v1 w1, Row w1 v1 3 (nums (xs ++ [y])) → Chg v W w1 → (v1.ownBlock = v.ownBlock ∨ v1.ownBlock = some W.heap.size) → wpList Try.prog ops Q rest (a.put o.dst v1) w1) :
    wpList Try.prog ops Q (o :: rest) a W := by
  refine app_row hgd s x 22 3 (.int .i64 0) 8 ho Try.underlying22 info_int rfl (by omega) v (nums xs) [.int .i64 y] _ 1 1 hs hx hr rfl (fun j u hu => ?_) (fun u hu => ?_) (by rw [nums_length]; omega) fun v1 w1 h1 h2 h3 => h v1 w1 (by rw [nums_append]; exact h1) h2 h3
  · refine ⟨_, rfl, ?_⟩
    cases j with
    | zero => simp at hu; subst hu; rw [add_plain, blk_cell hb.out]; rfl
    | succ j => simp at hu
  · simp at hu; subst hu; rfl
/-- append(v, ys...), whole numbers -/
theorem app_ints {ops : Array Oper} {rest : List Oper} {o : Oper} {a : Act} {Q : Exit → Act → World → Prop} {W : World} (hgd : o.guard = none) (s x : Operand)
    (ho : o.op = .call { callee := .builtin .append, args := #[s, x], argTypes := #[22, 22] })
    (v : Value) (xs ys : List Int) (A : Option Addr) (m c : Nat) (hs : a.eval s = v) (hx : a.eval x = .slice A m c) (hm : ys.length = m)
    [hr : Row W v 3 (nums xs)] [hy : Sl W A ys] (hl : (xs.length + m) * 8 ≤ 140737488355328)
    (h : ∀ v1 w1, Row w1 v1 3 (nums (xs ++ ys)) → Chg v W w1 → (v1.ownBlock = v.ownBlock ∨ v1.ownBlock = some W.heap.size) → wpList Try.prog ops Q rest (a.put o.dst v1) w1) :
    wpList Try.prog ops Q (o :: rest) a W := by
  refine app_row hgd s x 22 3 (.int .i64 0) 8 ho Try.underlying22 info_int rfl (by omega) v (nums xs) (nums ys) A m c hs hx hr (by rw [nums_length]; exact hm) (fun j u hu => ?_) (fun u hu => ?_) (by rw [nums_length]; exact hl) fun v1 w1 h1 h2 h3 => h v1 w1 (by rw [nums_append]; exact h1) h2 h3
  · have hj : j < ys.length := by
      rcases Nat.lt_or_ge j ys.length with h | h
      · exact h
      · simp [nums, List.getElem?_eq_none h] at hu
    obtain ⟨ad, e, hrd⟩ := hy.at_ hj
    refine ⟨ad, e, ?_⟩
    simp [nums, List.getElem?_eq_getElem hj] at hu
    rw [hrd.out j hj, gt_eq hj, hu]
  · simp only [nums, List.mem_map] at hu; obtain ⟨q, _, rfl⟩ := hu; rfl

end Go.Proofs.Ytcigdhmecfhndaa

/- More words: rows of truth values; a field's pointer; slices of slices. -/
import Derived.Test.YtcigdhmecfhndaaLib
import Derived.Test.YtcigdhmecfhndaaBase
namespace Go.Proofs.Ytcigdhmecfhndaa
open Go.RowKit

instance size_set {w : World} {p : Addr} {u : Value} {n : Nat} [h : SizeIs w n] : SizeIs (w.setCell p u) n := ⟨by rw [← h.out]; simp [World.setCell]⟩
instance lo_bx {w : World} {b : Nat} {cs : Array Value} {t : TypeId} [h : Bx w b cs t] : Lo b w.heap.size := ⟨blk_lt h.out⟩
instance lo_own {w : World} {b : Nat} {xs : List Int} [h : Own w b xs] : Lo b w.heap.size := ⟨by obtain ⟨sp, e⟩ := h.out; exact blk_lt e⟩
def lenOf : Value → Nat | .slice _ n _ => n | _ => 0

theorem eql_nil_int (a : Option Addr) (n c : Nat) (w : World) : (binOp .eql 22 (.slice a n c) (.slice none 0 0)).run Try.prog w = .ok (.bool a.isNone) w := Lib.run_eql_slice_nil w 22 3 a n c 0 0 Try.underlying22
/-! ### rows of truth values -/
def bools (xs : List Bool) : Array Value := (xs.map Value.bool).toArray
def gb (xs : List Bool) (k : Nat) : Bool := xs.getD k false
theorem bools_get (xs : List Bool) (k : Nat) (h : k < xs.length) : (bools xs)[k]? = some (.bool (gb xs k)) := by simp [bools, gb, h]
theorem bools_set (xs : List Bool) (i : Nat) (x : Bool) : (bools xs).setIfInBounds i (.bool x) = bools (xs.set i x) := by simp [bools, List.map_set]
class OwnB (w : World) (b : Nat) (xs : outParam (List Bool)) : Prop where out : w.heap[b]? = some (.cells (bools xs) 4 (0, 0))
instance ownb_new {w : World} {n : Nat} {xs : List Bool} [h : SizeIs w n] : OwnB (w.alloc (.cells (bools xs) 4 (0, 0))) n xs := ⟨by rw [← h.out]; exact blk_new _ _⟩
instance ownb_alloc {w : World} {b : Nat} {xs : List Bool} {o' : Obj} [h : OwnB w b xs] : OwnB (w.alloc o') b xs := ⟨blk_alloc h.out o'⟩
instance ownb_drew {w : World} {b : Nat} {xs : List Bool} [h : OwnB w b xs] : OwnB w.drew b xs := ⟨h.out⟩
instance ownb_ext {w w' : World} {b : Nat} {xs : List Bool} [e : Ext w w'] [h : OwnB w b xs] : OwnB w' b xs := ⟨blk_below h.out e.out⟩
instance ownb_far {w : World} {b g k : Nat} {xs : List Bool} {u : Value} [h : OwnB w b xs] [n : Apart b g] : OwnB (w.setCell ⟨g, k, none⟩ u) b xs := ⟨blk_far h.out (p := ⟨g, k, none⟩) n.out u⟩
instance ownb_set {w : World} {g k : Nat} {xs : List Bool} {x : Bool} [h : OwnB w g xs] : OwnB (w.setCell ⟨g, k, none⟩ (.bool x)) g (xs.set k x) := ⟨by
  rw [blk_set h.out k]; simp [bools, List.map_set]⟩
instance ownb_chg {w w' : World} {v : Value} {b : Nat} {xs : List Bool} {vs : List Value} {e : TypeId} [c : Chg v w w'] [h : OwnB w b xs] [r : Row w v e vs] [n : TNe 4 e] : OwnB w' b xs := ⟨(bx_chg (w := w) (w' := w') (v := v) (b := b) (cs := bools xs) (t := 4) (h := ⟨h.out⟩)).out⟩
theorem cell_ownb {w : World} {b k : Nat} {xs : List Bool} [h : OwnB w b xs] (hk : k < xs.length) : w.cell? ⟨b, k, none⟩ = some (.bool (gb xs k)) := by
  rw [blk_cell h.out]; exact bools_get _ _ hk
theorem froz_ownb {w : World} {b k : Nat} {xs : List Bool} [h : OwnB w b xs] : w.frozen? ⟨b, k, none⟩ = false := blk_frozen h.out k
theorem info_bool : (Try.prog.info? 4).map (fun i => (i.zero, i.size, i.bytes)) = some (some (.bool false), 1, 1) := by kernel_rfl
theorem madeCells_bool (n : Nat) : madeCells #[Value.bool false] n = bools (List.replicate n false) := by
  apply Array.ext'
  rw [toList_madeCells_one]; simp [bools]
theorem mk_bool (n : Nat) (hn : n ≤ 35184372088832) (w : World) : (Instr.makeSlice 160 (.int .i64 (n : Int)) (.int .i64 (n : Int))).run Try.prog w = .ok (.slice (some ⟨w.heap.size, 0, none⟩) n n) (w.alloc (.cells (bools (List.replicate n false)) 4)) := by
  obtain ⟨i0, hi, hz0, hz1, hz2⟩ := info_parts info_bool
  have := run_make (P := Try.prog) w 160 4 i0 (.bool false) Try.underlying160 hi hz0 .i64 .i64 n n (by omega) (Int.le_refl _) (by rw [hz2]; omega) (by omega)
  rw [this, hz1]
  simp [Value.cells, madeCells_bool]
instance tne_bi : TNe 4 3 := ⟨by decide⟩
instance tne_fi : TNe 24 3 := ⟨by decide⟩

/-! ### an append inside a region that draws its order -/
class LoV (B : Nat) (v : Value) : Prop where out : ∀ g, v.ownBlock = some g → B ≤ g
instance lov_own {B g n c : Nat} [l : Lo B (g + 1)] : LoV B (.slice (some ⟨g, 0, none⟩) n c) := ⟨fun k h => by
  obtain rfl : g = k := by simpa [Value.ownBlock] using h
  exact Nat.le_of_lt_succ l.out⟩
instance lov_nil {B : Nat} : LoV B (.slice none 0 0) := ⟨fun g h => by simp [Value.ownBlock] at h⟩
instance near_chg {B : Nat} {wX w w' : World} {v : Value} [c : Chg v w w'] [h : Near B wX w] [l : LoV B v] [f : Lo B (wX.heap.size + 1)] : Near B wX w' := ⟨h.out.grown c.out (Nat.le_trans (Nat.le_of_lt_succ f.out) h.out.size) fun k e => l.out k e⟩
instance row_mk2 {w : World} {d : Nat} {v : Value} {e : TypeId} {cs : List Value} [h : Row w v e cs] : Row ⟨w.heap, w.tape, d, w.os, w.output⟩ v e cs := ⟨h.out⟩
theorem app_ints_run {ty : TypeId} {W : World} (v : Value) (xs ys : List Int) (A : Option Addr) (m c : Nat) (hm : ys.length = m) (hr : Row W v 3 (nums xs)) (hy : Sl W A ys) (hl : (xs.length + m) * 8 ≤ 140737488355328) :
    ∃ v1 w1, (Builtin.append_ #[22, 22] ty #[v, .slice A m c]).run Try.prog W = .ok v1 w1 ∧ Row w1 v1 3 (nums (xs ++ ys)) ∧ Chg v W w1 ∧ (v1.ownBlock = v.ownBlock ∨ v1.ownBlock = some W.heap.size) := by
  obtain ⟨i0, hi, hz0, hz1, hz2⟩ := info_parts info_int
  have ht := Try.underlying22
  rcases A with _ | ad
  · have h0 : ys = [] := by
      cases ys with
      | nil => rfl
      | cons y ys => obtain ⟨_, h⟩ := hy.nn (by simp); cases h
    subst h0
    obtain rfl : m = 0 := by simpa using hm.symm
    refine ⟨v, W, ?_, by simpa using hr, ⟨World.grownBy.refl W _⟩, .inl rfl⟩
    rcases hr.out.2 with ⟨rfl, hn⟩ | ⟨g, cap, cur, rfl, _, _, hnc, _⟩
    · simp [Builtin.append_, run_underlying ht, sizeOf, typeInfo, hi, Builtin.lenOf, Builtin.firstCells]
    · simp [Builtin.append_, run_underlying ht, sizeOf, typeInfo, hi, Builtin.lenOf, Builtin.firstCells, hnc, storeCells]
  · obtain ⟨v1, w1, hrun, h2, h3, _, h5⟩ := run_append_own_at (P := Try.prog) W 0 22 ty 3 i0 (.int .i64 0) 1 8 ht hi hz0 hz1 hz2 rfl (by omega) v (nums xs).length (nums xs) hr.out ad m c (nums ys) (by simp [nums, hm])
      (fun j u hu => by
        have hj : j < ys.length := by
          rcases Nat.lt_or_ge j ys.length with h | h
          · exact h
          · simp [nums, List.getElem?_eq_none h] at hu
        simp [nums, List.getElem?_eq_getElem hj] at hu
        rw [(hy.rd ad rfl).out j hj, gt_eq hj, hu])
      (fun u hu => by simp only [nums, List.mem_map] at hu; obtain ⟨q, _, rfl⟩ := hu; rfl) (by simp only [maxLen, nums_length]; omega) (by rw [nums_length]; exact hl) (Nat.zero_le _)
    exact ⟨v1, w1, hrun, ⟨by rw [nums_append]; simpa [nums, hm] using h2⟩, ⟨h3⟩, h5⟩
theorem app_ints_step {ops : Array Oper} {o : Oper} {a : Act} {K : Act → World → Prop} {Q : Exit → Act → World → Prop} {E : Prop} {W : World} (hgd : o.guard = none) (s x : Operand)
    (ho : o.op = .call { callee := .builtin .append, args := #[s, x], argTypes := #[22, 22] })
    (v : Value) (xs ys : List Int) (A : Option Addr) (m c : Nat) (hs : a.eval s = v) (hx : a.eval x = .slice A m c) (hm : ys.length = m)
    [hr : Row W v 3 (nums xs)] [hy : Sl W A ys] (hl : (xs.length + m) * 8 ≤ 140737488355328)
    (h : ∀ v1 w1, Row w1 v1 3 (nums (xs ++ ys)) → Chg v W w1 → (v1.ownBlock = v.ownBlock ∨ v1.ownBlock = some W.heap.size) → K (a.put o.dst v1) w1) :
    if Region.wanted o (yielded ops a.tmps) = true then Oper.wp Try.prog o a W K Q else E := by
  have hw : Region.wanted o (yielded ops a.tmps) = true := by simp [Region.wanted, hgd]
  rw [if_pos hw]
  obtain ⟨v1, w1, hrun, h2, h3, h4⟩ := app_ints_run (ty := o.type) v xs ys A m c hm hr hy hl
  unfold Oper.wp execOp
  simp only [ho, resolve, invoke, builtin, Sem.run_bind, Sem.run_pure, Result.andThen_ok, List.map_toArray, List.map_cons, List.map_nil, hs, hx, hrun]
  exact h v1 w1 h2 h3 h4

/-- append([]T{}, ys...) inside such a region -/
theorem app0_step {ops : Array Oper} {o : Oper} {a : Act} {K : Act → World → Prop} {Q : Exit → Act → World → Prop} {E : Prop} {W : World} (hgd : o.guard = none) (s x : Operand)
    (ho : o.op = .call { callee := .builtin .append, args := #[s, x], argTypes := #[22, 22] })
    (g : Nat) (ys : List Int) (A : Option Addr) (m c : Nat) (hs : a.eval s = .slice (some ⟨g, 0, none⟩) 0 0) (hx : a.eval x = .slice A m c) (hm : ys.length = m)
    [hb : Bx W g #[] 3] [hy : Sl W A ys] (hl : m * 8 ≤ 140737488355328)
    (h : ∀ v1 w1, Row w1 v1 3 (nums ys) → Chg (.slice (some ⟨g, 0, none⟩) 0 0) W w1 → (v1.ownBlock = some g ∨ v1.ownBlock = some W.heap.size) → K (a.put o.dst v1) w1) :
    if Region.wanted o (yielded ops a.tmps) = true then Oper.wp Try.prog o a W K Q else E :=
  app_ints_step hgd s x ho _ [] ys A m c hs hx hm (by simpa using hl) fun v1 w1 h1 h2 h3 => h v1 w1 (by simpa using h1) h2 h3

end Go.Proofs.Ytcigdhmecfhndaa

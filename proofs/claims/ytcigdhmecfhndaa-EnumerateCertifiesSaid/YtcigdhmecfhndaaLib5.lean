/- Words for slices of slices that grow. -/
import Derived.Test.YtcigdhmecfhndaaLib4
namespace Go.Proofs.Ytcigdhmecfhndaa
open Go.RowKit

theorem Bel.then_ {w0 w1 w2 : World} (h : Bel w0 w1) (k : Bel w1 w2) : Bel w0 w2 := ⟨h.out.trans (k.out.mono h.out.size)⟩
theorem Fr.then_ {w0 w1 : World} {g : Nat} (h : Bel w0 w1) (k : Fr w1 g) : Fr w0 g := ⟨Nat.le_trans h.out.size k.out⟩
theorem FrV.then_ {w0 w1 : World} {v : Value} (h : Bel w0 w1) (k : FrV w1 v) : FrV w0 v := ⟨fun g e => Nat.le_trans h.out.size (k.out g e)⟩
/-- a grown row that is not nil is one's own -/
theorem Row.own2 {w : World} {v : Value} {xs : List Int} (h : Row w v 3 (nums xs)) {b : Nat} (hb : v.ownBlock = some b) : ∃ cap, v = .slice (some ⟨b, 0, none⟩) xs.length cap ∧ xs.length ≤ cap ∧ Own w b xs := by
  rcases h.out.2 with ⟨rfl, _⟩ | ⟨g, cap, cur, rfl, _, hh, hc, _, hsz, hcur⟩
  · cases hb
  · obtain rfl : g = b := by simpa [Value.ownBlock] using hb
    rw [nums_length] at hc hcur ⊢
    refine ⟨cap, rfl, hc, ⟨⟨(cur.toList.drop xs.length).toArray, ?_⟩⟩⟩
    rw [hh]
    congr 2
    apply Array.ext'
    rw [Array.toList_append]
    have : (ints xs).toList = cur.toList.take (xs.length * 1) := by rw [hcur]; simp [ints, nums]
    rw [this]; simp
/-- append(v, y), y a slice of whole numbers, behind its box -/
theorem app_slice {ops : Array Oper} {rest : List Oper} {o : Oper} {a : Act} {Q : Exit → Act → World → Prop} {W : World} (hgd : o.guard = none) (s x : Operand)
    (ho : o.op = .call { callee := .builtin .append, args := #[s, x], argTypes := #[25, 25] })
    (v : Value) (cs : List Value) (B : Option Addr) (n c g : Nat) (hs : a.eval s = v) (hx : a.eval x = .slice (some ⟨g, 0, none⟩) 1 1)
    [hr : Row W v 22 cs] [hb : Bx W g #[.slice B n c] 22] (hl : cs.length ≤ 1000000000)
    (h : ∀ v1 w1, Row w1 v1 22 (cs ++ [.slice B n c]) → Chg v W w1 → (v1.ownBlock = v.ownBlock ∨ v1.ownBlock = some W.heap.size) → wpList Try.prog ops Q rest (a.put o.dst v1) w1) :
    wpList Try.prog ops Q (o :: rest) a W := by
  refine app_row hgd s x 25 22 (.slice none 0 0) 24 ho Try.underlying25 info_ints rfl (by omega) v cs [.slice B n c] _ 1 1 hs hx hr rfl (fun j u hu => ?_) (fun u hu => ?_) (by omega) fun v1 w1 h1 h2 h3 => h v1 w1 h1 h2 h3
  · refine ⟨_, rfl, ?_⟩
    cases j with
    | zero => simp at hu; subst hu; rw [add_plain, blk_cell hb.out]; rfl
    | succ j => simp at hu
  · simp at hu; subst hu; rfl

instance ownv_chg {w w' : World} {v : Value} {b : Nat} {e : TypeId} {cs : List Value} [c : Chg v w w'] [h : OwnV w b e cs] [n : ApV b v] : OwnV w' b e cs := ⟨h.out.imp fun _ k => (c.out.block b (blk_lt k) n.out).trans k⟩
/-- none of the rows is v's -/
def InnAp (cs : List Value) (v : Value) : Prop := ∀ (k g n c : Nat), k < cs.length → gv cs k = .slice (some ⟨g, 0, none⟩) n c → some g ≠ v.ownBlock
theorem InnAp.nil (cs : List Value) : InnAp cs (.slice none 0 0) := fun _ _ _ _ _ _ h => by simp [Value.ownBlock] at h
theorem InnAp.put {cs : List Value} {v : Value} (h : InnAp cs v) (k : Nat) {g n c : Nat} (hg : some g ≠ v.ownBlock) : InnAp (cs.set k (.slice (some ⟨g, 0, none⟩) n c)) v := fun j g' n' c' hj e => by
  rw [List.length_set] at hj
  by_cases hk : k < cs.length
  · rw [gv_set _ _ _ _ hk] at e
    by_cases ek : k = j
    · rw [if_pos ek] at e
      injection e with e; injection e with e; injection e with e; subst e; exact hg
    · rw [if_neg ek] at e; exact h j g' n' c' hj e
  · rw [List.set_eq_of_length_le (by omega)] at e; exact h j g' n' c' hj e
/-- the growth of a row that is none of theirs -/
theorem Inn.chg {w w' : World} {cs : List Value} {xss : List (List Int)} (h : Inn w cs xss) {v : Value} (c : Chg v w w') (a : InnAp cs v) : Inn w' cs xss := ⟨h.len, fun j hj => by
  obtain ⟨g, cap, h1, h2⟩ := h.out j hj
  have : ApV g v := ⟨a j g _ cap (by rw [h.len]; exact hj) h1⟩
  exact ⟨g, cap, h1, inferInstance⟩⟩
theorem InnAp.app {w : World} {cs : List Value} {xss : List (List Int)} {v v1 : Value} (h : InnAp cs v) (i : Inn w cs xss) (hv : v1.ownBlock = v.ownBlock ∨ v1.ownBlock = some w.heap.size) : InnAp cs v1 := fun k g n c hk e => by
  rcases hv with hv | hv
  · rw [hv]; exact h k g n c hk e
  · rw [hv]
    obtain ⟨g', c', h1, h2⟩ := i.out k (by rw [← i.len]; exact hk)
    rw [e] at h1
    injection h1 with h1; injection h1 with h1; injection h1 with h1; subst h1
    have := (lo_own (h := h2)).out
    intro he; injection he with he; omega

/-- Below block B the world is as wX, but for block g. -/
class NearX (g : outParam Nat) (B : outParam Nat) (wX : outParam World) (w' : World) : Prop where
  size : wX.heap.size ≤ w'.heap.size
  out : ∀ b, b < B → b ≠ g → w'.heap[b]? = wX.heap[b]?
theorem NearX.refl (g B : Nat) (w : World) : NearX g B w w := ⟨Nat.le_refl _, fun _ _ _ => rfl⟩
instance nearx_drew {g B : Nat} {wX w : World} [h : NearX g B wX w] : NearX g B wX w.drew := ⟨h.size, h.out⟩
instance nearx_mk {wX w : World} {g B d : Nat} [h : NearX g B wX w] : NearX g B wX ⟨w.heap, w.tape, d, w.os, w.output⟩ := ⟨h.size, h.out⟩
instance nearx_set {g B k : Nat} {wX w : World} {u : Value} [h : NearX g B wX w] : NearX g B wX (w.setCell ⟨g, k, none⟩ u) := ⟨by simp [World.setCell]; exact h.size, fun b hb hne => by
  rw [← h.out b hb hne]; exact Below.heap_setCell w ⟨g, k, none⟩ u b hne⟩
instance nearx_ext {g B : Nat} {wX w w' : World} [e : Ext w w'] [h : NearX g B wX w] [f : Lo B (wX.heap.size + 1)] : NearX g B wX w' := ⟨Nat.le_trans h.size e.out.size, fun b hb hne => by
  rw [← h.out b hb hne]; exact e.out.block b (by have := f.out; have := h.size; omega)⟩
instance nearx_alloc {g B : Nat} {wX w : World} {o : Obj} [h : NearX g B wX w] [f : Lo B (wX.heap.size + 1)] : NearX g B wX (w.alloc o) := ⟨by rw [World.size_alloc]; have := h.size; omega, fun b hb hne => by
  rw [← h.out b hb hne]; exact Below.heap_alloc w o b (by have := f.out; have := h.size; omega)⟩
instance bx_nearx {w w' : World} {g B b : Nat} {cs : Array Value} {t : TypeId} [e : NearX g B w w'] [h : Bx w b cs t] [l : Lo b B] [a : Apart b g] : Bx w' b cs t := ⟨(e.out b l.out a.out).trans h.out⟩
instance own_nearx {w w' : World} {g B b : Nat} {xs : List Int} [e : NearX g B w w'] [h : Own w b xs] [l : Lo b B] [a : Apart b g] : Own w' b xs := ⟨h.out.imp fun _ k => (e.out b l.out a.out).trans k⟩

end Go.Proofs.Ytcigdhmecfhndaa

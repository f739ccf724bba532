/- The arguments of this seat's laws, opened: what a code, a row of numbers, a list of rows reads as. -/
import Derived.Test.YtcigdhmecfhndaaRows
import Derived.Test.YtcigdhmecfhndaaLib6
import Derived.ProofKit
import Derived.OpenShut
import Derived.ChangeOld
import Derived.Below
import Derived.Carry
import Derived.SizedLaws
import Derived.Deep.Slices
namespace Go.Proofs.Ytcigdhmecfhndaa
open Go.ChangeShapes Go.WideShapes Go.ChangeAt Go.RowKit
set_option linter.unusedVariables false

theorem row_own : ownKnob Try.prog.godebug = none := by kernel_rfl
theorem row_laid : laidOutB Try.prog = true := by kernel_rfl
theorem row_c_int : Try.prog.cellsOf 3 = 1 := by kernel_rfl
theorem row_c_ints : Try.prog.cellsOf 22 = 1 := by kernel_rfl
theorem row_c_rows : Try.prog.cellsOf 25 = 1 := by kernel_rfl
theorem row_c_field : Try.prog.cellsOf 24 = 3 := by kernel_rfl
theorem row_c_code : Try.prog.cellsOf 27 = 5 := by kernel_rfl
theorem row_b_int : Try.prog.bytesOf 3 = 8 := by kernel_rfl
theorem row_b_ints : Try.prog.bytesOf 22 = 24 := by kernel_rfl

section
variable {H : Type} {enc : TypeId × Value → H} {W : World}

theorem weightsAll_in {P : Program} {e : TypeId} : ∀ {l : List (DataW H)} {d : DataW H}, d ∈ l → ∀ n ∈ d.weights P e, n ∈ DataW.weightsAll P e l
  | d' :: r, d, hd, n, hn => by
    simp only [DataW.weightsAll, List.mem_append]
    rcases List.mem_cons.1 hd with rfl | h
    · exact Or.inl hn
    · exact Or.inr (weightsAll_in h n hn)

/-- nothing in d is beyond the reach -/
def Fits (P : Program) (t : TypeId) (d : DataW H) : Prop := ∀ n ∈ d.weights P t, n ≤ reachBytes

theorem read_ints {fuel : Nat} {v : Value} {x : DataW H × List MemPlace} (h : DataW.trod enc Try.prog W 0 (fun _ => true) true fuel 22 [v] = some x) (hw : Fits Try.prog 22 x.1) :
    ∃ (A : Option Addr) (len cap : Nat) (xs : List Int), v = .slice A len cap ∧ xs.length = len ∧ len ≤ 1000000000000000000 ∧ Sl W A xs := by
  rcases open_ints Try.underlying22 Try.underlying3 row_c_int h with ⟨hcs, hx⟩ | ⟨a, len, cap, zs, hcs, _, hl, hm, hz, hx, hcell, hwz⟩
  · simp only [List.cons.injEq, and_true] at hcs
    exact ⟨none, 0, 0, [], hcs, rfl, by omega, ⟨fun _ e => (by cases e), fun h => absurd h (by simp)⟩⟩
  · simp only [List.cons.injEq, and_true] at hcs
    have hz' : zs.length = cap := by simpa using hz
    have hb : ((lits .i64 (zs.take len) : List (DataW H)).length + (lits .i64 (zs.drop len) : List (DataW H)).length) * Try.prog.bytesOf 3 ≤ reachBytes := by
      refine hw _ ?_
      rw [hx]
      simp [DataW.weights, Try.underlying22]
    rw [row_b_int] at hb
    simp only [lits, List.length_map, List.length_take, List.length_drop, reachBytes] at hb
    refine ⟨some a, len, cap, zs.take len, hcs, by simp; omega, by omega, ⟨fun ad e => ?_, fun _ => ⟨a, rfl⟩⟩⟩
    cases e
    exact ⟨fun j hj => by
      rw [List.length_take] at hj
      rw [hcell j (by omega)]
      simp [gt, List.getElem?_take_of_lt (show j < len by omega)]⟩

theorem read_rows {fuel : Nat} {v : Value} {x : DataW H × List MemPlace} (h : DataW.trod enc Try.prog W 0 (fun _ => true) true fuel 25 [v] = some x) (hw : Fits Try.prog 25 x.1) :
    ∃ (A : Option Addr) (len cap : Nat) (rows : List (List Int)), v = .slice A len cap ∧ rows.length = len ∧ len ≤ 1000000000000000000 ∧ (∀ k, (gr rows k).length ≤ 1000000000000000000) ∧ Sls W A rows := by
  rcases Go.Deep.open_slice1 Try.underlying25 row_c_ints h with ⟨hcs, hx⟩ | ⟨a, len, cap, m, n, V, D, Pl, hcs, _, hl, hm, hmm, hx, hV⟩
  · simp only [List.cons.injEq, and_true] at hcs
    exact ⟨none, 0, 0, [], hcs, rfl, by omega, fun k => by simp [gr], ⟨fun _ e => (by cases e), fun h => absurd h (by simp)⟩⟩
  · simp only [List.cons.injEq, and_true] at hcs
    have hm2 : m = cap := by simpa using hmm
    subst hm2
    have hb : (((List.range len).map D).length + ((List.range (m - len)).map fun j => D (len + j)).length) * Try.prog.bytesOf 22 ≤ reachBytes := by
      refine hw _ ?_
      rw [hx]
      simp [DataW.weights, Try.underlying25]
    rw [row_b_ints] at hb
    simp only [List.length_map, List.length_range, reachBytes] at hb
    have each : ∀ i, i < len → ∃ (q : Option Addr × Nat × List Int), V i = .slice q.1 q.2.2.length q.2.1 ∧ q.2.2.length ≤ 1000000000000000000 ∧ Sl W q.1 q.2.2 := fun i hi => by
      obtain ⟨h1, h2⟩ := hV i (by omega)
      obtain ⟨A, l, c, xs, e1, e2, e3, e4⟩ := read_ints h2 (fun k hk => hw k (by
        rw [hx]
        simp only [DataW.weights, Try.underlying25, List.mem_cons, List.mem_append]
        exact .inr (.inl (weightsAll_in (List.mem_map.2 ⟨i, List.mem_range.2 hi, rfl⟩) k hk))))
      exact ⟨(A, c, xs), by rw [e2]; exact e1, by rw [e2]; exact e3, e4⟩
    obtain ⟨f, hf⟩ := Go.Deep.choose_lt each
    have hg : ∀ i, i < len → gr ((List.range len).map fun i => (f i).2.2) i = (f i).2.2 := fun i hi => by simp [gr, hi]
    refine ⟨some a, len, m, (List.range len).map fun i => (f i).2.2, hcs, by simp, by omega, fun k => ?_, ⟨fun ad e j hj => ?_, fun _ => ⟨a, rfl⟩⟩⟩
    · by_cases hk : k < len
      · rw [hg k hk]; exact (hf k hk).2.1
      · rw [gr_out (by simp; omega)]; simp
    · cases e
      have hj' : j < len := by simpa using hj
      obtain ⟨e1, e2, e3⟩ := hf j hj'
      refine ⟨(f j).1, (f j).2.1, ?_, ?_⟩
      · rw [(hV j (by omega)).1, e1, hg j hj']
      · rw [hg j hj']; exact e3

theorem fits_field {t : TypeId} {fs : Array Field} {xs : List (DataW H × List MemPlace)} (hu : Try.prog.underlying t = some (.struct fs)) (h : Fits Try.prog t (DataW.agg (xs.map (·.1)))) {i : Nat} {f : Field} {y : DataW H × List MemPlace} (hf : fs[i]? = some f) (hy : xs[i]? = some y) : Fits Try.prog f.type y.1 := fun n hn => by
  refine h n ?_
  simp only [DataW.weights, hu]
  exact DataW.weights_mem_each (j := i) (by simp [hf]) (by simp [hy]) n hn

theorem code_fields : ∃ fs : Array Field, Try.prog.underlying 27 = some (.struct fs) ∧ fs.size = 3 ∧ (∃ f, fs[0]? = some f ∧ f.type = 24 ∧ f.offset = 0) ∧ (∃ f, fs[1]? = some f ∧ f.type = 3 ∧ f.offset = 3) ∧ (∃ f, fs[2]? = some f ∧ f.type = 25 ∧ f.offset = 4) :=
  ⟨_, Try.underlying27, rfl, ⟨_, rfl, rfl, rfl⟩, ⟨_, rfl, rfl, rfl⟩, ⟨_, rfl, rfl, rfl⟩⟩
theorem field_fields : ∃ fs : Array Field, Try.prog.underlying 24 = some (.struct fs) ∧ fs.size = 3 ∧ (∃ f, fs[0]? = some f ∧ f.type = 3 ∧ f.offset = 0) ∧ (∃ f, fs[1]? = some f ∧ f.type = 3 ∧ f.offset = 1) ∧ (∃ f, fs[2]? = some f ∧ f.type = 22 ∧ f.offset = 2) :=
  ⟨_, Try.underlying24, rfl, ⟨_, rfl, rfl, rfl⟩, ⟨_, rfl, rfl, rfl⟩, ⟨_, rfl, rfl, rfl⟩⟩

set_option maxRecDepth 100000 in
theorem read_code {v : Value} {d : DataW H} {p : List MemPlace} {b : Nat} (hv : Value.okWide Try.prog W .any b 27 v) (h : DataW.Trod enc Try.prog W 0 (fun _ => true) true 27 v d p) (hw : Fits Try.prog 27 d) :
    ∃ (F : Fd) (A : Option Addr) (n c : Nat) (rows : List (List Int)) (Ar : Option Addr) (nr cr : Nat) (N : Int),
      v = .agg #[.int .i64 F.p, .int .i64 F.m, .slice A n c, .int .i64 N, .slice Ar nr cr] ∧ F.md.length = n ∧ n ≤ 1000000000000000000 ∧ rows.length = nr ∧ nr ≤ 1000000000000000000 ∧ (∀ k, (gr rows k).length ≤ 1000000000000000000) ∧ Sl W A F.md ∧ Sls W Ar rows := by
  obtain ⟨fs, hu, hs, ⟨f0, e0, t0, o0⟩, ⟨f1, e1, t1, o1⟩, ⟨f2, e2, t2, o2⟩⟩ := code_fields
  obtain ⟨cs, rfl, hsz⟩ := okWide_struct hu hv
  rw [row_c_code] at hsz
  obtain ⟨l⟩ := cs
  match l, hsz with
  | [c0, c1, c2, c3, c4], _ =>
    obtain ⟨fuel, hf⟩ := h
    obtain ⟨xs, m, _, hx, _, hlen, hi⟩ := DataW.trod_struct hu hf
    simp only [Prod.mk.injEq] at hx
    rw [hx.1] at hw
    rw [hs] at hlen
    match xs, hlen with
    | [y0, y1, y2], _ =>
      have w0 := fits_field hu hw (i := 0) e0 rfl
      have w2 := fits_field hu hw (i := 2) e2 rfl
      have g0 := hi 0 f0 e0
      have g1 := hi 1 f1 e1
      have g2 := hi 2 f2 e2
      rw [t0] at w0
      rw [t2] at w2
      rw [t0, o0, row_c_field] at g0
      rw [t1, o1, row_c_int] at g1
      rw [t2, o2, row_c_rows] at g2
      simp only [Value.cells, List.drop_zero, List.drop_succ_cons, List.take_succ_cons, List.take_zero, List.getElem?_cons_zero, List.getElem?_cons_succ] at g0 g1 g2
      obtain ⟨gs, gu, gsz, ⟨h0, a0, b0, r0⟩, ⟨h1, a1, b1, r1⟩, ⟨h2, a2, b2, r2⟩⟩ := field_fields
      obtain ⟨zs, m2, _, hx2, _, hlen2, hi2⟩ := DataW.trod_struct gu g0
      rw [hx2] at w0
      rw [gsz] at hlen2
      match zs, hlen2 with
      | [z0, z1, z2], _ =>
        have u2 := fits_field gu w0 (i := 2) a2 rfl
        have k0 := hi2 0 h0 a0
        have k1 := hi2 1 h1 a1
        have k2 := hi2 2 h2 a2
        rw [b2] at u2
        rw [b0, r0, row_c_int] at k0
        rw [b1, r1, row_c_int] at k1
        rw [b2, r2, row_c_ints] at k2
        simp only [List.drop_zero, List.drop_succ_cons, List.take_succ_cons, List.take_zero, List.getElem?_cons_zero, List.getElem?_cons_succ] at k0 k1 k2
        obtain ⟨a, e0, _, _⟩ := DataW.trod_int Try.underlying3 k0
        obtain ⟨b, e1, _, _⟩ := DataW.trod_int Try.underlying3 k1
        obtain ⟨N, e3, _, _⟩ := DataW.trod_int Try.underlying3 g1
        simp only [List.cons.injEq, and_true] at e0 e1 e3
        obtain ⟨A, n, c, md, e2, q1, q2, q3⟩ := read_ints k2 u2
        obtain ⟨Ar, nr, cr, rows, e4, r1, r2, r3, r4⟩ := read_rows g2 w2
        exact ⟨⟨a, b, md⟩, A, n, c, rows, Ar, nr, cr, N, by rw [e0, e1, e2, e3, e4], q1, q2, r1, r2, r3, q3, r4⟩
end

theorem fits_at {H : Type} {P : Program} {ts : List TypeId} {ds : List (DataW H)} (h : (DataW.weightsEach P ts ds).all (· ≤ reachBytes) = true) {j : Nat} {t : TypeId} {d : DataW H} (ht : ts[j]? = some t) (hd : ds[j]? = some d) : Fits P t d := fun n hn => by
  simpa using List.all_eq_true.1 h n (DataW.weights_mem_each ht hd n hn)

end Go.Proofs.Ytcigdhmecfhndaa

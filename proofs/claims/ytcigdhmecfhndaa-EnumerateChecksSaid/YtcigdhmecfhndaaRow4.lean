/- More arguments opened: a tally. -/
import Derived.Test.YtcigdhmecfhndaaRow3
namespace Go.Proofs.Ytcigdhmecfhndaa
open Go.ChangeShapes Go.WideShapes Go.ChangeAt Go.RowKit
set_option linter.unusedVariables false
set_option maxRecDepth 100000

theorem row_c_bool : Try.prog.cellsOf 4 = 1 := by kernel_rfl
theorem row_c_tally : Try.prog.cellsOf 74 = 2 := by kernel_rfl
theorem tally_fields : ∃ fs : Array Field, Try.prog.underlying 74 = some (.struct fs) ∧ fs.size = 2 ∧ (∃ f, fs[0]? = some f ∧ f.type = 4 ∧ f.offset = 0) ∧ (∃ f, fs[1]? = some f ∧ f.type = 22 ∧ f.offset = 1) :=
  ⟨_, Try.underlying74, rfl, ⟨_, rfl, rfl, rfl⟩, ⟨_, rfl, rfl, rfl⟩⟩
section
variable {H : Type} {enc : TypeId × Value → H} {W : World} {v : Value} {d : DataW H} {p : List MemPlace} {b : Nat}
theorem read_tally_arg (hv : Value.okWide Try.prog W .any b 74 v) (h : DataW.Trod enc Try.prog W 0 (fun _ => true) true 74 v d p) (hw : Fits Try.prog 74 d) :
    ∃ (x : Bool) (A : Option Addr) (n c : Nat) (xs : List Int), v = .agg #[.bool x, .slice A n c] ∧ xs.length = n ∧ n ≤ 1000000000000000000 ∧ Sl W A xs := by
  obtain ⟨gs, gu, gsz, ⟨h0, a0, b0, r0⟩, ⟨h1, a1, b1, r1⟩⟩ := tally_fields
  obtain ⟨cs, rfl, hsz⟩ := okWide_struct gu hv
  rw [row_c_tally] at hsz
  obtain ⟨l⟩ := cs
  match l, hsz with
  | [c0, c1], _ =>
    obtain ⟨fuel, hf⟩ := h
    obtain ⟨zs, m2, _, hx2, _, hlen2, hi2⟩ := DataW.trod_struct gu hf
    simp only [Prod.mk.injEq] at hx2
    rw [hx2.1] at hw
    rw [gsz] at hlen2
    match zs, hlen2 with
    | [z0, z1], _ =>
      have u1 := fits_field gu hw (i := 1) a1 rfl
      have k0 := hi2 0 h0 a0
      have k1 := hi2 1 h1 a1
      rw [b1] at u1
      rw [b0, r0, row_c_bool] at k0
      rw [b1, r1, row_c_ints] at k1
      simp only [Value.cells, List.drop_zero, List.drop_succ_cons, List.take_succ_cons, List.take_zero, List.getElem?_cons_zero, List.getElem?_cons_succ] at k0 k1
      obtain ⟨a, e0, _, _⟩ := DataW.trod_bool Try.underlying4 k0
      simp only [List.cons.injEq, and_true] at e0
      obtain ⟨A, n, c, xs, e1, q1, q2, q3⟩ := read_ints k1 u1
      exact ⟨a, A, n, c, xs, by rw [e0, e1], q1, q2, q3⟩
end
end Go.Proofs.Ytcigdhmecfhndaa

/- More arguments opened: a field; a list of rows with its capacity. -/
import Derived.Test.YtcigdhmecfhndaaRow2
namespace Go.Proofs.Ytcigdhmecfhndaa
open Go.ChangeShapes Go.WideShapes Go.ChangeAt Go.RowKit
set_option linter.unusedVariables false
set_option maxRecDepth 100000

section
variable {H : Type} {enc : TypeId × Value → H} {W : World} {v : Value} {d : DataW H} {p : List MemPlace} {b : Nat}
theorem read_field_arg (hv : Value.okWide Try.prog W .any b 24 v) (h : DataW.Trod enc Try.prog W 0 (fun _ => true) true 24 v d p) (hw : Fits Try.prog 24 d) :
    ∃ (F : Fd) (A : Option Addr) (n c : Nat), v = .agg #[.int .i64 F.p, .int .i64 F.m, .slice A n c] ∧ F.md.length = n ∧ n ≤ 1000000000000000000 ∧ Sl W A F.md := by
  obtain ⟨gs, gu, gsz, ⟨h0, a0, b0, r0⟩, ⟨h1, a1, b1, r1⟩, ⟨h2, a2, b2, r2⟩⟩ := field_fields
  obtain ⟨cs, rfl, hsz⟩ := okWide_struct gu hv
  rw [row_c_field] at hsz
  obtain ⟨l⟩ := cs
  match l, hsz with
  | [c0, c1, c2], _ =>
    obtain ⟨fuel, hf⟩ := h
    obtain ⟨zs, m2, _, hx2, _, hlen2, hi2⟩ := DataW.trod_struct gu hf
    simp only [Prod.mk.injEq] at hx2
    rw [hx2.1] at hw
    rw [gsz] at hlen2
    match zs, hlen2 with
    | [z0, z1, z2], _ =>
      have u2 := fits_field gu hw (i := 2) a2 rfl
      have k0 := hi2 0 h0 a0
      have k1 := hi2 1 h1 a1
      have k2 := hi2 2 h2 a2
      rw [b2] at u2
      rw [b0, r0, row_c_int] at k0
      rw [b1, r1, row_c_int] at k1
      rw [b2, r2, row_c_ints] at k2
      simp only [Value.cells, List.drop_zero, List.drop_succ_cons, List.take_succ_cons, List.take_zero, List.getElem?_cons_zero, List.getElem?_cons_succ] at k0 k1 k2
      obtain ⟨a, e0, _, _⟩ := DataW.trod_int Try.underlying3 k0
      obtain ⟨b, e1, _, _⟩ := DataW.trod_int Try.underlying3 k1
      simp only [List.cons.injEq, and_true] at e0 e1
      obtain ⟨A, n, c, md, e2, q1, q2, q3⟩ := read_ints k2 u2
      exact ⟨⟨a, b, md⟩, A, n, c, by rw [e0, e1, e2], q1, q2, q3⟩
theorem rows_cap {A : Option Addr} {n c : Nat} (h : DataW.Trod enc Try.prog W 0 (fun _ => true) true 25 (.slice A n c) d p) : n ≤ c := by
  obtain ⟨fuel, hf⟩ := h
  rcases Go.Deep.open_slice1 Try.underlying25 row_c_ints hf with ⟨hcs, _⟩ | ⟨a, len, cap, m, n', V, D, Pl, hcs, _, hl, _⟩
  · simp only [Value.cells, List.cons.injEq, Value.slice.injEq, and_true] at hcs
    omega
  · simp only [Value.cells, List.cons.injEq, Value.slice.injEq, and_true] at hcs
    omega
theorem read_rows_cap (hv : Value.okWide Try.prog W .any b 25 v) (h : DataW.Trod enc Try.prog W 0 (fun _ => true) true 25 v d p) (hw : Fits Try.prog 25 d) :
    ∃ (A : Option Addr) (n c : Nat) (rows : List (List Int)), v = .slice A n c ∧ rows.length = n ∧ n ≤ 1000000000000000000 ∧ (∀ k, (gr rows k).length ≤ 1000000000000000000) ∧ n ≤ c ∧ Sls W A rows := by
  obtain ⟨A, n, c, rows, rfl, h1, h2, h3, h4⟩ := read_rows_arg hv h hw
  exact ⟨A, n, c, rows, rfl, h1, h2, h3, rows_cap h, h4⟩
end

end Go.Proofs.Ytcigdhmecfhndaa

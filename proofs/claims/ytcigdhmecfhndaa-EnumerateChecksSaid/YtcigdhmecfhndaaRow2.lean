/- More arguments opened: a whole number, a row of numbers, a list of rows by themselves. -/
import Derived.Test.YtcigdhmecfhndaaRow
namespace Go.Proofs.Ytcigdhmecfhndaa
open Go.ChangeShapes Go.WideShapes Go.ChangeAt Go.RowKit
set_option linter.unusedVariables false
set_option maxRecDepth 100000

section
variable {H : Type} {enc : TypeId × Value → H} {W : World} {v : Value} {d : DataW H} {p : List MemPlace} {b : Nat}
theorem read_int_arg (hv : Value.okWide Try.prog W .any b 3 v) : ∃ x : Int, v = .int .i64 x := okWide_int Try.underlying3 hv
theorem read_ints_arg (hv : Value.okWide Try.prog W .any b 22 v) (h : DataW.Trod enc Try.prog W 0 (fun _ => true) true 22 v d p) (hw : Fits Try.prog 22 d) :
    ∃ (A : Option Addr) (n c : Nat) (xs : List Int), v = .slice A n c ∧ xs.length = n ∧ n ≤ 1000000000000000000 ∧ Sl W A xs := by
  obtain ⟨a, l, c, rfl⟩ := okWide_slice Try.underlying22 hv
  obtain ⟨fuel, hf⟩ := h
  obtain ⟨A, n, c', xs, e, h1, h2, h3⟩ := read_ints (v := .slice a l c) hf hw
  exact ⟨A, n, c', xs, e, h1, h2, h3⟩
theorem read_rows_arg (hv : Value.okWide Try.prog W .any b 25 v) (h : DataW.Trod enc Try.prog W 0 (fun _ => true) true 25 v d p) (hw : Fits Try.prog 25 d) :
    ∃ (A : Option Addr) (n c : Nat) (rows : List (List Int)), v = .slice A n c ∧ rows.length = n ∧ n ≤ 1000000000000000000 ∧ (∀ k, (gr rows k).length ≤ 1000000000000000000) ∧ Sls W A rows := by
  obtain ⟨a, l, c, rfl⟩ := okWide_slice Try.underlying25 hv
  obtain ⟨fuel, hf⟩ := h
  obtain ⟨A, n, c', xs, e, h1, h2, h3, h4⟩ := read_rows (v := .slice a l c) hf hw
  exact ⟨A, n, c', xs, e, h1, h2, h3, h4⟩
end

end Go.Proofs.Ytcigdhmecfhndaa

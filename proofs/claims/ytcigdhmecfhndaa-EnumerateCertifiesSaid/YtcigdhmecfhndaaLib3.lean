/- A field's pointer: what lies behind it. -/
import Derived.Test.YtcigdhmecfhndaaLib2
import Derived.Test.YtcigdhmecfhndaaBase
namespace Go.Proofs.Ytcigdhmecfhndaa
open Go.RowKit

/-- a pointer to what field.New makes -/
class GFp (w : World) (b : Nat) (F : outParam Fd) : Prop where
  out : ∃ (A : Option Addr) (n c ge ce gl cl : Nat) (ex lg : List Int), Bx w b #[.int .i64 F.p, .int .i64 F.m, .slice A n c, .int .i64 F.q, .slice (some ⟨ge, 0, none⟩) ex.length ce, .slice (some ⟨gl, 0, none⟩) lg.length cl] 137 ∧ n = F.md.length ∧ Sl w A F.md ∧ Own w ge ex ∧ Own w gl lg ∧ GFm F ex lg
theorem GFp.move {w w' : World} {b : Nat} {F : Fd} (h : GFp w b F) (hb : Bel w w') : GFp w' b F := by
  obtain ⟨A, n, c, ge, ce, gl, cl, ex, lg, h1, h2, h3, h4, h5, h6⟩ := h.out
  exact ⟨A, n, c, ge, ce, gl, cl, ex, lg, inferInstance, h2, inferInstance, inferInstance, inferInstance, h6⟩
instance gfp_alloc {w : World} {b : Nat} {F : Fd} {o : Obj} [h : GFp w b F] : GFp (w.alloc o) b F := h.move inferInstance
instance gfp_drew {w : World} {b : Nat} {F : Fd} [h : GFp w b F] : GFp w.drew b F := h.move inferInstance
instance gfp_drewN {w : World} {b n : Nat} {F : Fd} [h : GFp w b F] : GFp (w.drewN n) b F := h.move inferInstance
instance gfp_ext {w w' : World} {b : Nat} {F : Fd} [e : Ext w w'] [h : GFp w b F] : GFp w' b F := h.move inferInstance
instance gfp_bel {w0 w : World} {b : Nat} {F : Fd} [e : Bel w0 w] [h : GFp w0 b F] : GFp w b F := h.move e
instance gfp_mk {w : World} {b d : Nat} {F : Fd} [h : GFp w b F] : GFp ⟨w.heap, w.tape, d, w.os, w.output⟩ b F := h.move inferInstance

end Go.Proofs.Ytcigdhmecfhndaa

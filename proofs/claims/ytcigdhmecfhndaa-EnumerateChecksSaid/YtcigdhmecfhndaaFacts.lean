/- The closed facts of the whole program that every row asks. -/
import Derived.Test.YtcigdhmecfhndaaRow
namespace Go.Proofs.Ytcigdhmecfhndaa
theorem fact1 : (laidOutB Try.prog) = true := by kernel_rfl
theorem fact2 : (mapsRowed Try.prog) = true := by kernel_rfl
theorem fact6 : ((Try.prog.stops == [])) = true := by kernel_rfl
theorem fact8 : ((Try.prog.stopKnobs == [])) = true := by kernel_rfl
theorem fact24 : (Try.prog.stopsHeard) = true := by kernel_rfl
theorem fact25 : (Try.prog.mayEnter) = true := by kernel_rfl
theorem fact22 : (Rows.enumerateWeightsRow.plainKeys == Try.prog.plainKeys) = true := by kernel_rfl
theorem fact26 : (Rows.enumerateWeightsRow.lifted == Try.prog.liftsFinal) = true := by kernel_rfl
theorem fact27 : (Try.prog.make == some Rows.enumerateWeightsRow.make) = true := by kernel_rfl
set_option maxRecDepth 100000 in
theorem facts_join {f : FuncId} {fn : Func} {s : ChangeSpec} {c : OpenClaim}
    (a0 : (c.wf (OpenSpec.ofChange s)) = true)
    (a3 : (fn.params.all (Try.prog.readableRec ·)) = true)
    (a4 : (namedTie Try.prog c.named s.vars) = true)
    (a5 : ((c.stops == [])) = true)
    (a7 : ((c.knobs == [])) = true)
    (a9 : ((c.inPlace == Try.prog.inPlace f)) = true)
    (a10 : ((c.unfollowed == Try.prog.unfollowed f)) = true)
    (a11 : ((c.recurses == Try.prog.recurses f)) = true)
    (a12 : ((c.named == Try.prog.varsNamed f)) = true)
    (a13 : ((c.maps == (fn.params.toList ++ s.plain.varTypes Try.prog).any (Try.prog.mapsRec ·))) = true)
    (a14 : ((c.ifaces == (fn.params.toList ++ s.plain.varTypes Try.prog).any (Try.prog.ifacesRec ·))) = true)
    (a15 : ((c.mapsOut == Try.prog.mapsAmong fn.resultTypes.toList)) = true)
    (a16 : ((c.loops == (fn.params.toList ++ s.plain.varTypes Try.prog).any (Try.prog.loopsFrom ·))) = true)
    (a17 : ((c.wideKeys == (fn.params.toList ++ s.plain.varTypes Try.prog ++ fn.resultTypes.toList).any (Try.prog.wideKeysFrom ·))) = true)
    (a18 : (s.vars.all (Try.prog.varReadable ·)) = true)
    (a19 : (fn.resultTypes.all (fun t => Try.prog.readableRec t && decide (t < Try.prog.types.size))) = true)
    (a20 : ((c.ifacesOut == fn.resultTypes.toList.any (Try.prog.ifacesRec ·))) = true)
    (a21 : ((c.loopsOut == fn.resultTypes.toList.any (Try.prog.loopsFrom ·))) = true)
    (a23 : (c.shortTexts.isNone) = true)
    (a28 : ((c.kinds == (if c.domain.isEmpty then [] else fn.params.toList.map fun t => match Try.prog.underlying t with | some (.int k) => some k | _ => none))) = true)
    (a29 : ((c.pinned == c.pinnedBy)) = true)
    (a30 : ((c.veiled == (fn.params.toList ++ s.plain.varTypes Try.prog ++ fn.resultTypes.toList).any (Try.prog.veiledRec ·))) = true)
    (a31 : (c.veiledFits Try.prog fn.params.toList (fn.params.toList ++ s.plain.varTypes Try.prog ++ fn.resultTypes.toList)) = true)
    (e22 : c.plainKeys = Rows.enumerateWeightsRow.plainKeys) (e26 : c.lifted = Rows.enumerateWeightsRow.lifted) (e27 : c.make = Rows.enumerateWeightsRow.make) :
    joinedFacts Try.prog f fn s c = true := by
  have a22 : (c.plainKeys == Try.prog.plainKeys) = true := by rw [e22]; exact fact22
  have a26 : (c.lifted == Try.prog.liftsFinal) = true := by rw [e26]; exact fact26
  have a27 : (Try.prog.make == some c.make) = true := by rw [e27]; exact fact27
  unfold joinedFacts
  simp only [Bool.and_eq_true]
  exact ⟨⟨⟨⟨⟨⟨⟨⟨⟨⟨⟨⟨⟨⟨⟨⟨⟨⟨⟨⟨⟨⟨⟨⟨⟨⟨⟨⟨⟨⟨⟨a0, fact1⟩, fact2⟩, a3⟩, a4⟩, a5⟩, fact6⟩, a7⟩, fact8⟩, a9⟩, a10⟩, a11⟩, a12⟩, a13⟩, a14⟩, a15⟩, a16⟩, a17⟩, a18⟩, a19⟩, a20⟩, a21⟩, a22⟩, a23⟩, fact24⟩, fact25⟩, a26⟩, a27⟩, a28⟩, a29⟩, a30⟩, a31⟩
end Go.Proofs.Ytcigdhmecfhndaa

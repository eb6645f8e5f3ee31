/- The wrap: the closed facts of a row, joined out of those of Seal and of each row's own. -/
import Derived.Test.YtaemajcpgmaapaaDoorSeal
namespace Go.Proofs.YtaemajcpgmaapaaDoor
open Go.ChangeShapes Go.WideShapes Go.ChangeAt Go.RowKit Go.Lib
/-- The closed facts of a row, one by one. -/
theorem joined {f : FuncId} {fn : Func} {s : ChangeSpec} {c : OpenClaim} (h1 : c.wf (OpenSpec.ofChange s) = true) (h2 : (c.inPlace == Tryd.prog.inPlace f) = true) (h3 : (c.unfollowed == Tryd.prog.unfollowed f) = true)
    (h4 : (c.recurses == Tryd.prog.recurses f) = true) (h5 : (c.named == Tryd.prog.varsNamed f) = true) (h6 : namedTie Tryd.prog c.named s.vars = true) (h7 : c.plainKeys = true) (h8 : c.lifted = false) (h9 : c.make = .cut) (hd : c.domain.isEmpty = true) (hk : c.kinds = [])
    (h10 : (fn.params.all (Tryd.prog.readableRec ·) && (c.stops == []) && (Tryd.prog.stops == []) && (c.knobs == []) && (Tryd.prog.stopKnobs == []) &&
      (c.maps == (fn.params.toList ++ s.plain.varTypes Tryd.prog).any (Tryd.prog.mapsRec ·)) && (c.ifaces == (fn.params.toList ++ s.plain.varTypes Tryd.prog).any (Tryd.prog.ifacesRec ·)) && (c.mapsOut == Tryd.prog.mapsAmong fn.resultTypes.toList) &&
      (c.loops == (fn.params.toList ++ s.plain.varTypes Tryd.prog).any (Tryd.prog.loopsFrom ·)) && (c.wideKeys == (fn.params.toList ++ s.plain.varTypes Tryd.prog ++ fn.resultTypes.toList).any (Tryd.prog.wideKeysFrom ·)) &&
      s.vars.all (Tryd.prog.varReadable ·) && fn.resultTypes.all (fun t => Tryd.prog.readableRec t && decide (t < Tryd.prog.types.size)) && (c.ifacesOut == fn.resultTypes.toList.any (Tryd.prog.ifacesRec ·)) && (c.loopsOut == fn.resultTypes.toList.any (Tryd.prog.loopsFrom ·)) &&
      c.shortTexts.isNone && (c.pinned == c.pinnedBy) &&
      (c.veiled == (fn.params.toList ++ s.plain.varTypes Tryd.prog ++ fn.resultTypes.toList).any (Tryd.prog.veiledRec ·)) && c.veiledFits Tryd.prog fn.params.toList (fn.params.toList ++ s.plain.varTypes Tryd.prog ++ fn.resultTypes.toList)) = true) : joinedFacts Tryd.prog f fn s c = true := by
  simp only [Bool.and_eq_true] at h10
  unfold joinedFacts
  obtain ⟨⟨⟨⟨⟨⟨⟨⟨⟨⟨⟨⟨⟨⟨⟨⟨⟨b1, b2⟩, b3⟩, b4⟩, b5⟩, b6⟩, b7⟩, b8⟩, b9⟩, b10⟩, b11⟩, b12⟩, b13⟩, b14⟩, b15⟩, b17⟩, b18⟩, b19⟩ := h10
  simp only [h1, laidOut, rowed0, b1, h6, b2, b3, b4, b5, h2, h3, h4, h5, b6, b7, b8, b9, b10, b11, b12, b13, b14, h7, keys0, b15, heard0, enter0, h8, final0, make0, h9, b17, b18, b19, Bool.and_true, beq_self_eq_true]
  rw [Bool.true_and, hd, hk]
  rfl
end Go.Proofs.YtaemajcpgmaapaaDoor

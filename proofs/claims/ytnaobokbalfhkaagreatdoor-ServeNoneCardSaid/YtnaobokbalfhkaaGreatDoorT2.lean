/- Closed facts of the seat's program, each by itself: what the two rows ask of the program alone; a world in which the listed variables lie. -/
import Derived.Test.YtnaobokbalfhkaaGreatDoorRows
import Derived.SevenTiedAt
import Derived.Lay
import Derived.JoinedCond
import Derived.Deep.DeepWitnessRowRef
namespace Go.Proofs.YtnaobokbalfhkaaGreatDoor
open Go
theorem g_laid : laidOutB Tryz.prog = true := by kernel_rfl
theorem g_maps : mapsRowed Tryz.prog = true := by kernel_rfl
theorem g_stops : (Tryz.prog.stops == []) = true := by kernel_rfl
theorem g_knobs : (Tryz.prog.stopKnobs == []) = true := by kernel_rfl
theorem g_heard : Tryz.prog.stopsHeard = true := by kernel_rfl
theorem g_enter : Tryz.prog.mayEnter = true := by kernel_rfl
noncomputable def theWorld (os : Os) (args : Array Value) : World := (World.laidAll Tryz.prog os Rows.serveWordsRow.laid).forCall (fun _ _ => 0) ⟨#[], args, []⟩
theorem g_vars (os : Os) (args : Array Value) : (theWorld os args).variablesRefB Tryz.prog = true := by kernel_rfl
theorem g_heap (os : Os) (args : Array Value) : ((theWorld os args).heap.toList.drop Tryz.prog.globals.size).take ((begin Tryz.prog (fun _ _ => 0) default).world.heap.size - Tryz.prog.globals.size) = (begin Tryz.prog (fun _ _ => 0) default).world.heap.toList.drop Tryz.prog.globals.size := by kernel_rfl
theorem g_lay (os : Os) : (World.holding Tryz.prog os ⟨#[], #[], []⟩).layFits Tryz.prog Rows.serveWordsRow.laid [] = true := by kernel_rfl
theorem g_ifaces (os : Os) : (World.holding Tryz.prog os ⟨#[], #[], []⟩).layIfaces Tryz.prog Rows.serveWordsRow.laid (World.laidAll Tryz.prog os Rows.serveWordsRow.laid) = true := by kernel_rfl
theorem g_met (os : Os) (args : Array Value) : laidMetH Tryz.prog Rows.serveWordsRow.laid (theWorld os args).memory := by
  rw [MakeChecks.laidMetH_plain _ _ _ (by kernel_rfl)]
  exact laidMet_laidAll _ (g_lay os) (g_ifaces os)
theorem g_own : ownKnob Tryz.prog.godebug = none := by kernel_rfl
/-- what a row asks, part by part -/
theorem joined_parts {P : Program} {f : FuncId} {fn : Func} {s : ChangeSpec} {c : OpenClaim} (h1 : c.wf (OpenSpec.ofChange s) = true) (h2 : laidOutB P = true) (h3 : mapsRowed P = true)
    (h4 : (fn.params.all (P.readableRec ·) && namedTie P c.named s.vars && (c.stops == [])) = true) (h7 : (P.stops == []) = true) (h8 : (c.knobs == []) = true) (h9 : (P.stopKnobs == []) = true)
    (h10 : ((c.inPlace == P.inPlace f) && (c.unfollowed == P.unfollowed f) && (c.recurses == P.recurses f)) = true) (h13 : (c.named == P.varsNamed f) = true)
    (h14 : ((c.maps == (fn.params.toList ++ s.plain.varTypes P).any (P.mapsRec ·)) && (c.ifaces == (fn.params.toList ++ s.plain.varTypes P).any (P.ifacesRec ·)) && (c.mapsOut == P.mapsAmong fn.resultTypes.toList) &&
      (c.loops == (fn.params.toList ++ s.plain.varTypes P).any (P.loopsFrom ·)) && (c.wideKeys == (fn.params.toList ++ s.plain.varTypes P ++ fn.resultTypes.toList).any (P.wideKeysFrom ·)) &&
      s.vars.all (P.varReadable ·) && fn.resultTypes.all (fun t => P.readableRec t && decide (t < P.types.size)) && (c.ifacesOut == fn.resultTypes.toList.any (P.ifacesRec ·)) && (c.loopsOut == fn.resultTypes.toList.any (P.loopsFrom ·)) && (c.plainKeys == P.plainKeys) && c.shortTexts.isNone) = true)
    (h25 : P.stopsHeard = true) (h26 : P.mayEnter = true)
    (h27 : ((c.lifted == P.liftsFinal) && (P.make == some c.make) && (c.kinds == (if c.domain.isEmpty then [] else fn.params.toList.map fun t => match P.underlying t with | some (.int k) => some k | _ => none)) && (c.pinned == c.pinnedBy) &&
      (c.veiled == (fn.params.toList ++ s.plain.varTypes P ++ fn.resultTypes.toList).any (P.veiledRec ·)) && c.veiledFits P fn.params.toList (fn.params.toList ++ s.plain.varTypes P ++ fn.resultTypes.toList)) = true) :
    joinedFacts P f fn s c = true := by
  simp only [Bool.and_eq_true] at h4 h10 h14 h27
  obtain ⟨⟨a4, a5⟩, a6⟩ := h4
  obtain ⟨⟨a10, a11⟩, a12⟩ := h10
  obtain ⟨⟨⟨⟨⟨⟨⟨⟨⟨⟨a14, a15⟩, a16⟩, a17⟩, a18⟩, a19⟩, a20⟩, a21⟩, a22⟩, a23⟩, a24⟩ := h14
  obtain ⟨⟨⟨⟨⟨a27, a28⟩, a29⟩, a30⟩, a31⟩, a32⟩ := h27
  simp only [joinedFacts, Bool.and_eq_true]
  and_intros <;> assumption
end Go.Proofs.YtnaobokbalfhkaaGreatDoor

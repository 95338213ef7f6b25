/- The closed facts of a row, taken apart: the kernel is asked for one at a time. -/
import Derived.Test.YtkgpjplncfginaaGreatDoorSy20
namespace Go.Proofs.YtkgpjplncfginaaGreatDoor.Sy
open Go Go.ChangeShapes Go.WideShapes Go.ChangeAt Go.RowKit
set_option linter.unusedVariables false
set_option linter.unusedSimpArgs false

/-- What a row asks of the program's types. -/
structure TypeFacts (P : Program) (fn : Func) (s : ChangeSpec) (c : OpenClaim) : Prop where
  maps : (c.maps == (fn.params.toList ++ s.plain.varTypes P).any (P.mapsRec ·)) = true
  ifaces : (c.ifaces == (fn.params.toList ++ s.plain.varTypes P).any (P.ifacesRec ·)) = true
  mapsOut : (c.mapsOut == P.mapsAmong fn.resultTypes.toList) = true
  loops : (c.loops == (fn.params.toList ++ s.plain.varTypes P).any (P.loopsFrom ·)) = true
  wideKeys : (c.wideKeys == (fn.params.toList ++ s.plain.varTypes P ++ fn.resultTypes.toList).any (P.wideKeysFrom ·)) = true
  vars : s.vars.all (P.varReadable ·) = true
  results : fn.resultTypes.all (fun t => P.readableRec t && decide (t < P.types.size)) = true
  ifacesOut : (c.ifacesOut == fn.resultTypes.toList.any (P.ifacesRec ·)) = true
  loopsOut : (c.loopsOut == fn.resultTypes.toList.any (P.loopsFrom ·)) = true
  plain : (c.plainKeys == P.plainKeys) = true
  dom : c.domain.isEmpty = true
  kinds : (c.kinds == []) = true
  veiled : (c.veiled == (fn.params.toList ++ s.plain.varTypes P ++ fn.resultTypes.toList).any (P.veiledRec ·)) = true
  fits : c.veiledFits P fn.params.toList (fn.params.toList ++ s.plain.varTypes P ++ fn.resultTypes.toList) = true

structure RunFacts (P : Program) (f : FuncId) (c : OpenClaim) : Prop where
  stops : (c.stops == []) = true
  stops' : (P.stops == []) = true
  knobs : (c.knobs == []) = true
  knobs' : (P.stopKnobs == []) = true
  inPlace : (c.inPlace == P.inPlace f) = true
  unfollowed : (c.unfollowed == P.unfollowed f) = true
  recurses : (c.recurses == P.recurses f) = true
  named : (c.named == P.varsNamed f) = true
  short : c.shortTexts.isNone = true
  make : P.make = some c.make
  make' : (some c.make == some c.make) = true
  pinned : (c.pinned == c.pinnedBy) = true

theorem joined_of {P : Program} {f : FuncId} {fn : Func} {s : ChangeSpec} {c : OpenClaim} (heard : P.stopsHeard = true) (enter : P.mayEnter = true) (lifts : P.liftsFinal = false) (laid : laidOutB P = true) (rowed : mapsRowed P = true)
    (wf : c.wf (OpenSpec.ofChange s) = true) (pars : fn.params.all (P.readableRec ·) = true) (tie : namedTie P c.named s.vars = true) (lifted : c.lifted = false) (r : RunFacts P f c) (t : TypeFacts P fn s c) : joinedFacts P f fn s c = true := by
  unfold joinedFacts
  rw [heard, enter, lifts, laid, rowed, wf, pars, tie, lifted, r.stops, r.stops', r.knobs, r.knobs', r.inPlace, r.unfollowed, r.recurses, r.named, r.short, r.pinned,
    t.maps, t.ifaces, t.mapsOut, t.loops, t.wideKeys, t.vars, t.results, t.ifacesOut, t.loopsOut, t.plain, t.dom, t.veiled, t.fits]
  rw [if_pos rfl, t.kinds, r.make, r.make']
  rfl

end Go.Proofs.YtkgpjplncfginaaGreatDoor.Sy

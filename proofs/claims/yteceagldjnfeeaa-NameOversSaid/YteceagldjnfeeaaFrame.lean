/- What every row of this seat wants of its frame. -/
import Derived.Test.YteceagldjnfeeaaRows
import Derived.Test.YteceagldjnfeeaaShelf
import Derived.ProofKit
import Derived.OpenShut
import Derived.ShutString
import Derived.ChangeOld
import Derived.SizedLaws
import Derived.Deep.DeepHandedRow
import Derived.Lib.LaidTab
import Derived.LaidSub
import Derived.JoinedCond
import Derived.Lib.SmallJoins
namespace Go.Proofs.Yteceagldjnfeeaa
open Go.ChangeShapes Go.WideShapes Go.ChangeAt Go.RowKit
set_option linter.unusedVariables false
set_option linter.unusedSimpArgs false

theorem own : ownKnob Try.prog.godebug = none := by kernel_rfl
theorem laidOut : laidOutB Try.prog = true := by kernel_rfl
theorem mx_of {W : World} (h : W.ShapedOpen Try.prog) : ∃ m : Int, W.cell? ⟨0, 0, none⟩ = some (.int .i64 m) := Try.laysM219.s1_3 W h
theorem sized_str {H : Type} {ts : List TypeId} {ds : List (DataW H)} (h : (DataW.weightsEach Try.prog ts ds).all (· ≤ reachBytes) = true) {j t : Nat} {s : ByteArray} (ht : ts[j]? = some t) (hd : ds[j]? = some (.lit (.string s.data.toList))) : s.size ≤ 140737488351232 := by
  have := sized_string h ht hd
  unfold reachBytes at this
  have e : s.data.toList.length = s.size := by rw [Array.length_toList]; rfl
  omega
theorem laid_none {W : World} : laidMet Try.prog [] W := by
  refine ⟨[], ?_, List.nodup_nil, fun b off h => by cases h⟩
  first | exact .nil | trivial | exact rfl | simp [DataW.LaidVars]

/-! ### The heavy closed facts, once -/
theorem joined_of {P : Program} {f : FuncId} {fn : Func} {s : ChangeSpec} {c : OpenClaim} (h1 : P.mayEnter = true) (h2 : P.liftsFinal = false) (hl : c.lifted = false) (h3 : P.make = some c.make)
  (h : (c.wf (OpenSpec.ofChange s) && laidOutB P && mapsRowed P &&
  fn.params.all (P.readableRec ·) && namedTie P c.named s.vars &&
  (c.stops == []) && (P.stops == []) && (c.knobs == []) && (P.stopKnobs == []) &&
  (c.inPlace == P.inPlace f) && (c.unfollowed == P.unfollowed f) && (c.recurses == P.recurses f) && (c.named == P.varsNamed f) &&
  (c.maps == (fn.params.toList ++ s.plain.varTypes P).any (P.mapsRec ·)) && (c.ifaces == (fn.params.toList ++ s.plain.varTypes P).any (P.ifacesRec ·)) && (c.mapsOut == P.mapsAmong fn.resultTypes.toList) &&
  (c.loops == (fn.params.toList ++ s.plain.varTypes P).any (P.loopsFrom ·)) && (c.wideKeys == (fn.params.toList ++ s.plain.varTypes P ++ fn.resultTypes.toList).any (P.wideKeysFrom ·)) &&
  s.vars.all (P.varReadable ·) && fn.resultTypes.all (fun t => P.readableRec t && decide (t < P.types.size)) && (c.ifacesOut == fn.resultTypes.toList.any (P.ifacesRec ·)) && (c.loopsOut == fn.resultTypes.toList.any (P.loopsFrom ·)) && (c.plainKeys == P.plainKeys) && c.shortTexts.isNone && P.stopsHeard && (c.kinds == (if c.domain.isEmpty then [] else fn.params.toList.map fun t => match P.underlying t with | some (.int k) => some k | _ => none)) && (c.pinned == c.pinnedBy) &&
  (c.veiled == (fn.params.toList ++ s.plain.varTypes P ++ fn.resultTypes.toList).any (P.veiledRec ·)) && c.veiledFits P fn.params.toList (fn.params.toList ++ s.plain.varTypes P ++ fn.resultTypes.toList)) = true) : joinedFacts P f fn s c = true := by
  unfold joinedFacts
  rw [h1, h2, hl, h3]
  simp only [beq_self_eq_true, Bool.and_true]
  exact h
theorem mayEnter_fact : Try.prog.mayEnter = true := by kernel_rfl
theorem lifts_fact : Try.prog.liftsFinal = false := by kernel_rfl
theorem make_fact : Try.prog.make = some Rows.nameOversRow.make := by kernel_rfl
end Go.Proofs.Yteceagldjnfeeaa

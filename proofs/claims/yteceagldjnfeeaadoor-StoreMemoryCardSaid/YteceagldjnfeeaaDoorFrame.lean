/- What every row of this seat wants of its frame: the two tables, the opening of a slice of bytes, a world for the witness. -/
import Derived.Test.YteceagldjnfeeaaDoorCards
import Derived.Test.YteceagldjnfeeaaDoorTie
import Derived.Test.YteceagldjnfeeaaDoorLaw3
import Derived.ProofKit
import Derived.OpenShut
import Derived.ShutString
import Derived.ChangeOld
import Derived.SizedLaws
import Derived.Deep.DeepHandedRow
import Derived.Lib.LaidTab
import Derived.LaidSub
namespace Go.Proofs.YteceagldjnfeeaaDoor
open Go.ChangeShapes Go.WideShapes Go.ChangeAt Go.RowKit
set_option linter.unusedVariables false
set_option linter.unusedSimpArgs false

theorem own : ownKnob Tryd.prog.godebug = none := by kernel_rfl
theorem laidOut : laidOutB Tryd.prog = true := by kernel_rfl
theorem gK : Tryd.prog.globalNamed "isthmus/sha.constants" = some 0 := by kernel_rfl
theorem gK1 : Tryd.prog.globalNamed "isthmus/isthmusref03.k" = some 1 := by kernel_rfl
theorem gKType : (Tryd.prog.globals[0]?).map (·.type) = some 138 := by kernel_rfl
theorem gK1Type : (Tryd.prog.globals[1]?).map (·.type) = some 138 := by kernel_rfl
theorem cells138 : Tryd.prog.cellsOf 138 = 64 := by kernel_rfl
theorem cells84 : Tryd.prog.cellsOf 84 = 1 := by kernel_rfl
def kInts : List Int := kNat.map Int.ofNat
theorem tab0 : (Rows.laid_isthmus_sha_constants : DataW Unit) = Lib.tabData .u32 kInts := by kernel_rfl
theorem tab1 : (Rows.laid_isthmus_isthmusref03_k : DataW Unit) = Lib.tabData .u32 kInts := by kernel_rfl
theorem kInts_at : ∀ k, k < 64 → kInts.getD k 0 = uw (wordAt kTab k) := by
  have : (List.range 64).all (fun k => kInts.getD k 0 == uw (wordAt kTab k)) = true := by decide +kernel
  intro k hk
  have := List.all_eq_true.1 this k (List.mem_range.2 hk)
  simpa using this
theorem kInts_length : kInts.length = 64 := by decide +kernel

theorem kAt_of {rest : List (String × DataW Unit)} {W : World} (h : laidMet Tryd.prog (("isthmus/sha.constants", Rows.laid_isthmus_sha_constants) :: rest) W) : KAt W := by
  have ht : Lib.TabIs Tryd.prog W "isthmus/sha.constants" .u32 kInts := Lib.tabIs_of_head (rest := rest) gK gKType Tryd.underlying138 Tryd.underlying84 cells84 cells138 (by rw [tab0] at h; exact h)
  intro k hk
  rw [ht.cell gK k (by rw [kInts_length]; exact hk), kInts_at k hk]
theorem kAt1_of {rest : List (String × DataW Unit)} {W : World} (h : laidMet Tryd.prog (("isthmus/isthmusref03.k", Rows.laid_isthmus_isthmusref03_k) :: rest) W) : KAt1 W := by
  have ht : Lib.TabIs Tryd.prog W "isthmus/isthmusref03.k" .u32 kInts := Lib.tabIs_of_head (rest := rest) gK1 gK1Type Tryd.underlying138 Tryd.underlying84 cells84 cells138 (by rw [tab1] at h; exact h)
  intro k hk
  rw [ht.cell gK1 k (by rw [kInts_length]; exact hk), kInts_at k hk]

theorem kAts {W : World} (h : laidMetH Tryd.prog [("isthmus/isthmusref03.k", Rows.laid_isthmus_isthmusref03_k), ("isthmus/sha.constants", Rows.laid_isthmus_sha_constants)] W) : KAt W ∧ KAt1 W := by
  have h' : laidMet Tryd.prog [("isthmus/isthmusref03.k", Rows.laid_isthmus_isthmusref03_k), ("isthmus/sha.constants", Rows.laid_isthmus_sha_constants)] W := h
  refine ⟨?_, kAt1_of h'⟩
  have h2 := h'.filter fun x => x.1 == "isthmus/sha.constants"
  exact kAt_of (rest := []) h2
theorem kAts1 {W : World} (h : laidMetH Tryd.prog [("isthmus/sha.constants", Rows.laid_isthmus_sha_constants)] W) : KAt W := by
  have h' : laidMet Tryd.prog [("isthmus/sha.constants", Rows.laid_isthmus_sha_constants)] W := h
  exact kAt_of (rest := []) h'

/-- A slice of bytes that came in. -/
theorem open_bs {H : Type} {enc : TypeId × Value → H} {W : World} {a : Option Addr} {n c fuel : Nat} {x : DataW H × List MemPlace} (hf : DataW.trod enc Tryd.prog W 0 (fun _ => true) true fuel 22 (Value.slice a n c).cells.toList = some x) :
    ∃ l, Bs W a n c l ∧ (n = 0 ∨ ∃ elems spare, x.1 = .slice elems spare ∧ n ≤ elems.length + spare.length) := by
  rcases open_ints Tryd.underlying22 Tryd.underlying5 (by kernel_rfl) hf with ⟨hcs, hx⟩ | ⟨ad, len', cap', zs, hcs, _, hl, hm, hz, hx, hcell, hwz⟩
  · simp [Value.cells] at hcs
    obtain ⟨rfl, rfl, rfl⟩ := hcs
    exact ⟨[], Sl.nil W, .inl rfl⟩
  · simp [Value.cells] at hcs
    obtain ⟨rfl, rfl, rfl⟩ := hcs
    simp only [if_true] at hz
    refine ⟨(zs.take n).map fun z => UInt8.ofNat z.toNat, ?_, .inr ⟨_, _, by rw [hx], ?_⟩⟩
    · refine ⟨by rw [bts_length, List.length_map, List.length_take]; omega, hl, hm, fun j u hj => ?_⟩
      have hj' : j < n := by
        have := (List.getElem?_eq_some_iff.1 hj).1
        rw [bts_length, List.length_map, List.length_take] at this
        omega
      have hc := hcell j (by omega)
      obtain ⟨b, o, sp⟩ := ad
      have hsp : sp = none := by simpa [Addr.add] using World.cell?_spot (hcell 0 (by omega))
      subst hsp
      refine ⟨b, o, rfl, ?_⟩
      have e : zs.getD j 0 = zs[j]'(by omega) := by simp [List.getD, List.getElem?_eq_getElem (show j < zs.length by omega)]
      have hw := hwz (zs[j]'(by omega)) (List.getElem_mem _)
      have hb : (0 : Int) ≤ zs[j]'(by omega) ∧ zs[j]'(by omega) ≤ 255 := by
        have := hw
        simp [Lit.wf, IntKind.min, IntKind.max, IntKind.bits, IntKind.signed] at this
        omega
      have hu : u = .int .u8 (zs[j]'(by omega)) := by
        rw [bts_get _ _ (by rw [List.length_map, List.length_take]; omega)] at hj
        rw [← Option.some.inj hj]
        refine congrArg (Value.int .u8) ?_
        simp only [List.getElem_map, List.getElem_take]
        rw [ub_of]
        have := hb
        omega
      rw [hu]
      rw [e] at hc
      rw [show (⟨b, o, none⟩ : Addr).add j = ⟨b, o + j, none⟩ by unfold Addr.add; split <;> simp_all] at hc
      exact hc
    · simp only [lits, List.length_map, List.length_take, List.length_drop]
      omega

/-- A world for the witness: both tables stand as their initialisers lay them. -/
def tabCells : Array Value := (kInts.map fun z => Value.int .u32 z).toArray
def fillTab : Obj → Obj
  | .cells _ t frozen => .cells tabCells t frozen
  | o => o
noncomputable def laidWorld (os : Os) : World :=
  { World.holding Tryd.prog os ⟨#[], #[], []⟩ with heap := ((World.holding Tryd.prog os ⟨#[], #[], []⟩).heap.modify 0 fillTab).modify 1 fillTab }
theorem bytes5 : Tryd.prog.bytesOf 5 = 1 := by kernel_rfl
end Go.Proofs.YteceagldjnfeeaaDoor

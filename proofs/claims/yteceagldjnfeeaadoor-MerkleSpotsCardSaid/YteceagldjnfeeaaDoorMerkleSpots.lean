/- The tied card of isthmuslaw08.MerkleSpots holds: for every row of pairs and every number, the law returns true and what was handed in reads as it did. -/
import Derived.Test.YteceagldjnfeeaaDoorOpen
import Derived.Test.YteceagldjnfeeaaDoorFacts
import Derived.Test.YteceagldjnfeeaaDoorLaw8e
import Derived.Test.YteceagldjnfeeaaDoorOpen8
namespace Go.Proofs.YteceagldjnfeeaaDoor.merkleSpots
open Go.ChangeShapes Go.WideShapes Go.ChangeAt Go.RowKit
open Go.ChangeMaps (open_string)
set_option linter.unusedVariables false
set_option linter.unusedSimpArgs false

set_option maxRecDepth 100000 in
theorem contract (H : Type) (enc : TypeId × Value → H) (W : World) (base : Nat) (args : Array Value) (ds gs : List (DataW H)) (before : List MemPlace)
    (hval : ∀ (j : Nat) t v, Tryd.f20.params[j]? = some t → args[j]? = some v → Value.okWide Tryd.prog W .any base t v)
    (hW : DataW.Whole enc Tryd.prog Tryd.f20.params.toList Rows.merkleSpotsSpec.vars false W args.toList ds gs before)
    (hsz : (DataW.weightsEach Tryd.prog (Tryd.f20.params.toList ++ (OpenSpec.ofChange Rows.merkleSpotsSpec).bare.plain.varTypes Tryd.prog) (ds ++ gs)).all (· ≤ reachBytes) = true)
    (hL : laidMetH Tryd.prog Rows.merkleSpotsRow.laid W) :
    Calls Tryd.prog 20 args W fun e W' => ∃ v, e = .returned v ∧ Rows.merkleSpotsSpec.post enc Tryd.prog Tryd.f20 false true false false W args v W' := by
  have hW' := hW
  obtain ⟨p, q, hA0, hV, rfl, hfz, hnd⟩ := hW
  have hA : DataW.TrodAll enc Tryd.prog W 0 (fun _ => true) true Tryd.f20.params.toList args.toList ds p := hA0
  rw [Tryd.params20] at hA hval hsz
  obtain ⟨v0, vs0, d0, ds0, p0, q0, hargs, rfl, rfl, h0, r0⟩ := trodAll_cons hA
  obtain ⟨v1, vs1, d1, ds1, p1, q1, rfl, rfl, rfl, h1, r1⟩ := trodAll_cons r0
  obtain ⟨rfl, rfl, rfl⟩ := trodAll_nil r1
  obtain rfl : args = #[v0, v1] := by cases args; simp_all
  obtain ⟨rfl, rfl⟩ := trodVars_none hV
  have k0 := h0
  have lt0 : ∀ x ∈ p0, x.block < W.heap.size := by obtain ⟨m, hm⟩ := k0; exact DataW.trod_lt m _ _ _ hm
  have k1 := h1
  have lt1 : ∀ x ∈ p1, x.block < W.heap.size := by obtain ⟨m, hm⟩ := k1; exact DataW.trod_lt m _ _ _ hm
  obtain ⟨a0, n0, c0, rfl⟩ := okWide_slice Tryd.underlying42 (hval 0 42 v0 rfl rfl)
  obtain ⟨m0, hm0⟩ := id h0
  obtain ⟨a0, n0, c0, ps0, hv0, hs0, hn0, hl0⟩ := open_prs hm0 (small_arg hsz (j := 0) rfl rfl)
  cases hv0
  obtain ⟨z1, rfl, rfl, rfl, hw1⟩ := open_int Tryd.underlying3 (hval 1 3 v1 rfl rfl) h1
  simp [Lit.wf, IntKind.min, IntKind.max, IntKind.bits, IntKind.signed] at hw1
  have hK := kAts1 hL
  clear hA0 hval
  simp only [List.append_nil] at hW'
  refine (merkleSpots_walk a0 n0 c0 ps0 z1 W (by omega) (by omega) hs0 (Nat.le_refl _) hK).mono fun e W' ⟨he, bel⟩ => ?_
  subst he
  exact ⟨_, rfl, _, _, _, [], _, [], hW', trodAll_mk1 (shut_bool Tryd.underlying4 _), (trodAll_cons_mk (Below.trod laidOut (by kernel_rfl) (of_decide_eq_true (by kernel_rfl)) k0 bel lt0) (trodAll_cons_mk (Below.trod laidOut (by kernel_rfl) (of_decide_eq_true (by kernel_rfl)) k1 bel lt1) trodAll_mk0)), rfl, bel.frame _, fun h => by cases h⟩

theorem laid_met (os : Os) : laidMet Tryd.prog Rows.merkleSpotsRow.laid ((laidWorld os).forCall (fun _ _ => 0) ⟨#[], #[.slice none 0 0, .int .i64 0], []⟩).memory :=
  laidMet_of_run' 8 (by kernel_rfl) (by kernel_rfl)
theorem reads (os : Os) {H : Type} (enc : TypeId × Value → H) : ∃ places, DataW.whole enc Tryd.prog ((laidWorld os).forCall (fun _ _ => 0) ⟨#[], #[.slice none 0 0, .int .i64 0], []⟩).memory Tryd.f20.params.toList Rows.merkleSpotsSpec.vars false (#[.slice none 0 0, .int .i64 0] : Array Value).toList 8 = some ([.nil, .lit (.int .i64 0)], [], places) :=
  ⟨[], by kernel_rfl⟩

set_option maxRecDepth 100000 in
theorem lifted (os : Os) (started : os.Started) (H : Type) (enc : TypeId × Value → H) (F : Stop.Interp) :
    ReturnsInHanded {} Tryd.checked os 20 .any ((OpenSpec.ofChange Rows.merkleSpotsSpec).preRow enc Tryd.prog Tryd.f20 Rows.merkleSpotsRow.domain false Rows.merkleSpotsRow.laid) (((OpenSpec.ofChange Rows.merkleSpotsSpec).at F).post enc Tryd.prog Tryd.f20 false true false false) := by
  obtain ⟨places, hx⟩ := reads os enc
  refine returnsInHanded_of_row (C := Tryd.checked) (s := (OpenSpec.ofChange Rows.merkleSpotsSpec)) own started (by kernel_rfl) Tryd.func20
    (witness_row_at (enc := enc) (C := Tryd.checked) false (laidWorld os) #[.slice none 0 0, .int .i64 0] rfl (by kernel_rfl) (by kernel_rfl) (by kernel_rfl)
      (OpenSpec.preRow_of_cond 8 hx (by kernel_rfl) (fun k hk => by cases hk) (by kernel_rfl) (laid_met os))) ?_
  intro W base args ds gs before hval hW _ _ hsz hL _ _
  exact contract H enc W base args ds gs before hval hW hsz hL

theorem named : Tryd.pinned.checked.prog.funcNamed Rows.merkleSpotsRow.func = some 20 := by kernel_rfl
theorem facts : joinedFacts Tryd.pinned.checked.prog 20 Tryd.f20 (OpenSpec.ofChange Rows.merkleSpotsSpec).bare Rows.merkleSpotsRow = true :=
  joined_of mayEnter_fact lifts_fact rfl make_fact (by kernel_rfl)
theorem inst : Tryd.f20.isInstance Tryd.pinned.checked.prog Rows.merkleSpotsRow.origin Rows.merkleSpotsRow.targs := of_decide_eq_true (by kernel_rfl)
theorem wrap : Tryd.f20.isWrapper Tryd.pinned.checked.prog Rows.merkleSpotsRow.wrapper Rows.merkleSpotsRow.mainSum := by
  unfold Func.isWrapper; first | (rw [if_pos (by decide +kernel)]; kernel_rfl) | (rw [if_neg (by decide +kernel)]; exact ⟨rfl, rfl⟩)
theorem said : Rows.MerkleSpotsSaid :=
  OpenClaim.holds_of_cond 20 Tryd.f20 rfl rfl rfl rfl rfl rfl rfl ⟨rfl, rfl, rfl, rfl, rfl⟩ rfl rfl rfl rfl rfl named Tryd.func20 facts inst wrap
    (fun os started H enc _ F => by rw [OpenClaim.pre_eq_preRow]; exact lifted os started H enc F)

theorem plain (f : FuncId) (fn : Func) (hf : Tryd.pinned.checked.prog.funcNamed "isthmus/isthmuslaw08.MerkleSpots" = some f) (hfn : Tryd.pinned.checked.prog.funcs[f]? = some fn) :
    true = Tryd.pinned.checked.prog.looks [] ∧ ∀ (j : Nat) t, fn.params[j]? = some t → Tryd.pinned.checked.prog.wantsStandIn t = false := by
  obtain rfl : f = 20 := Option.some.inj ((show Tryd.prog.funcNamed "isthmus/isthmuslaw08.MerkleSpots" = some 20 by kernel_rfl).symm.trans hf) |>.symm
  obtain rfl : fn = Tryd.f20 := (Option.some.inj (Tryd.func20.symm.trans hfn)).symm
  refine ⟨by kernel_rfl, fun j t ht => ?_⟩
  rw [Tryd.params20] at ht
  have hm : t = 42 ∨ t = 3 := by simpa using Array.mem_of_getElem? ht
  rcases hm with rfl | rfl
  · exact (show Tryd.prog.wantsStandIn 42 = false by kernel_rfl)
  · exact (show Tryd.prog.wantsStandIn 3 = false by kernel_rfl)

/-- The card. -/
theorem card : Rows.MerkleSpotsCardSaid :=
  Claim7.holds_tied_plain_at .later [] _ _ _ _ said (fun _ h => by cases h) (by kernel_rfl) (fun _ h => by cases h) merkleSpots_row_tie rfl ⟨rfl, rfl⟩ (by kernel_rfl) rfl plain (by kernel_rfl)
#print axioms card
end Go.Proofs.YteceagldjnfeeaaDoor.merkleSpots

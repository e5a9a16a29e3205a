/- The tied card of isthmuslaw04.SignVerifies holds: for every root, key, message and signature, the law returns true and what was handed in reads as it did. -/
import Derived.Test.YteceagldjnfeeaaDoorOpen
import Derived.Test.YteceagldjnfeeaaDoorFacts
import Derived.Test.YteceagldjnfeeaaDoorLaw4c
namespace Go.Proofs.YteceagldjnfeeaaDoor.signVerifies
open Go.ChangeShapes Go.WideShapes Go.ChangeAt Go.RowKit
open Go.ChangeMaps (open_string)
set_option linter.unusedVariables false
set_option linter.unusedSimpArgs false

set_option maxRecDepth 100000 in
theorem contract (H : Type) (enc : TypeId × Value → H) (W : World) (base : Nat) (args : Array Value) (ds gs : List (DataW H)) (before : List MemPlace)
    (hval : ∀ (j : Nat) t v, Tryd.f12.params[j]? = some t → args[j]? = some v → Value.okWide Tryd.prog W .any base t v)
    (hW : DataW.Whole enc Tryd.prog Tryd.f12.params.toList Rows.signVerifiesSpec.vars false W args.toList ds gs before)
    (hsz : (DataW.weightsEach Tryd.prog (Tryd.f12.params.toList ++ (OpenSpec.ofChange Rows.signVerifiesSpec).bare.plain.varTypes Tryd.prog) (ds ++ gs)).all (· ≤ reachBytes) = true)
    (hL : laidMetH Tryd.prog Rows.signVerifiesRow.laid W) :
    Calls Tryd.prog 12 args W fun e W' => ∃ v, e = .returned v ∧ Rows.signVerifiesSpec.post enc Tryd.prog Tryd.f12 false true false false W args v W' := by
  have hW' := hW
  obtain ⟨p, q, hA0, hV, rfl, hfz, hnd⟩ := hW
  have hA : DataW.TrodAll enc Tryd.prog W 0 (fun _ => true) true Tryd.f12.params.toList args.toList ds p := hA0
  rw [Tryd.params12] at hA hval hsz
  obtain ⟨v0, vs0, d0, ds0, p0, q0, hargs, rfl, rfl, h0, r0⟩ := trodAll_cons hA
  obtain ⟨rfl, rfl, rfl⟩ := trodAll_nil r0
  obtain rfl : args = #[v0] := by cases args; simp_all
  obtain ⟨rfl, rfl⟩ := trodVars_none hV
  have k0 := h0
  have lt0 : ∀ x ∈ p0, x.block < W.heap.size := by obtain ⟨m, hm⟩ := k0; exact DataW.trod_lt m _ _ _ hm
  obtain ⟨v00, v01, v02, v03, y00, y01, y02, y03, m0, rfl, rfl, rfl, t00, t01, t02, t03⟩ := Go.Joins.open_agg4 Tryd.underlying59 (by kernel_rfl) (by kernel_rfl) (hval 0 59 v0 rfl rfl) h0
  have hz0 := sized_parts hsz (j := 0) rfl rfl Tryd.underlying59
  obtain ⟨a00, n00, c00, l00, rfl, hs00, hn00⟩ := open_bsv t00
  have hr00 := Nat.le_trans hn00 (sized_len hz0 (j := 0) rfl rfl)
  obtain ⟨z01, hcs01, hx01, hw01⟩ := DataW.trod_int Tryd.underlying3 t01
  simp at hcs01
  subst hcs01
  simp [Lit.wf, IntKind.min, IntKind.max, IntKind.bits, IntKind.signed] at hw01
  obtain ⟨a02, n02, c02, l02, rfl, hs02, hn02⟩ := open_bsv t02
  have hr02 := Nat.le_trans hn02 (sized_len hz0 (j := 2) rfl rfl)
  obtain ⟨a03, n03, c03, l03, rfl, hs03, hn03⟩ := open_bsv t03
  have hr03 := Nat.le_trans hn03 (sized_len hz0 (j := 3) rfl rfl)
  obtain ⟨hK, hK1⟩ := kAts hL
  clear hA0 hval
  simp only [List.append_nil] at hW'
  refine (signVerifies_walk a00 a02 a03 n00 c00 n02 c02 n03 c03 l00 l02 l03 z01 W hs00 hs02 hs03 hK hK1).mono fun e W' ⟨he, bel⟩ => ?_
  subst he
  exact ⟨_, rfl, _, _, _, [], _, [], hW', trodAll_mk1 (shut_bool Tryd.underlying4 _), (trodAll_cons_mk (Below.trod laidOut (by kernel_rfl) (of_decide_eq_true (by kernel_rfl)) k0 bel lt0) trodAll_mk0), rfl, bel.frame _, fun h => by cases h⟩

theorem laid_met (os : Os) : laidMet Tryd.prog Rows.signVerifiesRow.laid ((laidWorld os).forCall (fun _ _ => 0) ⟨#[], #[.agg #[.slice none 0 0, .int .i64 0, .slice none 0 0, .slice none 0 0]], []⟩).memory :=
  laidMet_of_run' 8 (by kernel_rfl) (by kernel_rfl)
theorem reads (os : Os) {H : Type} (enc : TypeId × Value → H) : ∃ places, DataW.whole enc Tryd.prog ((laidWorld os).forCall (fun _ _ => 0) ⟨#[], #[.agg #[.slice none 0 0, .int .i64 0, .slice none 0 0, .slice none 0 0]], []⟩).memory Tryd.f12.params.toList Rows.signVerifiesSpec.vars false (#[.agg #[.slice none 0 0, .int .i64 0, .slice none 0 0, .slice none 0 0]] : Array Value).toList 8 = some ([.agg [.nil, .lit (.int .i64 0), .nil, .nil]], [], places) :=
  ⟨[], by kernel_rfl⟩

set_option maxRecDepth 100000 in
theorem lifted (os : Os) (started : os.Started) (H : Type) (enc : TypeId × Value → H) (F : Stop.Interp) :
    ReturnsInHanded {} Tryd.checked os 12 .any ((OpenSpec.ofChange Rows.signVerifiesSpec).preRow enc Tryd.prog Tryd.f12 Rows.signVerifiesRow.domain false Rows.signVerifiesRow.laid) (((OpenSpec.ofChange Rows.signVerifiesSpec).at F).post enc Tryd.prog Tryd.f12 false true false false) := by
  obtain ⟨places, hx⟩ := reads os enc
  refine returnsInHanded_of_row (C := Tryd.checked) (s := (OpenSpec.ofChange Rows.signVerifiesSpec)) own started (by kernel_rfl) Tryd.func12
    (witness_row_at (enc := enc) (C := Tryd.checked) false (laidWorld os) #[.agg #[.slice none 0 0, .int .i64 0, .slice none 0 0, .slice none 0 0]] rfl (by kernel_rfl) (by kernel_rfl) (by kernel_rfl)
      (OpenSpec.preRow_of_cond 8 hx (by kernel_rfl) (fun k hk => by cases hk) (by kernel_rfl) (laid_met os))) ?_
  intro W base args ds gs before hval hW _ _ hsz hL _ _
  exact contract H enc W base args ds gs before hval hW hsz hL

theorem named : Tryd.pinned.checked.prog.funcNamed Rows.signVerifiesRow.func = some 12 := by kernel_rfl
theorem facts : joinedFacts Tryd.pinned.checked.prog 12 Tryd.f12 (OpenSpec.ofChange Rows.signVerifiesSpec).bare Rows.signVerifiesRow = true :=
  joined_of mayEnter_fact lifts_fact rfl make_fact (by kernel_rfl)
theorem inst : Tryd.f12.isInstance Tryd.pinned.checked.prog Rows.signVerifiesRow.origin Rows.signVerifiesRow.targs := of_decide_eq_true (by kernel_rfl)
theorem wrap : Tryd.f12.isWrapper Tryd.pinned.checked.prog Rows.signVerifiesRow.wrapper Rows.signVerifiesRow.mainSum := by
  unfold Func.isWrapper; first | (rw [if_pos (by decide +kernel)]; kernel_rfl) | (rw [if_neg (by decide +kernel)]; exact ⟨rfl, rfl⟩)
theorem said : Rows.SignVerifiesSaid :=
  OpenClaim.holds_of_cond 12 Tryd.f12 rfl rfl rfl rfl rfl rfl rfl ⟨rfl, rfl, rfl, rfl, rfl⟩ rfl rfl rfl rfl rfl named Tryd.func12 facts inst wrap
    (fun os started H enc _ F => by rw [OpenClaim.pre_eq_preRow]; exact lifted os started H enc F)

theorem plain (f : FuncId) (fn : Func) (hf : Tryd.pinned.checked.prog.funcNamed "isthmus/isthmuslaw04.SignVerifies" = some f) (hfn : Tryd.pinned.checked.prog.funcs[f]? = some fn) :
    true = Tryd.pinned.checked.prog.looks [] ∧ ∀ (j : Nat) t, fn.params[j]? = some t → Tryd.pinned.checked.prog.wantsStandIn t = false := by
  obtain rfl : f = 12 := Option.some.inj ((show Tryd.prog.funcNamed "isthmus/isthmuslaw04.SignVerifies" = some 12 by kernel_rfl).symm.trans hf) |>.symm
  obtain rfl : fn = Tryd.f12 := (Option.some.inj (Tryd.func12.symm.trans hfn)).symm
  refine ⟨by kernel_rfl, fun j t ht => ?_⟩
  rw [Tryd.params12] at ht
  obtain rfl : t = 59 := by simpa using Array.mem_of_getElem? ht
  exact (show Tryd.prog.wantsStandIn 59 = false by kernel_rfl)

/-- The card. -/
theorem card : Rows.SignVerifiesCardSaid :=
  Claim7.holds_tied_plain_at .later [] _ _ _ _ said (fun _ h => by cases h) (by kernel_rfl) (fun _ h => by cases h) signVerifies_row_tie rfl ⟨rfl, rfl⟩ (by kernel_rfl) rfl plain (by kernel_rfl)
#print axioms card
end Go.Proofs.YteceagldjnfeeaaDoor.signVerifies

/- What a question about a proof reads as. -/
import Derived.Test.YteceagldjnfeeaaDoorOpen8b
namespace Go.Proofs.YteceagldjnfeeaaDoor
open Go.ChangeShapes Go.WideShapes Go.ChangeAt Go.RowKit Go.Deep Go.Joins
set_option linter.unusedVariables false
set_option linter.unusedSimpArgs false

set_option maxRecDepth 100000 in
theorem open_ask8 {H : Type} {enc : TypeId × Value → H} {W : World} {r : Reach} {b0 : Nat} {v : Value} {d : DataW H} {p : List MemPlace} (hv : Value.okWide Tryd.prog W r b0 72 v) (h : DataW.Trod enc Tryd.prog W 0 (fun _ => true) true 72 v d p) :
    ∃ ar nr cr root key av nv cv value n al nl cl ls, v = .agg #[.slice ar nr cr, str key, .slice av nv cv, .int .i64 n, .slice al nl cl] ∧ Pt W W.heap.size (.slice ar nr cr) root ∧ Pt W W.heap.size (.slice av nv cv) value ∧ Lvs W W.heap.size al nl cl ls := by
  obtain ⟨cs, rfl, hsz⟩ := okWide_struct Tryd.underlying72 hv
  have c72 : Tryd.prog.cellsOf 72 = 5 := by kernel_rfl
  rw [c72] at hsz
  obtain ⟨fuel, hf⟩ := h
  obtain ⟨y0, y1, y2, y3, n', _, _, t0, t1, t2, t3⟩ := trod_struct4 Tryd.underlying72 hf
  have e : (Value.agg cs).cells.toList = cs.toList := rfl
  obtain ⟨l, rfl⟩ : ∃ l : List Value, cs = l.toArray := ⟨cs.toList, by simp⟩
  have hl : l.length = 5 := hsz
  match l, hl with
  | [u0, u1, u2, u3, u4], _ =>
    have k1 : Tryd.prog.cellsOf 9 = 1 := by kernel_rfl
    have k2 : Tryd.prog.cellsOf 22 = 1 := by kernel_rfl
    have k3 : Tryd.prog.cellsOf 66 = 2 := by kernel_rfl
    have k4 : Tryd.prog.cellsOf 3 = 1 := by kernel_rfl
    have k5 : Tryd.prog.cellsOf 64 = 1 := by kernel_rfl
    simp only [e, k1, k2, k3, List.drop_zero, List.drop_succ_cons, List.take_succ_cons, List.take_zero] at t0 t1 t2 t3
    obtain ⟨z0, z1, n2, _, _, s0, s1⟩ := trod_struct2 Tryd.underlying66 t3
    simp only [k4, k5, List.drop_zero, List.drop_succ_cons, List.take_succ_cons, List.take_zero] at s0 s1
    obtain ⟨ar, nr, cr, root, hv0, hb0, _⟩ := open_bsv t0
    obtain ⟨s, hs, _, _⟩ := DataW.trod_string Tryd.underlying9 t1
    obtain ⟨av, nv, cv, value, hv2, hb2, _⟩ := open_bsv t2
    obtain ⟨z, hz, _, _⟩ := DataW.trod_int Tryd.underlying3 s0
    obtain ⟨al, nl, cl, ls, hv4, hl4⟩ := open_lvs s1
    simp at hs hz
    subst hv0 hs hv2 hz hv4
    exact ⟨ar, nr, cr, root, s.data.toList, av, nv, cv, value, z, al, nl, cl, ls, by rw [str_of], Pt.arg hb0 (Nat.le_refl _), Pt.arg hb2 (Nat.le_refl _), hl4⟩
end Go.Proofs.YteceagldjnfeeaaDoor

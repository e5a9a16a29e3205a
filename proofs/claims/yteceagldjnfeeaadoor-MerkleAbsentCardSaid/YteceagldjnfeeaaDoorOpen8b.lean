/- What a proof and a question about one read as. -/
import Derived.Test.YteceagldjnfeeaaDoorOpen8
import Derived.Test.YteceagldjnfeeaaDoorMk9
namespace Go.Proofs.YteceagldjnfeeaaDoor
open Go.ChangeShapes Go.WideShapes Go.ChangeAt Go.RowKit Go.Deep Go.Joins
set_option linter.unusedVariables false
set_option linter.unusedSimpArgs false

theorem open_hs {H : Type} {enc : TypeId × Value → H} {W : World} {v : Value} {fuel : Nat} {x : DataW H × List MemPlace} (hf : DataW.trod enc Tryd.prog W 0 (fun _ => true) true fuel 77 [v] = some x) :
    ∃ a n c ls, v = .slice a n c ∧ Hs W W.heap.size a n c ls := by
  rcases Go.Deep.open_slice Tryd.underlying77 hf with ⟨hcs, _⟩ | ⟨ad, len, cap, m, fu, D, Pl, hcs, _, hl, hm, hmm, _, hx⟩
  · simp at hcs
    subst hcs
    exact ⟨none, 0, 0, [], rfl, [], Sl.nil W, .nil⟩
  · simp at hcs
    subst hcs
    simp only [if_true] at hmm
    subst hmm
    have c22 : Tryd.prog.cellsOf 22 = 1 := by kernel_rfl
    have each : ∀ i, ∃ q : Value × List UInt8, i < len → (W.cell? (ad.add i) = some q.1 ∧ ∃ a n c, q.1 = .slice a n c ∧ Bs W a n c q.2) := by
      intro i
      by_cases hi : i < len
      · obtain ⟨cs', h1, h2⟩ := hx i (by omega)
        rw [c22, Nat.mul_one] at h1
        obtain ⟨_, hlen, hcell⟩ := World.cells?_some h1
        obtain ⟨u, rfl⟩ := List.length_eq_one_iff.1 hlen
        obtain ⟨a, n, c, l, hv, hb, _⟩ := open_bsv h2
        have h0 := hcell 0 (by omega)
        have e : (ad.add i).add 0 = ad.add i := by
          obtain ⟨b, o, sp⟩ := ad
          unfold Addr.add; split <;> simp_all
        rw [e] at h0
        exact ⟨(u, l), fun _ => ⟨h0, a, n, c, hv, hb⟩⟩
      · exact ⟨(.slice none 0 0, []), fun h => absurd h hi⟩
    obtain ⟨f, hf2⟩ := Classical.axiomOfChoice each
    refine ⟨some ad, len, m, (List.range len).map fun i => (f i).2, rfl, (List.range len).map fun i => (f i).1, ⟨by simp, by omega, by omega, fun j u hj => ?_⟩, ?_⟩
    · rw [List.getElem?_map] at hj
      have hj' : j < len := by
        by_cases h : j < len
        · exact h
        · rw [List.getElem?_eq_none (by simpa using h)] at hj; cases hj
      rw [List.getElem?_range hj'] at hj
      have hc := (hf2 j hj').1
      obtain ⟨b, o, sp⟩ := ad
      have hsp : sp = none := by simpa [Addr.add] using World.cell?_spot (hf2 0 (by omega)).1
      subst hsp
      rw [add_plain] at hc
      exact ⟨b, o, rfl, by rw [hc]; simpa using hj⟩
    · have go : ∀ l : List Nat, (∀ i ∈ l, i < len) → Pts W W.heap.size (l.map fun i => (f i).1) (l.map fun i => (f i).2) := by
        intro l
        induction l with
        | nil => intro _; exact .nil
        | cons i r ih =>
          intro h
          obtain ⟨_, a, n, c, e, hb⟩ := hf2 i (h i (by simp))
          refine .cons ?_ (ih fun k hk => h k (by simp [hk]))
          show Pt W _ (f i).1 (f i).2
          rw [e]
          exact Pt.arg hb (Nat.le_refl _)
      exact go _ fun i hi => List.mem_range.1 hi

theorem add_add (ad : Addr) (x j : Nat) : (ad.add x).add j = ad.add (x + j) := by
  obtain ⟨b, o, sp⟩ := ad
  rcases sp with _ | sp
  · rw [add_plain, add_plain, add_plain, Nat.add_assoc]
  · by_cases hx : x = 0
    · subst hx; simp [Addr.add]
    · by_cases hj : j = 0
      · subst hj; simp [Addr.add]
      · simp [Addr.add, hx, hj, Nat.add_assoc]
set_option maxRecDepth 100000 in
theorem open_lvs {H : Type} {enc : TypeId × Value → H} {W : World} {v : Value} {fuel : Nat} {x : DataW H × List MemPlace} (hf : DataW.trod enc Tryd.prog W 0 (fun _ => true) true fuel 64 [v] = some x) :
    ∃ a n c ls, v = .slice a n c ∧ Lvs W W.heap.size a n c ls := by
  rcases Go.Deep.open_slice Tryd.underlying64 hf with ⟨hcs, _⟩ | ⟨ad, len, cap, m, fu, D, Pl, hcs, _, hl, hm, hmm, _, hx⟩
  · simp at hcs
    subst hcs
    exact ⟨none, 0, 0, [], rfl, Lvs.nil W _⟩
  · simp at hcs
    subst hcs
    simp only [if_true] at hmm
    subst hmm
    have c79 : Tryd.prog.cellsOf 79 = 4 := by kernel_rfl
    have each : ∀ i, ∃ l : LeafV, i < len → ∃ av nv cv ap np cp, W.cell? (ad.add (i * 4)) = some (.int .i64 l.i) ∧ W.cell? (ad.add (i * 4 + 1)) = some (str l.key) ∧ W.cell? (ad.add (i * 4 + 2)) = some (.slice av nv cv) ∧ W.cell? (ad.add (i * 4 + 3)) = some (.slice ap np cp) ∧
        Pt W W.heap.size (.slice av nv cv) l.value ∧ Hs W W.heap.size ap np cp l.path := by
      intro i
      by_cases hi : i < len
      · obtain ⟨cs', h1, h2⟩ := hx i (by omega)
        rw [c79] at h1
        obtain ⟨_, hlen, hcell⟩ := World.cells?_some h1
        obtain ⟨y0, y1, y2, y3, n', _, _, t0, t1, t2, t3⟩ := trod_struct4 Tryd.underlying79 h2
        match cs', hlen with
        | [u0, u1, u2, u3], _ =>
          have k0 : Tryd.prog.cellsOf 3 = 1 := by kernel_rfl
          have k1 : Tryd.prog.cellsOf 9 = 1 := by kernel_rfl
          have k2 : Tryd.prog.cellsOf 22 = 1 := by kernel_rfl
          have k3 : Tryd.prog.cellsOf 77 = 1 := by kernel_rfl
          simp only [k0, k1, k2, k3, List.drop_zero, List.drop_succ_cons, List.take_succ_cons, List.take_zero] at t0 t1 t2 t3
          obtain ⟨z, hz, _, _⟩ := DataW.trod_int Tryd.underlying3 t0
          obtain ⟨s, hs, _, _⟩ := DataW.trod_string Tryd.underlying9 t1
          obtain ⟨av, nv, cv, lv, hv, hb, _⟩ := open_bsv t2
          obtain ⟨ap, np, cp, lp, hv2, hh⟩ := open_hs t3
          simp at hz hs
          subst hz hs hv hv2
          have ea : ∀ j, (ad.add (i * 4)).add j = ad.add (i * 4 + j) := by
            intro j
            exact add_add ad _ j
          refine ⟨⟨z, s.data.toList, lv, lp⟩, fun _ => ⟨av, nv, cv, ap, np, cp, ?_, ?_, ?_, ?_, Pt.arg hb (Nat.le_refl _), hh⟩⟩
          · have := hcell 0 (by omega); rw [ea] at this; exact this
          · have := hcell 1 (by omega); rw [ea] at this; rw [str_of]; exact this
          · have := hcell 2 (by omega); rw [ea] at this; exact this
          · have := hcell 3 (by omega); rw [ea] at this; exact this
      · exact ⟨⟨0, [], [], []⟩, fun h => absurd h hi⟩
    obtain ⟨f, hf2⟩ := Classical.axiomOfChoice each
    refine ⟨some ad, len, m, (List.range len).map f, rfl, ⟨by simp, by omega, by omega, fun j hj => ?_⟩⟩
    have hj' : j < len := by simpa using hj
    obtain ⟨av, nv, cv, ap, np, cp, e0, e1, e2, e3, h5, h6⟩ := hf2 j hj'
    obtain ⟨b, o, sp⟩ := ad
    have hsp : sp = none := by
      obtain ⟨_, _, _, _, _, _, q, _⟩ := hf2 0 (by omega)
      simpa [Addr.add] using World.cell?_spot q
    subst hsp
    rw [add_plain] at e0 e1 e2 e3
    simp only [List.getElem_map, List.getElem_range]
    exact ⟨b, o, av, nv, cv, ap, np, cp, rfl, e0, e1, e2, e3, h5, h6⟩
end Go.Proofs.YteceagldjnfeeaaDoor

/- What a slice of pairs that came in reads as. -/
import Derived.Test.YteceagldjnfeeaaDoorOpen
import Derived.Test.YteceagldjnfeeaaDoorMk1
import Derived.Deep.SlicePairs
namespace Go.Proofs.YteceagldjnfeeaaDoor
open Go.ChangeShapes Go.WideShapes Go.ChangeAt Go.RowKit Go.Deep
set_option linter.unusedVariables false
set_option linter.unusedSimpArgs false

abbrev Small {H : Type} (t : TypeId) (d : DataW H) : Prop := (DataW.weights Tryd.prog t d).all (· ≤ reachBytes) = true
theorem small_arg {H : Type} {ts : List TypeId} {ds : List (DataW H)} (h : (DataW.weightsEach Tryd.prog ts ds).all (· ≤ reachBytes) = true) {j : Nat} {t : TypeId} {d : DataW H} (ht : ts[j]? = some t) (hd : ds[j]? = some d) : Small t d := by
  show List.all _ _ = true
  rw [List.all_eq_true]
  intro n hn
  exact List.all_eq_true.1 h n (DataW.weights_mem_each ht hd n hn)
theorem weights_in_all {H : Type} {P : Program} {e : TypeId} : ∀ {l : List (DataW H)} {d : DataW H}, d ∈ l → ∀ n ∈ DataW.weights P e d, n ∈ DataW.weightsAll P e l
  | [], _, h, _, _ => by cases h
  | x :: r, d, h, n, hn => by
    rw [DataW.weightsAll]
    rcases List.mem_cons.1 h with rfl | h
    · exact List.mem_append_left _ hn
    · exact List.mem_append_right _ (weights_in_all h n hn)
theorem small_elem {H : Type} {t e : TypeId} {elems spare : List (DataW H)} (h : Small t (.slice elems spare)) (hu : Tryd.prog.underlying t = some (.slice e)) {d : DataW H} (hd : d ∈ elems) : Small e d := by
  show List.all _ _ = true
  rw [List.all_eq_true]
  intro n hn
  refine List.all_eq_true.1 h n ?_
  rw [DataW.weights, hu]
  exact List.mem_cons_of_mem _ (List.mem_append_left _ (weights_in_all hd n hn))
theorem small_len {H : Type} {t e : TypeId} {elems spare : List (DataW H)} (h : Small t (.slice elems spare)) (hu : Tryd.prog.underlying t = some (.slice e)) : (elems.length + spare.length) * Tryd.prog.bytesOf e ≤ reachBytes := by
  have := List.all_eq_true.1 h ((elems.length + spare.length) * Tryd.prog.bytesOf e) (by rw [DataW.weights, hu]; exact List.mem_cons_self)
  simpa using this
theorem small_parts {H : Type} {t : TypeId} {fs : Array Field} {parts : List (DataW H)} (h : Small t (.agg parts)) (hu : Tryd.prog.underlying t = some (.struct fs)) : (DataW.weightsEach Tryd.prog (fs.toList.map (·.type)) parts).all (· ≤ reachBytes) = true := by
  rw [List.all_eq_true]
  intro n hn
  refine List.all_eq_true.1 h n ?_
  rw [DataW.weights, hu]
  exact hn
theorem str_of (s : ByteArray) : str s.data.toList = .string s := by
  show Value.string ⟨s.data.toList.toArray⟩ = _
  simp

theorem bytes45 : Tryd.prog.bytesOf 45 = 40 := by kernel_rfl
theorem open_prs {H : Type} {enc : TypeId × Value → H} {W : World} {v : Value} {fuel : Nat} {x : DataW H × List MemPlace} (hf : DataW.trod enc Tryd.prog W 0 (fun _ => true) true fuel 42 [v] = some x) (hsz : Small 42 x.1) :
    ∃ a n c ps, v = .slice a n c ∧ Prs W W.heap.size a n c ps ∧ n ≤ 3518437208780 ∧ ∀ k, k < n → (valAt ps k).length ≤ 140737488351232 := by
  rcases open_slice_pairs Tryd.underlying42 Tryd.underlying45 (by kernel_rfl) rfl rfl (by kernel_rfl) (by kernel_rfl) hf with ⟨hcs, rfl⟩ | ⟨ad, len, cap, m, fu, V0, V1, D0, D1, P0, P1, hcs, _, hl, hm, hmm, rfl, hx⟩
  · simp at hcs
    subst hcs
    exact ⟨none, 0, 0, [], rfl, Prs.nil W _, by omega, fun k hk => by omega⟩
  · simp at hcs
    subst hcs
    simp only [if_true] at hmm
    subst hmm
    have hlen := small_len hsz Tryd.underlying42
    rw [bytes45] at hlen
    simp only [List.length_map, List.length_range] at hlen
    unfold reachBytes at hlen
    have each : ∀ i, ∃ kv : KV, i < len → (V0 i = str kv.1 ∧ (∃ a n c, V1 i = .slice a n c ∧ Bs W a n c kv.2) ∧ kv.2.length ≤ 140737488351232) := by
      intro i
      by_cases hi : i < len
      · obtain ⟨_, _, t0, t1⟩ := hx i (by omega)
        obtain ⟨s, hs, _, _⟩ := DataW.trod_string Tryd.underlying9 t0
        simp at hs
        obtain ⟨a, n, c, l, hv, hb, hn⟩ := open_bsv t1
        refine ⟨(s.data.toList, l), fun _ => ⟨by rw [hs, str_of], ⟨a, n, c, hv, hb⟩, ?_⟩⟩
        have hse := small_elem hsz Tryd.underlying42 (d := .agg [D0 i, D1 i]) (List.mem_map.2 ⟨i, List.mem_range.2 hi, rfl⟩)
        have hp := sized_len (small_parts hse Tryd.underlying45) (j := 1) rfl rfl
        have hb2 := hb.blen
        have hn2 : n ≤ readLen (D1 i) := hn
        show l.length ≤ _
        omega
      · exact ⟨([], []), fun h => absurd h hi⟩
    obtain ⟨f, hf2⟩ := Classical.axiomOfChoice each
    have hat : ∀ j, j < len → ((List.range len).map f).getD j ([], []) = f j := fun j hj => by
      rw [List.getD_eq_getElem?_getD, List.getElem?_map, List.getElem?_range hj]; rfl
    refine ⟨some ad, len, m, (List.range len).map f, rfl, ⟨by simp, by omega, by omega, fun j hj => ?_⟩, by omega, fun k hk => ?_⟩
    · obtain ⟨e1, ⟨a, n, c, e2, hb⟩, _⟩ := hf2 j hj
      obtain ⟨c0, c1, _, _⟩ := hx j (by omega)
      obtain ⟨b, o, sp⟩ := ad
      have hsp : sp = none := by simpa [Addr.add] using World.cell?_spot (hx 0 (by omega)).1
      subst hsp
      unfold keyAt valAt
      rw [hat j hj]
      rw [add_plain] at c0 c1
      exact ⟨b, o, V1 j, rfl, by rw [c0, e1], by rw [← c1]; rfl, by rw [e2]; exact Pt.arg hb (Nat.le_refl _)⟩
    · unfold valAt
      rw [hat k hk]
      exact (hf2 k hk).2.2
end Go.Proofs.YteceagldjnfeeaaDoor

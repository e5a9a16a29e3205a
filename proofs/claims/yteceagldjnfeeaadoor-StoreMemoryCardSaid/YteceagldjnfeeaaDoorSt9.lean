/- Rows of pairs whose values are the call's own; the keys in order; the walk of the store's Pairs. -/
import Derived.Test.YteceagldjnfeeaaDoorSt8
import Derived.Test.YteceagldjnfeeaaDoorIter
namespace Go.Proofs.YteceagldjnfeeaaDoor
open Go.RowKit Go.Maps Go.MapKept Go.Sort
set_option linter.unusedVariables false
set_option linter.unusedSimpArgs false

/-! ### The keys in order -/
theorem keys_sorted {es : SM Ent} (h : Rise es) : (es.map Prod.fst).mergeSort (fun x y => decide (x ≤ y)) = es.map Prod.fst := by
  apply List.mergeSort_of_pairwise
  refine List.pairwise_map.2 (List.Pairwise.imp ?_ h)
  intro a b hab
  have h1 := blt_asymm _ _ hab
  have h2 : Op.bytesLess b.1 a.1 = false := h1
  rw [bytesLess_eq] at h2
  simp only [decide_eq_true_eq]
  exact fun hlt => by simp [hlt] at h2
theorem keys_any (b : Nat) (w : World) : Calls Tryd.prog 73 #[.map (some b)] w fun e w' => e = .returned (.func (.func 114) #[] #[.pointer (some ⟨w.heap.size, 0, none⟩)]) ∧ w' = w.alloc (.cells #[.map (some b)] 101) :=
  callsIn_wide.1 (Tryd.maps_Keys_73 (some b) w)
theorem sorted_any (B b : Nat) (es : SM Ent) (w : World) (hM : MapE B w b es) (hn : es.length ≤ 8796093022208) :
    Calls Tryd.prog 72 #[.func (.func 114) #[] #[.pointer (some ⟨w.heap.size, 0, none⟩)]] (w.alloc (.cells #[.map (some b)] 101)) fun e w' => ∃ v, e = .returned v ∧
      w'.ownsRow (w.alloc (.cells #[.map (some b)] 101)).heap.size 9 1 v es.length (es.map fun e => str e.1) ∧ Below w.heap.size w w' := by
  obtain ⟨m, hm, hen⟩ := hM.ex
  refine (callsIn_wide.1 (Tryd.slices_Sorted_keys_72_73 b m.length (toD m) RV w hm (by rw [size_toD, hen.length]; unfold maxLen; omega) (by rw [size_toD, hen.length]; omega))).mono ?_
  rintro e w' ⟨v, ss, rfl, hp, hrow, _, hb⟩
  rw [keys_toD, hen.keys] at hp
  have hl : ss.length = es.length := by rw [hp.length_eq, List.length_map]
  have he : ss.mergeSort (fun x y => decide (x ≤ y)) = es.map Prod.fst := by
    have := mergeSort_of_perm hp
    exact this.trans (keys_sorted hM.rise)
  rw [he, hl, List.map_map] at hrow
  exact ⟨v, rfl, hrow, below_then (row_below w _).out (row_below w _).out.size hb⟩

theorem look_at {B b : Nat} {w : World} {es : SM Ent} (hM : MapE B w b es) {k : List UInt8} {e : Ent} (hs : sget es k = some e) (hk : k.length ≤ maxLen) :
    ∃ aa n c, (Instr.lookup 101 (.map (some b)) (str k) false).run Tryd.prog w = .ok (.agg #[.slice aa n c, .bool e.2]) w ∧ EV B w (.agg #[.slice aa n c, .bool e.2]) e := by
  obtain ⟨l, hl, hen⟩ := hM.ex
  rcases hen.get k with ⟨h1, h2⟩ | ⟨v, e', h1, h2, h3⟩
  · rw [hs] at h2; cases h2
  · rw [hs] at h2
    cases h2
    obtain ⟨v', ps, hrun, hv⟩ := hl.lookup law9 Tryd.underlying101 (zeroE w) (RV_mk none 0 0 false) (key9 hk)
    rw [at_toD, h1] at hv
    have := RV_eq hv
    simp only [Prod.mk.injEq] at this
    have h4 : v = v' := by
      have h5 := this.1
      unfold ent at h5
      injection h5
    subst h4
    obtain ⟨aa, n, c, e1, _⟩ := id h3
    subst e1
    exact ⟨aa, n, c, hrun, h3⟩

/-! ### A row of pairs with values of the call's own -/
structure OwnV (B : Nat) (w : World) (v : Value) (ps : List KV) : Prop where
  ex : ∃ vs : List Value, vs.length = ps.length ∧ w.ownsRow B 45 2 v ps.length (kvrow ps vs) ∧ ∀ j (hj : j < ps.length) (hj' : j < vs.length), w.ownsRow B 5 1 vs[j] ps[j].2.length (bts ps[j].2)
theorem OwnV.below {B : Nat} {w w1 : World} {v : Value} {ps : List KV} (h : OwnV B w v ps) (hb : Below w.heap.size w w1) : OwnV B w1 v ps := by
  obtain ⟨vs, h1, h2, h3⟩ := h.ex
  have key : ∀ {e size : Nat} {u : Value} {n : Nat} {xs : List Value}, w.ownsRow B e size u n xs → w1.ownsRow B e size u n xs := fun {e size u n xs} h => h.kept (row := none) ⟨hb.os, hb.tape, hb.output, hb.size, fun i hi _ => hb.block i hi⟩ (by cases u.ownBlock <;> simp)
  exact ⟨vs, h1, key h2, fun j hj hj' => key (h3 j hj hj')⟩
theorem OwnV.nil (B : Nat) (w : World) : OwnV B w (.slice none 0 0) [] := ⟨[], rfl, World.ownsRow_nil _ _ _ _, fun j hj => by simp at hj⟩
theorem Pts.of {w : World} {B : Nat} : ∀ {vs : List Value} {ls : List (List UInt8)}, vs.length = ls.length → (∀ j (hj : j < ls.length) (hj' : j < vs.length), Pt w B vs[j] ls[j]) → Pts w B vs ls
  | [], [], _, _ => .nil
  | [], _ :: _, h, _ => by simp at h
  | _ :: _, [], h, _ => by simp at h
  | v :: vs, l :: ls, h, hp => .cons (hp 0 (by simp) (by simp)) (Pts.of (by simpa using h) fun j hj hj' => hp (j + 1) (by simpa using hj) (by simpa using hj'))
theorem OwnV.ownP {B : Nat} {w : World} {v : Value} {ps : List KV} (h : OwnV B w v ps) : OwnP B w v ps := by
  obtain ⟨vs, h1, h2, h3⟩ := h.ex
  refine ⟨vs, h1, h2, Pts.of (by rw [List.length_map]; exact h1) fun j hj hj' => ?_⟩
  rw [List.getElem_map]
  exact Pt.own (h3 j (by rw [List.length_map] at hj; exact hj) hj')
theorem OwnV.t45 {B : Nat} {w : World} {v : Value} {ps : List KV} (h : OwnV B w v ps) : ∀ g, v.ownBlock = some g → B ≤ g ∧ ∃ cs fr, w.heap[g]? = some (.cells cs 45 fr) := by
  obtain ⟨vs, h1, h2, h3⟩ := h.ex
  intro g hg
  rcases h2.2 with ⟨e2, _⟩ | ⟨g3, cap3, cur, e2, hb, hgc, _⟩
  · rw [e2] at hg; cases hg
  · rw [e2] at hg
    cases hg
    exact ⟨hb, cur, _, hgc⟩
/-- What is no row of pairs stays. -/
theorem row_keptO {B : Nat} {w w1 : World} {ob : Option Nat} {e size : Nat} {u : Value} {n : Nat} {xs : List Value} (h : w.ownsRow B e size u n xs) (hg : w.grownBy w1 ob) (h45 : ∀ g, ob = some g → ∃ cs fr, w.heap[g]? = some (.cells cs 45 fr)) (he : e ≠ 45) : w1.ownsRow B e size u n xs := by
  refine h.kept hg ?_
  rcases h.2 with ⟨e2, _⟩ | ⟨g3, cap3, cur, e2, hb, hgc, _⟩
  · left; rw [e2]; rfl
  · right
    rw [e2]
    intro h4
    obtain ⟨cs, fr, h5⟩ := h45 g3 h4.symm
    rw [hgc] at h5
    cases h5
    exact he rfl
theorem MapE.keptO {B : Nat} {w w1 : World} {ob : Option Nat} {b : Nat} {es : SM Ent} (h : MapE B w b es) (hg : w.grownBy w1 ob) (h45 : ∀ g, ob = some g → ∃ cs fr, w.heap[g]? = some (.cells cs 45 fr)) : MapE B w1 b es := by
  rcases ob with _ | g
  · exact h.below ⟨hg.os, hg.tape, hg.output, hg.size, fun i hi => hg.block i hi (by simp)⟩
  · obtain ⟨cs, fr, h5⟩ := h45 g rfl
    obtain ⟨_, _, hb⟩ := h.blk
    exact h.keptM hg (by rintro rfl; rw [hb] at h5; cases h5) (fun cs fr h6 => by rw [h5] at h6; cases h6)
theorem app_v {w w0 : World} {ops : Array Oper} {rest : List Oper} {o : Oper} {ac : Act} {Q : Exit → Act → World → Prop} (hgd : o.guard = none) (s x : Operand)
    (ho : o.op = .call { callee := .builtin .append, args := #[s, x], argTypes := #[42, 42] })
    (v : Value) (ps : List KV) (hs : ac.eval s = v) (HO : Hid (OwnV w0.heap.size w v ps)) (HB : Hid (Below w0.heap.size w0 w))
    (k : List UInt8) (xv : Value) (l : List UInt8) (hx : ac.eval x = .slice (some ⟨w.heap.size, 0, none⟩) 1 1) (hp : Hid (w.ownsRow w0.heap.size 5 1 xv l.length (bts l))) (hlen : Hid (ps.length ≤ 3518437208780))
    (h : ∀ v' w', Hid (OwnV w0.heap.size w' v' (ps ++ [(k, l)])) → Hid (Below w0.heap.size w0 w') → Hid ((w.alloc (.cells #[str k, xv] 45)).grownBy w' v.ownBlock) → wpList Tryd.prog ops Q rest (ac.put o.dst v') w') :
    wpList Tryd.prog ops Q (o :: rest) ac (w.alloc (.cells #[str k, xv] 45)) := by
  obtain ⟨vs, h1, h2, h3⟩ := HO.out.ex
  have hl : ps.length ≤ 3518437208780 := hlen
  have hb : Below w.heap.size w (w.alloc (.cells #[str k, xv] 45)) := (row_below w _).out
  have hB' := below_then HB.out HB.out.size hb
  have h2' : (w.alloc (.cells #[str k, xv] 45)).ownsRow w0.heap.size 45 2 v ps.length (kvrow ps vs) := h2.kept (row := none) ⟨hb.os, hb.tape, hb.output, hb.size, fun i hi _ => hb.block i hi⟩ (by cases v.ownBlock <;> simp)
  have hO' := HO.out.below hb
  obtain ⟨i, hi, hzz⟩ := Option.map_eq_some_iff.1 info45
  simp only [Prod.mk.injEq] at hzz
  obtain ⟨hz0, hz1, hz2⟩ := hzz
  have hone : ∀ u ∈ [str k, xv], u.oneCell' = true := by
    intro u hu
    obtain ⟨a, c, e, _⟩ := own_sl hp.out
    simp only [List.mem_cons, List.not_mem_nil, or_false] at hu
    rcases hu with rfl | rfl
    · rfl
    · subst e; rfl
  refine wpList_append_lies _ hgd s x 42 ho w0.heap.size 45 i _ 2 40 Tryd.underlying42 hi hz0 hz1 hz2 rfl (by omega) v ps.length (kvrow ps vs) hs h2'
    ⟨w.heap.size, 0, none⟩ 1 1 [str k, xv] hx rfl (World.news_of_block (cs := #[str k, xv]) (t := 45) (fr := (0, 0)) (heap_alloc_new w _)) hone (by omega) (by unfold maxLen; omega) (by omega) (Nat.le_trans HB.out.size hb.size) _ rfl ?_
  intro g cap w' ho' hg' _ _
  have h45 : ∀ g, v.ownBlock = some g → ∃ cs fr, (w.alloc (.cells #[str k, xv] 45)).heap[g]? = some (.cells cs 45 fr) := fun g hg => (hO'.t45 g hg).2
  refine h _ _ ?_ (hB'.grown hg' hB'.size fun j hj => (h2.lt j hj).1) hg'
  have kp : ∀ {u : Value} {n : Nat} {xs : List Value}, w.ownsRow w0.heap.size 5 1 u n xs → w'.ownsRow w0.heap.size 5 1 u n xs := fun {u n xs} hu =>
    row_keptO (hu.kept (row := none) ⟨hb.os, hb.tape, hb.output, hb.size, fun i hi _ => hb.block i hi⟩ (by cases u.ownBlock <;> simp)) hg' h45 (by decide)
  refine ⟨vs ++ [xv], by simp [h1], ?_, fun j hj hj' => ?_⟩
  · rw [List.length_append, kvrow_snoc _ _ _ _ h1]; exact ho'
  · by_cases hj2 : j < ps.length
    · rw [List.getElem_append_left (by omega)]
      have e3 : (ps ++ [(k, l)])[j] = ps[j] := List.getElem_append_left hj2
      rw [e3]
      exact kp (h3 j hj2 (by omega))
    · obtain rfl : j = ps.length := by simp at hj; omega
      have e1 : (vs ++ [xv])[ps.length]'hj' = xv := by rw [List.getElem_append_right (by omega)]; simp [h1]
      have e3 : (ps ++ [(k, l)])[ps.length]'hj = (k, l) := by rw [List.getElem_append_right (Nat.le_refl _)]; simp
      rw [e1, e3]
      exact kp hp.out
end Go.Proofs.YteceagldjnfeeaaDoor

/- Rows of leaves that the call makes: what they read as, and append on them. -/
import Derived.Test.YteceagldjnfeeaaDoorMkF
import Derived.Test.YteceagldjnfeeaaDoorMkP
import Derived.Test.YteceagldjnfeeaaDoorMkLaw
namespace Go.Proofs.YteceagldjnfeeaaDoor
open Go.RowKit
set_option linter.unusedVariables false
set_option linter.unusedSimpArgs false

/-- A way, as it reads: its row lies below D, or is a row of slices. -/
def Ht (w : World) (D : Nat) (v : Value) (ls : List (List UInt8)) : Prop :=
  ∃ a n c, v = .slice a n c ∧ Hs w D a n c ls ∧ (n = 0 ∨ ∀ ad, a = some ad → ad.block < D ∨ ∃ cs fr, w.heap[ad.block]? = some (.cells cs 22 fr))
theorem Ht.below {w w1 : World} {D : Nat} {v : Value} {ls : List (List UInt8)} (h : Ht w D v ls) (hb : Below w.heap.size w w1) : Ht w1 D v ls := by
  obtain ⟨a, n, c, e, hs, hd⟩ := h
  refine ⟨a, n, c, e, hs.below hb, ?_⟩
  rcases hd with h0 | hd
  · exact .inl h0
  · refine .inr fun ad ha => ?_
    rcases hd ad ha with h1 | ⟨cs, fr, h1⟩
    · exact .inl h1
    · exact .inr ⟨cs, fr, (hb.block _ (blk_lt h1)).trans h1⟩
theorem Ht.kept {w w1 : World} {D g : Nat} {v : Value} {ls : List (List UInt8)} {e : TypeId} {cs0 : Array Value} {fr0 : Nat × Nat} (h : Ht w D v ls) (hg : w.grownBy w1 (some g)) (hD : D ≤ g) (ht : w.heap[g]? = some (.cells cs0 e fr0)) (he : e ≠ 5) (he2 : e ≠ 22) : Ht w1 D v ls := by
  obtain ⟨a, n, c, ev, ⟨vs, hs, hp⟩, hd⟩ := h
  have hne : ∀ ad, a = some ad → n ≠ 0 → ad.block ≠ g := by
    rintro ad ha hn rfl
    rcases hd with h0 | hd
    · exact hn h0
    · rcases hd ad ha with h1 | ⟨cs, fr, h1⟩
      · omega
      · rw [ht] at h1
        cases h1
        exact he2 rfl
  by_cases hn : n = 0
  · subst hn
    have hvs : vs = [] := List.eq_nil_of_length_eq_zero hs.len
    subst hvs
    cases hp
    exact ⟨a, 0, c, ev, ⟨[], Sl.empty w1 a c hs.big, .nil⟩, .inl rfl⟩
  · refine ⟨a, n, c, ev, ⟨vs, hs.kept hg (fun ad ha e2 => hne ad ha hn (Option.some.inj e2)), hp.kept hg hD ht he⟩, ?_⟩
    rcases hd with h0 | hd
    · exact .inl h0
    · refine .inr fun ad ha => ?_
      rcases hd ad ha with h1 | ⟨cs, fr, h1⟩
      · exact .inl h1
      · exact .inr ⟨cs, fr, (hg.block _ (blk_lt h1) (fun e2 => hne ad ha hn (Option.some.inj e2))).trans h1⟩
theorem Ht.own {B D C : Nat} {w : World} {v : Value} {vs : List Value} {ls : List (List UInt8)} (h : Lst B D w v vs ls) (hC : D ≤ C) : Ht w C v ls := by
  obtain ⟨a, c, e, hs⟩ := own_sl h.row
  refine ⟨a, vs.length, c, e, ⟨vs, hs, h.pts.mono hC⟩, ?_⟩
  rcases h.row.2 with ⟨e2, h0⟩ | ⟨g, cap, cur, e2, _, hg, _⟩
  · exact .inl h0
  · refine .inr fun ad ha => .inr ?_
    rw [e] at e2; cases e2; cases ha; exact ⟨cur, (0, 0), hg⟩

theorem info79 : (Tryd.prog.info? 79).map (fun i => (i.zero, i.size, i.bytes)) = some (some (.agg #[.int .i64 0, .string ByteArray.empty, .slice none 0 0, .slice none 0 0]), 4, 72) := by kernel_rfl
/-- The cells of a row of leaves. -/
def lvrow : List LeafV → List (Value × Value) → List Value
  | l :: ls, v :: vs => .int .i64 l.i :: str l.key :: v.1 :: v.2 :: lvrow ls vs
  | _, _ => []
theorem lvrow_length (ls : List LeafV) (vs : List (Value × Value)) (h : vs.length = ls.length) : (lvrow ls vs).length = ls.length * 4 := by
  induction ls generalizing vs with
  | nil => rfl
  | cons q ls ih =>
    cases vs with
    | nil => simp at h
    | cons u vs =>
      have := ih vs (by simpa using h)
      simp only [lvrow, List.length_cons, this]; omega
theorem lvrow_snoc (ls : List LeafV) (vs : List (Value × Value)) (l : LeafV) (v : Value × Value) (h : vs.length = ls.length) : lvrow (ls ++ [l]) (vs ++ [v]) = lvrow ls vs ++ [.int .i64 l.i, str l.key, v.1, v.2] := by
  induction ls generalizing vs with
  | nil =>
    obtain rfl : vs = [] := List.eq_nil_of_length_eq_zero h
    rfl
  | cons q ls ih =>
    cases vs with
    | nil => simp at h
    | cons u vs =>
      show .int .i64 q.i :: str q.key :: u.1 :: u.2 :: lvrow (ls ++ [l]) (vs ++ [v]) = _
      rw [ih vs (by simpa using h)]
      rfl
theorem lvrow_at (ls : List LeafV) (vs : List (Value × Value)) (h : vs.length = ls.length) (j : Nat) (hj : j < ls.length) :
    (lvrow ls vs)[j * 4]? = some (.int .i64 ls[j].i) ∧ (lvrow ls vs)[j * 4 + 1]? = some (str ls[j].key) ∧ (lvrow ls vs)[j * 4 + 2]? = some (vs[j]'(by omega)).1 ∧ (lvrow ls vs)[j * 4 + 3]? = some (vs[j]'(by omega)).2 := by
  induction ls generalizing vs j with
  | nil => simp at hj
  | cons q ls ih =>
    cases vs with
    | nil => simp at h
    | cons u vs =>
      cases j with
      | zero => exact ⟨rfl, rfl, rfl, rfl⟩
      | succ j =>
        have e : ∀ k, (j + 1) * 4 + k = j * 4 + k + 1 + 1 + 1 + 1 := fun k => by omega
        obtain ⟨h1, h2, h3, h4⟩ := ih vs (by simpa using h) j (by simpa using hj)
        refine ⟨?_, ?_, ?_, ?_⟩
        · have := e 0; simp only [Nat.add_zero] at this; rw [this]; exact h1
        · rw [e 1]; exact h2
        · rw [e 2]; exact h3
        · rw [e 3]; exact h4

/-- What a leaf's value and way read as. -/
def LfR (w : World) (D : Nat) (v : Value × Value) (l : LeafV) : Prop := Pt w D v.1 l.value ∧ Ht w D v.2 l.path
theorem LfR.below {w w1 : World} {D : Nat} {v : Value × Value} {l : LeafV} (h : LfR w D v l) (hb : Below w.heap.size w w1) : LfR w1 D v l := ⟨h.1.below hb, h.2.below hb⟩
theorem LfR.kept {w w1 : World} {D g : Nat} {v : Value × Value} {l : LeafV} {e : TypeId} {cs0 : Array Value} {fr0 : Nat × Nat} (h : LfR w D v l) (hg : w.grownBy w1 (some g)) (hD : D ≤ g) (ht : w.heap[g]? = some (.cells cs0 e fr0)) (he : e ≠ 5) (he2 : e ≠ 22) : LfR w1 D v l :=
  ⟨h.1.kept hg hD ht he, h.2.kept hg hD ht he he2⟩

structure OwnL (B D : Nat) (w : World) (v : Value) (ls : List LeafV) : Prop where
  ex : ∃ vs : List (Value × Value), vs.length = ls.length ∧ w.ownsRow B 79 4 v ls.length (lvrow ls vs) ∧ ∀ j (hj : j < ls.length) (hj' : j < vs.length), LfR w D vs[j] ls[j]
theorem OwnL.below {B D : Nat} {w w1 : World} {v : Value} {ls : List LeafV} (h : OwnL B D w v ls) (hb : Below w.heap.size w w1) : OwnL B D w1 v ls := by
  obtain ⟨vs, h1, h2, h3⟩ := h.ex
  exact ⟨vs, h1, h2.kept (row := none) ⟨hb.os, hb.tape, hb.output, hb.size, fun i hi _ => hb.block i hi⟩ (by cases v.ownBlock <;> simp), fun j hj hj' => (h3 j hj hj').below hb⟩
theorem OwnL.lt {B D : Nat} {w : World} {v : Value} {ls : List LeafV} (h : OwnL B D w v ls) (g : Nat) (hg : v.ownBlock = some g) : B ≤ g ∧ g < w.heap.size := by
  obtain ⟨vs, h1, h2, h3⟩ := h.ex
  exact h2.lt g hg
theorem OwnL.nil (B D : Nat) (w : World) : OwnL B D w (.slice none 0 0) [] := ⟨[], rfl, World.ownsRow_nil _ _ _ _, fun j hj => by simp at hj⟩
theorem OwnL.kept {B D g : Nat} {w w1 : World} {v : Value} {ls : List LeafV} {e : TypeId} {cs0 : Array Value} {fr0 : Nat × Nat} (h : OwnL B D w v ls) (hg : w.grownBy w1 (some g)) (hD : D ≤ g) (ht : w.heap[g]? = some (.cells cs0 e fr0)) (he : e ≠ 5) (he2 : e ≠ 22) (he3 : e ≠ 79) : OwnL B D w1 v ls := by
  obtain ⟨vs, h1, h2, h3⟩ := h.ex
  refine ⟨vs, h1, h2.kept hg ?_, fun j hj hj' => (h3 j hj hj').kept hg hD ht he he2⟩
  rcases h2.2 with ⟨e2, _⟩ | ⟨g2, cap, cur, e2, _, hgc, _⟩
  · left; rw [e2]; rfl
  · right
    rw [e2]
    intro h4
    simp only [Value.ownBlock, Option.some.injEq] at h4
    subst h4
    rw [hgc] at ht
    cases ht
    exact he3 rfl
theorem OwnL.lvs {B D : Nat} {w : World} {v : Value} {ls : List LeafV} (h : OwnL B D w v ls) : ∃ a c, v = .slice a ls.length c ∧ Lvs w D a ls.length c ls := by
  obtain ⟨vs, h1, h2, h3⟩ := h.ex
  rcases h2.2 with ⟨rfl, h0⟩ | ⟨g, cap, cur, rfl, hb, hg, hnc, hm, hs, ht⟩
  · obtain rfl : ls = [] := List.eq_nil_of_length_eq_zero h0
    exact ⟨none, 0, rfl, Lvs.nil w D⟩
  · refine ⟨_, cap, rfl, rfl, hnc, hm, fun j hj => ?_⟩
    obtain ⟨k1, k2, k3, k4⟩ := lvrow_at ls vs h1 j hj
    have hj2 : j < vs.length := by omega
    have c1 := h2.cells (g := g) rfl _ _ k1
    have c2 := h2.cells (g := g) rfl _ _ k2
    have c3 := h2.cells (g := g) rfl _ _ k3
    have c4 := h2.cells (g := g) rfl _ _ k4
    have e : ∀ x, (⟨g, 0, none⟩ : Addr).add x = ⟨g, 0 + x, none⟩ := fun x => by unfold Addr.add; split <;> simp_all
    rw [e] at c1 c2 c3 c4
    obtain ⟨hv, hp⟩ := h3 j hj hj2
    obtain ⟨av, nv, cv, ev, _⟩ := id hv
    obtain ⟨ap, np, cp, ep, hh, _⟩ := hp
    refine ⟨g, 0, av, nv, cv, ap, np, cp, rfl, c1, c2, ?_, ?_, by rw [← ev]; exact hv, hh⟩
    · rw [← ev]; exact c3
    · rw [← ep]; exact c4

/-- append(s, leaf): the leaf stands in a new block. -/
theorem run_app_l {w : World} {B D : Nat} (ty : TypeId) (v : Value) (ls : List LeafV) (HO : OwnL B D w v ls) (hB : B ≤ w.heap.size) (hD : D ≤ B)
    (l : LeafV) (xv xp : Value) (hp : LfR w D (xv, xp) l) (hlen : ls.length ≤ 1000000) :
    ∃ v' w', (Builtin.append_ #[64, 64] ty #[v, .slice (some ⟨w.heap.size, 0, none⟩) 1 1]).run Tryd.prog (w.alloc (.cells #[.int .i64 l.i, str l.key, xv, xp] 79)) = .ok v' w' ∧ OwnL B D w' v' (ls ++ [l]) ∧
      (w.alloc (.cells #[.int .i64 l.i, str l.key, xv, xp] 79)).grownBy w' v.ownBlock := by
  obtain ⟨vs, h1, h2, h3⟩ := HO.ex
  have hb : Below w.heap.size w (w.alloc (.cells #[.int .i64 l.i, str l.key, xv, xp] 79)) := (row_below w _).out
  have h2' : (w.alloc (.cells #[.int .i64 l.i, str l.key, xv, xp] 79)).ownsRow B 79 4 v ls.length (lvrow ls vs) := h2.kept (row := none) ⟨hb.os, hb.tape, hb.output, hb.size, fun i hi _ => hb.block i hi⟩ (by cases v.ownBlock <;> simp)
  obtain ⟨i, hi, hzz⟩ := Option.map_eq_some_iff.1 info79
  simp only [Prod.mk.injEq] at hzz
  obtain ⟨hz0, hz1, hz2⟩ := hzz
  have hone : ∀ u ∈ [Value.int .i64 l.i, str l.key, xv, xp], u.oneCell' = true := by
    intro u hu
    obtain ⟨a, n, c, e, _⟩ := hp.1
    obtain ⟨a2, n2, c2, e2, _⟩ := hp.2
    simp only at e e2
    simp only [List.mem_cons, List.not_mem_nil, or_false] at hu
    rcases hu with rfl | rfl | rfl | rfl
    · rfl
    · rfl
    · subst e; rfl
    · subst e2; rfl
  obtain ⟨v', w', hr, ho', hg', _⟩ := run_append_own (P := Tryd.prog) (w.alloc (.cells #[.int .i64 l.i, str l.key, xv, xp] 79)) B 64 ty 79 i _ 4 72 Tryd.underlying64 hi hz0 hz1 hz2 rfl (by omega) v ls.length (lvrow ls vs) h2'
    ⟨w.heap.size, 0, none⟩ 1 1 [.int .i64 l.i, str l.key, xv, xp] rfl (World.news_of_block (cs := #[.int .i64 l.i, str l.key, xv, xp]) (t := 79) (fr := (0, 0)) (heap_alloc_new w _)) hone (by unfold maxLen; omega) (by omega) (Nat.le_trans hB hb.size)
  refine ⟨v', w', hr, ⟨vs ++ [(xv, xp)], by simp [h1], ?_, fun j hj hj' => ?_⟩, hg'⟩
  · rw [List.length_append, lvrow_snoc _ _ _ _ h1]; exact ho'
  · have key : ∀ (u : Value × Value) (m : LeafV), LfR w D u m → LfR w' D u m := fun u m hu => by
      have hu := hu.below hb
      rcases hv : v.ownBlock with _ | g2
      · rw [hv] at hg'
        exact hu.below ⟨hg'.os, hg'.tape, hg'.output, hg'.size, fun k hk => hg'.block k hk (by simp)⟩
      · rw [hv] at hg'
        rcases h2'.2 with ⟨e2, _⟩ | ⟨g3, cap3, cur, e2, hg2, hgc, _⟩
        · rw [e2] at hv; cases hv
        · rw [e2] at hv
          cases hv
          exact hu.kept hg' (Nat.le_trans hD hg2) hgc (by decide) (by decide)
    by_cases hj2 : j < ls.length
    · rw [List.getElem_append_left hj2, List.getElem_append_left (by omega)]
      exact key _ _ (h3 j hj2 (by omega))
    · obtain rfl : j = ls.length := by simp at hj; omega
      rw [List.getElem_append_right (by omega), List.getElem_append_right (by omega)]
      simp only [Nat.sub_self, List.getElem_cons_zero, h1]
      exact key _ _ hp
end Go.Proofs.YteceagldjnfeeaaDoor

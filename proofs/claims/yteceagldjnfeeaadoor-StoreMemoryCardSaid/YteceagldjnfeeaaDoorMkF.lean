/- What a way in the making reads as, while other blocks are made and one variable turns. -/
import Derived.Test.YteceagldjnfeeaaDoorMk11
import Derived.Test.YteceagldjnfeeaaDoorMkP
namespace Go.Proofs.YteceagldjnfeeaaDoor
open Go.RowKit
set_option linter.unusedVariables false
set_option linter.unusedSimpArgs false

theorem grown_then {w w1 w2 : World} {g : Nat} (h : w.grownBy w1 (some g)) (k : w1.grownBy w2 (some g)) : w.grownBy w2 (some g) :=
  ⟨k.os.trans h.os, k.tape.trans h.tape, k.output.trans h.output, Nat.le_trans h.size k.size, fun i hi hne => (k.block i (Nat.lt_of_lt_of_le hi h.size) hne).trans (h.block i hi hne)⟩
theorem below_grown {w w1 : World} (h : Below w.heap.size w w1) (r : Option Nat) : w.grownBy w1 r :=
  ⟨h.os, h.tape, h.output, h.size, fun i hi _ => h.block i hi⟩
theorem grown_cell {w w1 : World} {r : Option Nat} (h : w.grownBy w1 r) {b o : Nat} {u : Value} (hc : w.cell? ⟨b, o, none⟩ = some u) (hne : some b ≠ r) : w1.cell? ⟨b, o, none⟩ = some u := by
  have hlt : b < w.heap.size := World.block_lt_of_cell? w _ hc
  unfold World.cell? at hc ⊢
  simp only at hc ⊢
  rw [h.block b hlt hne]; exact hc
theorem KAt.grown {w w1 : World} {g : Nat} (h : KAt w) (hg : w.grownBy w1 (some g)) (h0 : g ≠ 0) : KAt w1 := fun k hk => grown_cell hg (h k hk) (fun e => h0 (Option.some.inj e).symm)
theorem Hs.kept {w w1 : World} {D b o n c g : Nat} {ls : List (List UInt8)} {e : TypeId} {cs0 : Array Value} {fr0 : Nat × Nat} (h : Hs w D (some ⟨b, o, none⟩) n c ls) (hg : w.grownBy w1 (some g)) (hb : b ≠ g) (hD : D ≤ g) (ht : w.heap[g]? = some (.cells cs0 e fr0)) (he : e ≠ 5) : Hs w1 D (some ⟨b, o, none⟩) n c ls := by
  obtain ⟨vs, h1, h2⟩ := h
  exact ⟨vs, h1.kept hg (fun ad ha e => hb (by cases ha; exact Option.some.inj e)), h2.kept hg hD ht he⟩

/-- All that reads as bytes reads so still. -/
def Stay (D : Nat) (w w1 : World) : Prop := ∀ x l, Pt w D x l → Pt w1 D x l
theorem Stay.refl (D : Nat) (w : World) : Stay D w w := fun _ _ h => h
theorem Stay.trans {D : Nat} {w w1 w2 : World} (h : Stay D w w1) (k : Stay D w1 w2) : Stay D w w2 := fun x l hx => k x l (h x l hx)
theorem Stay.below {D : Nat} {w w1 : World} (h : Below w.heap.size w w1) : Stay D w w1 := fun _ _ hx => hx.below h
theorem Stay.grown {D g : Nat} {w w1 : World} {e : TypeId} {cs0 : Array Value} {fr0 : Nat × Nat} (hg : w.grownBy w1 (some g)) (hD : D ≤ g) (ht : w.heap[g]? = some (.cells cs0 e fr0)) (he : e ≠ 5) : Stay D w w1 := fun _ _ hx => hx.kept hg hD ht he
theorem Stay.pts {D : Nat} {w w1 : World} (h : Stay D w w1) {vs : List Value} {ls : List (List UInt8)} (hp : Pts w D vs ls) : Pts w1 D vs ls := by
  induction hp with
  | nil => exact .nil
  | cons h1 _ ih => exact .cons (h _ _ h1) ih

/-- A way in the making: w0 is the world when its variable (a cell of block pb) was made. -/
structure WayS (w0 : World) (D pb po : Nat) (t : TypeId) (cs : Array Value) (w : World) (v : Value) (ls : List (List UInt8)) : Prop where
  fr : w0.grownBy w (some pb)
  blk : w.heap[pb]? = some (.cells (cs.setIfInBounds po v) t (0, 0))
  row : ∃ vs, Lst w0.heap.size D w v vs ls
theorem WayS.lt {w0 : World} {D pb po : Nat} {t : TypeId} {cs : Array Value} {w : World} {v : Value} {ls : List (List UInt8)} (h : WayS w0 D pb po t cs w v ls) : pb < w.heap.size := blk_lt h.blk
theorem WayS.below {w0 : World} {D pb po : Nat} {t : TypeId} {cs : Array Value} {w w1 : World} {v : Value} {ls : List (List UInt8)} (h : WayS w0 D pb po t cs w v ls) (hb : Below w.heap.size w w1) : WayS w0 D pb po t cs w1 v ls := by
  obtain ⟨vs, hl⟩ := h.row
  exact ⟨grown_then h.fr (below_grown hb _), (hb.block _ h.lt).trans h.blk, vs, hl.below hb⟩
theorem WayS.cell {w0 : World} {D pb po : Nat} {t : TypeId} {cs : Array Value} {w : World} {v : Value} {ls : List (List UInt8)} (h : WayS w0 D pb po t cs w v ls) (hpo : po < cs.size) : w.cell? ⟨pb, po, none⟩ = some v := by
  rw [cell_of_row _ _ _ _ _ _ h.blk]; simp [hpo]
theorem WayS.frozen {w0 : World} {D pb po : Nat} {t : TypeId} {cs : Array Value} {w : World} {v : Value} {ls : List (List UInt8)} (h : WayS w0 D pb po t cs w v ls) : w.frozen? ⟨pb, po, none⟩ = false := by
  simp [World.frozen?, h.blk]

/-- *path = append(*path, x): the element stands in a new block; then the variable is written. -/
theorem way_app {w0 : World} {D pb po : Nat} {t : TypeId} {cs : Array Value} {w : World} {v : Value} {ls : List (List UInt8)} (h : WayS w0 D pb po t cs w v ls) (hD : D ≤ w0.heap.size) (hpb : pb < w0.heap.size) (ty : TypeId)
    (xv : Value) (l : List UInt8) (hp : Pt w D xv l) (hlen : ls.length ≤ 1000000) :
    ∃ v' w', (Builtin.append_ #[77, 77] ty #[v, .slice (some ⟨w.heap.size, 0, none⟩) 1 1]).run Tryd.prog (w.alloc (.cells #[xv] 22)) = .ok v' w' ∧ w'.cell? ⟨pb, po, none⟩ = w.cell? ⟨pb, po, none⟩ ∧ w'.frozen? ⟨pb, po, none⟩ = false ∧ Stay D w w' ∧
      (t ≠ 5 → t ≠ 22 → D ≤ pb → WayS w0 D pb po t cs (w'.setCell ⟨pb, po, none⟩ v') v' (ls ++ [l]) ∧ Stay D w (w'.setCell ⟨pb, po, none⟩ v')) := by
  obtain ⟨vs, HO⟩ := h.row
  have hl : vs.length ≤ 1000000 := by rw [HO.pts.length]; exact hlen
  have hb : Below w.heap.size w (w.alloc (.cells #[xv] 22)) := (row_below w _).out
  have hsl := Sl.of_block (heap_alloc_new w (.cells #[xv] 22)) (show (#[xv] : Array Value).size ≤ maxLen by simp [maxLen])
  have h1 : ∀ u ∈ [xv], u.oneCell' = true := by
    intro u hu
    obtain ⟨a, n, c, e, _⟩ := hp
    simp only [List.mem_singleton] at hu
    subst hu; subst e; rfl
  obtain ⟨i, hi, hzz⟩ := Option.map_eq_some_iff.1 info22
  simp only [Prod.mk.injEq] at hzz
  obtain ⟨hz0, hz1, hz2⟩ := hzz
  obtain ⟨v', w', hr, ho', hg', _⟩ := run_append_own_src (P := Tryd.prog) (w.alloc (.cells #[xv] 22)) w0.heap.size 77 ty 22 i (.slice none 0 0) 24 Tryd.underlying77 hi hz0 hz1 hz2 rfl v vs.length vs (own_keep HO.row hb) (some ⟨w.heap.size, 0, none⟩) 1 1 [xv] hsl h1 (by unfold maxLen; omega) (by omega) (Nat.le_trans h.fr.size hb.size)
  have hvb : ∀ g, v.ownBlock = some g → w0.heap.size ≤ g := fun g hg => (HO.row.lt g hg).1
  have hpblt : pb < (w.alloc (.cells #[xv] 22)).heap.size := Nat.lt_of_lt_of_le h.lt hb.size
  have hpbne : some pb ≠ v.ownBlock := fun e => by have := hvb pb e.symm; omega
  have hblk1 : w'.heap[pb]? = some (.cells (cs.setIfInBounds po v) t (0, 0)) := ((hg'.block pb hpblt hpbne).trans (hb.block _ h.lt)).trans h.blk
  have hst : Stay D w w' := by
    refine (Stay.below hb).trans ?_
    rcases hv : v.ownBlock with _ | g
    · rw [hv] at hg'
      exact Stay.below ⟨hg'.os, hg'.tape, hg'.output, hg'.size, fun k hk => hg'.block k hk (by simp)⟩
    · rw [hv] at hg'
      have hr2 := own_keep HO.row hb
      rcases hr2.2 with ⟨e2, _⟩ | ⟨g2, cap, cur, e2, hg2, hgc, _⟩
      · rw [e2] at hv; cases hv
      · rw [e2] at hv
        cases hv
        exact Stay.grown hg' (Nat.le_trans hD hg2) hgc (by decide)
  have hcell : w'.cell? ⟨pb, po, none⟩ = w.cell? ⟨pb, po, none⟩ := by
    unfold World.cell?
    simp only
    rw [hblk1, h.blk]
  refine ⟨v', w', hr, hcell, by simp [World.frozen?, hblk1], hst, fun t5 t22 hDp => ?_⟩
  have hset : w'.grownBy (w'.setCell ⟨pb, po, none⟩ v') (some pb) := gset (grefl w' _) po v'
  have hst2 : Stay D w' (w'.setCell ⟨pb, po, none⟩ v') := Stay.grown hset hDp hblk1 t5
  refine ⟨⟨?_, ?_, vs ++ [xv], ?_, ?_⟩, hst.trans hst2⟩
  · have hsz := h.fr.size
    refine ⟨hset.os.trans (hg'.os.trans (hb.os.trans h.fr.os)), hset.tape.trans (hg'.tape.trans (hb.tape.trans h.fr.tape)), hset.output.trans (hg'.output.trans (hb.output.trans h.fr.output)),
      Nat.le_trans h.fr.size (Nat.le_trans hb.size (Nat.le_trans hg'.size hset.size)), fun i hi hne => ?_⟩
    have hi1 : i < w.heap.size := Nat.lt_of_lt_of_le hi hsz
    have hi2 := Nat.lt_of_lt_of_le hi1 hb.size
    rw [hset.block i (Nat.lt_of_lt_of_le hi2 hg'.size) hne, hg'.block i hi2 (fun e => by have := hvb i e.symm; omega), hb.block i hi1, h.fr.block i hi hne]
  · simp only [World.setCell, Array.getElem?_modify, if_true, hblk1, Option.map_some]
    simp
  · rw [List.length_append]
    exact ownsRow_setCell_below ho' hpb v'
  · exact (hst.trans hst2).pts (HO.pts.snoc hp)
/-- append(s, x...) of bytes on a row of the call's own, at its place. -/
theorem app_bk {w w0 : World} {ops : Array Oper} {rest : List Oper} {o : Oper} {ac : Act} {Q : Exit → Act → World → Prop} (hgd : o.guard = none) (s x : Operand)
    (ho : o.op = .call { callee := .builtin .append, args := #[s, x], argTypes := #[22, 22] })
    (v : Value) (l : List UInt8) (hs : ac.eval s = v) (HO : Hid (w.ownsRow w0.heap.size 5 1 v l.length (bts l))) (HB : Hid (Below w0.heap.size w0 w))
    (a : Option Addr) (m c : Nat) (news : List UInt8) (hx : ac.eval x = .slice a m c) (hsl : Hid (Bs w a m c news)) (hlen : Hid (l.length + m ≤ 140737488355328))
    (h : ∀ v' w', Hid (w'.ownsRow w0.heap.size 5 1 v' (l ++ news).length (bts (l ++ news))) → Hid (Below w0.heap.size w0 w') → wpList Tryd.prog ops Q rest (ac.put o.dst v') w') :
    wpList Tryd.prog ops Q (o :: rest) ac w :=
  wpList_plain hgd fun _ hK => wp_app_bk s x ho v l hs HO HB a m c news hx hsl hlen fun v' w' h2 h3 => hK _ _ (h v' w' h2 h3)
end Go.Proofs.YteceagldjnfeeaaDoor

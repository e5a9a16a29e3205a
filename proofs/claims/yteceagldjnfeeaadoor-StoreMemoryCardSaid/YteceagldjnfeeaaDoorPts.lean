/- Rows of slices of bytes that the call makes: what they read as, and append on them. -/
import Derived.Test.YteceagldjnfeeaaDoorLaw3
namespace Go.Proofs.YteceagldjnfeeaaDoor
open Go.RowKit
set_option linter.unusedVariables false
set_option linter.unusedSimpArgs false

/-- A slice of bytes that lies below B, or in a row of bytes: so in no row of slices from B on. -/
def Pt (w : World) (B : Nat) (v : Value) (l : List UInt8) : Prop :=
  ∃ a n c, v = .slice a n c ∧ Bs w a n c l ∧ (n = 0 ∨ ∀ ad, a = some ad → ad.block < B ∨ ∃ cs fr, w.heap[ad.block]? = some (.cells cs 5 fr))
theorem Pt.isB {w : World} {B : Nat} {v : Value} {l : List UInt8} (h : Pt w B v l) : IsB w v l := by
  obtain ⟨a, n, c, e, hs, _⟩ := h
  exact ⟨a, n, c, e, hs⟩
theorem blk_lt {w : World} {b : Nat} {o : Obj} (h : w.heap[b]? = some o) : b < w.heap.size := (Array.getElem?_eq_some_iff.1 h).1
theorem Pt.below {w w1 : World} {B : Nat} {v : Value} {l : List UInt8} (h : Pt w B v l) (hb : Below w.heap.size w w1) : Pt w1 B v l := by
  obtain ⟨a, n, c, e, hs, hd⟩ := h
  refine ⟨a, n, c, e, hs.below hb, ?_⟩
  rcases hd with h0 | hd
  · exact .inl h0
  · refine .inr fun ad ha => ?_
    rcases hd ad ha with h1 | ⟨cs, fr, h1⟩
    · exact .inl h1
    · exact .inr ⟨cs, fr, (hb.block _ (blk_lt h1)).trans h1⟩
theorem Pt.kept {w w1 : World} {B g : Nat} {v : Value} {l : List UInt8} {e : TypeId} {cs0 : Array Value} {fr0 : Nat × Nat} (h : Pt w B v l) (hg : w.grownBy w1 (some g)) (hB : B ≤ g) (ht : w.heap[g]? = some (.cells cs0 e fr0)) (he : e ≠ 5) : Pt w1 B v l := by
  obtain ⟨a, n, c, ev, hs, hd⟩ := h
  have hne : ∀ ad, a = some ad → n ≠ 0 → ad.block ≠ g := by
    rintro ad ha hn rfl
    rcases hd with h0 | hd
    · exact hn h0
    · rcases hd ad ha with h1 | ⟨cs, fr, h1⟩
      · omega
      · rw [ht] at h1
        cases h1
        exact he rfl
  by_cases hn : n = 0
  · subst hn
    obtain rfl : l = [] := List.eq_nil_of_length_eq_zero hs.blen
    exact ⟨a, 0, c, ev, Sl.empty w1 a c hs.big, .inl rfl⟩
  · refine ⟨a, n, c, ev, hs.kept hg (fun ad ha e2 => hne ad ha hn (Option.some.inj e2)), ?_⟩
    rcases hd with h0 | hd
    · exact .inl h0
    · refine .inr fun ad ha => ?_
      rcases hd ad ha with h1 | ⟨cs, fr, h1⟩
      · exact .inl h1
      · exact .inr ⟨cs, fr, (hg.block _ (blk_lt h1) (fun e2 => hne ad ha hn (Option.some.inj e2))).trans h1⟩
theorem Pt.mono {w : World} {B B' : Nat} {v : Value} {l : List UInt8} (h : Pt w B v l) (hB : B ≤ B') : Pt w B' v l := by
  obtain ⟨a, n, c, e, hs, hd⟩ := h
  refine ⟨a, n, c, e, hs, ?_⟩
  rcases hd with h0 | hd
  · exact .inl h0
  · refine .inr fun ad ha => ?_
    rcases hd ad ha with h1 | h1
    · exact .inl (by omega)
    · exact .inr h1
/-- What came in. -/
theorem Pt.arg {w : World} {B : Nat} {a : Option Addr} {n c : Nat} {l : List UInt8} (h : Bs w a n c l) (hB : w.heap.size ≤ B) : Pt w B (.slice a n c) l := by
  refine ⟨a, n, c, rfl, h, ?_⟩
  by_cases hn : n = 0
  · exact .inl hn
  · refine .inr fun ad ha => .inl ?_
    obtain ⟨b, o, e, hc⟩ := h.bat (j := 0) (by omega)
    rw [e] at ha
    cases ha
    have := World.block_lt_of_cell? w _ (hc 0 (by rw [h.blen]; omega))
    have : b < w.heap.size := this
    show b < B
    omega
/-- What the call made. -/
theorem Pt.own {w : World} {B B' : Nat} {v : Value} {n : Nat} {l : List UInt8} (h : w.ownsRow B' 5 1 v n (bts l)) : Pt w B v l := by
  obtain ⟨a, c, e, hs⟩ := own_sl h
  refine ⟨a, n, c, e, hs, .inr fun ad ha => .inr ?_⟩
  rcases h.2 with ⟨e2, _⟩ | ⟨g, cap, cur, e2, _, hg, _⟩
  · rw [e] at e2; cases e2; cases ha
  · rw [e] at e2; cases e2; cases ha; exact ⟨cur, (0, 0), hg⟩

inductive Pts (w : World) (B : Nat) : List Value → List (List UInt8) → Prop
  | nil : Pts w B [] []
  | cons {v : Value} {l : List UInt8} {vs : List Value} {ls : List (List UInt8)} : Pt w B v l → Pts w B vs ls → Pts w B (v :: vs) (l :: ls)
theorem Pts.parts {w : World} {B : Nat} {vs : List Value} {ls : List (List UInt8)} (h : Pts w B vs ls) : Parts w vs ls := by
  induction h with
  | nil => exact .nil
  | cons h _ ih => exact .cons h.isB ih
theorem Pts.length {w : World} {B : Nat} {vs : List Value} {ls : List (List UInt8)} (h : Pts w B vs ls) : vs.length = ls.length := h.parts.length
theorem Pts.later {w w1 : World} {B : Nat} {vs : List Value} {ls : List (List UInt8)} (h : Pts w B vs ls) (hb : Below w.heap.size w w1) : Pts w1 B vs ls := by
  induction h with
  | nil => exact .nil
  | cons h _ ih => exact .cons (h.below hb) ih
theorem Pts.kept {w w1 : World} {B g : Nat} {vs : List Value} {ls : List (List UInt8)} {e : TypeId} {cs0 : Array Value} {fr0 : Nat × Nat} (h : Pts w B vs ls) (hg : w.grownBy w1 (some g)) (hB : B ≤ g) (ht : w.heap[g]? = some (.cells cs0 e fr0)) (he : e ≠ 5) : Pts w1 B vs ls := by
  induction h with
  | nil => exact .nil
  | cons h _ ih => exact .cons (h.kept hg hB ht he) ih
theorem Pts.mono {w : World} {B B' : Nat} {vs : List Value} {ls : List (List UInt8)} (h : Pts w B vs ls) (hB : B ≤ B') : Pts w B' vs ls := by
  induction h with
  | nil => exact .nil
  | cons h _ ih => exact .cons (h.mono hB) ih
theorem Pts.snoc {w : World} {B : Nat} {vs : List Value} {ls : List (List UInt8)} {v : Value} {l : List UInt8} (h : Pts w B vs ls) (hp : Pt w B v l) : Pts w B (vs ++ [v]) (ls ++ [l]) := by
  induction h with
  | nil => exact .cons hp .nil
  | cons h _ ih => exact .cons h ih
theorem Pts.get {w : World} {B : Nat} {vs : List Value} {ls : List (List UInt8)} (h : Pts w B vs ls) (j : Nat) (hj : j < vs.length) (hj' : j < ls.length) : Pt w B vs[j] ls[j] := by
  induction h generalizing j with
  | nil => simp at hj
  | cons hb _ ih =>
    cases j with
    | zero => exact hb
    | succ j => exact ih j (by simpa using hj) (by simpa using hj')
theorem Pts.one {w : World} {B : Nat} {vs : List Value} {ls : List (List UInt8)} (h : Pts w B vs ls) : ∀ u ∈ vs, u.oneCell' = true := by
  induction h with
  | nil => intro u hu; cases hu
  | cons hb _ ih =>
    intro u hu
    rcases List.mem_cons.1 hu with rfl | hu
    · obtain ⟨a, n, c, rfl, _⟩ := hb; rfl
    · exact ih u hu

/-- A row of slices that the call makes, and what they read as. -/
structure Lst (B C : Nat) (w : World) (v : Value) (vs : List Value) (ls : List (List UInt8)) : Prop where
  row : w.ownsRow B 22 1 v vs.length vs
  pts : Pts w C vs ls
theorem Lst.below {B C : Nat} {w w1 : World} {v : Value} {vs : List Value} {ls : List (List UInt8)} (h : Lst B C w v vs ls) (hb : Below w.heap.size w w1) : Lst B C w1 v vs ls := ⟨own_keep h.row hb, h.pts.later hb⟩
theorem Lst.nil (B C : Nat) (w : World) : Lst B C w (.slice none 0 0) [] [] := ⟨World.ownsRow_nil _ _ _ _, .nil⟩
theorem Lst.made (B C : Nat) (w : World) (hB : B ≤ w.heap.size) (v : Value) (l : List UInt8) (h : Pt w C v l) : Lst B C (w.alloc (.cells #[v] 22)) (.slice (some ⟨w.heap.size, 0, none⟩) 1 1) [v] [l] := by
  refine ⟨World.ownsRow_lit w #[v] 1 hB (by unfold maxLen; omega) rfl, .cons (h.below (row_below w _).out) .nil⟩
theorem Lst.sl {B C : Nat} {w : World} {v : Value} {vs : List Value} {ls : List (List UInt8)} (h : Lst B C w v vs ls) : ∃ a c, v = .slice a ls.length c ∧ Sl w a ls.length c vs := by
  obtain ⟨a, c, e, hs⟩ := own_sl h.row
  rw [← h.pts.length]
  exact ⟨a, c, e, hs⟩

theorem run_app_s {w w0 : World} {C : Nat} (ty : TypeId) (v : Value) (vs : List Value) (ls : List (List UInt8)) (HO : Hid (Lst w0.heap.size C w v vs ls)) (HB : Hid (Below w0.heap.size w0 w))
    (xv : Value) (l : List UInt8) (hp : Hid (Pt w C xv l)) (hC : C ≤ w0.heap.size) (hlen : Hid (ls.length ≤ 1000000)) :
    ∃ v' w', (Builtin.append_ #[77, 77] ty #[v, .slice (some ⟨w.heap.size, 0, none⟩) 1 1]).run Tryd.prog (w.alloc (.cells #[xv] 22)) = .ok v' w' ∧ Hid (Lst w0.heap.size C w' v' (vs ++ [xv]) (ls ++ [l])) ∧ Hid (Below w0.heap.size w0 w') := by
  have hl : vs.length ≤ 1000000 := by rw [HO.out.pts.length]; exact hlen
  have hb : Below w.heap.size w (w.alloc (.cells #[xv] 22)) := (row_below w _).out
  have hsl := Sl.of_block (heap_alloc_new w (.cells #[xv] 22)) (show (#[xv] : Array Value).size ≤ maxLen by simp [maxLen])
  have h1 : ∀ u ∈ [xv], u.oneCell' = true := by
    intro u hu
    obtain ⟨a, n, c, e, _⟩ := hp.out
    simp only [List.mem_singleton] at hu
    subst hu; subst e; rfl
  obtain ⟨i, hi, hzz⟩ := Option.map_eq_some_iff.1 info22
  simp only [Prod.mk.injEq] at hzz
  obtain ⟨hz0, hz1, hz2⟩ := hzz
  obtain ⟨v', w', hr, ho', hg', _⟩ := run_append_own_src (P := Tryd.prog) (w.alloc (.cells #[xv] 22)) w0.heap.size 77 ty 22 i (.slice none 0 0) 24 Tryd.underlying77 hi hz0 hz1 hz2 rfl v vs.length vs (own_keep HO.out.row hb) (some ⟨w.heap.size, 0, none⟩) 1 1 [xv] hsl h1 (by unfold maxLen; omega) (by omega) (Nat.le_trans HB.out.size hb.size)
  have hB' := below_then HB.out HB.out.size hb
  refine ⟨v', w', hr, ⟨?_, ?_⟩, hB'.grown hg' hB'.size fun j hj => (HO.out.row.lt j hj).1⟩
  · rw [List.length_append]; exact ho'
  · have hp0 := HO.out.pts.later hb
    have hx0 := hp.out.below hb
    rcases hv : v.ownBlock with _ | g
    · rw [hv] at hg'
      have hbb : Below (w.alloc (.cells #[xv] 22)).heap.size (w.alloc (.cells #[xv] 22)) w' := ⟨hg'.os, hg'.tape, hg'.output, hg'.size, fun k hk => hg'.block k hk (by simp)⟩
      exact (hp0.later hbb).snoc (hx0.below hbb)
    · rw [hv] at hg'
      have hr2 := own_keep HO.out.row hb
      rcases hr2.2 with ⟨e2, _⟩ | ⟨g2, cap, cur, e2, hg2, hgc, _⟩
      · rw [e2] at hv; cases hv
      · rw [e2] at hv
        cases hv
        exact (hp0.kept hg' (Nat.le_trans hC hg2) hgc (by decide)).snoc (hx0.kept hg' (Nat.le_trans hC hg2) hgc (by decide))
theorem wp_app_s {w w0 : World} {C : Nat} {o : Oper} {ac : Act} {K : Act → World → Prop} {Q : Exit → Act → World → Prop} (s x : Operand)
    (ho : o.op = .call { callee := .builtin .append, args := #[s, x], argTypes := #[77, 77] })
    (v : Value) (vs : List Value) (ls : List (List UInt8)) (hs : ac.eval s = v) (HO : Hid (Lst w0.heap.size C w v vs ls)) (HB : Hid (Below w0.heap.size w0 w))
    (xv : Value) (l : List UInt8) (hx : ac.eval x = .slice (some ⟨w.heap.size, 0, none⟩) 1 1) (hp : Hid (Pt w C xv l)) (hC : C ≤ w0.heap.size) (hlen : Hid (ls.length ≤ 1000000))
    (h : ∀ v' w', Hid (Lst w0.heap.size C w' v' (vs ++ [xv]) (ls ++ [l])) → Hid (Below w0.heap.size w0 w') → K (ac.put o.dst v') w') : Oper.wp Tryd.prog o ac (w.alloc (.cells #[xv] 22)) K Q := by
  obtain ⟨v', w', hr, h2, h3⟩ := run_app_s o.type v vs ls HO HB xv l hp hC hlen
  unfold Oper.wp execOp
  simp only [ho, resolve, invoke, builtin, Sem.run_bind, Sem.run_pure, Result.andThen_ok, List.map_toArray, List.map_cons, List.map_nil, hs, hx, hr]
  exact h _ _ h2 h3
/-- append(s, x): the element stands in a new block. -/
theorem app_s {w w0 : World} {C : Nat} {ops : Array Oper} {rest : List Oper} {o : Oper} {ac : Act} {Q : Exit → Act → World → Prop} (hgd : o.guard = none) (s x : Operand)
    (ho : o.op = .call { callee := .builtin .append, args := #[s, x], argTypes := #[77, 77] })
    (v : Value) (vs : List Value) (ls : List (List UInt8)) (hs : ac.eval s = v) (HO : Hid (Lst w0.heap.size C w v vs ls)) (HB : Hid (Below w0.heap.size w0 w))
    (xv : Value) (l : List UInt8) (hx : ac.eval x = .slice (some ⟨w.heap.size, 0, none⟩) 1 1) (hp : Hid (Pt w C xv l)) (hC : C ≤ w0.heap.size) (hlen : Hid (ls.length ≤ 1000000))
    (h : ∀ v' w', Hid (Lst w0.heap.size C w' v' (vs ++ [xv]) (ls ++ [l])) → Hid (Below w0.heap.size w0 w') → wpList Tryd.prog ops Q rest (ac.put o.dst v') w') :
    wpList Tryd.prog ops Q (o :: rest) ac (w.alloc (.cells #[xv] 22)) :=
  wpList_plain hgd fun _ hK => wp_app_s s x ho v vs ls hs HO HB xv l hx hp hC hlen fun v' w' h2 h3 => hK _ _ (h v' w' h2 h3)
/-- The same at a step of a region that draws its order. -/
theorem step_app_s {w w0 : World} {C : Nat} {ops : Array Oper} {o : Oper} {ac : Act} {K : Act → World → Prop} {Q : Exit → Act → World → Prop} {E : Prop} (hgd : o.guard = none) (s x : Operand)
    (ho : o.op = .call { callee := .builtin .append, args := #[s, x], argTypes := #[77, 77] })
    (v : Value) (vs : List Value) (ls : List (List UInt8)) (hs : ac.eval s = v) (HO : Hid (Lst w0.heap.size C w v vs ls)) (HB : Hid (Below w0.heap.size w0 w))
    (xv : Value) (l : List UInt8) (hx : ac.eval x = .slice (some ⟨w.heap.size, 0, none⟩) 1 1) (hp : Hid (Pt w C xv l)) (hC : C ≤ w0.heap.size) (hlen : Hid (ls.length ≤ 1000000))
    (h : ∀ v' w', Hid (Lst w0.heap.size C w' v' (vs ++ [xv]) (ls ++ [l])) → Hid (Below w0.heap.size w0 w') → K (ac.put o.dst v') w') :
    if Region.wanted o (yielded ops ac.tmps) = true then Oper.wp Tryd.prog o ac (w.alloc (.cells #[xv] 22)) K Q else E := by
  rw [if_pos (by simp [Region.wanted, hgd])]
  exact wp_app_s s x ho v vs ls hs HO HB xv l hx hp hC hlen h
theorem Lst.kept {B C g : Nat} {w w1 : World} {v : Value} {vs : List Value} {ls : List (List UInt8)} {e : TypeId} {cs0 : Array Value} {fr0 : Nat × Nat} (h : Lst B C w v vs ls) (hg : w.grownBy w1 (some g)) (hC : C ≤ g) (ht : w.heap[g]? = some (.cells cs0 e fr0)) (he : e ≠ 5) (he2 : e ≠ 22) : Lst B C w1 v vs ls := by
  refine ⟨h.row.kept hg ?_, h.pts.kept hg hC ht he⟩
  rcases h.row.2 with ⟨e2, _⟩ | ⟨g2, cap, cur, e2, _, hgc, _⟩
  · left; rw [e2]; rfl
  · right
    rw [e2]
    intro h2
    simp only [Value.ownBlock, Option.some.injEq] at h2
    subst h2
    rw [hgc] at ht
    cases ht
    exact he2 rfl

/-- The call hands back a list of bytes' slices, all its own. -/
def RetL (C : Nat) (ls : List (List UInt8)) (w : World) (e : Ending) (w' : World) : Prop :=
  ∃ a c vs, e = .returned (.slice a ls.length c) ∧ Below w.heap.size w w' ∧ Lst w.heap.size C w' (.slice a ls.length c) vs ls
end Go.Proofs.YteceagldjnfeeaaDoor

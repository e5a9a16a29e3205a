/- Maps of entries: what a map's block reads as. -/
import Derived.Test.YteceagldjnfeeaaDoorMkP
import Derived.Test.YteceagldjnfeeaaDoorStMath
import Derived.Maps.Ext
import Derived.Maps.RangeWalk
import Derived.Maps.OwnSet
import Derived.Sort.KeysCollected
namespace Go.Proofs.YteceagldjnfeeaaDoor
open Go.RowKit Go.Maps
set_option linter.unusedVariables false
set_option linter.unusedSimpArgs false

/-! ### A map's reading, as a list by rising keys -/
theorem before_blt : ∀ a b : List UInt8, bytesBefore a b = blt a b
  | [], [] => rfl
  | [], _ :: _ => rfl
  | _ :: _, [] => rfl
  | a :: x, b :: y => by
    rw [blt_cons]
    show (decide (a < b) || (a == b && bytesBefore x y)) = _
    rw [before_blt x y]
def ent (v : Value) : DataW Value := .held v
def toL (m : SM Value) : List (Lit × DataW Value) := m.map fun e => (.string e.1, ent e.2)
def toD (m : SM Value) : DataW Value := .map (toL m)
theorem same_str (a b : List UInt8) : (Lit.string a).sameKey (.string b) = decide (a = b) := by
  show (a == b) = _
  rw [Bool.eq_iff_iff]; simp
theorem has_toD (m : SM Value) (k : List UInt8) : Maps.has (toD m) (.string k) = (sget m k).isSome := by
  show (toL m).any _ = _
  induction m with
  | nil => rfl
  | cons e r ih =>
    rw [toL, List.map_cons, List.any_cons, same_str, sget]
    by_cases h : e.1 = k
    · rw [if_pos h]; simp [h]
    · rw [if_neg h, decide_eq_false h, Bool.false_or]; exact ih
theorem at_toD (m : SM Value) (k : List UInt8) (z : DataW Value) : (toD m).atKey (.string k) z = match sget m k with | some v => ent v | none => z := by
  unfold toD DataW.atKey
  induction m with
  | nil => rfl
  | cons e r ih =>
    simp only [toL, List.map_cons, List.find?_cons, same_str, sget] at ih ⊢
    by_cases h : e.1 = k
    · simp only [if_pos h, decide_eq_true h]
    · simp only [if_neg h, decide_eq_false h]; exact ih
theorem size_toD (m : SM Value) : Maps.size (toD m) = m.length := by show (toL m).length = _; unfold toL; rw [List.length_map]
theorem keys_toD (m : SM Value) : strKeys (toD m) = m.map Prod.fst := by
  show (toL m).map _ = _
  unfold toL
  rw [List.map_map]
  rfl
theorem del_toD (m : SM Value) (k : List UInt8) : (toD m).del (.string k) = toD (sdel m k) := by
  show DataW.map ((toL m).filter _) = DataW.map (toL (sdel m k))
  congr 1
  unfold toL sdel
  rw [List.filter_map]
  congr 1
  apply List.filter_congr
  intro e _
  show (!(Lit.string e.1).sameKey (.string k)) = _
  rw [same_str]
  simp
theorem put_toD {m : SM Value} (hr : Rise m) (k : List UInt8) (v : Value) : (toD m).put (.string k) (ent v) = toD (sput m k v) := by
  show DataW.map (DataW.insert (.string k, ent v) ((toL m).filter _)) = DataW.map (toL (sput m k v))
  congr 1
  have hf : ∀ r : SM Value, (∀ x ∈ r, x.1 ≠ k) → (toL r).filter (fun p => !p.1.sameKey (.string k)) = toL r := by
    intro r h
    rw [List.filter_eq_self]
    intro p hp
    unfold toL at hp
    obtain ⟨e, he, rfl⟩ := List.mem_map.1 hp
    show (!(Lit.string e.1).sameKey (.string k)) = true
    rw [same_str, decide_eq_false (h e he)]; rfl
  have hi : ∀ r : SM Value, (∀ x ∈ r, blt k x.1 = true) → DataW.insert (.string k, ent v) (toL r) = (.string k, ent v) :: toL r := by
    intro r h
    cases r with
    | nil => rfl
    | cons e r =>
      show (if bytesBefore k e.1 = true then _ else _) = _
      rw [before_blt, if_pos (h e (List.mem_cons_self ..))]
      rfl
  induction m with
  | nil => rfl
  | cons e r ih =>
    rw [sput]
    by_cases h1 : blt k e.1 = true
    · have hall : ∀ x ∈ e :: r, blt k x.1 = true := fun x hx => by
        rcases List.mem_cons.1 hx with rfl | hx
        · exact h1
        · exact blt_trans _ _ _ h1 (hr.head x hx)
      rw [if_pos h1, hf (e :: r) (fun x hx h => blt_ne _ _ (hall x hx) h.symm), hi (e :: r) hall]
      rfl
    · rw [if_neg h1]
      by_cases h2 : e.1 = k
      · rw [if_pos h2]
        have hall : ∀ x ∈ r, blt k x.1 = true := fun x hx => by rw [← h2]; exact hr.head x hx
        have e1 : (toL (e :: r)).filter (fun p => !p.1.sameKey (.string k)) = toL r := by
          rw [toL, List.map_cons, List.filter_cons_of_neg (by show ¬ (!(Lit.string e.1).sameKey (.string k)) = true; rw [same_str, decide_eq_true h2]; simp)]
          exact hf r (fun x hx h => blt_ne _ _ (hall x hx) h.symm)
        rw [e1, hi r hall]
        rfl
      · rw [if_neg h2]
        have h3 := blt_total _ _ (fun h => h2 h.symm) (by simpa using h1)
        rw [toL, List.map_cons, List.filter_cons_of_pos (by show (!(Lit.string e.1).sameKey (.string k)) = true; rw [same_str, decide_eq_false h2]; rfl)]
        show (if bytesBefore k e.1 = true then _ else _) = _
        rw [before_blt, if_neg h1]
        show (Lit.string e.1, ent e.2) :: DataW.insert (.string k, ent v) ((toL r).filter _) = _
        rw [ih hr.tail]
        rfl

/-! ### An entry -/
def RV (v : Value) : Option (DataW Value × List MemPlace) :=
  match v with
  | .agg cs => (match cs.toList with | [.slice _ _ _, .bool _] => some (ent v, []) | _ => none)
  | _ => none
def mkE (x : (Option Addr × Nat × Nat) × Bool) : Value := .agg #[.slice x.1.1 x.1.2.1 x.1.2.2, .bool x.2]
theorem RV_mk (a : Option Addr) (n c : Nat) (g : Bool) : RV (.agg #[.slice a n c, .bool g]) = some (ent (.agg #[.slice a n c, .bool g]), []) := rfl
theorem RV_inv {v : Value} {y : DataW Value × List MemPlace} (h : RV v = some y) : ∃ x, v = mkE x := by
  unfold RV at h
  cases v with
  | agg cs =>
    simp only at h
    obtain ⟨l, rfl⟩ : ∃ l : List Value, cs = l.toArray := ⟨cs.toList, by simp⟩
    split at h
    · rename_i a n c g he
      simp only [List.toList_toArray] at he
      subst he
      exact ⟨((a, n, c), g), rfl⟩
    · cases h
  | _ => cases h
theorem RV_eq {v : Value} {y : DataW Value × List MemPlace} (h : RV v = some y) : y = (ent v, []) := by
  obtain ⟨⟨⟨a, n, c⟩, g⟩, rfl⟩ := RV_inv h
  have := RV_mk a n c g
  unfold mkE at h
  rw [this] at h
  exact (Option.some.inj h).symm
theorem law9 : Keyed Tryd.prog 9 := string_keyed Tryd.underlying9
theorem key9 {k : List UInt8} (h : k.length ≤ maxLen) : keyOf Tryd.prog 9 (str k) = some (.string k) := by
  have := WideMaps.keyOf_string_mk (P := Tryd.prog) (k := 9) Tryd.underlying9 (s := ⟨k.toArray⟩) h
  rw [this]
theorem zeroE (w : World) : (zeroValue 105).run Tryd.prog w = .ok (.agg #[.slice none 0 0, .bool false]) w := by kernel_rfl

/-- An entry's value, as it reads; its bytes lie from block B on. -/
def EV (B : Nat) (w : World) (v : Value) (e : Ent) : Prop := ∃ a n c, v = .agg #[.slice a n c, .bool e.2] ∧ Pt w 0 (.slice a n c) e.1 ∧ e.1.length ≤ 65535 ∧ ∀ ad, a = some ad → B ≤ ad.block
theorem EV.below {B : Nat} {w w1 : World} {v : Value} {e : Ent} (h : EV B w v e) (hb : Below w.heap.size w w1) : EV B w1 v e := by
  obtain ⟨a, n, c, h1, h2, h3, h4⟩ := h
  exact ⟨a, n, c, h1, h2.below hb, h3, h4⟩
theorem EV.low {B B' : Nat} {w : World} {v : Value} {e : Ent} (h : EV B w v e) (hB : B' ≤ B) : EV B' w v e := by
  obtain ⟨a, n, c, h1, h2, h3, h4⟩ := h
  exact ⟨a, n, c, h1, h2, h3, fun ad ha => Nat.le_trans hB (h4 ad ha)⟩
theorem Pt.keptM {w w1 : World} {g : Nat} {v : Value} {l : List UInt8} (h : Pt w 0 v l) (hg : w.grownBy w1 (some g)) (hne : ∀ cs fr, w.heap[g]? ≠ some (.cells cs 5 fr)) : Pt w1 0 v l := by
  obtain ⟨a, n, c, ev, hs, hd⟩ := h
  have hn2 : ∀ ad, a = some ad → n ≠ 0 → ad.block ≠ g := by
    rintro ad ha hn rfl
    rcases hd with h0 | hd
    · exact hn h0
    · rcases hd ad ha with h1 | ⟨cs, fr, h1⟩
      · omega
      · exact hne cs fr h1
  by_cases hn : n = 0
  · subst hn
    obtain rfl : l = [] := List.eq_nil_of_length_eq_zero hs.blen
    exact ⟨a, 0, c, ev, Sl.empty w1 a c hs.big, .inl rfl⟩
  · refine ⟨a, n, c, ev, hs.kept hg (fun ad ha e2 => hn2 ad ha hn (Option.some.inj e2)), ?_⟩
    rcases hd with h0 | hd
    · exact .inl h0
    · refine .inr fun ad ha => ?_
      rcases hd ad ha with h1 | ⟨cs, fr, h1⟩
      · exact .inl h1
      · exact .inr ⟨cs, fr, (hg.block _ (blk_lt h1) (fun e2 => hn2 ad ha hn (Option.some.inj e2))).trans h1⟩
theorem EV.keptM {B g : Nat} {w w1 : World} {v : Value} {e : Ent} (h : EV B w v e) (hg : w.grownBy w1 (some g)) (hne : ∀ cs fr, w.heap[g]? ≠ some (.cells cs 5 fr)) : EV B w1 v e := by
  obtain ⟨a, n, c, h1, h2, h3, h4⟩ := h
  exact ⟨a, n, c, h1, h2.keptM hg hne, h3, h4⟩
/-- A row below B may turn as it likes. -/
theorem EV.cut {B g : Nat} {w w1 : World} {v : Value} {e : Ent} (h : EV B w v e) (hg : w.grownBy w1 (some g)) (hB : g < B) : EV B w1 v e := by
  obtain ⟨a, n, c, h1, ⟨a', n', c', ev, hs, hd⟩, h3, h4⟩ := h
  cases ev
  have hne : ∀ ad, a = some ad → ad.block ≠ g := fun ad ha e => by have := h4 ad ha; omega
  refine ⟨a, n, c, h1, ⟨a, n, c, rfl, hs.kept hg (fun ad ha e => hne ad ha (Option.some.inj e)), ?_⟩, h3, h4⟩
  rcases hd with h0 | hd
  · exact .inl h0
  · refine .inr fun ad ha => ?_
    rcases hd ad ha with h1 | ⟨cs, fr, h1⟩
    · exact .inl h1
    · exact .inr ⟨cs, fr, (hg.block _ (blk_lt h1) (fun e => hne ad ha (Option.some.inj e))).trans h1⟩

/-- Two lists by the same keys: values and what they read as. -/
inductive Ents (B : Nat) (w : World) : SM Value → SM Ent → Prop
  | nil : Ents B w [] []
  | cons (k : List UInt8) {v : Value} {e : Ent} {m : SM Value} {es : SM Ent} : EV B w v e → Ents B w m es → Ents B w ((k, v) :: m) ((k, e) :: es)
section
variable {B : Nat} {w w1 : World} {m : SM Value} {es : SM Ent}
theorem Ents.map (f : ∀ v e, EV B w v e → EV B w1 v e) (h : Ents B w m es) : Ents B w1 m es := by
  induction h with
  | nil => exact .nil
  | cons k hv _ ih => exact .cons k (f _ _ hv) ih
theorem Ents.mapB {B' : Nat} (f : ∀ v e, EV B w v e → EV B' w1 v e) (h : Ents B w m es) : Ents B' w1 m es := by
  induction h with
  | nil => exact .nil
  | cons k hv _ ih => exact .cons k (f _ _ hv) ih
theorem Ents.keys (h : Ents B w m es) : m.map Prod.fst = es.map Prod.fst := by
  induction h with
  | nil => rfl
  | cons k _ _ ih => simp [ih]
theorem Ents.length (h : Ents B w m es) : m.length = es.length := by
  have := congrArg List.length h.keys
  simpa using this
theorem Ents.get (h : Ents B w m es) (k : List UInt8) : (sget m k = none ∧ sget es k = none) ∨ ∃ v e, sget m k = some v ∧ sget es k = some e ∧ EV B w v e := by
  induction h with
  | nil => exact .inl ⟨rfl, rfl⟩
  | cons q hv _ ih =>
    rw [sget, sget]
    by_cases hq : q = k
    · simp only [if_pos hq]; exact .inr ⟨_, _, rfl, rfl, hv⟩
    · simp only [if_neg hq]; exact ih
theorem Ents.put (h : Ents B w m es) (k : List UInt8) {v : Value} {e : Ent} (hv : EV B w v e) : Ents B w (sput m k v) (sput es k e) := by
  induction h with
  | nil => exact .cons k hv .nil
  | cons q hq hr ih =>
    rw [sput, sput]
    by_cases h1 : blt k q = true
    · simp only [if_pos h1]; exact .cons k hv (.cons q hq hr)
    · by_cases h2 : q = k
      · simp only [if_neg h1, if_pos h2]; exact .cons k hv hr
      · simp only [if_neg h1, if_neg h2]; exact .cons q hq ih
theorem Ents.del (h : Ents B w m es) (k : List UInt8) : Ents B w (sdel m k) (sdel es k) := by
  induction h with
  | nil => exact .nil
  | cons q hq hr ih =>
    unfold sdel at ih ⊢
    by_cases h2 : q = k
    · rw [List.filter_cons_of_neg (by simp [h2]), List.filter_cons_of_neg (by simp [h2])]; exact ih
    · rw [List.filter_cons_of_pos (by simp [h2]), List.filter_cons_of_pos (by simp [h2])]; exact .cons q hq ih
theorem Ents.rise (h : Ents B w m es) (hr : Rise es) : Rise m := by
  have hk := h.keys
  unfold Rise at hr ⊢
  have h1 : (es.map Prod.fst).Pairwise fun a b => blt a b = true := List.pairwise_map.2 hr
  rw [← hk] at h1
  exact List.pairwise_map.1 h1
end

/-- Block b is a map of these entries. -/
structure MapE (B : Nat) (w : World) (b : Nat) (es : SM Ent) : Prop where
  rise : Rise es
  ex : ∃ m, w.ownsMap Tryd.prog 9 RV b m.length (toD m) ∧ Ents B w m es
theorem ownsMap_exact {w : World} {b n : Nat} {m : SM Value} (h : w.ownsMap Tryd.prog 9 RV b n (toD m)) : w.ownsMap Tryd.prog 9 RV b m.length (toD m) := by
  obtain ⟨es, clock, hb, F, hs, hD⟩ := h
  refine ⟨es, clock, hb, F, ?_, hD⟩
  have h1 := size_toD m
  rw [hD] at h1
  have h2 : Maps.size (DataW.map ((es.toList.map (WideElems.rg Tryd.prog 9 RV)).foldr DataW.insert [])) = es.size := by simp [Maps.size, length_sorted]
  omega
theorem MapE.blk {B : Nat} {w : World} {b : Nat} {es : SM Ent} (h : MapE B w b es) : ∃ en clock, w.heap[b]? = some (.map en clock) := by
  obtain ⟨m, ⟨en, clock, hb, _⟩, _⟩ := h.ex
  exact ⟨en, clock, hb⟩
theorem MapE.lt {B : Nat} {w : World} {b : Nat} {es : SM Ent} (h : MapE B w b es) : b < w.heap.size := by
  obtain ⟨_, _, hb⟩ := h.blk
  exact blk_lt hb
theorem MapE.not5 {B : Nat} {w : World} {b : Nat} {es : SM Ent} (h : MapE B w b es) : ∀ cs fr, w.heap[b]? ≠ some (.cells cs 5 fr) := by
  obtain ⟨_, _, hb⟩ := h.blk
  intro cs fr e
  rw [hb] at e; cases e
theorem MapE.below {B : Nat} {w w1 : World} {b : Nat} {es : SM Ent} (h : MapE B w b es) (hb : Below w.heap.size w w1) : MapE B w1 b es := by
  obtain ⟨m, h1, h2⟩ := h.ex
  exact ⟨h.rise, m, h1.kept (row := none) ⟨hb.os, hb.tape, hb.output, hb.size, fun i hi _ => hb.block i hi⟩ (by simp), h2.map fun v e hv => hv.below hb⟩
theorem MapE.low {B B' : Nat} {w : World} {b : Nat} {es : SM Ent} (h : MapE B w b es) (hB : B' ≤ B) : MapE B' w b es := by
  obtain ⟨m, h1, h2⟩ := h.ex
  exact ⟨h.rise, m, h1, h2.mapB fun v e hv => hv.low hB⟩
/-- Another block turns, which is no row of bytes. -/
theorem MapE.keptM {B g : Nat} {w w1 : World} {b : Nat} {es : SM Ent} (h : MapE B w b es) (hg : w.grownBy w1 (some g)) (hbg : b ≠ g) (hne : ∀ cs fr, w.heap[g]? ≠ some (.cells cs 5 fr)) : MapE B w1 b es := by
  obtain ⟨m, h1, h2⟩ := h.ex
  exact ⟨h.rise, m, h1.kept hg (fun e => hbg (Option.some.inj e)), h2.map fun v e hv => hv.keptM hg hne⟩
theorem MapE.cut {B g : Nat} {w w1 : World} {b : Nat} {es : SM Ent} (h : MapE B w b es) (hg : w.grownBy w1 (some g)) (hbg : b ≠ g) (hB : g < B) : MapE B w1 b es := by
  obtain ⟨m, h1, h2⟩ := h.ex
  exact ⟨h.rise, m, h1.kept hg (fun e => hbg (Option.some.inj e)), h2.map fun v e hv => hv.cut hg hB⟩
theorem MapE.made (B : Nat) (w : World) : MapE B (w.alloc (.map #[] 0)) w.heap.size [] :=
  ⟨.nil, [], World.ownsMap_made w Tryd.prog 9 RV, .nil⟩
theorem MapE.put {B : Nat} {w w1 : World} {b : Nat} {es : SM Ent} {m : SM Value} (hr : Rise es) (h2 : Ents B w m es) (k : List UInt8) {v : Value} {e : Ent} (hv : EV B w v e)
    (ho : w1.ownsMap Tryd.prog 9 RV b (m.length + 1) ((toD m).put (.string k) (ent v))) (hg : w.grownBy w1 (some b)) (hne : ∀ cs fr, w.heap[b]? ≠ some (.cells cs 5 fr)) : MapE B w1 b (sput es k e) := by
  rw [put_toD (h2.rise hr)] at ho
  exact ⟨sput_rise hr _ _, _, ownsMap_exact ho, (h2.put k hv).map fun v e hv => hv.keptM hg hne⟩
theorem MapE.del {B : Nat} {w w1 : World} {b : Nat} {es : SM Ent} {m : SM Value} (hr : Rise es) (h2 : Ents B w m es) (k : List UInt8)
    (ho : w1.ownsMap Tryd.prog 9 RV b m.length ((toD m).del (.string k))) (hg : w.grownBy w1 (some b)) (hne : ∀ cs fr, w.heap[b]? ≠ some (.cells cs 5 fr)) : MapE B w1 b (sdel es k) := by
  rw [del_toD] at ho
  exact ⟨sdel_rise hr _, _, ownsMap_exact ho, (h2.del k).map fun v e hv => hv.keptM hg hne⟩
end Go.Proofs.YteceagldjnfeeaaDoor

/- The walks of the store's Del, Branch, Get. -/
import Derived.Test.YteceagldjnfeeaaDoorSt2
namespace Go.Proofs.YteceagldjnfeeaaDoor
open Go.RowKit Go.Maps
set_option linter.unusedVariables false
set_option linter.unusedSimpArgs false

theorem EV.gone (B : Nat) (w : World) : EV B w (.agg #[.slice none 0 0, .bool true]) ([], true) :=
  ⟨none, 0, 0, rfl, ⟨none, 0, 0, rfl, Sl.empty w none 0 (Nat.zero_le _), .inl rfl⟩, Nat.zero_le _, fun _ h => by cases h⟩
section
variable (w : World) {ops : Array Oper} {rest : List Oper} {o : Oper} {a : Act} {Q : Exit → Act → World → Prop}
theorem wpList_put (hg : o.guard = none) (m x v : Operand) (hop : o.op = Op.mapUpdate 101 m x v) (B b : Nat) (es : SM Ent) (hm : a.eval m = .map (some b)) (hM : Hid (MapE B w b es)) (hn : es.length < maxLen)
    (k : List UInt8) (hx : a.eval x = str k) (hk : k.length ≤ maxLen) (val : Value) (hv : a.eval v = val) (e : Ent) (hE : Hid (EV B w val e))
    (hK : ∀ w', Hid (MapE B w' b (sput es k e)) → Hid (w.grownBy w' (some b)) → wpList Tryd.prog ops Q rest (a.put o.dst undef) w') : wpList Tryd.prog ops Q (o :: rest) a w := by
  obtain ⟨l, hl, hen⟩ := hM.out.ex
  have hev := hE.out
  have hrv : RV val = some (ent val, []) := by
    obtain ⟨aa, n, c, e1, _⟩ := hev
    rw [e1]; rfl
  exact wpList_mapUpdate_own w hg m x v 101 hop 9 105 law9 Tryd.underlying101 RV b l.length (toD l) hm hl (by rw [hen.length]; exact hn) _ val _ hx hv (key9 hk) _ [] hrv fun w' ho hg' =>
    hK w' (MapE.put hM.out.rise hen k hev ho hg' hM.out.not5) hg'
theorem wpList_del (hg : o.guard = none) (m x : Operand) (hop : o.op = Op.call { callee := Callee.builtin Builtin.delete, args := #[m, x], argTypes := #[101, 9] }) (B b : Nat) (es : SM Ent) (hm : a.eval m = .map (some b)) (hM : Hid (MapE B w b es))
    (k : List UInt8) (hx : a.eval x = str k) (hk : k.length ≤ maxLen)
    (hK : ∀ w', Hid (MapE B w' b (sdel es k)) → Hid (w.grownBy w' (some b)) → wpList Tryd.prog ops Q rest (a.put o.dst (.tuple #[])) w') : wpList Tryd.prog ops Q (o :: rest) a w := by
  obtain ⟨l, hl, hen⟩ := hM.out.ex
  exact wpList_delete_own w hg m x 101 9 hop 105 law9 Tryd.underlying101 RV b l.length (toD l) hm hl _ _ hx (key9 hk) fun w' ho ht =>
    hK w' (MapE.del hM.out.rise hen k ho ht.grown hM.out.not5) ht.grown
theorem wpList_none (hg : o.guard = none) (m x : Operand) (hop : o.op = Op.lookup 101 m x true) (B b : Nat) (es : SM Ent) (hm : a.eval m = .map (some b)) (hM : Hid (MapE B w b es))
    (k : List UInt8) (hx : a.eval x = str k) (hk : k.length ≤ maxLen) (hs : sget es k = none)
    (hK : wpList Tryd.prog ops Q rest (a.put o.dst (.tuple #[.agg #[.slice none 0 0, .bool false], .bool false])) w) : wpList Tryd.prog ops Q (o :: rest) a w := by
  obtain ⟨l, hl, hen⟩ := hM.out.ex
  rcases hen.get k with ⟨h1, h2⟩ | ⟨v, e, h1, h2, h3⟩
  · refine wpList_lookup_own_ok w hg m x 101 hop 9 105 law9 Tryd.underlying101 RV (zeroE w) _ [] (RV_mk none 0 0 false) b l.length (toD l) hm hl _ _ hx (key9 hk) fun v ps hv => ?_
    rw [has_toD, h1]
    rw [at_toD, h1] at hv
    obtain ⟨⟨⟨aa, n, c⟩, g⟩, rfl⟩ := RV_inv hv
    have := RV_eq hv
    simp only [Prod.mk.injEq] at this
    have h4 : mkE ((aa, n, c), g) = .agg #[.slice none 0 0, .bool false] := by
      have h5 := this.1
      unfold ent at h5
      injection h5 with h5
      exact h5.symm
    rw [h4]
    exact hK
  · rw [hs] at h2; cases h2
theorem wpList_some (hg : o.guard = none) (m x : Operand) (hop : o.op = Op.lookup 101 m x true) (B b : Nat) (es : SM Ent) (hm : a.eval m = .map (some b)) (hM : Hid (MapE B w b es))
    (k : List UInt8) (hx : a.eval x = str k) (hk : k.length ≤ maxLen) (e : Ent) (hs : sget es k = some e)
    (hK : ∀ (aa : Option Addr) (n c : Nat), Hid (EV B w (.agg #[.slice aa n c, .bool e.2]) e) → wpList Tryd.prog ops Q rest (a.put o.dst (.tuple #[.agg #[.slice aa n c, .bool e.2], .bool true])) w) : wpList Tryd.prog ops Q (o :: rest) a w := by
  obtain ⟨l, hl, hen⟩ := hM.out.ex
  rcases hen.get k with ⟨h1, h2⟩ | ⟨v, e', h1, h2, h3⟩
  · rw [hs] at h2; cases h2
  · rw [hs] at h2
    cases h2
    refine wpList_lookup_own_ok w hg m x 101 hop 9 105 law9 Tryd.underlying101 RV (zeroE w) _ [] (RV_mk none 0 0 false) b l.length (toD l) hm hl _ _ hx (key9 hk) fun v' ps hv => ?_
    rw [has_toD, h1]
    rw [at_toD, h1] at hv
    have := RV_eq hv
    simp only [Prod.mk.injEq] at this
    have h4 : v = v' := by
      have h5 := this.1
      unfold ent at h5
      injection h5
    subst h4
    obtain ⟨aa, n, c, e1, _⟩ := id h3
    subst e1
    exact hK aa n c h3
end

/-- What Del leaves. -/
def delE (par : Option Addr) (es : SM Ent) (k : List UInt8) : SM Ent := if par.isNone then sdel es k else sput es k ([], true)
set_option maxRecDepth 100000 in
set_option maxHeartbeats 2000000 in
theorem del_any (B p b : Nat) (par : Option Addr) (es : SM Ent) (k : List UInt8) (w : World) (hs : Sto B w p par b es) (hk : k.length ≤ maxLen) (hes : es.length ≤ 9000000000000000) :
    Calls Tryd.prog 41 #[.pointer (some ⟨p, 0, none⟩), str k] w fun e w' => e = .returned (.tuple #[]) ∧ Sto B w' p par b (delE par es k) ∧ w.grownBy w' (some b) := by
  have HS := Lib.hid hs
  have c0 := hs.c0
  have c1 := hs.c1
  have HM := Lib.hid hs.own
  have hml : es.length < maxLen := by unfold maxLen; omega
  clear hs
  cases par with
  | none =>
    go_enter Tryd.func41, Tryd.ntmps41
    go_wp2_with (at_delete; refine wpList_del _ rfl _ _ rfl B b es rfl HM k rfl hk ?_; intro w1 HM1 HG1)
    go_end0
    exact ⟨rfl, HS.out.turn HG1.out HM1.out, HG1.out⟩
  | some q =>
    have HE := fun w => Lib.hid (EV.gone B w)
    go_enter Tryd.func41, Tryd.ntmps41
    go_wp2_with (at_mapUpdate; refine wpList_put _ rfl _ _ _ rfl B b es rfl HM hml k rfl hk _ rfl ([], true) (HE _) ?_; intro w1 HM1 HG1)
    go_end0
    exact ⟨rfl, HS.out.turn HG1.out HM1.out, HG1.out⟩

theorem new_sto (B : Nat) (w : World) (par : Option Addr) : Sto B ((w.alloc (.map #[] 0)).alloc (.cells #[.pointer par, .map (some w.heap.size)] 103)) (w.heap.size + 1) par w.heap.size [] := by
  have h1 : (w.alloc (.map #[] 0)).heap.size = w.heap.size + 1 := by simp
  refine ⟨?_, (MapE.made B w).below (row_below _ _).out⟩
  have := (MapKept.heap_alloc (w.alloc (.map #[] 0)) (.cells #[.pointer par, .map (some w.heap.size)] 103)).1
  rw [h1] at this
  exact this
theorem two_below (w : World) (o o2 : Obj) : Hid (Below w.heap.size w ((w.alloc o).alloc o2)) := ((Below.refl w.heap.size w).alloc (Nat.le_refl _) o).alloc (by simp) o2
set_option maxRecDepth 100000 in
set_option maxHeartbeats 2000000 in
theorem branch_any (B p b : Nat) (par : Option Addr) (es : SM Ent) (w : World) (hs : Sto B w p par b es) :
    Calls Tryd.prog 44 #[.pointer (some ⟨p, 0, none⟩)] w fun e w' => ∃ p' b', e = .returned (.pointer (some ⟨p', 0, none⟩)) ∧ Sto B w' p' (some ⟨p, 0, none⟩) b' [] ∧ Below w.heap.size w w' ∧ w.heap.size ≤ p' ∧ w.heap.size ≤ b' := by
  have HS := Lib.hid hs
  have hmm := @run_makeMap Tryd.prog
  have HN := Lib.hid (new_sto B w (some ⟨p, 0, none⟩))
  have HB := two_below w (.map #[] 0) (.cells #[.pointer (some ⟨p, 0, none⟩), .map (some w.heap.size)] 103)
  clear hs
  go_enter Tryd.func44, Tryd.ntmps44
  go_wp2_with (fail)
  go_ret
  exact ⟨w.heap.size + 1, w.heap.size, rfl, HN.out, HB.out, by omega, Nat.le_refl _⟩

/-- A store and those that it lies over. -/
inductive Chain (B : Nat) (w : World) : Option Addr → List (SM Ent) → Prop
  | nil : Chain B w none []
  | cons {p b : Nat} {par : Option Addr} {es : SM Ent} {r : List (SM Ent)} : Sto B w p par b es → Chain B w par r → Chain B w (some ⟨p, 0, none⟩) (es :: r)
theorem Chain.sink {B : Nat} {w w1 : World} {q : Option Addr} {l : List (SM Ent)} (h : Chain B w q l) (hb : Below w.heap.size w w1) : Chain B w1 q l := by
  induction h with
  | nil => exact .nil
  | cons hs _ ih => exact .cons (hs.below hb) ih
theorem Chain.low1 {B B' : Nat} {w : World} {q : Option Addr} {l : List (SM Ent)} (h : Chain B w q l) (hB : B' ≤ B) : Chain B' w q l := by
  induction h with
  | nil => exact .nil
  | cons hs _ ih => exact .cons (hs.low hB) ih
/-- The first word on a key. -/
def getL : List (SM Ent) → List UInt8 → Option Ent
  | [], _ => none
  | es :: r, k => (sget es k).or (getL r k)
end Go.Proofs.YteceagldjnfeeaaDoor

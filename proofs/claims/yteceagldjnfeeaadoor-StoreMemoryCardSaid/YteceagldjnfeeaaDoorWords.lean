/- Words for the walks: what a slice reads as, bytes as numbers, rows of the call's own. No statement of the seat is proved here; no program is named. -/
import Derived.WalkKit
import Derived.WalkSpells
import Derived.WalkLawsBesides
import Derived.Deep.QuietTactic
import Derived.BigQuiet
import Derived.Deep.AppendSrc
import Derived.Lib.AppendZerosOnto
import Derived.Lib.Hide
import Derived.Lib.ConvBytes
import Derived.Laws.IdiomStrings
import Derived.Lib.SlBytesConst
import Derived.RegionTactic
import Derived.BigRegion
import Derived.Deep.RegionHeld3
import Derived.Deep.RegionWith
import Derived.Deep.RegionLaw
import Derived.Deep.AppendLies
import Derived.Deep.DeepMust
import Derived.Deep.DeepFit
import Derived.Deep.DeepCutAuto
import Derived.Deep.LoopGhost
import Derived.StillTailTactics
import Derived.IntWalk
namespace Go.Proofs.YteceagldjnfeeaaDoor
open Go.RowKit
set_option linter.unusedVariables false

/-- A byte as a whole number. -/
def ub (b : UInt8) : Int := (b.toNat : Int)
theorem ub_nonneg (b : UInt8) : 0 ≤ ub b := by unfold ub; omega
theorem ub_le (b : UInt8) : ub b ≤ 255 := by unfold ub; have := b.toNat_lt; omega
theorem ub_inj {a b : UInt8} : ub a = ub b ↔ a = b := by
  unfold ub
  constructor
  · intro h; exact UInt8.toNat_inj.1 (by omega)
  · rintro rfl; rfl
theorem ub_bne (a b : UInt8) : (ub a != ub b) = (a != b) := by
  by_cases h : a = b
  · subst h; simp
  · have : ¬ ub a = ub b := fun e => h (ub_inj.1 e)
    rw [bne_iff_ne.2 h, bne_iff_ne.2 this]
theorem ub_beq (a b : UInt8) : (ub a == ub b) = (a == b) := by
  by_cases h : a = b
  · subst h; simp
  · have : ¬ ub a = ub b := fun e => h (ub_inj.1 e)
    rw [beq_eq_false_iff_ne.2 h, beq_eq_false_iff_ne.2 this]
theorem ub_of (n : Nat) : ub (UInt8.ofNat n) = ((n % 256 : Nat) : Int) := by simp [ub]

/-- Bytes as values. -/
def bts (l : List UInt8) : List Value := l.map fun b => .int .u8 (ub b)
theorem bts_length (l : List UInt8) : (bts l).length = l.length := by simp [bts]
theorem bts_append (a b : List UInt8) : bts (a ++ b) = bts a ++ bts b := by simp [bts]
theorem bts_nil : bts [] = [] := rfl
theorem bts_cons (b : UInt8) (l : List UInt8) : bts (b :: l) = .int .u8 (ub b) :: bts l := rfl
theorem bts_get (l : List UInt8) (j : Nat) (h : j < l.length) : (bts l)[j]? = some (.int .u8 (ub l[j])) := by simp [bts, h]
theorem bts_one (l : List UInt8) : ∀ u ∈ bts l, u.oneCell' = true := by
  intro u hu
  obtain ⟨b, _, rfl⟩ := List.mem_map.1 hu
  rfl
theorem bts_take (l : List UInt8) (k : Nat) : bts (l.take k) = (bts l).take k := by simp [bts, List.map_take]
theorem bts_drop (l : List UInt8) (k : Nat) : bts (l.drop k) = (bts l).drop k := by simp [bts, List.map_drop]

/-- A slice whose elements (a cell each) read so; nil and empty ones too. -/
structure Sl (w : World) (a : Option Addr) (n c : Nat) (vs : List Value) : Prop where
  len : vs.length = n
  cap : n ≤ c
  big : c ≤ maxLen
  cells : ∀ j u, vs[j]? = some u → ∃ b o, a = some ⟨b, o, none⟩ ∧ w.cell? ⟨b, o + j, none⟩ = some u

theorem Sl.at {w : World} {a : Option Addr} {n c : Nat} {vs : List Value} (h : Sl w a n c vs) {j : Nat} (hj : j < n) :
    ∃ b o, a = some ⟨b, o, none⟩ ∧ ∀ i (hi : i < vs.length), w.cell? ⟨b, o + i, none⟩ = some vs[i] := by
  obtain ⟨b, o, rfl, _⟩ := h.cells j (vs[j]'(by rw [h.len]; exact hj)) (List.getElem?_eq_getElem _)
  refine ⟨b, o, rfl, fun i hi => ?_⟩
  obtain ⟨b', o', e, hc⟩ := h.cells i vs[i] (List.getElem?_eq_getElem hi)
  cases e
  exact hc
theorem Sl.nil (w : World) : Sl w none 0 0 [] := ⟨rfl, Nat.le_refl _, Nat.zero_le _, fun j u h => by simp at h⟩
theorem Sl.empty (w : World) (a : Option Addr) (c : Nat) (hc : c ≤ maxLen) : Sl w a 0 c [] := ⟨rfl, Nat.zero_le _, hc, fun j u h => by simp at h⟩
theorem Sl.below {w w1 : World} {a : Option Addr} {n c : Nat} {vs : List Value} (h : Sl w a n c vs) (hb : Below w.heap.size w w1) : Sl w1 a n c vs :=
  ⟨h.len, h.cap, h.big, fun j u hj => by
    obtain ⟨b, o, e, hc⟩ := h.cells j u hj
    exact ⟨b, o, e, (hb.cell (p := ⟨b, o + j, none⟩) (World.block_lt_of_cell? w _ hc)).trans hc⟩⟩
theorem Sl.kept {w w1 : World} {a : Option Addr} {n c : Nat} {vs : List Value} {row : Option Nat} (h : Sl w a n c vs) (hg : w.grownBy w1 row) (hne : ∀ ad, a = some ad → some ad.block ≠ row) : Sl w1 a n c vs :=
  ⟨h.len, h.cap, h.big, fun j u hj => by
    obtain ⟨b, o, e, hc⟩ := h.cells j u hj
    exact ⟨b, o, e, hg.cell hc (hne ⟨b, o, none⟩ e)⟩⟩
theorem Sl.take {w : World} {a : Option Addr} {n c : Nat} {vs : List Value} (h : Sl w a n c vs) (k : Nat) (hk : k ≤ n) : Sl w a k c (vs.take k) :=
  ⟨by rw [List.length_take, h.len]; omega, Nat.le_trans hk h.cap, h.big, fun j u hj => h.cells j u (by
    rw [List.getElem?_take] at hj
    split at hj
    · exact hj
    · cases hj)⟩
theorem Sl.drop {w : World} {a : Option Addr} {n c : Nat} {vs : List Value} (h : Sl w a n c vs) (k : Nat) (hk : k ≤ n) : Sl w (if c = k then a else a.map (·.add k)) (n - k) (c - k) (vs.drop k) := by
  refine ⟨by rw [List.length_drop, h.len], by have := h.cap; omega, by have := h.big; omega, fun j u hj => ?_⟩
  rw [List.getElem?_drop] at hj
  obtain ⟨b, o, rfl, hc⟩ := h.cells _ u hj
  have hlt : k + j < vs.length := (List.getElem?_eq_some_iff.1 hj).1
  rw [h.len] at hlt
  have := h.cap
  rw [if_neg (by omega)]
  by_cases hk0 : k = 0
  · subst hk0
    refine ⟨b, o, by simp [Addr.add], ?_⟩
    simpa using hc
  · refine ⟨b, o + k, by simp [Addr.add, hk0], ?_⟩
    rw [Nat.add_assoc]; exact hc

/-- A row of cells, read as a slice. -/
theorem Sl.of_block {w : World} {b : Nat} {cs : Array Value} {e : TypeId} {fr : Nat × Nat} (h : w.heap[b]? = some (.cells cs e fr)) (hm : cs.size ≤ maxLen) : Sl w (some ⟨b, 0, none⟩) cs.size cs.size cs.toList :=
  ⟨by simp, Nat.le_refl _, hm, fun j u hj => ⟨b, 0, rfl, by rw [Nat.zero_add, cell_of_row w b j cs e fr h]; simpa using hj⟩⟩

/-- A slice of bytes. -/
abbrev Bs (w : World) (a : Option Addr) (n c : Nat) (l : List UInt8) : Prop := Sl w a n c (bts l)
theorem Sl.blen {w : World} {a : Option Addr} {n c : Nat} {l : List UInt8} (h : Bs w a n c l) : l.length = n := by have := h.len; rwa [bts_length] at this
theorem Sl.bat {w : World} {a : Option Addr} {n c : Nat} {l : List UInt8} (h : Bs w a n c l) {j : Nat} (hj : j < n) :
    ∃ b o, a = some ⟨b, o, none⟩ ∧ ∀ i (hi : i < l.length), w.cell? ⟨b, o + i, none⟩ = some (.int .u8 (ub l[i])) := by
  obtain ⟨b, o, e, hc⟩ := h.at hj
  refine ⟨b, o, e, fun i hi => ?_⟩
  have := hc i (by rw [bts_length]; exact hi)
  simpa [bts] using this

/-- A value that is a slice of these bytes. -/
def IsB (w : World) (v : Value) (l : List UInt8) : Prop := ∃ a n c, v = .slice a n c ∧ Bs w a n c l
theorem IsB.below {w w1 : World} {v : Value} {l : List UInt8} (h : IsB w v l) (hb : Below w.heap.size w w1) : IsB w1 v l := by
  obtain ⟨a, n, c, e, hs⟩ := h
  exact ⟨a, n, c, e, hs.below hb⟩
theorem IsB.kept {w w1 : World} {v : Value} {l : List UInt8} {row : Option Nat} (h : IsB w v l) (hg : w.grownBy w1 row) (hne : v.ownBlock = none ∨ v.ownBlock ≠ row) : IsB w1 v l := by
  obtain ⟨a, n, c, rfl, hs⟩ := h
  refine ⟨a, n, c, rfl, hs.kept hg fun ad e => ?_⟩
  subst e
  rcases hne with h | h
  · simp [Value.ownBlock] at h
  · exact h

/-- What a row of the call's own reads as. -/
theorem own_sl {w : World} {base : Nat} {e : TypeId} {v : Value} {n : Nat} {vs : List Value} (h : w.ownsRow base e 1 v n vs) : ∃ a c, v = .slice a n c ∧ Sl w a n c vs := by
  have hl : vs.length = n := by have := h.1; simpa using this
  rcases h.2 with ⟨rfl, rfl⟩ | ⟨g, cap, cur, rfl, hb, hg, hnc, hm, hs, ht⟩
  · obtain rfl : vs = [] := List.eq_nil_of_length_eq_zero hl
    exact ⟨none, 0, rfl, Sl.nil w⟩
  · refine ⟨_, cap, rfl, hl, hnc, hm, fun j u hj => ⟨g, 0, rfl, ?_⟩⟩
    have := h.cells (g := g) rfl j u hj
    rw [show (⟨g, 0, none⟩ : Addr).add j = ⟨g, 0 + j, none⟩ by unfold Addr.add; split <;> simp_all] at this
    exact this
theorem own_isB {w : World} {base : Nat} {e : TypeId} {v : Value} {n : Nat} {l : List UInt8} (h : w.ownsRow base e 1 v n (bts l)) : IsB w v l := by
  obtain ⟨a, c, e, hs⟩ := own_sl h
  exact ⟨a, n, c, e, hs⟩
theorem own_keep {w w1 : World} {base : Nat} {e : TypeId} {v : Value} {n : Nat} {vs : List Value} (h : w.ownsRow base e 1 v n vs) (hb : Below w.heap.size w w1) : w1.ownsRow base e 1 v n vs :=
  h.kept (row := none) ⟨hb.os, hb.tape, hb.output, hb.size, fun i hi _ => hb.block i hi⟩ (by cases v.ownBlock <;> simp)
theorem own_mono {w : World} {base base' : Nat} {e : TypeId} {v : Value} {n : Nat} {vs : List Value} (h : w.ownsRow base e 1 v n vs) (hb : base' ≤ base) : w.ownsRow base' e 1 v n vs := by
  obtain ⟨h1, h2⟩ := h
  refine ⟨h1, ?_⟩
  rcases h2 with h2 | ⟨g, cap, cur, hv, hg, r⟩
  · exact .inl h2
  · exact .inr ⟨g, cap, cur, hv, Nat.le_trans hb hg, r⟩

/-- The call hands back new bytes: nothing that was there has turned. -/
def RetB (l : List UInt8) (w : World) (e : Ending) (w' : World) : Prop :=
  ∃ v, e = .returned v ∧ Below w.heap.size w w' ∧ w'.ownsRow w.heap.size 5 1 v l.length (bts l)
/-- The same where there are some: the slice written out. -/
def RetN (l : List UInt8) (n : Nat) (w : World) (e : Ending) (w' : World) : Prop :=
  ∃ g c, e = .returned (.slice (some ⟨g, 0, none⟩) n c) ∧ Below w.heap.size w w' ∧ w.heap.size ≤ g ∧ w'.ownsRow w.heap.size 5 1 (.slice (some ⟨g, 0, none⟩) n c) n (bts l)
theorem RetB.some {l : List UInt8} {w : World} {e : Ending} {w' : World} (h : RetB l w e w') (n : Nat) (hn : 0 < n) (hl : l.length = n) : RetN l n w e w' := by
  obtain ⟨v, he, hb, ho⟩ := h
  rw [hl] at ho
  rcases ho.2 with ⟨_, h0⟩ | ⟨g, cap, cur, rfl, hg, r⟩
  · omega
  · exact ⟨g, cap, he, hb, hg, ho⟩

theorem RetB.before {l : List UInt8} {w wa : World} {e : Ending} {w' : World} (h : RetB l wa e w') (hb : Below w.heap.size w wa) : RetB l w e w' := by
  obtain ⟨v, he, hb1, ho⟩ := h
  exact ⟨v, he, hb.trans ⟨hb1.os, hb1.tape, hb1.output, hb1.size, fun i hi => hb1.block i (Nat.lt_of_lt_of_le hi hb.size)⟩, own_mono ho hb.size⟩
theorem drewN_below (w : World) (n : Nat) : Below w.heap.size w (w.drewN n) := ⟨rfl, rfl, rfl, Nat.le_refl _, fun _ _ => rfl⟩
theorem below_then {B : Nat} {w w1 w2 : World} (h : Below B w w1) (hB : B ≤ w1.heap.size) (k : Below w1.heap.size w1 w2) : Below B w w2 :=
  h.trans ⟨k.os, k.tape, k.output, k.size, fun i hi => k.block i (Nat.lt_of_lt_of_le hi hB)⟩

/-! ### append(s, x...) whose source is whatever slice -/
section
variable {P : Program}
theorem src_of_sl {w : World} {tx e' : TypeId} (hk : P.underlying tx = some (.slice e')) {a : Option Addr} {n c : Nat} {vs : List Value} (h : Sl w a n c vs) (h1 : ∀ u ∈ vs, u.oneCell' = true) : Src P 1 tx (.slice a n c) n vs w := by
  cases a with
  | none =>
    have hv : vs = [] := by
      cases vs with
      | nil => rfl
      | cons u r => obtain ⟨b, o, e, _⟩ := h.cells 0 u rfl; cases e
    subst hv
    obtain rfl : n = 0 := by have := h.len; simpa using this.symm
    exact Src.ofNil w hk c
  | some ad =>
    refine Src.ofSlice w hk ad n c vs (by rw [h.len]; omega) (fun j u hj => ?_) h1
    obtain ⟨b, o, e, hc⟩ := h.cells j u hj
    cases e
    rw [show (⟨b, o, none⟩ : Addr).add j = ⟨b, o + j, none⟩ by unfold Addr.add; split <;> simp_all]
    exact hc

theorem run_append_own_src (w : World) (base : Nat) (t ty e : TypeId) (i : TypeInfo) (z : Value) (bytes : Nat) (ht : P.underlying t = some (.slice e)) (hi : P.info? e = some i) (hz : i.zero = some z)
    (hsize : i.size = 1) (hby : i.bytes = bytes) (hzs : z.cells.size = 1)
    (v : Value) (n : Nat) (xs : List Value) (hown : w.ownsRow base e 1 v n xs)
    (a : Option Addr) (m c : Nat) (news : List Value) (hsl : Sl w a m c news) (h1 : ∀ u ∈ news, u.oneCell' = true)
    (h63 : n + m ≤ maxLen) (hbytes : (n + m) * bytes ≤ 140737488355328) (hbase : base ≤ w.heap.size) :
    ∃ v' w', (Builtin.append_ #[t, t] ty #[v, .slice a m c]).run P w = .ok v' w' ∧ w'.ownsRow base e 1 v' (n + m) (xs ++ news) ∧ w.grownBy w' v.ownBlock ∧
      (v' = .slice none 0 0 ↔ v = .slice none 0 0 ∧ m = 0) := by
  cases a with
  | some ad =>
    refine run_append_own (P := P) w base t ty e i z 1 bytes ht hi hz hsize hby hzs (by omega) v n xs hown ad m c news (by rw [hsl.len]; omega) (fun j u hj => ?_) h1 h63 hbytes hbase
    obtain ⟨b, o, e, hc⟩ := hsl.cells j u hj
    cases e
    rw [show (⟨b, o, none⟩ : Addr).add j = ⟨b, o + j, none⟩ by unfold Addr.add; split <;> simp_all]
    exact hc
  | none =>
    have hv : news = [] := by
      cases news with
      | nil => rfl
      | cons u r => obtain ⟨b, o, e, _⟩ := hsl.cells 0 u rfl; cases e
    subst hv
    obtain rfl : m = 0 := by have := hsl.len; simpa using this.symm
    refine ⟨v, w, ?_, by simpa using hown, ⟨rfl, rfl, rfl, Nat.le_refl _, fun _ _ _ => rfl⟩, by simp⟩
    rcases hown.2 with ⟨rfl, rfl⟩ | ⟨g, cap, cur, rfl, hb, hg, hnc, hm, hs, htk⟩
    · simp [Builtin.append_, run_underlying ht, sizeOf, typeInfo, hi, Builtin.lenOf, Builtin.firstCells]
    · simp [Builtin.append_, run_underlying ht, sizeOf, typeInfo, hi, Builtin.lenOf, hnc, Builtin.firstCells, storeCells]

theorem wpList_append_src {w : World} {ops : Array Oper} {rest : List Oper} {o : Oper} {ac : Act} {Q : Exit → Act → World → Prop} (hgd : o.guard = none) (s x : Operand) (t : TypeId)
    (ho : o.op = .call { callee := .builtin .append, args := #[s, x], argTypes := #[t, t] })
    (base : Nat) (e : TypeId) (z : Value) (bytes : Nat) (ht : P.underlying t = some (.slice e)) (hinfo : (P.info? e).map (fun i => (i.zero, i.size, i.bytes)) = some (some z, 1, bytes)) (hzs : z.cells.size = 1)
    (v : Value) (n : Nat) (xs : List Value) (hs : ac.eval s = v) (hown : w.ownsRow base e 1 v n xs)
    (a : Option Addr) (m c : Nat) (news : List Value) (hx : ac.eval x = .slice a m c) (hsl : Sl w a m c news) (h1 : ∀ u ∈ news, u.oneCell' = true)
    (h63 : n + m ≤ maxLen) (hbytes : (n + m) * bytes ≤ 140737488355328) (hbase : base ≤ w.heap.size)
    (h : ∀ v' w', w'.ownsRow base e 1 v' (n + m) (xs ++ news) → w.grownBy w' v.ownBlock → (v' = .slice none 0 0 ↔ v = .slice none 0 0 ∧ m = 0) → wpList P ops Q rest (ac.put o.dst v') w') : wpList P ops Q (o :: rest) ac w := by
  obtain ⟨i, hi, hzz⟩ := Option.map_eq_some_iff.1 hinfo
  simp only [Prod.mk.injEq] at hzz
  obtain ⟨hz0, hz1, hz2⟩ := hzz
  refine wpList_plain hgd fun _ hK => ?_
  obtain ⟨v', w', hr, h2, h3, h4⟩ := run_append_own_src (P := P) w base t o.type e i z bytes ht hi hz0 hz1 hz2 hzs v n xs hown a m c news hsl h1 h63 hbytes hbase
  unfold Oper.wp execOp
  simp only [ho, resolve, invoke, builtin, Sem.run_bind, Sem.run_pure, Result.andThen_ok, List.map_toArray, List.map_cons, List.map_nil, hs, hx, hr]
  exact hK _ _ (h v' w' h2 h3 h4)
end
end Go.Proofs.YteceagldjnfeeaaDoor

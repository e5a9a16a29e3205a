/- A range over a map of entries; the walks of maps.Clone, maps.Copy and of what a store sees. -/
import Derived.Test.YteceagldjnfeeaaDoorSt5
import Derived.Shelf.SlMaps.Clone
namespace Go.Proofs.YteceagldjnfeeaaDoor
open Go.RowKit Go.Maps
set_option linter.unusedVariables false
set_option linter.unusedSimpArgs false

/-- A range over such a map, under way. -/
structure Rg (B : Nat) (w : World) (b r : Nat) (es : SM Ent) (left : Lit → Bool) (cnt : Nat) : Prop where
  rise : Rise es
  ex : ∃ m, w.ranges Tryd.prog 9 RV b r m.length (toD m) left cnt ∧ Ents B w m es
theorem Rg.not5 {B : Nat} {w : World} {b r : Nat} {es : SM Ent} {left : Lit → Bool} {cnt : Nat} (h : Rg B w b r es left cnt) : ∀ cs fr, w.heap[r]? ≠ some (.cells cs 5 fr) := by
  obtain ⟨m, ⟨_, _, _, _, _, _, _, _, _, hr, _⟩, _⟩ := h.ex
  intro cs fr e
  rw [hr] at e; cases e
theorem Rg.own {B : Nat} {w : World} {b r : Nat} {es : SM Ent} {left : Lit → Bool} {cnt : Nat} (h : Rg B w b r es left cnt) : MapE B w b es := by
  obtain ⟨m, h1, h2⟩ := h.ex
  exact ⟨h.rise, m, h1.owns, h2⟩
theorem Rg.ne {B : Nat} {w : World} {b r : Nat} {es : SM Ent} {left : Lit → Bool} {cnt : Nat} (h : Rg B w b r es left cnt) : r ≠ b := by
  obtain ⟨m, h1, h2⟩ := h.ex
  exact h1.ne
theorem Rg.lt {B : Nat} {w : World} {b r : Nat} {es : SM Ent} {left : Lit → Bool} {cnt : Nat} (h : Rg B w b r es left cnt) : r < w.heap.size := by
  obtain ⟨m, h1, h2⟩ := h.ex
  exact h1.lt
theorem Rg.left_eq {B : Nat} {w : World} {b r : Nat} {es : SM Ent} {left : Lit → Bool} {cnt : Nat} (h : Rg B w b r es left cnt) : w.rangeLeft b r = cnt := by
  obtain ⟨m, h1, h2⟩ := h.ex
  exact h1.left_eq
theorem Rg.below {B : Nat} {w w1 : World} {b r : Nat} {es : SM Ent} {left : Lit → Bool} {cnt : Nat} (h : Rg B w b r es left cnt) (hb : Below w.heap.size w w1) : Rg B w1 b r es left cnt := by
  obtain ⟨m, h1, h2⟩ := h.ex
  exact ⟨h.rise, m, h1.kept (row := none) ⟨hb.os, hb.tape, hb.output, hb.size, fun i hi _ => hb.block i hi⟩ (by simp) (by simp), h2.map fun v e hv => hv.below hb⟩
theorem Rg.keptM {B g : Nat} {w w1 : World} {b r : Nat} {es : SM Ent} {left : Lit → Bool} {cnt : Nat} (h : Rg B w b r es left cnt) (hg : w.grownBy w1 (some g)) (hbg : b ≠ g) (hrg : r ≠ g) (hne : ∀ cs fr, w.heap[g]? ≠ some (.cells cs 5 fr)) : Rg B w1 b r es left cnt := by
  obtain ⟨m, h1, h2⟩ := h.ex
  exact ⟨h.rise, m, h1.kept hg (fun e => hbg (Option.some.inj e)) (fun e => hrg (Option.some.inj e)), h2.map fun v e hv => hv.keptM hg hne⟩

section
variable (w : World) {ops : Array Oper} {rest : List Oper} {o : Oper} {a : Act} {Q : Exit → Act → World → Prop}
theorem wpList_rangeE (hg : o.guard = none) (m : Operand) (hop : o.op = Op.range 101 m) (B b : Nat) (es : SM Ent) (hm : a.eval m = .map (some b)) (hM : Hid (MapE B w b es))
    (hK : ∀ w' left, Hid (Rg B w' b w.heap.size es left es.length) → Hid (∀ k, left (.string k) = (sget es k).isSome) → Hid (Below w.heap.size w w') → wpList Tryd.prog ops Q rest (a.put o.dst (.pointer (some ⟨w.heap.size, 0, none⟩))) w') : wpList Tryd.prog ops Q (o :: rest) a w := by
  obtain ⟨l, hl, hen⟩ := hM.out.ex
  refine wpList_range_own w hg m 101 hop 9 105 law9 Tryd.underlying101 RV b l.length (toD l) hm hl fun w' hr hg' hs' => ?_
  have hb : Below w.heap.size w w' := ⟨hg'.os, hg'.tape, hg'.output, hg'.size, fun i hi => hg'.block i hi (by simp)⟩
  refine hK w' (Maps.has (toD l)) ⟨hM.out.rise, l, ?_, hen.map fun v e hv => hv.below hb⟩ (fun k => ?_) hb
  · have := hr
    rw [size_toD] at this
    rw [← hen.length]
    exact this
  · rw [has_toD]
    rcases hen.get k with ⟨h1, h2⟩ | ⟨v, e, h1, h2, _⟩
    · rw [h1, h2]; rfl
    · rw [h1, h2]; rfl
theorem wpList_nextE (hg : o.guard = none) (it : Operand) (hop : o.op = Op.next it false) (B b r : Nat) (es : SM Ent) (left : Lit → Bool) (cnt : Nat)
    (hit : a.eval it = .pointer (some ⟨r, 0, none⟩)) (h : Hid (Rg B w b r es left cnt))
    (hDone : (∀ kl, left kl = false) → wpList Tryd.prog ops Q rest (a.put o.dst (.tuple #[.bool false])) w)
    (hMore : ∀ (k : List UInt8) (aa : Option Addr) (n c : Nat) (e : Ent) (w' : World) (cnt' : Nat), k.length ≤ maxLen → Hid (left (.string k) = true) → Hid (sget es k = some e) → Hid (EV B w' (.agg #[.slice aa n c, .bool e.2]) e) →
      Hid (Rg B w' b r es (fun z => left z && !z.sameKey (.string k)) cnt') → Hid (cnt' < cnt) → Hid (w.grownBy w' (some r)) → Hid (w'.heap.size = w.heap.size) → (Instr.entry (.pointer (some ⟨r, 0, none⟩))).run Tryd.prog w' = .ok (.tuple #[str k, .agg #[.slice aa n c, .bool e.2]]) w' →
      wpList Tryd.prog ops Q rest (a.put o.dst (.tuple #[.bool true, str k, .agg #[.slice aa n c, .bool e.2]])) w') : wpList Tryd.prog ops Q (o :: rest) a w := by
  obtain ⟨l, hl, hen⟩ := h.out.ex
  refine wpList_next_ranges w hg it hop 9 law9 RV (fun x : {s : List UInt8 // s.length ≤ maxLen} => str x.1) mkE (fun key kl hk => ?_) (fun v y hv => RV_inv hv) b r l.length (toD l) left cnt hit hl (fun _ hd => hDone hd) ?_
  · obtain ⟨s, rfl, _, hs⟩ := WideMaps.string_of_keyOf Tryd.underlying9 hk
    refine ⟨⟨s.data.toList, by simpa using hs⟩, ?_⟩
    show Value.string s = str s.data.toList
    rfl
  · rintro ⟨k, hk⟩ ⟨⟨aa, n, c⟩, g⟩ kl y w' cnt' hkey hlk hv hat hrg hlt hgr hsz hrun
    rw [key9 hk] at hkey
    obtain rfl := Option.some.inj hkey
    have hy := RV_eq hv
    subst hy
    have hv1 : ∃ v e, sget l k = some v ∧ sget es k = some e ∧ EV B w v e := by
      rcases hen.get k with ⟨h1, _⟩ | h1
      · exfalso
        have h2 := hat (ent (.bool true))
        have h3 := hat (.map [])
        rw [at_toD, h1] at h2 h3
        simp only at h2 h3
        rw [← h3] at h2
        cases h2
      · exact h1
    obtain ⟨v, e, h1, h2, h3⟩ := hv1
    have h4 := hat (.map [])
    rw [at_toD, h1] at h4
    have h5 : v = mkE ((aa, n, c), g) := by
      simp only at h4
      unfold ent at h4
      injection h4
    subst h5
    have h6 : g = e.2 := by
      obtain ⟨_, _, _, e1, _⟩ := h3
      unfold mkE at e1
      injection e1 with e1
      simp only [Array.mk.injEq, List.cons.injEq, Value.bool.injEq] at e1
      exact e1.2.1
    subst h6
    have hgr1 : w.grownBy w' (some r) := hgr
    exact hMore k aa n c e w' cnt' hk hlk h2 (h3.keptM hgr h.out.not5) ⟨h.out.rise, l, hrg, hen.map fun v e hv => hv.keptM hgr h.out.not5⟩ hlt hgr hsz hrun
end

set_option maxRecDepth 100000 in
set_option maxHeartbeats 2000000 in
/-- maps.Clone. -/
theorem mclone_any (B b : Nat) (es : SM Ent) (w : World) (hM : MapE B w b es) :
    Calls Tryd.prog 110 #[.map (some b)] w fun e w' => e = .returned (.map (some w.heap.size)) ∧ MapE B w' w.heap.size es ∧ Below w.heap.size w w' := by
  obtain ⟨m, ⟨en, clock, hb, F, hs, hD⟩, hen⟩ := hM.ex
  have HB := row_below w (.map en clock)
  have HM : Hid (MapE B (w.alloc (.map en clock)) w.heap.size es) :=
    ⟨hM.rise, m, ⟨en, clock, (MapKept.heap_alloc w _).1, F, hs, hD⟩, hen.map fun v e hv => hv.below HB.out⟩
  have hq := fun w => run_eql_map_nil_sl (P := Tryd.prog) w 101 _ _ (some b) Tryd.underlying101
  clear hM hen hs hD F
  go_enter Tryd.func110, Tryd.ntmps110
  go_wp2
  rw [run_callFunc_extern Tryd.func130 (by kernel_rfl) (by kernel_rfl) (by kernel_rfl) (e := Extern.MapsClone.clone) (by kernel_rfl), run_maps_clone_sl w 101 hb]
  simp only [Result.andThen]
  rw [Oper.upon_value]
  go_wp2
  rw [run_typeAssert_map_sl _ 101 20 _ _ _ Tryd.underlying101]
  simp only [Result.andThen]
  rw [Oper.upon_value]
  go_wp2
  go_ret
  exact ⟨rfl, HM.out, HB.out⟩

/-- Of b's entries those that are not to come any more lie over a's. -/
def Over (out a b : SM Ent) (left : Lit → Bool) : Prop := Rise out ∧ ∀ k, sget out k = if (sget b k).isSome = true ∧ left (.string k) = false then sget b k else sget a k
theorem Over.start {a b : SM Ent} {left : Lit → Bool} (ha : Rise a) (h : ∀ k, left (.string k) = (sget b k).isSome) : Over a a b left :=
  ⟨ha, fun k => by rw [if_neg]; rintro ⟨h1, h2⟩; rw [h k, h1] at h2; cases h2⟩
theorem Over.step {out a b : SM Ent} {left : Lit → Bool} {k : List UInt8} {e : Ent} (h : Over out a b left) (he : sget b k = some e) : Over (sput out k e) a b (fun z => left z && !z.sameKey (.string k)) := by
  refine ⟨sput_rise h.1 _ _, fun q => ?_⟩
  rw [sget_sput h.1]
  by_cases hq : k = q
  · subst hq
    rw [if_pos rfl, if_pos ⟨by rw [he]; rfl, by simp [same_str]⟩, he]
  · have h1 : decide (q = k) = false := decide_eq_false (fun e => hq e.symm)
    rw [if_neg hq, h.2 q]
    simp only [same_str, h1, Bool.not_false, Bool.and_true]
theorem Over.done {out a b : SM Ent} {left : Lit → Bool} (ha : Rise a) (hb : Rise b) (h : Over out a b left) (hl : ∀ kl, left kl = false) : out = sover a b := by
  refine rise_ext h.1 (sover_rise b ha) fun k => ?_
  rw [h.2 k, sget_sover hb ha, hl]
  rcases sget b k with _ | e <;> rfl

theorem sput_len {α : Type} (m : SM α) (k : List UInt8) (v : α) : (sput m k v).length ≤ m.length + 1 := by
  induction m with
  | nil => exact Nat.le_refl _
  | cons e r ih =>
    rw [sput]
    split
    · simp
    · split
      · simp
      · simp only [List.length_cons]; omega
theorem grown_to {w wr w2 w3 : World} {d r : Nat} (h : w.grownBy wr (some d)) (h2 : wr.grownBy w2 (some r)) (h3 : Below w2.heap.size w2 w3) (hr : ∀ i, i < w.heap.size → i ≠ r) : w.grownBy w3 (some d) :=
  ⟨h3.os.trans (h2.os.trans h.os), h3.tape.trans (h2.tape.trans h.tape), h3.output.trans (h2.output.trans h.output), Nat.le_trans h.size (Nat.le_trans h2.size h3.size), fun i hi hne =>
    (h3.block i (Nat.lt_of_lt_of_le hi (Nat.le_trans h.size h2.size))).trans ((h2.block i (Nat.lt_of_lt_of_le hi h.size) (fun e => hr i hi (Option.some.inj e))).trans (h.block i hi hne))⟩
set_option maxRecDepth 100000 in
set_option maxHeartbeats 4000000 in
/-- maps.Copy. -/
theorem mcopy_any (B bd bs : Nat) (ed es : SM Ent) (w : World) (hd : MapE B w bd ed) (hs : MapE B w bs es) (hne : bd ≠ bs) (hroom : ed.length + es.length ≤ 9000000000000000) :
    Calls Tryd.prog 111 #[.map (some bd), .map (some bs)] w fun e w' => e = .returned (.tuple #[]) ∧ MapE B w' bd (sover ed es) ∧ w.grownBy w' (some bd) := by
  have HD := Lib.hid hd
  have HS := Lib.hid hs
  clear hd hs
  go_enter Tryd.func111, Tryd.ntmps111
  go_wp2_with (at_range; refine wpList_rangeE _ rfl _ rfl B bs es rfl HS ?_; intro w1 left0 HR HL HB)
  go_frame
  have HLT : Hid (bd < w.heap.size ∧ bs < w.heap.size) := ⟨HD.out.lt, HS.out.lt⟩
  have HD1 := Lib.hid (HD.out.below HB.out)
  have HRD := Lib.hid HD.out.rise
  have HRS := Lib.hid HS.out.rise
  go_loopw [8] (fun _ wr => ∃ (left : Lit → Bool) (cnt : Nat) (out : SM Ent), Hid (Rg B wr bs w.heap.size es left cnt) ∧ Hid (MapE B wr bd out) ∧ Hid (Over out ed es left) ∧ Hid (out.length + cnt ≤ 9000000000000000) ∧ Hid (w.grownBy wr (some bd))) (fun _ wr => wr.rangeLeft bs w.heap.size)
  case atStart => exact ⟨left0, es.length, ed, HR, HD1, Over.start HRD.out HL.out, hroom, below_grown HB.out _⟩
  case round =>
    obtain ⟨left, cnt, out, HR, HD, HO, HC, HG⟩ := hrel
    go_wp2_with (first
      | (at_next
         refine wpList_nextE _ rfl _ rfl B bs w.heap.size es left cnt rfl HR ?_ ?_
         intro hl
         have hl := Lib.hid hl
         rotate_left
         intro k aa n c e w2 cnt2 hk hlk hgk HE HR2 hlt hg2 hsz hen
         have HB3 := row_below w2 (.cells #[.slice aa n c, .bool e.2] 105)
         have HD3 := Lib.hid ((HD.out.keptM hg2.out (fun e => by have := HLT.out.1; omega) HR.out.not5).below HB3.out)
         have HE3 := Lib.hid (HE.out.below HB3.out)
         have HR3 := Lib.hid (HR2.out.below HB3.out)
         have HO3 := Lib.hid (HO.out.step hgk.out)
         have hol : out.length < maxLen := by have := HC.out; unfold maxLen; omega
         have HG3 := Lib.hid (grown_to HG.out hg2.out HB3.out (fun i hi => by have := HLT.out; omega))
         rotate_left)
      | (at_mapUpdate; refine wpList_put _ rfl _ _ _ rfl B bd out rfl HD3 hol k rfl hk _ rfl e HE3 ?_; intro w4 HD4 HG4; go_frame))
    · go_end0
      refine ⟨rfl, ?_, HG.out⟩
      rw [← HO.out.done HRD.out HRS.out hl.out]
      exact HD.out
    · skip
      have HR4 := Lib.hid (HR3.out.keptM HG4.out (fun e => hne e.symm) (by have := HLT.out; omega) HD3.out.not5)
      have HC4 : Hid ((sput out k e).length + cnt2 ≤ 9000000000000000) := by
        show _ ≤ _
        have := HC.out; have := hlt.out; have := sput_len out k e; omega
      exact ⟨⟨_, cnt2, _, HR4, HD4, HO3, HC4, grown_then HG3.out HG4.out⟩, by rw [HR4.out.left_eq, HR.out.left_eq]; exact hlt.out⟩
end Go.Proofs.YteceagldjnfeeaaDoor

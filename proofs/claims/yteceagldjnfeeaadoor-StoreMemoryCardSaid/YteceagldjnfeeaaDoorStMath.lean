/- Stores in plain Lean: entries by rising keys, what is seen of them. No program is walked here. -/
import Derived.Test.YteceagldjnfeeaaDoorMkMath
namespace Go.Proofs.YteceagldjnfeeaaDoor
set_option linter.unusedVariables false
set_option linter.unusedSimpArgs false

/-- An entry: a value, or that there is none. -/
abbrev Ent := List UInt8 × Bool
def val? : Option Ent → Option (List UInt8)
  | some (v, false) => some v
  | _ => none
/-- What is seen. -/
def liveAt (m : SM Ent) (k : List UInt8) : Option (List UInt8) := val? (sget m k)
def seenBy (pre : List UInt8) (e : List UInt8 × Ent) : Bool := !e.2.2 && pre.isPrefixOf e.1
def pairsOf (m : SM Ent) (pre : List UInt8) : List KV := (m.filter (seenBy pre)).map fun e => (e.1, e.2.1)
/-- None is gone. -/
def Full (m : SM Ent) : Prop := ∀ k, ∀ e, sget m k = some e → e.2 = false
theorem pairsOf_rise {m : SM Ent} (hr : Rise m) (pre : List UInt8) : Rise (pairsOf m pre) := rise_map (rise_filter hr _) Prod.fst
theorem sget_pairsOf {m : SM Ent} (hr : Rise m) (k : List UInt8) : sget (pairsOf m []) k = liveAt m k := by
  unfold pairsOf liveAt
  rw [sget_map (f := Prod.fst), sget_filter hr]
  rcases sget m k with _ | ⟨v, g⟩
  · rfl
  · cases g <;> simp [seenBy, val?]
/-- Two that are seen alike have the same pairs. -/
theorem pairs_alike {a b : SM Ent} (ha : Rise a) (hb : Rise b) (h : ∀ k, liveAt a k = liveAt b k) : pairsOf a [] = pairsOf b [] :=
  rise_ext (pairsOf_rise ha _) (pairsOf_rise hb _) fun k => by rw [sget_pairsOf ha, sget_pairsOf hb, h k]

def takesB (k v : List UInt8) : Bool := goodK k && decide (v.length ≤ 65535)
/-- A store's first entries. -/
def newOf (ps : List KV) : SM Ent := ps.map fun p => (p.1, (p.2, false))
theorem newOf_pairs (ps : List KV) : pairsOf (newOf ps) [] = ps := by
  unfold pairsOf newOf
  rw [List.filter_eq_self.2]
  · rw [List.map_map]
    exact List.map_id _
  · intro e he
    obtain ⟨p, _, rfl⟩ := List.mem_map.1 he
    simp [seenBy]
theorem newOf_prefix (ps : List KV) (pre : List UInt8) : pairsOf (newOf ps) pre = ps.filter fun p => pre.isPrefixOf p.1 := by
  unfold pairsOf newOf
  induction ps with
  | nil => rfl
  | cons p r ih =>
    rw [List.map_cons]
    cases hp : pre.isPrefixOf p.1 with
    | true => rw [List.filter_cons_of_pos (by simp [seenBy, hp]), List.filter_cons_of_pos (by simp [hp]), List.map_cons, ih]
    | false => rw [List.filter_cons_of_neg (by simp [seenBy, hp]), List.filter_cons_of_neg (by simp [hp]), ih]
theorem pairs_rise {ps : List KV} (h : okTo ps ps.length = true) : Rise ps := by
  unfold Rise
  rw [List.pairwise_iff_getElem]
  intro i j hi hj hij
  have := keys_rise h hij hj
  unfold keyAt at this
  rw [List.getD_eq_getElem?_getD, List.getD_eq_getElem?_getD, List.getElem?_eq_getElem hi, List.getElem?_eq_getElem hj] at this
  exact this
theorem newOf_rise {ps : List KV} (h : okTo ps ps.length = true) : Rise (newOf ps) := rise_map (pairs_rise h) fun v => (v, false)
theorem newOf_get (ps : List KV) (k : List UInt8) : sget (newOf ps) k = (sget ps k).map fun v => (v, false) := sget_map ps (fun v => (v, false)) k
theorem newOf_full (ps : List KV) : Full (newOf ps) := by
  intro k e he
  rw [newOf_get] at he
  rcases h : sget ps k with _ | v
  · rw [h] at he; cases he
  · rw [h] at he; cases he; rfl
theorem full_put {m : SM Ent} (hr : Rise m) (h : Full m) (k v : List UInt8) : Full (sput m k (v, false)) := by
  intro q e he
  rw [sget_sput hr] at he
  by_cases hq : k = q
  · rw [if_pos hq] at he; cases he; rfl
  · rw [if_neg hq] at he; exact h q e he
theorem full_del {m : SM Ent} (h : Full m) (k : List UInt8) : Full (sdel m k) := by
  intro q e he
  rw [sget_sdel] at he
  by_cases hq : k = q
  · rw [if_pos hq] at he; cases he
  · rw [if_neg hq] at he; exact h q e he
theorem full_ext {a b : SM Ent} (ha : Rise a) (hb : Rise b) (fa : Full a) (fb : Full b) (h : ∀ k, liveAt a k = liveAt b k) : a = b := by
  refine rise_ext ha hb fun k => ?_
  have h1 := h k
  unfold liveAt at h1
  rcases e1 : sget a k with _ | ⟨v, g⟩
  · rcases e2 : sget b k with _ | ⟨u, g2⟩
    · rfl
    · have := fb k _ e2
      simp only at this
      subst this
      rw [e1, e2] at h1
      cases h1
  · have := fa k _ e1
    simp only at this
    subst this
    rcases e2 : sget b k with _ | ⟨u, g2⟩
    · rw [e1, e2] at h1; cases h1
    · have := fb k _ e2
      simp only at this
      subst this
      rw [e1, e2] at h1
      cases h1
      rfl

/-! ### A branch over a store, and a store at which the same is done -/
/-- b over s is seen as t. -/
structure Twin (s b t : SM Ent) : Prop where
  rs : Rise s
  rb : Rise b
  rt : Rise t
  fs : Full s
  ft : Full t
  seen : ∀ k, liveAt (sover s b) k = liveAt t k
theorem liveAt_sover {s b : SM Ent} (rs : Rise s) (rb : Rise b) (k : List UInt8) : liveAt (sover s b) k = val? ((sget b k).or (sget s k)) := by
  unfold liveAt; rw [sget_sover rb rs]
theorem Twin.start {s : SM Ent} (rs : Rise s) (fs : Full s) : Twin s [] s := ⟨rs, .nil, rs, fs, fs, fun k => rfl⟩
theorem Twin.put {s b t : SM Ent} (h : Twin s b t) (k v : List UInt8) : Twin s (sput b k (v, false)) (sput t k (v, false)) := by
  refine ⟨h.rs, sput_rise h.rb _ _, sput_rise h.rt _ _, h.fs, full_put h.rt h.ft _ _, fun q => ?_⟩
  rw [liveAt_sover h.rs (sput_rise h.rb _ _), sget_sput h.rb]
  have h1 := h.seen q
  rw [liveAt_sover h.rs h.rb] at h1
  unfold liveAt at h1 ⊢
  rw [sget_sput h.rt]
  by_cases hq : k = q
  · rw [if_pos hq, if_pos hq]; rfl
  · rw [if_neg hq, if_neg hq]; exact h1
theorem Twin.del {s b t : SM Ent} (h : Twin s b t) (k : List UInt8) : Twin s (sput b k ([], true)) (sdel t k) := by
  refine ⟨h.rs, sput_rise h.rb _ _, sdel_rise h.rt _, h.fs, full_del h.ft _, fun q => ?_⟩
  rw [liveAt_sover h.rs (sput_rise h.rb _ _), sget_sput h.rb]
  have h1 := h.seen q
  rw [liveAt_sover h.rs h.rb] at h1
  unfold liveAt at h1 ⊢
  rw [sget_sdel]
  by_cases hq : k = q
  · rw [if_pos hq, if_pos hq]; rfl
  · rw [if_neg hq, if_neg hq]; exact h1
theorem Twin.pairs {s b t : SM Ent} (h : Twin s b t) : pairsOf (sover s b) [] = pairsOf t [] := pairs_alike (sover_rise b h.rs) h.rt h.seen
/-- What is written: each entry of the branch is so in its parent. -/
def Written (s b r : SM Ent) : Prop := Rise r ∧ ∀ k, sget r k = match sget b k with | none => sget s k | some e => if e.2 = true then none else some e
theorem Twin.written {s b t r : SM Ent} (h : Twin s b t) (hw : Written s b r) : r = t := by
  refine full_ext hw.1 h.rt (fun k e he => ?_) h.ft fun k => ?_
  · rw [hw.2] at he
    rcases hb : sget b k with _ | ⟨v, g⟩
    · rw [hb] at he; exact h.fs k e he
    · rw [hb] at he
      simp only at he
      cases g with
      | true => cases he
      | false => cases he; rfl
  · rw [← h.seen k, liveAt_sover h.rs h.rb]
    unfold liveAt
    rw [hw.2]
    rcases hb : sget b k with _ | ⟨v, g⟩
    · rfl
    · cases g <;> rfl
/-- One entry more of a branch, laid on its parent. -/
def layOn (s : SM Ent) (e : List UInt8 × Ent) : SM Ent := if e.2.2 = true then sdel s e.1 else sput s e.1 e.2
theorem layOn_rise {s : SM Ent} (h : Rise s) (e : List UInt8 × Ent) : Rise (layOn s e) := by
  unfold layOn; split
  · exact sdel_rise h _
  · exact sput_rise h _ _
theorem layOn_get {s : SM Ent} (h : Rise s) (e : List UInt8 × Ent) (k : List UInt8) : sget (layOn s e) k = if e.1 = k then (if e.2.2 = true then none else some e.2) else sget s k := by
  unfold layOn
  by_cases hg : e.2.2 = true
  · rw [if_pos hg, sget_sdel, if_pos hg]
  · rw [if_neg hg, sget_sput h, if_neg hg]

/-! ### A store's way does not matter -/
theorem liveAt_newOf (ps : List KV) (k : List UInt8) : liveAt (newOf ps) k = sget ps k := by
  unfold liveAt
  rw [newOf_get]
  rcases sget ps k with _ | v <;> rfl
end Go.Proofs.YteceagldjnfeeaaDoor

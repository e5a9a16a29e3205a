/- The walk of the store's Write. -/
import Derived.Test.YteceagldjnfeeaaDoorSt7
namespace Go.Proofs.YteceagldjnfeeaaDoor
open Go.RowKit Go.Maps Go.ChangeMaps Go.MapKept
set_option linter.unusedVariables false
set_option linter.unusedSimpArgs false

theorem run_clearE {B : Nat} {w : World} {b : Nat} {es : SM Ent} (h : MapE B w b es) : ∃ w', (∀ ty, (Builtin.clear_ #[101] ty #[.map (some b)]).run Tryd.prog w = .ok (.tuple #[]) w') ∧ MapE B w' b [] ∧ w.grownBy w' (some b) := by
  obtain ⟨en, clock, hb⟩ := h.blk
  refine ⟨setBlock w b (.map #[] clock), fun ty => ?_, ⟨.nil, [], ⟨#[], clock, heap_setBlock_same hb _, ⟨by simp, stamped_empty clock, by simp⟩, Nat.le_refl _, rfl⟩, .nil⟩, ?_⟩
  · simp [Builtin.clear_, run_underlying Tryd.underlying101, MapKept.run_getObj_map hb, MapKept.run_setObj_map _ hb, Result.andThen]
    rfl
  · exact ⟨rfl, rfl, rfl, by simp [setBlock], fun i _ hi => heap_setBlock_other hb _ (fun e => hi (by rw [e]))⟩

/-- Two blocks alone have turned. -/
structure Grown2 (w w1 : World) (b b2 : Nat) : Prop where
  os : w1.os = w.os
  tape : w1.tape = w.tape
  output : w1.output = w.output
  size : w.heap.size ≤ w1.heap.size
  block : ∀ i, i < w.heap.size → i ≠ b → i ≠ b2 → w1.heap[i]? = w.heap[i]?
theorem grown2_of {w w1 w2 : World} {b b2 : Nat} (h : w.grownBy w1 (some b)) (k : w1.grownBy w2 (some b2)) : Grown2 w w2 b b2 :=
  ⟨k.os.trans h.os, k.tape.trans h.tape, k.output.trans h.output, Nat.le_trans h.size k.size, fun i hi h1 h2 => (k.block i (Nat.lt_of_lt_of_le hi h.size) (fun e => h2 (Option.some.inj e))).trans (h.block i hi (fun e => h1 (Option.some.inj e)))⟩

/-- Of b's entries those that are not to come any more are written into a. -/
def Wrote (out a b : SM Ent) (left : Lit → Bool) : Prop := Rise out ∧ ∀ k, sget out k = if (sget b k).isSome = true ∧ left (.string k) = false then (match sget b k with | some e => if e.2 = true then none else some e | none => none) else sget a k
theorem Wrote.start {a b : SM Ent} {left : Lit → Bool} (ha : Rise a) (h : ∀ k, left (.string k) = (sget b k).isSome) : Wrote a a b left :=
  ⟨ha, fun k => by rw [if_neg]; rintro ⟨h1, h2⟩; rw [h k, h1] at h2; cases h2⟩
theorem Wrote.step {out a b : SM Ent} {left : Lit → Bool} {k : List UInt8} {e : Ent} (h : Wrote out a b left) (he : sget b k = some e) : Wrote (layOn out (k, e)) a b (fun z => left z && !z.sameKey (.string k)) := by
  refine ⟨layOn_rise h.1 _, fun q => ?_⟩
  rw [layOn_get h.1]
  by_cases hq : k = q
  · subst hq
    simp only [if_true]
    rw [if_pos (c := (sget b k).isSome = true ∧ _) ⟨by rw [he]; rfl, by simp [same_str]⟩, he]
  · have h1 : decide (q = k) = false := decide_eq_false (fun e => hq e.symm)
    rw [if_neg hq, h.2 q]
    simp only [same_str, h1, Bool.not_false, Bool.and_true]
theorem Wrote.done {out a b : SM Ent} {left : Lit → Bool} (h : Wrote out a b left) (hl : ∀ kl, left kl = false) : Written a b out := by
  refine ⟨h.1, fun k => ?_⟩
  rw [h.2 k, hl]
  rcases sget b k with _ | e <;> simp
theorem layOn_len (m : SM Ent) (e : List UInt8 × Ent) : (layOn m e).length ≤ m.length + 1 := by
  unfold layOn
  split
  · unfold sdel
    exact Nat.le_succ_of_le (List.length_filter_le _ _)
  · exact sput_len _ _ _

/-- The iterator turns. -/
theorem Sto.keptI {B g : Nat} {w w1 : World} {p b : Nat} {par : Option Addr} {es : SM Ent} (h : Sto B w p par b es) (hg : w.grownBy w1 (some g)) (hpg : p ≠ g) (hbg : b ≠ g) (hne : ∀ cs fr, w.heap[g]? ≠ some (.cells cs 5 fr)) : Sto B w1 p par b es :=
  ⟨(hg.block p (blk_lt h.blk) (fun e => hpg (Option.some.inj e))).trans h.blk, h.own.keptM hg hbg hne⟩
set_option maxRecDepth 100000 in
theorem write_nil (w : World) : Calls Tryd.prog 42 #[.pointer none] w fun e w' => e = .returned (.tuple #[]) ∧ w = w' := by
  go_enter Tryd.func42, Tryd.ntmps42
  go_wp2_with (fail)
  refine bodyPost_ret (results_none rfl _ _ _) rfl ?_
  exact ⟨rfl, rfl⟩

set_option maxRecDepth 100000 in
set_option maxHeartbeats 8000000 in
theorem write_any (B p b p2 b2 : Nat) (es es2 : SM Ent) (w : World) (hs : Sto B w p none b es) (hs2 : Sto B w p2 (some ⟨p, 0, none⟩) b2 es2) (hne : b ≠ b2) (hroom : es.length + es2.length ≤ 9000000000000000) :
    Calls Tryd.prog 42 #[.pointer (some ⟨p2, 0, none⟩)] w fun e w' => e = .returned (.tuple #[]) ∧ ∃ r, Written es es2 r ∧ r.length ≤ es.length + es2.length ∧ Sto B w' p none b r ∧ Sto B w' p2 (some ⟨p, 0, none⟩) b2 [] ∧ Grown2 w w' b b2 := by
  have HS := Lib.hid hs
  have HS2 := Lib.hid hs2
  have HM2 := Lib.hid hs2.own
  have d0 := hs2.c0
  have d1 := hs2.c1
  clear hs hs2
  have HNE : Hid (p2 ≠ b ∧ p2 ≠ b2 ∧ p ≠ b ∧ p ≠ b2) := by
    refine ⟨?_, HS2.out.ne, HS.out.ne, ?_⟩
    · rintro rfl
      obtain ⟨_, _, h⟩ := HS.out.own.blk
      rw [HS2.out.blk] at h; cases h
    · rintro rfl
      obtain ⟨_, _, h⟩ := HS2.out.own.blk
      rw [HS.out.blk] at h; cases h
  go_enter Tryd.func42, Tryd.ntmps42
  go_wp2_with (at_range; refine wpList_rangeE _ rfl _ rfl B b2 es2 rfl HM2 ?_; intro w1 left0 HR HL HB)
  go_frame
  have HLT : Hid (b < w.heap.size ∧ b2 < w.heap.size ∧ p < w.heap.size ∧ p2 < w.heap.size) := ⟨HS.out.own.lt, HS2.out.own.lt, blk_lt HS.out.blk, blk_lt HS2.out.blk⟩
  have HS1 := Lib.hid (HS.out.below HB.out)
  have HS21 := Lib.hid (HS2.out.below HB.out)
  have HRD := Lib.hid HS.out.own.rise
  clear d0 d1
  go_loopw [18] (fun _ wr => ∃ (left : Lit → Bool) (cnt : Nat) (out : SM Ent), Hid (Rg B wr b2 w.heap.size es2 left cnt) ∧ Hid (Sto B wr p none b out) ∧ Hid (Sto B wr p2 (some ⟨p, 0, none⟩) b2 es2) ∧ Hid (Wrote out es es2 left) ∧ Hid (out.length + cnt ≤ es.length + es2.length) ∧ Hid (w.grownBy wr (some b))) (fun _ wr => wr.rangeLeft b2 w.heap.size)
  case atStart => exact ⟨left0, es2.length, es, HR, HS1, HS21, Wrote.start HRD.out HL.out, Nat.le_refl _, below_grown HB.out _⟩
  case round =>
    obtain ⟨left, cnt, out, HR, HSa, HSb, HO, HC, HG⟩ := hrel
    go_wp2_with (first
      | (at_next
         refine wpList_nextE _ rfl _ rfl B b2 w.heap.size es2 left cnt rfl HR ?_ ?_
         intro hl
         have hl := Lib.hid hl
         have d1 := HSb.out.c1
         obtain ⟨wc, hcl, hmc, hgc⟩ := run_clearE HSb.out.own
         have HMC := Lib.hid hmc
         have HGC := Lib.hid hgc
         clear hmc hgc
         rotate_left
         intro k aa n c e w2 cnt2 hk hlk hgk HE HR2 hlt hg2 hsz hen
         obtain ⟨v, g⟩ := e
         have HB3 := fun g' : Bool => row_below w2 (.cells #[.slice aa n c, .bool g'] 105)
         have HSa2 := Lib.hid (HSa.out.keptI hg2.out (fun e => by have := HLT.out; omega) (fun e => by have := HLT.out; omega) HR.out.not5)
         have HSb2 := Lib.hid (HSb.out.keptI hg2.out (fun e => by have := HLT.out; omega) (fun e => by have := HLT.out; omega) HR.out.not5)
         have c03 := fun g' => (HSb2.out.below (HB3 g').out).c0
         have HO3 := Lib.hid (HO.out.step hgk.out)
         have hol : out.length ≤ 9000000000000000 := by have := HC.out; omega
         rotate_left))
    · go_end0
      have hm := HSb.out.own.blk
      exact ⟨rfl, out, HO.out.done hl.out, (by have := HC.out; omega), HSa.out.keptM HGC.out hne hm, HSb.out.turn HGC.out HMC.out, grown2_of HG.out HGC.out⟩
    · have hgt : g = true := by assumption
      subst hgt
      have HBx := HB3 true
      have HSa3 := Lib.hid (HSa2.out.below HBx.out)
      have HSb3 := Lib.hid (HSb2.out.below HBx.out)
      have HR3 := Lib.hid (HR2.out.below HBx.out)
      have HG3 := Lib.hid (grown_to HG.out hg2.out HBx.out (fun i hi => by omega))
      have hlay : Hid (layOn out (k, v, true) = sdel out k) := by show _ = _; unfold layOn; rw [if_pos rfl]
      refine (del_any B p b none out k _ HSa3.out hk hol).mono ?_
      rintro e w4 ⟨rfl, hs4, hg4⟩
      have HS4 : Hid (Sto B w4 p none b (sdel out k)) := hs4
      have HG4 := Lib.hid (grown_then HG3.out hg4)
      have HSb4 := Lib.hid (HSb3.out.keptM hg4 (fun e => hne e.symm) HSa3.out.own.blk)
      have HR4 := Lib.hid (HR3.out.keptM hg4 (fun e => hne e.symm) (by have := HLT.out; omega) HSa3.out.own.not5)
      have HC4 : Hid ((sdel out k).length + cnt2 ≤ es.length + es2.length) := by
        show _ ≤ _
        have := HC.out; have := hlt.out; have := List.length_filter_le (fun e : List UInt8 × Ent => decide (e.1 ≠ k)) out; unfold sdel; omega
      clear hs4 hg4
      rw [hlay.out] at HO3
      go_wp2_with (fail)
      exact ⟨⟨_, cnt2, _, HR4, HS4, HSb4, HO3, HC4, HG4⟩, by rw [HR4.out.left_eq, HR.out.left_eq]; exact hlt.out⟩
    · have hgt : g = false := by assumption
      subst hgt
      have HBx := HB3 false
      have HSa3 := Lib.hid (HSa2.out.below HBx.out)
      have HSb3 := Lib.hid (HSb2.out.below HBx.out)
      have HR3 := Lib.hid (HR2.out.below HBx.out)
      have HE3 := Lib.hid (HE.out.below HBx.out)
      have HG3 := Lib.hid (grown_to HG.out hg2.out HBx.out (fun i hi => by omega))
      have hlay : Hid (layOn out (k, v, false) = sput out k (v, false)) := by show _ = _; unfold layOn; rw [if_neg (by simp)]
      have g0 : (w2.alloc (.cells #[.slice aa n c, .bool false] 105)).cell? ⟨w2.heap.size, 0, none⟩ = some (.slice aa n c) := by rw [cell_of_row _ _ _ _ _ _ (MapKept.heap_alloc w2 _).1]; rfl
      have g1 : (w2.alloc (.cells #[.slice aa n c, .bool false] 105)).cell? ⟨w2.heap.size, 1, none⟩ = some (.bool false) := by rw [cell_of_row _ _ _ _ _ _ (MapKept.heap_alloc w2 _).1]; rfl
      have HLW : Hid (w.heap.size ≤ w2.heap.size) := by have := HG.out.size; have := hsz.out; show _ ≤ _; omega
      generalize w2.alloc (.cells #[.slice aa n c, .bool false] 105) = W3 at *
      have f0 : W3.drew.cell? ⟨p2, 0, none⟩ = some (.pointer (some ⟨p, 0, none⟩)) := HSb3.out.c0
      have f1 : W3.drew.cell? ⟨p, 1, none⟩ = some (.map (some b)) := HSa3.out.c1
      have g0d : W3.drew.cell? ⟨w2.heap.size, 0, none⟩ = some (.slice aa n c) := g0
      have g1d : W3.drew.cell? ⟨w2.heap.size, 1, none⟩ = some (.bool false) := g1
      have HDr : Hid (Below W3.heap.size W3 W3.drew) := (Below.refl _ _).drew
      have HSa4 := Lib.hid (HSa3.out.below HDr.out)
      have HSb4 := Lib.hid (HSb3.out.below HDr.out)
      have HR4 := Lib.hid (HR3.out.below HDr.out)
      have HE4 := Lib.hid (HE3.out.below HDr.out)
      obtain ⟨m, hm, hen⟩ := HSa4.out.own.ex
      have hml : m.length < maxLen := by rw [hen.length]; unfold maxLen; omega
      obtain ⟨w8, hrun, ho8, hg8⟩ := hm.update law9 Tryd.underlying101 hml (key9 hk) (RV_mk aa n c false)
      have HS8 := Lib.hid (HSa4.out.turn hg8 (MapE.put HSa4.out.own.rise hen k HE4.out ho8 hg8 HSa4.out.own.not5))
      have HSb8 := Lib.hid (HSb4.out.keptM hg8 (fun e => hne e.symm) HSa4.out.own.blk)
      have HR8 := Lib.hid (HR4.out.keptM hg8 (fun e => hne e.symm) (by have := HLT.out; omega) HSa4.out.own.not5)
      have HG8 := Lib.hid (grown_then HG3.out (grown_then (below_grown HDr.out (some b)) hg8))
      have f08 : w8.cell? ⟨p2, 0, none⟩ = some (.pointer (some ⟨p, 0, none⟩)) := HSb8.out.c0
      have f18 : w8.cell? ⟨p, 1, none⟩ = some (.map (some b)) := HS8.out.c1
      have g08 : w8.cell? ⟨w2.heap.size, 0, none⟩ = some (.slice aa n c) := grown_cell hg8 g0d (fun e => by have := Option.some.inj e; have := HLT.out; have := HLW.out; omega)
      have g18 : w8.cell? ⟨w2.heap.size, 1, none⟩ = some (.bool false) := grown_cell hg8 g1d (fun e => by have := Option.some.inj e; have := HLT.out; have := HLW.out; omega)
      have HC4 : Hid ((sput out k (v, false)).length + cnt2 ≤ es.length + es2.length) := by
        show _ ≤ _
        have := HC.out; have := hlt.out; have := sput_len out k (v, false); omega
      rw [hlay.out] at HO3
      clear hm hen ho8 hg8 c03
      go_region_held3 (fun W => W.cell? ⟨p2, 0, none⟩ = some (.pointer (some ⟨p, 0, none⟩)) ∧ W.cell? ⟨p, 1, none⟩ = some (.map (some b)) ∧ W.cell? ⟨w2.heap.size, 0, none⟩ = some (.slice aa n c) ∧ W.cell? ⟨w2.heap.size, 1, none⟩ = some (.bool false))
        (first | exact ⟨by assumption, by assumption, by assumption, by assumption⟩)
        (fail)
      go_wp2_with (fail)
      exact ⟨⟨_, cnt2, _, HR8, HS8, HSb8, HO3, HC4, HG8⟩, by rw [HR8.out.left_eq, HR.out.left_eq]; exact hlt.out⟩
end Go.Proofs.YteceagldjnfeeaaDoor

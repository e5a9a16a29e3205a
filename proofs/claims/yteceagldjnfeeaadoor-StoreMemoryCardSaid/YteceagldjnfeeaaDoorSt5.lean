/- The walk of store.New. -/
import Derived.Test.YteceagldjnfeeaaDoorSt4
namespace Go.Proofs.YteceagldjnfeeaaDoor
open Go.RowKit Go.Maps
set_option linter.unusedVariables false
set_option linter.unusedSimpArgs false

theorem newOf_length (ps : List KV) : (newOf ps).length = ps.length := by unfold newOf; rw [List.length_map]
theorem new_step {ps : List KV} {k : Nat} (hk : k < ps.length) (h : okTo ps (k + 1) = true) : newOf (ps.take (k + 1)) = sput (newOf (ps.take k)) (keyAt ps k) (valAt ps k, false) := by
  have h1 : ps.take (k + 1) = ps.take k ++ [ps[k]] := List.take_succ_eq_append_getElem hk
  have h2 : keyAt ps k = (ps[k]).1 := by unfold keyAt; rw [List.getD_eq_getElem?_getD, List.getElem?_eq_getElem hk]; rfl
  have h3 : valAt ps k = (ps[k]).2 := by unfold valAt; rw [List.getD_eq_getElem?_getD, List.getElem?_eq_getElem hk]; rfl
  rw [sput_snoc]
  · rw [h1, h2, h3]
    unfold newOf
    rw [List.map_append]
    rfl
  · intro x hx
    unfold newOf at hx
    obtain ⟨p, hp, rfl⟩ := List.mem_map.1 hx
    obtain ⟨i, hi, rfl⟩ := List.getElem_of_mem hp
    rw [List.length_take] at hi
    have := keys_rise h (i := i) (j := k) (by omega) (by omega)
    have h4 : keyAt ps i = ((ps.take k)[i]'(by rw [List.length_take]; exact hi)).1 := by
      unfold keyAt; rw [List.getD_eq_getElem?_getD, List.getElem?_eq_getElem (by omega), List.getElem_take]; rfl
    rw [h4] at this
    exact this
theorem takesB_at (ps : List KV) (k : Nat) : okAt ps k = (takesB (keyAt ps k) (valAt ps k) && blt (lastOf ps k) (keyAt ps k)) := by
  rw [okAt_last]
  unfold takesB
  cases goodK (keyAt ps k) <;> cases blt (lastOf ps k) (keyAt ps k) <;> simp
theorem below_turn {w w1 w2 : World} {g : Nat} (h : Below w.heap.size w w1) (k : w1.grownBy w2 (some g)) (hg : w.heap.size ≤ g) : Below w.heap.size w w2 :=
  ⟨k.os.trans h.os, k.tape.trans h.tape, k.output.trans h.output, Nat.le_trans h.size k.size, fun i hi => (k.block i (Nat.lt_of_lt_of_le hi h.size) (fun e => by have := Option.some.inj e; omega)).trans (h.block i hi)⟩
/-- What New gives. -/
def RetNew (ps : List KV) (w : World) : Ending → World → Prop := fun e w' =>
  (okTo ps ps.length = true → ∃ p b, e = .returned (.tuple #[.pointer (some ⟨p, 0, none⟩), .int .i64 0]) ∧ Sto w.heap.size w' p none b (newOf ps) ∧ Below w.heap.size w w' ∧ w.heap.size ≤ p ∧ w.heap.size ≤ b) ∧
  (okTo ps ps.length = false → e = .returned (.tuple #[.pointer none, .int .i64 60]) ∧ Below w.heap.size w w')

set_option maxRecDepth 100000 in
set_option maxHeartbeats 8000000 in
theorem new_any {C : Nat} (a : Option Addr) (n c : Nat) (ps : List KV) (w : World) (hp : Prs w C a n c ps) :
    Calls Tryd.prog 37 #[.slice a n c] w (RetNew ps w) := by
  have hn63 : n ≤ 9223372036854775807 := by have := hp.cap; have := hp.big; unfold maxLen at this; omega
  have hnm : n ≤ maxLen := Nat.le_trans hp.cap hp.big
  have HP := Lib.hid hp
  have HL := Lib.hid hp.len
  have hfa : Hid (∀ k, k < n → okAt ps k = false → okTo ps ps.length = false) := fun k hk h => okTo_false (by rw [HL.out]; exact hk) h
  have hmm := @run_makeMap Tryd.prog
  have HN := Lib.hid (new_sto w.heap.size w none)
  have HB0 := two_below w (.map #[] 0) (.cells #[.pointer none, .map (some w.heap.size)] 103)
  clear hp
  go_enter Tryd.func37, Tryd.ntmps37
  go_wp2_with (fail)
  go_loopw [5, 13] (fun l i wr => ∃ k : Nat, k ≤ n ∧ i = .int .i64 k ∧ l = str (lastOf ps k) ∧ Hid (okTo ps k = true) ∧ Hid (Sto w.heap.size wr (w.heap.size + 1) none w.heap.size (newOf (ps.take k))) ∧ Hid (Below w.heap.size w wr)) (fun _ i _ => n - (intOf i).toNat)
  case atStart => exact ⟨0, by omega, rfl, rfl, rfl, HN, HB0⟩
  case round =>
    obtain ⟨k, hk, rfl, rfl, hok, HS, HB⟩ := hrel
    by_cases hlt : k < n
    · obtain ⟨b, o, va, rfl, g1, g2, hv⟩ := (HP.out.below HB.out).cells k hlt
      obtain ⟨a2, n2, c2, rfl, hbs, hd2⟩ := hv
      have hvl := hbs.blen
      have HV : Hid (Pt wr C (.slice a2 n2 c2) (valAt ps k)) := ⟨a2, n2, c2, rfl, hbs, hd2⟩
      have i0 : (0 : Int) ≤ (k : Int) := by omega
      have i1 : (k : Int) < (n : Int) := by omega
      have HBa := row_below wr (.cells #[str (keyAt ps k), .slice a2 n2 c2] 45)
      have hsu := Lib.hid (okTo_succ ps k)
      have hla := Lib.hid (takesB_at ps k)
      have hls : Hid (lastOf ps (k + 1) = keyAt ps k) := rfl
      have hff := Lib.hid (hfa.out k hlt)
      have hkp : Hid (k < ps.length) := by show _ < _; rw [HL.out]; exact hlt
      have hst := Lib.hid (fun h => new_step hkp.out (ps := ps) (k := k) h)
      have hle : Hid ((newOf (ps.take k)).length < maxLen) := by show _ < _; rw [newOf_length, List.length_take, HL.out]; omega
      have HNE : Hid (w.heap.size < wr.heap.size) := HS.out.own.lt
      clear hbs hd2 hfa
      generalize hES : newOf (ps.take (k + 1)) = es1 at *
      have HES : Hid (newOf (ps.take (k + 1)) = es1) := hES
      clear hES
      generalize newOf (ps.take k) = es at *
      generalize keyAt ps k = kk at *
      generalize lastOf ps k = ll at *
      generalize valAt ps k = vv at *
      by_cases ht : takesB kk vv = true
      · by_cases hb : blt ll kk = true
        · obtain ⟨x1, x2⟩ := ble_false hb
          have hok2 : Hid (okTo ps (k + 1) = true) := by show _ = _; rw [hsu.out, hok.out, hla.out, ht, hb]; rfl
          have HT := Lib.hid ht
          clear ht hb
          go_wp2_with (fail)
          refine (takes_any kk vv a2 n2 c2 hvl _).mono ?_
          rintro e w' ⟨rfl, rfl⟩
          rw [HT.out]
          go_wp2_with (fail)
          have HL1 : Hid ((wr.alloc (.cells #[str kk, .slice a2 n2 c2] 45)).heap.size = wr.heap.size + 1) := by show _ = _; simp
          have G0 : Hid ((wr.alloc (.cells #[str kk, .slice a2 n2 c2] 45)).heap[wr.heap.size]? = some (.cells #[str kk, .slice a2 n2 c2] 45)) := (MapKept.heap_alloc wr _).1
          change Code.wp _ _ _ _ (wr.alloc (.cells #[str kk, .slice a2 n2 c2] 45))
          generalize wr.alloc (.cells #[str kk, .slice a2 n2 c2] 45) = W1 at HL1 G0 HBa ⊢
          have g0 : W1.cell? ⟨wr.heap.size, 0, none⟩ = some (str kk) := by rw [cell_of_row _ _ _ _ _ _ G0.out]; rfl
          have g1 : W1.cell? ⟨wr.heap.size, 1, none⟩ = some (.slice a2 n2 c2) := by rw [cell_of_row _ _ _ _ _ _ G0.out]; rfl
          have HB1 := Lib.hid (below_then HB.out HB.out.size HBa.out)
          have HS1 := Lib.hid (HS.out.below HBa.out)
          have c1 := HS1.out.c1
          have g0d : W1.drew.cell? ⟨wr.heap.size, 0, none⟩ = some (str kk) := g0
          have g1d : W1.drew.cell? ⟨wr.heap.size, 1, none⟩ = some (.slice a2 n2 c2) := g1
          have c1d : W1.drew.cell? ⟨w.heap.size + 1, 1, none⟩ = some (.map (some w.heap.size)) := c1
          have HKL : Hid (kk.length ≤ 200 ∧ vv.length ≤ 65535) := by
            have ht := HT.out
            unfold takesB goodK at ht
            simp only [Bool.and_eq_true, decide_eq_true_eq] at ht
            exact ⟨ht.1.2, ht.2⟩
          have CC : Hid (Calls Tryd.prog 70 #[.slice a2 n2 c2] W1.drew (RetB vv W1.drew)) := clone_own a2 n2 c2 vv W1.drew (HV.out.below (below_then HBa.out HBa.out.size (Below.refl _ _).drew)) (by have := HKL.out.2; omega)
          have HLT : Hid (wr.heap.size < W1.heap.size) := by show _ < _; rw [HL1.out]; omega
          have HWB : Hid (w.heap.size ≤ W1.heap.size) := by have := HB1.out.size; exact this
          clear HV hvl HBa HS G0 HL1
          go_region_held3 (fun W => W.cell? ⟨wr.heap.size, 0, none⟩ = some (str kk) ∧ W.cell? ⟨wr.heap.size, 1, none⟩ = some (.slice a2 n2 c2) ∧ W.cell? ⟨w.heap.size + 1, 1, none⟩ = some (.map (some w.heap.size)))
            (first | exact ⟨by assumption, by assumption, by assumption⟩)
            (first
              | (go_at_call 70
                 refine CC.out.mono ?_
                 rintro e w7 ⟨v7, rfl, hb7, ho7⟩
                 obtain ⟨a7, c7, e7, hs7⟩ := own_sl ho7
                 subst e7
                 have hb := below_then (Below.refl W1.heap.size W1).drew (Nat.le_refl _) hb7
                 have HS7 := Lib.hid (HS1.out.below hb)
                 have hev : EV w.heap.size w7 (.agg #[.slice a7 vv.length c7, .bool false]) (vv, false) := ⟨a7, vv.length, c7, rfl, Pt.own ho7, HKL.out.2, fun ad ha => Nat.le_trans HWB.out (fresh_own ho7 ad ha)⟩
                 have c17 := HS7.out.c1
                 have G07 : w7.cell? ⟨wr.heap.size, 0, none⟩ = some (str kk) := (hb.cell (p := ⟨wr.heap.size, 0, none⟩) HLT.out).trans g0
                 have G17 : w7.cell? ⟨wr.heap.size, 1, none⟩ = some (.slice a2 n2 c2) := (hb.cell (p := ⟨wr.heap.size, 1, none⟩) HLT.out).trans g1
                 obtain ⟨m, hm, hen⟩ := HS7.out.own.ex
                 have hml : m.length < maxLen := by rw [hen.length]; exact hle.out
                 have hkk : kk.length ≤ maxLen := by have := HKL.out.1; unfold maxLen; omega
                 obtain ⟨w8, hrun, ho8, hg8⟩ := hm.update law9 Tryd.underlying101 hml (key9 hkk) (RV_mk a7 vv.length c7 false)
                 have HS8 : Hid (Sto w.heap.size w8 (w.heap.size + 1) none w.heap.size es1) := by
                   show Sto _ _ _ _ _ _
                   rw [hst.out hok2.out]
                   exact HS7.out.turn hg8 (MapE.put HS7.out.own.rise hen kk hev ho8 hg8 HS7.out.own.not5)
                 have HG8 : Hid (W1.grownBy w8 (some w.heap.size)) := grown_then (below_grown hb _) hg8
                 have c18 := HS8.out.c1
                 have hne : ¬ (some wr.heap.size : Option Nat) = some w.heap.size := by
                   intro e
                   have := HNE.out
                   have := Option.some.inj e
                   omega
                 have G08 : w8.cell? ⟨wr.heap.size, 0, none⟩ = some (str kk) := grown_cell hg8 G07 hne
                 have G18 : w8.cell? ⟨wr.heap.size, 1, none⟩ = some (.slice a2 n2 c2) := grown_cell hg8 G17 hne
                 clear hb7 ho7 hs7 hb hev hm hen ho8 hg8 hne))
          go_wp2_with (fail)
          exact ⟨⟨k + 1, by omega, by go_num, by rw [hls.out], hok2, (by show Sto _ _ _ _ _ _; rw [HES.out]; exact HS8.out), below_turn HB1.out HG8.out (Nat.le_refl _)⟩, by simp [intOf]; omega⟩
        · have hb1 : blt ll kk = false := by simpa using hb
          have x1 := ble_true hb1
          have hr : Hid (okTo ps ps.length = false) := hff.out (by rw [hla.out, hb1, Bool.and_false])
          have HT := Lib.hid ht
          have HBB := Lib.hid (below_then HB.out HB.out.size HBa.out)
          clear ht hb hb1
          go_wp2_with (fail)
          refine (takes_any kk vv a2 n2 c2 hvl _).mono ?_
          rintro e w' ⟨rfl, rfl⟩
          rw [HT.out]
          go_wp2_with (fail)
          all_goals (
            go_ret2
            exact ⟨fun h => absurd (hr.out.symm.trans h) (by decide), fun _ => ⟨rfl, HBB.out⟩⟩)
      · have ht1 : takesB kk vv = false := by simpa using ht
        have hr : Hid (okTo ps ps.length = false) := hff.out (by rw [hla.out, ht1]; rfl)
        have HT := Lib.hid ht1
        have HBB := Lib.hid (below_then HB.out HB.out.size HBa.out)
        clear ht ht1
        go_wp2_with (fail)
        refine (takes_any kk vv a2 n2 c2 hvl _).mono ?_
        rintro e w' ⟨rfl, rfl⟩
        rw [HT.out]
        go_wp2_with (fail)
        go_ret2
        exact ⟨fun h => absurd (hr.out.symm.trans h) (by decide), fun _ => ⟨rfl, HBB.out⟩⟩
    · obtain rfl : k = n := by omega
      have i5 : ¬ ((k : Int) < (k : Int)) := by omega
      have hr : Hid (okTo ps ps.length = true) := by show _ = _; rw [HL.out]; exact hok.out
      have HS2 : Hid (Sto w.heap.size wr (w.heap.size + 1) none w.heap.size (newOf ps)) := by
        have := HS.out
        rw [List.take_of_length_le (by rw [HL.out]; exact Nat.le_refl _)] at this
        exact this
      clear HS
      go_wp2_with (fail)
      go_ret2
      exact ⟨fun _ => ⟨w.heap.size + 1, w.heap.size, rfl, HS2.out, HB.out, by omega, Nat.le_refl _⟩, fun h => absurd (hr.out.symm.trans h) (by decide)⟩
end Go.Proofs.YteceagldjnfeeaaDoor

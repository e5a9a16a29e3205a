/- The walks of merkle and isthmusref08: leaves, order, splits, tops. -/
import Derived.Test.YteceagldjnfeeaaDoorMk1
import Derived.WalkLawsBesides
import Derived.Outline
namespace Go.Proofs.YteceagldjnfeeaaDoor
open Go.RowKit
set_option linter.unusedVariables false
set_option linter.unusedSimpArgs false

set_option maxRecDepth 100000 in
set_option maxHeartbeats 1000000 in
theorem mleaf_any (B : Nat) {D : Nat} (k v : List UInt8) (a : Option Addr) (n c : Nat) (w : World) (hk : k.length ≤ maxLen) (hv : Pt w D (.slice a n c) v) (hK : KAt w) :
    Calls Tryd.prog 120 #[str k, .slice a n c] w (RetP B (leafH (k, v)) w) := by
  have hcv := fun wx => Lib.run_convert_string_bytes (P := Tryd.prog) wx 9 22 5 ⟨k.toArray⟩ Tryd.underlying9 Tryd.underlying22 Tryd.underlying5
  have HB1 := Lib.hid (bytesWorld_below w ⟨k.toArray⟩)
  have HP1 := Lib.hid (bytesWorld_pt w D k hk)
  have HV1 := Lib.hid (hv.below HB1.out)
  have HK1 := Lib.hid (hK.below hK.pos HB1.out)
  clear hv hK
  go_enter Tryd.func120, Tryd.ntmps120
  go_wp2_with (fail)
  clear hcv
  refine (tagged_row (D := D) B wLeaf _ 2 [k, v] (Lib.bytesWorld w 5 ⟨k.toArray⟩) (by decide) rfl (by omega) (.cons HP1.out (.cons HV1.out .nil)) HK1.out).mono ?_
  rintro e w3 h3
  obtain ⟨a3, n3, d3, rfl, hb3, hp3⟩ := h3.before HB1.out
  have HB3 := Lib.hid hb3
  have HP3 := Lib.hid hp3
  go_wp2_with (fail)
  go_ret
  exact ⟨_, _, _, rfl, HB3.out, HP3.out⟩

set_option maxRecDepth 100000 in
set_option maxHeartbeats 1000000 in
theorem rmleaf_any (B : Nat) {D : Nat} (k v : List UInt8) (a : Option Addr) (n c : Nat) (w : World) (hk : k.length ≤ maxLen) (hv : Pt w D (.slice a n c) v) (hK : KAt1 w) :
    Calls Tryd.prog 122 #[.agg #[str k, .slice a n c]] w (RetP B (leafH (k, v)) w) := by
  have HB0 := row_below w (.cells #[str k, .slice a n c] 45)
  have hcv := fun wx => Lib.run_convert_string_bytes (P := Tryd.prog) wx 9 22 5 ⟨k.toArray⟩ Tryd.underlying9 Tryd.underlying22 Tryd.underlying5
  have HB1 := Lib.hid (below_then HB0.out HB0.out.size (bytesWorld_below (w.alloc (.cells #[str k, .slice a n c] 45)) ⟨k.toArray⟩))
  have hz : (w.alloc (.cells #[str k, .slice a n c] 45)).heap.size = w.heap.size + 1 := Array.size_push _
  have hp1 := bytesWorld_pt (w.alloc (.cells #[str k, .slice a n c] 45)) D k hk
  rw [hz] at hp1
  have HP1 := Lib.hid hp1
  clear hp1 hz
  have HV1 := Lib.hid (hv.below HB1.out)
  have HK1 := Lib.hid (hK.below hK.pos HB1.out)
  have g0 : (w.alloc (.cells #[str k, .slice a n c] 45)).heap[w.heap.size]? = some (.cells #[str k, .slice a n c] 45 (0, 0)) := heap_alloc_new w _
  have g1 : (Lib.bytesWorld (w.alloc (.cells #[str k, .slice a n c] 45)) 5 ⟨k.toArray⟩).cell? ⟨w.heap.size, 1, none⟩ = some (.slice a n c) := by
    refine below_cell (bytesWorld_below _ _) ?_
    rw [cell_of_row _ _ _ _ _ _ g0]; rfl
  clear hv hK g0
  go_enter Tryd.func122, Tryd.ntmps122
  go_wp2_with (fail)
  clear hcv g1
  refine (rtagged_row (D := D) B wLeaf _ 2 [k, v] (Lib.bytesWorld (w.alloc (.cells #[str k, .slice a n c] 45)) 5 ⟨k.toArray⟩) (by decide) rfl (by omega) (.cons HP1.out (.cons HV1.out .nil)) HK1.out).mono ?_
  rintro e w3 h3
  obtain ⟨a3, n3, d3, rfl, hb3, hp3⟩ := h3.before HB1.out
  have HB3 := Lib.hid hb3
  have HP3 := Lib.hid hp3
  go_wp2_with (fail)
  go_ret
  exact ⟨_, _, _, rfl, HB3.out, HP3.out⟩

set_option maxRecDepth 100000 in
theorem rkey_any (k : List UInt8) (w : World) : Calls Tryd.prog 99 #[str k] w fun e w' => e = .returned (.bool (goodK k)) ∧ w' = w := by
  have hg : Hid (goodK k = (decide ((1 : Int) ≤ (k.length : Int)) && decide ((k.length : Int) ≤ 200))) := by
    show _ = _
    unfold goodK
    congr 1
    · congr 1
      rw [eq_iff_iff, ← List.length_pos_iff]; omega
    · congr 1; rw [eq_iff_iff]; omega
  by_cases h : (1 : Int) ≤ (k.length : Int)
  · go_enter Tryd.func99, Tryd.ntmps99
    go_wp2_with (fail)
    go_ret
    exact ⟨by rw [hg.out, decide_eq_true h, Bool.true_and]; rfl, rfl⟩
  · have h2 : (k.length : Int) < 1 := by omega
    have hr : Hid (goodK k = false) := by show _ = _; rw [hg.out, decide_eq_false h]; rfl
    clear h
    go_enter Tryd.func99, Tryd.ntmps99
    go_wp2_with (fail)
    go_ret
    exact ⟨by rw [hr.out]; rfl, rfl⟩

set_option maxRecDepth 100000 in
set_option maxHeartbeats 1000000 in
theorem split_any (n : Nat) (w : World) (h2 : 2 ≤ n) (hn : n ≤ 65536) : Calls Tryd.prog 123 #[.int .i64 n] w fun e w' => e = .returned (.int .i64 (half n : Int)) ∧ w = w' := by
  go_enter Tryd.func123, Tryd.ntmps123
  go_wp2_with (fail)
  go_loop [3] (fun x => ∃ j k : Nat, x = .int .i64 (k : Int) ∧ 1 ≤ k ∧ k < n ∧ Hid (k = 2 ^ j)) (fun x => n - (intOf x).toNat)
  case atStart => exact ⟨0, 1, rfl, by omega, by omega, rfl⟩
  case round =>
    obtain ⟨j, k, rfl, hk1, hk2, hj⟩ := hrel
    by_cases hlt : 2 * k < n
    · have i1 : 2 * (k : Int) < (n : Int) := by omega
      have i2 : (k : Int) * 2 ≤ 65536 := by omega
      have i3 : (0 : Int) ≤ (k : Int) := by omega
      have hp : Hid (2 * k = 2 ^ (j + 1)) := by show _ = _; rw [hj.out, Nat.pow_succ]; omega
      have hc : (k : Int) * 2 = ((2 * k : Nat) : Int) := by omega
      have HC := Lib.hid hc
      clear hc
      go_wp2_with (fail)
      go_round
      case rel => exact ⟨j + 1, 2 * k, by rw [HC.out], by omega, hlt, hp⟩
      case measure => simp [intOf]; omega
    · have i1 : ¬ 2 * (k : Int) < (n : Int) := by omega
      have i2 : (n : Int) ≤ 2 * (k : Int) := by omega
      have i4 : 2 * (k : Int) ≤ 131072 := by omega
      have hh : Hid (half n = k) := by show _ = _; rw [half_of n j h2 (by rw [← hj.out]; exact hk2) (by rw [← hj.out]; omega), ← hj.out]
      go_wp2_with (fail)
      go_ret
      exact ⟨by rw [hh.out]; rfl, rfl⟩

set_option maxRecDepth 100000 in
set_option maxHeartbeats 1000000 in
theorem top_any (B : Nat) {D : Nat} (n : Nat) (h : List UInt8) (a : Option Addr) (m c : Nat) (w : World) (hn : n ≤ 65536) (hh : Pt w D (.slice a m c) h) (hK : KAt w) :
    Calls Tryd.prog 87 #[.int .i64 n, .slice a m c] w (RetP B (topH n h) w) := by
  have HH := Lib.hid hh
  have HK := Lib.hid hK
  clear hh hK
  by_cases h0 : n = 0
  · subst h0
    go_enter Tryd.func87, Tryd.ntmps87
    go_wp2_with (fail)
    refine (mnumber_any D 0 w (by omega)).mono ?_
    rintro e w1 ⟨a1, n1, d1, rfl, hb1, hp1⟩
    have HB1 := Lib.hid hb1
    have HP1 := Lib.hid hp1
    clear hb1 hp1
    go_wp2_with (fail)
    refine (tagged_row (D := D) B wRoot _ 1 [be8 0] w1 (by decide) rfl (by omega) (.cons HP1.out .nil) (HK.out.below HK.out.pos HB1.out)).mono ?_
    rintro e w3 h3
    obtain ⟨a3, n3, d3, rfl, hb3, hp3⟩ := h3.before HB1.out
    have HB3 := Lib.hid hb3
    have HP3 := Lib.hid hp3
    go_wp2_with (fail)
    go_ret
    exact ⟨_, _, _, rfl, HB3.out, HP3.out⟩
  · have e0 : ((n : Int) == 0) = false := by rw [beq_eq_false_iff_ne]; omega
    have e1 : (n == 0) = false := by rw [beq_eq_false_iff_ne]; exact h0
    have HT : Hid (topH n h = tagged wRoot [be8 n, h]) := by show _ = _; unfold topH; rw [if_neg h0]
    clear h0
    go_enter Tryd.func87, Tryd.ntmps87
    go_wp2_with (fail)
    refine (mnumber_any D n w (by omega)).mono ?_
    rintro e w1 ⟨a1, n1, d1, rfl, hb1, hp1⟩
    have HB1 := Lib.hid hb1
    have HP1 := Lib.hid hp1
    clear hb1 hp1
    go_wp2_with (fail)
    refine (tagged_row (D := D) B wRoot _ 2 [be8 n, h] w1 (by decide) rfl (by omega) (.cons HP1.out (.cons (HH.out.below HB1.out) .nil)) (HK.out.below HK.out.pos HB1.out)).mono ?_
    rintro e w3 h3
    obtain ⟨a3, n3, d3, rfl, hb3, hp3⟩ := h3.before HB1.out
    have HB3 := Lib.hid hb3
    have HP3 := Lib.hid hp3
    go_wp2_with (fail)
    go_ret
    rw [HT.out]
    exact ⟨_, _, _, rfl, HB3.out, HP3.out⟩

/-! ### Order -/
def lastOf (ps : List KV) (k : Nat) : List UInt8 := if k = 0 then [] else keyAt ps (k - 1)
theorem okAt_last (ps : List KV) (k : Nat) : okAt ps k = (goodK (keyAt ps k) && blt (lastOf ps k) (keyAt ps k) && decide ((valAt ps k).length ≤ 65535)) := by
  unfold okAt lastOf
  by_cases h0 : k = 0
  · subst h0
    by_cases hg : goodK (keyAt ps 0) = true
    · have hne : keyAt ps 0 ≠ [] := by
        unfold goodK at hg
        simp only [Bool.and_eq_true, decide_eq_true_eq] at hg
        exact hg.1
      simp only [if_true, blt_nil_left _ hne, decide_true, Bool.true_or]
    · simp only [Bool.not_eq_true] at hg
      rw [hg]; simp
  · rw [if_neg h0, decide_eq_false h0, Bool.false_or]
theorem ble_false {a b : List UInt8} (h : blt b a = true) : Op.bytesLess a b = false ∧ (a == b) = false := by
  refine ⟨blt_asymm b a h, ?_⟩
  rw [beq_eq_false_iff_ne]
  exact fun e => blt_ne _ _ h e.symm
theorem ble_true {a b : List UInt8} (h : blt b a = false) : (Op.bytesLess a b || a == b) = true := by
  by_cases e : a = b
  · subst e; simp
  · have := blt_total b a (fun h => e h.symm) h
    show (blt a b || _) = true
    rw [this]; rfl

set_option maxRecDepth 100000 in
set_option maxHeartbeats 2000000 in
theorem ordered_any {C : Nat} (a : Option Addr) (n c : Nat) (ps : List KV) (w : World) (hp : Prs w C a n c ps) :
    Calls Tryd.prog 86 #[.slice a n c] w fun e w' => e = .returned (.bool (ordered ps)) ∧ Below w.heap.size w w' := by
  have hn63 : n ≤ 9223372036854775807 := by have := hp.cap; have := hp.big; unfold maxLen at this; omega
  have HP := Lib.hid hp
  have HL := Lib.hid hp.len
  have hord : Hid (ordered ps = (okTo ps n && decide ((n : Int) ≤ 65536))) := by
    show _ = _
    unfold ordered
    rw [HL.out]
    congr 2
    rw [eq_iff_iff]; omega
  have hfa : Hid (∀ k, k < n → okAt ps k = false → ordered ps = false) := fun k hk h => by rw [hord.out, okTo_false hk h]; rfl
  clear hp
  go_enter Tryd.func86, Tryd.ntmps86
  go_wp2_with (fail)
  go_loopw [3, 8] (fun l i wr => ∃ k : Nat, k ≤ n ∧ i = .int .i64 k ∧ l = str (lastOf ps k) ∧ Hid (okTo ps k = true) ∧ Hid (Below w.heap.size w wr)) (fun _ i _ => n - (intOf i).toNat)
  case atStart => exact ⟨0, by omega, rfl, rfl, rfl, Below.refl _ _⟩
  case round =>
    obtain ⟨k, hk, rfl, rfl, hok, HB⟩ := hrel
    by_cases hlt : k < n
    · obtain ⟨b, o, va, rfl, g1, g2, hv⟩ := (HP.out.below HB.out).cells k hlt
      obtain ⟨a2, n2, c2, rfl, hbs, _⟩ := hv
      have hvl := hbs.blen
      have i0 : (0 : Int) ≤ (k : Int) := by omega
      have i1 : (k : Int) < (n : Int) := by omega
      have HBa := Lib.hid (below_then HB.out HB.out.size (row_below wr (.cells #[str (keyAt ps k), .slice a2 n2 c2] 45)).out)
      have hsu := Lib.hid (okTo_succ ps k)
      have hla := Lib.hid (okAt_last ps k)
      have hls : Hid (lastOf ps (k + 1) = keyAt ps k) := rfl
      have hff := Lib.hid (hfa.out k hlt)
      clear hbs
      generalize keyAt ps k = kk at *
      generalize lastOf ps k = ll at *
      have hv65 : n2 ≤ 9223372036854775807 ∨ True := .inr trivial
      by_cases hg : goodK kk = true
      · by_cases hb : blt ll kk = true
        · obtain ⟨x1, x2⟩ := ble_false hb
          by_cases hvl2 : (valAt ps k).length ≤ 65535
          · have j1 : (n2 : Int) ≤ 65535 := by omega
            have hok2 : Hid (okTo ps (k + 1) = true) := by show _ = _; rw [hsu.out, hok.out, hla.out, hg, hb, decide_eq_true hvl2]; rfl
            have HG := Lib.hid hg
            clear hg hb hvl2 hvl
            go_wp2_with (fail)
            refine (good_any kk _).mono ?_
            rintro e w' ⟨rfl, rfl⟩
            rw [HG.out]
            go_wp2_with (fail)
            exact ⟨⟨k + 1, by omega, by go_num, by rw [hls.out], hok2, HBa⟩, by simp [intOf]; omega⟩
          · have j1 : (65535 : Int) < (n2 : Int) := by omega
            have hr : Hid (ordered ps = false) := hff.out (by rw [hla.out, decide_eq_false hvl2, Bool.and_false])
            have HG := Lib.hid hg
            clear hg hb hvl2 hvl
            go_wp2_with (fail)
            refine (good_any kk _).mono ?_
            rintro e w' ⟨rfl, rfl⟩
            rw [HG.out]
            go_wp2_with (fail)
            go_ret
            exact ⟨by rw [hr.out]; rfl, HBa.out⟩
        · have hb1 : blt ll kk = false := by simpa using hb
          have x1 := ble_true hb1
          have hr : Hid (ordered ps = false) := hff.out (by rw [hla.out, hb1, Bool.and_false, Bool.false_and])
          have HG := Lib.hid hg
          clear hg hb hb1 hvl
          go_wp2_with (fail)
          refine (good_any kk _).mono ?_
          rintro e w' ⟨rfl, rfl⟩
          rw [HG.out]
          go_wp2_with (fail)
          all_goals (
            go_ret
            exact ⟨by rw [hr.out]; rfl, HBa.out⟩)
      · have hg1 : goodK kk = false := by simpa using hg
        have hr : Hid (ordered ps = false) := hff.out (by rw [hla.out, hg1]; rfl)
        have HG := Lib.hid hg1
        clear hg hg1 hvl
        go_wp2_with (fail)
        refine (good_any kk _).mono ?_
        rintro e w' ⟨rfl, rfl⟩
        rw [HG.out]
        go_wp2_with (fail)
        go_ret
        exact ⟨by rw [hr.out]; rfl, HBa.out⟩
    · obtain rfl : k = n := by omega
      have i5 : ¬ ((k : Int) < (k : Int)) := by omega
      have hr : Hid (ordered ps = decide ((k : Int) ≤ 65536)) := by show _ = _; rw [hord.out, hok.out]; rfl
      go_wp2_with (fail)
      go_ret
      exact ⟨by rw [hr.out]; rfl, HB.out⟩
end Go.Proofs.YteceagldjnfeeaaDoor

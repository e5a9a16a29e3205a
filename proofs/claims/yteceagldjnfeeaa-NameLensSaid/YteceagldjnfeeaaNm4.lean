/- The walks of the package isthmusref05: Hop and Over. -/
import Derived.Test.YteceagldjnfeeaaNm3
namespace Go.Proofs.Yteceagldjnfeeaa
open Go.RowKit
set_option linter.unusedVariables false
set_option linter.unusedSimpArgs false

theorem hops_some {l : List UInt8} (h : hopsN l ≠ 0) : ∃ x r b, denomB l = true ∧ l.length ≤ 160 ∧ parse l = some (x :: r, b) ∧ hopT l = (x, l.drop (9 + x.length + 1), true) ∧ (words l).getD 1 [] = x ∧ 9 + x.length + 1 ≤ l.length := by
  unfold hopsN at h
  by_cases hd : denomB l = true
  · rw [if_pos hd] at h
    obtain ⟨p, hp, hl⟩ := denom_some hd
    obtain ⟨ps, b⟩ := p
    unfold hopsOf at h
    rw [hp] at h
    cases ps with
    | nil => exact absurd rfl h
    | cons x r =>
      refine ⟨x, r, b, hd, hl, hp, ?_, ((parseW_tells (words l)).2 _ hp).2.2 x r rfl, ?_⟩
      · unfold hopT hopsOf; rw [if_pos hd, hp]
      · have e := (parse_over hp).1
        have := over_length x (l.drop (9 + x.length + 1))
        rw [← e] at this
        omega
  · rw [if_neg hd] at h; exact absurd rfl h
theorem hops_none {l : List UInt8} (h : hopsN l = 0) : hopT l = ([], [], false) := by
  unfold hopT
  by_cases hd : denomB l = true
  · rw [if_pos hd]
    unfold hopsN at h
    rw [if_pos hd] at h
    rw [List.eq_nil_of_length_eq_zero h]
  · rw [if_neg hd]
theorem drop_ext (s : ByteArray) (k : Nat) : s.extract k s.size = ⟨((tx s).drop k).toArray⟩ := by
  rw [ext_eq, List.take_of_length_le (by rw [List.length_drop, tx_len]; omega)]
def trip (t : List UInt8 × List UInt8 × Bool) : Value := .tuple #[str t.1, str t.2.1, .bool t.2.2]

set_option maxRecDepth 100000 in
set_option maxHeartbeats 1000000 in
theorem rhop_any (s : ByteArray) (w : World) :
    Calls Try.prog 15 #[.string s] w fun e w' => e = .returned (trip (hopT (tx s))) ∧ Below w.heap.size w w' := by
  go_enter Try.func15, Try.ntmps15
  go_wp2_with (fail)
  refine (rhops_any s w).mono ?_
  rintro e w1 ⟨rfl, hb1⟩
  have HB1 := Lib.hid hb1
  clear hb1
  by_cases hd : hopsN (tx s) = 0
  · have hr := Lib.hid (hops_none hd)
    rw [hd]
    clear hd
    go_wp2_with (fail)
    go_ret3
    exact ⟨by rw [hr.out]; rfl, HB1.out⟩
  · obtain ⟨x, r, b, hden, hl, hp, ht, hw, hlen⟩ := hops_some hd
    have hs : s.size ≤ 160 := by rwa [tx_len] at hl
    have hle : 9 + x.length + 1 ≤ s.size := by rwa [tx_len] at hlen
    obtain ⟨hw1, hw2⟩ := words_lt s hs
    have HT := Lib.hid ht
    have hn2 : 2 ≤ (words (tx s)).length := by
      have := hopsN_words _ hden
      omega
    have e0 : (hopsN (tx s) == 0) = false := by rw [beq_eq_false_iff_ne]; exact hd
    have e1 : (((hopsN (tx s) : Nat) : Int) == 0) = false := by rw [beq_eq_false_iff_ne]; omega
    clear hden hl hp ht hlen hd
    go_wp2_with (fail)
    clear e0 e1
    refine (words_any s w1 hs).mono ?_
    rintro e w2 ⟨a2, c2, rfl, hb2, hs2⟩
    have HB2 := Lib.hid (below_then HB1.out HB1.out.size hb2)
    obtain ⟨bb, o, rfl, _⟩ := hs2.at (j := 0) (by omega)
    have g1 : w2.cell? ⟨bb, o + 1, none⟩ = some (str x) := by
      obtain ⟨b', o', e, hc⟩ := hs2.cells 1 _ (strs_get _ _ (by omega))
      cases e
      rw [← hw]; exact hc
    have hex := Lib.hid (drop_ext s (9 + x.length + 1))
    clear hb2 hs2 hw
    generalize (words (tx s)).length = n at hw1 hw2 hn2 ⊢
    have j1 : (1 : Int) < (n : Int) := by omega
    have hxs : ((⟨x.toArray⟩ : ByteArray).size) = x.length := rfl
    have j2 : (9 : Int) + (x.length : Int) + 1 ≤ (s.size : Int) := by omega
    have j3 : (0 : Int) ≤ (9 : Int) + (x.length : Int) + 1 := by omega
    have t1 : ((9 : Int) + (x.length : Int) + 1).toNat = 9 + x.length + 1 := by omega
    have k1 : IntKind.i64.wrap ((9 : Int) + (x.length : Int)) = (9 : Int) + (x.length : Int) := IntWalk.i64_in _ (by omega)
    have k2 : IntKind.i64.wrap ((9 : Int) + (x.length : Int) + 1) = (9 : Int) + (x.length : Int) + 1 := IntWalk.i64_in _ (by omega)
    go_wp2_with (fail)
    go_quiet (fail)
    go_wp2_with (fail)
    go_ret3
    refine ⟨?_, below_then HB2.out HB2.out.size (drewN_below _ _)⟩
    rw [HT.out]
    show Ending.returned (.tuple #[str x, .string (s.extract (9 + x.length + 1) s.size), .bool true]) = .returned (.tuple #[str x, str ((tx s).drop (9 + x.length + 1)), .bool true])
    rw [hex.out]

def overT (hop s : List UInt8) : List UInt8 × Int := if identB hop = true then (if denomB s = true ∧ (overOf hop s).length ≤ 160 then (overOf hop s, 0) else ([], 41)) else ([], 40)
def pairT (t : List UInt8 × Int) : Value := .tuple #[str t.1, .int .i64 t.2]
theorem cat_eq (hop s : ByteArray) : (⟨#[116, 114, 97, 110, 115, 102, 101, 114, 47]⟩ : ByteArray) ++ hop ++ ⟨#[47]⟩ ++ s = ⟨(overOf (tx hop) (tx s)).toArray⟩ := by
  apply ByteArray.ext
  simp only [ByteArray.data_append]
  apply Array.ext'
  simp [overOf, port, slash]

set_option maxRecDepth 100000 in
set_option maxHeartbeats 1000000 in
theorem rover_any (hop s : ByteArray) (w : World) (hh : hop.size ≤ 140737488355328) (hs : s.size ≤ 140737488355328) :
    Calls Try.prog 11 #[.string hop, .string s] w fun e w' => e = .returned (pairT (overT (tx hop) (tx s))) ∧ Below w.heap.size w w' := by
  have HC := Lib.hid (cat_eq hop s)
  have hln := over_length (tx hop) (tx s)
  rw [tx_len, tx_len] at hln
  have HLN := Lib.hid hln
  clear hln
  by_cases hi : identB (tx hop) = true
  · have hi32 := ident_len hi
    rw [tx_len] at hi32
    have HO : Hid (overT (tx hop) (tx s) = if denomB (tx s) = true ∧ (overOf (tx hop) (tx s)).length ≤ 160 then (overOf (tx hop) (tx s), 0) else ([], 41)) := by show _ = _; rw [overT, if_pos hi]
    go_enter Try.func11, Try.ntmps11
    go_wp2_with (fail)
    refine (rident_any hop w hh).mono ?_
    rintro e w' ⟨rfl, rfl⟩
    rw [hi]
    clear hi
    go_wp2_with (fail)
    refine (rdenom_any s w).mono ?_
    rintro e w1 ⟨rfl, hb1⟩
    have HB1 := Lib.hid hb1
    clear hb1
    by_cases hd : denomB (tx s) = true
    · have hds : s.size ≤ 160 := by obtain ⟨_, _, h⟩ := denom_some hd; rwa [tx_len] at h
      rw [hd]
      by_cases hlen : (overOf (tx hop) (tx s)).length ≤ 160
      · have hr : Hid (overT (tx hop) (tx s) = (overOf (tx hop) (tx s), 0)) := by show _ = _; rw [HO.out, if_pos ⟨hd, hlen⟩]
        rw [HLN.out] at hlen
        have j1 : (9 : Int) + (hop.size : Int) + 1 + (s.size : Int) ≤ 160 := by omega
        clear hd hlen
        go_wp2_with (fail)
        go_ret2
        refine ⟨?_, HB1.out⟩
        rw [hr.out]
        show Ending.returned (.tuple #[.string ((⟨#[116, 114, 97, 110, 115, 102, 101, 114, 47]⟩ : ByteArray) ++ hop ++ ⟨#[47]⟩ ++ s), .int .i64 0]) = .returned (.tuple #[str (overOf (tx hop) (tx s)), .int .i64 0])
        rw [HC.out]
      · have hr : Hid (overT (tx hop) (tx s) = ([], 41)) := by show _ = _; rw [HO.out, if_neg (fun h => hlen h.2)]
        rw [HLN.out] at hlen
        have j1 : (160 : Int) < (9 : Int) + (hop.size : Int) + 1 + (s.size : Int) := by omega
        clear hd hlen
        go_wp2_with (fail)
        go_ret2
        exact ⟨by rw [hr.out]; rfl, HB1.out⟩
    · have hd1 : denomB (tx s) = false := by simpa using hd
      have hr : Hid (overT (tx hop) (tx s) = ([], 41)) := by show _ = _; rw [HO.out, if_neg (fun h => hd h.1)]
      rw [hd1]
      clear hd hd1
      go_wp2_with (fail)
      go_ret2
      exact ⟨by rw [hr.out]; rfl, HB1.out⟩
  · have hi1 : identB (tx hop) = false := by simpa using hi
    have hr : Hid (overT (tx hop) (tx s) = ([], 40)) := by show _ = _; rw [overT, if_neg hi]
    go_enter Try.func11, Try.ntmps11
    go_wp2_with (fail)
    refine (rident_any hop w hh).mono ?_
    rintro e w' ⟨rfl, rfl⟩
    rw [hi1]
    clear hi hi1
    go_wp2_with (fail)
    go_ret2
    exact ⟨by rw [hr.out]; rfl, Below.refl _ _⟩
end Go.Proofs.Yteceagldjnfeeaa

/- The walks of isthmuslaw05: fixed and the five laws. -/
import Derived.Test.YteceagldjnfeeaaNm5
import Derived.WalkLawsBesides
namespace Go.Proofs.Yteceagldjnfeeaa
open Go.RowKit
set_option linter.unusedVariables false
set_option linter.unusedSimpArgs false

theorem hop_is (s : ByteArray) (a b : List UInt8) (ok : Bool) (w : World) (h : hopT (tx s) = (a, b, ok)) (hx : MX w) :
    Calls Try.prog 14 #[.string s] w fun e w' => e = .returned (.tuple #[str a, str b, .bool ok]) ∧ Below w.heap.size w w' :=
  (hop_any s w hx).mono fun e w' ⟨h1, h2⟩ => ⟨by rw [h1, h]; rfl, h2⟩
theorem rhop_is (s : ByteArray) (a b : List UInt8) (ok : Bool) (w : World) (h : hopT (tx s) = (a, b, ok)) :
    Calls Try.prog 15 #[.string s] w fun e w' => e = .returned (.tuple #[str a, str b, .bool ok]) ∧ Below w.heap.size w w' :=
  (rhop_any s w).mono fun e w' ⟨h1, h2⟩ => ⟨by rw [h1, h]; rfl, h2⟩
theorem over_is (hop s : ByteArray) (a : List UInt8) (z : Int) (w : World) (hh : hop.size ≤ 140737488355328) (hs : s.size ≤ 140737488355328) (h : overT (tx hop) (tx s) = (a, z)) (hx : MX w) :
    Calls Try.prog 10 #[.string hop, .string s] w fun e w' => e = .returned (.tuple #[str a, .int .i64 z]) ∧ Below w.heap.size w w' :=
  (over_any hop s w hh hs hx).mono fun e w' ⟨h1, h2⟩ => ⟨by rw [h1, h]; rfl, h2⟩
theorem rover_is (hop s : ByteArray) (a : List UInt8) (z : Int) (w : World) (hh : hop.size ≤ 140737488355328) (hs : s.size ≤ 140737488355328) (h : overT (tx hop) (tx s) = (a, z)) :
    Calls Try.prog 11 #[.string hop, .string s] w fun e w' => e = .returned (.tuple #[str a, .int .i64 z]) ∧ Below w.heap.size w w' :=
  (rover_any hop s w hh hs).mono fun e w' ⟨h1, h2⟩ => ⟨by rw [h1, h]; rfl, h2⟩
theorem denom_is (s : ByteArray) (b : Bool) (w : World) (h : denomB (tx s) = b) (hx : MX w) :
    Calls Try.prog 17 #[.string s] w fun e w' => e = .returned (.bool b) ∧ Below w.heap.size w w' := by subst h; exact denom_any s w hx
theorem base_is (s : ByteArray) (b : List UInt8) (w : World) (h : baseT (tx s) = b) (hx : MX w) :
    Calls Try.prog 19 #[.string s] w fun e w' => e = .returned (str b) ∧ Below w.heap.size w w' := by subst h; exact base_any s w hx
theorem hops_is (s : ByteArray) (n : Nat) (w : World) (h : hopsN (tx s) = n) (hx : MX w) :
    Calls Try.prog 21 #[.string s] w fun e w' => e = .returned (.int .i64 (n : Int)) ∧ Below w.heap.size w w' := by subst h; exact hops_any s w hx
theorem identS_is (s : ByteArray) (b : Bool) (w : World) (h : identB (tx s) = b) (hs : s.size ≤ 140737488355328) :
    Calls Try.prog 13 #[.string s] w fun e w' => e = .returned (.bool b) ∧ Below w.heap.size w w' := by subst h; exact ident_any s w hs
theorem ridentS_is (s : ByteArray) (b : Bool) (w : World) (h : identB (tx s) = b) (hs : s.size ≤ 140737488355328) :
    Calls Try.prog 16 #[.string s] w fun e w' => e = .returned (.bool b) ∧ w = w' := by subst h; exact rident_any s w hs

/-! ### The answers that are fixed -/
def wAtom : List UInt8 := [97, 116, 111, 109]
def wChan (n : UInt8) : List UInt8 := [99, 104, 97, 110, 45, n]
theorem atom_ok : identB wAtom = true := by decide
theorem chan_ok : identB (wChan 48) = true ∧ identB (wChan 49) = true ∧ identB (wChan 50) = true := by decide
theorem one_hop : parse (overOf (wChan 49) wAtom) = some ([wChan 49], wAtom) := by
  rw [over_parse _ _ chan_ok.2.1, ident_parse atom_ok]; rfl
theorem two_hops : parse (overOf (wChan 48) (overOf (wChan 49) wAtom)) = some ([wChan 48, wChan 49], wAtom) := by
  rw [over_parse _ _ chan_ok.1, one_hop]; rfl
theorem fix1 : hopT (tx ⟨#[116, 114, 97, 110, 115, 102, 101, 114, 47, 99, 104, 97, 110, 45, 48, 47, 116, 114, 97, 110, 115, 102, 101, 114, 47, 99, 104, 97, 110, 45, 49, 47, 97, 116, 111, 109]⟩) = ([99, 104, 97, 110, 45, 48], [116, 114, 97, 110, 115, 102, 101, 114, 47, 99, 104, 97, 110, 45, 49, 47, 97, 116, 111, 109], true) := by
  show hopT (overOf (wChan 48) (overOf (wChan 49) wAtom)) = _
  unfold hopT hopsOf denomB
  rw [two_hops]
  rfl
theorem fix2 : overT (tx ⟨#[99, 104, 97, 110, 45, 50]⟩) (tx ⟨#[97, 116, 111, 109]⟩) = ([116, 114, 97, 110, 115, 102, 101, 114, 47, 99, 104, 97, 110, 45, 50, 47, 97, 116, 111, 109], 0) := by
  show overT (wChan 50) wAtom = _
  have hd : denomB wAtom = true := by unfold denomB; rw [ident_parse atom_ok]; rfl
  rw [overT, if_pos chan_ok.2.2, if_pos ⟨hd, by decide⟩]
  rfl
theorem fix3 : identB (tx ⟨#[48, 97]⟩) = false := by decide
theorem fix4 : denomB (tx ⟨#[116, 114, 97, 110, 115, 102, 101, 114]⟩) = true := by
  show denomB wTransfer = true
  unfold denomB; rw [ident_parse (by decide)]; rfl

set_option maxRecDepth 100000 in
set_option maxHeartbeats 1000000 in
theorem fixed_any (w : World) (hx : MX w) : Calls Try.prog 12 #[] w fun e w' => e = .returned (.bool true) ∧ Below w.heap.size w w' := by
  have HX := Lib.hid hx
  clear hx
  go_enter Try.func12, Try.ntmps12
  go_wp2_with (fail)
  refine (hop_is _ _ _ _ w fix1 HX.out).mono ?_
  rintro e w1 ⟨rfl, hb1⟩
  have HB1 := Lib.hid hb1
  clear hb1
  go_wp2_with (fail)
  refine (over_is _ _ _ _ w1 (by decide) (by decide) fix2 (HX.out.below HB1.out)).mono ?_
  rintro e w2 ⟨rfl, hb2⟩
  have HB2 := Lib.hid (below_then HB1.out HB1.out.size hb2)
  clear hb2
  go_wp2_with (fail)
  refine (identS_is _ _ w2 fix3 (by decide)).mono ?_
  rintro e w3 ⟨rfl, hb3⟩
  have HB3 := Lib.hid (below_then HB2.out HB2.out.size hb3)
  clear hb3
  go_wp2_with (fail)
  refine (denom_is _ _ w3 fix4 (HX.out.below HB3.out)).mono ?_
  rintro e w4 ⟨rfl, hb4⟩
  have HB4 := Lib.hid (below_then HB3.out HB3.out.size hb4)
  clear hb4
  go_wp2_with (fail)
  go_ret
  exact ⟨rfl, HB4.out⟩

set_option maxRecDepth 100000 in
set_option maxHeartbeats 1000000 in
theorem nameOvers_walk (hop s : ByteArray) (w : World) (hh : hop.size ≤ 140737488355328) (hs : s.size ≤ 140737488355328) (hx : MX w) :
    Calls Try.prog 3 #[.string hop, .string s] w fun e w' => e = .returned (.bool true) ∧ Below w.heap.size w w' := by
  have HX := Lib.hid hx
  clear hx
  obtain ⟨a, z, hv⟩ : ∃ a z, overT (tx hop) (tx s) = (a, z) := ⟨_, _, rfl⟩
  have HV := Lib.hid hv
  clear hv
  go_enter Try.func3, Try.ntmps3
  go_wp2_with (fail)
  refine (over_is hop s a z w hh hs HV.out HX.out).mono ?_
  rintro e w1 ⟨rfl, hb1⟩
  have HB1 := Lib.hid hb1
  clear hb1
  go_wp2_with (fail)
  refine (rover_is hop s a z w1 hh hs HV.out).mono ?_
  rintro e w2 ⟨rfl, hb2⟩
  have HB2 := Lib.hid (below_then HB1.out HB1.out.size hb2)
  clear hb2
  go_wp2_with (fail)
  refine (fixed_any w2 (HX.out.below HB2.out)).mono ?_
  rintro e w3 ⟨rfl, hb3⟩
  have HB3 := Lib.hid (below_then HB2.out HB2.out.size hb3)
  clear hb3
  go_wp2_with (fail)
  go_ret
  exact ⟨rfl, HB3.out⟩

set_option maxRecDepth 100000 in
set_option maxHeartbeats 1000000 in
theorem nameLens_walk (hop s : ByteArray) (w : World) (hh : hop.size ≤ 140737488355328) (hs : s.size ≤ 140737488355328) (hx : MX w) :
    Calls Try.prog 4 #[.string hop, .string s] w fun e w' => e = .returned (.bool true) ∧ Below w.heap.size w w' := by
  have HX := Lib.hid hx
  clear hx
  by_cases hok : identB (tx hop) = true ∧ denomB (tx s) = true ∧ (overOf (tx hop) (tx s)).length ≤ 160
  · obtain ⟨hi, hd, hl⟩ := hok
    have HV : Hid (overT (tx hop) (tx s) = (overOf (tx hop) (tx s), 0)) := by show _ = _; rw [overT, if_pos hi, if_pos ⟨hd, hl⟩]
    have HI := Lib.hid hi
    have hln := over_length (tx hop) (tx s)
    rw [tx_len, tx_len] at hln
    have HL : Hid (((overOf (tx hop) (tx s)).length : Int) = (s.size : Int) + (hop.size : Int) + 10) := by show _ = _; omega
    have j1 : (s.size : Int) + (hop.size : Int) + 10 ≤ 160 := by omega
    clear hi hd hl hln
    go_enter Try.func4, Try.ntmps4
    go_wp2_with (fail)
    refine (over_is hop s _ _ w hh hs HV.out HX.out).mono ?_
    rintro e w1 ⟨rfl, hb1⟩
    have HB1 := Lib.hid hb1
    clear hb1
    go_wp2_with (fail)
    refine (fixed_any w1 (HX.out.below HB1.out)).mono ?_
    rintro e w3 ⟨rfl, hb3⟩
    have HB3 := Lib.hid (below_then HB1.out HB1.out.size hb3)
    clear hb3
    generalize overOf (tx hop) (tx s) = t at HL HV ⊢
    have hl2 : (t.length : Int) = (s.size : Int) + (hop.size : Int) + 10 := HL.out
    go_wp2_with (fail)
    refine (identS_is _ _ w3 HI.out hh).mono ?_
    rintro e w4 ⟨rfl, hb4⟩
    have HB4 := Lib.hid (below_then HB3.out HB3.out.size hb4)
    clear hb4
    go_wp2_with (fail)
    go_ret
    exact ⟨rfl, HB4.out⟩
  · have hv : ∃ z, overT (tx hop) (tx s) = ([], z) ∧ z ≠ 0 := by
      by_cases hi : identB (tx hop) = true
      · exact ⟨41, by rw [overT, if_pos hi, if_neg (fun h => hok ⟨hi, h.1, h.2⟩)], by omega⟩
      · exact ⟨40, by rw [overT, if_neg hi], by omega⟩
    obtain ⟨z, hv, hz⟩ := hv
    have HV := Lib.hid hv
    have hb : (z != 0) = true := by rw [bne_iff_ne]; exact hz
    clear hv hok hz
    go_enter Try.func4, Try.ntmps4
    go_wp2_with (fail)
    refine (over_is hop s _ _ w hh hs HV.out HX.out).mono ?_
    rintro e w1 ⟨rfl, hb1⟩
    have HB1 := Lib.hid hb1
    clear hb1
    go_wp2_with (fail)
    refine (fixed_any w1 (HX.out.below HB1.out)).mono ?_
    rintro e w3 ⟨rfl, hb3⟩
    have HB3 := Lib.hid (below_then HB1.out HB1.out.size hb3)
    clear hb3
    go_wp2_with (fail)
    refine (fixed_any w3 (HX.out.below HB3.out)).mono ?_
    rintro e w4 ⟨rfl, hb4⟩
    have HB4 := Lib.hid (below_then HB3.out HB3.out.size hb4)
    clear hb4
    go_wp2_with (fail)
    go_ret
    exact ⟨rfl, HB4.out⟩
end Go.Proofs.Yteceagldjnfeeaa

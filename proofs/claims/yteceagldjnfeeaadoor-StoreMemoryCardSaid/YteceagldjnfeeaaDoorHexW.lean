/- The contracts of isthmuslaw03.same and of the reference's Hex; two digits a byte in plain Lean. -/
import Derived.Test.YteceagldjnfeeaaDoorWire
namespace Go.Proofs.YteceagldjnfeeaaDoor
open Go.RowKit
set_option linter.unusedVariables false
set_option linter.unusedSimpArgs false

/-- A digit. -/
def dig (i : Nat) : UInt8 := UInt8.ofNat (if i < 10 then 48 + i else 87 + i)
/-- Two digits a byte. -/
def hex2 (b : UInt8) : List UInt8 := [dig (b.toNat / 16), dig (b.toNat % 16)]
def hexOf (l : List UInt8) : List UInt8 := (l.map hex2).flatten
theorem hexOf_nil : hexOf [] = [] := rfl
theorem hexOf_snoc (l : List UInt8) (b : UInt8) : hexOf (l ++ [b]) = hexOf l ++ hex2 b := by simp [hexOf]
theorem hexOf_take (l : List UInt8) (k : Nat) (h : k < l.length) : hexOf (l.take (k + 1)) = hexOf (l.take k) ++ hex2 l[k] := by
  rw [List.take_succ_eq_append_getElem h, hexOf_snoc]
theorem hexOf_length (l : List UInt8) : (hexOf l).length = 2 * l.length := by
  induction l with
  | nil => rfl
  | cons b l ih =>
    have : hexOf (b :: l) = hex2 b ++ hexOf l := by simp [hexOf]
    rw [this, List.length_append, ih, List.length_cons]
    simp only [hex2, List.length_cons, List.length_nil]
    omega
theorem dig_inj (i j : Nat) (hi : i < 16) (hj : j < 16) (h : dig i = dig j) : i = j := by
  have h2 := congrArg UInt8.toNat h
  unfold dig at h2
  simp only [UInt8.toNat_ofNat'] at h2
  split at h2 <;> split at h2 <;> omega
theorem hex2_inj (a b : UInt8) (h : hex2 a = hex2 b) : a = b := by
  have ha := a.toNat_lt
  have hb := b.toNat_lt
  simp only [hex2, List.cons.injEq, and_true] at h
  have h1 := dig_inj _ _ (by omega) (by omega) h.1
  have h2 := dig_inj _ _ (by omega) (by omega) h.2
  apply UInt8.toNat_inj.1
  omega
theorem hexOf_inj : ∀ (a b : List UInt8), hexOf a = hexOf b → a = b
  | [], [], _ => rfl
  | [], b :: l, h => by simp [hexOf, hex2] at h
  | b :: l, [], h => by simp [hexOf, hex2] at h
  | a :: l, b :: m, h => by
    have e1 : hexOf (a :: l) = hex2 a ++ hexOf l := by simp [hexOf]
    have e2 : hexOf (b :: m) = hex2 b ++ hexOf m := by simp [hexOf]
    rw [e1, e2] at h
    have h3 := List.append_inj h (by simp [hex2])
    rw [hex2_inj a b h3.1, hexOf_inj l m h3.2]

def hexTab : ByteArray := { data := #[48, 49, 50, 51, 52, 53, 54, 55, 56, 57, 97, 98, 99, 100, 101, 102] }
theorem idx16_0 (w : World) : (Instr.index 9 (.string { data := #[48, 49, 50, 51, 52, 53, 54, 55, 56, 57, 97, 98, 99, 100, 101, 102] }) (.int .u8 ((0 : Nat) : Int))).run Tryd.prog w = .ok (.int .u8 (ub (dig 0))) w := by kernel_rfl
theorem slice16_0 (w : World) : (Instr.slice 9 (.string { data := #[48, 49, 50, 51, 52, 53, 54, 55, 56, 57, 97, 98, 99, 100, 101, 102] }) (some (.int .u8 ((0 : Nat) : Int))) (some (.int .u8 (((0 : Nat) : Int) + 1))) none).run Tryd.prog w = .ok (.string ⟨#[dig 0]⟩) w := by kernel_rfl
theorem idx16_1 (w : World) : (Instr.index 9 (.string { data := #[48, 49, 50, 51, 52, 53, 54, 55, 56, 57, 97, 98, 99, 100, 101, 102] }) (.int .u8 ((1 : Nat) : Int))).run Tryd.prog w = .ok (.int .u8 (ub (dig 1))) w := by kernel_rfl
theorem slice16_1 (w : World) : (Instr.slice 9 (.string { data := #[48, 49, 50, 51, 52, 53, 54, 55, 56, 57, 97, 98, 99, 100, 101, 102] }) (some (.int .u8 ((1 : Nat) : Int))) (some (.int .u8 (((1 : Nat) : Int) + 1))) none).run Tryd.prog w = .ok (.string ⟨#[dig 1]⟩) w := by kernel_rfl
theorem idx16_2 (w : World) : (Instr.index 9 (.string { data := #[48, 49, 50, 51, 52, 53, 54, 55, 56, 57, 97, 98, 99, 100, 101, 102] }) (.int .u8 ((2 : Nat) : Int))).run Tryd.prog w = .ok (.int .u8 (ub (dig 2))) w := by kernel_rfl
theorem slice16_2 (w : World) : (Instr.slice 9 (.string { data := #[48, 49, 50, 51, 52, 53, 54, 55, 56, 57, 97, 98, 99, 100, 101, 102] }) (some (.int .u8 ((2 : Nat) : Int))) (some (.int .u8 (((2 : Nat) : Int) + 1))) none).run Tryd.prog w = .ok (.string ⟨#[dig 2]⟩) w := by kernel_rfl
theorem idx16_3 (w : World) : (Instr.index 9 (.string { data := #[48, 49, 50, 51, 52, 53, 54, 55, 56, 57, 97, 98, 99, 100, 101, 102] }) (.int .u8 ((3 : Nat) : Int))).run Tryd.prog w = .ok (.int .u8 (ub (dig 3))) w := by kernel_rfl
theorem slice16_3 (w : World) : (Instr.slice 9 (.string { data := #[48, 49, 50, 51, 52, 53, 54, 55, 56, 57, 97, 98, 99, 100, 101, 102] }) (some (.int .u8 ((3 : Nat) : Int))) (some (.int .u8 (((3 : Nat) : Int) + 1))) none).run Tryd.prog w = .ok (.string ⟨#[dig 3]⟩) w := by kernel_rfl
theorem idx16_4 (w : World) : (Instr.index 9 (.string { data := #[48, 49, 50, 51, 52, 53, 54, 55, 56, 57, 97, 98, 99, 100, 101, 102] }) (.int .u8 ((4 : Nat) : Int))).run Tryd.prog w = .ok (.int .u8 (ub (dig 4))) w := by kernel_rfl
theorem slice16_4 (w : World) : (Instr.slice 9 (.string { data := #[48, 49, 50, 51, 52, 53, 54, 55, 56, 57, 97, 98, 99, 100, 101, 102] }) (some (.int .u8 ((4 : Nat) : Int))) (some (.int .u8 (((4 : Nat) : Int) + 1))) none).run Tryd.prog w = .ok (.string ⟨#[dig 4]⟩) w := by kernel_rfl
theorem idx16_5 (w : World) : (Instr.index 9 (.string { data := #[48, 49, 50, 51, 52, 53, 54, 55, 56, 57, 97, 98, 99, 100, 101, 102] }) (.int .u8 ((5 : Nat) : Int))).run Tryd.prog w = .ok (.int .u8 (ub (dig 5))) w := by kernel_rfl
theorem slice16_5 (w : World) : (Instr.slice 9 (.string { data := #[48, 49, 50, 51, 52, 53, 54, 55, 56, 57, 97, 98, 99, 100, 101, 102] }) (some (.int .u8 ((5 : Nat) : Int))) (some (.int .u8 (((5 : Nat) : Int) + 1))) none).run Tryd.prog w = .ok (.string ⟨#[dig 5]⟩) w := by kernel_rfl
theorem idx16_6 (w : World) : (Instr.index 9 (.string { data := #[48, 49, 50, 51, 52, 53, 54, 55, 56, 57, 97, 98, 99, 100, 101, 102] }) (.int .u8 ((6 : Nat) : Int))).run Tryd.prog w = .ok (.int .u8 (ub (dig 6))) w := by kernel_rfl
theorem slice16_6 (w : World) : (Instr.slice 9 (.string { data := #[48, 49, 50, 51, 52, 53, 54, 55, 56, 57, 97, 98, 99, 100, 101, 102] }) (some (.int .u8 ((6 : Nat) : Int))) (some (.int .u8 (((6 : Nat) : Int) + 1))) none).run Tryd.prog w = .ok (.string ⟨#[dig 6]⟩) w := by kernel_rfl
theorem idx16_7 (w : World) : (Instr.index 9 (.string { data := #[48, 49, 50, 51, 52, 53, 54, 55, 56, 57, 97, 98, 99, 100, 101, 102] }) (.int .u8 ((7 : Nat) : Int))).run Tryd.prog w = .ok (.int .u8 (ub (dig 7))) w := by kernel_rfl
theorem slice16_7 (w : World) : (Instr.slice 9 (.string { data := #[48, 49, 50, 51, 52, 53, 54, 55, 56, 57, 97, 98, 99, 100, 101, 102] }) (some (.int .u8 ((7 : Nat) : Int))) (some (.int .u8 (((7 : Nat) : Int) + 1))) none).run Tryd.prog w = .ok (.string ⟨#[dig 7]⟩) w := by kernel_rfl
theorem idx16_8 (w : World) : (Instr.index 9 (.string { data := #[48, 49, 50, 51, 52, 53, 54, 55, 56, 57, 97, 98, 99, 100, 101, 102] }) (.int .u8 ((8 : Nat) : Int))).run Tryd.prog w = .ok (.int .u8 (ub (dig 8))) w := by kernel_rfl
theorem slice16_8 (w : World) : (Instr.slice 9 (.string { data := #[48, 49, 50, 51, 52, 53, 54, 55, 56, 57, 97, 98, 99, 100, 101, 102] }) (some (.int .u8 ((8 : Nat) : Int))) (some (.int .u8 (((8 : Nat) : Int) + 1))) none).run Tryd.prog w = .ok (.string ⟨#[dig 8]⟩) w := by kernel_rfl
theorem idx16_9 (w : World) : (Instr.index 9 (.string { data := #[48, 49, 50, 51, 52, 53, 54, 55, 56, 57, 97, 98, 99, 100, 101, 102] }) (.int .u8 ((9 : Nat) : Int))).run Tryd.prog w = .ok (.int .u8 (ub (dig 9))) w := by kernel_rfl
theorem slice16_9 (w : World) : (Instr.slice 9 (.string { data := #[48, 49, 50, 51, 52, 53, 54, 55, 56, 57, 97, 98, 99, 100, 101, 102] }) (some (.int .u8 ((9 : Nat) : Int))) (some (.int .u8 (((9 : Nat) : Int) + 1))) none).run Tryd.prog w = .ok (.string ⟨#[dig 9]⟩) w := by kernel_rfl
theorem idx16_10 (w : World) : (Instr.index 9 (.string { data := #[48, 49, 50, 51, 52, 53, 54, 55, 56, 57, 97, 98, 99, 100, 101, 102] }) (.int .u8 ((10 : Nat) : Int))).run Tryd.prog w = .ok (.int .u8 (ub (dig 10))) w := by kernel_rfl
theorem slice16_10 (w : World) : (Instr.slice 9 (.string { data := #[48, 49, 50, 51, 52, 53, 54, 55, 56, 57, 97, 98, 99, 100, 101, 102] }) (some (.int .u8 ((10 : Nat) : Int))) (some (.int .u8 (((10 : Nat) : Int) + 1))) none).run Tryd.prog w = .ok (.string ⟨#[dig 10]⟩) w := by kernel_rfl
theorem idx16_11 (w : World) : (Instr.index 9 (.string { data := #[48, 49, 50, 51, 52, 53, 54, 55, 56, 57, 97, 98, 99, 100, 101, 102] }) (.int .u8 ((11 : Nat) : Int))).run Tryd.prog w = .ok (.int .u8 (ub (dig 11))) w := by kernel_rfl
theorem slice16_11 (w : World) : (Instr.slice 9 (.string { data := #[48, 49, 50, 51, 52, 53, 54, 55, 56, 57, 97, 98, 99, 100, 101, 102] }) (some (.int .u8 ((11 : Nat) : Int))) (some (.int .u8 (((11 : Nat) : Int) + 1))) none).run Tryd.prog w = .ok (.string ⟨#[dig 11]⟩) w := by kernel_rfl
theorem idx16_12 (w : World) : (Instr.index 9 (.string { data := #[48, 49, 50, 51, 52, 53, 54, 55, 56, 57, 97, 98, 99, 100, 101, 102] }) (.int .u8 ((12 : Nat) : Int))).run Tryd.prog w = .ok (.int .u8 (ub (dig 12))) w := by kernel_rfl
theorem slice16_12 (w : World) : (Instr.slice 9 (.string { data := #[48, 49, 50, 51, 52, 53, 54, 55, 56, 57, 97, 98, 99, 100, 101, 102] }) (some (.int .u8 ((12 : Nat) : Int))) (some (.int .u8 (((12 : Nat) : Int) + 1))) none).run Tryd.prog w = .ok (.string ⟨#[dig 12]⟩) w := by kernel_rfl
theorem idx16_13 (w : World) : (Instr.index 9 (.string { data := #[48, 49, 50, 51, 52, 53, 54, 55, 56, 57, 97, 98, 99, 100, 101, 102] }) (.int .u8 ((13 : Nat) : Int))).run Tryd.prog w = .ok (.int .u8 (ub (dig 13))) w := by kernel_rfl
theorem slice16_13 (w : World) : (Instr.slice 9 (.string { data := #[48, 49, 50, 51, 52, 53, 54, 55, 56, 57, 97, 98, 99, 100, 101, 102] }) (some (.int .u8 ((13 : Nat) : Int))) (some (.int .u8 (((13 : Nat) : Int) + 1))) none).run Tryd.prog w = .ok (.string ⟨#[dig 13]⟩) w := by kernel_rfl
theorem idx16_14 (w : World) : (Instr.index 9 (.string { data := #[48, 49, 50, 51, 52, 53, 54, 55, 56, 57, 97, 98, 99, 100, 101, 102] }) (.int .u8 ((14 : Nat) : Int))).run Tryd.prog w = .ok (.int .u8 (ub (dig 14))) w := by kernel_rfl
theorem slice16_14 (w : World) : (Instr.slice 9 (.string { data := #[48, 49, 50, 51, 52, 53, 54, 55, 56, 57, 97, 98, 99, 100, 101, 102] }) (some (.int .u8 ((14 : Nat) : Int))) (some (.int .u8 (((14 : Nat) : Int) + 1))) none).run Tryd.prog w = .ok (.string ⟨#[dig 14]⟩) w := by kernel_rfl
theorem idx16_15 (w : World) : (Instr.index 9 (.string { data := #[48, 49, 50, 51, 52, 53, 54, 55, 56, 57, 97, 98, 99, 100, 101, 102] }) (.int .u8 ((15 : Nat) : Int))).run Tryd.prog w = .ok (.int .u8 (ub (dig 15))) w := by kernel_rfl
theorem slice16_15 (w : World) : (Instr.slice 9 (.string { data := #[48, 49, 50, 51, 52, 53, 54, 55, 56, 57, 97, 98, 99, 100, 101, 102] }) (some (.int .u8 ((15 : Nat) : Int))) (some (.int .u8 (((15 : Nat) : Int) + 1))) none).run Tryd.prog w = .ok (.string ⟨#[dig 15]⟩) w := by kernel_rfl
theorem idx16 (i : Nat) (h : i < 16) (w : World) : (Instr.index 9 (.string { data := #[48, 49, 50, 51, 52, 53, 54, 55, 56, 57, 97, 98, 99, 100, 101, 102] }) (.int .u8 (i : Int))).run Tryd.prog w = .ok (.int .u8 (ub (dig i))) w := by
  have : i = 0 ∨ i = 1 ∨ i = 2 ∨ i = 3 ∨ i = 4 ∨ i = 5 ∨ i = 6 ∨ i = 7 ∨ i = 8 ∨ i = 9 ∨ i = 10 ∨ i = 11 ∨ i = 12 ∨ i = 13 ∨ i = 14 ∨ i = 15 := by omega
  rcases this with rfl | rfl | rfl | rfl | rfl | rfl | rfl | rfl | rfl | rfl | rfl | rfl | rfl | rfl | rfl | rfl
  · exact idx16_0 w
  · exact idx16_1 w
  · exact idx16_2 w
  · exact idx16_3 w
  · exact idx16_4 w
  · exact idx16_5 w
  · exact idx16_6 w
  · exact idx16_7 w
  · exact idx16_8 w
  · exact idx16_9 w
  · exact idx16_10 w
  · exact idx16_11 w
  · exact idx16_12 w
  · exact idx16_13 w
  · exact idx16_14 w
  · exact idx16_15 w
theorem slice16 (i : Nat) (h : i < 16) (w : World) : (Instr.slice 9 (.string { data := #[48, 49, 50, 51, 52, 53, 54, 55, 56, 57, 97, 98, 99, 100, 101, 102] }) (some (.int .u8 (i : Int))) (some (.int .u8 ((i : Int) + 1))) none).run Tryd.prog w = .ok (.string ⟨#[dig i]⟩) w := by
  have : i = 0 ∨ i = 1 ∨ i = 2 ∨ i = 3 ∨ i = 4 ∨ i = 5 ∨ i = 6 ∨ i = 7 ∨ i = 8 ∨ i = 9 ∨ i = 10 ∨ i = 11 ∨ i = 12 ∨ i = 13 ∨ i = 14 ∨ i = 15 := by omega
  rcases this with rfl | rfl | rfl | rfl | rfl | rfl | rfl | rfl | rfl | rfl | rfl | rfl | rfl | rfl | rfl | rfl
  · exact slice16_0 w
  · exact slice16_1 w
  · exact slice16_2 w
  · exact slice16_3 w
  · exact slice16_4 w
  · exact slice16_5 w
  · exact slice16_6 w
  · exact slice16_7 w
  · exact slice16_8 w
  · exact slice16_9 w
  · exact slice16_10 w
  · exact slice16_11 w
  · exact slice16_12 w
  · exact slice16_13 w
  · exact slice16_14 w
  · exact slice16_15 w
theorem u8_up (i : Nat) (h : i < 16) : IntKind.u8.wrap ((i : Int) + 1) = (i : Int) + 1 := by rw [IntKind.wrap_u8']; omega

theorem cat2 (a : List UInt8) (x y : UInt8) : (({ data := a.toArray } : ByteArray) ++ (({ data := #[x] } : ByteArray) ++ ({ data := #[y] } : ByteArray))) = ⟨(a ++ [x, y]).toArray⟩ := by
  apply ByteArray.ext
  simp [ByteArray.data_append]
theorem hi_eq (b : UInt8) : ub b / 16 = ((b.toNat / 16 : Nat) : Int) := by unfold ub; omega
theorem lo_eq (b : UInt8) : bits .and .u8 (ub b) 15 = ((b.toNat % 16 : Nat) : Int) := by
  unfold ub
  rw [show (15 : Int) = ((15 : Nat) : Int) from rfl, u8_and_nat _ _ b.toNat_lt (by omega)]
  have : b.toNat &&& 15 = b.toNat % 16 := Nat.and_two_pow_sub_one_eq_mod b.toNat 4
  rw [this]

set_option maxRecDepth 100000 in
set_option maxHeartbeats 1000000 in
theorem same3_any (a1 a2 : Option Addr) (n1 c1 n2 c2 : Nat) (xs ys : List UInt8) (w : World) (h1 : Bs w a1 n1 c1 xs) (h2 : Bs w a2 n2 c2 ys) :
    Calls Tryd.prog 25 #[.slice a1 n1 c1, .slice a2 n2 c2] w fun e w' => e = .returned (.bool (decide (xs = ys))) ∧ Below w.heap.size w w' := by
  have hx := h1.blen
  have hy := h2.blen
  by_cases hne : n1 = n2
  · subst hne
    have hn : n1 ≤ 9223372036854775807 := by have := h1.cap; have := h1.big; unfold maxLen at this; omega
    have H1 := Lib.hid h1
    have H2 := Lib.hid h2
    have HX := Lib.hid hx
    have HY := Lib.hid hy
    clear h1 h2 hx hy
    have hnn : ((n1 : Int) != (n1 : Int)) = false := by simp
    go_enter Tryd.func25, Tryd.ntmps25
    go_wp2
    go_loopw [13] (fun i wr => ∃ k : Nat, k ≤ n1 ∧ i = .int .i64 k ∧ Hid (xs.take k = ys.take k) ∧ ∃ q, wr = w.drewN q) (fun i _ => n1 - (intOf i).toNat)
    case atStart => exact ⟨0, Nat.zero_le _, rfl, rfl, 0, rfl⟩
    case round =>
      obtain ⟨k, hk, rfl, hp, q, rfl⟩ := hrel
      by_cases hlt : k < n1
      · obtain ⟨b1, o1, rfl, hc1⟩ := H1.out.bat hlt
        obtain ⟨b2, o2, rfl, hc2⟩ := H2.out.bat hlt
        have g1 := hc1 k (by rw [HX.out]; exact hlt)
        have g2 := hc2 k (by rw [HY.out]; exact hlt)
        have i0 : (0 : Int) ≤ (k : Int) := by omega
        have i1 : (k : Int) < (n1 : Int) := by omega
        have HT1 := Lib.hid (List.take_succ_eq_append_getElem (l := xs) (i := k) (by rw [HX.out]; exact hlt))
        have HT2 := Lib.hid (List.take_succ_eq_append_getElem (l := ys) (i := k) (by rw [HY.out]; exact hlt))
        clear hc1 hc2
        by_cases he : xs[k]'(by rw [HX.out]; exact hlt) = ys[k]'(by rw [HY.out]; exact hlt)
        · have hb : (ub (xs[k]'(by rw [HX.out]; exact hlt)) != ub (ys[k]'(by rw [HY.out]; exact hlt))) = false := by rw [ub_bne, he]; simp
          have HE := Lib.hid he
          clear he
          go_wp2
          go_quiet (fail)
          go_wp2
          have HP2 : Hid (xs.take (k + 1) = ys.take (k + 1)) := by show _ = _; rw [HT1.out, HT2.out, hp.out, HE.out]
          refine ⟨⟨k + 1, by omega, by go_num, HP2, q + nq, by first | rfl | rw [World.drewN_drewN]⟩, by simp [intOf]; omega⟩
        · have hb : (ub (xs[k]'(by rw [HX.out]; exact hlt)) != ub (ys[k]'(by rw [HY.out]; exact hlt))) = true := by rw [ub_bne]; simpa using he
          have hdec : Hid (decide (xs = ys) = false) := by
            show _ = _
            rw [decide_eq_false_iff_not]
            rintro rfl
            exact he rfl
          clear he
          go_wp2
          go_quiet (fail)
          go_wp2
          go_ret
          refine ⟨by rw [hdec.out]; rfl, ?_⟩
          rw [World.drewN_drewN]
          exact drewN_below w _
      · obtain rfl : n1 = k := by omega
        have hdec : Hid (decide (xs = ys) = true) := by
          show _ = _
          rw [decide_eq_true_iff]
          have := hp.out
          rwa [List.take_of_length_le (by rw [HX.out]; omega), List.take_of_length_le (by rw [HY.out]; omega)] at this
        go_wp2
        go_ret
        exact ⟨by rw [hdec.out]; rfl, drewN_below w _⟩
  · have hb : ((n1 : Int) != (n2 : Int)) = true := by rw [bne_iff_ne]; omega
    have hdec : Hid (decide (xs = ys) = false) := by
      show _ = _
      rw [decide_eq_false_iff_not]
      rintro rfl
      exact hne (hx.symm.trans hy)
    clear h1 h2 hx hy hne
    go_enter Tryd.func25, Tryd.ntmps25
    go_wp2
    go_ret
    exact ⟨by rw [hdec.out]; rfl, Below.refl _ _⟩

set_option maxRecDepth 100000 in
set_option maxHeartbeats 1000000 in
theorem rhex_any (a : Option Addr) (n c : Nat) (l : List UInt8) (w : World) (h : Bs w a n c l) (hn : n ≤ 1048576) :
    Calls Tryd.prog 27 #[.slice a n c] w fun e w' => e = .returned (.string ⟨(hexOf l).toArray⟩) ∧ Below w.heap.size w w' := by
  have HL := Lib.hid h.blen
  have H := Lib.hid h
  clear h
  go_enter Tryd.func27, Tryd.ntmps27
  go_wp2
  go_loopw [4, 9] (fun s i wr => ∃ k : Nat, k ≤ n ∧ i = .int .i64 k ∧ s = .string ⟨(hexOf (l.take k)).toArray⟩ ∧ ∃ q, wr = w.drewN q) (fun _ i _ => n - (intOf i).toNat)
  case atStart => exact ⟨0, Nat.zero_le _, rfl, rfl, 0, rfl⟩
  case round =>
    obtain ⟨k, hk, rfl, rfl, q, rfl⟩ := hrel
    by_cases hlt : k < n
    · obtain ⟨b1, o1, rfl, hc1⟩ := H.out.bat hlt
      have g1 := hc1 k (by rw [HL.out]; exact hlt)
      have i0 : (0 : Int) ≤ (k : Int) := by omega
      have i1 : (k : Int) < (n : Int) := by omega
      have HT := Lib.hid (hexOf_take l k (by rw [HL.out]; exact hlt))
      have hsz : (hexOf (l.take k)).length ≤ 2097152 := by rw [hexOf_length, List.length_take]; omega
      have hsz2 : (hexOf (l.take k)).length + 2 ≤ 9223372036854775807 := by omega
      clear hc1
      generalize l[k]'(by rw [HL.out]; exact hlt) = b at g1 HT
      have HX : Hid (hex2 b = [dig (b.toNat / 16), dig (b.toNat % 16)]) := rfl
      have e1 := hi_eq b
      have e2 := lo_eq b
      have h16 : b.toNat / 16 < 16 := by have := b.toNat_lt; omega
      have h15 : b.toNat % 16 < 16 := by omega
      have w1 := u8_up (b.toNat / 16) h16
      have w2 := u8_up (b.toNat % 16) h15
      have s1 := fun wq => slice16 (b.toNat / 16) h16 wq
      have s2 := fun wq => slice16 (b.toNat % 16) h15 wq
      generalize b.toNat / 16 = x at *
      generalize b.toNat % 16 = y at *
      go_wp2
      go_quiet (fail)
      go_wp2
      have HF : Hid (Value.string (({ data := (hexOf (l.take k)).toArray } : ByteArray) ++ (({ data := #[dig x] } : ByteArray) ++ ({ data := #[dig y] } : ByteArray))) = .string ⟨(hexOf (l.take (k + 1))).toArray⟩) := by
        show _ = _
        rw [HT.out, HX.out, cat2]
      refine ⟨⟨k + 1, by omega, by go_num, HF.out, q + nq, by first | rfl | rw [World.drewN_drewN]⟩, by simp [intOf]; omega⟩
    · obtain rfl : n = k := by omega
      have HF : Hid (l.take n = l) := by show _ = _; exact List.take_of_length_le (by rw [HL.out]; omega)
      go_wp2
      go_ret
      exact ⟨by rw [HF.out]; rfl, drewN_below w _⟩
end Go.Proofs.YteceagldjnfeeaaDoor

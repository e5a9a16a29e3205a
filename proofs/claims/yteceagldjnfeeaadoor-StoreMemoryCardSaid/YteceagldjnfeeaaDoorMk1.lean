/- The walks of the package merkle, up to the row's hash: numbers, halves, leaves, order. -/
import Derived.Test.YteceagldjnfeeaaDoorSg
import Derived.Test.YteceagldjnfeeaaDoorCv
import Derived.Test.YteceagldjnfeeaaDoorShelf
import Derived.Test.YteceagldjnfeeaaDoorMkMath
namespace Go.Proofs.YteceagldjnfeeaaDoor
open Go.RowKit
set_option linter.unusedVariables false
set_option linter.unusedSimpArgs false

/-- A text by its bytes. -/
abbrev str (l : List UInt8) : Value := .string ⟨l.toArray⟩
theorem below_cell {w w' : World} (hb : Below w.heap.size w w') {b o : Nat} {v : Value} (h : w.cell? ⟨b, o, none⟩ = some v) : w'.cell? ⟨b, o, none⟩ = some v :=
  (hb.cell (p := ⟨b, o, none⟩) (World.block_lt_of_cell? w _ h)).trans h

/-- A slice of pairs, as it reads. -/
structure Prs (w : World) (C : Nat) (a : Option Addr) (n c : Nat) (ps : List KV) : Prop where
  len : ps.length = n
  cap : n ≤ c
  big : c ≤ maxLen
  cells : ∀ j, j < n → ∃ b o va, a = some ⟨b, o, none⟩ ∧ w.cell? ⟨b, o + j * 2, none⟩ = some (str (keyAt ps j)) ∧ w.cell? ⟨b, o + j * 2 + 1, none⟩ = some va ∧ Pt w C va (valAt ps j)
theorem Prs.below {w w1 : World} {C : Nat} {a : Option Addr} {n c : Nat} {ps : List KV} (h : Prs w C a n c ps) (hb : Below w.heap.size w w1) : Prs w1 C a n c ps :=
  ⟨h.len, h.cap, h.big, fun j hj => by
    obtain ⟨b, o, va, e, h1, h2, h3⟩ := h.cells j hj
    exact ⟨b, o, va, e, below_cell hb h1, below_cell hb h2, h3.below hb⟩⟩
theorem Prs.mono {w : World} {C C' : Nat} {a : Option Addr} {n c : Nat} {ps : List KV} (h : Prs w C a n c ps) (hC : C ≤ C') : Prs w C' a n c ps :=
  ⟨h.len, h.cap, h.big, fun j hj => by
    obtain ⟨b, o, va, e, h1, h2, h3⟩ := h.cells j hj
    exact ⟨b, o, va, e, h1, h2, h3.mono hC⟩⟩
theorem Prs.nil (w : World) (C : Nat) : Prs w C none 0 0 [] := ⟨rfl, Nat.le_refl _, Nat.zero_le _, fun j hj => by omega⟩

/-! ### []byte(s) -/
theorem bytesWorld_below (w : World) (s : ByteArray) : Below w.heap.size w (Lib.bytesWorld w 5 s) :=
  ⟨rfl, rfl, rfl, by rw [Lib.bytesWorld_size]; omega, fun i hi => Lib.bytesWorld_at_old w 5 s i hi⟩
theorem bytesWorld_sl (w : World) (l : List UInt8) (h : l.length ≤ maxLen) : Bs (Lib.bytesWorld w 5 ⟨l.toArray⟩) (some ⟨w.heap.size, 0, none⟩) l.length (grownCap w l.length 0 5) l := by
  refine ⟨bts_length l, grownCap_ge _ _ _ _, grownCap_le_maxLen _ _ _ _ h, fun j u hj => ⟨w.heap.size, 0, rfl, ?_⟩⟩
  have hl : j < l.length := by
    have := (List.getElem?_eq_some_iff.1 hj).1
    rwa [bts_length] at this
  have := Lib.bytesWorld_cell w 5 ⟨l.toArray⟩ j hl
  rw [Nat.zero_add, this, ← hj, bts_get l j hl]
  show some (Value.int .u8 (((l.toArray.toList.getD j 0).toNat : Nat) : Int)) = _
  rw [List.getD_eq_getElem?_getD, List.getElem?_eq_getElem (by simpa using hl)]
  rfl
theorem bytesWorld_pt (w : World) (D : Nat) (l : List UInt8) (h : l.length ≤ maxLen) : Pt (Lib.bytesWorld w 5 ⟨l.toArray⟩) D (.slice (some ⟨w.heap.size, 0, none⟩) l.length (grownCap w l.length 0 5)) l := by
  refine ⟨_, _, _, rfl, bytesWorld_sl w l h, .inr ?_⟩
  rintro ad e
  cases e
  exact .inr ⟨_, _, Lib.bytesWorld_at_new w 5 ⟨l.toArray⟩⟩

/-! ### Numbers -/
set_option maxRecDepth 100000 in
set_option maxHeartbeats 1000000 in
theorem mnumber_any (B x : Nat) (w : World) (hx : x < 9223372036854775808) :
    Calls Tryd.prog 118 #[.int .i64 x] w (RetP B (be8 x) w) := by
  have q : IntKind.u64.wrap (x : Int) = x := IntWalk.u64_in _ (by omega)
  go_enter Tryd.func118, Tryd.ntmps118
  go_wp2_with (fail)
  refine (wireN_any x w).mono ?_
  rintro e w1 h1
  obtain ⟨a1, n1, c1, rfl, hb, hp⟩ := h1.toP (B := B)
  have HB := Lib.hid hb
  have HP := Lib.hid hp
  go_wp2_with (fail)
  go_ret
  exact ⟨_, _, _, rfl, HB.out, HP.out⟩
set_option maxRecDepth 100000 in
set_option maxHeartbeats 1000000 in
theorem rmnumber_any (B x : Nat) (w : World) (hx : x < 9223372036854775808) :
    Calls Tryd.prog 91 #[.int .i64 x] w (RetP B (be8 x) w) := by
  have q : IntKind.u64.wrap (x : Int) = x := IntWalk.u64_in _ (by omega)
  go_enter Tryd.func91, Tryd.ntmps91
  go_wp2_with (fail)
  refine (ref2N_any x w (by omega)).mono ?_
  rintro e w1 h1
  obtain ⟨a1, n1, c1, rfl, hb, hp⟩ := h1.toP (B := B)
  have HB := Lib.hid hb
  have HP := Lib.hid hp
  go_wp2_with (fail)
  go_ret
  exact ⟨_, _, _, rfl, HB.out, HP.out⟩

/-! ### Keys -/
set_option maxRecDepth 100000 in
theorem good_any (k : List UInt8) (w : World) : Calls Tryd.prog 94 #[str k] w fun e w' => e = .returned (.bool (goodK k)) ∧ w = w' := by
  have hg : Hid (goodK k = (!k.isEmpty && decide ((k.length : Int) ≤ 200))) := by
    show _ = _
    unfold goodK
    congr 1
    · cases k <;> rfl
    · congr 1; rw [eq_iff_iff]; omega
  by_cases h : k = []
  · subst h
    go_enter Tryd.func94, Tryd.ntmps94
    go_wp2_with (fail)
    go_ret
    exact ⟨rfl, rfl⟩
  · have hne : ¬ k = [] := h
    clear h
    go_enter Tryd.func94, Tryd.ntmps94
    go_wp2_with (fail)
    go_ret
    exact ⟨by rw [hg.out]; rfl, rfl⟩

/-! ### Halves -/
theorem bitLen_log (x : Nat) (h : x ≠ 0) (hx : x < 2 ^ 64) : Lib.bitLen x = Nat.log2 x + 1 := by
  induction x using Nat.strongRecOn with
  | _ x ih =>
    rw [Lib.bitLen_half x h hx]
    by_cases h2 : 2 ≤ x
    · rw [ih (x / 2) (by omega) (by omega) (by omega)]
      have := Nat.log2_def x
      rw [if_pos h2] at this
      omega
    · obtain rfl : x = 1 := by omega
      decide
set_option maxRecDepth 100000 in
set_option maxHeartbeats 1000000 in
theorem half_any (n : Nat) (w : World) (h2 : 2 ≤ n) (hn : n ≤ 65536) : Calls Tryd.prog 119 #[.int .i64 n] w fun e w' => e = .returned (.int .i64 (half n : Int)) ∧ w = w' := by
  have i1 : (2 : Int) ≤ (n : Int) := by omega
  have i2 : (n : Int) ≤ 65536 := by omega
  have q : IntKind.u64.wrap ((n : Int) - 1) = (n : Int) - 1 := IntWalk.u64_in _ (by omega)
  have t : ((n : Int) - 1).toNat = n - 1 := by omega
  have hb := bitLen_log (n - 1) (by omega) (by omega)
  have hlog : Nat.log2 (n - 1) ≤ 16 := by
    have h1 : 2 ^ Nat.log2 (n - 1) ≤ n - 1 := Nat.log2_self_le (by omega)
    have h3 : 2 ^ Nat.log2 (n - 1) < 2 ^ 17 := by omega
    have := (Nat.pow_lt_pow_iff_right (show 1 < 2 by omega)).1 h3
    omega
  have hh : half n = 2 ^ Nat.log2 (n - 1) := rfl
  have hlt := half_lt n h2
  have HB := Lib.hid hb
  have HH := Lib.hid hh
  clear hb hh
  go_enter Tryd.func119, Tryd.ntmps119
  go_wp2_with (fail)
  refine (Tryd.bits_Len ((n : Int) - 1) w (by omega) (by omega)).mono ?_
  rintro e w' ⟨rfl, hw⟩
  subst hw
  rw [t, HB.out]
  generalize Nat.log2 (n - 1) = L at hlog HH
  clear t q HB
  go_wp2_with (fail)
  go_ret
  refine ⟨?_, rfl⟩
  rw [HH.out]
  have h16 : 2 ^ L ≤ 2 ^ 16 := Nat.pow_le_pow_right (by omega) hlog
  have hp : (2 : Int) ^ L = ((2 ^ L : Nat) : Int) := by simp
  show Ending.returned (.int .i64 (wrap64 (2 ^ L))) = .returned (.int .i64 ((2 ^ L : Nat) : Int))
  rw [hp]
  generalize 2 ^ L = z at h16
  have : wrap64 (z : Int) = z := by unfold wrap64; omega
  rw [this]
end Go.Proofs.YteceagldjnfeeaaDoor

/- How numbers of 32 bits stand in a walk; contracts of math/bits.RotateLeft32 and of the reference's rotation. -/
import Derived.Test.YteceagldjnfeeaaDoorProg
import Derived.Test.YteceagldjnfeeaaDoorShaMath
namespace Go.Proofs.YteceagldjnfeeaaDoor
open Go.RowKit
set_option linter.unusedVariables false
set_option linter.unusedSimpArgs false

theorem q_or (a b : U32) : bits .or .u32 (uw a) (uw b) = uw (a ||| b) := by
  unfold uw; rw [u32_or_nat _ _ a.isLt b.isLt, BitVec.toNat_or]
theorem q_xor (a b : U32) : bits .xor .u32 (uw a) (uw b) = uw (a ^^^ b) := by
  unfold uw; rw [u32_xor_nat _ _ a.isLt b.isLt, BitVec.toNat_xor]
theorem q_and (a b : U32) : bits .and .u32 (uw a) (uw b) = uw (a &&& b) := by
  have h := u32_and (uw a) (uw b) (uw_nonneg a) (uw_lt a) (uw_nonneg b) (uw_lt b)
  rw [h]; unfold uw; rw [Int.toNat_natCast, Int.toNat_natCast, BitVec.toNat_and]
theorem q_add (a b : U32) : (uw a + uw b) % 4294967296 = uw (a + b) := by
  unfold uw; rw [BitVec.toNat_add]; simp
theorem q_add3 (a b c : U32) : (uw a + uw b + uw c) % 4294967296 = uw (a + b + c) := by
  rw [← q_add (a + b) c, ← q_add a b]; simp
theorem q_add4 (a b c d : U32) : (uw a + uw b + uw c + uw d) % 4294967296 = uw (a + b + c + d) := by
  rw [← q_add (a + b + c) d, ← q_add3 a b c]; simp
theorem q_add5 (a b c d e : U32) : (uw a + uw b + uw c + uw d + uw e) % 4294967296 = uw (a + b + c + d + e) := by
  rw [← q_add (a + b + c + d) e, ← q_add4 a b c d]; simp
theorem q_add14 (z a b c d : U32) : (uw z + (uw a + uw b + uw c + uw d)) % 4294967296 = uw (z + (a + b + c + d)) := by
  rw [← q_add z (a + b + c + d), ← q_add4 a b c d]; simp
theorem q_wadd (a b : U32) : IntKind.u32.wrap (uw a + uw b) = uw (a + b) := by rw [IntKind.wrap_u32']; exact q_add a b
theorem q_shl (a : U32) (k : Nat) (p : Int) (hp : p = 2 ^ k) : uw a * p % 4294967296 = uw (a <<< k) := by
  subst hp
  unfold uw; rw [BitVec.toNat_shiftLeft, Nat.shiftLeft_eq]; simp
theorem q_shr (a : U32) (k : Nat) (p : Int) (hp : p = 2 ^ k) : uw a / p = uw (a >>> k) := by
  subst hp
  unfold uw; rw [BitVec.toNat_ushiftRight, Nat.shiftRight_eq_div_pow]; simp
theorem q_not (a : U32) : 4294967295 - uw a = uw (~~~a) := by
  unfold uw; rw [BitVec.toNat_not]; have := a.isLt; omega
theorem q_wnot (a : U32) : IntKind.u32.wrap (-1 - uw a) = uw (~~~a) := by
  rw [IntKind.wrap_u32']; unfold uw; rw [BitVec.toNat_not]; have := a.isLt; omega
theorem q_cpl (a : U32) : bits .xor .u32 IntKind.u32.max (uw a) = uw (~~~a) := by
  have e : IntKind.u32.max = uw 4294967295#32 := by decide
  rw [e, q_xor]
  congr 1
theorem q_cpl' (a : U32) : bits .xor .u32 4294967295 (uw a) = uw (~~~a) := q_cpl a
theorem q_of_byte (b : UInt8) : ub b = uw (b32 b) := by
  unfold ub uw b32; rw [BitVec.toNat_ofNat, Nat.mod_eq_of_lt]; have := b.toNat_lt; omega
theorem q_byte (b : UInt8) : ub b % 4294967296 = uw (b32 b) := by
  rw [q_of_byte]; unfold uw; have := (b32 b).isLt; omega
theorem q_wbyte (b : UInt8) : IntKind.u32.wrap (ub b) = uw (b32 b) := by rw [IntKind.wrap_u32', q_byte]
theorem q_wshl24 (a : U32) : IntKind.u32.wrap (uw a * 16777216) = uw (a <<< 24) := by rw [IntKind.wrap_u32']; exact q_shl a 24 _ (by decide)
theorem q_wshl16 (a : U32) : IntKind.u32.wrap (uw a * 65536) = uw (a <<< 16) := by rw [IntKind.wrap_u32']; exact q_shl a 16 _ (by decide)
theorem q_wshl8 (a : U32) : IntKind.u32.wrap (uw a * 256) = uw (a <<< 8) := by rw [IntKind.wrap_u32']; exact q_shl a 8 _ (by decide)
theorem q_shl24 (a : U32) : uw a * 16777216 % 4294967296 = uw (a <<< 24) := q_shl a 24 _ (by decide)
theorem q_shl16 (a : U32) : uw a * 65536 % 4294967296 = uw (a <<< 16) := q_shl a 16 _ (by decide)
theorem q_shl8 (a : U32) : uw a * 256 % 4294967296 = uw (a <<< 8) := q_shl a 8 _ (by decide)
theorem q_shr3 (a : U32) : uw a / (8 : Int) = uw (a >>> 3) := q_shr a 3 _ (by decide)
theorem q_shr10 (a : U32) : uw a / (1024 : Int) = uw (a >>> 10) := q_shr a 10 _ (by decide)
theorem q_lit (n : Nat) (h : n < 4294967296) : uw (BitVec.ofNat 32 n) = (n : Int) := by
  unfold uw; rw [BitVec.toNat_ofNat, Nat.mod_eq_of_lt h]

set_option maxRecDepth 100000 in
set_option maxHeartbeats 400000 in
theorem turn_any (x : U32) (n : Nat) (w : World) (hn : n ≤ 31) :
    Calls Tryd.prog 105 #[.int .u32 (uw x), .int .u64 n] w fun e w' => e = .returned (.int .u32 (uw (rotr x n))) ∧ w = w' := by
  have h0 := uw_nonneg x
  have h1 := uw_lt x
  have e : bits .or .u32 (uw x / 2 ^ n) (uw x * 2 ^ (32 - n) % 4294967296) = uw (rotr x n) := by
    rw [q_shl x (32 - n) _ rfl, q_shr x n _ rfl, q_or]; rfl
  have E := Lib.hid e
  clear e
  have hi : (n : Int) ≤ 31 := by omega
  go_enter Tryd.func105, Tryd.ntmps105
  go_wp2
  go_ret
  exact ⟨congrArg (fun z => Ending.returned (.int .u32 z)) E.out, rfl⟩

set_option maxRecDepth 100000 in
set_option maxHeartbeats 400000 in
theorem rotl_2 (x : U32) (w : World) :
    Calls Tryd.prog 104 #[.int .u32 (uw x), .int .i64 (-2)] w fun e w' => e = .returned (.int .u32 (uw (rotr x 2))) ∧ w = w' := by
  have h0 := uw_nonneg x
  have h1 := uw_lt x
  have hk : bits .and .u64 (IntKind.u64.wrap (-2)) 31 = 30 := by decide +kernel
  have e : bits .or .u32 (uw x * 1073741824 % 4294967296) (uw x / 4) = uw (rotr x 2) := by
    rw [q_shl x 30 _ (by decide), q_shr x 2 _ (by decide), q_or, rotr, BitVec.or_comm]
  have E := Lib.hid e
  clear e
  go_enter Tryd.func104, Tryd.ntmps104
  go_wp2
  go_ret
  exact ⟨congrArg (fun z => Ending.returned (.int .u32 z)) E.out, rfl⟩
set_option maxRecDepth 100000 in
set_option maxHeartbeats 400000 in
theorem rotl_6 (x : U32) (w : World) :
    Calls Tryd.prog 104 #[.int .u32 (uw x), .int .i64 (-6)] w fun e w' => e = .returned (.int .u32 (uw (rotr x 6))) ∧ w = w' := by
  have h0 := uw_nonneg x
  have h1 := uw_lt x
  have hk : bits .and .u64 (IntKind.u64.wrap (-6)) 31 = 26 := by decide +kernel
  have e : bits .or .u32 (uw x * 67108864 % 4294967296) (uw x / 64) = uw (rotr x 6) := by
    rw [q_shl x 26 _ (by decide), q_shr x 6 _ (by decide), q_or, rotr, BitVec.or_comm]
  have E := Lib.hid e
  clear e
  go_enter Tryd.func104, Tryd.ntmps104
  go_wp2
  go_ret
  exact ⟨congrArg (fun z => Ending.returned (.int .u32 z)) E.out, rfl⟩
set_option maxRecDepth 100000 in
set_option maxHeartbeats 400000 in
theorem rotl_7 (x : U32) (w : World) :
    Calls Tryd.prog 104 #[.int .u32 (uw x), .int .i64 (-7)] w fun e w' => e = .returned (.int .u32 (uw (rotr x 7))) ∧ w = w' := by
  have h0 := uw_nonneg x
  have h1 := uw_lt x
  have hk : bits .and .u64 (IntKind.u64.wrap (-7)) 31 = 25 := by decide +kernel
  have e : bits .or .u32 (uw x * 33554432 % 4294967296) (uw x / 128) = uw (rotr x 7) := by
    rw [q_shl x 25 _ (by decide), q_shr x 7 _ (by decide), q_or, rotr, BitVec.or_comm]
  have E := Lib.hid e
  clear e
  go_enter Tryd.func104, Tryd.ntmps104
  go_wp2
  go_ret
  exact ⟨congrArg (fun z => Ending.returned (.int .u32 z)) E.out, rfl⟩
set_option maxRecDepth 100000 in
set_option maxHeartbeats 400000 in
theorem rotl_11 (x : U32) (w : World) :
    Calls Tryd.prog 104 #[.int .u32 (uw x), .int .i64 (-11)] w fun e w' => e = .returned (.int .u32 (uw (rotr x 11))) ∧ w = w' := by
  have h0 := uw_nonneg x
  have h1 := uw_lt x
  have hk : bits .and .u64 (IntKind.u64.wrap (-11)) 31 = 21 := by decide +kernel
  have e : bits .or .u32 (uw x * 2097152 % 4294967296) (uw x / 2048) = uw (rotr x 11) := by
    rw [q_shl x 21 _ (by decide), q_shr x 11 _ (by decide), q_or, rotr, BitVec.or_comm]
  have E := Lib.hid e
  clear e
  go_enter Tryd.func104, Tryd.ntmps104
  go_wp2
  go_ret
  exact ⟨congrArg (fun z => Ending.returned (.int .u32 z)) E.out, rfl⟩
set_option maxRecDepth 100000 in
set_option maxHeartbeats 400000 in
theorem rotl_13 (x : U32) (w : World) :
    Calls Tryd.prog 104 #[.int .u32 (uw x), .int .i64 (-13)] w fun e w' => e = .returned (.int .u32 (uw (rotr x 13))) ∧ w = w' := by
  have h0 := uw_nonneg x
  have h1 := uw_lt x
  have hk : bits .and .u64 (IntKind.u64.wrap (-13)) 31 = 19 := by decide +kernel
  have e : bits .or .u32 (uw x * 524288 % 4294967296) (uw x / 8192) = uw (rotr x 13) := by
    rw [q_shl x 19 _ (by decide), q_shr x 13 _ (by decide), q_or, rotr, BitVec.or_comm]
  have E := Lib.hid e
  clear e
  go_enter Tryd.func104, Tryd.ntmps104
  go_wp2
  go_ret
  exact ⟨congrArg (fun z => Ending.returned (.int .u32 z)) E.out, rfl⟩
set_option maxRecDepth 100000 in
set_option maxHeartbeats 400000 in
theorem rotl_17 (x : U32) (w : World) :
    Calls Tryd.prog 104 #[.int .u32 (uw x), .int .i64 (-17)] w fun e w' => e = .returned (.int .u32 (uw (rotr x 17))) ∧ w = w' := by
  have h0 := uw_nonneg x
  have h1 := uw_lt x
  have hk : bits .and .u64 (IntKind.u64.wrap (-17)) 31 = 15 := by decide +kernel
  have e : bits .or .u32 (uw x * 32768 % 4294967296) (uw x / 131072) = uw (rotr x 17) := by
    rw [q_shl x 15 _ (by decide), q_shr x 17 _ (by decide), q_or, rotr, BitVec.or_comm]
  have E := Lib.hid e
  clear e
  go_enter Tryd.func104, Tryd.ntmps104
  go_wp2
  go_ret
  exact ⟨congrArg (fun z => Ending.returned (.int .u32 z)) E.out, rfl⟩
set_option maxRecDepth 100000 in
set_option maxHeartbeats 400000 in
theorem rotl_18 (x : U32) (w : World) :
    Calls Tryd.prog 104 #[.int .u32 (uw x), .int .i64 (-18)] w fun e w' => e = .returned (.int .u32 (uw (rotr x 18))) ∧ w = w' := by
  have h0 := uw_nonneg x
  have h1 := uw_lt x
  have hk : bits .and .u64 (IntKind.u64.wrap (-18)) 31 = 14 := by decide +kernel
  have e : bits .or .u32 (uw x * 16384 % 4294967296) (uw x / 262144) = uw (rotr x 18) := by
    rw [q_shl x 14 _ (by decide), q_shr x 18 _ (by decide), q_or, rotr, BitVec.or_comm]
  have E := Lib.hid e
  clear e
  go_enter Tryd.func104, Tryd.ntmps104
  go_wp2
  go_ret
  exact ⟨congrArg (fun z => Ending.returned (.int .u32 z)) E.out, rfl⟩
set_option maxRecDepth 100000 in
set_option maxHeartbeats 400000 in
theorem rotl_19 (x : U32) (w : World) :
    Calls Tryd.prog 104 #[.int .u32 (uw x), .int .i64 (-19)] w fun e w' => e = .returned (.int .u32 (uw (rotr x 19))) ∧ w = w' := by
  have h0 := uw_nonneg x
  have h1 := uw_lt x
  have hk : bits .and .u64 (IntKind.u64.wrap (-19)) 31 = 13 := by decide +kernel
  have e : bits .or .u32 (uw x * 8192 % 4294967296) (uw x / 524288) = uw (rotr x 19) := by
    rw [q_shl x 13 _ (by decide), q_shr x 19 _ (by decide), q_or, rotr, BitVec.or_comm]
  have E := Lib.hid e
  clear e
  go_enter Tryd.func104, Tryd.ntmps104
  go_wp2
  go_ret
  exact ⟨congrArg (fun z => Ending.returned (.int .u32 z)) E.out, rfl⟩
set_option maxRecDepth 100000 in
set_option maxHeartbeats 400000 in
theorem rotl_22 (x : U32) (w : World) :
    Calls Tryd.prog 104 #[.int .u32 (uw x), .int .i64 (-22)] w fun e w' => e = .returned (.int .u32 (uw (rotr x 22))) ∧ w = w' := by
  have h0 := uw_nonneg x
  have h1 := uw_lt x
  have hk : bits .and .u64 (IntKind.u64.wrap (-22)) 31 = 10 := by decide +kernel
  have e : bits .or .u32 (uw x * 1024 % 4294967296) (uw x / 4194304) = uw (rotr x 22) := by
    rw [q_shl x 10 _ (by decide), q_shr x 22 _ (by decide), q_or, rotr, BitVec.or_comm]
  have E := Lib.hid e
  clear e
  go_enter Tryd.func104, Tryd.ntmps104
  go_wp2
  go_ret
  exact ⟨congrArg (fun z => Ending.returned (.int .u32 z)) E.out, rfl⟩
set_option maxRecDepth 100000 in
set_option maxHeartbeats 400000 in
theorem rotl_25 (x : U32) (w : World) :
    Calls Tryd.prog 104 #[.int .u32 (uw x), .int .i64 (-25)] w fun e w' => e = .returned (.int .u32 (uw (rotr x 25))) ∧ w = w' := by
  have h0 := uw_nonneg x
  have h1 := uw_lt x
  have hk : bits .and .u64 (IntKind.u64.wrap (-25)) 31 = 7 := by decide +kernel
  have e : bits .or .u32 (uw x * 128 % 4294967296) (uw x / 33554432) = uw (rotr x 25) := by
    rw [q_shl x 7 _ (by decide), q_shr x 25 _ (by decide), q_or, rotr, BitVec.or_comm]
  have E := Lib.hid e
  clear e
  go_enter Tryd.func104, Tryd.ntmps104
  go_wp2
  go_ret
  exact ⟨congrArg (fun z => Ending.returned (.int .u32 z)) E.out, rfl⟩

/-- All the rotations that the program asks for. -/
def RotK (k : Int) : Prop := k = -2 ∨ k = -6 ∨ k = -7 ∨ k = -11 ∨ k = -13 ∨ k = -17 ∨ k = -18 ∨ k = -19 ∨ k = -22 ∨ k = -25
theorem rotl_any (x : U32) (k : Int) (w : World) (h : RotK k) :
    Calls Tryd.prog 104 #[.int .u32 (uw x), .int .i64 k] w fun e w' => e = .returned (.int .u32 (uw (rotr x (-k).toNat))) ∧ w = w' := by
  rcases h with rfl | rfl | rfl | rfl | rfl | rfl | rfl | rfl | rfl | rfl
  · exact rotl_2 x w
  · exact rotl_6 x w
  · exact rotl_7 x w
  · exact rotl_11 x w
  · exact rotl_13 x w
  · exact rotl_17 x w
  · exact rotl_18 x w
  · exact rotl_19 x w
  · exact rotl_22 x w
  · exact rotl_25 x w
theorem rotl_q (x : U32) (k : Int) (w : World) (n : Nat) (h : RotK k) :
    Calls Tryd.prog 104 #[.int .u32 (uw x), .int .i64 k] (w.drewN n) fun e w'' => e = .returned (.int .u32 (uw (rotr x (-k).toNat))) ∧ ∃ m, w'' = w.drewN m :=
  Calls.quiet_of_same ((rotl_any x k _ h).mono fun _ _ ⟨a, b⟩ => ⟨a, b.symm⟩)
end Go.Proofs.YteceagldjnfeeaaDoor

/- The walk of isthmuslaw08.MerkleProves. -/
import Derived.Test.YteceagldjnfeeaaDoorMk12
import Derived.Test.YteceagldjnfeeaaDoorRprove
import Derived.Test.YteceagldjnfeeaaDoorSame
import Derived.Test.YteceagldjnfeeaaDoorOpen8
namespace Go.Proofs.YteceagldjnfeeaaDoor
open Go.RowKit
set_option linter.unusedVariables false
set_option linter.unusedSimpArgs false

set_option maxRecDepth 100000 in
set_option maxHeartbeats 16000000 in
theorem merkleProves_walk {C : Nat} (a : Option Addr) (n c : Nat) (ps : List KV) (key : List UInt8) (w : World) (hp : Prs w C a n c ps) (hC : C ≤ w.heap.size) (hK : KAt w) (hK1 : KAt1 w) :
    Calls Tryd.prog 16 #[.slice a n c, str key] w fun e w' => e = .returned (.bool true) ∧ Below w.heap.size w w' := by
  have HP := Lib.hid hp
  have HK := Lib.hid hK
  have HK1 := Lib.hid hK1
  have HC := Lib.hid hC
  clear hp hK hK1 hC
  go_enter Tryd.func16, Tryd.ntmps16
  go_wp2_with (fail)
  refine (mprove_any a n c ps key w HP.out HK.out).mono ?_
  rintro e w1 ⟨al, cl, rfl, hb1, hl1⟩
  have HPC : ∀ x : Int, (x == x) = true := fun x => beq_self_eq_true x
  have HN := Lib.hid HPC
  clear HPC
  have hrb := (row_below w1 (.cells #[.int .i64 (proveP ps key).n, .slice al (proveP ps key).leaves.length cl] 66)).out
  have HB2 := Lib.hid (below_then hb1 hb1.size hrb)
  have HL2 := Lib.hid (hl1.below hrb)
  have HR2 : Hid ((w1.alloc (.cells #[.int .i64 (proveP ps key).n, .slice al (proveP ps key).leaves.length cl] 66)).heap[w1.heap.size]? = some (.cells #[.int .i64 (proveP ps key).n, .slice al (proveP ps key).leaves.length cl] 66 (0, 0))) := heap_alloc_new w1 _
  clear hb1 hl1 hrb
  generalize hpp : proveP ps key = P at HL2 HR2 HB2 ⊢
  have HPP := Lib.hid hpp
  clear hpp
  go_wp2_with (fail)
  generalize w1.alloc (.cells #[.int .i64 P.n, .slice al P.leaves.length cl] 66) = w2 at HB2 HL2 HR2 ⊢
  generalize w1.heap.size = x at HR2 ⊢
  refine (rprove_any (C := C) a n c ps key w2 (HP.out.below HB2.out) (HK1.out.below HK1.out.pos HB2.out) (by have := HB2.out.size; have := HC.out; omega)).mono ?_
  rw [HPP.out]
  rintro e w3 ⟨bl, dl, rfl, hb3, hl3⟩
  have hrb := (row_below w3 (.cells #[.int .i64 P.n, .slice bl P.leaves.length dl] 66)).out
  have hb34 := below_then hb3 hb3.size hrb
  have HB4 := Lib.hid (below_then HB2.out HB2.out.size hb34)
  have HL4 := Lib.hid (hl3.below hrb)
  have HL24 := Lib.hid (HL2.out.below hb34)
  have HR4 : Hid ((w3.alloc (.cells #[.int .i64 P.n, .slice bl P.leaves.length dl] 66)).heap[w3.heap.size]? = some (.cells #[.int .i64 P.n, .slice bl P.leaves.length dl] 66 (0, 0))) := heap_alloc_new w3 _
  have HR24 := Lib.hid (later_blk HR2.out hb34)
  clear hb3 hl3 hrb hb34 HL2 HR2
  go_wp2_with (fail)
  generalize w3.alloc (.cells #[.int .i64 P.n, .slice bl P.leaves.length dl] 66) = w4 at HB4 HL4 HL24 HR4 HR24 ⊢
  generalize w3.heap.size = y at HR4 ⊢
  refine (fixed8_any w4 (HK.out.below HK.out.pos HB4.out)).mono ?_
  rintro e w5 ⟨rfl, hb5⟩
  have HB5 := Lib.hid (below_then HB4.out HB4.out.size hb5)
  have HL5 := Lib.hid (HL4.out.below hb5)
  have HL25 := Lib.hid (HL24.out.below hb5)
  have hx := later_blk HR24.out hb5
  have hy := later_blk HR4.out hb5
  have x0 : w5.cell? ⟨x, 0, none⟩ = some (.int .i64 P.n) := by rw [cell_of_row _ _ _ _ _ _ hx]; rfl
  have x1 : w5.cell? ⟨x, 1, none⟩ = some (.slice al P.leaves.length cl) := by rw [cell_of_row _ _ _ _ _ _ hx]; rfl
  have y0 : w5.cell? ⟨y, 0, none⟩ = some (.int .i64 P.n) := by rw [cell_of_row _ _ _ _ _ _ hy]; rfl
  have y1 : w5.cell? ⟨y, 1, none⟩ = some (.slice bl P.leaves.length dl) := by rw [cell_of_row _ _ _ _ _ _ hy]; rfl
  have kc := HN.out (proveC ps key)
  clear hb5 hx hy
  go_wp2_with (fail)
  clear x0 x1 y0 y1
  refine (sameProof_any al bl P.leaves.length cl dl P w5 HL25.out HL5.out).mono ?_
  rintro e w6 ⟨rfl, hb6⟩
  have HB6 := Lib.hid (below_then HB5.out HB5.out.size hb6)
  clear hb6
  go_wp2_with (fail)
  go_ret
  exact ⟨rfl, HB6.out⟩
theorem merkleProves_walk' {C : Nat} (a : Option Addr) (n c : Nat) (ps : List KV) (s : ByteArray) (w : World) (hp : Prs w C a n c ps) (hC : C ≤ w.heap.size) (hK : KAt w) (hK1 : KAt1 w) :
    Calls Tryd.prog 16 #[.slice a n c, .string s] w fun e w' => e = .returned (.bool true) ∧ Below w.heap.size w w' := by
  rw [← str_of s]
  exact merkleProves_walk a n c ps _ w hp hC hK hK1
end Go.Proofs.YteceagldjnfeeaaDoor

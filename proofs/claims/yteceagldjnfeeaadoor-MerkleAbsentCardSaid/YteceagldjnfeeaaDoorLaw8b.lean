/- The walks of isthmuslaw08.MerkleAbsent and MerkleTakes. -/
import Derived.Test.YteceagldjnfeeaaDoorMk12
import Derived.Test.YteceagldjnfeeaaDoorMk18
namespace Go.Proofs.YteceagldjnfeeaaDoor
open Go.RowKit
set_option linter.unusedVariables false
set_option linter.unusedSimpArgs false

set_option maxRecDepth 100000 in
set_option maxHeartbeats 32000000 in
theorem merkleAbsent_walk {D : Nat} (ar av al : Option Addr) (nr cr nv cv nl cl : Nat) (root key value : List UInt8) (n : Int) (ls : List LeafV) (w : World)
    (hr : Pt w D (.slice ar nr cr) root) (hv : Pt w D (.slice av nv cv) value) (hl : Lvs w D al nl cl ls) (hK : KAt w) (hK1 : KAt1 w) :
    Calls Tryd.prog 19 #[.agg #[.slice ar nr cr, str key, .slice av nv cv, .int .i64 n, .slice al nl cl]] w fun e w' => e = .returned (.bool true) ∧ Below w.heap.size w w' := by
  have HB0 := row_below w (.cells #[.slice ar nr cr, str key, .slice av nv cv, .int .i64 n, .slice al nl cl] 72)
  have g0 : (w.alloc (.cells #[.slice ar nr cr, str key, .slice av nv cv, .int .i64 n, .slice al nl cl] 72)).heap[w.heap.size]? = some (.cells #[.slice ar nr cr, str key, .slice av nv cv, .int .i64 n, .slice al nl cl] 72 (0, 0)) := heap_alloc_new w _
  have c0 : (w.alloc (.cells #[.slice ar nr cr, str key, .slice av nv cv, .int .i64 n, .slice al nl cl] 72)).cell? ⟨w.heap.size, 0, none⟩ = some (.slice ar nr cr) := by rw [cell_of_row _ _ _ _ _ _ g0]; rfl
  have c1 : (w.alloc (.cells #[.slice ar nr cr, str key, .slice av nv cv, .int .i64 n, .slice al nl cl] 72)).cell? ⟨w.heap.size, 1, none⟩ = some (str key) := by rw [cell_of_row _ _ _ _ _ _ g0]; rfl
  have c2 : (w.alloc (.cells #[.slice ar nr cr, str key, .slice av nv cv, .int .i64 n, .slice al nl cl] 72)).cell? ⟨w.heap.size, 2, none⟩ = some (.slice av nv cv) := by rw [cell_of_row _ _ _ _ _ _ g0]; rfl
  have c3 : (w.alloc (.cells #[.slice ar nr cr, str key, .slice av nv cv, .int .i64 n, .slice al nl cl] 72)).cell? ⟨w.heap.size, 3, none⟩ = some (.int .i64 n) := by rw [cell_of_row _ _ _ _ _ _ g0]; rfl
  have c4 : (w.alloc (.cells #[.slice ar nr cr, str key, .slice av nv cv, .int .i64 n, .slice al nl cl] 72)).cell? ⟨w.heap.size, 4, none⟩ = some (.slice al nl cl) := by rw [cell_of_row _ _ _ _ _ _ g0]; rfl
  have HR := Lib.hid (hr.below HB0.out)
  have HV := Lib.hid (hv.below HB0.out)
  have HL := Lib.hid (hl.below HB0.out)
  have HK := Lib.hid (hK.below hK.pos HB0.out)
  have HK1 := Lib.hid (hK1.below hK1.pos HB0.out)
  clear hr hv hl hK hK1 g0
  go_enter Tryd.func19, Tryd.ntmps19
  go_wp2_with (fail)
  generalize w.alloc (.cells #[.slice ar nr cr, str key, .slice av nv cv, .int .i64 n, .slice al nl cl] 72) = w0 at HB0 c0 c1 c2 c3 c4 HR HV HL HK HK1 ⊢
  have START : Hid (∀ W, Hid (Below w0.heap.size w0 W) → Hid (Below w0.heap.size w0 W) ∧ W.cell? ⟨w.heap.size, 0, none⟩ = some (.slice ar nr cr) ∧ W.cell? ⟨w.heap.size, 1, none⟩ = some (str key) ∧ W.cell? ⟨w.heap.size, 2, none⟩ = some (.slice av nv cv) ∧ W.cell? ⟨w.heap.size, 3, none⟩ = some (.int .i64 n) ∧ W.cell? ⟨w.heap.size, 4, none⟩ = some (.slice al nl cl)) := fun W hW =>
    ⟨hW, below_cell hW.out c0, below_cell hW.out c1, below_cell hW.out c2, below_cell hW.out c3, below_cell hW.out c4⟩
  have C52 : Hid (∀ W, Hid (Below w0.heap.size w0 W) → Calls Tryd.prog 52 #[] W (fun e w' => e = .returned (.bool true) ∧ Hid (Below w0.heap.size w0 w'))) := fun W hW =>
    (fixed8_any W (HK.out.below HK.out.pos hW.out)).mono fun e w' ⟨h1, h2⟩ => ⟨h1, below_then hW.out hW.out.size h2⟩
  have C58 : Hid (∀ W, Hid (Below w0.heap.size w0 W) → Calls Tryd.prog 58 #[.slice ar nr cr, str key, .agg #[.int .i64 n, .slice al nl cl]] W (fun e w' => e = .returned (.bool (absentV root key ⟨n, ls⟩)) ∧ Hid (Below w0.heap.size w0 w'))) := fun W hW =>
    (absent_any ar al nr cr nl cl root key ⟨n, ls⟩ W (HR.out.below hW.out) (HL.out.below hW.out) (HK.out.below HK.out.pos hW.out)).mono fun e w' ⟨h1, h2⟩ => ⟨h1, below_then hW.out hW.out.size h2⟩
  have C59 : Hid (∀ W, Hid (Below w0.heap.size w0 W) → Calls Tryd.prog 59 #[.slice ar nr cr, str key, .agg #[.int .i64 n, .slice al nl cl]] W (fun e w' => e = .returned (.bool (absentV root key ⟨n, ls⟩)) ∧ Hid (Below w0.heap.size w0 w'))) := fun W hW =>
    (rabsent_any ar al nr cr nl cl root key ⟨n, ls⟩ W (HR.out.below hW.out) (HL.out.below hW.out) (HK1.out.below HK1.out.pos hW.out)).mono fun e w' ⟨h1, h2⟩ => ⟨h1, below_then hW.out hW.out.size h2⟩
  generalize absentV root key ⟨n, ls⟩ = ba at C58 C59
  have hstart : Hid (Below w0.heap.size w0 w0) := Below.refl _ _
  have hstartd : Hid (Below w0.heap.size w0 w0.drew) := (Below.refl _ _).drew
  go_region_held3 (fun W => Hid (Below w0.heap.size w0 W) ∧ W.cell? ⟨w.heap.size, 0, none⟩ = some (.slice ar nr cr) ∧ W.cell? ⟨w.heap.size, 1, none⟩ = some (str key) ∧ W.cell? ⟨w.heap.size, 2, none⟩ = some (.slice av nv cv) ∧ W.cell? ⟨w.heap.size, 3, none⟩ = some (.int .i64 n) ∧ W.cell? ⟨w.heap.size, 4, none⟩ = some (.slice al nl cl))
    (first
      | exact START.out _ (by first | assumption | exact hid_drew (by assumption) | exact hid_row (by assumption) _))
    (first
      | (go_at_call 52; refine (C52.out _ (by assumption)).mono ?_; rintro e w2 ⟨rfl, HB2⟩)
      | (go_at_call 58; refine (C58.out _ (by assumption)).mono ?_; rintro e w8 ⟨rfl, HB8⟩)
      | (go_at_call 59; refine (C59.out _ (by assumption)).mono ?_; rintro e w9 ⟨rfl, HB9⟩))
  all_goals (
    have HF : ∃ W, Hid (Below w0.heap.size w0 W) := ⟨_, hstart⟩
    go_wp2_with (fail)
    go_ret
    exact ⟨rfl, below_then HB0.out HB0.out.size (by first | exact HB9.out | exact HB8.out)⟩)

set_option maxRecDepth 100000 in
set_option maxHeartbeats 32000000 in
theorem merkleTakes_walk {D : Nat} (ar av al : Option Addr) (nr cr nv cv nl cl : Nat) (root key value : List UInt8) (n : Int) (ls : List LeafV) (w : World)
    (hr : Pt w D (.slice ar nr cr) root) (hv : Pt w D (.slice av nv cv) value) (hl : Lvs w D al nl cl ls) (hK : KAt w) (hK1 : KAt1 w) :
    Calls Tryd.prog 17 #[.agg #[.slice ar nr cr, str key, .slice av nv cv, .int .i64 n, .slice al nl cl]] w fun e w' => e = .returned (.bool true) ∧ Below w.heap.size w w' := by
  have HB0 := row_below w (.cells #[.slice ar nr cr, str key, .slice av nv cv, .int .i64 n, .slice al nl cl] 72)
  have g0 : (w.alloc (.cells #[.slice ar nr cr, str key, .slice av nv cv, .int .i64 n, .slice al nl cl] 72)).heap[w.heap.size]? = some (.cells #[.slice ar nr cr, str key, .slice av nv cv, .int .i64 n, .slice al nl cl] 72 (0, 0)) := heap_alloc_new w _
  have c0 : (w.alloc (.cells #[.slice ar nr cr, str key, .slice av nv cv, .int .i64 n, .slice al nl cl] 72)).cell? ⟨w.heap.size, 0, none⟩ = some (.slice ar nr cr) := by rw [cell_of_row _ _ _ _ _ _ g0]; rfl
  have c1 : (w.alloc (.cells #[.slice ar nr cr, str key, .slice av nv cv, .int .i64 n, .slice al nl cl] 72)).cell? ⟨w.heap.size, 1, none⟩ = some (str key) := by rw [cell_of_row _ _ _ _ _ _ g0]; rfl
  have c2 : (w.alloc (.cells #[.slice ar nr cr, str key, .slice av nv cv, .int .i64 n, .slice al nl cl] 72)).cell? ⟨w.heap.size, 2, none⟩ = some (.slice av nv cv) := by rw [cell_of_row _ _ _ _ _ _ g0]; rfl
  have c3 : (w.alloc (.cells #[.slice ar nr cr, str key, .slice av nv cv, .int .i64 n, .slice al nl cl] 72)).cell? ⟨w.heap.size, 3, none⟩ = some (.int .i64 n) := by rw [cell_of_row _ _ _ _ _ _ g0]; rfl
  have c4 : (w.alloc (.cells #[.slice ar nr cr, str key, .slice av nv cv, .int .i64 n, .slice al nl cl] 72)).cell? ⟨w.heap.size, 4, none⟩ = some (.slice al nl cl) := by rw [cell_of_row _ _ _ _ _ _ g0]; rfl
  have HR := Lib.hid (hr.below HB0.out)
  have HV := Lib.hid (hv.below HB0.out)
  have HL := Lib.hid (hl.below HB0.out)
  have HK := Lib.hid (hK.below hK.pos HB0.out)
  have HK1 := Lib.hid (hK1.below hK1.pos HB0.out)
  clear hr hv hl hK hK1 g0
  go_enter Tryd.func17, Tryd.ntmps17
  go_wp2_with (fail)
  generalize w.alloc (.cells #[.slice ar nr cr, str key, .slice av nv cv, .int .i64 n, .slice al nl cl] 72) = w0 at HB0 c0 c1 c2 c3 c4 HR HV HL HK HK1 ⊢
  have START : Hid (∀ W, Hid (Below w0.heap.size w0 W) → Hid (Below w0.heap.size w0 W) ∧ W.cell? ⟨w.heap.size, 0, none⟩ = some (.slice ar nr cr) ∧ W.cell? ⟨w.heap.size, 1, none⟩ = some (str key) ∧ W.cell? ⟨w.heap.size, 2, none⟩ = some (.slice av nv cv) ∧ W.cell? ⟨w.heap.size, 3, none⟩ = some (.int .i64 n) ∧ W.cell? ⟨w.heap.size, 4, none⟩ = some (.slice al nl cl)) := fun W hW =>
    ⟨hW, below_cell hW.out c0, below_cell hW.out c1, below_cell hW.out c2, below_cell hW.out c3, below_cell hW.out c4⟩
  have C52 : Hid (∀ W, Hid (Below w0.heap.size w0 W) → Calls Tryd.prog 52 #[] W (fun e w' => e = .returned (.bool true) ∧ Hid (Below w0.heap.size w0 w'))) := fun W hW =>
    (fixed8_any W (HK.out.below HK.out.pos hW.out)).mono fun e w' ⟨h1, h2⟩ => ⟨h1, below_then hW.out hW.out.size h2⟩
  have C58 : Hid (∀ W, Hid (Below w0.heap.size w0 W) → Calls Tryd.prog 58 #[.slice ar nr cr, str key, .agg #[.int .i64 n, .slice al nl cl]] W (fun e w' => e = .returned (.bool (absentV root key ⟨n, ls⟩)) ∧ Hid (Below w0.heap.size w0 w'))) := fun W hW =>
    (absent_any ar al nr cr nl cl root key ⟨n, ls⟩ W (HR.out.below hW.out) (HL.out.below hW.out) (HK.out.below HK.out.pos hW.out)).mono fun e w' ⟨h1, h2⟩ => ⟨h1, below_then hW.out hW.out.size h2⟩
  have C59 : Hid (∀ W, Hid (Below w0.heap.size w0 W) → Calls Tryd.prog 59 #[.slice ar nr cr, str key, .agg #[.int .i64 n, .slice al nl cl]] W (fun e w' => e = .returned (.bool (absentV root key ⟨n, ls⟩)) ∧ Hid (Below w0.heap.size w0 w'))) := fun W hW =>
    (rabsent_any ar al nr cr nl cl root key ⟨n, ls⟩ W (HR.out.below hW.out) (HL.out.below hW.out) (HK1.out.below HK1.out.pos hW.out)).mono fun e w' ⟨h1, h2⟩ => ⟨h1, below_then hW.out hW.out.size h2⟩
  have C56 : Hid (∀ W, Hid (Below w0.heap.size w0 W) → Calls Tryd.prog 56 #[.slice ar nr cr, str key, .slice av nv cv, .agg #[.int .i64 n, .slice al nl cl]] W (fun e w' => e = .returned (.bool (verifyV root key value ⟨n, ls⟩)) ∧ Hid (Below w0.heap.size w0 w'))) := fun W hW =>
    (verify_any' ar av al nr cr nv cv nl cl root key value ⟨n, ls⟩ W (HR.out.below hW.out) (HV.out.below hW.out) (HL.out.below hW.out) (HK.out.below HK.out.pos hW.out)).mono fun e w' ⟨h1, h2⟩ => ⟨h1, below_then hW.out hW.out.size h2⟩
  have C57 : Hid (∀ W, Hid (Below w0.heap.size w0 W) → Calls Tryd.prog 57 #[.slice ar nr cr, str key, .slice av nv cv, .agg #[.int .i64 n, .slice al nl cl]] W (fun e w' => e = .returned (.bool (verifyV root key value ⟨n, ls⟩)) ∧ Hid (Below w0.heap.size w0 w'))) := fun W hW =>
    (rverify_any ar av al nr cr nv cv nl cl root key value ⟨n, ls⟩ W (HR.out.below hW.out) (HV.out.below hW.out) (HL.out.below hW.out) (HK1.out.below HK1.out.pos hW.out)).mono fun e w' ⟨h1, h2⟩ => ⟨h1, below_then hW.out hW.out.size h2⟩
  generalize verifyV root key value ⟨n, ls⟩ = bv at C56 C57
  generalize absentV root key ⟨n, ls⟩ = ba at C58 C59
  have hstart : Hid (Below w0.heap.size w0 w0) := Below.refl _ _
  have hstartd : Hid (Below w0.heap.size w0 w0.drew) := (Below.refl _ _).drew
  go_region_held3 (fun W => Hid (Below w0.heap.size w0 W) ∧ W.cell? ⟨w.heap.size, 0, none⟩ = some (.slice ar nr cr) ∧ W.cell? ⟨w.heap.size, 1, none⟩ = some (str key) ∧ W.cell? ⟨w.heap.size, 2, none⟩ = some (.slice av nv cv) ∧ W.cell? ⟨w.heap.size, 3, none⟩ = some (.int .i64 n) ∧ W.cell? ⟨w.heap.size, 4, none⟩ = some (.slice al nl cl))
    (first
      | exact START.out _ (by first | assumption | exact hid_drew (by assumption) | exact hid_row (by assumption) _))
    (first
      | (go_at_call 52; refine (C52.out _ (by assumption)).mono ?_; rintro e w2 ⟨rfl, HB2⟩)
      | (go_at_call 58; refine (C58.out _ (by assumption)).mono ?_; rintro e w8 ⟨rfl, HB8⟩)
      | (go_at_call 59; refine (C59.out _ (by assumption)).mono ?_; rintro e w9 ⟨rfl, HB9⟩)
      | (go_at_call 56; refine (C56.out _ (by assumption)).mono ?_; rintro e w6 ⟨rfl, HB6⟩)
      | (go_at_call 57; refine (C57.out _ (by assumption)).mono ?_; rintro e w7 ⟨rfl, HB7⟩))
  all_goals (
    have HF : ∃ W, Hid (Below w0.heap.size w0 W) := ⟨_, hstart⟩
    go_wp2_with (fail)
    go_ret
    exact ⟨rfl, below_then HB0.out HB0.out.size (by first | exact HB9.out | exact HB8.out)⟩)
end Go.Proofs.YteceagldjnfeeaaDoor

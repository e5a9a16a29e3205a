/- The walk of isthmuslaw04.SignVerifies. -/
import Derived.Test.YteceagldjnfeeaaDoorLaw4b
import Derived.Deep.RegionHeld3
namespace Go.Proofs.YteceagldjnfeeaaDoor
open Go.RowKit
set_option linter.unusedVariables false
set_option linter.unusedSimpArgs false

set_option maxRecDepth 100000 in
set_option maxHeartbeats 4000000 in
theorem signVerifies_walk (ar am asl : Option Addr) (nr cr nm cm ns cs : Nat) (root msg sig : List UInt8) (key : Int) (w : World) (hr : Bs w ar nr cr root) (hm : Bs w am nm cm msg) (hs : Bs w asl ns cs sig) (hK : KAt w) (hK1 : KAt1 w) :
    Calls Tryd.prog 12 #[.agg #[.slice ar nr cr, .int .i64 key, .slice am nm cm, .slice asl ns cs]] w fun e w' => e = .returned (.bool true) ∧ Below w.heap.size w w' := by
  have HB0 := row_below w (.cells #[.slice ar nr cr, .int .i64 key, .slice am nm cm, .slice asl ns cs] 59)
  have g0 : (w.alloc (.cells #[.slice ar nr cr, .int .i64 key, .slice am nm cm, .slice asl ns cs] 59)).heap[w.heap.size]? = some (.cells #[.slice ar nr cr, .int .i64 key, .slice am nm cm, .slice asl ns cs] 59 (0, 0)) := heap_alloc_new w _
  have hp0 : (w.alloc (.cells #[.slice ar nr cr, .int .i64 key, .slice am nm cm, .slice asl ns cs] 59)).cell? ⟨w.heap.size, 0, none⟩ = some (.slice ar nr cr) := by rw [cell_of_row _ _ _ _ _ _ g0]; rfl
  have hp1 : (w.alloc (.cells #[.slice ar nr cr, .int .i64 key, .slice am nm cm, .slice asl ns cs] 59)).cell? ⟨w.heap.size, 1, none⟩ = some (.int .i64 key) := by rw [cell_of_row _ _ _ _ _ _ g0]; rfl
  have hp2 : (w.alloc (.cells #[.slice ar nr cr, .int .i64 key, .slice am nm cm, .slice asl ns cs] 59)).cell? ⟨w.heap.size, 2, none⟩ = some (.slice am nm cm) := by rw [cell_of_row _ _ _ _ _ _ g0]; rfl
  have hp3 : (w.alloc (.cells #[.slice ar nr cr, .int .i64 key, .slice am nm cm, .slice asl ns cs] 59)).cell? ⟨w.heap.size, 3, none⟩ = some (.slice asl ns cs) := by rw [cell_of_row _ _ _ _ _ _ g0]; rfl
  have hlt : w.heap.size < (w.alloc (.cells #[.slice ar nr cr, .int .i64 key, .slice am nm cm, .slice asl ns cs] 59)).heap.size := blk_lt g0
  have HR := Lib.hid hr
  have HM := Lib.hid hm
  have HS := Lib.hid hs
  have HK := Lib.hid hK
  have HK1 := Lib.hid hK1
  have HP0 := Lib.hid hp0
  have HP1 := Lib.hid hp1
  have HP2 := Lib.hid hp2
  have HP3 := Lib.hid hp3
  have HLT := Lib.hid hlt
  clear hr hm hs hK hK1 g0 hp0 hp1 hp2 hp3 hlt
  go_enter Tryd.func12, Tryd.ntmps12
  go_wp2_with (fail)
  generalize w.alloc (.cells #[.slice ar nr cr, .int .i64 key, .slice am nm cm, .slice asl ns cs] 59) = w0 at HB0 HP0 HP1 HP2 HP3 HLT ⊢
  have start : ∀ W, Below w0.heap.size w0 W → W.cell? ⟨w.heap.size, 0, none⟩ = some (.slice ar nr cr) ∧ W.cell? ⟨w.heap.size, 1, none⟩ = some (.int .i64 key) ∧ W.cell? ⟨w.heap.size, 2, none⟩ = some (.slice am nm cm) ∧ W.cell? ⟨w.heap.size, 3, none⟩ = some (.slice asl ns cs) := fun W hb =>
    ⟨cell_below hb HP0.out, cell_below hb HP1.out, cell_below hb HP2.out, cell_below hb HP3.out⟩
  have START := Lib.hid start
  clear start
  have croot : ∀ W, Hid (Below w0.heap.size w0 W) → Calls Tryd.prog 33 #[.slice am nm cm] W fun e w' => ∃ a c, e = .returned (.slice a 32 c) ∧ Hid (Below w0.heap.size w0 w') := fun W hW =>
    (root32 am nm cm msg W ((HM.out.below HB0.out).below hW.out) ((HK.out.below HK.out.pos HB0.out).below (HK.out.below HK.out.pos HB0.out).pos hW.out)).mono fun e w' ⟨a, c, h1, h2, _⟩ => ⟨a, c, h1, below_then hW.out hW.out.size h2⟩
  have CROOT := Lib.hid croot
  have cver : ∀ W, Hid (Below w0.heap.size w0 W) → Calls Tryd.prog 48 #[.slice ar nr cr, .int .i64 key, .slice am nm cm, .slice asl ns cs] W fun e w' => e = .returned (.bool (verifyAll root key msg sig)) ∧ Hid (Below w0.heap.size w0 w') := fun W hW =>
    (verify_all _ _ _ _ _ _ _ _ _ root msg sig key W ((HR.out.below HB0.out).below hW.out) ((HM.out.below HB0.out).below hW.out) ((HS.out.below HB0.out).below hW.out) ((HK.out.below HK.out.pos HB0.out).below (HK.out.below HK.out.pos HB0.out).pos hW.out)).mono fun e w' ⟨h1, h2⟩ => ⟨h1, below_then hW.out hW.out.size h2⟩
  have CVER := Lib.hid cver
  have crver : ∀ W, Hid (Below w0.heap.size w0 W) → Calls Tryd.prog 49 #[.slice ar nr cr, .int .i64 key, .slice am nm cm, .slice asl ns cs] W fun e w' => e = .returned (.bool (verifyAll root key msg sig)) ∧ Hid (Below w0.heap.size w0 w') := fun W hW =>
    (rverify_all _ _ _ _ _ _ _ _ _ root msg sig key W ((HR.out.below HB0.out).below hW.out) ((HM.out.below HB0.out).below hW.out) ((HS.out.below HB0.out).below hW.out) ((HK1.out.below HK1.out.pos HB0.out).below (HK1.out.below HK1.out.pos HB0.out).pos hW.out)).mono fun e w' ⟨h1, h2⟩ => ⟨h1, below_then hW.out hW.out.size h2⟩
  have CRVER := Lib.hid crver
  clear croot cver crver
  have hstart : Hid (Below w0.heap.size w0 w0) := Below.refl _ _
  have hstartd : Hid (Below w0.heap.size w0 w0.drew) := (Below.refl _ _).drew
  obtain ⟨s0, s1, s2, s3⟩ := START.out w0 (Below.refl _ _)
  go_region_held3 (fun W => Hid (Below w0.heap.size w0 W) ∧ W.cell? ⟨w.heap.size, 0, none⟩ = some (.slice ar nr cr) ∧ W.cell? ⟨w.heap.size, 1, none⟩ = some (.int .i64 key) ∧ W.cell? ⟨w.heap.size, 2, none⟩ = some (.slice am nm cm) ∧ W.cell? ⟨w.heap.size, 3, none⟩ = some (.slice asl ns cs))
    (first
      | exact ⟨by assumption, by assumption, by assumption, by assumption, by assumption⟩
      | exact ⟨(by assumption : Hid (Below w0.heap.size w0 _)).out.drew, by assumption, by assumption, by assumption, by assumption⟩
      | go_keep)
    (first
      | (go_at_call 33; refine (CROOT.out _ (by assumption)).mono ?_; rintro e w5 ⟨a5, c5, rfl, hb5⟩; obtain ⟨x0, x1, x2, x3⟩ := START.out w5 hb5.out)
      | (go_at_call 48; refine (CVER.out _ (by assumption)).mono ?_; rintro e w6 ⟨rfl, hb6⟩; obtain ⟨y0, y1, y2, y3⟩ := START.out w6 hb6.out)
      | (go_at_call 49; refine (CRVER.out _ (by assumption)).mono ?_; rintro e w7 ⟨rfl, hb7⟩; obtain ⟨z0, z1, z2, z3⟩ := START.out w7 hb7.out))
  clear z0 z1 z2 z3 s0 s1 s2 s3
  go_wp2_with (fail)
  go_ret
  exact ⟨rfl, below_then HB0.out HB0.out.size hb7.out⟩
end Go.Proofs.YteceagldjnfeeaaDoor

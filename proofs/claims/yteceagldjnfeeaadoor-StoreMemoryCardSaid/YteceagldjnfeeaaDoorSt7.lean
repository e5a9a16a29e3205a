/- The walk of what a store sees. -/
import Derived.Test.YteceagldjnfeeaaDoorSt6
namespace Go.Proofs.YteceagldjnfeeaaDoor
open Go.RowKit Go.Maps
set_option linter.unusedVariables false
set_option linter.unusedSimpArgs false

def RetMap (B : Nat) (es : SM Ent) (w : World) : Ending → World → Prop := fun e w' => ∃ b, e = .returned (.map (some b)) ∧ MapE B w' b es ∧ Below w.heap.size w w' ∧ w.heap.size ≤ b
set_option maxRecDepth 100000 in
set_option maxHeartbeats 2000000 in
theorem seen_own (B p b : Nat) (es : SM Ent) (w : World) (hs : Sto B w p none b es) :
    Calls Tryd.prog 71 #[.pointer (some ⟨p, 0, none⟩)] w (RetMap B es w) := by
  have c0 := hs.c0
  have c1 := hs.c1
  have HM := Lib.hid hs.own
  clear hs
  go_enter Tryd.func71, Tryd.ntmps71
  go_wp2_with (fail)
  refine (mclone_any B b es w HM.out).mono ?_
  rintro e w1 ⟨rfl, hm1, hb1⟩
  have HM1 := Lib.hid hm1
  have HB1 := Lib.hid hb1
  clear hm1 hb1
  go_wp2_with (fail)
  go_ret
  exact ⟨_, rfl, HM1.out, HB1.out, Nat.le_refl _⟩
set_option maxRecDepth 100000 in
set_option maxHeartbeats 2000000 in
theorem seen_over (B p b p2 b2 : Nat) (es es2 : SM Ent) (w : World) (hs : Sto B w p none b es) (hs2 : Sto B w p2 (some ⟨p, 0, none⟩) b2 es2) (hl : es.length + es2.length ≤ 9000000000000000) :
    Calls Tryd.prog 71 #[.pointer (some ⟨p2, 0, none⟩)] w (RetMap B (sover es es2) w) := by
  have c0 := hs2.c0
  have c1 := hs2.c1
  have HS := Lib.hid hs
  have HS2 := Lib.hid hs2
  clear hs hs2
  go_enter Tryd.func71, Tryd.ntmps71
  go_wp2_with (fail)
  refine (seen_own B p b es w HS.out).mono ?_
  rintro e w1 ⟨b1, rfl, hm1, hb1, hlt⟩
  have HM1 := Lib.hid hm1
  have HB1 := Lib.hid hb1
  have HLT := Lib.hid hlt
  have c11 := (HS2.out.below hb1).c1
  clear hm1 hb1 hlt
  go_wp2_with (fail)
  refine (mcopy_any B b1 b2 es es2 w1 HM1.out (HS2.out.below HB1.out).own (by have := HS2.out.own.lt; have := HLT.out; omega) hl).mono ?_
  rintro e w2 ⟨rfl, hm2, hg2⟩
  have HM2 := Lib.hid hm2
  have HB2 := Lib.hid (below_turn HB1.out hg2 HLT.out)
  clear hm2 hg2
  go_wp2_with (fail)
  go_ret
  exact ⟨_, rfl, HM2.out, HB2.out, HLT.out⟩
end Go.Proofs.YteceagldjnfeeaaDoor

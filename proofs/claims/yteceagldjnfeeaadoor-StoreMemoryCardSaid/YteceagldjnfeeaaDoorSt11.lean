/- The walks of the store's Root and of isthmusref09.Same at pairs that read alike. -/
import Derived.Test.YteceagldjnfeeaaDoorSt10
import Derived.Test.YteceagldjnfeeaaDoorMk6
namespace Go.Proofs.YteceagldjnfeeaaDoor
open Go.RowKit Go.Maps
set_option linter.unusedVariables false
set_option linter.unusedSimpArgs false

def RetB9 (D : Nat) (ps : List KV) (w : World) : Ending → World → Prop := fun e w' => ∃ a n c, e = .returned (.slice a n c) ∧ Below w.heap.size w w' ∧ Pt w' D (.slice a n c) (rootB ps)
set_option maxRecDepth 100000 in
theorem root_nil (w : World) : Calls Tryd.prog 43 #[.pointer none] w fun e w' => e = .returned (.slice none 0 0) ∧ w = w' := by
  go_enter Tryd.func43, Tryd.ntmps43
  go_wp2_with (fail)
  go_ret
  exact ⟨rfl, rfl⟩
set_option maxRecDepth 100000 in
set_option maxHeartbeats 2000000 in
theorem rootS_any (B D p : Nat) (es : SM Ent) (w : World) (hk : ∀ e ∈ es, e.1.length ≤ maxLen) (hn : es.length ≤ 3518437208780)
    (hc : Calls Tryd.prog 71 #[.pointer (some ⟨p, 0, none⟩)] w (RetMap B es w)) (hK : KAt w) :
    Calls Tryd.prog 43 #[.pointer (some ⟨p, 0, none⟩)] w (RetB9 D (pairsOf es []) w) := by
  have HC : Hid (Calls Tryd.prog 40 #[.pointer (some ⟨p, 0, none⟩), str []] w (RetPairs (pairsOf es []) w)) := pairs_any B p es [] w hk hn hc
  have HK := Lib.hid hK
  clear hc hk hK
  go_enter Tryd.func43, Tryd.ntmps43
  go_wp2_with (fail)
  refine HC.out.mono ?_
  rintro e w1 ⟨v, rfl, ho, hb⟩
  obtain ⟨a, c, rfl, hp⟩ := ho.ownP.prs
  have HP := Lib.hid hp
  have HB := Lib.hid hb
  clear ho hp hb HC
  go_wp2_with (fail)
  refine (root_any D a _ c (pairsOf es []) w1 HP.out (HK.out.below HK.out.pos HB.out)).mono ?_
  rintro e w2 ⟨a2, n2, c2, rfl, hb2, hp2⟩
  have HB2 := Lib.hid (below_then HB.out HB.out.size hb2)
  have HP2 := Lib.hid hp2
  clear hb2 hp2
  go_wp2_with (fail)
  go_ret
  exact ⟨_, _, _, rfl, HB2.out, HP2.out⟩

set_option maxRecDepth 100000 in
set_option maxHeartbeats 8000000 in
theorem same9_any {D D' : Nat} (a a' : Option Addr) (n c c' : Nat) (ps : List KV) (w : World) (hp : Prs w D a n c ps) (hq : Prs w D' a' n c' ps) :
    Calls Tryd.prog 47 #[.slice a n c, .slice a' n c'] w fun e w' => e = .returned (.bool true) ∧ Below w.heap.size w w' := by
  have hn63 : n ≤ 9223372036854775807 := by have := hp.cap; have := hp.big; unfold maxLen at this; omega
  have k1 : ((n : Int) != (n : Int)) = false := by simp
  have HP := Lib.hid hp
  have HQ := Lib.hid hq
  clear hp hq
  go_enter Tryd.func47, Tryd.ntmps47
  go_wp2_with (fail)
  clear k1
  go_loopw [13] (fun i wr => ∃ j : Nat, j ≤ n ∧ i = .int .i64 j ∧ Hid (Below w.heap.size w wr)) (fun i _ => n - (intOf i).toNat)
  case atStart => exact ⟨0, by omega, rfl, Below.refl _ _⟩
  case round =>
    obtain ⟨j, hj, rfl, HB⟩ := hrel
    by_cases hlt : j < n
    · obtain ⟨b, o, va, hab, g1, g2, hva⟩ := (HP.out.below HB.out).cells j hlt
      obtain ⟨b', o', va', hab', f1, f2, hva'⟩ := (HQ.out.below HB.out).cells j hlt
      subst hab hab'
      obtain ⟨a7, n7, c7, e7, hs7, _⟩ := hva
      obtain ⟨a8, n8, c8, e8, hs8, _⟩ := hva'
      subst e7 e8
      have i0 : (0 : Int) ≤ (j : Int) := by omega
      have i1 : (j : Int) < (n : Int) := by omega
      have HS7 := Lib.hid hs7
      have HS8 := Lib.hid hs8
      generalize keyAt ps j = kk at *
      generalize valAt ps j = vv at *
      have x0 : (kk != kk) = false := by simp
      have x1 : (vv != vv) = false := by simp
      clear hs7 hs8
      go_wp2_with (fail)
      have START : Hid (∀ W, Hid (Below wr.heap.size wr W) → Hid (Below wr.heap.size wr W) ∧ W.cell? ⟨b, o + j * 2, none⟩ = some (str kk) ∧ W.cell? ⟨b, o + j * 2 + 1, none⟩ = some (.slice a7 n7 c7) ∧ W.cell? ⟨b', o' + j * 2, none⟩ = some (str kk) ∧ W.cell? ⟨b', o' + j * 2 + 1, none⟩ = some (.slice a8 n8 c8) ∧
          (convert 22 9 (.slice a7 n7 c7)).run Tryd.prog W = .ok (.string ⟨vv.toArray⟩) W ∧ (convert 22 9 (.slice a8 n8 c8)).run Tryd.prog W = .ok (.string ⟨vv.toArray⟩) W) := fun W hW =>
        ⟨hW, below_cell hW.out g1, below_cell hW.out g2, below_cell hW.out f1, below_cell hW.out f2, conv_str (HS7.out.below hW.out), conv_str (HS8.out.below hW.out)⟩
      have hstartd : Hid (Below wr.heap.size wr wr.drew) := (Below.refl _ _).drew
      go_region_held3 (fun W => Hid (Below wr.heap.size wr W) ∧ W.cell? ⟨b, o + j * 2, none⟩ = some (str kk) ∧ W.cell? ⟨b, o + j * 2 + 1, none⟩ = some (.slice a7 n7 c7) ∧ W.cell? ⟨b', o' + j * 2, none⟩ = some (str kk) ∧ W.cell? ⟨b', o' + j * 2 + 1, none⟩ = some (.slice a8 n8 c8) ∧
          (convert 22 9 (.slice a7 n7 c7)).run Tryd.prog W = .ok (.string ⟨vv.toArray⟩) W ∧ (convert 22 9 (.slice a8 n8 c8)).run Tryd.prog W = .ok (.string ⟨vv.toArray⟩) W)
        (first
          | exact START.out _ (by first | assumption | exact hid_drew (by assumption) | exact hid_row (by assumption) _))
        (fail)
      have HB8 : Hid (Below w.heap.size w wr.drew) := HB.out.drew
      clear g1 g2 f1 f2
      go_wp2_with (fail)
      exact ⟨⟨j + 1, by omega, by go_num, HB8⟩, by simp [intOf]; omega⟩
    · obtain rfl : j = n := by omega
      have i6 : ¬ ((j : Int) < (j : Int)) := by omega
      go_wp2_with (fail)
      go_ret
      exact ⟨rfl, HB.out⟩
end Go.Proofs.YteceagldjnfeeaaDoor

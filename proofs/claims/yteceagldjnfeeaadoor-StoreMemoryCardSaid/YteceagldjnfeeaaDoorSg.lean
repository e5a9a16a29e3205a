/- The walks of the packages sign and isthmusref04, up to the leaves. -/
import Derived.Test.YteceagldjnfeeaaDoorPts
import Derived.Test.YteceagldjnfeeaaDoorSgMath
namespace Go.Proofs.YteceagldjnfeeaaDoor
open Go.RowKit
set_option linter.unusedVariables false
set_option linter.unusedSimpArgs false

/-- The call hands back bytes, its own or what it was given. -/
def RetP (B : Nat) (l : List UInt8) (w : World) (e : Ending) (w' : World) : Prop := ∃ a n c, e = .returned (.slice a n c) ∧ Below w.heap.size w w' ∧ Pt w' B (.slice a n c) l
theorem RetB.toP {B : Nat} {l : List UInt8} {w : World} {e : Ending} {w' : World} (h : RetB l w e w') : RetP B l w e w' := by
  obtain ⟨v, he, hb, ho⟩ := h
  obtain ⟨a, c, rfl, _⟩ := own_sl ho
  exact ⟨a, _, c, he, hb, .own ho⟩
theorem RetN.toP {B : Nat} {l : List UInt8} {n : Nat} {w : World} {e : Ending} {w' : World} (h : RetN l n w e w') : RetP B l w e w' := by
  obtain ⟨g, c, he, hb, _, ho⟩ := h
  exact ⟨_, _, _, he, hb, .own ho⟩
theorem RetP.before {B : Nat} {l : List UInt8} {w wa : World} {e : Ending} {w' : World} (h : RetP B l wa e w') (hb : Below w.heap.size w wa) : RetP B l w e w' := by
  obtain ⟨a, n, c, he, hb1, hp⟩ := h
  exact ⟨a, n, c, he, below_then hb hb.size hb1, hp⟩
theorem Pt.bs {w : World} {B : Nat} {a : Option Addr} {n c : Nat} {l : List UInt8} (h : Pt w B (.slice a n c) l) : Bs w a n c l := by
  obtain ⟨a', n', c', e, hs, _⟩ := h
  cases e
  exact hs

/-- sha.Tagged of parts that stand in a new block. -/
theorem tagged_row (B : Nat) {D : Nat} (word : List UInt8) (cs : Array Value) (k : Nat) (ls : List (List UInt8)) (w : World) (hs : word.length ≤ 1000) (hk : cs.size = k) (hk2 : k ≤ 1000) (hp : Pts w D cs.toList ls) (hK : KAt w) :
    Calls Tryd.prog 30 #[.string ⟨word.toArray⟩, .slice (some ⟨w.heap.size, 0, none⟩) k k] (w.alloc (.cells cs 22)) (RetP B (tagged word ls) w) := by
  have hT := row_below w (.cells cs 22)
  have hz : (⟨word.toArray⟩ : ByteArray).size = word.length := ba_len word
  exact (tagged_any ⟨word.toArray⟩ _ _ _ _ ls _ (by omega) (row_sl w cs k hk (by unfold maxLen; omega)).out (hp.later hT.out).parts hk2 (hK.below hK.pos hT.out)).mono fun e w' h => RetP.before h.toP hT.out
theorem rtagged_row (B : Nat) {D : Nat} (word : List UInt8) (cs : Array Value) (k : Nat) (ls : List (List UInt8)) (w : World) (hs : word.length ≤ 1000) (hk : cs.size = k) (hk2 : k ≤ 1000) (hp : Pts w D cs.toList ls) (hK : KAt1 w) :
    Calls Tryd.prog 32 #[.string ⟨word.toArray⟩, .slice (some ⟨w.heap.size, 0, none⟩) k k] (w.alloc (.cells cs 22)) (RetP B (tagged word ls) w) := by
  have hT := row_below w (.cells cs 22)
  have hz : (⟨word.toArray⟩ : ByteArray).size = word.length := ba_len word
  exact (rtagged_any ⟨word.toArray⟩ _ _ _ _ ls _ (by omega) (row_sl w cs k hk (by unfold maxLen; omega)).out (hp.later hT.out).parts hk2 (hK.below hK.pos hT.out)).mono fun e w' h => RetP.before h.toP hT.out

set_option maxRecDepth 100000 in
set_option maxHeartbeats 1000000 in
theorem number_any (B x : Nat) (w : World) (hx : x < 9223372036854775808) :
    Calls Tryd.prog 116 #[.int .i64 x] w (RetP B (be8 x) w) := by
  have q : IntKind.u64.wrap (x : Int) = x := IntWalk.u64_in _ (by omega)
  go_enter Tryd.func116, Tryd.ntmps116
  go_wp2_with (fail)
  refine (wireN_any x w).mono ?_
  rintro e w1 h1
  obtain ⟨a1, n1, c1, rfl, hb, hp⟩ := h1.toP (B := B)
  have HB := Lib.hid hb
  have HP := Lib.hid hp
  go_wp2_with (fail)
  go_ret
  exact ⟨_, _, _, rfl, HB.out, HP.out⟩
set_option maxRecDepth 100000 in
set_option maxHeartbeats 1000000 in
theorem rnumber_any (B x : Nat) (w : World) (hx : x < 9223372036854775808) :
    Calls Tryd.prog 117 #[.int .i64 x] w (RetP B (be8 x) w) := by
  have q : IntKind.u64.wrap (x : Int) = x := IntWalk.u64_in _ (by omega)
  go_enter Tryd.func117, Tryd.ntmps117
  go_wp2_with (fail)
  refine (ref2N_any x w (by omega)).mono ?_
  rintro e w1 h1
  obtain ⟨a1, n1, c1, rfl, hb, hp⟩ := h1.toP (B := B)
  have HB := Lib.hid hb
  have HP := Lib.hid hp
  go_wp2_with (fail)
  go_ret
  exact ⟨_, _, _, rfl, HB.out, HP.out⟩

set_option maxRecDepth 100000 in
set_option maxHeartbeats 1000000 in
theorem secret_any (B : Nat) {D : Nat} (a : Option Addr) (n d : Nat) (seed : List UInt8) (k c : Nat) (w : World) (hv : Pt w D (.slice a n d) seed) (hk : k < 1000) (hc : c < 1000) (hK : KAt w) :
    Calls Tryd.prog 77 #[.slice a n d, .int .i64 k, .int .i64 c] w (RetP B (secretOf seed k c) w) := by
  have HV := Lib.hid hv
  have HK := Lib.hid hK
  clear hv hK
  go_enter Tryd.func77, Tryd.ntmps77
  go_wp2_with (fail)
  refine (number_any D k w (by omega)).mono ?_
  rintro e w1 ⟨a1, n1, d1, rfl, hb1, hp1⟩
  have HB1 := Lib.hid hb1
  have HP1 := Lib.hid hp1
  clear hb1 hp1
  go_wp2_with (fail)
  refine (number_any D c w1 (by omega)).mono ?_
  rintro e w2 ⟨a2, n2, d2, rfl, hb2, hp2⟩
  have HB2 := Lib.hid (below_then HB1.out HB1.out.size hb2)
  have HP2 := Lib.hid hp2
  have HP12 := Lib.hid (HP1.out.below hb2)
  clear hb2 hp2
  go_wp2_with (fail)
  refine (tagged_row B wSecret _ 3 [seed, be8 k, be8 c] w2 (by decide) rfl (by omega) (.cons (HV.out.below HB2.out) (.cons HP12.out (.cons HP2.out .nil))) (HK.out.below HK.out.pos HB2.out)).mono ?_
  rintro e w3 h3
  obtain ⟨a3, n3, d3, rfl, hb3, hp3⟩ := h3.before HB2.out
  have HB3 := Lib.hid hb3
  have HP3 := Lib.hid hp3
  go_wp2_with (fail)
  go_ret
  exact ⟨_, _, _, rfl, HB3.out, HP3.out⟩
set_option maxRecDepth 100000 in
set_option maxHeartbeats 1000000 in
theorem begin_any (B : Nat) {D : Nat} (a : Option Addr) (n d : Nat) (seed : List UInt8) (k c : Nat) (w : World) (hv : Pt w D (.slice a n d) seed) (hk : k < 1000) (hc : c < 1000) (hK : KAt1 w) :
    Calls Tryd.prog 109 #[.slice a n d, .int .i64 k, .int .i64 c] w (RetP B (secretOf seed k c) w) := by
  have HV := Lib.hid hv
  have HK := Lib.hid hK
  clear hv hK
  go_enter Tryd.func109, Tryd.ntmps109
  go_wp2_with (fail)
  refine (rnumber_any D k w (by omega)).mono ?_
  rintro e w1 ⟨a1, n1, d1, rfl, hb1, hp1⟩
  have HB1 := Lib.hid hb1
  have HP1 := Lib.hid hp1
  clear hb1 hp1
  go_wp2_with (fail)
  refine (rnumber_any D c w1 (by omega)).mono ?_
  rintro e w2 ⟨a2, n2, d2, rfl, hb2, hp2⟩
  have HB2 := Lib.hid (below_then HB1.out HB1.out.size hb2)
  have HP2 := Lib.hid hp2
  have HP12 := Lib.hid (HP1.out.below hb2)
  clear hb2 hp2
  go_wp2_with (fail)
  refine (rtagged_row B wSecret _ 3 [seed, be8 k, be8 c] w2 (by decide) rfl (by omega) (.cons (HV.out.below HB2.out) (.cons HP12.out (.cons HP2.out .nil))) (HK.out.below HK.out.pos HB2.out)).mono ?_
  rintro e w3 h3
  obtain ⟨a3, n3, d3, rfl, hb3, hp3⟩ := h3.before HB2.out
  have HB3 := Lib.hid hb3
  have HP3 := Lib.hid hp3
  go_wp2_with (fail)
  go_ret
  exact ⟨_, _, _, rfl, HB3.out, HP3.out⟩

set_option maxRecDepth 100000 in
set_option maxHeartbeats 1000000 in
theorem walk_any (B : Nat) (a : Option Addr) (n d : Nat) (v : List UInt8) (c f t : Nat) (w : World) (hv : Pt w B (.slice a n d) v) (hc : c < 1000) (hft : f ≤ t) (ht : t < 1000) (hK : KAt w) :
    Calls Tryd.prog 76 #[.int .i64 c, .int .i64 f, .int .i64 t, .slice a n d] w (RetP B (chain c f (t - f) v) w) := by
  have HV := Lib.hid hv
  have HK := Lib.hid hK
  clear hv hK
  go_enter Tryd.func76, Tryd.ntmps76
  go_wp2_with (fail)
  refine (number_any B c w (by omega)).mono ?_
  rintro e w1 ⟨a1, n1, d1, rfl, hb1, hp1⟩
  have HB1 := Lib.hid hb1
  have HP1 := Lib.hid hp1
  have HV1 := Lib.hid (HV.out.below hb1)
  clear hb1 hp1
  go_wp2_with (fail)
  go_loopw [1, 3] (fun i x wr => ∃ k : Nat, ∃ ax nx dx, k ≤ t - f ∧ i = .int .i64 ((f + k : Nat) : Int) ∧ x = .slice ax nx dx ∧ Hid (Below w1.heap.size w1 wr) ∧ Hid (Pt wr B (.slice ax nx dx) (chain c f k v))) (fun i _ _ => t - (intOf i).toNat)
  case atStart => exact ⟨0, _, _, _, by omega, rfl, rfl, Below.refl _ _, HV1⟩
  case round =>
    obtain ⟨k, ax, nx, dx, hk, rfl, rfl, HB, HX⟩ := hrel
    by_cases hlt : f + k < t
    · have i1 : ((f + k : Nat) : Int) < (t : Int) := by omega
      go_wp2_with (fail)
      refine (number_any B (f + k) wr (by omega)).mono ?_
      rintro e w2 ⟨a2, n2, d2, rfl, hb2, hp2⟩
      have HP2 := Lib.hid hp2
      have HB2 := Lib.hid hb2
      have HB2w := Lib.hid (below_then HB.out HB.out.size hb2)
      clear hb2 hp2
      go_wp2_with (fail)
      refine (tagged_row B wStep _ 3 [be8 c, be8 (f + k), chain c f k v] w2 (by decide) rfl (by omega) (.cons (HP1.out.below HB2w.out) (.cons HP2.out (.cons (HX.out.below HB2.out) .nil))) (HK.out.below HK.out.pos (below_then HB1.out HB1.out.size HB2w.out))).mono ?_
      rintro e w3 h3
      obtain ⟨a3, n3, d3, rfl, hb3, hp3⟩ := h3
      have HB3 := Lib.hid (below_then HB2w.out HB2w.out.size hb3)
      have HP3 := Lib.hid hp3
      clear hb3 hp3
      go_wp2_with (fail)
      exact ⟨⟨k + 1, _, _, _, by omega, by go_num, rfl, HB3, HP3⟩, by simp [intOf]; omega⟩
    · obtain rfl : t = f + k := by omega
      have hF : Hid (f + k - f = k) := by show _ = _; omega
      go_wp2_with (fail)
      go_ret
      rw [hF.out]
      exact ⟨_, _, _, rfl, below_then HB1.out HB1.out.size HB.out, HX.out⟩

set_option maxRecDepth 100000 in
set_option maxHeartbeats 1000000 in
theorem along_any (B : Nat) (a : Option Addr) (n d : Nat) (v : List UInt8) (c f t : Nat) (w : World) (hv : Pt w B (.slice a n d) v) (hc : c < 1000) (hft : f ≤ t) (ht : t < 1000) (hK : KAt1 w) :
    Calls Tryd.prog 84 #[.int .i64 c, .int .i64 f, .int .i64 t, .slice a n d] w (RetP B (chain c f (t - f) v) w) := by
  have HV := Lib.hid hv
  have HK := Lib.hid hK
  clear hv hK
  go_enter Tryd.func84, Tryd.ntmps84
  go_wp2_with (fail)
  go_loopw [3, 9] (fun x i wr => ∃ k : Nat, ∃ ax nx dx, k ≤ t - f ∧ i = .int .i64 ((f + k : Nat) : Int) ∧ x = .slice ax nx dx ∧ Hid (Below w.heap.size w wr) ∧ Hid (Pt wr B (.slice ax nx dx) (chain c f k v))) (fun _ i _ => t - (intOf i).toNat)
  case atStart => exact ⟨0, _, _, _, by omega, rfl, rfl, Below.refl _ _, HV⟩
  case round =>
    obtain ⟨k, ax, nx, dx, hk, rfl, rfl, HB, HX⟩ := hrel
    by_cases hlt : f + k < t
    · have i1 : ((f + k : Nat) : Int) < (t : Int) := by omega
      go_wp2_with (fail)
      refine (rnumber_any B c wr (by omega)).mono ?_
      rintro e w1 ⟨a1, n1, d1, rfl, hb1, hp1⟩
      have HB1 := Lib.hid hb1
      have HP1 := Lib.hid hp1
      have HB1w := Lib.hid (below_then HB.out HB.out.size hb1)
      have HX1 := Lib.hid (HX.out.below hb1)
      clear hb1 hp1
      go_wp2_with (fail)
      refine (rnumber_any B (f + k) w1 (by omega)).mono ?_
      rintro e w2 ⟨a2, n2, d2, rfl, hb2, hp2⟩
      have HP2 := Lib.hid hp2
      have HB2 := Lib.hid hb2
      have HB2w := Lib.hid (below_then HB1w.out HB1w.out.size hb2)
      clear hb2 hp2
      go_wp2_with (fail)
      refine (rtagged_row B wStep _ 3 [be8 c, be8 (f + k), chain c f k v] w2 (by decide) rfl (by omega) (.cons (HP1.out.below HB2.out) (.cons HP2.out (.cons (HX1.out.below HB2.out) .nil))) (HK.out.below HK.out.pos HB2w.out)).mono ?_
      rintro e w3 h3
      obtain ⟨a3, n3, d3, rfl, hb3, hp3⟩ := h3
      have HB3 := Lib.hid (below_then HB2w.out HB2w.out.size hb3)
      have HP3 := Lib.hid hp3
      clear hb3 hp3
      go_wp2_with (fail)
      exact ⟨⟨k + 1, _, _, _, by omega, by go_num, rfl, HB3, HP3⟩, by simp [intOf]; omega⟩
    · obtain rfl : t = f + k := by omega
      have hF : Hid (f + k - f = k) := by show _ = _; omega
      go_wp2_with (fail)
      go_ret
      rw [hF.out]
      exact ⟨_, _, _, rfl, HB.out, HX.out⟩
end Go.Proofs.YteceagldjnfeeaaDoor

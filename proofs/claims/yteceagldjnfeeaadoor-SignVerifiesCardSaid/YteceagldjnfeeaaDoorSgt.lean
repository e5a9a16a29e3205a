/- The walks of the packages sign and isthmusref04: the tree. -/
import Derived.Test.YteceagldjnfeeaaDoorSgl
namespace Go.Proofs.YteceagldjnfeeaaDoor
open Go.RowKit
set_option linter.unusedVariables false
set_option linter.unusedSimpArgs false

theorem above_take (ls : List (List UInt8)) (m : Nat) (h : 2 * m + 1 < ls.length) : (above ls).take (m + 1) = (above ls).take m ++ [node (ls.getD (2 * m) []) (ls.getD (2 * m + 1) [])] := by
  have hl := above_length ls
  rw [List.take_succ_eq_append_getElem (by omega), ← above_get ls m h, List.getD_eq_getElem?_getD, List.getElem?_eq_getElem (by omega)]
  rfl
theorem getD_at {α : Type} (l : List α) (i : Nat) (h : i < l.length) (d : α) : l.getD i d = l[i] := by
  rw [List.getD_eq_getElem?_getD, List.getElem?_eq_getElem h]; rfl

/-- What a list of slices of bytes gives at a place. -/
theorem Pts.read {w : World} {C : Nat} {a : Option Addr} {n c : Nat} {vs : List Value} {ls : List (List UInt8)} (hs : Sl w a n c vs) (hp : Pts w C vs ls) {j : Nat} (hj : j < n) :
    ∃ b o a' n' c', a = some ⟨b, o, none⟩ ∧ w.cell? ⟨b, o + j, none⟩ = some (.slice a' n' c') ∧ Pt w C (.slice a' n' c') (ls.getD j []) := by
  obtain ⟨b, o, e, hc⟩ := hs.at hj
  have hj1 : j < vs.length := by rw [hs.len]; exact hj
  have hj2 : j < ls.length := by rw [← hp.length]; exact hj1
  have h1 := hc j hj1
  have h2 := hp.get j hj1 hj2
  obtain ⟨a', n', c', ev, hb, hd⟩ := h2
  rw [ev] at h1
  exact ⟨b, o, a', n', c', e, h1, a', n', c', rfl, by rw [getD_at _ _ hj2]; exact hb, hd⟩

set_option maxRecDepth 100000 in
set_option maxHeartbeats 1000000 in
theorem rabove_any (C D : Nat) (a : Option Addr) (n c : Nat) (vs : List Value) (ls : List (List UInt8)) (w : World) (hs : Sl w a n c vs) (hp : Pts w D vs ls) (hn : n ≤ 100000) (hC : C ≤ w.heap.size) (hK : KAt1 w) :
    Calls Tryd.prog 67 #[.slice a n c] w (RetL C (above ls) w) := by
  have hln : ls.length = n := by rw [← hp.length, hs.len]
  have HS := Lib.hid hs
  have HP := Lib.hid hp
  have HN := Lib.hid hln
  have HK := Lib.hid hK
  have HA := Lib.hid (above_length ls)
  clear hs hp hK hln
  go_enter Tryd.func67, Tryd.ntmps67
  go_wp2_with (fail)
  go_loopw [3, 4] (fun x i wr => ∃ (m : Nat) (vs : List Value), 2 * m ≤ n ∧ i = .int .i64 (2 * (m : Int)) ∧ Hid (Below w.heap.size w wr) ∧ Hid (Lst w.heap.size C wr x vs ((above ls).take m))) (fun _ i _ => n + 2 - (intOf i).toNat)
  case atStart => exact ⟨0, [], by omega, rfl, Below.refl _ _, Lst.nil _ _ _⟩
  case round =>
    obtain ⟨m, vs', hm, rfl, HB, HL⟩ := hrel
    have q1 : IntKind.i64.wrap ((2 * (m : Int)) + 1) = (2 * (m : Int)) + 1 := IntWalk.i64_in _ (by omega)
    have q2 : IntKind.i64.wrap ((2 * (m : Int)) + 2) = (2 * (m : Int)) + 2 := IntWalk.i64_in _ (by omega)
    by_cases hlt : 2 * m + 1 < n
    · have i1 : (2 * (m : Int)) + 1 < (n : Int) := by omega
      have i0 : (0 : Int) ≤ (2 * (m : Int)) := by omega
      have i2 : (2 * (m : Int)) < (n : Int) := by omega
      have i3 : (0 : Int) ≤ (2 * (m : Int)) + 1 := by omega
      have t1 : ((2 * (m : Int))).toNat = 2 * m := by omega
      have t2 : ((2 * (m : Int)) + 1).toNat = 2 * m + 1 := by omega
      obtain ⟨b, o, a1, n1, c1, rfl, g1, p1⟩ := Pts.read (HS.out.below HB.out) (HP.out.later HB.out) (j := 2 * m) (by omega)
      obtain ⟨b', o', a2, n2, c2, e2, g2, p2⟩ := Pts.read (HS.out.below HB.out) (HP.out.later HB.out) (j := 2 * m + 1) (by omega)
      cases e2
      have HT := Lib.hid (above_take ls m (by rw [HN.out]; omega))
      have HP1 := Lib.hid p1
      have HP2 := Lib.hid p2
      have hlen : Hid (((above ls).take m).length ≤ 1000000) := by show _ ≤ _; rw [List.length_take]; omega
      clear p1 p2
      have hbd : Below wr.heap.size wr wr.drew := (Below.refl _ _).drew
      have HBD := Lib.hid (below_then HB.out HB.out.size hbd)
      have HLD := Lib.hid (HL.out.below hbd)
      have KX : Hid (Calls Tryd.prog 32 #[.string { data := #[110, 111, 100, 101] }, .slice (some { block := wr.heap.size, off := 0 }) 2 2] (wr.alloc (.cells #[.slice a1 n1 c1, .slice a2 n2 c2] 22)).drew (RetP C (node (ls.getD (2 * m) []) (ls.getD (2 * m + 1) [])) wr.drew)) :=
        rtagged_row (D := D) C wNode #[.slice a1 n1 c1, .slice a2 n2 c2] 2 [ls.getD (2 * m) [], ls.getD (2 * m + 1) []] wr.drew (by decide) rfl (by omega) (.cons (HP1.out.below hbd) (.cons (HP2.out.below hbd) .nil)) (HK.out.below HK.out.pos HBD.out)
      go_wp2_with (fail)
      go_region_law (first
        | (refine step_app_s (w0 := w) rfl (.tmp 12) (.tmp 24) rfl _ _ _ rfl HL3 HB3 _ _ rfl HP3 hC hlen ?_; intro v4 w4 HL4 HB4)
        | (go_simp; go_at_call 32; refine KX.out.mono ?_; rintro e w3 ⟨a3, n3, d3, rfl, hb3, hp3⟩; have HB3 := Lib.hid (below_then HBD.out HBD.out.size hb3); have HP3 := Lib.hid hp3; have HL3 := Lib.hid (HLD.out.below hb3); clear hb3 hp3))
      all_goals go_wp2_with (fail)
      all_goals (
        have HL5 : Hid (Lst w.heap.size C w4 v4 (vs' ++ [.slice a3 n3 d3]) ((above ls).take (m + 1))) := by
          show Lst _ _ _ _ _ _
          rw [HT.out]
          exact HL4.out
        exact ⟨⟨m + 1, _, by omega, by go_num, HB4, HL5⟩, by simp [intOf]; omega⟩)
    · have i1 : ¬ (2 * (m : Int)) + 1 < (n : Int) := by omega
      have hF : Hid ((above ls).take m = above ls) := by
        show _ = _
        exact List.take_of_length_le (by rw [HA.out, HN.out]; omega)
      obtain ⟨a5, d5, rfl, hs5⟩ := HL.out.sl
      rw [hF.out] at HL ⊢
      clear hs5
      go_wp2_with (fail)
      go_ret
      exact ⟨_, _, _, rfl, HB.out, HL.out⟩

theorem take18 (f : Nat → List UInt8) (m : Nat) (h : m ≤ 1000) : ((List.range m).map f).length ≤ 1000000 := by
  rw [List.length_map, List.length_range]; omega

set_option maxRecDepth 100000 in
set_option maxHeartbeats 2000000 in
theorem rleaves_any (C : Nat) (a : Option Addr) (n d : Nat) (seed : List UInt8) (w : World) (hs : Bs w a n d seed) (hC : C ≤ w.heap.size) (hK : KAt1 w) :
    Calls Tryd.prog 68 #[.slice a n d] w (RetL C (leavesOf seed) w) := by
  have HS := Lib.hid hs
  have HK := Lib.hid hK
  clear hs hK
  go_enter Tryd.func68, Tryd.ntmps68
  go_wp2_with (fail)
  go_loopw [3, 4] (fun x i wr => ∃ (k : Nat) (vs : List Value), k ≤ 8 ∧ i = .int .i64 k ∧ Hid (Below w.heap.size w wr) ∧ Hid (Lst w.heap.size C wr x vs ((List.range k).map fun k => leafOf k (endsOf seed k)))) (fun _ i _ => 8 - (intOf i).toNat)
  case atStart => exact ⟨0, [], by omega, rfl, Below.refl _ _, Lst.nil _ _ _⟩
  case round =>
    obtain ⟨k, vs, hk, rfl, HB, HL⟩ := hrel
    by_cases hlt : k < 8
    · have i1 : (k : Int) < 8 := by omega
      obtain ⟨wo, ho⟩ : ∃ wo : World, wo = wr := ⟨_, rfl⟩
      rw [← ho] at HB HL ⊢
      clear ho
      go_wp2_with (fail)
      go_loopw [5, 6] (fun y i wr => ∃ (c : Nat) (us : List Value), c ≤ 18 ∧ i = .int .i64 c ∧ Hid (Below wo.heap.size wo wr) ∧ Hid (Lst wo.heap.size C wr y us ((List.range c).map fun c => chain c 0 15 (secretOf seed k c)))) (fun _ i _ => 18 - (intOf i).toNat)
      case atStart => exact ⟨0, [], by omega, rfl, Below.refl _ _, Lst.nil _ _ _⟩
      case round =>
        obtain ⟨c, us, hc, rfl, HB2, HL2⟩ := hrel
        have HBW := Lib.hid (below_then HB.out HB.out.size HB2.out)
        by_cases hlt2 : c < 18
        · have i2 : (c : Int) < 18 := by omega
          go_wp2_with (fail)
          refine (begin_any C a n d seed k c wr (.arg (HS.out.below HBW.out) (Nat.le_refl _)) (by omega) (by omega) (HK.out.below HK.out.pos HBW.out)).mono ?_
          rintro e w3 ⟨a3, n3, d3, rfl, hb3, hp3⟩
          have HB3 := Lib.hid (below_then HB2.out HB2.out.size hb3)
          have HB3W := Lib.hid (below_then HBW.out HBW.out.size hb3)
          have HP3 := Lib.hid hp3
          have HL3 := Lib.hid (HL2.out.below hb3)
          clear hb3 hp3
          go_wp2_with (fail)
          refine (along_any C _ _ _ (secretOf seed k c) c 0 15 w3 HP3.out (by omega) (by omega) (by omega) (HK.out.below HK.out.pos HB3W.out)).mono ?_
          rintro e w4 ⟨a4, n4, d4, rfl, hb4, hp4⟩
          have HB4 := Lib.hid (below_then HB3.out HB3.out.size hb4)
          have HP4 := Lib.hid hp4
          have HL4 := Lib.hid (HL3.out.below hb4)
          have hlen := Lib.hid (take18 (fun c => chain c 0 15 (secretOf seed k c)) c (by omega))
          have hC2 : C ≤ wo.heap.size := Nat.le_trans hC HB.out.size
          clear hb4 hp4
          go_wp2_with (at_builtin; refine app_s (w0 := wo) rfl (.tmp 15) (.tmp 22) rfl _ _ _ rfl HL4 HB4 _ _ rfl HP4 hC2 hlen ?_; intro v5 w5 HL5 HB5)
          have HL6 : Hid (Lst wo.heap.size C w5 v5 (us ++ [.slice a4 n4 d4]) ((List.range (c + 1)).map fun c => chain c 0 15 (secretOf seed k c))) := by
            show Lst _ _ _ _ _ _
            rw [range_map_succ]
            exact HL5.out
          exact ⟨⟨c + 1, _, by omega, by go_num, HB5, HL6⟩, by simp [intOf]; omega⟩
        · obtain rfl : c = 18 := by omega
          obtain ⟨a5, d5, rfl, hs5⟩ := HL2.out.sl
          have HE := Lib.hid HL2.out.pts
          have HS5 := Lib.hid hs5
          have hel : ((List.range 18).map fun c => chain c 0 15 (secretOf seed k c)).length = 18 := by rw [List.length_map, List.length_range]
          rw [hel] at HS5 ⊢
          clear hs5 hel HL2
          have HL7 := Lib.hid (HL.out.below HB2.out)
          go_wp2_with (fail)
          refine (rleaf_any C _ _ _ _ _ k wr HS5.out HE.out (by omega) (by omega) (HK.out.below HK.out.pos HBW.out)).mono ?_
          rintro e w6 ⟨a6, n6, d6, rfl, hb6, hp6⟩
          have HB6 := Lib.hid (below_then HBW.out HBW.out.size hb6)
          have HP6 : Hid (Pt w6 C (.slice a6 n6 d6) (leafOf k (endsOf seed k))) := hp6
          have HL6 := Lib.hid (HL7.out.below hb6)
          have hlen := Lib.hid (take18 (fun k => leafOf k (endsOf seed k)) k (by omega))
          clear hb6 hp6 HB2 HBW HB HL
          go_wp2_with (at_builtin; refine app_s (w0 := w) rfl (.tmp 24) (.tmp 28) rfl _ _ _ rfl HL6 HB6 _ _ rfl HP6 hC hlen ?_; intro v7 w7 HL8 HB8)
          have HL9 : Hid (Lst w.heap.size C w7 v7 (vs ++ [.slice a6 n6 d6]) ((List.range (k + 1)).map fun k => leafOf k (endsOf seed k))) := by
            show Lst _ _ _ _ _ _
            rw [range_map_succ]
            exact HL8.out
          exact ⟨⟨k + 1, _, by omega, by go_num, HB8, HL9⟩, by simp [intOf]; omega⟩
    · obtain rfl : k = 8 := by omega
      obtain ⟨a5, d5, rfl, hs5⟩ := HL.out.sl
      have HL2 : Hid (Lst w.heap.size C wr (.slice a5 (leavesOf seed).length d5) vs (leavesOf seed)) := HL
      change Code.wp _ _ _ _ _
      have hF : ((List.range 8).map fun k => leafOf k (endsOf seed k)).length = (leavesOf seed).length := rfl
      rw [hF]
      clear hs5 HL hF
      go_wp2_with (fail)
      go_ret
      exact ⟨_, _, _, rfl, HB.out, HL2.out⟩

theorem RetL.num {C n : Nat} {ls : List (List UInt8)} {w : World} {e : Ending} {w' : World} (h : RetL C ls w e w') (hl : ls.length = n) :
    ∃ a c vs, e = .returned (.slice a n c) ∧ Below w.heap.size w w' ∧ Pts w' C vs ls ∧ Sl w' a n c vs := by
  subst hl
  obtain ⟨a, c, vs, he, hb, hL⟩ := h
  obtain ⟨a', c', e2, hs⟩ := hL.sl
  cases e2
  exact ⟨a, c, vs, he, hb, hL.pts, hs⟩
theorem l0 (seed : List UInt8) : (leavesOf seed).length = 8 := leavesOf_length seed
theorem l1 (seed : List UInt8) : (above (leavesOf seed)).length = 4 := levelOf_length seed 1 (by omega)
theorem l2 (seed : List UInt8) : (above (above (leavesOf seed))).length = 2 := levelOf_length seed 2 (by omega)
theorem l3 (seed : List UInt8) : (above (above (above (leavesOf seed)))).length = 1 := levelOf_length seed 3 (by omega)

set_option maxRecDepth 100000 in
set_option maxHeartbeats 2000000 in
theorem rroot_any (C : Nat) (a : Option Addr) (n d : Nat) (seed : List UInt8) (w : World) (hs : Bs w a n d seed) (hC : C ≤ w.heap.size) (hK : KAt1 w) :
    Calls Tryd.prog 35 #[.slice a n d] w (RetP C (rootOf seed) w) := by
  have HK := Lib.hid hK
  have HS := Lib.hid hs
  clear hs hK
  go_enter Tryd.func35, Tryd.ntmps35
  go_wp2_with (fail)
  refine (rleaves_any C a n d seed w HS.out hC HK.out).mono ?_
  rintro e w1 h1
  obtain ⟨a1, d1, vs1, rfl, hb1, hp1, hs1⟩ := h1.num (l0 seed)
  have HB1 := Lib.hid hb1
  clear hb1 h1
  go_wp2_with (fail)
  refine (rabove_any C C _ _ _ _ _ w1 hs1 hp1 (by omega) (Nat.le_trans hC HB1.out.size) (HK.out.below HK.out.pos HB1.out)).mono ?_
  rintro e w2 h2
  obtain ⟨a2, d2, vs2, rfl, hb2, hp2, hs2⟩ := h2.num (l1 seed)
  have HB2 := Lib.hid (below_then HB1.out HB1.out.size hb2)
  clear hb2 h2 hs1 hp1
  go_wp2_with (fail)
  refine (rabove_any C C _ _ _ _ _ w2 hs2 hp2 (by omega) (Nat.le_trans hC HB2.out.size) (HK.out.below HK.out.pos HB2.out)).mono ?_
  rintro e w3 h3
  obtain ⟨a3, d3, vs3, rfl, hb3, hp3, hs3⟩ := h3.num (l2 seed)
  have HB3 := Lib.hid (below_then HB2.out HB2.out.size hb3)
  clear hb3 h3 hs2 hp2
  go_wp2_with (fail)
  refine (rabove_any C C _ _ _ _ _ w3 hs3 hp3 (by omega) (Nat.le_trans hC HB3.out.size) (HK.out.below HK.out.pos HB3.out)).mono ?_
  rintro e w4 h4
  obtain ⟨a4, d4, vs4, rfl, hb4, hp4, hs4⟩ := h4.num (l3 seed)
  have HB4 := Lib.hid (below_then HB3.out HB3.out.size hb4)
  obtain ⟨b, o, a5, n5, c5, rfl, g5, p5⟩ := Pts.read hs4 hp4 (j := 0) (by omega)
  have HP5 : Hid (Pt w4 C (.slice a5 n5 c5) (rootOf seed)) := p5
  rw [Nat.add_zero] at g5
  clear hb4 h4 hs3 hp3 hs4 hp4 p5
  go_wp2_with (fail)
  go_ret
  exact ⟨_, _, _, rfl, HB4.out, HP5.out⟩

set_option maxRecDepth 100000 in
set_option maxHeartbeats 1000000 in
theorem tree1_any (C : Nat) {D : Nat} (p1 p2 : Addr) (a : Option Addr) (n d : Nat) (seed : List UInt8) (k c : Nat) (w : World) (h1 : w.cell? p1 = some (.slice a n d)) (h2 : w.cell? p2 = some (.int .i64 k)) (hv : Pt w D (.slice a n d) seed) (hk : k < 1000) (hc : c < 1000) (hK : KAt w) :
    Calls Tryd.prog 108 #[.int .i64 c, .pointer (some p1), .pointer (some p2)] w (fun e w' => ∃ a n d, e = .returned (.tuple #[.slice a n d, .int .i64 ((0 : Nat) : Int)]) ∧ Below w.heap.size w w' ∧ Pt w' C (.slice a n d) (secretOf seed k c)) := by
  have HV := Lib.hid hv
  have HK := Lib.hid hK
  clear hv hK
  go_enter Tryd.func108, Tryd.ntmps108
  go_wp2_with (fail)
  refine (secret_any C a n d seed k c w HV.out hk hc HK.out).mono ?_
  rintro e w1 ⟨a1, n1, d1, rfl, hb1, hp1⟩
  have HB1 := Lib.hid hb1
  have HP1 := Lib.hid hp1
  clear hb1 hp1
  go_wp2_with (fail)
  go_ret2
  exact ⟨_, _, _, rfl, HB1.out, HP1.out⟩
end Go.Proofs.YteceagldjnfeeaaDoor

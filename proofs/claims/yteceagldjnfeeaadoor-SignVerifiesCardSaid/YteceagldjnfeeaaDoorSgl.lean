/- The walks of the packages sign and isthmusref04: leaves and trees. -/
import Derived.Test.YteceagldjnfeeaaDoorSg
namespace Go.Proofs.YteceagldjnfeeaaDoor
open Go.RowKit
set_option linter.unusedVariables false
set_option linter.unusedSimpArgs false

set_option maxRecDepth 100000 in
set_option maxHeartbeats 1000000 in
theorem rleaf_any (B : Nat) (a : Option Addr) (n d : Nat) (vs : List Value) (ls : List (List UInt8)) (k : Nat) (w : World) (hs : Sl w a n d vs) (hp : Pts w B vs ls) (hn : n ≤ 1000) (hk : k < 1000) (hK : KAt1 w) :
    Calls Tryd.prog 85 #[.int .i64 k, .slice a n d] w (RetP B (leafOf k ls) w) := by
  have hln : ls.length = n := by rw [← hp.length, hs.len]
  have HS := Lib.hid hs
  have HP := Lib.hid hp
  have HL := Lib.hid hln
  have HK := Lib.hid hK
  clear hs hp hK hln
  go_enter Tryd.func85, Tryd.ntmps85
  go_wp2_with (fail)
  refine (ref2T_any ⟨wLeaf.toArray⟩ w (by decide)).mono ?_
  rintro e w1 h1
  obtain ⟨a1, n1, d1, rfl, hb1, hp1⟩ := h1.toP (B := B)
  have HB1 := Lib.hid hb1
  have HP1 := Lib.hid hp1
  have hl1 := hp1.bs.blen
  have hf1 := field_length_le (⟨wLeaf.toArray⟩ : ByteArray).data.toList
  clear hb1 hp1 h1
  go_wp2_with (fail)
  refine (rnumber_any B k w1 (by omega)).mono ?_
  rintro e w2 ⟨a2, n2, d2, rfl, hb2, hp2⟩
  have HB2 := Lib.hid (below_then HB1.out HB1.out.size hb2)
  have HP2 := Lib.hid hp2
  have HP12 := Lib.hid (HP1.out.below hb2)
  clear hb2 hp2
  go_wp2_with (fail)
  refine (ref2B_any _ _ _ _ _ _ _ (be8 k) w2 HP12.out.bs HP2.out.bs (by omega)).mono ?_
  rintro e w3 h3
  obtain ⟨a3, n3, d3, rfl, hb3, hp3⟩ := h3.toP (B := B)
  have HB3 := Lib.hid (below_then HB2.out HB2.out.size hb3)
  have HP3 : Hid (Pt w3 B (.slice a3 n3 d3) (tagBytes wLeaf ((be8 k :: ls).take (0 + 1)))) := hp3
  clear hb3 hp3 h3 HP1 HP12 HP2 hl1 hf1
  go_wp2_with (fail)
  go_loopw [5, 14] (fun x i wr => ∃ j : Nat, ∃ ax nx dx, j ≤ n ∧ i = .int .i64 j ∧ x = .slice ax nx dx ∧ Hid (Below w.heap.size w wr) ∧ Hid (Pt wr B (.slice ax nx dx) (tagBytes wLeaf ((be8 k :: ls).take (j + 1))))) (fun _ i _ => n - (intOf i).toNat)
  case atStart => exact ⟨0, _, _, _, by omega, rfl, rfl, HB3, HP3⟩
  case round =>
    clear HB3 HP3 HB2 HB1
    obtain ⟨j, ax, nx, dx, hj, rfl, rfl, HB, HX⟩ := hrel
    have hle := tagBytes_length_le wLeaf (be8 k :: ls) (j + 1) (by rw [List.length_cons, HL.out]; omega)
    have hnx := HX.out.bs.blen
    have hnx2 : nx ≤ 65539 * 1002 := by
      have : 65539 * (j + 1 + 1) ≤ 65539 * 1002 := Nat.mul_le_mul_left _ (by omega)
      omega
    clear hle hnx
    by_cases hlt : j < n
    · obtain ⟨b, o, rfl, hc⟩ := (HS.out.below HB.out).at hlt
      have hg := hc j (by rw [HS.out.len]; exact hlt)
      obtain ⟨a4, n4, d4, e4, hs4, _⟩ := (HP.out.later HB.out).get j (by rw [HS.out.len]; exact hlt) (by rw [HL.out]; exact hlt)
      rw [e4] at hg
      have i0 : (0 : Int) ≤ (j : Int) := by omega
      have i1 : (j : Int) < (n : Int) := by omega
      have HT := Lib.hid (tagBytes_take wLeaf (be8 k :: ls) (j + 1) (by rw [List.length_cons, HL.out]; omega))
      have HS4 := Lib.hid hs4
      clear hc e4 hs4
      go_wp2_with (fail)
      refine (ref2B_any _ _ _ _ _ _ _ _ wr HX.out.bs HS4.out (by omega)).mono ?_
      rintro e w5 h5
      obtain ⟨a5, n5, d5, rfl, hb5, hp5⟩ := h5.toP (B := B)
      have HB5 := Lib.hid (below_then HB.out HB.out.size hb5)
      have HP5 : Hid (Pt w5 B (.slice a5 n5 d5) (tagBytes wLeaf ((be8 k :: ls).take (j + 1 + 1)))) := by
        show Pt _ _ _ _
        rw [HT.out]
        exact hp5
      clear hb5 hp5 h5
      go_wp2_with (fail)
      exact ⟨⟨j + 1, _, _, _, by omega, by go_num, rfl, HB5, HP5⟩, by simp [intOf]; omega⟩
    · obtain rfl : n = j := by omega
      have i1 : ¬ ((n : Int) < (n : Int)) := by omega
      have HQ := Lib.hid (tagBytes_all wLeaf (be8 k :: ls) (n + 1) (by rw [List.length_cons, HL.out]))
      go_wp2_with (fail)
      refine (rsum_any _ _ _ _ wr HX.out.bs (by omega) (HK.out.below HK.out.pos HB.out)).mono ?_
      rintro e w5 h5
      obtain ⟨a5, n5, d5, rfl, hb5, hp5⟩ := (h5.toP (B := B)).before HB.out
      have HB5 := Lib.hid hb5
      have HP5 : Hid (Pt w5 B (.slice a5 n5 d5) (leafOf k ls)) := by
        show Pt _ _ _ _
        rw [leafOf, tagged, ← HQ.out]
        exact hp5
      clear hb5 hp5 h5
      go_wp2_with (fail)
      go_ret
      exact ⟨_, _, _, rfl, HB5.out, HP5.out⟩

theorem range_map_succ {α : Type} (f : Nat → α) (n : Nat) : (List.range (n + 1)).map f = (List.range n).map f ++ [f n] := by simp [List.range_succ]

set_option maxRecDepth 100000 in
set_option maxHeartbeats 1000000 in
theorem leaf_any (B' F : Nat) (p1 p2 : Value) (k : Nat) (start : Nat → List UInt8) (pos : Nat → Nat) (w : World) (hF : ∀ args w, (callFunc F args).run Tryd.prog w = .ok (.enter F args) w) (hk : k < 1000) (hpos : ∀ j, pos j ≤ 15)
    (hC : ∀ (j : Nat) wr, j < 18 → Below w.heap.size w wr → Calls Tryd.prog F #[.int .i64 j, p1, p2] wr (fun e w' => ∃ a n c, e = .returned (.tuple #[.slice a n c, .int .i64 (pos j)]) ∧ Below wr.heap.size wr w' ∧ Pt w' w.heap.size (.slice a n c) (start j))) (hK : KAt w) :
    Calls Tryd.prog 80 #[.int .i64 k, .func (.func F) #[] #[p1, p2]] w (RetP B' (leafOf k ((List.range 18).map fun j => chain j (pos j) (15 - pos j) (start j))) w) := by
  have HK := Lib.hid hK
  have HC := Lib.hid hC
  have HPos := Lib.hid hpos
  clear hC hK hpos
  obtain ⟨G, hG⟩ : ∃ G : Nat → List UInt8, G = fun j => chain j (pos j) (15 - pos j) (start j) := ⟨_, rfl⟩
  rw [← hG]
  have HG : ∀ j, Hid (G j = chain j (pos j) (15 - pos j) (start j)) := fun j => by subst hG; rfl
  clear hG
  go_enter Tryd.func80, Tryd.ntmps80
  go_wp2_with (fail)
  refine (number_any w.heap.size k w (by omega)).mono ?_
  rintro e w1 ⟨a1, n1, d1, rfl, hb1, hp1⟩
  have HB1 := Lib.hid (below_then hb1 hb1.size (row_below w1 (.cells #[.slice a1 n1 d1] 22)).out)
  have HL1 : Hid (Lst w.heap.size w.heap.size (w1.alloc (.cells #[.slice a1 n1 d1] 22)) (.slice (some ⟨w1.heap.size, 0, none⟩) 1 1) [.slice a1 n1 d1] ([be8 k] ++ (List.range 0).map G)) := Lst.made _ _ w1 hb1.size _ _ hp1
  clear hb1 hp1
  go_wp2_with (fail)
  go_loopw [5, 12] (fun x i wr => ∃ (j : Nat) (vs : List Value), j ≤ 18 ∧ i = .int .i64 j ∧ Hid (Below w.heap.size w wr) ∧ Hid (Lst w.heap.size w.heap.size wr x vs ([be8 k] ++ (List.range j).map G))) (fun _ i _ => 18 - (intOf i).toNat)
  case atStart => exact ⟨0, _, by omega, rfl, HB1, HL1⟩
  case round =>
    clear HB1 HL1
    obtain ⟨j, vs, hj, rfl, HB, HL⟩ := hrel
    by_cases hlt : j < 18
    · have i1 : (j : Int) < 18 := by omega
      have h15 := HPos.out j
      go_wp2_with (fail)
      refine (HC.out j wr hlt HB.out).mono ?_
      rintro e w2 ⟨a2, n2, d2, rfl, hb2, hp2⟩
      have HB2 := Lib.hid (below_then HB.out HB.out.size hb2)
      have HP2 := Lib.hid hp2
      have HL2 := Lib.hid (HL.out.below hb2)
      clear hb2 hp2
      go_wp2_with (fail)
      refine (walk_any w.heap.size _ _ _ (start j) j (pos j) 15 w2 HP2.out (by omega) h15 (by omega) (HK.out.below HK.out.pos HB2.out)).mono ?_
      rintro e w3 ⟨a3, n3, d3, rfl, hb3, hp3⟩
      have HB3 := Lib.hid (below_then HB2.out HB2.out.size hb3)
      have HP3 := Lib.hid hp3
      have HL3 := Lib.hid (HL2.out.below hb3)
      have hlen : Hid (([be8 k] ++ (List.range j).map G).length ≤ 1000000) := by
        show _ ≤ _
        rw [List.length_append, List.length_map, List.length_range]
        simp only [List.length_cons, List.length_nil]
        omega
      clear hb3 hp3
      go_wp2_with (at_builtin; refine app_s (w0 := w) rfl (.tmp 21) (.tmp 26) rfl _ _ _ rfl HL3 HB3 _ _ rfl HP3 (Nat.le_refl _) hlen ?_; intro v4 w4 HL4 HB4)
      have HL5 : Hid (Lst w.heap.size w.heap.size w4 v4 (vs ++ [.slice a3 n3 d3]) ([be8 k] ++ (List.range (j + 1)).map G)) := by
        show Lst _ _ _ _ _ _
        rw [range_map_succ, ← List.append_assoc, (HG j).out]
        exact HL4.out
      exact ⟨⟨j + 1, _, by omega, by go_num, HB4, HL5⟩, by simp [intOf]; omega⟩
    · obtain rfl : j = 18 := by omega
      obtain ⟨a5, d5, rfl, hs5⟩ := HL.out.sl
      have hlen : ([be8 k] ++ (List.range 18).map G).length = 19 := by
        rw [List.length_append, List.length_map, List.length_range]; rfl
      have HS5 := Lib.hid hs5
      have HP5 := Lib.hid HL.out.pts
      clear hs5 HL
      rw [hlen] at HS5
      rw [hlen]
      clear hlen
      go_wp2_with (fail)
      refine (tagged_any ⟨wLeaf.toArray⟩ _ _ _ _ _ wr (by decide) HS5.out HP5.out.parts (by omega) (HK.out.below HK.out.pos HB.out)).mono ?_
      rintro e w6 h6
      obtain ⟨a6, n6, d6, rfl, hb6, hp6⟩ := (h6.toP (B := B')).before HB.out
      have HB6 := Lib.hid hb6
      have HP6 : Hid (Pt w6 B' (.slice a6 n6 d6) (leafOf k ((List.range 18).map G))) := hp6
      clear hb6 hp6 h6
      go_wp2_with (fail)
      go_ret
      exact ⟨_, _, _, rfl, HB6.out, HP6.out⟩
end Go.Proofs.YteceagldjnfeeaaDoor

/- The walk of isthmuslaw08.MerkleRoots. -/
import Derived.Test.YteceagldjnfeeaaDoorMk12
import Derived.Test.YteceagldjnfeeaaDoorMkP
namespace Go.Proofs.YteceagldjnfeeaaDoor
open Go.RowKit
set_option linter.unusedVariables false
set_option linter.unusedSimpArgs false

theorem take_kv (ps : List KV) (k : Nat) (h : k < ps.length) : ps.take (k + 1) = ps.take k ++ [(keyAt ps k, valAt ps k)] := by
  rw [List.take_succ_eq_append_getElem h]
  unfold keyAt valAt
  rw [List.getD_eq_getElem?_getD, List.getElem?_eq_getElem h]
  rfl

set_option maxRecDepth 100000 in
set_option maxHeartbeats 16000000 in
theorem merkleRoots_walk {C : Nat} (a : Option Addr) (n c : Nat) (ps : List KV) (w : World) (hp : Prs w C a n c ps) (hn : n ≤ 3518437208780) (hv : ∀ k, k < n → (valAt ps k).length ≤ 140737488355328) (hK : KAt w) (hK1 : KAt1 w) :
    Calls Tryd.prog 15 #[.slice a n c] w fun e w' => e = .returned (.bool true) ∧ Below w.heap.size w w' := by
  have HP := Lib.hid hp
  have HL := Lib.hid hp.len
  have HK := Lib.hid hK
  have HK1 := Lib.hid hK1
  have HV := Lib.hid hv
  have HN := Lib.hid hn
  have hb1 : (n : Int) ≤ 3518437208780 := by omega
  clear hp hK hK1 hv hn
  go_enter Tryd.func15, Tryd.ntmps15
  go_wp2_with (fail)
  go_loopw [3, 13] (fun v i wr => ∃ k : Nat, k ≤ n ∧ i = .int .i64 k ∧ Hid (Below w.heap.size w wr) ∧ Hid (OwnP w.heap.size wr v (ps.take k))) (fun _ i _ => n - (intOf i).toNat)
  case atStart => exact ⟨0, by omega, rfl, Below.refl _ _, OwnP.nil _ _⟩
  case round =>
    obtain ⟨k, hk, rfl, HB, HO⟩ := hrel
    by_cases hlt : k < n
    · obtain ⟨b, o, va, hab, g1, g2, hva⟩ := (HP.out.below HB.out).cells k hlt
      subst hab
      obtain ⟨a2, n2, c2, hva2, hbs, hfr⟩ := id hva
      subst hva2
      have hvl := hbs.blen
      have i0 : (0 : Int) ≤ (k : Int) := by omega
      have i1 : (k : Int) < (n : Int) := by omega
      have HB1 := Lib.hid (row_below wr (.cells #[str (keyAt ps k), .slice a2 n2 c2] 45)).out
      have e0 : (wr.alloc (.cells #[str (keyAt ps k), .slice a2 n2 c2] 45)).heap[wr.heap.size]? = some (.cells #[str (keyAt ps k), .slice a2 n2 c2] 45 (0, 0)) := heap_alloc_new wr _
      have z0 : (wr.alloc (.cells #[str (keyAt ps k), .slice a2 n2 c2] 45)).cell? ⟨wr.heap.size, 0, none⟩ = some (str (keyAt ps k)) := by rw [cell_of_row _ _ _ _ _ _ e0]; rfl
      have z1 : (wr.alloc (.cells #[str (keyAt ps k), .slice a2 n2 c2] 45)).cell? ⟨wr.heap.size, 1, none⟩ = some (.slice a2 n2 c2) := by rw [cell_of_row _ _ _ _ _ _ e0]; rfl
      have HS1 : Hid (Bs (wr.alloc (.cells #[str (keyAt ps k), .slice a2 n2 c2] 45)) a2 n2 c2 (valAt ps k)) := hbs.below HB1.out
      have HO1 := Lib.hid (HO.out.below HB1.out)
      have HBW := Lib.hid (below_then HB.out HB.out.size HB1.out)
      have HTK := Lib.hid (take_kv ps k (by rw [HL.out]; exact hlt))
      have hlen2 : Hid (([] : List UInt8).length + n2 ≤ 140737488355328) := by show _ ≤ _; rw [← hvl]; simpa using HV.out k hlt
      have hlen3 : Hid ((ps.take k).length ≤ 3518437208780) := by show _ ≤ _; rw [List.length_take, HL.out]; have := HN.out; omega
      clear hbs hfr hva e0 hvl
      generalize keyAt ps k = kk at *
      generalize valAt ps k = vv at *
      go_wp2_with (fail)
      clear g1 g2
      generalize wr.alloc (.cells #[str kk, .slice a2 n2 c2] 45) = w1 at HB1 z0 z1 HS1 HO1 HBW ⊢
      have hd : Hid (Below w1.heap.size w1 w1.drew) := (Below.refl _ _).drew
      have HB2 : Hid (Below w1.heap.size w1 (w1.drew.alloc (.cells #[] 5))) := hid_row hd _
      have HO2 : Hid ((w1.drew.alloc (.cells #[] 5)).ownsRow w1.heap.size 5 1 (.slice (some ⟨w1.heap.size, 0, none⟩) 0 0) ([] : List UInt8).length (bts [])) := World.ownsRow_lit w1.drew #[] 0 (Nat.le_refl _) (by unfold maxLen; omega) rfl
      have HS2 : Hid (Bs (w1.drew.alloc (.cells #[] 5)) a2 n2 c2 vv) := HS1.out.below HB2.out
      have START : Hid (∀ W, Hid (Below w1.heap.size w1 W) → W.cell? ⟨wr.heap.size, 0, none⟩ = some (str kk) ∧ W.cell? ⟨wr.heap.size, 1, none⟩ = some (.slice a2 n2 c2)) := fun W hW =>
        ⟨below_cell hW.out z0, below_cell hW.out z1⟩
      have HM : Hid (∀ g, u3.ownBlock = some g → g < wr.heap.size) := fun g hg => HO.out.lt g hg
      go_region_held3 (fun W => W.cell? ⟨wr.heap.size, 0, none⟩ = some (str kk) ∧ W.cell? ⟨wr.heap.size, 1, none⟩ = some (.slice a2 n2 c2))
        (first
          | exact ⟨by assumption, by assumption⟩
          | exact START.out _ (by first | assumption | exact hid_drew (by assumption) | exact hid_row (by assumption) _))
        (first
          | (refine step_app_bk (w0 := w1) rfl (.tmp 20) (.tmp 22) rfl _ _ rfl HO2 HB2 _ _ _ _ rfl HS2 hlen2 ?_; intro v7 w7 HO7 HB7; obtain ⟨a7, c7, e7, hs7⟩ := own_sl HO7.out; subst e7; have HP7 : Hid (Pt w7 0 _ _) := Pt.own HO7.out; have HX7 : Hid (OwnP w.heap.size w7 _ (ps.take k)) := HO1.out.below HB7.out; have HY7 : Hid (Below w.heap.size w w7) := below_then HBW.out HBW.out.size HB7.out; obtain ⟨t0, t1⟩ := START.out w7 HB7)
          | (refine step_app_p (w0 := w) rfl (.tmp 17) (.tmp 25) rfl _ _ rfl HX7 HY7 kk _ _ rfl HP7 hlen3 wr.heap.size HM ?_; intro v8 w8 HO8 HB8 HK8; have q0 := HK8.out _ _ _ (Nat.le_refl _) t0; have q1 := HK8.out _ _ _ (Nat.le_refl _) t1))
      have HO9 : Hid (OwnP w.heap.size w8 v8 (ps.take (k + 1))) := by show OwnP _ _ _ _; rw [HTK.out]; exact HO8.out
      clear z0 z1 t0 t1 q0 q1
      go_wp2_with (fail)
      exact ⟨⟨k + 1, by omega, by go_num, HB8, HO9⟩, by simp [intOf]; omega⟩
    · obtain rfl : k = n := by omega
      have i5 : ¬ ((k : Int) < (k : Int)) := by omega
      have hoo := HO.out
      rw [List.take_of_length_le (by rw [HL.out]; omega)] at hoo
      obtain ⟨a3, c3, e3, hp3⟩ := hoo.prs
      subst e3
      have HP3 := Lib.hid hp3
      clear hoo hp3
      rw [HL.out] at HP3
      rw [HL.out]
      go_wp2_with (fail)
      refine (root_any 0 a k c ps wr (HP.out.below HB.out) (HK.out.below HK.out.pos HB.out)).mono ?_
      rintro e w4 ⟨a4, n4, c4, rfl, hb4, hp4⟩
      have HB4 := Lib.hid (below_then HB.out HB.out.size hb4)
      have HP4 := Lib.hid hp4
      have HQ4 := Lib.hid (HP3.out.below hb4)
      clear hb4 hp4
      go_wp2_with (fail)
      refine (rroot_any 0 a3 k c3 ps w4 HQ4.out (HK1.out.below HK1.out.pos HB4.out)).mono ?_
      rintro e w5 ⟨a5, n5, c5, rfl, hb5, hp5⟩
      have HB5 := Lib.hid (below_then HB4.out HB4.out.size hb5)
      have HP5 := Lib.hid hp5
      have HP45 := Lib.hid (HP4.out.below hb5)
      have HQ5 := Lib.hid (HQ4.out.below hb5)
      clear hb5 hp5
      go_wp2_with (fail)
      refine (fixed8_any w5 (HK.out.below HK.out.pos HB5.out)).mono ?_
      rintro e w6 ⟨rfl, hb6⟩
      have HB6 := Lib.hid (below_then HB5.out HB5.out.size hb6)
      have HQ6 := Lib.hid (HQ5.out.below hb6)
      have k1 := conv_str (HP45.out.below hb6).bs
      have k2 := conv_str (HP5.out.below hb6).bs
      clear hb6
      go_wp2_with (fail)
      clear k1 k2
      go_loopw [54] (fun i wr2 => ∃ j : Nat, j ≤ k ∧ i = .int .i64 j ∧ Hid (Below w6.heap.size w6 wr2)) (fun i _ => k - (intOf i).toNat)
      case atStart => exact ⟨0, by omega, rfl, Below.refl _ _⟩
      case round =>
        obtain ⟨j, hj, rfl, HB7⟩ := hrel
        have HBW := Lib.hid (below_then HB6.out HB6.out.size HB7.out)
        by_cases hlt2 : j < k
        · obtain ⟨b, o, va, hab, g1, g2, hva⟩ := (HP.out.below HBW.out).cells j hlt2
          obtain ⟨b', o', va', hab', f1, f2, hva'⟩ := (HQ6.out.below HB7.out).cells j hlt2
          subst hab hab'
          obtain ⟨a7, n7, c7, e7, hs7, _⟩ := hva
          obtain ⟨a8, n8, c8, e8, hs8, _⟩ := hva'
          subst e7 e8
          have i0 : (0 : Int) ≤ (j : Int) := by omega
          have i1 : (j : Int) < (k : Int) := by omega
          have HS7 := Lib.hid hs7
          have HS8 := Lib.hid hs8
          clear hs7 hs8
          go_wp2_with (fail)
          have START : Hid (∀ W, Hid (Below wr.heap.size wr W) → Hid (Below wr.heap.size wr W) ∧ W.cell? ⟨b, o + j * 2, none⟩ = some (str (keyAt ps j)) ∧ W.cell? ⟨b, o + j * 2 + 1, none⟩ = some (.slice a7 n7 c7) ∧ W.cell? ⟨b', o' + j * 2, none⟩ = some (str (keyAt ps j)) ∧ W.cell? ⟨b', o' + j * 2 + 1, none⟩ = some (.slice a8 n8 c8) ∧
              (convert 22 9 (.slice a7 n7 c7)).run Tryd.prog W = .ok (.string ⟨(valAt ps j).toArray⟩) W ∧ (convert 22 9 (.slice a8 n8 c8)).run Tryd.prog W = .ok (.string ⟨(valAt ps j).toArray⟩) W) := fun W hW =>
            ⟨hW, below_cell hW.out g1, below_cell hW.out g2, below_cell hW.out f1, below_cell hW.out f2, conv_str (HS7.out.below hW.out), conv_str (HS8.out.below hW.out)⟩
          have hstartd : Hid (Below wr.heap.size wr wr.drew) := (Below.refl _ _).drew
          go_region_held3 (fun W => Hid (Below wr.heap.size wr W) ∧ W.cell? ⟨b, o + j * 2, none⟩ = some (str (keyAt ps j)) ∧ W.cell? ⟨b, o + j * 2 + 1, none⟩ = some (.slice a7 n7 c7) ∧ W.cell? ⟨b', o' + j * 2, none⟩ = some (str (keyAt ps j)) ∧ W.cell? ⟨b', o' + j * 2 + 1, none⟩ = some (.slice a8 n8 c8) ∧
              (convert 22 9 (.slice a7 n7 c7)).run Tryd.prog W = .ok (.string ⟨(valAt ps j).toArray⟩) W ∧ (convert 22 9 (.slice a8 n8 c8)).run Tryd.prog W = .ok (.string ⟨(valAt ps j).toArray⟩) W)
            (first
              | exact START.out _ (by first | assumption | exact hid_drew (by assumption) | exact hid_row (by assumption) _))
            (fail)
          have HB8 : Hid (Below w6.heap.size w6 wr.drew) := HB7.out.drew
          clear g1 g2 f1 f2
          go_wp2_with (fail)
          exact ⟨⟨j + 1, by omega, by go_num, HB8⟩, by simp [intOf]; omega⟩
        · obtain rfl : j = k := by omega
          have i6 : ¬ ((j : Int) < (j : Int)) := by omega
          go_wp2_with (fail)
          go_ret
          exact ⟨rfl, HBW.out⟩
end Go.Proofs.YteceagldjnfeeaaDoor

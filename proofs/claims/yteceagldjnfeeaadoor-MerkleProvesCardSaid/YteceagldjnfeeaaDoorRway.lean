/- The walks of isthmusref08.way and shown. -/
import Derived.Test.YteceagldjnfeeaaDoorMprove
namespace Go.Proofs.YteceagldjnfeeaaDoor
open Go.RowKit
set_option linter.unusedVariables false
set_option linter.unusedSimpArgs false

set_option maxRecDepth 100000 in
set_option maxHeartbeats 16000000 in
theorem rway_any (m : Nat) : ∀ {D : Nat} (b o n c i : Nat) (ps : List KV) (w : World), n ≤ m → i < n → n ≤ 65536 → (∀ k, k < n → (keyAt ps k).length ≤ maxLen) → Prs w D (some ⟨b, o, none⟩) n c ps → KAt1 w → D ≤ w.heap.size →
    Calls Tryd.prog 125 #[.slice (some ⟨b, o, none⟩) n c, .int .i64 i] w (RetL D (pathH (ps.map leafH) i) w) := by
  induction m with
  | zero => intro D b o n c i ps w h1 h2; omega
  | succ m ih =>
    intro D b o n c i ps w hm hi hn hkl hh hK hD
    have HLN : Hid ((ps.map leafH).length = n) := by show _ = _; rw [List.length_map, hh.len]
    by_cases h2 : 2 ≤ n
    · have hlt := half_lt n h2
      have hp0 := half_pos n
      have hpl := fun h => pathH_left (ps.map leafH) i (by rw [HLN.out]; exact h2) h
      have hpr := fun h => pathH_right (ps.map leafH) i (by rw [HLN.out]; exact h2) h
      rw [HLN.out, ← List.map_take, ← List.map_drop] at hpl hpr
      have hc := hh.cap
      have i1 : ¬ (n : Int) ≤ 1 := by omega
      have i1' : (1 : Int) < (n : Int) := by omega
      have hspl := rsplit_ok n h2
      have hnn : (n : Int) ≤ 65536 := by omega
      generalize half n = k at *
      have hsl := fun wx => run_sl42_l wx b o n c k (by omega)
      have hsr := fun wx => run_sl42_r wx b o n c k (by omega) (by omega)
      have hbd : Below w.heap.size w w.drew := (Below.refl _ _).drew
      have hHD : Prs w.drew D (some ⟨b, o, none⟩) n c ps := hh.below hbd
      have hKD : KAt1 w.drew := hK.below hK.pos hbd
      have hlenT : Hid (∀ (qs : List KV) (j : Nat), qs.length ≤ n → j < qs.length → (pathH (qs.map leafH) j).length ≤ 1000000) := fun qs j hq hj => by
        have h3 := (way_ok _ (qs.map leafH) j (Nat.le_refl _) (by rw [List.length_map]; exact hj) (leaves_32 qs)).1
        have h4 := turns_length_le (qs.map leafH).length j
        have h5 : (qs.map leafH).length ≤ n := by rw [List.length_map]; exact hq
        rw [h3]
        omega
      have hl := hh.len
      by_cases hik : i < k
      · have HP := Lib.hid (hpl hik)
        have CW : Hid (Calls Tryd.prog 125 #[.slice (some ⟨b, o, none⟩) k c, .int .i64 i] w.drew (RetL D (pathH ((ps.take k).map leafH) i) w.drew)) :=
          ih b o k c i (ps.take k) w.drew (by omega) hik (by omega) (fun j hj => by rw [keyAt_take _ _ _ hj]; exact hkl j (by omega)) (hHD.left k (by omega)) hKD hD
        have CR : Hid (∀ W, Hid (Below w.heap.size w W) → Calls Tryd.prog 92 #[.slice (some ⟨b, o + k * 2, none⟩) (n - k) (c - k)] W (RetP D (rowH ((ps.drop k).map leafH)) W)) := fun W hW =>
          rrow_any _ b (o + k * 2) (n - k) (c - k) (ps.drop k) W (Nat.le_refl _) (by omega) (by omega) (fun j hj => by rw [keyAt_drop]; exact hkl (k + j) (by omega)) ((hh.right k (by omega)).below hW.out) (hK.below hK.pos hW.out)
        have hlen : Hid ((pathH ((ps.take k).map leafH) i).length ≤ 1000000) := hlenT.out (ps.take k) i (by rw [List.length_take]; omega) (by rw [List.length_take]; omega)
        have HBD := Lib.hid hbd
        have HDW := Lib.hid hD
        have i2 : (i : Int) < (k : Int) := by omega
        clear hh hK ih hc hm hkl hpl hpr hHD hKD hbd hl hi hik hlt hp0 h2 hlenT hD
        generalize pathH ((ps.take k).map leafH) i = pl at HP CW hlen
        generalize rowH ((ps.drop k).map leafH) = rl at HP CR
        generalize o + k * 2 = o2 at hsr CR
        generalize n - k = n2 at hsr CR
        generalize c - k = c2 at hsr CR
        go_enter Tryd.func125, Tryd.ntmps125
        go_wp2_with (fail)
        refine (hspl.out w (by omega)).mono ?_
        rintro e w' ⟨rfl, rfl⟩
        go_wp2_with (fail)
        go_region_held3 (fun _ => True)
          (first | trivial | go_keep)
          (first
            | (refine step_app_s (w0 := w) rfl (.tmp 19) (.tmp 24) rfl _ _ _ rfl HL6 HB6 _ _ rfl HP6 HDW.out hlen ?_; intro v7 w7 HL7 HB7)
            | (go_at_call 125
               refine CW.out.mono ?_
               rintro e w5 ⟨a5, c5, vs5, rfl, hb5, hl5⟩
               have HB5 := Lib.hid (below_then HBD.out HBD.out.size hb5)
               have HL5 : Hid (Lst w.heap.size D w5 _ _ _) := hl5
               clear hb5 hl5)
            | (go_at_call 92
               refine (CR.out _ HB5).mono ?_
               rintro e w6 ⟨a6, n6, c6, rfl, hb6, hp6⟩
               have HB6 := Lib.hid (below_then HB5.out HB5.out.size hb6)
               have HL6 := Lib.hid (HL5.out.below hb6)
               have HP6 := Lib.hid hp6
               clear hb6 hp6))
        obtain ⟨a7, c7, e7, _⟩ := HL7.out.sl
        subst e7
        go_wp2_with (fail)
        go_ret
        unfold RetL
        rw [HP.out]
        exact ⟨_, _, _, rfl, HB7.out, HL7.out⟩
      · have HP := Lib.hid (hpr hik)
        have CW : Hid (Calls Tryd.prog 125 #[.slice (some ⟨b, o + k * 2, none⟩) (n - k) (c - k), .int .i64 ((i : Int) - (k : Int))] w.drew (RetL D (pathH ((ps.drop k).map leafH) (i - k)) w.drew)) := by
          have e : ((i : Int) - (k : Int)) = ((i - k : Nat) : Int) := by omega
          rw [e]
          exact ih b (o + k * 2) (n - k) (c - k) (i - k) (ps.drop k) w.drew (by omega) (by omega) (by omega) (fun j hj => by rw [keyAt_drop]; exact hkl (k + j) (by omega)) (hHD.right k (by omega)) hKD hD
        have CR : Hid (∀ W, Hid (Below w.heap.size w W) → Calls Tryd.prog 92 #[.slice (some ⟨b, o, none⟩) k c] W (RetP D (rowH ((ps.take k).map leafH)) W)) := fun W hW =>
          rrow_any _ b o k c (ps.take k) W (Nat.le_refl _) (by omega) (by omega) (fun j hj => by rw [keyAt_take _ _ _ hj]; exact hkl j (by omega)) ((hh.left k (by omega)).below hW.out) (hK.below hK.pos hW.out)
        have hlen : Hid ((pathH ((ps.drop k).map leafH) (i - k)).length ≤ 1000000) := hlenT.out (ps.drop k) (i - k) (by rw [List.length_drop]; omega) (by rw [List.length_drop]; omega)
        have HBD := Lib.hid hbd
        have HDW := Lib.hid hD
        have i2 : ¬ (i : Int) < (k : Int) := by omega
        have i3 : (k : Int) ≤ (i : Int) := by omega
        have i4 : IntKind.i64.wrap ((i : Int) - (k : Int)) = (i : Int) - (k : Int) := IntWalk.i64_in _ (by omega)
        clear hh hK ih hc hm hkl hpl hpr hHD hKD hbd hl hi hik hlt hp0 h2 hlenT hD
        generalize pathH ((ps.drop k).map leafH) (i - k) = pl at HP CW hlen
        generalize rowH ((ps.take k).map leafH) = rl at HP CR
        generalize o + k * 2 = o2 at hsr CW
        generalize n - k = n2 at hsr CW
        generalize c - k = c2 at hsr CW
        go_enter Tryd.func125, Tryd.ntmps125
        go_wp2_with (fail)
        refine (hspl.out w (by omega)).mono ?_
        rintro e w' ⟨rfl, rfl⟩
        go_wp2_with (fail)
        go_region_held3 (fun _ => True)
          (first | trivial | go_keep)
          (first
            | (refine step_app_s (w0 := w) rfl (.tmp 32) (.tmp 37) rfl _ _ _ rfl HL6 HB6 _ _ rfl HP6 HDW.out hlen ?_; intro v7 w7 HL7 HB7)
            | (go_at_call 125
               refine CW.out.mono ?_
               rintro e w5 ⟨a5, c5, vs5, rfl, hb5, hl5⟩
               have HB5 := Lib.hid (below_then HBD.out HBD.out.size hb5)
               have HL5 : Hid (Lst w.heap.size D w5 _ _ _) := hl5
               clear hb5 hl5)
            | (go_at_call 92
               refine (CR.out _ HB5).mono ?_
               rintro e w6 ⟨a6, n6, c6, rfl, hb6, hp6⟩
               have HB6 := Lib.hid (below_then HB5.out HB5.out.size hb6)
               have HL6 := Lib.hid (HL5.out.below hb6)
               have HP6 := Lib.hid hp6
               clear hb6 hp6))
        obtain ⟨a7, c7, e7, _⟩ := HL7.out.sl
        subst e7
        go_wp2_with (fail)
        go_ret
        unfold RetL
        rw [HP.out]
        exact ⟨_, _, _, rfl, HB7.out, HL7.out⟩
    · have hn1 : n = 1 := by omega
      have hq : Hid (pathH (ps.map leafH) i = []) := pathH_one _ _ (by rw [HLN.out]; omega)
      subst hn1
      clear hh ih hkl hK
      go_enter Tryd.func125, Tryd.ntmps125
      go_wp2_with (fail)
      go_ret
      unfold RetL
      rw [hq.out]
      exact ⟨none, 0, [], rfl, Below.refl _ _, Lst.nil _ _ _⟩
end Go.Proofs.YteceagldjnfeeaaDoor

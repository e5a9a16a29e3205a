/- The walks of sign.Sign and isthmusref04.Sign. -/
import Derived.Test.YteceagldjnfeeaaDoorSgs
namespace Go.Proofs.YteceagldjnfeeaaDoor
open Go.RowKit
set_option linter.unusedVariables false
set_option linter.unusedSimpArgs false

set_option maxRecDepth 100000 in
set_option maxHeartbeats 1000000 in
theorem rsign_any (a a' : Option Addr) (n d n' d' : Nat) (seed msg : List UInt8) (key : Nat) (w : World) (hs : Bs w a n d seed) (hm : Bs w a' n' d' msg) (hk : key < 8) (hK : KAt1 w) :
    Calls Tryd.prog 46 #[.slice a n d, .int .i64 key, .slice a' n' d'] w (RetS2 (sigOf seed key msg) w) := by
  have HS := Lib.hid hs
  have HM := Lib.hid hm
  have HK := Lib.hid hK
  have i0 : (0 : Int) ≤ (key : Int) := by omega
  have i8 : (key : Int) < 8 := by omega
  clear hs hm hK
  go_enter Tryd.func46, Tryd.ntmps46
  go_wp2_with (fail)
  refine (rleaves_any 0 a n d seed w HS.out (Nat.zero_le _) HK.out).mono ?_
  rintro e w1 h1
  obtain ⟨a1, d1, vs1, rfl, hb1, hp1, hs1⟩ := h1.num (l0 seed)
  have HB1 := Lib.hid hb1
  have HP1 := Lib.hid hp1
  have HS1 := Lib.hid hs1
  clear hb1 h1 hp1 hs1
  go_wp2_with (fail)
  refine (rsignBy_any _ _ _ _ _ _ _ _ _ seed msg key w1 HS1.out HP1.out (HS.out.below HB1.out) (HM.out.below HB1.out) hk (HK.out.below HK.out.pos HB1.out)).mono ?_
  rintro e w2 ⟨a2, c2, rfl, hb2, hs2⟩
  have HB2 := Lib.hid (below_then HB1.out HB1.out.size hb2)
  have HS2 := Lib.hid hs2
  clear hb2 hs2
  go_wp2_with (fail)
  go_ret2
  exact ⟨_, _, rfl, HB2.out, HS2.out⟩

set_option maxRecDepth 100000 in
set_option maxHeartbeats 1000000 in
theorem rsign_no (v v' : Value) (key : Int) (w : World) (hk : key < 0 ∨ 8 ≤ key) :
    Calls Tryd.prog 46 #[v, .int .i64 key, v'] w fun e w' => e = .returned (.tuple #[.slice none 0 0, .int .i64 30]) ∧ w = w' := by
  rcases hk with h | h
  · go_enter Tryd.func46, Tryd.ntmps46
    go_wp2
    go_ret2
    exact ⟨rfl, rfl⟩
  · have h' : ¬ key < 0 := by omega
    go_enter Tryd.func46, Tryd.ntmps46
    go_wp2
    go_ret2
    exact ⟨rfl, rfl⟩
set_option maxRecDepth 100000 in
set_option maxHeartbeats 1000000 in
theorem sign_no (v v' : Value) (key : Int) (w : World) (hk : key < 0 ∨ 8 ≤ key) :
    Calls Tryd.prog 45 #[v, .int .i64 key, v'] w fun e w' => e = .returned (.tuple #[.slice none 0 0, .int .i64 30]) ∧ w = w' := by
  rcases hk with h | h
  · go_enter Tryd.func45, Tryd.ntmps45
    go_wp2
    go_ret2
    exact ⟨rfl, rfl⟩
  · have h' : ¬ key < 0 := by omega
    go_enter Tryd.func45, Tryd.ntmps45
    go_wp2
    go_ret2
    exact ⟨rfl, rfl⟩

set_option maxRecDepth 100000 in
set_option maxHeartbeats 4000000 in
theorem sign_any (a a' : Option Addr) (n d n' d' : Nat) (seed msg : List UInt8) (key : Nat) (w : World) (hs : Bs w a n d seed) (hm : Bs w a' n' d' msg) (hk : key < 8) (hK : KAt w) :
    Calls Tryd.prog 45 #[.slice a n d, .int .i64 key, .slice a' n' d'] w (RetS2 (sigOf seed key msg) w) := by
  have HS := Lib.hid hs
  have HM := Lib.hid hm
  have HK := Lib.hid hK
  have i0 : (0 : Int) ≤ (key : Int) := by omega
  have i8 : (key : Int) < 8 := by omega
  clear hs hm hK
  go_enter Tryd.func45, Tryd.ntmps45
  go_wp2_with (fail)
  refine (tree_any 0 a n d seed w HS.out (Nat.zero_le _) HK.out).mono ?_
  rintro e w1 ⟨g, c, X, rfl, hb1, hv⟩
  have g3 : w1.cell? ⟨g, 3, none⟩ = some (X 3) := by rw [hv.row.cellAt 3 (by omega)]; rfl
  obtain ⟨vs, hl⟩ := hv.lst 3 (Nat.le_refl _)
  obtain ⟨a3, d3, e3, hs3⟩ := hl.sl
  rw [e3] at g3
  have hl3 : (levelOf seed 3).length = 1 := levelOf_length seed 3 (by omega)
  rw [hl3] at g3 hs3
  obtain ⟨b, o, a5, n5, c5, rfl, g5, p5⟩ := Pts.read hs3 hl.pts (j := 0) (by omega)
  have HP5 : Hid (Pt w1 0 (.slice a5 n5 c5) (rootOf seed)) := p5
  rw [Nat.add_zero] at g5
  have HB1 := Lib.hid hb1
  have HV1 := Lib.hid hv
  clear hb1 hv hl hs3 p5 e3 hl3
  go_wp2_with (fail)
  clear g3 g5
  refine (digits_any w1.heap.size _ _ _ _ _ _ (rootOf seed) msg key w1 (HP5.out.mono (Nat.zero_le _)) (.arg (HM.out.below HB1.out) (Nat.le_refl _)) (by omega) (HK.out.below HK.out.pos HB1.out)).mono ?_
  rintro e w4 ⟨rfl, hb4⟩
  have HB4 := Lib.hid (below_then HB1.out HB1.out.size hb4)
  have HV4 := Lib.hid (HV1.out.below hb4)
  have HD : Hid (sigOf seed key msg = chainsOf seed key (digits (rootOf seed) key msg) 18 ++ pathOf seed key 3) := rfl
  have HDL := Lib.hid (digits_length (rootOf seed) key msg)
  have HDM : Hid (∀ c, digitAt (digits (rootOf seed) key msg) c ≤ 15) := fun c => digitAt_le _ _ _ c
  clear hb4 HV1 HP5
  generalize digits (rootOf seed) key msg = ds at HD HDL HDM ⊢
  go_wp2_with (fail)
  go_loopw [9, 29] (fun x i wr => ∃ k : Nat, k ≤ 18 ∧ i = .int .i64 k ∧ Hid (Below w4.heap.size w4 wr) ∧ Hid (wr.ownsRow w4.heap.size 5 1 x (chainsOf seed key ds k).length (bts (chainsOf seed key ds k)))) (fun _ i _ => 18 - (intOf i).toNat)
  case atStart => exact ⟨0, by omega, rfl, Below.refl _ _, (World.ownsRow_nil w4 w4.heap.size 5 1 : w4.ownsRow w4.heap.size 5 1 (.slice none 0 0) 0 [])⟩
  case round =>
    obtain ⟨k, hk18, rfl, HB, HO⟩ := hrel
    have HBW := Lib.hid (below_then HB4.out HB4.out.size HB.out)
    by_cases hlt : k < 18
    · have hix := fun wx => run_index_nums wx ds k hlt HDL.out
      have j0 : (0 : Int) ≤ (k : Int) := by omega
      have j1 : (k : Int) < 18 := by omega
      have hd15 := HDM.out k
      have HE := Lib.hid (chainsOf_succ seed key ds k)
      have H32 := Lib.hid (chainsOf_32 seed key ds k)
      have hlen : Hid ((chainsOf seed key ds k).length + 32 ≤ 140737488355328) := by show _ ≤ _; rw [chains_len]; omega
      generalize digitAt ds k = dk at hix hd15 HE H32
      go_wp2_with (fail)
      clear hix
      refine (secret_any 0 a n d seed key k wr (.arg (HS.out.below HBW.out) (Nat.le_refl _)) (by omega) (by omega) (HK.out.below HK.out.pos HBW.out)).mono ?_
      rintro e w5 ⟨a5, n5, d5, rfl, hb5, hp5⟩
      have HB5 := Lib.hid (below_then HB.out HB.out.size hb5)
      have HB5W := Lib.hid (below_then HBW.out HBW.out.size hb5)
      have HP5 := Lib.hid hp5
      have HO5 := Lib.hid (own_keep HO.out hb5)
      clear hb5 hp5
      go_wp2_with (fail)
      refine (walk_any 0 _ _ _ (secretOf seed key k) k 0 dk w5 HP5.out (by omega) (by omega) (by omega) (HK.out.below HK.out.pos HB5W.out)).mono ?_
      rintro e w6 ⟨a6, n6, d6, rfl, hb6, hp6⟩
      have HB6 := Lib.hid (below_then HB5.out HB5.out.size hb6)
      have HO6 := Lib.hid (own_keep HO5.out hb6)
      have hn6 : n6 = 32 := by rw [← hp6.bs.blen, Nat.sub_zero]; exact H32.out
      subst hn6
      have HS6 : Hid (Bs w6 a6 32 d6 (chain k 0 dk (secretOf seed key k))) := hp6.bs
      clear hb6 hp6 HO HO5
      go_wp2_with (at_builtin; refine app_b (w0 := w4) rfl (.tmp 33) (.tmp 40) rfl _ _ rfl HO6 HB6 _ _ _ _ rfl HS6 hlen ?_; intro v7 w7 HO7 HB7)
      exact ⟨⟨k + 1, by omega, by go_num, HB7, by rw [HE.out]; exact HO7⟩, by simp [intOf]; omega⟩
    · obtain rfl : k = 18 := by omega
      have i18 : ¬ ((18 : Nat) : Int) < 18 := by omega
      have HO0 : Hid (wr.ownsRow w4.heap.size 5 1 u9 (chainsOf seed key ds 18 ++ pathOf seed key 0).length (bts (chainsOf seed key ds 18 ++ pathOf seed key 0))) := by
        show World.ownsRow _ _ _ _ _ _ _
        have e : chainsOf seed key ds 18 ++ pathOf seed key 0 = chainsOf seed key ds 18 := by simp [pathOf]
        rw [e]; exact HO.out
      clear HO HBW
      go_wp2_with (fail)
      go_loopw [9, 43] (fun x i wr => ∃ k : Nat, k ≤ 3 ∧ i = .int .i64 k ∧ Hid (Below w4.heap.size w4 wr) ∧ Hid (wr.ownsRow w4.heap.size 5 1 x (chainsOf seed key ds 18 ++ pathOf seed key k).length (bts (chainsOf seed key ds 18 ++ pathOf seed key k)))) (fun _ i _ => 3 - (intOf i).toNat)
      case atStart => exact ⟨0, by omega, rfl, HB, HO0⟩
      case round =>
        clear HB HO0
        obtain ⟨k, hk3, rfl, HB, HO⟩ := hrel
        by_cases hlt2 : k < 3
        · have hv := HV4.out.below HB.out
          have g3 : wr.cell? ⟨g, k, none⟩ = some (X k) := by
            rw [hv.row.cellAt k (by omega), List.getElem?_map, List.getElem?_range (by omega)]; rfl
          obtain ⟨vs, hl⟩ := hv.lst k (by omega)
          obtain ⟨a3, d3, e3, hs3⟩ := hl.sl
          have hlk := levelOf_length seed k (by omega)
          obtain ⟨L, hL, hkL⟩ : ∃ L, 8 / 2 ^ k = 2 * L ∧ key / 2 ^ k < 2 * L := by
            have : k = 0 ∨ k = 1 ∨ k = 2 := by omega
            rcases this with rfl | rfl | rfl
            · exact ⟨4, rfl, by omega⟩
            · exact ⟨2, rfl, by omega⟩
            · exact ⟨1, rfl, by omega⟩
          have hk8 : key / 2 ^ k < 8 := Nat.lt_of_le_of_lt (Nat.div_le_self _ _) hk
          have hx := xor1_eq (key / 2 ^ k) hk8
          have hbl := beside_lt _ _ hkL
          rw [hlk, hL] at e3 hs3
          rw [e3] at g3
          obtain ⟨b, o, a5, n5, c5, rfl, g5, p5⟩ := Pts.read hs3 hl.pts (j := beside (key / 2 ^ k)) hbl
          have h32 := path_32 seed key hk k hlt2
          have hn5 : n5 = 32 := by rw [← p5.bs.blen]; exact h32
          subst hn5
          have HS5 := Lib.hid p5.bs
          have HE := Lib.hid (pathOf_succ seed key k)
          have hlen : Hid ((chainsOf seed key ds 18 ++ pathOf seed key k).length + 32 ≤ 140737488355328) := by
            show _ ≤ _; rw [List.length_append, chains_len, path_len seed key k hk hk3]; omega
          have hy : (key : Int) / 2 ^ k = ((key / 2 ^ k : Nat) : Int) := by simp
          have j0 : (0 : Int) ≤ (k : Int) := by omega
          have j1 : (k : Int) < 3 := by omega
          have j4 : (k : Int) < 4 := by omega
          clear hv hl hs3 e3 hlk hL p5 h32
          generalize key / 2 ^ k = y at hx hbl hy g5 HS5 HE hkL hk8
          have j2 : (0 : Int) ≤ ((beside y : Nat) : Int) := by omega
          have j3 : ((beside y : Nat) : Int) < 2 * (L : Int) := by omega
          go_wp2_with (fail)
          have hbd : Below wr.heap.size wr wr.drew := (Below.refl _ _).drew
          have HBD := Lib.hid (below_then HB.out HB.out.size hbd)
          have HOD := Lib.hid (own_keep HO.out hbd)
          have HSD := Lib.hid (HS5.out.below hbd)
          clear hbd
          go_region_law (refine step_app_b (w0 := w4) rfl (.tmp 46) (.tmp 56) rfl _ _ rfl HOD HBD _ _ _ _ rfl HSD hlen ?_; intro v7 w7 HO7 HB7)
          all_goals go_wp2_with (fail)
          all_goals (
            have HO8 : Hid (w7.ownsRow w4.heap.size 5 1 v7 (chainsOf seed key ds 18 ++ pathOf seed key (k + 1)).length (bts (chainsOf seed key ds 18 ++ pathOf seed key (k + 1)))) := by
              show World.ownsRow _ _ _ _ _ _ _
              rw [HE.out, ← List.append_assoc]; exact HO7.out
            exact ⟨⟨k + 1, by omega, by go_num, HB7, HO8⟩, by simp [intOf]; omega⟩)
        · obtain rfl : k = 3 := by omega
          have i3 : ¬ ((3 : Nat) : Int) < 3 := by omega
          have HO10 : Hid (wr.ownsRow w4.heap.size 5 1 u9 (sigOf seed key msg).length (bts (sigOf seed key msg))) := by
            show World.ownsRow _ _ _ _ _ _ _
            rw [HD.out]; exact HO.out
          obtain ⟨a9, c9, e9, hs9⟩ := own_sl HO10.out
          rw [sigOf_length seed key msg hk] at e9 hs9
          subst e9
          have HS9 := Lib.hid hs9
          clear hs9
          go_wp2_with (fail)
          go_ret2
          exact ⟨_, _, rfl, below_then HB4.out HB4.out.size HB.out, HS9.out⟩
end Go.Proofs.YteceagldjnfeeaaDoor

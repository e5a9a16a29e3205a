/- The walks of isthmuslaw04: SignSigns, SignShape, SignHolds. -/
import Derived.Test.YteceagldjnfeeaaDoorLaw4
import Derived.Test.YteceagldjnfeeaaDoorSgn
import Derived.Test.YteceagldjnfeeaaDoorSgw
namespace Go.Proofs.YteceagldjnfeeaaDoor
open Go.RowKit
set_option linter.unusedVariables false
set_option linter.unusedSimpArgs false

theorem root32 (a : Option Addr) (n d : Nat) (seed : List UInt8) (w : World) (hs : Bs w a n d seed) (hK : KAt w) :
    Calls Tryd.prog 33 #[.slice a n d] w fun e w' => ∃ a c, e = .returned (.slice a 32 c) ∧ Below w.heap.size w w' ∧ Pt w' 0 (.slice a 32 c) (rootOf seed) := by
  refine (root_any 0 a n d seed w hs (Nat.zero_le _) hK).mono ?_
  rintro e w1 ⟨a1, n1, d1, rfl, hb1, hp1⟩
  have hn1 : n1 = 32 := by rw [← hp1.bs.blen, rootOf_length]
  subst hn1
  exact ⟨_, _, rfl, hb1, hp1⟩

set_option maxRecDepth 100000 in
set_option maxHeartbeats 1000000 in
theorem signHolds_walk (a a' : Option Addr) (n d n' d' : Nat) (seed msg : List UInt8) (key : Int) (w : World) (hs : Bs w a n d seed) (hm : Bs w a' n' d' msg) (hK : KAt w) :
    Calls Tryd.prog 14 #[.slice a n d, .int .i64 key, .slice a' n' d'] w fun e w' => e = .returned (.bool true) ∧ Below w.heap.size w w' := by
  have HS := Lib.hid hs
  have HM := Lib.hid hm
  have HK := Lib.hid hK
  clear hs hm hK
  by_cases hk : 0 ≤ key ∧ key < 8
  · obtain ⟨h0, h8⟩ := hk
    obtain ⟨k, rfl⟩ : ∃ k : Nat, key = (k : Int) := ⟨key.toNat, by omega⟩
    have hk8 : k < 8 := by omega
    have h7 : (k : Int) ≤ 7 := by omega
    have HV := Lib.hid (signed_verifies seed k msg hk8)
    go_enter Tryd.func14, Tryd.ntmps14
    go_wp2_with (fail)
    refine (sign_any _ _ _ _ _ _ seed msg k w HS.out HM.out hk8 HK.out).mono ?_
    rintro e w1 ⟨a1, c1, rfl, hb1, hs1⟩
    have HB1 := Lib.hid hb1
    have HS1 := Lib.hid hs1
    clear hb1 hs1
    go_wp2_with (fail)
    refine (root32 _ _ _ seed w1 (HS.out.below HB1.out) (HK.out.below HK.out.pos HB1.out)).mono ?_
    rintro e w2 ⟨a2, c2, rfl, hb2, hp2⟩
    have HB2 := Lib.hid (below_then HB1.out HB1.out.size hb2)
    have HP2 := Lib.hid hp2
    have HS2 := Lib.hid (HS1.out.below hb2)
    clear hb2 hp2
    go_wp2_with (fail)
    refine (verify_any _ _ _ 0 _ _ _ _ (rootOf seed) msg (sigOf seed k msg) k w2 HP2.out.bs (HM.out.below HB2.out) HS2.out hk8 (HK.out.below HK.out.pos HB2.out)).mono ?_
    rintro e w3 ⟨rfl, hb3⟩
    have HB3 := Lib.hid (below_then HB2.out HB2.out.size hb3)
    clear hb3
    rw [HV.out]
    go_wp2_with (fail)
    go_ret
    exact ⟨rfl, HB3.out⟩
  · have hor : key < 0 ∨ 7 < key := by omega
    have hnot := Lib.hid (show key < 0 ∨ 8 ≤ key by omega)
    have hdec : (decide (key < 0) || decide (7 < key)) = true := by simpa using hor
    clear hk hor
    go_enter Tryd.func14, Tryd.ntmps14
    go_wp2_with (fail)
    refine (sign_no _ _ key w hnot.out).mono ?_
    rintro e w1 ⟨rfl, rfl⟩
    by_cases hk0 : key < 0
    · go_wp2_with (fail)
      refine (root32 _ _ _ seed w HS.out HK.out).mono ?_
      rintro e w2 ⟨a2, c2, rfl, hb2, hp2⟩
      have HB2 := Lib.hid hb2
      clear hb2 hp2
      go_wp2_with (fail)
      go_ret
      exact ⟨rfl, HB2.out⟩
    · have hk7 : 7 < key := by have := hnot.out; omega
      go_wp2_with (fail)
      refine (root32 _ _ _ seed w HS.out HK.out).mono ?_
      rintro e w2 ⟨a2, c2, rfl, hb2, hp2⟩
      have HB2 := Lib.hid hb2
      clear hb2 hp2
      go_wp2_with (fail)
      go_ret
      exact ⟨rfl, HB2.out⟩

/-- What Sign answers. -/
def signOut (seed : List UInt8) (key : Int) (msg : List UInt8) : List UInt8 := if 0 ≤ key ∧ key < 8 then sigOf seed key.toNat msg else []
def signErr (key : Int) : Int := if 0 ≤ key ∧ key < 8 then 0 else 30
theorem sign_all (a a' : Option Addr) (n d n' d' : Nat) (seed msg : List UInt8) (key : Int) (w : World) (hs : Bs w a n d seed) (hm : Bs w a' n' d' msg) (hK : KAt w) :
    Calls Tryd.prog 45 #[.slice a n d, .int .i64 key, .slice a' n' d'] w fun e w' => ∃ ad m c, e = .returned (.tuple #[.slice ad m c, .int .i64 (signErr key)]) ∧ Below w.heap.size w w' ∧ Bs w' ad m c (signOut seed key msg) := by
  by_cases hk : 0 ≤ key ∧ key < 8
  · obtain ⟨k, rfl⟩ : ∃ k : Nat, key = (k : Int) := ⟨key.toNat, by omega⟩
    refine (sign_any a a' n d n' d' seed msg k w hs hm (by omega) hK).mono ?_
    rintro e w' ⟨ad, c, rfl, hb, hp⟩
    refine ⟨ad, 672, c, by rw [signErr, if_pos hk], hb, ?_⟩
    rw [signOut, if_pos hk, Int.toNat_natCast]; exact hp
  · refine (sign_no _ _ key w (by omega)).mono ?_
    rintro e w' ⟨rfl, rfl⟩
    refine ⟨none, 0, 0, by rw [signErr, if_neg hk], Below.refl _ _, ?_⟩
    rw [signOut, if_neg hk]; exact Sl.nil w
theorem rsign_all (a a' : Option Addr) (n d n' d' : Nat) (seed msg : List UInt8) (key : Int) (w : World) (hs : Bs w a n d seed) (hm : Bs w a' n' d' msg) (hK : KAt1 w) :
    Calls Tryd.prog 46 #[.slice a n d, .int .i64 key, .slice a' n' d'] w fun e w' => ∃ ad m c, e = .returned (.tuple #[.slice ad m c, .int .i64 (signErr key)]) ∧ Below w.heap.size w w' ∧ Bs w' ad m c (signOut seed key msg) := by
  by_cases hk : 0 ≤ key ∧ key < 8
  · obtain ⟨k, rfl⟩ : ∃ k : Nat, key = (k : Int) := ⟨key.toNat, by omega⟩
    refine (rsign_any a a' n d n' d' seed msg k w hs hm (by omega) hK).mono ?_
    rintro e w' ⟨ad, c, rfl, hb, hp⟩
    refine ⟨ad, 672, c, by rw [signErr, if_pos hk], hb, ?_⟩
    rw [signOut, if_pos hk, Int.toNat_natCast]; exact hp
  · refine (rsign_no _ _ key w (by omega)).mono ?_
    rintro e w' ⟨rfl, rfl⟩
    refine ⟨none, 0, 0, by rw [signErr, if_neg hk], Below.refl _ _, ?_⟩
    rw [signOut, if_neg hk]; exact Sl.nil w

set_option maxRecDepth 100000 in
set_option maxHeartbeats 2000000 in
theorem signSigns_walk (a a' : Option Addr) (n d n' d' : Nat) (seed msg : List UInt8) (key : Int) (w : World) (hs : Bs w a n d seed) (hm : Bs w a' n' d' msg) (hn : n ≤ 140737488351232) (hn' : n' ≤ 140737488351232) (hK : KAt w) (hK1 : KAt1 w) :
    Calls Tryd.prog 10 #[.slice a n d, .int .i64 key, .slice a' n' d'] w fun e w' => e = .returned (.bool true) ∧ Below w.heap.size w w' := by
  have HS := Lib.hid hs
  have HM := Lib.hid hm
  have HK := Lib.hid hK
  have HK1 := Lib.hid hK1
  have hb0 : Hid (([] : List UInt8).length + n ≤ 140737488355328) := by show 0 + n ≤ _; omega
  have hb0' : Hid (([] : List UInt8).length + n' ≤ 140737488355328) := by show 0 + n' ≤ _; omega
  have hT := row0_below w
  have HR := row0_own w
  have HS1 := Lib.hid (HS.out.below hT.out)
  clear hs hm hK hK1
  go_enter Tryd.func10, Tryd.ntmps10
  go_wp2_with (first
    | (at_builtin; refine app_b (w0 := w) rfl (.tmp 14) (.tmp 15) rfl _ _ rfl HR hT _ _ _ _ rfl HS1 hb0 ?_; intro v1 w1 HO1 HB1; obtain ⟨a1, c1, rfl, hs1⟩ := own_sl HO1.out; have HC1 := Lib.hid hs1; have hT1 := row0_below w1; have HR1 := row0_own w1; have HM1 := Lib.hid ((HM.out.below HB1.out).below hT1.out); clear hs1 HO1)
    | (at_builtin; refine app_b (w0 := w1) rfl (.tmp 17) (.tmp 18) rfl _ _ rfl HR1 hT1 _ _ _ _ rfl HM1 hb0' ?_; intro v2 w2 HO2 HB2; obtain ⟨a2, c2, rfl, hs2⟩ := own_sl HO2.out; have HC2 := Lib.hid hs2; clear hs2 HO2))
  have HC12 : Hid (Bs w2 a1 _ c1 seed) := (HC1.out.below HB2.out)
  have HC22 : Hid (Bs w2 a2 _ c2 msg) := HC2.out
  have HB2w := Lib.hid (below_then HB1.out HB1.out.size HB2.out)
  clear HB2 HB1 HC1 HC2 hT HR hT1 HR1 HS1 HM1
  refine (root32 a n d seed w2 (HS.out.below HB2w.out) (HK.out.below HK.out.pos HB2w.out)).mono ?_
  rintro e w3 ⟨a3, c3, rfl, hb3, hp3⟩
  have HB3 := Lib.hid (below_then HB2w.out HB2w.out.size hb3)
  have HP3 := Lib.hid hp3
  have HC13 := Lib.hid (HC12.out.below hb3)
  have HC23 := Lib.hid (HC22.out.below hb3)
  clear hb3 hp3 HC12 HC22 HB2w
  go_wp2_with (fail)
  refine (sign_all _ _ _ _ _ _ seed msg key w3 (HS.out.below HB3.out) (HM.out.below HB3.out) (HK.out.below HK.out.pos HB3.out)).mono ?_
  rintro e w4 ⟨a4, n4, c4, rfl, hb4, hp4⟩
  have HB4 := Lib.hid (below_then HB3.out HB3.out.size hb4)
  have HP4 := Lib.hid hp4
  have HP34 := Lib.hid (HP3.out.below hb4)
  have HC14 := Lib.hid (HC13.out.below hb4)
  have HC24 := Lib.hid (HC23.out.below hb4)
  clear hb4 hp4 HC13 HC23 HP3 HB3
  go_wp2_with (fail)
  refine (rsign_all _ _ _ _ _ _ seed msg key w4 HC14.out HC24.out (HK1.out.below HK1.out.pos HB4.out)).mono ?_
  rintro e w5 ⟨a5, n5, c5, rfl, hb5, hp5⟩
  have HB5 := Lib.hid (below_then HB4.out HB4.out.size hb5)
  have HP5 := Lib.hid hp5
  have HP45 := Lib.hid (HP4.out.below hb5)
  have HP35 := Lib.hid (HP34.out.below hb5)
  have HC15 := Lib.hid (HC14.out.below hb5)
  have HC25 := Lib.hid (HC24.out.below hb5)
  clear hb5 hp5 HC14 HC24 HP34 HP4 HB4
  go_wp2_with (fail)
  refine (rroot_any 0 _ _ _ seed w5 HC15.out (Nat.zero_le _) (HK1.out.below HK1.out.pos HB5.out)).mono ?_
  rintro e w6 ⟨a6, n6, c6, rfl, hb6, hp6⟩
  have HB6 := Lib.hid (below_then HB5.out HB5.out.size hb6)
  have HP6 := Lib.hid hp6
  have HP56 := Lib.hid (HP5.out.below hb6)
  have HP46 := Lib.hid (HP45.out.below hb6)
  have HP36 := Lib.hid (HP35.out.below hb6)
  have HC16 := Lib.hid (HC15.out.below hb6)
  have HC26 := Lib.hid (HC25.out.below hb6)
  clear hb6 hp6 HC15 HC25 HP35 HP45 HP5 HB5
  go_wp2_with (fail)
  refine (same4_yes _ _ _ _ _ _ (rootOf seed) w6 HP36.out.bs HP6.out.bs).mono ?_
  rintro e w7 ⟨rfl, hb7⟩
  have HB7 := Lib.hid (below_then HB6.out HB6.out.size hb7)
  have HP57 := Lib.hid (HP56.out.below hb7)
  have HP47 := Lib.hid (HP46.out.below hb7)
  have HC17 := Lib.hid (HC16.out.below hb7)
  have HC27 := Lib.hid (HC26.out.below hb7)
  clear hb7 HC16 HC26 HP36 HP46 HP56 HP6 HB6
  go_wp2_with (fail)
  refine (same4_yes _ _ _ _ _ _ (signOut seed key msg) w7 HP47.out HP57.out).mono ?_
  rintro e w8 ⟨rfl, hb8⟩
  have HB8 := Lib.hid (below_then HB7.out HB7.out.size hb8)
  have HC18 := Lib.hid (HC17.out.below hb8)
  have HC28 := Lib.hid (HC27.out.below hb8)
  clear hb8 HC17 HC27 HP47 HP57 HB7
  go_wp2_with (fail)
  refine (same4_yes _ _ _ _ _ _ seed w8 (HS.out.below HB8.out) HC18.out).mono ?_
  rintro e w9 ⟨rfl, hb9⟩
  have HB9 := Lib.hid (below_then HB8.out HB8.out.size hb9)
  have HC29 := Lib.hid (HC28.out.below hb9)
  clear hb9 HC18 HC28 HB8
  go_wp2_with (fail)
  refine (same4_yes _ _ _ _ _ _ msg w9 (HM.out.below HB9.out) HC29.out).mono ?_
  rintro e w10 ⟨rfl, hb10⟩
  have HB10 := Lib.hid (below_then HB9.out HB9.out.size hb10)
  clear hb10
  go_wp2_with (fail)
  go_ret
  exact ⟨rfl, HB10.out⟩

/-- What Verify answers. -/
def verifyAll (root : List UInt8) (key : Int) (msg sig : List UInt8) : Bool := decide (sig.length = 672 ∧ 0 ≤ key ∧ key < 8 ∧ root.length = 32) && verifyOf root key.toNat msg sig
theorem verify_all (ar am asl : Option Addr) (nr cr nm cm ns cs : Nat) (root msg sig : List UInt8) (key : Int) (w : World) (hr : Bs w ar nr cr root) (hm : Bs w am nm cm msg) (hs : Bs w asl ns cs sig) (hK : KAt w) :
    Calls Tryd.prog 48 #[.slice ar nr cr, .int .i64 key, .slice am nm cm, .slice asl ns cs] w fun e w' => e = .returned (.bool (verifyAll root key msg sig)) ∧ Below w.heap.size w w' := by
  have hrl := hr.blen
  have hsl := hs.blen
  by_cases hk : sig.length = 672 ∧ 0 ≤ key ∧ key < 8 ∧ root.length = 32
  · obtain ⟨k, rfl⟩ : ∃ k : Nat, key = (k : Int) := ⟨key.toNat, by omega⟩
    obtain rfl : nr = 32 := by omega
    obtain rfl : ns = 672 := by omega
    rw [verifyAll, decide_eq_true hk, Bool.true_and, Int.toNat_natCast]
    exact verify_any ar am asl 0 cr nm cm cs root msg sig k w hr hm hs (by omega) hK
  · rw [verifyAll, decide_eq_false hk, Bool.false_and]
    exact verify_not _ ar asl nr cr ns cs key w (by omega)
theorem rverify_all (ar am asl : Option Addr) (nr cr nm cm ns cs : Nat) (root msg sig : List UInt8) (key : Int) (w : World) (hr : Bs w ar nr cr root) (hm : Bs w am nm cm msg) (hs : Bs w asl ns cs sig) (hK : KAt1 w) :
    Calls Tryd.prog 49 #[.slice ar nr cr, .int .i64 key, .slice am nm cm, .slice asl ns cs] w fun e w' => e = .returned (.bool (verifyAll root key msg sig)) ∧ Below w.heap.size w w' := by
  have hrl := hr.blen
  have hsl := hs.blen
  by_cases hk : sig.length = 672 ∧ 0 ≤ key ∧ key < 8 ∧ root.length = 32
  · obtain ⟨k, rfl⟩ : ∃ k : Nat, key = (k : Int) := ⟨key.toNat, by omega⟩
    obtain rfl : nr = 32 := by omega
    obtain rfl : ns = 672 := by omega
    rw [verifyAll, decide_eq_true hk, Bool.true_and, Int.toNat_natCast]
    exact rverify_any ar am asl cr nm cm cs root msg sig k w hr hm hs (by omega) hK
  · rw [verifyAll, decide_eq_false hk, Bool.false_and]
    exact (rverify_not _ ar asl nr cr ns cs key w (by omega)).mono fun e w' ⟨h1, h2⟩ => ⟨h1, h2 ▸ Below.refl _ _⟩

set_option maxRecDepth 100000 in
set_option maxHeartbeats 2000000 in
theorem signShape_walk (ar am asl : Option Addr) (nr cr nm cm ns cs : Nat) (root msg sig : List UInt8) (key : Int) (w : World) (hr : Bs w ar nr cr root) (hm : Bs w am nm cm msg) (hs : Bs w asl ns cs sig) (hK : KAt w) :
    Calls Tryd.prog 13 #[.agg #[.slice ar nr cr, .int .i64 key, .slice am nm cm, .slice asl ns cs]] w fun e w' => e = .returned (.bool true) ∧ Below w.heap.size w w' := by
  have HB0 := row_below w (.cells #[.slice ar nr cr, .int .i64 key, .slice am nm cm, .slice asl ns cs] 59)
  have g0 : (w.alloc (.cells #[.slice ar nr cr, .int .i64 key, .slice am nm cm, .slice asl ns cs] 59)).heap[w.heap.size]? = some (.cells #[.slice ar nr cr, .int .i64 key, .slice am nm cm, .slice asl ns cs] 59 (0, 0)) := heap_alloc_new w _
  have HP0 : Hid ((w.alloc (.cells #[.slice ar nr cr, .int .i64 key, .slice am nm cm, .slice asl ns cs] 59)).cell? ⟨w.heap.size, 0, none⟩ = some (.slice ar nr cr)) := by show _ = _; rw [cell_of_row _ _ _ _ _ _ g0]; rfl
  have HP1 : Hid ((w.alloc (.cells #[.slice ar nr cr, .int .i64 key, .slice am nm cm, .slice asl ns cs] 59)).cell? ⟨w.heap.size, 1, none⟩ = some (.int .i64 key)) := by show _ = _; rw [cell_of_row _ _ _ _ _ _ g0]; rfl
  have HP2 : Hid ((w.alloc (.cells #[.slice ar nr cr, .int .i64 key, .slice am nm cm, .slice asl ns cs] 59)).cell? ⟨w.heap.size, 2, none⟩ = some (.slice am nm cm)) := by show _ = _; rw [cell_of_row _ _ _ _ _ _ g0]; rfl
  have HP3 : Hid ((w.alloc (.cells #[.slice ar nr cr, .int .i64 key, .slice am nm cm, .slice asl ns cs] 59)).cell? ⟨w.heap.size, 3, none⟩ = some (.slice asl ns cs)) := by show _ = _; rw [cell_of_row _ _ _ _ _ _ g0]; rfl
  have HR := Lib.hid hr
  have HM := Lib.hid hm
  have HS := Lib.hid hs
  have HK := Lib.hid hK
  have HL : Hid (verifyAll root key msg sig = true → ns = 672 ∧ 0 ≤ key ∧ key ≤ 7 ∧ nr = 32) := by
    intro h
    unfold verifyAll at h
    simp only [Bool.and_eq_true, decide_eq_true_eq] at h
    have h1 := hr.blen
    have h2 := hs.blen
    omega
  clear hr hm hs hK g0
  go_enter Tryd.func13, Tryd.ntmps13
  go_wp2_with (fail)
  generalize w.alloc (.cells #[.slice ar nr cr, .int .i64 key, .slice am nm cm, .slice asl ns cs] 59) = w0 at HB0 HP0 HP1 HP2 HP3 ⊢
  refine (verify_all _ _ _ _ _ _ _ _ _ root msg sig key w0 (HR.out.below HB0.out) (HM.out.below HB0.out) (HS.out.below HB0.out) (HK.out.below HK.out.pos HB0.out)).mono ?_
  rintro e w1 ⟨rfl, hb1⟩
  have HB1 := Lib.hid (below_then HB0.out HB0.out.size hb1)
  have g0 := cell_below hb1 HP0.out
  have g1 := cell_below hb1 HP1.out
  have g2 := cell_below hb1 HP2.out
  have g3 := cell_below hb1 HP3.out
  have G0 := Lib.hid g0
  have G1 := Lib.hid g1
  have G3 := Lib.hid g3
  clear hb1 HP0 HP1 HP2 HP3 g0 g1 g3
  by_cases hv : verifyAll root key msg sig = true
  · obtain ⟨e1, e2, e3, e4⟩ := HL.out hv
    subst e1 e4
    rw [hv]
    clear hv
    go_wp2_with (fail)
    clear g2
    refine (root32 _ _ _ msg w1 (HM.out.below HB1.out) (HK.out.below HK.out.pos HB1.out)).mono ?_
    rintro e w2 ⟨a2, c2, rfl, hb2, hp2⟩
    have HB2 := Lib.hid (below_then HB1.out HB1.out.size hb2)
    have g0 := cell_below hb2 G0.out
    have g1 := cell_below hb2 G1.out
    have g3 := cell_below hb2 G3.out
    clear hb2 hp2
    go_wp2_with (fail)
    go_ret
    exact ⟨rfl, HB2.out⟩
  · have hv2 : verifyAll root key msg sig = false := by simpa using hv
    rw [hv2]
    clear hv hv2
    go_wp2_with (fail)
    clear g2
    refine (root32 _ _ _ msg w1 (HM.out.below HB1.out) (HK.out.below HK.out.pos HB1.out)).mono ?_
    rintro e w2 ⟨a2, c2, rfl, hb2, hp2⟩
    have HB2 := Lib.hid (below_then HB1.out HB1.out.size hb2)
    clear hb2 hp2
    go_wp2_with (fail)
    go_ret
    exact ⟨rfl, HB2.out⟩
end Go.Proofs.YteceagldjnfeeaaDoor

/- The walks of isthmusref08.same, up and holds. -/
import Derived.Test.YteceagldjnfeeaaDoorMk8
namespace Go.Proofs.YteceagldjnfeeaaDoor
open Go.RowKit
set_option linter.unusedVariables false
set_option linter.unusedSimpArgs false

set_option maxRecDepth 100000 in
theorem same_any (a1 a2 : Option Addr) (n1 c1 n2 c2 : Nat) (xs ys : List UInt8) (w : World) (h1 : Bs w a1 n1 c1 xs) (h2 : Bs w a2 n2 c2 ys) :
    Calls Tryd.prog 101 #[.slice a1 n1 c1, .slice a2 n2 c2] w fun e w' => e = .returned (.bool (decide (xs = ys))) ∧ w' = w := by
  have k1 := conv_str h1
  have k2 := conv_str h2
  have HE := Lib.hid (str_beq xs ys)
  clear h1 h2
  go_enter Tryd.func101, Tryd.ntmps101
  go_wp2
  go_ret
  exact ⟨by rw [← HE.out]; rfl, rfl⟩

theorem Hs.nil_of {w : World} {D : Nat} {a : Option Addr} {c : Nat} {ls : List (List UInt8)} (h : Hs w D a 0 c ls) : ls = [] := List.eq_nil_of_length_eq_zero h.len

set_option maxRecDepth 100000 in
set_option maxHeartbeats 8000000 in
theorem up_any (m : Nat) : ∀ {D : Nat} (ah ap : Option Addr) (nh ch np cp i n : Nat) (h : List UInt8) (path : List (List UInt8)) (w : World), n ≤ m → i < n → n ≤ 65536 →
    Pt w D (.slice ah nh ch) h → Hs w D ap np cp path → KAt1 w →
    Calls Tryd.prog 127 #[.slice ah nh ch, .int .i64 i, .int .i64 n, .slice ap np cp] w (RetWay D h i n path w) := by
  induction m with
  | zero => intro D ah ap nh ch np cp i n h path w h1 h2; omega
  | succ m ih =>
    intro D ah ap nh ch np cp i n h path w hm hi hn hh hp hK
    have hcap := hp.caps
    have hnp : np ≤ 9223372036854775807 := by have := hcap.1; have := hcap.2; unfold maxLen at this; omega
    have HPL := Lib.hid hp.len
    by_cases h2 : 2 ≤ n
    · have i1 : ((n : Int) == 1) = false := by rw [beq_eq_false_iff_ne]; omega
      by_cases h0 : np = 0
      · subst h0
        obtain rfl := hp.nil_of
        have hr : Hid (wayOk i n [] = false) := wayOk_nil i n h2
        clear ih hh hp hK HPL
        go_enter Tryd.func127, Tryd.ntmps127
        go_wp2_with (fail)
        go_ret2
        exact ⟨none, 0, 0, by rw [hr.out]; rfl, Below.refl _ _, fun h => by rw [hr.out] at h; cases h⟩
      · obtain ⟨q, hq⟩ : ∃ q, np = q + 1 := ⟨np - 1, by omega⟩
        have n0 : ((np : Int) == 0) = false := by rw [beq_eq_false_iff_ne]; omega
        have jq : (np : Int) - 1 = (q : Int) := by omega
        have q0 : (0 : Int) ≤ (q : Int) := by omega
        have q1 : (q : Int) < (np : Int) := by omega
        obtain ⟨b, o, a2, n2, c2, hap, g1, hp2⟩ := hp.at q (by omega)
        subst hap
        have hpath : path = path.take q ++ [path.getD q []] := by
          have hl : path.length = q + 1 := by rw [HPL.out]; exact hq
          rw [List.getD_eq_getElem?_getD, List.getElem?_eq_getElem (by omega)]
          conv => lhs; rw [← List.take_of_length_le (l := path) (i := q + 1) (by omega), List.take_succ_eq_append_getElem (by omega)]
          rfl
        have hrest := hp.left q (by omega)
        have hn2 := hp2.bs.blen
        have HPATH := Lib.hid hpath
        have HREST := Lib.hid hrest
        have HP2 := Lib.hid hp2
        have HH := Lib.hid hh
        have HK := Lib.hid hK
        have hsl := fun wx => run_sl77_l wx b o np cp q (by omega)
        clear hpath hrest hp2 hh hK hp
        generalize path.take q = rest at HPATH HREST
        generalize path.getD q [] = bb at HPATH HP2 hn2
        by_cases h32 : n2 = 32
        · subst h32
          have hlt := half_lt n h2
          have hp0 := half_pos n
          have hspl := rsplit_ok n h2
          have HWL := Lib.hid (wayOk_left i n rest bb h2)
          have HWR := Lib.hid (wayOk_right i n rest bb h2)
          have HUL := Lib.hid (upOf_left h i n rest bb h2)
          have HUR := Lib.hid (upOf_right h i n rest bb h2)
          generalize half n = k at *
          have d32 : Hid (decide (bb.length = 32) = true) := decide_eq_true hn2
          by_cases hik : i < k
          · have j2 : (i : Int) < (k : Int) := by omega
            have CR : Hid (Calls Tryd.prog 127 #[.slice ah nh ch, .int .i64 i, .int .i64 k, .slice (some ⟨b, o, none⟩) q cp] w (RetWay D h i k rest w)) := ih ah _ nh ch q cp i k h rest w (by omega) hik (by omega) HH.out HREST.out HK.out
            have HE : Hid (wayOk i n path = wayOk i k rest) := by show _ = _; rw [HPATH.out, HWL.out hik, d32.out, Bool.true_and]
            have HU : Hid (wayOk i k rest = true → upOf h i n path = node (upOf h i k rest) bb) := fun hw => by rw [HPATH.out]; exact HUL.out hik hw
            clear ih HWL HWR HUL HUR HPATH hcap hm h2 hi hp0 hlt hn2 hq h0
            go_enter Tryd.func127, Tryd.ntmps127
            go_wp2_with (fail)
            refine (hspl.out w hn).mono ?_
            rintro e w' ⟨rfl, rfl⟩
            go_wp2_with (fail)
            refine CR.out.mono ?_
            rintro e w5 ⟨a5, n5, c5, rfl, hb5, hp5⟩
            have HB5 := Lib.hid hb5
            have HP5 := Lib.hid hp5
            clear hb5 hp5
            by_cases hw : wayOk i k rest = true
            · have hr : Hid (wayOk i n path = true) := by show _ = _; rw [HE.out, hw]
              have hu := Lib.hid (HU.out hw)
              have HP6 := Lib.hid (HP5.out hw)
              rw [hw]
              clear hw
              go_wp2_with (fail)
              refine (rtagged_row (D := D) D wNode _ 2 [upOf h i k rest, bb] w5 (by decide) rfl (by omega) (.cons HP6.out (.cons (HP2.out.below HB5.out) .nil)) (HK.out.below HK.out.pos HB5.out)).mono ?_
              rintro e w7 ⟨a7, n7, c7, rfl, hb7, hp7⟩
              have HB7 := Lib.hid (below_then HB5.out HB5.out.size hb7)
              have HP7 : Hid (Pt w7 D (.slice a7 n7 c7) (upOf h i n path)) := by show Pt _ _ _ _; rw [hu.out]; exact hp7
              clear hb7 hp7
              go_wp2_with (fail)
              go_ret2
              exact ⟨a7, n7, c7, by rw [hr.out]; rfl, HB7.out, fun _ => HP7.out⟩
            · have hw1 : wayOk i k rest = false := by simpa using hw
              have hr : Hid (wayOk i n path = false) := by show _ = _; rw [HE.out, hw1]
              rw [hw1]
              clear hw hw1
              go_wp2_with (fail)
              go_ret2
              exact ⟨none, 0, 0, by rw [hr.out]; rfl, HB5.out, fun h => by rw [hr.out] at h; cases h⟩
          · have j2 : ¬ (i : Int) < (k : Int) := by omega
            have j3 : (k : Int) ≤ (i : Int) := by omega
            have j4 : (i : Int) ≤ 65536 := by omega
            have j5 : (n : Int) ≤ 65536 := by omega
            have j6 : (k : Int) ≤ (n : Int) := by omega
            have e1 : (i : Int) - (k : Int) = ((i - k : Nat) : Int) := by omega
            have e2 : (n : Int) - (k : Int) = ((n - k : Nat) : Int) := by omega
            have CR : Hid (Calls Tryd.prog 127 #[.slice ah nh ch, .int .i64 ((i : Int) - (k : Int)), .int .i64 ((n : Int) - (k : Int)), .slice (some ⟨b, o, none⟩) q cp] w (RetWay D h (i - k) (n - k) rest w)) := by
              rw [e1, e2]
              exact ih ah _ nh ch q cp (i - k) (n - k) h rest w (by omega) (by omega) (by omega) HH.out HREST.out HK.out
            have HE : Hid (wayOk i n path = wayOk (i - k) (n - k) rest) := by show _ = _; rw [HPATH.out, HWR.out hik, d32.out, Bool.true_and]
            have HU : Hid (wayOk (i - k) (n - k) rest = true → upOf h i n path = node bb (upOf h (i - k) (n - k) rest)) := fun hw => by rw [HPATH.out]; exact HUR.out hik hw
            clear ih HWL HWR HUL HUR HPATH hcap hm h2 hi hp0 hlt hn2 e1 e2 hq h0
            go_enter Tryd.func127, Tryd.ntmps127
            go_wp2_with (fail)
            refine (hspl.out w hn).mono ?_
            rintro e w' ⟨rfl, rfl⟩
            go_wp2_with (fail)
            refine CR.out.mono ?_
            rintro e w5 ⟨a5, n5, c5, rfl, hb5, hp5⟩
            have HB5 := Lib.hid hb5
            have HP5 := Lib.hid hp5
            clear hb5 hp5
            by_cases hw : wayOk (i - k) (n - k) rest = true
            · have hr : Hid (wayOk i n path = true) := by show _ = _; rw [HE.out, hw]
              have hu := Lib.hid (HU.out hw)
              have HP6 := Lib.hid (HP5.out hw)
              rw [hw]
              clear hw
              go_wp2_with (fail)
              refine (rtagged_row (D := D) D wNode _ 2 [bb, upOf h (i - k) (n - k) rest] w5 (by decide) rfl (by omega) (.cons (HP2.out.below HB5.out) (.cons HP6.out .nil)) (HK.out.below HK.out.pos HB5.out)).mono ?_
              rintro e w7 ⟨a7, n7, c7, rfl, hb7, hp7⟩
              have HB7 := Lib.hid (below_then HB5.out HB5.out.size hb7)
              have HP7 : Hid (Pt w7 D (.slice a7 n7 c7) (upOf h i n path)) := by show Pt _ _ _ _; rw [hu.out]; exact hp7
              clear hb7 hp7
              go_wp2_with (fail)
              go_ret2
              exact ⟨a7, n7, c7, by rw [hr.out]; rfl, HB7.out, fun _ => HP7.out⟩
            · have hw1 : wayOk (i - k) (n - k) rest = false := by simpa using hw
              have hr : Hid (wayOk i n path = false) := by show _ = _; rw [HE.out, hw1]
              rw [hw1]
              clear hw hw1
              go_wp2_with (fail)
              go_ret2
              exact ⟨none, 0, 0, by rw [hr.out]; rfl, HB5.out, fun h => by rw [hr.out] at h; cases h⟩
        · have n3 : ((n2 : Int) != 32) = true := by rw [bne_iff_ne]; omega
          have hr : Hid (wayOk i n path = false) := by
            show _ = _
            rw [HPATH.out]
            have : decide (bb.length = 32) = false := decide_eq_false (by rw [hn2]; exact h32)
            by_cases hik : i < half n
            · rw [wayOk_left i n rest bb h2 hik, this, Bool.false_and]
            · rw [wayOk_right i n rest bb h2 hik, this, Bool.false_and]
          clear ih HPATH HREST hcap hm h2 hi hn2 h32 hq h0
          go_enter Tryd.func127, Tryd.ntmps127
          go_wp2_with (fail)
          go_ret2
          exact ⟨none, 0, 0, by rw [hr.out]; rfl, Below.refl _ _, fun h => by rw [hr.out] at h; cases h⟩
    · obtain rfl : n = 1 := by omega
      have hr : Hid (wayOk i 1 path = decide (path = [])) := wayOk_one i 1 path (by omega)
      by_cases h0 : np = 0
      · subst h0
        obtain rfl := hp.nil_of
        have hu : Hid (upOf h i 1 [] = h) := upOf_one h i 1 (by omega)
        have HH := Lib.hid hh
        clear ih hh hp hK HPL hi
        go_enter Tryd.func127, Tryd.ntmps127
        go_wp2_with (fail)
        go_ret2
        exact ⟨ah, nh, ch, by rw [hr.out]; rfl, Below.refl _ _, fun _ => by rw [hu.out]; exact HH.out⟩
      · have n0 : ((np : Int) == 0) = false := by rw [beq_eq_false_iff_ne]; omega
        have hr2 : Hid (wayOk i 1 path = false) := by show _ = _; rw [hr.out]; exact decide_eq_false (fun e => h0 (by rw [← HPL.out, e]; rfl))
        clear ih hh hp hK HPL hr hi
        go_enter Tryd.func127, Tryd.ntmps127
        go_wp2_with (fail)
        go_ret2
        exact ⟨ah, nh, ch, by rw [hr2.out]; rfl, Below.refl _ _, fun h => by rw [hr2.out] at h; cases h⟩
end Go.Proofs.YteceagldjnfeeaaDoor

/- The walks of the package isthmusref05: words and what hangs on them. -/
import Derived.Test.YteceagldjnfeeaaNm2
namespace Go.Proofs.Yteceagldjnfeeaa
open Go.RowKit
set_option linter.unusedVariables false
set_option linter.unusedSimpArgs false

theorem tx_str (l : List UInt8) : tx ⟨l.toArray⟩ = l := rfl
theorem size_str (l : List UInt8) : (⟨l.toArray⟩ : ByteArray).size = l.length := rfl
theorem rident_is (l : List UInt8) (b : Bool) (w : World) (h : identB l = b) (hl : l.length ≤ 140737488355328) : Calls Try.prog 16 #[str l] w fun e w' => e = .returned (.bool b) ∧ w = w' := by
  subst h; exact rident_any ⟨l.toArray⟩ w hl
theorem ident_is (l : List UInt8) (b : Bool) (w : World) (h : identB l = b) (hl : l.length ≤ 140737488355328) : Calls Try.prog 13 #[str l] w fun e w' => e = .returned (.bool b) ∧ Below w.heap.size w w' := by
  subst h; exact ident_any ⟨l.toArray⟩ w hl
theorem s47 (x : UInt8) : ((x.toNat : Int) == 47) = decide (x = slash) := by
  have := ub_is x 47
  unfold ub at this
  rw [show ((47 : Nat) : Int) = 47 from rfl] at this
  rw [this]
  congr 1
  rw [eq_iff_iff]
  constructor
  · intro h; exact UInt8.toNat_inj.1 h
  · rintro rfl; rfl

set_option maxRecDepth 100000 in
set_option maxHeartbeats 1000000 in
theorem words_any (s : ByteArray) (w : World) (hs : s.size ≤ 160) :
    Calls Try.prog 29 #[.string s] w fun e w' => ∃ a c, e = .returned (.slice a (words (tx s)).length c) ∧ Below w.heap.size w w' ∧ Sl w' a (words (tx s)).length c (strs (words (tx s))) := by
  have hl := tx_len s
  have HL := Lib.hid hl
  have GK : Hid (∀ (k : Nat) (h : k < s.size), s[k] = (tx s).getD k 0) := fun k h => (tx_at s k h).symm
  clear hl
  go_enter Try.func29, Try.ntmps29
  go_wp2_with (fail)
  go_loopw [3, 4, 5] (fun x f i wr => ∃ k : Nat, k ≤ s.size + 1 ∧ i = .int .i64 k ∧ f = .int .i64 ((wk (tx s) k).2 : Int) ∧ Hid (Below w.heap.size w wr) ∧ Hid (wr.ownsRow w.heap.size 9 1 x (wk (tx s) k).1.length (strs (wk (tx s) k).1))) (fun _ _ i _ => s.size + 1 - (intOf i).toNat)
  case atStart => exact ⟨0, by omega, rfl, rfl, Below.refl _ _, (World.ownsRow_nil w w.heap.size 9 1 : w.ownsRow w.heap.size 9 1 (.slice none 0 0) 0 [])⟩
  case round =>
    obtain ⟨k, hk, rfl, rfl, HB, HO⟩ := hrel
    by_cases hle : k ≤ s.size
    · obtain ⟨hf1, _, _, hf4⟩ := wk_inv (tx s) k (by rw [HL.out]; exact hle)
      have hstep : wk (tx s) (k + 1) = if k = (tx s).length ∨ (tx s).getD k 0 = slash then ((wk (tx s) k).1 ++ [((tx s).drop (wk (tx s) k).2).take (k - (wk (tx s) k).2)], k + 1) else wk (tx s) k := rfl
      have HST := Lib.hid hstep
      have hext := Lib.hid (ext_eq s (wk (tx s) k).2 k)
      have hlen : Hid ((wk (tx s) k).1.length ≤ 1000000) := by show _ ≤ _; omega
      clear hstep hf4
      generalize wk (tx s) k = q at hf1 HST hext hlen HO ⊢
      obtain ⟨o, f⟩ := q
      simp only at hf1 HST hext hlen HO ⊢
      have i0 : (0 : Int) ≤ (k : Int) := by omega
      have i1 : (k : Int) ≤ (s.size : Int) := by omega
      have i2 : (0 : Int) ≤ (f : Int) := by omega
      have i3 : (f : Int) ≤ (k : Int) := by omega
      have hd : Hid (Value.string (s.extract f k) = str (((tx s).drop f).take (k - f))) := by show _ = _; rw [hext.out]
      by_cases hend : k = s.size
      · have hv : Hid (wk (tx s) (k + 1) = (o ++ [((tx s).drop f).take (k - f)], k + 1)) := by show _ = _; rw [HST.out, if_pos (.inl (by rw [HL.out]; exact hend))]
        have e0 : ((k : Int) == (s.size : Int)) = true := by rw [hend]; simp
        have e0n : (k == s.size) = true := by rw [hend]; simp
        clear hext HST hend
        go_wp2_with (at_builtin; refine app_t (w0 := w) rfl (.tmp 22) (.tmp 27) rfl _ _ rfl HO HB _ _ hd rfl hlen ?_; intro v4 w4 HO4 HB4)
        exact ⟨⟨k + 1, by omega, by go_num, by rw [hv.out]; go_num, HB4, by rw [hv.out]; exact HO4⟩, by simp [intOf]; omega⟩
      · have hlt : k < s.size := by omega
        have e0 : ((k : Int) == (s.size : Int)) = false := by rw [beq_eq_false_iff_ne]; omega
        have e0n : (k == s.size) = false := by rw [beq_eq_false_iff_ne]; exact hend
        have i4 : (k : Int) < (s.size : Int) := by omega
        have hgk := Lib.hid (GK.out k hlt)
        by_cases hsl : (tx s).getD k 0 = slash
        · have hv : Hid (wk (tx s) (k + 1) = (o ++ [((tx s).drop f).take (k - f)], k + 1)) := by show _ = _; rw [HST.out, if_pos (.inr hsl)]
          have e1 : (((s[k]'hlt).toNat : Int) == 47) = true := by rw [hgk.out, s47, decide_eq_true hsl]
          clear hext HST hend hsl
          go_wp2_with (at_builtin; refine app_t (w0 := w) rfl (.tmp 22) (.tmp 27) rfl _ _ rfl HO HB _ _ hd rfl hlen ?_; intro v4 w4 HO4 HB4)
          exact ⟨⟨k + 1, by omega, by go_num, by rw [hv.out]; go_num, HB4, by rw [hv.out]; exact HO4⟩, by simp [intOf]; omega⟩
        · have hv : Hid (wk (tx s) (k + 1) = (o, f)) := by
            show _ = _
            rw [HST.out, if_neg]
            intro h
            rcases h with h | h
            · rw [HL.out] at h; exact hend h
            · exact hsl h
          have e1 : (((s[k]'hlt).toNat : Int) == 47) = false := by rw [hgk.out, s47, decide_eq_false hsl]
          clear hext HST hend hsl
          go_wp2_with (fail)
          exact ⟨⟨k + 1, by omega, by go_num, by rw [hv.out], HB, by rw [hv.out]; exact HO⟩, by simp [intOf]; omega⟩
    · obtain rfl : k = s.size + 1 := by omega
      have hw : Hid ((wk (tx s) (s.size + 1)).1 = words (tx s)) := by show _ = _; rw [← HL.out]; exact wk_end _
      rw [hw.out] at HO
      obtain ⟨a5, c5, rfl, hs5⟩ := own_sl HO.out
      have HS5 := Lib.hid hs5
      have i1 : ¬ (((s.size + 1 : Nat) : Int) ≤ (s.size : Int)) := by omega
      have i2 : (s.size : Int) < ((s.size + 1 : Nat) : Int) := by omega
      clear hs5
      go_wp2_with (fail)
      go_ret
      exact ⟨_, _, rfl, HB.out, HS5.out⟩

theorem words_lt (s : ByteArray) (hs : s.size ≤ 160) : 1 ≤ (words (tx s)).length ∧ (words (tx s)).length ≤ 161 := by
  have := words_le (tx s)
  rw [tx_len] at this
  omega
theorem word_short (s : ByteArray) (hs : s.size ≤ 160) (j : Nat) : ((words (tx s)).getD j []).length ≤ 160 := by
  have gen : ∀ (n : Nat) (l : List UInt8), l.length ≤ n → ∀ j, ((words l).getD j []).length ≤ l.length := by
    intro n
    induction n with
    | zero =>
      intro l hl j
      have : l = [] := List.eq_nil_of_length_eq_zero (by omega)
      subst this
      rw [words_none rfl]
      cases j <;> simp
    | succ n ih =>
      intro l hl j
      rcases h : cutAt l with _ | ⟨a, b⟩
      · rw [words_none h]
        cases j <;> simp
      · rw [words_some h]
        have e := (cutAt_some h).1
        have h2 := cutAt_lt h
        cases j with
        | zero => rw [List.getD_cons_zero, e]; simp
        | succ j =>
          rw [List.getD_cons_succ]
          have := ih b (by omega) j
          omega
  have := gen _ (tx s) (Nat.le_refl _) j
  rw [tx_len] at this
  omega

set_option maxRecDepth 100000 in
set_option maxHeartbeats 2000000 in
theorem rdenom_any (s : ByteArray) (w : World) :
    Calls Try.prog 18 #[.string s] w fun e w' => e = .returned (.bool (denomB (tx s))) ∧ Below w.heap.size w w' := by
  have hdw := denom_words (tx s)
  rw [tx_len] at hdw
  by_cases hs : s.size ≤ 160
  · rw [decide_eq_true hs, Bool.true_and] at hdw
    have HDW := Lib.hid hdw
    obtain ⟨hw1, hw2⟩ := words_lt s hs
    have hsh := Lib.hid (word_short s hs)
    have i0 : (s.size : Int) ≤ 160 := by omega
    clear hdw
    go_enter Try.func18, Try.ntmps18
    go_wp2_with (fail)
    refine (words_any s w hs).mono ?_
    rintro e w1 ⟨a1, c1, rfl, hb1, hs1⟩
    have HB1 := Lib.hid hb1
    have HS1 := Lib.hid hs1
    obtain ⟨b, o, rfl, _⟩ := hs1.at (j := 0) (by omega)
    have hcell : Hid (∀ j, j < (words (tx s)).length → w1.cell? ⟨b, o + j, none⟩ = some (str ((words (tx s)).getD j []))) := fun j hj => by
      obtain ⟨b', o', e, hc⟩ := HS1.out.cells j _ (strs_get _ j hj)
      cases e
      exact hc
    clear hb1 hs1
    generalize words (tx s) = ws at hw1 hw2 hsh HS1 hcell HDW ⊢
    by_cases hpar : ws.length % 2 = 0
    · have q : (ws.length : Int) % 2 = 0 := by omega
      have hr : Hid (denomB (tx s) = false) := by show _ = _; rw [HDW.out]; unfold wordsB; rw [decide_eq_true hpar]; rfl
      clear hpar
      go_wp2_with (fail)
      go_ret
      exact ⟨by rw [hr.out]; rfl, HB1.out⟩
    · have q : (ws.length : Int) % 2 = 1 := by omega
      have g1 := hcell.out (ws.length - 1) (by omega)
      have j0 : (0 : Int) ≤ (ws.length : Int) - 1 := by omega
      have j1 : (ws.length : Int) - 1 < (ws.length : Int) := by omega
      have t1 : ((ws.length : Int) - 1).toNat = ws.length - 1 := by omega
      have hsl := hsh.out (ws.length - 1)
      have hx : Hid (denomB (tx s) = (identB (ws.getD (ws.length - 1) []) && pairsTo ws (ws.length / 2))) := by
        show _ = _
        rw [HDW.out]; unfold wordsB; rw [decide_eq_false hpar]; rfl
      by_cases hid : identB (ws.getD (ws.length - 1) []) = true
      · have hx2 : Hid (denomB (tx s) = pairsTo ws (ws.length / 2)) := by show _ = _; rw [hx.out, hid]; rfl
        clear hpar
        go_wp2_with (fail)
        refine (rident_is _ true w1 hid (by omega)).mono ?_
        rintro e w' ⟨rfl, rfl⟩
        clear hid g1 j0 j1 t1 hsl
        go_wp2_with (fail)
        go_loop [4] (fun i => ∃ j : Nat, 2 * j ≤ ws.length ∧ i = .int .i64 (2 * (j : Int)) ∧ Hid (pairsTo ws j = true)) (fun i => ws.length + 1 - (intOf i).toNat)
        case atStart => exact ⟨0, by omega, rfl, rfl⟩
        case round =>
          obtain ⟨j, hj, rfl, hp⟩ := hrel
          by_cases hlt : 2 * j + 1 < ws.length
          · have j0 : (0 : Int) ≤ 2 * (j : Int) := by omega
            have j1 : 2 * (j : Int) + 1 < (ws.length : Int) := by omega
            have j2 : 2 * (j : Int) < (ws.length : Int) := by omega
            have j3 : (0 : Int) ≤ 2 * (j : Int) + 1 := by omega
            have t1 : (2 * (j : Int)).toNat = 2 * j := by omega
            have t2 : (2 * (j : Int) + 1).toNat = 2 * j + 1 := by omega
            have g1 := hcell.out (2 * j) (by omega)
            have g2 := hcell.out (2 * j + 1) (by omega)
            have hsl := hsh.out (2 * j + 1)
            have hsu := Lib.hid (pairsTo_succ ws j)
            have hev : Hid (evenOk ws (2 * j) = (decide (ws.getD (2 * j) [] = wTransfer) && identB (ws.getD (2 * j + 1) []))) := rfl
            have hfa : Hid (evenOk ws (2 * j) = false → denomB (tx s) = false) := fun h => by
              rw [hx2.out]; exact pairsTo_false (by omega) h
            have k1 : IntKind.i64.wrap (2 * (j : Int) + 1) = 2 * (j : Int) + 1 := IntWalk.i64_in _ (by omega)
            have k2 : IntKind.i64.wrap (2 * (j : Int) + 2) = 2 * (j : Int) + 2 := IntWalk.i64_in _ (by omega)
            generalize ws.getD (2 * j) [] = t at g1 hev
            generalize ws.getD (2 * j + 1) [] = hh at g2 hev hsl
            have hev2 : Hid (evenOk ws (2 * j) = (decide (t = [116, 114, 97, 110, 115, 102, 101, 114]) && identB hh)) := hev
            clear hev
            by_cases ht : t = [116, 114, 97, 110, 115, 102, 101, 114]
            · have hev3 : Hid (evenOk ws (2 * j) = identB hh) := by show _ = _; rw [hev2.out, decide_eq_true ht]; rfl
              by_cases hh2 : identB hh = true
              · have hr : Hid (pairsTo ws (j + 1) = true) := by show _ = _; rw [hsu.out, hp.out, hev3.out, hh2]; rfl
                go_wp2_with (fail)
                refine (rident_is _ true w1 hh2 (by omega)).mono ?_
                rintro e w' ⟨rfl, rfl⟩
                clear hh2
                go_wp2_with (fail)
                go_round
                case rel => exact ⟨j + 1, by omega, by go_num, hr⟩
                case measure => simp [intOf]; omega
              · have hh3 : identB hh = false := by simpa using hh2
                have hr : Hid (denomB (tx s) = false) := hfa.out (by rw [hev3.out, hh3])
                go_wp2_with (fail)
                refine (rident_is _ false w1 hh3 (by omega)).mono ?_
                rintro e w' ⟨rfl, rfl⟩
                clear hh2 hh3
                go_wp2_with (fail)
                go_ret
                exact ⟨by rw [hr.out]; rfl, HB1.out⟩
            · have hr : Hid (denomB (tx s) = false) := hfa.out (by rw [hev2.out, decide_eq_false ht]; rfl)
              go_wp2_with (fail)
              go_ret
              exact ⟨by rw [hr.out]; rfl, HB1.out⟩
          · have hr : Hid (denomB (tx s) = true) := by
              show _ = _
              rw [hx2.out, show ws.length / 2 = j by omega, hp.out]
            have j1 : ¬ 2 * (j : Int) + 1 < (ws.length : Int) := by omega
            have j2 : (ws.length : Int) ≤ 2 * (j : Int) + 1 := by omega
            have k1 : IntKind.i64.wrap (2 * (j : Int) + 1) = 2 * (j : Int) + 1 := IntWalk.i64_in _ (by omega)
            go_wp2_with (fail)
            go_ret
            exact ⟨by rw [hr.out]; rfl, HB1.out⟩
      · have hid1 : identB (ws.getD (ws.length - 1) []) = false := by simpa using hid
        have hr : Hid (denomB (tx s) = false) := by show _ = _; rw [hx.out, hid1]; rfl
        clear hpar hid
        go_wp2_with (fail)
        refine (rident_is _ false w1 hid1 (by omega)).mono ?_
        rintro e w' ⟨rfl, rfl⟩
        go_wp2_with (fail)
        go_ret
        exact ⟨by rw [hr.out]; rfl, HB1.out⟩
  · have hr : Hid (denomB (tx s) = false) := by show _ = _; rw [hdw, decide_eq_false hs]; rfl
    have i0 : (160 : Int) < (s.size : Int) := by omega
    clear hdw
    go_enter Try.func18, Try.ntmps18
    go_wp2_with (fail)
    go_ret
    exact ⟨by rw [hr.out]; rfl, Below.refl _ _⟩

theorem denom_some {l : List UInt8} (h : denomB l = true) : ∃ p, parse l = some p ∧ l.length ≤ 160 := by
  unfold denomB at h
  simp only [Bool.and_eq_true, decide_eq_true_eq] at h
  obtain ⟨p, hp⟩ := Option.isSome_iff_exists.1 h.2
  exact ⟨p, hp, h.1⟩
def hopsN (l : List UInt8) : Nat := if denomB l = true then (hopsOf l).length else 0
def baseT (l : List UInt8) : List UInt8 := if denomB l = true then baseOf l else []
theorem hopsN_words (l : List UInt8) (h : denomB l = true) : hopsN l = (words l).length / 2 := by
  obtain ⟨p, hp, _⟩ := denom_some h
  rw [hopsN, if_pos h, hopsOf, hp]
  exact ((parseW_tells (words l)).2 p hp).1
theorem baseT_words (l : List UInt8) (h : denomB l = true) : baseT l = (words l).getD ((words l).length - 1) [] := by
  obtain ⟨p, hp, _⟩ := denom_some h
  rw [baseT, if_pos h, baseOf, hp]
  exact ((parseW_tells (words l)).2 p hp).2.1
/-- The first hop and the rest. -/
def hopT (l : List UInt8) : List UInt8 × List UInt8 × Bool := if denomB l = true then match hopsOf l with | h :: _ => (h, l.drop (9 + h.length + 1), true) | [] => ([], [], false) else ([], [], false)

set_option maxRecDepth 100000 in
set_option maxHeartbeats 1000000 in
theorem rhops_any (s : ByteArray) (w : World) :
    Calls Try.prog 22 #[.string s] w fun e w' => e = .returned (.int .i64 (hopsN (tx s) : Int)) ∧ Below w.heap.size w w' := by
  go_enter Try.func22, Try.ntmps22
  go_wp2_with (fail)
  refine (rdenom_any s w).mono ?_
  rintro e w1 ⟨rfl, hb1⟩
  have HB1 := Lib.hid hb1
  clear hb1
  by_cases hd : denomB (tx s) = true
  · have hs : s.size ≤ 160 := by obtain ⟨_, _, h⟩ := denom_some hd; rwa [tx_len] at h
    obtain ⟨hw1, hw2⟩ := words_lt s hs
    have hr := Lib.hid (hopsN_words _ hd)
    rw [hd]
    clear hd
    go_wp2_with (fail)
    refine (words_any s w1 hs).mono ?_
    rintro e w2 ⟨a2, c2, rfl, hb2, hs2⟩
    have HB2 := Lib.hid (below_then HB1.out HB1.out.size hb2)
    clear hb2 hs2
    generalize (words (tx s)).length = n at hw1 hw2 hr ⊢
    go_wp2_with (fail)
    go_ret
    exact ⟨by rw [hr.out]; show Ending.returned (.int .i64 ((n : Int) / 2)) = _; rw [Int.natCast_ediv]; rfl, HB2.out⟩
  · have hd1 : denomB (tx s) = false := by simpa using hd
    have hr : Hid (hopsN (tx s) = 0) := by show _ = _; rw [hopsN, if_neg hd]
    rw [hd1]
    clear hd hd1
    go_wp2_with (fail)
    go_ret
    exact ⟨by rw [hr.out]; rfl, HB1.out⟩

set_option maxRecDepth 100000 in
set_option maxHeartbeats 1000000 in
theorem rbase_any (s : ByteArray) (w : World) :
    Calls Try.prog 20 #[.string s] w fun e w' => e = .returned (str (baseT (tx s))) ∧ Below w.heap.size w w' := by
  go_enter Try.func20, Try.ntmps20
  go_wp2_with (fail)
  refine (rdenom_any s w).mono ?_
  rintro e w1 ⟨rfl, hb1⟩
  have HB1 := Lib.hid hb1
  clear hb1
  by_cases hd : denomB (tx s) = true
  · have hs : s.size ≤ 160 := by obtain ⟨_, _, h⟩ := denom_some hd; rwa [tx_len] at h
    obtain ⟨hw1, hw2⟩ := words_lt s hs
    have hr := Lib.hid (baseT_words _ hd)
    rw [hd]
    clear hd
    go_wp2_with (fail)
    refine (words_any s w1 hs).mono ?_
    rintro e w2 ⟨a2, c2, rfl, hb2, hs2⟩
    have HB2 := Lib.hid (below_then HB1.out HB1.out.size hb2)
    obtain ⟨b, o, rfl, _⟩ := hs2.at (j := 0) (by omega)
    have g1 : w2.cell? ⟨b, o + ((words (tx s)).length - 1), none⟩ = some (str (baseT (tx s))) := by
      obtain ⟨b', o', e, hc⟩ := hs2.cells ((words (tx s)).length - 1) _ (strs_get _ _ (by omega))
      cases e
      rw [hr.out]; exact hc
    clear hb2 hs2
    generalize (words (tx s)).length = n at hw1 hw2 g1 ⊢
    have j0 : (0 : Int) ≤ (n : Int) - 1 := by omega
    have j1 : (n : Int) - 1 < (n : Int) := by omega
    have t1 : ((n : Int) - 1).toNat = n - 1 := by omega
    go_wp2_with (fail)
    go_ret
    exact ⟨rfl, HB2.out⟩
  · have hd1 : denomB (tx s) = false := by simpa using hd
    have hr : Hid (baseT (tx s) = []) := by show _ = _; rw [baseT, if_neg hd]
    rw [hd1]
    clear hd hd1
    go_wp2_with (fail)
    go_ret
    exact ⟨by rw [hr.out]; rfl, HB1.out⟩
end Go.Proofs.Yteceagldjnfeeaa

/- The walks of isthmuslaw05: NameReads, NameBack, NameApart. -/
import Derived.Test.YteceagldjnfeeaaNm6
namespace Go.Proofs.Yteceagldjnfeeaa
open Go.RowKit
set_option linter.unusedVariables false
set_option linter.unusedSimpArgs false

theorem rdenom_is (s : ByteArray) (b : Bool) (w : World) (h : denomB (tx s) = b) :
    Calls Try.prog 18 #[.string s] w fun e w' => e = .returned (.bool b) ∧ Below w.heap.size w w' := by subst h; exact rdenom_any s w
theorem rbase_is (s : ByteArray) (b : List UInt8) (w : World) (h : baseT (tx s) = b) :
    Calls Try.prog 20 #[.string s] w fun e w' => e = .returned (str b) ∧ Below w.heap.size w w' := by subst h; exact rbase_any s w
theorem rhops_is (s : ByteArray) (n : Nat) (w : World) (h : hopsN (tx s) = n) :
    Calls Try.prog 22 #[.string s] w fun e w' => e = .returned (.int .i64 (n : Int)) ∧ Below w.heap.size w w' := by subst h; exact rhops_any s w

set_option maxRecDepth 100000 in
set_option maxHeartbeats 1000000 in
theorem nameReads_walk (s : ByteArray) (w : World) (hs : s.size ≤ 140737488355328) (hx : MX w) :
    Calls Try.prog 5 #[.string s] w fun e w' => e = .returned (.bool true) ∧ Below w.heap.size w w' := by
  have HX := Lib.hid hx
  clear hx
  obtain ⟨a, b, ok, hh⟩ : ∃ a b ok, hopT (tx s) = (a, b, ok) := ⟨_, _, _, rfl⟩
  obtain ⟨id, hi⟩ : ∃ id, identB (tx s) = id := ⟨_, rfl⟩
  obtain ⟨dn, hd⟩ : ∃ dn, denomB (tx s) = dn := ⟨_, rfl⟩
  obtain ⟨bs, hb⟩ : ∃ bs, baseT (tx s) = bs := ⟨_, rfl⟩
  obtain ⟨n, hn⟩ : ∃ n, hopsN (tx s) = n := ⟨_, rfl⟩
  have HH := Lib.hid hh
  have HI := Lib.hid hi
  have HD := Lib.hid hd
  have HBS := Lib.hid hb
  have HN := Lib.hid hn
  clear hh hi hd hb hn
  go_enter Try.func5, Try.ntmps5
  go_wp2_with (fail)
  refine (hop_is s a b ok w HH.out HX.out).mono ?_
  rintro e w1 ⟨rfl, hb1⟩
  have HB1 := Lib.hid hb1
  clear hb1
  go_wp2_with (fail)
  refine (rhop_is s a b ok w1 HH.out).mono ?_
  rintro e w2 ⟨rfl, hb2⟩
  have HB2 := Lib.hid (below_then HB1.out HB1.out.size hb2)
  clear hb2
  go_wp2_with (fail)
  refine (fixed_any w2 (HX.out.below HB2.out)).mono ?_
  rintro e w3 ⟨rfl, hb3⟩
  have HB3 := Lib.hid (below_then HB2.out HB2.out.size hb3)
  clear hb3
  go_wp2_with (fail)
  refine (identS_is s id w3 HI.out hs).mono ?_
  rintro e w4 ⟨rfl, hb4⟩
  have HB4 := Lib.hid (below_then HB3.out HB3.out.size hb4)
  clear hb4
  go_wp2_with (fail)
  refine (ridentS_is s id w4 HI.out hs).mono ?_
  rintro e w' ⟨rfl, rfl⟩
  go_wp2_with (fail)
  refine (denom_is s dn w4 HD.out (HX.out.below HB4.out)).mono ?_
  rintro e w5 ⟨rfl, hb5⟩
  have HB5 := Lib.hid (below_then HB4.out HB4.out.size hb5)
  clear hb5
  go_wp2_with (fail)
  refine (rdenom_is s dn w5 HD.out).mono ?_
  rintro e w6 ⟨rfl, hb6⟩
  have HB6 := Lib.hid (below_then HB5.out HB5.out.size hb6)
  clear hb6
  go_wp2_with (fail)
  refine (base_is s bs w6 HBS.out (HX.out.below HB6.out)).mono ?_
  rintro e w7 ⟨rfl, hb7⟩
  have HB7 := Lib.hid (below_then HB6.out HB6.out.size hb7)
  clear hb7
  go_wp2_with (fail)
  refine (rbase_is s bs w7 HBS.out).mono ?_
  rintro e w8 ⟨rfl, hb8⟩
  have HB8 := Lib.hid (below_then HB7.out HB7.out.size hb8)
  clear hb8
  go_wp2_with (fail)
  refine (hops_is s n w8 HN.out (HX.out.below HB8.out)).mono ?_
  rintro e w9 ⟨rfl, hb9⟩
  have HB9 := Lib.hid (below_then HB8.out HB8.out.size hb9)
  clear hb9
  go_wp2_with (fail)
  refine (rhops_is s n w9 HN.out).mono ?_
  rintro e w10 ⟨rfl, hb10⟩
  have HB10 := Lib.hid (below_then HB9.out HB9.out.size hb10)
  clear hb10
  go_wp2_with (fail)
  go_ret
  exact ⟨rfl, HB10.out⟩

/-! ### NameApart -/
theorem ident_denom {l : List UInt8} (h : identB l = true) : denomB l = true ∧ baseT l = l ∧ hopsN l = 0 := by
  have hp := ident_parse h
  have hl := ident_len h
  have hd : denomB l = true := by unfold denomB; rw [hp, decide_eq_true (by omega)]; rfl
  refine ⟨hd, ?_, ?_⟩
  · unfold baseT baseOf; rw [if_pos hd, hp]
  · unfold hopsN hopsOf; rw [if_pos hd, hp]; rfl
theorem denom_flat {l : List UInt8} (h : denomB l = true) : identB (baseT l) = true ∧ (hopsN l = 0 ↔ baseT l = l) := by
  obtain ⟨⟨r, b⟩, hp, _⟩ := denom_some h
  have hb : baseT l = b := by unfold baseT baseOf; rw [if_pos h, hp]
  have hn : hopsN l = r.length := by unfold hopsN hopsOf; rw [if_pos h, hp]
  obtain ⟨h1, h2⟩ := parse_base_ident _ rfl hp
  rw [hb, hn]
  exact ⟨h1, by rw [h2, List.length_eq_zero_iff]⟩

set_option maxRecDepth 100000 in
set_option maxHeartbeats 1000000 in
theorem nameApart_walk (s : ByteArray) (w : World) (hs : s.size ≤ 140737488355328) (hx : MX w) :
    Calls Try.prog 7 #[.string s] w fun e w' => e = .returned (.bool true) ∧ Below w.heap.size w w' := by
  have HX := Lib.hid hx
  clear hx
  have hsx : Value.string s = str (tx s) := rfl
  by_cases hi : identB (tx s) = true
  · obtain ⟨hd, hb, hn⟩ := ident_denom hi
    have HI := Lib.hid hi
    have HD := Lib.hid hd
    have HBS := Lib.hid hb
    have HN := Lib.hid hn
    have HTL := Lib.hid (Lib.toList_data s)
    clear hi hd hb hn hsx
    go_enter Try.func7, Try.ntmps7
    go_wp2_with (fail)
    refine (fixed_any w HX.out).mono ?_
    rintro e w1 ⟨rfl, hb1⟩
    have HB1 := Lib.hid hb1
    clear hb1
    go_wp2_with (fail)
    refine (identS_is s true w1 HI.out hs).mono ?_
    rintro e w2 ⟨rfl, hb2⟩
    have HB2 := Lib.hid (below_then HB1.out HB1.out.size hb2)
    clear hb2
    go_wp2_with (fail)
    refine (denom_is s true w2 HD.out (HX.out.below HB2.out)).mono ?_
    rintro e w3 ⟨rfl, hb3⟩
    have HB3 := Lib.hid (below_then HB2.out HB2.out.size hb3)
    clear hb3
    go_wp2_with (fail)
    refine (base_is s (tx s) w3 HBS.out (HX.out.below HB3.out)).mono ?_
    rintro e w4 ⟨rfl, hb4⟩
    have HB4 := Lib.hid (below_then HB3.out HB3.out.size hb4)
    clear hb4
    have hself : str (tx s) = .string s := rfl
    rw [hself]
    clear hself
    go_wp2_with (fail)
    refine (hops_is s 0 w4 HN.out (HX.out.below HB4.out)).mono ?_
    rintro e w5 ⟨rfl, hb5⟩
    have HB5 := Lib.hid (below_then HB4.out HB4.out.size hb5)
    clear hb5
    go_wp2_with (fail)
    refine (denom_is s true w5 HD.out (HX.out.below HB5.out)).mono ?_
    rintro e w6 ⟨rfl, hb6⟩
    have HB6 := Lib.hid (below_then HB5.out HB5.out.size hb6)
    clear hb6
    go_wp2_with (fail)
    refine (hops_is s 0 w6 HN.out (HX.out.below HB6.out)).mono ?_
    rintro e w7 ⟨rfl, hb7⟩
    have HB7 := Lib.hid (below_then HB6.out HB6.out.size hb7)
    clear hb7
    go_wp2_with (fail)
    refine (base_is s (tx s) w7 HBS.out (HX.out.below HB7.out)).mono ?_
    rintro e w8 ⟨rfl, hb8⟩
    have HB8 := Lib.hid (below_then HB7.out HB7.out.size hb8)
    clear hb8
    have hself : str (tx s) = .string s := rfl
    rw [hself]
    clear hself
    go_wp2_with (fail)
    refine (base_is s (tx s) w8 HBS.out (HX.out.below HB8.out)).mono ?_
    rintro e w9 ⟨rfl, hb9⟩
    have HB9 := Lib.hid (below_then HB8.out HB8.out.size hb9)
    clear hb9
    have hself : str (tx s) = .string s := rfl
    rw [hself]
    clear hself
    go_wp2_with (fail)
    refine (identS_is s true w9 HI.out hs).mono ?_
    rintro e w10 ⟨rfl, hb10⟩
    have HB10 := Lib.hid (below_then HB9.out HB9.out.size hb10)
    clear hb10
    go_wp2_with (fail)
    go_ret
    exact ⟨rfl, HB10.out⟩
  · have hi1 : identB (tx s) = false := by simpa using hi
    have HI := Lib.hid hi1
    clear hi hi1 hsx
    by_cases hd : denomB (tx s) = true
    · obtain ⟨hbi, hiff⟩ := denom_flat hd
      have HD := Lib.hid hd
      obtain ⟨bs, hb⟩ : ∃ bs, baseT (tx s) = bs := ⟨_, rfl⟩
      obtain ⟨n, hn⟩ : ∃ n, hopsN (tx s) = n := ⟨_, rfl⟩
      rw [hb] at hbi hiff
      rw [hn] at hiff
      have HBS := Lib.hid hb
      have HN := Lib.hid hn
      have HBI := Lib.hid hbi
      have hbl := (ident_len hbi).2
      have HIF : Hid ((((n : Int) == 0) == (bs == tx s)) = true) := by
        show _ = _
        rw [beq_iff_eq, Bool.eq_iff_iff, beq_iff_eq, beq_iff_eq]
        rw [← hiff]
        omega
      have HTL := Lib.hid (Lib.toList_data s)
      clear hd hb hn hbi hiff
      go_enter Try.func7, Try.ntmps7
      go_wp2_with (fail)
      refine (fixed_any w HX.out).mono ?_
      rintro e w1 ⟨rfl, hb1⟩
      have HB1 := Lib.hid hb1
      clear hb1
      go_wp2_with (fail)
      refine (identS_is s false w1 HI.out hs).mono ?_
      rintro e w2 ⟨rfl, hb2⟩
      have HB2 := Lib.hid (below_then HB1.out HB1.out.size hb2)
      clear hb2
      go_wp2_with (fail)
      refine (denom_is s true w2 HD.out (HX.out.below HB2.out)).mono ?_
      rintro e w6 ⟨rfl, hb6⟩
      have HB6 := Lib.hid (below_then HB2.out HB2.out.size hb6)
      clear hb6
      go_wp2_with (fail)
      refine (hops_is s n w6 HN.out (HX.out.below HB6.out)).mono ?_
      rintro e w7 ⟨rfl, hb7⟩
      have HB7 := Lib.hid (below_then HB6.out HB6.out.size hb7)
      clear hb7
      go_wp2_with (fail)
      refine (base_is s bs w7 HBS.out (HX.out.below HB7.out)).mono ?_
      rintro e w8 ⟨rfl, hb8⟩
      have HB8 := Lib.hid (below_then HB7.out HB7.out.size hb8)
      clear hb8
      have hif : ((n : Int) == 0) = (bs == s.toList) := by
        have := HIF.out
        rw [beq_iff_eq] at this
        rw [this, HTL.out]
      go_wp2_with (fail)
      clear hif
      refine (base_is s bs w8 HBS.out (HX.out.below HB8.out)).mono ?_
      rintro e w9 ⟨rfl, hb9⟩
      have HB9 := Lib.hid (below_then HB8.out HB8.out.size hb9)
      clear hb9
      go_wp2_with (fail)
      refine (ident_is bs true w9 HBI.out (by omega)).mono ?_
      rintro e w10 ⟨rfl, hb10⟩
      have HB10 := Lib.hid (below_then HB9.out HB9.out.size hb10)
      clear hb10
      go_wp2_with (fail)
      go_ret
      exact ⟨rfl, HB10.out⟩
    · have hd1 : denomB (tx s) = false := by simpa using hd
      have HD := Lib.hid hd1
      clear hd hd1
      go_enter Try.func7, Try.ntmps7
      go_wp2_with (fail)
      refine (fixed_any w HX.out).mono ?_
      rintro e w1 ⟨rfl, hb1⟩
      have HB1 := Lib.hid hb1
      clear hb1
      go_wp2_with (fail)
      refine (identS_is s false w1 HI.out hs).mono ?_
      rintro e w2 ⟨rfl, hb2⟩
      have HB2 := Lib.hid (below_then HB1.out HB1.out.size hb2)
      clear hb2
      go_wp2_with (fail)
      refine (denom_is s false w2 HD.out (HX.out.below HB2.out)).mono ?_
      rintro e w6 ⟨rfl, hb6⟩
      have HB6 := Lib.hid (below_then HB2.out HB2.out.size hb6)
      clear hb6
      go_wp2_with (fail)
      go_ret
      exact ⟨rfl, HB6.out⟩

/-! ### NameBack -/
theorem over_ok {hop s t : List UInt8} (h : overT hop s = (t, 0)) : t = overOf hop s ∧ identB hop = true ∧ denomB s = true ∧ denomB t = true ∧ hopT t = (hop, s, true) ∧ hopsN t = hopsN s + 1 ∧ baseT t = baseT s ∧ t.length ≤ 160 := by
  unfold overT at h
  by_cases hi : identB hop = true
  · rw [if_pos hi] at h
    by_cases hd : denomB s = true ∧ (overOf hop s).length ≤ 160
    · rw [if_pos hd] at h
      simp only [Prod.mk.injEq, and_true] at h
      subst h
      have hdt := over_denom hop s hi hd.1
      rw [decide_eq_true hd.2] at hdt
      obtain ⟨⟨r, b⟩, hp, _⟩ := denom_some hd.1
      have hpt := over_parse hop s hi
      rw [hp] at hpt
      simp only [Option.map_some] at hpt
      refine ⟨rfl, hi, hd.1, hdt, ?_, ?_, ?_, hd.2⟩
      · unfold hopT hopsOf; rw [if_pos hdt, hpt]; simp only [over_drop]
      · unfold hopsN hopsOf; rw [if_pos hdt, if_pos hd.1, hpt, hp]; rfl
      · unfold baseT baseOf; rw [if_pos hdt, if_pos hd.1, hpt, hp]
    · rw [if_neg hd] at h; simp at h
  · rw [if_neg hi] at h; simp at h
theorem hop_back {s h u : List UInt8} (hh : hopT s = (h, u, true)) : overT h u = (s, 0) ∧ h.length ≤ 32 ∧ u.length ≤ 160 := by
  unfold hopT at hh
  by_cases hd : denomB s = true
  · rw [if_pos hd] at hh
    obtain ⟨⟨ps, b⟩, hp, hl⟩ := denom_some hd
    unfold hopsOf at hh
    rw [hp] at hh
    cases ps with
    | nil => simp at hh
    | cons x r =>
      simp only [Prod.mk.injEq, and_true] at hh
      obtain ⟨rfl, rfl⟩ := hh
      obtain ⟨e, hi, hq⟩ := parse_over hp
      have hlu : (s.drop (9 + x.length + 1)).length ≤ 160 := by rw [List.length_drop]; omega
      have hdu : denomB (s.drop (9 + x.length + 1)) = true := by unfold denomB; rw [hq, decide_eq_true hlu]; rfl
      refine ⟨?_, (ident_len hi).2, hlu⟩
      unfold overT
      rw [if_pos hi, if_pos ⟨hdu, by rw [← e]; exact hl⟩, ← e]
  · rw [if_neg hd] at hh; simp at hh
theorem hop_not {s h u : List UInt8} (hh : hopT s = (h, u, false)) : denomB s = false ∨ (denomB s = true ∧ baseT s = s) := by
  unfold hopT at hh
  by_cases hd : denomB s = true
  · right
    rw [if_pos hd] at hh
    obtain ⟨⟨ps, b⟩, hp, hl⟩ := denom_some hd
    unfold hopsOf at hh
    rw [hp] at hh
    cases ps with
    | nil =>
      refine ⟨hd, ?_⟩
      unfold baseT baseOf
      rw [if_pos hd, hp]
      exact (parse_flat hp).1
    | cons x r => simp at hh
  · left; simpa using hd

set_option maxRecDepth 100000 in
set_option maxHeartbeats 2000000 in
theorem nameBack_walk (hop s : ByteArray) (w : World) (hh : hop.size ≤ 140737488355328) (hs : s.size ≤ 140737488355328) (hx : MX w) :
    Calls Try.prog 6 #[.string hop, .string s] w fun e w' => e = .returned (.bool true) ∧ Below w.heap.size w w' := by
  have HX := Lib.hid hx
  clear hx
  obtain ⟨t, z, hv⟩ : ∃ t z, overT (tx hop) (tx s) = (t, z) := ⟨_, _, rfl⟩
  have HV := Lib.hid hv
  obtain ⟨h2, u2, ok2, hh2⟩ : ∃ a b ok, hopT (tx s) = (a, b, ok) := ⟨_, _, _, rfl⟩
  have HH2 := Lib.hid hh2
  clear hv hh2
  go_enter Try.func6, Try.ntmps6
  go_wp2_with (fail)
  refine (fixed_any w HX.out).mono ?_
  rintro e w1 ⟨rfl, hb1⟩
  have HB1 := Lib.hid hb1
  clear hb1
  go_wp2_with (fail)
  refine (over_is hop s t z w1 hh hs HV.out (HX.out.below HB1.out)).mono ?_
  rintro e w2 ⟨rfl, hb2⟩
  have HB2 := Lib.hid (below_then HB1.out HB1.out.size hb2)
  clear hb2
  by_cases hz : z = 0
  · subst hz
    obtain ⟨hto, hio, hds, hdt, hht, hnt, hbt, htl⟩ := over_ok HV.out
    clear hto hio
    obtain ⟨n, hn⟩ : ∃ n, hopsN (tx s) = n := ⟨_, rfl⟩
    obtain ⟨bs, hb⟩ : ∃ bs, baseT (tx s) = bs := ⟨_, rfl⟩
    rw [hn] at hnt
    rw [hb] at hbt
    have HDT : Hid (denomB (tx ⟨t.toArray⟩) = true) := hdt
    have HHT : Hid (hopT (tx ⟨t.toArray⟩) = (tx hop, tx s, true)) := hht
    have HNT : Hid (hopsN (tx ⟨t.toArray⟩) = n + 1) := hnt
    have HBT : Hid (baseT (tx ⟨t.toArray⟩) = bs) := hbt
    have HN := Lib.hid hn
    have HBS := Lib.hid hb
    have hn160 : n ≤ 1000 := by
      obtain ⟨⟨ps, b⟩, hp, hl⟩ := denom_some hds
      have h1 := hopsN_words _ hds
      have h2 := words_le (tx s)
      omega
    clear hdt hht hnt hbt hn hb hds
    go_wp2_with (fail)
    refine (hop_is ⟨t.toArray⟩ (tx hop) (tx s) true w2 HHT.out (HX.out.below HB2.out)).mono ?_
    rintro e w3 ⟨rfl, hb3⟩
    have HB3 := Lib.hid (below_then HB2.out HB2.out.size hb3)
    clear hb3
    have hself1 : str (tx hop) = .string hop := rfl
    have hself2 : str (tx s) = .string s := rfl
    rw [hself1, hself2]
    clear hself1 hself2
    go_wp2_with (fail)
    refine (hops_is ⟨t.toArray⟩ (n + 1) w3 HNT.out (HX.out.below HB3.out)).mono ?_
    rintro e w4 ⟨rfl, hb4⟩
    have HB4 := Lib.hid (below_then HB3.out HB3.out.size hb4)
    clear hb4
    go_wp2_with (fail)
    refine (hops_is s n w4 HN.out (HX.out.below HB4.out)).mono ?_
    rintro e w5 ⟨rfl, hb5⟩
    have HB5 := Lib.hid (below_then HB4.out HB4.out.size hb5)
    clear hb5
    go_wp2_with (fail)
    refine (base_is ⟨t.toArray⟩ bs w5 HBT.out (HX.out.below HB5.out)).mono ?_
    rintro e w6 ⟨rfl, hb6⟩
    have HB6 := Lib.hid (below_then HB5.out HB5.out.size hb6)
    clear hb6
    go_wp2_with (fail)
    refine (base_is s bs w6 HBS.out (HX.out.below HB6.out)).mono ?_
    rintro e w7 ⟨rfl, hb7⟩
    have HB7 := Lib.hid (below_then HB6.out HB6.out.size hb7)
    clear hb7
    go_wp2_with (fail)
    refine (denom_is ⟨t.toArray⟩ true w7 HDT.out (HX.out.below HB7.out)).mono ?_
    rintro e w8 ⟨rfl, hb8⟩
    have HB8 := Lib.hid (below_then HB7.out HB7.out.size hb8)
    clear hb8
    go_wp2_with (fail)
    refine (hop_is s h2 u2 ok2 w8 HH2.out (HX.out.below HB8.out)).mono ?_
    rintro e v1 ⟨rfl, hc1⟩
    have HC1 := Lib.hid (below_then HB8.out HB8.out.size hc1)
    clear hc1
    cases ok2 with
    | true =>
      obtain ⟨ho, hl1, hl2⟩ := hop_back HH2.out
      have HO2 := Lib.hid ho
      clear ho
      go_wp2_with (fail)
      refine (over_is ⟨h2.toArray⟩ ⟨u2.toArray⟩ (tx s) 0 v1 (by show h2.length ≤ _; omega) (by show u2.length ≤ _; omega) HO2.out (HX.out.below HC1.out)).mono ?_
      rintro e v2 ⟨rfl, hc2⟩
      have HC2 := Lib.hid (below_then HC1.out HC1.out.size hc2)
      clear hc2
      have hself : str (tx s) = .string s := rfl
      rw [hself]
      clear hself
      go_wp2_with (fail)
      go_ret
      exact ⟨rfl, HC2.out⟩
    | false =>
      rcases hop_not HH2.out with hd | ⟨hd, hb⟩
      · have HD := Lib.hid hd
        clear hd
        go_wp2_with (fail)
        refine (denom_is s false v1 HD.out (HX.out.below HC1.out)).mono ?_
        rintro e v2 ⟨rfl, hc2⟩
        have HC2 := Lib.hid (below_then HC1.out HC1.out.size hc2)
        clear hc2
        go_wp2_with (fail)
        go_ret
        exact ⟨rfl, HC2.out⟩
      · have HD := Lib.hid hd
        have HBS := Lib.hid hb
        clear hd hb
        go_wp2_with (fail)
        refine (denom_is s true v1 HD.out (HX.out.below HC1.out)).mono ?_
        rintro e v2 ⟨rfl, hc2⟩
        have HC2 := Lib.hid (below_then HC1.out HC1.out.size hc2)
        clear hc2
        go_wp2_with (fail)
        refine (base_is s (tx s) v2 HBS.out (HX.out.below HC2.out)).mono ?_
        rintro e v3 ⟨rfl, hc3⟩
        have HC3 := Lib.hid (below_then HC2.out HC2.out.size hc3)
        clear hc3
        have hself : str (tx s) = .string s := rfl
        rw [hself]
        clear hself
        go_wp2_with (fail)
        go_ret
        exact ⟨rfl, HC3.out⟩
  · have hb : (z == 0) = false := by rw [beq_eq_false_iff_ne]; exact hz
    clear hz
    go_wp2_with (fail)
    refine (hop_is s h2 u2 ok2 w2 HH2.out (HX.out.below HB2.out)).mono ?_
    rintro e v1 ⟨rfl, hc1⟩
    have HC1 := Lib.hid (below_then HB2.out HB2.out.size hc1)
    clear hc1
    cases ok2 with
    | true =>
      obtain ⟨ho, hl1, hl2⟩ := hop_back HH2.out
      have HO2 := Lib.hid ho
      clear ho
      go_wp2_with (fail)
      refine (over_is ⟨h2.toArray⟩ ⟨u2.toArray⟩ (tx s) 0 v1 (by show h2.length ≤ _; omega) (by show u2.length ≤ _; omega) HO2.out (HX.out.below HC1.out)).mono ?_
      rintro e v2 ⟨rfl, hc2⟩
      have HC2 := Lib.hid (below_then HC1.out HC1.out.size hc2)
      clear hc2
      have hself : str (tx s) = .string s := rfl
      rw [hself]
      clear hself
      go_wp2_with (fail)
      go_ret
      exact ⟨rfl, HC2.out⟩
    | false =>
      rcases hop_not HH2.out with hd | ⟨hd, hb⟩
      · have HD := Lib.hid hd
        clear hd
        go_wp2_with (fail)
        refine (denom_is s false v1 HD.out (HX.out.below HC1.out)).mono ?_
        rintro e v2 ⟨rfl, hc2⟩
        have HC2 := Lib.hid (below_then HC1.out HC1.out.size hc2)
        clear hc2
        go_wp2_with (fail)
        go_ret
        exact ⟨rfl, HC2.out⟩
      · have HD := Lib.hid hd
        have HBS := Lib.hid hb
        clear hd hb
        go_wp2_with (fail)
        refine (denom_is s true v1 HD.out (HX.out.below HC1.out)).mono ?_
        rintro e v2 ⟨rfl, hc2⟩
        have HC2 := Lib.hid (below_then HC1.out HC1.out.size hc2)
        clear hc2
        go_wp2_with (fail)
        refine (base_is s (tx s) v2 HBS.out (HX.out.below HC2.out)).mono ?_
        rintro e v3 ⟨rfl, hc3⟩
        have HC3 := Lib.hid (below_then HC2.out HC2.out.size hc3)
        clear hc3
        have hself : str (tx s) = .string s := rfl
        rw [hself]
        clear hself
        go_wp2_with (fail)
        go_ret
        exact ⟨rfl, HC3.out⟩
end Go.Proofs.Yteceagldjnfeeaa

/- The walks of the package name: read and what hangs on it. -/
import Derived.Test.YteceagldjnfeeaaNm4
namespace Go.Proofs.Yteceagldjnfeeaa
open Go.RowKit
set_option linter.unusedVariables false
set_option linter.unusedSimpArgs false

theorem index_slash : ∀ l : List UInt8, (cutAt l = none → Lib.index l [47] = -1) ∧ ∀ a b, cutAt l = some (a, b) → Lib.index l [47] = a.length
  | [] => ⟨fun _ => rfl, fun a b h => by cases h⟩
  | c :: r => by
    obtain ⟨i1, i2⟩ := index_slash r
    by_cases hc : c = slash
    · have e : cutAt (c :: r) = some ([], r) := by rw [cutAt, if_pos hc]
      rw [e]
      refine ⟨(fun h => by cases h), ?_⟩
      rintro a b h
      cases h
      subst hc
      rfl
    · have e : cutAt (c :: r) = (cutAt r).map fun p => (c :: p.1, p.2) := by rw [cutAt, if_neg hc]
      have hx : Lib.index (c :: r) [47] = if Lib.index r [47] == -1 then -1 else Lib.index r [47] + 1 := by
        have : ([47] : List UInt8).isPrefixOf (c :: r) = false := by
          simp only [List.isPrefixOf, Bool.and_true, beq_eq_false_iff_ne, ne_eq]
          exact fun h => hc h.symm
        rw [Lib.index, this]; rfl
      rw [e, hx]
      rcases h : cutAt r with _ | ⟨a, b⟩
      · rw [i1 h]
        exact ⟨fun _ => rfl, fun a b h2 => by cases h2⟩
      · rw [i2 a b h]
        refine ⟨(fun h2 => by cases h2), ?_⟩
        rintro a' b' h2
        simp only [Option.map_some, Option.some.injEq, Prod.mk.injEq] at h2
        obtain ⟨rfl, rfl⟩ := h2
        rw [if_neg (by rw [beq_iff_eq]; omega), List.length_cons]
        omega
theorem cut_none {l : List UInt8} (h : cutAt l = none) : Lib.cut l [47] = (l, [], false) := by
  unfold Lib.cut; rw [(index_slash l).1 h, if_neg (by omega)]
theorem cut_some {l a b : List UInt8} (h : cutAt l = some (a, b)) : Lib.cut l [47] = (a, b, true) := by
  have e := (cutAt_some h).1
  unfold Lib.cut
  rw [(index_slash l).2 a b h, if_pos (by omega), Int.toNat_natCast, e, List.take_left]
  have : (a ++ slash :: b).drop (a.length + 1) = b := by
    rw [← List.drop_drop, List.drop_left]; rfl
  rw [show ([47] : List UInt8).length = 1 from rfl, this]

theorem cutpre_yes (l rest : List UInt8) (w : World) (h : l = port ++ rest) :
    Calls Try.prog 44 #[str l, .string ⟨#[116, 114, 97, 110, 115, 102, 101, 114, 47]⟩] w fun e w' => e = .returned (.tuple #[str rest, .bool true]) ∧ w = w' := by
  refine (Try.strings_CutPrefix ⟨l.toArray⟩ ⟨#[116, 114, 97, 110, 115, 102, 101, 114, 47]⟩ w).mono ?_
  rintro e w' ⟨he, hw⟩
  refine ⟨?_, hw.symm⟩
  have h1 : Lib.hasPrefix l port = true := by
    unfold Lib.hasPrefix; rw [List.isPrefixOf_iff_prefix]; exact ⟨rest, h.symm⟩
  have h2 : Lib.trimPrefix l port = rest := by
    unfold Lib.trimPrefix; rw [if_pos h1, h, List.drop_left]
  rw [he]
  show Ending.returned (.tuple #[.string ⟨(Lib.trimPrefix l port).toArray⟩, .bool (Lib.hasPrefix l port)]) = _
  rw [h1, h2]
theorem cutpre_no (l : List UInt8) (w : World) (h : ¬ port <+: l) :
    Calls Try.prog 44 #[str l, .string ⟨#[116, 114, 97, 110, 115, 102, 101, 114, 47]⟩] w fun e w' => e = .returned (.tuple #[str l, .bool false]) ∧ w = w' := by
  refine (Try.strings_CutPrefix ⟨l.toArray⟩ ⟨#[116, 114, 97, 110, 115, 102, 101, 114, 47]⟩ w).mono ?_
  rintro e w' ⟨he, hw⟩
  refine ⟨?_, hw.symm⟩
  have h1 : Lib.hasPrefix l port = false := by
    unfold Lib.hasPrefix
    cases hx : port.isPrefixOf l with
    | false => rfl
    | true => rw [List.isPrefixOf_iff_prefix] at hx; exact absurd hx h
  have h2 : Lib.trimPrefix l port = l := by
    unfold Lib.trimPrefix; rw [h1]; rfl
  rw [he]
  show Ending.returned (.tuple #[.string ⟨(Lib.trimPrefix l port).toArray⟩, .bool (Lib.hasPrefix l port)]) = _
  rw [h1, h2]
/-- What the library's variable reads as. -/
def MX (w : World) : Prop := ∃ m : Int, w.cell? ⟨0, 0, none⟩ = some (.int .i64 m)
theorem MX.below {w w' : World} (h : MX w) (hb : Below w.heap.size w w') : MX w' := by
  obtain ⟨m, hm⟩ := h
  exact ⟨m, (hb.cell (p := ⟨0, 0, none⟩) (World.block_lt_of_cell? w _ hm)).trans hm⟩
theorem scut_no (l : List UInt8) (w : World) (h : cutAt l = none) (hl : l.length ≤ 1000) (hx : MX w) :
    Calls Try.prog 45 #[str l, .string ⟨#[47]⟩] w fun e w' => e = .returned (.tuple #[str l, str [], .bool false]) ∧ Below w.heap.size w w' := by
  obtain ⟨m, hm⟩ := hx
  refine (Try.strings_Cut ⟨l.toArray⟩ ⟨#[47]⟩ m w (by show l.length < _; omega) hm).mono ?_
  rintro e w' ⟨he, n, rfl⟩
  refine ⟨?_, drewN_below _ _⟩
  rw [he]
  show Ending.returned (.tuple #[.string ⟨(Lib.cut l [47]).1.toArray⟩, .string ⟨(Lib.cut l [47]).2.1.toArray⟩, .bool (Lib.cut l [47]).2.2]) = _
  rw [cut_none h]
theorem scut_yes (l a b : List UInt8) (w : World) (h : cutAt l = some (a, b)) (hl : l.length ≤ 1000) (hx : MX w) :
    Calls Try.prog 45 #[str l, .string ⟨#[47]⟩] w fun e w' => e = .returned (.tuple #[str a, str b, .bool true]) ∧ Below w.heap.size w w' := by
  obtain ⟨m, hm⟩ := hx
  refine (Try.strings_Cut ⟨l.toArray⟩ ⟨#[47]⟩ m w (by show l.length < _; omega) hm).mono ?_
  rintro e w' ⟨he, n, rfl⟩
  refine ⟨?_, drewN_below _ _⟩
  rw [he]
  show Ending.returned (.tuple #[.string ⟨(Lib.cut l [47]).1.toArray⟩, .string ⟨(Lib.cut l [47]).2.1.toArray⟩, .bool (Lib.cut l [47]).2.2]) = _
  rw [cut_some h]

def ReadP (l : List UInt8) (w : World) (e : Ending) (w' : World) : Prop :=
  Below w.heap.size w w' ∧ ((∃ ps b a c, denomB l = true ∧ parse l = some (ps, b) ∧ e = .returned (.tuple #[.slice a ps.length c, str b, .bool true]) ∧ Sl w' a ps.length c (strs ps)) ∨
    (denomB l = false ∧ ∃ a n c b, e = .returned (.tuple #[.slice a n c, str b, .bool false])))
/-- How many bytes a text has. -/
def textLen : Value → Nat | .string s => s.size | _ => 0

set_option maxRecDepth 100000 in
set_option maxHeartbeats 2000000 in
theorem read_any (s : ByteArray) (w : World) (hx : MX w) : Calls Try.prog 28 #[.string s] w (ReadP (tx s) w) := by
  by_cases hs : s.size ≤ 160
  · have HX := Lib.hid hx
    have i0 : (s.size : Int) ≤ 160 := by omega
    have hden : Hid (denomB (tx s) = (parse (tx s)).isSome) := by show _ = _; unfold denomB; rw [tx_len, decide_eq_true hs, Bool.true_and]
    have htl := tx_len s
    have HTL := Lib.hid htl
    clear hx htl
    go_enter Try.func28, Try.ntmps28
    go_wp2_with (fail)
    go_loopw [0, 2] (fun x v wr => ∃ (l : List UInt8) (hs : List (List UInt8)), x = str l ∧ l.length ≤ 160 ∧ hs.length ≤ 160 - l.length ∧ Hid (parse (tx s) = (parse l).map fun p => (hs ++ p.1, p.2)) ∧ Hid (Below w.heap.size w wr) ∧ Hid (wr.ownsRow w.heap.size 9 1 v hs.length (strs hs))) (fun x _ _ => textLen x)
    case atStart => exact ⟨tx s, [], rfl, by have := HTL.out; omega, by simp, by show _ = _; cases parse (tx s) with | none => rfl | some p => rfl, Below.refl _ _, (World.ownsRow_nil w w.heap.size 9 1 : w.ownsRow w.heap.size 9 1 (.slice none 0 0) 0 [])⟩
    case round =>
      obtain ⟨l, hops, rfl, hl, hhl, HP, HB, HO⟩ := hrel
      by_cases hpre : port <+: l
      · obtain ⟨rest, hrest⟩ := hpre
        have HPS := Lib.hid (parse_step rest)
        have HR := Lib.hid hrest.symm
        have hrl : rest.length + 9 = l.length := by rw [← hrest]; simp [port]
        clear hrest
        go_wp2_with (fail)
        refine (cutpre_yes l rest wr HR.out).mono ?_
        rintro e w' ⟨rfl, rfl⟩
        go_wp2_with (fail)
        rcases hcut : cutAt rest with _ | ⟨hq, b⟩
        · have hr : Hid (denomB (tx s) = false) := by
            show _ = _
            rw [hden.out, HP.out, HR.out, HPS.out, hcut]; rfl
          have HCU := Lib.hid hcut
          clear hcut
          refine (scut_no rest wr HCU.out (by omega) (HX.out.below HB.out)).mono ?_
          rintro e w2 ⟨rfl, hb2⟩
          have HB2 := Lib.hid (below_then HB.out HB.out.size hb2)
          clear hb2
          go_wp2_with (fail)
          go_ret3
          exact ⟨HB2.out, .inr ⟨hr.out, none, 0, 0, [], rfl⟩⟩
        · have HCU := Lib.hid hcut
          have hcl := (cutAt_some hcut).1
          have hbl : hq.length + b.length + 1 = rest.length := by rw [hcl]; simp; omega
          clear hcut hcl
          refine (scut_yes rest hq b wr HCU.out (by omega) (HX.out.below HB.out)).mono ?_
          rintro e w2 ⟨rfl, hb2⟩
          have HB2 := Lib.hid (below_then HB.out HB.out.size hb2)
          have HO2 := Lib.hid (own_keep HO.out hb2)
          clear hb2 HO
          go_wp2_with (fail)
          by_cases hid : identB hq = true
          · refine (ident_is hq true w2 hid (by omega)).mono ?_
            rintro e w3 ⟨rfl, hb3⟩
            have HB3 := Lib.hid (below_then HB2.out HB2.out.size hb3)
            have HO3 := Lib.hid (own_keep HO2.out hb3)
            have HP2 : Hid (parse (tx s) = (parse b).map fun p => ((hops ++ [hq]) ++ p.1, p.2)) := by
              show _ = _
              rw [HP.out, HR.out, HPS.out, HCU.out]
              simp only [if_pos hid]
              cases parse b <;> simp
            have hlen : Hid (hops.length ≤ 1000000) := by show _ ≤ _; omega
            clear hb3 HO2 hid
            go_wp2_with (at_builtin; refine app_t (w0 := w) rfl (.tmp 37) (.tmp 39) rfl _ _ rfl HO3 HB3 _ hq (show Hid (str hq = str hq) from rfl) rfl hlen ?_; intro v4 w4 HO4 HB4)
            exact ⟨⟨b, hops ++ [hq], rfl, by omega, by rw [List.length_append]; simp only [List.length_cons, List.length_nil]; omega, HP2, HB4, HO4⟩, by show b.length < l.length; omega⟩
          · have hid1 : identB hq = false := by simpa using hid
            have hr : Hid (denomB (tx s) = false) := by
              show _ = _
              rw [hden.out, HP.out, HR.out, HPS.out, HCU.out]
              simp only [if_neg hid]; rfl
            clear hid
            refine (ident_is hq false w2 hid1 (by omega)).mono ?_
            rintro e w3 ⟨rfl, hb3⟩
            have HB3 := Lib.hid (below_then HB2.out HB2.out.size hb3)
            clear hb3 hid1
            go_wp2_with (fail)
            go_ret3
            exact ⟨HB3.out, .inr ⟨hr.out, none, 0, 0, [], rfl⟩⟩
      · have HPE := Lib.hid (parse_end l hpre)
        have HNP : Hid (¬ port <+: l) := hpre
        obtain ⟨a5, c5, rfl, hs5⟩ := own_sl HO.out
        have HS5 := Lib.hid hs5
        clear hpre hs5
        go_wp2_with (fail)
        refine (cutpre_no l wr HNP.out).mono ?_
        rintro e w' ⟨rfl, rfl⟩
        go_wp2_with (fail)
        by_cases hid : identB l = true
        · have hpp : Hid (parse (tx s) = some (hops, l)) := by
            show _ = _
            rw [HP.out, HPE.out, if_pos hid]; simp
          have hr : Hid (denomB (tx s) = true) := by show _ = _; rw [hden.out, hpp.out]; rfl
          refine (ident_is l true wr hid (by omega)).mono ?_
          rintro e w3 ⟨rfl, hb3⟩
          have HB3 := Lib.hid (below_then HB.out HB.out.size hb3)
          have HS6 := Lib.hid (HS5.out.below hb3)
          clear hb3 hid
          go_wp2_with (fail)
          go_ret3
          exact ⟨HB3.out, .inl ⟨hops, l, a5, c5, hr.out, hpp.out, rfl, HS6.out⟩⟩
        · have hid1 : identB l = false := by simpa using hid
          have hr : Hid (denomB (tx s) = false) := by
            show _ = _
            rw [hden.out, HP.out, HPE.out, if_neg hid]; rfl
          clear hid
          refine (ident_is l false wr hid1 (by omega)).mono ?_
          rintro e w3 ⟨rfl, hb3⟩
          have HB3 := Lib.hid (below_then HB.out HB.out.size hb3)
          clear hb3 hid1
          go_wp2_with (fail)
          go_ret3
          exact ⟨HB3.out, .inr ⟨hr.out, _, _, _, l, rfl⟩⟩
  · have hr : Hid (denomB (tx s) = false) := by show _ = _; unfold denomB; rw [tx_len, decide_eq_false hs]; rfl
    have i0 : (160 : Int) < (s.size : Int) := by omega
    clear hx
    go_enter Try.func28, Try.ntmps28
    go_wp2_with (fail)
    go_ret3
    exact ⟨Below.refl _ _, .inr ⟨hr.out, none, 0, 0, [], rfl⟩⟩

set_option maxRecDepth 100000 in
set_option maxHeartbeats 1000000 in
theorem denom_any (s : ByteArray) (w : World) (hx : MX w) :
    Calls Try.prog 17 #[.string s] w fun e w' => e = .returned (.bool (denomB (tx s))) ∧ Below w.heap.size w w' := by
  have HX := Lib.hid hx
  clear hx
  go_enter Try.func17, Try.ntmps17
  go_wp2_with (fail)
  refine (read_any s w HX.out).mono ?_
  rintro e w1 ⟨hb1, hcase⟩
  have HB1 := Lib.hid hb1
  clear hb1
  rcases hcase with ⟨ps, b, a, c, hd, hp, rfl, hs⟩ | ⟨hd, a, n, c, b, rfl⟩
  · have HD := Lib.hid hd
    clear hd hp hs
    go_wp2_with (fail)
    go_ret
    exact ⟨by rw [HD.out]; rfl, HB1.out⟩
  · have HD := Lib.hid hd
    clear hd
    go_wp2_with (fail)
    go_ret
    exact ⟨by rw [HD.out]; rfl, HB1.out⟩
set_option maxRecDepth 100000 in
set_option maxHeartbeats 1000000 in
theorem hops_any (s : ByteArray) (w : World) (hx : MX w) :
    Calls Try.prog 21 #[.string s] w fun e w' => e = .returned (.int .i64 (hopsN (tx s) : Int)) ∧ Below w.heap.size w w' := by
  have HX := Lib.hid hx
  clear hx
  go_enter Try.func21, Try.ntmps21
  go_wp2_with (fail)
  refine (read_any s w HX.out).mono ?_
  rintro e w1 ⟨hb1, hcase⟩
  have HB1 := Lib.hid hb1
  clear hb1
  rcases hcase with ⟨ps, b, a, c, hd, hp, rfl, hs⟩ | ⟨hd, a, n, c, b, rfl⟩
  · have HD : Hid (hopsN (tx s) = ps.length) := by show _ = _; rw [hopsN, if_pos hd, hopsOf, hp]
    clear hd hp hs
    go_wp2_with (fail)
    go_ret
    exact ⟨by rw [HD.out]; rfl, HB1.out⟩
  · have HD : Hid (hopsN (tx s) = 0) := by show _ = _; rw [hopsN, if_neg (by rw [hd]; simp)]
    clear hd
    go_wp2_with (fail)
    go_ret
    exact ⟨by rw [HD.out]; rfl, HB1.out⟩
set_option maxRecDepth 100000 in
set_option maxHeartbeats 1000000 in
theorem base_any (s : ByteArray) (w : World) (hx : MX w) :
    Calls Try.prog 19 #[.string s] w fun e w' => e = .returned (str (baseT (tx s))) ∧ Below w.heap.size w w' := by
  have HX := Lib.hid hx
  clear hx
  go_enter Try.func19, Try.ntmps19
  go_wp2_with (fail)
  refine (read_any s w HX.out).mono ?_
  rintro e w1 ⟨hb1, hcase⟩
  have HB1 := Lib.hid hb1
  clear hb1
  rcases hcase with ⟨ps, b, a, c, hd, hp, rfl, hs⟩ | ⟨hd, a, n, c, b, rfl⟩
  · have HD : Hid (baseT (tx s) = b) := by show _ = _; rw [baseT, if_pos hd, baseOf, hp]
    clear hd hp hs
    go_wp2_with (fail)
    go_ret
    exact ⟨by rw [HD.out]; rfl, HB1.out⟩
  · have HD : Hid (baseT (tx s) = []) := by show _ = _; rw [baseT, if_neg (by rw [hd]; simp)]
    clear hd
    go_wp2_with (fail)
    go_ret
    exact ⟨by rw [HD.out]; rfl, HB1.out⟩
set_option maxRecDepth 100000 in
set_option maxHeartbeats 1000000 in
theorem hop_any (s : ByteArray) (w : World) (hx : MX w) :
    Calls Try.prog 14 #[.string s] w fun e w' => e = .returned (trip (hopT (tx s))) ∧ Below w.heap.size w w' := by
  have HX := Lib.hid hx
  clear hx
  go_enter Try.func14, Try.ntmps14
  go_wp2_with (fail)
  refine (read_any s w HX.out).mono ?_
  rintro e w1 ⟨hb1, hcase⟩
  have HB1 := Lib.hid hb1
  clear hb1
  rcases hcase with ⟨ps, b, a, c, hd, hp, rfl, hs⟩ | ⟨hd, a, n, c, b, rfl⟩
  · cases ps with
    | nil =>
      have HD : Hid (hopT (tx s) = ([], [], false)) := by show _ = _; unfold hopT hopsOf; rw [if_pos hd, hp]
      clear hd hp hs
      go_wp2_with (fail)
      go_ret3
      exact ⟨by rw [HD.out]; rfl, HB1.out⟩
    | cons x r =>
      have HD : Hid (hopT (tx s) = (x, (tx s).drop (9 + x.length + 1), true)) := by show _ = _; unfold hopT hopsOf; rw [if_pos hd, hp]
      have hl : s.size ≤ 160 := by obtain ⟨_, _, h⟩ := denom_some hd; rwa [tx_len] at h
      have hle : 9 + x.length + 1 ≤ s.size := by
        have e := (parse_over hp).1
        have := over_length x ((tx s).drop (9 + x.length + 1))
        rw [← e, tx_len] at this
        omega
      obtain ⟨bb, o, rfl, _⟩ := hs.at (j := 0) (by simp)
      have g1 : w1.cell? ⟨bb, o + 0, none⟩ = some (str x) := by
        obtain ⟨b', o', e, hc⟩ := hs.cells 0 _ (strs_get _ 0 (by simp))
        cases e
        exact hc
      rw [Nat.add_zero] at g1
      have hex := Lib.hid (drop_ext s (9 + x.length + 1))
      have hnl : (x :: r).length = r.length + 1 := rfl
      rw [hnl]
      clear hd hp hs hnl
      generalize r.length = n
      have e0 : (((n + 1 : Nat) : Int) == 0) = false := by rw [beq_eq_false_iff_ne]; omega
      have j1 : (0 : Int) < ((n + 1 : Nat) : Int) := by omega
      have j4 : (0 : Int) < (n : Int) + 1 := by omega
      have j2 : (9 : Int) + (x.length : Int) + 1 ≤ (s.size : Int) := by omega
      have j3 : (0 : Int) ≤ (9 : Int) + (x.length : Int) + 1 := by omega
      have t1 : ((9 : Int) + (x.length : Int) + 1).toNat = 9 + x.length + 1 := by omega
      have k1 : IntKind.i64.wrap ((9 : Int) + (x.length : Int)) = (9 : Int) + (x.length : Int) := IntWalk.i64_in _ (by omega)
      have k2 : IntKind.i64.wrap ((9 : Int) + (x.length : Int) + 1) = (9 : Int) + (x.length : Int) + 1 := IntWalk.i64_in _ (by omega)
      go_wp2_with (fail)
      go_quiet (fail)
      go_wp2_with (fail)
      go_ret3
      refine ⟨?_, below_then HB1.out HB1.out.size (drewN_below _ _)⟩
      rw [HD.out]
      show Ending.returned (.tuple #[str x, .string (s.extract (9 + x.length + 1) s.size), .bool true]) = .returned (.tuple #[str x, str ((tx s).drop (9 + x.length + 1)), .bool true])
      rw [hex.out]
  · have HD : Hid (hopT (tx s) = ([], [], false)) := by show _ = _; rw [hopT, if_neg (by rw [hd]; simp)]
    clear hd
    go_wp2_with (fail)
    go_ret3
    exact ⟨by rw [HD.out]; rfl, HB1.out⟩

set_option maxRecDepth 100000 in
set_option maxHeartbeats 1000000 in
theorem over_any (hop s : ByteArray) (w : World) (hh : hop.size ≤ 140737488355328) (hs : s.size ≤ 140737488355328) (hx : MX w) :
    Calls Try.prog 10 #[.string hop, .string s] w fun e w' => e = .returned (pairT (overT (tx hop) (tx s))) ∧ Below w.heap.size w w' := by
  have HX := Lib.hid hx
  have HC := Lib.hid (cat_eq hop s)
  clear hx
  by_cases hi : identB (tx hop) = true
  · have hi32 := ident_len hi
    rw [tx_len] at hi32
    have HO : Hid (overT (tx hop) (tx s) = if denomB (tx s) = true ∧ (overOf (tx hop) (tx s)).length ≤ 160 then (overOf (tx hop) (tx s), 0) else ([], 41)) := by show _ = _; rw [overT, if_pos hi]
    have HI := Lib.hid hi
    clear hi
    go_enter Try.func10, Try.ntmps10
    go_wp2_with (fail)
    refine (ident_is (tx hop) true w HI.out (by rw [tx_len]; exact hh)).mono ?_
    rintro e w0 ⟨rfl, hb0⟩
    have HB0 := Lib.hid hb0
    clear hb0
    go_wp2_with (fail)
    refine (denom_any s w0 (HX.out.below HB0.out)).mono ?_
    rintro e w1 ⟨rfl, hb1⟩
    have HB1 := Lib.hid (below_then HB0.out HB0.out.size hb1)
    clear hb1
    by_cases hd : denomB (tx s) = true
    · have HDO := Lib.hid (over_denom (tx hop) (tx s) HI.out hd)
      rw [hd]
      have HD := Lib.hid hd
      clear hd
      go_wp2_with (fail)
      rw [HC.out]
      refine (denom_any ⟨(overOf (tx hop) (tx s)).toArray⟩ w1 (HX.out.below HB1.out)).mono ?_
      rintro e w2 ⟨rfl, hb2⟩
      have HB2 := Lib.hid (below_then HB1.out HB1.out.size hb2)
      clear hb2
      by_cases hlen : (overOf (tx hop) (tx s)).length ≤ 160
      · have hr : Hid (overT (tx hop) (tx s) = (overOf (tx hop) (tx s), 0)) := by show _ = _; rw [HO.out, if_pos ⟨HD.out, hlen⟩]
        have hq : denomB (tx ⟨(overOf (tx hop) (tx s)).toArray⟩) = true := by rw [tx_str, HDO.out, decide_eq_true hlen]
        rw [hq]
        clear hq hlen
        go_wp2_with (fail)
        go_ret2
        refine ⟨?_, HB2.out⟩
        rw [hr.out]
        show Ending.returned (.tuple #[.string _, .int .i64 0]) = .returned (.tuple #[str (overOf (tx hop) (tx s)), .int .i64 0])
        first | rfl | rw [HC.out]
      · have hr : Hid (overT (tx hop) (tx s) = ([], 41)) := by show _ = _; rw [HO.out, if_neg (fun h => hlen h.2)]
        have hq : denomB (tx ⟨(overOf (tx hop) (tx s)).toArray⟩) = false := by rw [tx_str, HDO.out, decide_eq_false hlen]
        rw [hq]
        clear hq hlen
        go_wp2_with (fail)
        go_ret2
        exact ⟨by rw [hr.out]; rfl, HB2.out⟩
    · have hd1 : denomB (tx s) = false := by simpa using hd
      have hr : Hid (overT (tx hop) (tx s) = ([], 41)) := by show _ = _; rw [HO.out, if_neg (fun h => hd h.1)]
      rw [hd1]
      clear hd hd1
      go_wp2_with (fail)
      go_ret2
      exact ⟨by rw [hr.out]; rfl, HB1.out⟩
  · have hi1 : identB (tx hop) = false := by simpa using hi
    have hr : Hid (overT (tx hop) (tx s) = ([], 40)) := by show _ = _; rw [overT, if_neg hi]
    have HI := Lib.hid hi1
    clear hi hi1
    go_enter Try.func10, Try.ntmps10
    go_wp2_with (fail)
    refine (ident_is (tx hop) false w HI.out (by rw [tx_len]; exact hh)).mono ?_
    rintro e w0 ⟨rfl, hb0⟩
    have HB0 := Lib.hid hb0
    clear hb0
    go_wp2_with (fail)
    go_ret2
    exact ⟨by rw [hr.out]; rfl, HB0.out⟩
end Go.Proofs.Yteceagldjnfeeaa

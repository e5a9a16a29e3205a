/- The walks of isthmuslaw03: fixed and the five laws. -/
import Derived.Test.YteceagldjnfeeaaDoorTag
import Derived.Test.YteceagldjnfeeaaDoorHex
namespace Go.Proofs.YteceagldjnfeeaaDoor
open Go.RowKit
set_option linter.unusedVariables false
set_option linter.unusedSimpArgs false

def abcHex : List UInt8 := [98, 97, 55, 56, 49, 54, 98, 102, 56, 102, 48, 49, 99, 102, 101, 97, 52, 49, 52, 49, 52, 48, 100, 101, 53, 100, 97, 101, 50, 50, 50, 51, 98, 48, 48, 51, 54, 49, 97, 51, 57, 54, 49, 55, 55, 97, 57, 99, 98, 52, 49, 48, 102, 102, 54, 49, 102, 50, 48, 48, 49, 53, 97, 100]
theorem abc_hex : hexOf (sha [97, 98, 99]) = abcHex := by decide +kernel
theorem abc_eq : ((⟨(hexOf (sha [97, 98, 99])).toArray⟩ : ByteArray) == ⟨abcHex.toArray⟩) = true := by rw [abc_hex]; decide

set_option maxRecDepth 100000 in
set_option maxHeartbeats 1000000 in
theorem fixed_any (w : World) (hK : KAt w) :
    Calls Tryd.prog 24 #[] w fun e w' => e = .returned (.bool true) ∧ Below w.heap.size w w' := by
  have HK := Lib.hid hK
  have HS : Hid (Bs (w.alloc (.cells #[.int .u8 97, .int .u8 98, .int .u8 99] 5 (3, 4))) (some ⟨w.heap.size, 0, none⟩) 3 3 [97, 98, 99]) :=
    Sl.of_block (heap_alloc_new w _) (by simp; decide)
  have HB1 : Hid (Below w.heap.size w (w.alloc (.cells #[.int .u8 97, .int .u8 98, .int .u8 99] 5 (3, 4)))) := (Below.refl _ _).alloc (Nat.le_refl _) _
  have K1 := Lib.hid (sum_any _ _ _ _ _ HS.out (by omega) (HK.out.below HK.out.pos HB1.out))
  have hE := abc_eq
  have hV := Lib.run_convert_bytes_const (P := Tryd.prog) w 22 5 #[.int .u8 97, .int .u8 98, .int .u8 99] 3 3 Tryd.underlying22 Tryd.underlying5
  simp only [List.size_toArray, List.length_cons, List.length_nil] at hV
  unfold abcHex at hE
  clear hK
  go_enter Tryd.func24, Tryd.ntmps24
  go_wp2_with (first | (go_at_call 22; refine K1.out.mono ?_; rintro e w3 h3; have H3 := Lib.hid h3.slice; clear h3; obtain ⟨g3, c3, rfl, h4, h5, h6⟩ := H3.out; have HB3 := Lib.hid (below_then HB1.out HB1.out.size h4); have K2 := Lib.hid (hex_any _ _ _ _ w3 h6 (by omega)); clear h4 h5 h6 H3) | (go_at_call 26; refine K2.out.mono ?_; rintro e w4 ⟨rfl, h4⟩; have HB4 := Lib.hid (below_then HB3.out HB3.out.size h4); clear h4))
  go_ret
  exact ⟨rfl, HB4.out⟩

theorem same3_yes (a1 a2 : Option Addr) (n1 c1 n2 c2 : Nat) (l : List UInt8) (w : World) (h1 : Bs w a1 n1 c1 l) (h2 : Bs w a2 n2 c2 l) :
    Calls Tryd.prog 25 #[.slice a1 n1 c1, .slice a2 n2 c2] w fun e w' => e = .returned (.bool true) ∧ Below w.heap.size w w' := by
  have := same3_any a1 a2 n1 c1 n2 c2 l l w h1 h2
  simpa using this

/-- append(s, x, y, ..) on a row of bytes of the call's own: the elements stand in a new block; whatever else stands, stands. -/
theorem app_g {w : World} {B : Nat} {ops : Array Oper} {rest : List Oper} {o : Oper} {ac : Act} {Q : Exit → Act → World → Prop} (hgd : o.guard = none) (s x : Operand)
    (ho : o.op = .call { callee := .builtin .append, args := #[s, x], argTypes := #[22, 22] })
    (g n c : Nat) (l : List UInt8) (hs : ac.eval s = .slice (some ⟨g, 0, none⟩) n c) (HO : Hid (w.ownsRow B 5 1 (.slice (some ⟨g, 0, none⟩) n c) n (bts l))) (hB : Hid (B ≤ w.heap.size))
    (cs : Array Value) (news : List UInt8) (m : Nat) (hx : ac.eval x = .slice (some ⟨w.heap.size, 0, none⟩) m m) (hm : cs.size = m) (hc : cs.toList = bts news) (hlen : Hid (n + m ≤ 140737488355328)) (hm0 : 0 < m)
    (h : ∀ g' c' w', Hid (w'.ownsRow B 5 1 (.slice (some ⟨g', 0, none⟩) (n + m) c') (n + m) (bts (l ++ news))) → Hid (w.grownBy w' (some g)) → wpList Tryd.prog ops Q rest (ac.put o.dst (.slice (some ⟨g', 0, none⟩) (n + m) c')) w') :
    wpList Tryd.prog ops Q (o :: rest) ac (w.alloc (.cells cs 5)) := by
  have hl : n + m ≤ 140737488355328 := hlen
  have hb : Below w.heap.size w (w.alloc (.cells cs 5)) := (Below.refl _ _).alloc (Nat.le_refl _) _
  have hsl := Sl.of_block (heap_alloc_new w (.cells cs 5)) (by rw [hm]; unfold maxLen; omega)
  rw [hc, hm] at hsl
  refine wpList_append_src hgd s x 22 ho B 5 (.int .u8 0) 1 Tryd.underlying22 info5 rfl _ _ _ hs (own_keep HO.out hb) _ m m _ hx hsl (bts_one _) (by unfold maxLen; omega) (by omega) (Nat.le_trans hB.out hb.size) ?_
  intro v' w' ho' hg' _
  have ho2 := ho'
  obtain ⟨g', c', rfl⟩ : ∃ g' c', v' = .slice (some ⟨g', 0, none⟩) (n + m) c' := by
    rcases ho'.2 with ⟨_, h0⟩ | ⟨g', cap, cur, hv, _⟩
    · omega
    · exact ⟨g', cap, hv⟩
  refine h g' c' w' ?_ ?_
  · rw [bts_append]; exact ho2
  · refine ⟨hg'.os, hg'.tape, hg'.output, Nat.le_trans hb.size hg'.size, fun k hk hne => ?_⟩
    rw [hg'.block k (Nat.lt_of_lt_of_le hk hb.size) hne]
    exact hb.block k hk

theorem own_out {w : World} {B : Nat} {v : Value} {n : Nat} {xs ys : List UInt8} (h : w.ownsRow B 5 1 v xs.length (bts xs)) (he : xs = ys) (hl : ys.length = n) (hn : 0 < n) :
    ∃ g c, v = .slice (some ⟨g, 0, none⟩) n c ∧ B ≤ g ∧ g < w.heap.size ∧ n ≤ c ∧ w.ownsRow B 5 1 (.slice (some ⟨g, 0, none⟩) n c) n (bts ys) := by
  subst he
  rw [hl] at h
  rcases h.2 with ⟨_, h0⟩ | ⟨g, cap, cur, rfl, hg, hb, hc, _⟩
  · omega
  · exact ⟨g, cap, rfl, hg, (Array.getElem?_eq_some_iff.1 hb).1, hc, h⟩
theorem own_bs {w : World} {B g n c : Nat} {l : List UInt8} (h : w.ownsRow B 5 1 (.slice (some ⟨g, 0, none⟩) n c) n (bts l)) : Bs w (some ⟨g, 0, none⟩) n c l := by
  obtain ⟨a', c', e, hs⟩ := own_sl h
  cases e
  exact hs
theorem xor_one (b : UInt8) : bits .xor .u8 (ub b) 1 = ub (b ^^^ 1) := by
  unfold ub
  rw [show (1 : Int) = ((1 : Nat) : Int) from rfl, u8_xor_nat _ _ b.toNat_lt (by omega), UInt8.toNat_xor]
  rfl
theorem own_set {w : World} {B g n c : Nat} {l : List UInt8} (h : w.ownsRow B 5 1 (.slice (some ⟨g, 0, none⟩) n c) n (bts l)) (k : Nat) (x : UInt8) :
    (w.setCell ⟨g, k, none⟩ (.int .u8 (ub x))).ownsRow B 5 1 (.slice (some ⟨g, 0, none⟩) n c) n (bts (l.set k x)) := by
  rw [← bts_set]
  exact (h.stored k _).1
theorem row0_below (w : World) : Hid (Below w.heap.size w (w.alloc (.cells #[] 5))) := (Below.refl _ _).alloc (Nat.le_refl _) _
theorem row0_own (w : World) : Hid ((w.alloc (.cells #[] 5)).ownsRow w.heap.size 5 1 (.slice (some ⟨w.heap.size, 0, none⟩) 0 0) ([] : List UInt8).length (bts [])) := World.ownsRow_made w #[] 0 (Nat.le_refl _) (by unfold maxLen; omega) rfl

set_option maxRecDepth 100000 in
set_option maxHeartbeats 1000000 in
theorem shaSums_walk (a : Option Addr) (n c : Nat) (l : List UInt8) (w : World) (h : Bs w a n c l) (hn : n ≤ 140737488351232) (hK : KAt w) (hK1 : KAt1 w) :
    Calls Tryd.prog 3 #[.slice a n c] w fun e w' => e = .returned (.bool true) ∧ Below w.heap.size w w' := by
  have HL := Lib.hid h.blen
  have H := Lib.hid h
  have HK := Lib.hid hK
  have HK1 := Lib.hid hK1
  have HB0 := row0_below w
  have HO0 := row0_own w
  have HL1 := Lib.hid (h.below HB0.out)
  have hb1 : Hid (([] : List UInt8).length + n ≤ 140737488355328) := by show 0 + n ≤ _; omega
  have hb2 : Hid (([] ++ l).length + 3 ≤ 140737488355328) := by show _ ≤ _; rw [List.nil_append, HL.out]; omega
  have hb3 : Hid (([] : List UInt8).length + (n + 3) ≤ 140737488355328) := by show 0 + (n + 3) ≤ _; omega
  have HLW : Hid ((l ++ [91, 92, 93]).length = n + 3) := by show _ = _; rw [List.length_append, HL.out]; rfl
  clear h hK hK1
  go_enter Tryd.func3, Tryd.ntmps3
  go_wp2_with (first
    | (at_builtin; refine app_b (w0 := w) rfl (.tmp 10) (.tmp 11) rfl _ _ rfl HO0 HB0 _ _ _ _ rfl HL1 hb1 ?_; intro v1 w1 HO1 HB1)
    | (at_builtin; refine app_k (w0 := w) rfl (.tmp 12) (.tmp 13) rfl _ _ rfl HO1 HB1 _ [91, 92, 93] 3 rfl rfl rfl hb2 ?_; intro v2 w2 ho2 HB2; obtain ⟨g2, c2, rfl, hg2, hl2, hc2, hO2⟩ := own_out ho2.out (show [] ++ l ++ [91, 92, 93] = l ++ [91, 92, 93] from rfl) HLW.out (by omega); have HO2 := Lib.hid hO2; have HR2 := row0_own w2; have HT2 := row0_below w2; have HS2 := Lib.hid ((own_bs hO2).below HT2.out); have hc2n : n ≤ c2 := (by omega); clear ho2 hO2)
    | (at_builtin; refine app_b (w0 := w2) rfl (.tmp 15) (.tmp 16) rfl _ _ rfl HR2 HT2 _ _ _ _ rfl HS2 hb3 ?_; intro v3 w3 ho3 HB3; obtain ⟨g3, c3, rfl, hg3, hl3, hc3, hO3⟩ := own_out ho3.out (show [] ++ (l ++ [91, 92, 93]) = l ++ [91, 92, 93] from rfl) HLW.out (by omega); have HO3 := Lib.hid hO3; clear ho3 hO3))
  have HB3w := Lib.hid (below_then HB2.out HB2.out.size HB3.out)
  have HSW := Lib.hid ((own_bs HO2.out).below HB3.out)
  have HSV := Lib.hid (own_bs HO3.out)
  clear HO0 HB0 HL1 hb1 hb2 hb3 HO1 HB1 HR2 HT2 HS2
  -- x
  have hs1 : Bs w3 (some ⟨g2, 0, none⟩) n c2 l := by
    have := HSW.out.take n (by omega)
    rwa [← bts_take, List.take_append_of_le_length (by rw [HL.out]; omega), List.take_of_length_le (by rw [HL.out]; omega)] at this
  refine (sum_any _ _ _ l w3 hs1 (by omega) (HK.out.below HK.out.pos HB3w.out)).mono ?_
  rintro e w4 ⟨gx, cx, rfl, hb4, hgx, ho4⟩
  have HO4 := Lib.hid ho4
  have HB4 := Lib.hid hb4
  have HB4w := Lib.hid (below_then HB3w.out HB3w.out.size hb4)
  clear hs1 hb4 ho4
  go_wp2_with (fail)
  -- y
  refine (sum_any _ _ _ l w4 (H.out.below HB4w.out) (by omega) (HK.out.below HK.out.pos HB4w.out)).mono ?_
  rintro e w5 ⟨gy, cy, rfl, hb5, hgy, ho5⟩
  have HO5 := Lib.hid ho5
  have HB5 := Lib.hid hb5
  have HB5w := Lib.hid (below_then HB4w.out HB4w.out.size hb5)
  clear hb5 ho5
  go_wp2_with (fail)
  -- want
  refine (rsum_any _ _ _ l w5 (H.out.below HB5w.out) (by omega) (HK1.out.below HK1.out.pos HB5w.out)).mono ?_
  rintro e w6 ⟨gz, cz, rfl, hb6, hgz, ho6⟩
  have HO6 := Lib.hid ho6
  have HB6 := Lib.hid hb6
  have HB6w := Lib.hid (below_then HB5w.out HB5w.out.size hb6)
  clear hb6 ho6
  go_wp2_with (fail)
  -- fixed
  refine (fixed_any w6 (HK.out.below HK.out.pos HB6w.out)).mono ?_
  rintro e w7 ⟨rfl, hb7⟩
  have HB7 := Lib.hid hb7
  have HX7 := Lib.hid (own_keep (own_keep (own_keep HO4.out HB5.out) HB6.out) hb7)
  have HY7 := Lib.hid (own_keep (own_keep HO5.out HB6.out) hb7)
  have HZ7 := Lib.hid (own_keep HO6.out hb7)
  have HW7 := Lib.hid (((((HSW.out.below HB4.out).below HB5.out).below HB6.out).below hb7))
  have HV7 := Lib.hid (((((HSV.out.below HB4.out).below HB5.out).below HB6.out).below hb7))
  have HB7w := Lib.hid (below_then HB6w.out HB6w.out.size hb7)
  clear hb7
  go_wp2_with (fail)
  refine (same3_yes _ _ _ _ _ _ (sha l) w7 (own_bs HX7.out) (own_bs HZ7.out)).mono ?_
  rintro e w8 ⟨rfl, hb8⟩
  have HB8 := Lib.hid hb8
  clear hb8
  go_wp2_with (fail)
  refine (same3_yes _ _ _ _ _ _ (sha l) w8 ((own_bs HY7.out).below HB8.out) ((own_bs HZ7.out).below HB8.out)).mono ?_
  rintro e w9 ⟨rfl, hb9⟩
  have HB9 := Lib.hid hb9
  clear hb9
  go_wp2_with (fail)
  refine (same3_yes _ _ _ _ _ _ (l ++ [91, 92, 93]) w9 ((HW7.out.below HB8.out).below HB9.out) ((HV7.out.below HB8.out).below HB9.out)).mono ?_
  rintro e w10 ⟨rfl, hb10⟩
  have HX10 := Lib.hid (own_keep (own_keep (own_keep HX7.out HB8.out) HB9.out) hb10)
  have HY10 := Lib.hid (own_keep (own_keep (own_keep HY7.out HB8.out) HB9.out) hb10)
  have HZ10 := Lib.hid (own_keep (own_keep (own_keep HZ7.out HB8.out) HB9.out) hb10)
  have HB10w := Lib.hid (below_then (below_then (below_then HB7w.out HB7w.out.size HB8.out) (Nat.le_trans HB7w.out.size HB8.out.size) HB9.out) (Nat.le_trans HB7w.out.size (Nat.le_trans HB8.out.size HB9.out.size)) hb10)
  have hxy : gx ≠ gy := by
    have := HO4.out.lt gx rfl
    omega
  have hxz : gx ≠ gz := by
    have := HO4.out.lt gx rfl
    have := HB5.out.size
    omega
  have hwx : w.heap.size ≤ gx := by
    have := HB3w.out.size
    omega
  clear hb10 HX7 HY7 HZ7 HW7 HV7 HB8 HB9 HO4 HO5 HO6 HB5 HB6 HB7 HB4 HSW HSV HO3 HO2
  go_wp2_with (fail)
  go_loopw [49] (fun i wr => ∃ k : Nat, k ≤ 32 ∧ i = .int .i64 k ∧ Hid (w10.grownBy wr (some gx)) ∧ ∃ ls : List UInt8, Hid (wr.ownsRow w3.heap.size 5 1 (.slice (some ⟨gx, 0, none⟩) 32 cx) 32 (bts ls))) (fun i _ => 32 - (intOf i).toNat)
  case atStart => exact ⟨0, by omega, rfl, grefl _ _, _, HX10⟩
  case round =>
    obtain ⟨k, hk, rfl, HG, ls, HO⟩ := hrel
    have hll : ls.length = 32 := (own_bs HO.out).blen
    by_cases hlt : k < 32
    · have g1 : wr.cell? ⟨gx, k, none⟩ = some (.int .u8 (ub (ls[k]'(by omega)))) := by
        rw [HO.out.cellAt k (by omega), bts_get ls k (by omega)]
      have f1 := HO.out.frozenAt k
      have i0 : (0 : Int) ≤ (k : Int) := by omega
      have i1 : (k : Int) < 32 := by omega
      generalize ls[k]'(by omega) = b at g1
      have hx := xor_one b
      go_wp2
      exact ⟨⟨k + 1, by omega, by go_num, gset HG.out k _, ls.set k (b ^^^ 1), own_set HO.out k _⟩, by simp [intOf]; omega⟩
    · obtain rfl : k = 32 := by omega
      have hs3 : Hid (w3.heap.size ≤ wr.heap.size) := by
        have h1 := HO.out.lt gx rfl
        show _ ≤ _
        omega
      have h34 : Hid (32 + 2 ≤ 140737488355328) := by show _ ≤ _; omega
      go_wp2_with (at_builtin; refine app_g (B := w3.heap.size) rfl (.tmp 59) (.tmp 60) rfl gx 32 cx ls rfl HO hs3 _ [1, 1] 2 rfl rfl rfl h34 (by omega) ?_; intro g11 c11 w11 HO11 HG11)
      have HG12 := Lib.hid (HG.out.trans HG11.out)
      refine (same3_yes _ _ _ _ _ _ (sha l) w11 ((own_bs HY10.out).kept HG12.out (fun ad e => by cases e; intro e2; cases e2; exact hxy rfl)) ((own_bs HZ10.out).kept HG12.out (fun ad e => by cases e; intro e2; cases e2; exact hxz rfl))).mono ?_
      rintro e w12 ⟨rfl, hb12⟩
      have HB12 := Lib.hid (below_then (HB10w.out.grown HG12.out HB10w.out.size (fun k hk => by cases hk; exact hwx)) (Nat.le_trans HB10w.out.size HG12.out.size) hb12)
      clear hb12
      go_wp2_with (fail)
      go_ret
      exact ⟨rfl, HB12.out⟩

theorem ba_len (l : List UInt8) : (⟨l.toArray⟩ : ByteArray).size = l.length := by simp [ByteArray.size]
theorem ba_beq (l m : List UInt8) : ((⟨l.toArray⟩ : ByteArray) == ⟨m.toArray⟩) = decide (l = m) := by
  show (l.toArray == m.toArray) = _
  rw [Bool.eq_iff_iff, beq_iff_eq, decide_eq_true_iff]
  constructor
  · intro h; simpa using h
  · rintro rfl; rfl

set_option maxRecDepth 100000 in
set_option maxHeartbeats 1000000 in
theorem shaHexes_walk (a : Option Addr) (n c : Nat) (l : List UInt8) (w : World) (h : Bs w a n c l) (hn : n ≤ 1048576) (hK : KAt w) :
    Calls Tryd.prog 4 #[.slice a n c] w fun e w' => e = .returned (.bool true) ∧ Below w.heap.size w w' := by
  have HL := Lib.hid h.blen
  have H := Lib.hid h
  have HK := Lib.hid hK
  have hE : ((⟨(hexOf l).toArray⟩ : ByteArray) == ⟨(hexOf l).toArray⟩) = true := by rw [ba_beq]; simp
  have hS : (⟨(hexOf l).toArray⟩ : ByteArray).size = 2 * n := by rw [ba_len, hexOf_length, HL.out]
  have hS2 : (((2 * n : Nat) : Int) == 2 * (n : Int)) = true := by rw [beq_iff_eq]; omega
  have hS3 : IntKind.i64.wrap (2 * (n : Int)) = 2 * (n : Int) := IntWalk.i64_in _ (by omega)
  clear h hK
  go_enter Tryd.func4, Tryd.ntmps4
  go_wp2_with (fail)
  refine (fixed_any w HK.out).mono ?_
  rintro e w1 ⟨rfl, hb1⟩
  go_wp2_with (fail)
  refine (hex_any _ _ _ l w1 (H.out.below hb1) (by omega)).mono ?_
  rintro e w2 ⟨rfl, hb2⟩
  have hb2 := below_then hb1 hb1.size hb2
  go_wp2_with (fail)
  refine (rhex_any _ _ _ l w2 (H.out.below hb2) (by omega)).mono ?_
  rintro e w3 ⟨rfl, hb3⟩
  have hb3 := below_then hb2 hb2.size hb3
  go_wp2_with (fail)
  refine (hex_any _ _ _ l w3 (H.out.below hb3) (by omega)).mono ?_
  rintro e w4 ⟨rfl, hb4⟩
  have hb4 := below_then hb3 hb3.size hb4
  go_wp2_with (fail)
  go_ret
  exact ⟨rfl, hb4⟩

set_option maxRecDepth 100000 in
set_option maxHeartbeats 1000000 in
theorem shaApart_walk (a a' : Option Addr) (n c n' c' : Nat) (l l' : List UInt8) (w : World) (h : Bs w a n c l) (h' : Bs w a' n' c' l') (hn : n ≤ 1048576) (hn' : n' ≤ 1048576) (hK : KAt w) :
    Calls Tryd.prog 5 #[.slice a n c, .slice a' n' c'] w fun e w' => e = .returned (.bool true) ∧ Below w.heap.size w w' := by
  have H := Lib.hid h
  have H' := Lib.hid h'
  have HK := Lib.hid hK
  obtain ⟨bq, hbq⟩ : ∃ bq, bq = decide (l = l') := ⟨_, rfl⟩
  have hEE : (hexOf l == hexOf l') = bq := by
    rw [hbq, Bool.eq_iff_iff, beq_iff_eq, decide_eq_true_iff]
    exact ⟨hexOf_inj _ _, fun e => by rw [e]⟩
  have hQ : (bq == bq) = true := by simp
  have HBQ := Lib.hid hbq
  clear hbq
  clear h h' hK
  go_enter Tryd.func5, Tryd.ntmps5
  go_wp2_with (fail)
  refine (fixed_any w HK.out).mono ?_
  rintro e w1 ⟨rfl, hb1⟩
  go_wp2_with (fail)
  refine (hex_any _ _ _ l w1 (H.out.below hb1) (by omega)).mono ?_
  rintro e w2 ⟨rfl, hb2⟩
  have hb2 := below_then hb1 hb1.size hb2
  go_wp2_with (fail)
  refine (hex_any _ _ _ l' w2 (H'.out.below hb2) (by omega)).mono ?_
  rintro e w3 ⟨rfl, hb3⟩
  have hb3 := below_then hb2 hb2.size hb3
  go_wp2_with (fail)
  refine (same3_any _ _ _ _ _ _ l l' w3 (H.out.below hb3) (H'.out.below hb3)).mono ?_
  rw [← HBQ.out]
  rintro e w4 ⟨rfl, hb4⟩
  have hb4 := below_then hb3 hb3.size hb4
  go_wp2_with (fail)
  go_ret
  exact ⟨rfl, hb4⟩

theorem IsB.of {w : World} {a : Option Addr} {n c : Nat} {l : List UInt8} (h : Bs w a n c l) : IsB w (.slice a n c) l := ⟨a, n, c, rfl, h⟩
/-- A row of slices, made by the call. -/
theorem row_sl (w : World) (cs : Array Value) (k : Nat) (hk : cs.size = k) (hm : k ≤ maxLen) : Hid (Sl (w.alloc (.cells cs 22)) (some ⟨w.heap.size, 0, none⟩) k k cs.toList) := by
  subst hk
  exact Sl.of_block (heap_alloc_new w _) hm
theorem row_below (w : World) (o : Obj) : Hid (Below w.heap.size w (w.alloc o)) := (Below.refl _ _).alloc (Nat.le_refl _) _

set_option maxRecDepth 100000 in
set_option maxHeartbeats 1000000 in
theorem shaTags_walk (s : ByteArray) (a1 a2 a3 : Option Addr) (n1 c1 n2 c2 n3 c3 : Nat) (l1 l2 l3 : List UInt8) (w : World) (h1 : Bs w a1 n1 c1 l1) (h2 : Bs w a2 n2 c2 l2) (h3 : Bs w a3 n3 c3 l3) (hs : s.size ≤ 140737488355328) (hK : KAt w) (hK1 : KAt1 w) :
    Calls Tryd.prog 6 #[.agg #[.string s, .slice a1 n1 c1, .slice a2 n2 c2, .slice a3 n3 c3]] w fun e w' => e = .returned (.bool true) ∧ Below w.heap.size w w' := by
  have H1 := Lib.hid h1
  have H2 := Lib.hid h2
  have H3 := Lib.hid h3
  have HK := Lib.hid hK
  have HK1 := Lib.hid hK1
  clear h1 h2 h3 hK hK1
  go_enter Tryd.func6, Tryd.ntmps6
  go_wp2_with (fail)

  go_quiet (fail)
  go_wp2_with (fail)

  have HB0 : Hid (Below w.heap.size w ((w.alloc (Obj.cells #[Value.string s, Value.slice a1 n1 c1, Value.slice a2 n2 c2, Value.slice a3 n3 c3] 29)).drewN nq)) := below_then (row_below _ _).out (row_below _ _).out.size (drewN_below _ _)
  generalize (w.alloc (Obj.cells #[Value.string s, Value.slice a1 n1 c1, Value.slice a2 n2 c2, Value.slice a3 n3 c3] 29)).drewN nq = w0 at HB0 ⊢
  refine (ref2T_any s w0 hs).mono ?_
  rintro e w1 h1
  obtain ⟨b1, m1, k1, rfl, hb1, hs1⟩ := h1.slice
  have hx1 := hs1.blen
  have hf1 := field_length_le s.data.toList
  have HB1 := Lib.hid (below_then HB0.out HB0.out.size hb1)
  clear HB0 hb1 h1
  go_wp2_with (fail)
  refine (ref2B_any _ _ _ _ _ _ _ l1 w1 hs1 (H1.out.below HB1.out) (by omega)).mono ?_
  rintro e w2 h2
  obtain ⟨b2, m2, k2, rfl, hb2, hs2⟩ := h2.slice
  have hx2 := hs2.blen
  have hf2 := field_length_le l1
  rw [List.length_append] at hx2
  have HB2 := Lib.hid (below_then HB1.out HB1.out.size hb2)
  clear HB1 hb2 h2 hs1
  go_wp2_with (fail)
  refine (ref2B_any _ _ _ _ _ _ _ l2 w2 hs2 (H2.out.below HB2.out) (by omega)).mono ?_
  rintro e w3 h3
  obtain ⟨b3, m3, k3, rfl, hb3, hs3⟩ := h3.slice
  have hx3 := hs3.blen
  have hf3 := field_length_le l2
  rw [List.length_append, List.length_append] at hx3
  have HB3 := Lib.hid (below_then HB2.out HB2.out.size hb3)
  clear HB2 hb3 h3 hs2
  go_wp2_with (fail)
  refine (ref2B_any _ _ _ _ _ _ _ l3 w3 hs3 (H3.out.below HB3.out) (by omega)).mono ?_
  rintro e w4 h4
  obtain ⟨b4, m4, k4, rfl, hb4, hs4⟩ := h4.slice
  have hx4 := hs4.blen
  have hf4 := field_length_le l3
  rw [List.length_append, List.length_append, List.length_append] at hx4
  have HB4 := Lib.hid (below_then HB3.out HB3.out.size hb4)
  clear HB3 hb4 h4 hs3
  go_wp2_with (fail)
  refine (rsum_any _ _ _ _ w4 hs4 (by omega) (HK1.out.below HK1.out.pos HB4.out)).mono ?_
  rintro e w5 h5
  obtain ⟨g5, k5, rfl, hb5, hg5, hs5⟩ := h5.slice
  have HB5 := Lib.hid (below_then HB4.out HB4.out.size hb5)
  have HS5 : Hid (Bs w5 (some ⟨g5, 0, none⟩) 32 k5 (tagged s.data.toList [l1, l2, l3])) := hs5
  clear HB4 hb5 h5 hs4 hs5 hx1 hx2 hx3 hx4 hf1 hf2 hf3 hf4 hg5
  go_wp2_with (fail)
  refine (fixed_any w5 (HK.out.below HK.out.pos HB5.out)).mono ?_
  rintro e w6 ⟨rfl, hb6⟩
  have HB6 := Lib.hid (below_then HB5.out HB5.out.size hb6)
  have HS6 := Lib.hid (HS5.out.below hb6)
  clear HB5 hb6 HS5
  go_wp2_with (fail)
  have HR6 := row_sl w6 #[.slice a1 n1 c1, .slice a2 n2 c2, .slice a3 n3 c3] 3 rfl (by unfold maxLen; omega)
  have HT6 := row_below w6 (.cells #[.slice a1 n1 c1, .slice a2 n2 c2, .slice a3 n3 c3] 22)
  have HB6' := Lib.hid (below_then HB6.out HB6.out.size HT6.out)
  refine (tagged_any s _ _ _ _ [l1, l2, l3] _ hs HR6.out (.cons (.of (H1.out.below HB6'.out)) (.cons (.of (H2.out.below HB6'.out)) (.cons (.of (H3.out.below HB6'.out)) .nil))) (by omega) (HK.out.below HK.out.pos HB6'.out)).mono ?_
  rintro e w7 h7
  obtain ⟨g7, k7, rfl, hb7, hg7, hs7⟩ := h7.slice
  have HB7 := Lib.hid (below_then HB6'.out HB6'.out.size hb7)
  go_wp2_with (fail)
  refine (same3_yes _ _ _ _ _ _ _ w7 hs7 ((HS6.out.below HT6.out).below hb7)).mono ?_
  rintro e w8 ⟨rfl, hb8⟩
  have HB8 := Lib.hid (below_then HB7.out HB7.out.size hb8)
  clear hb7 hs7 h7 hg7 hb8 HB7 HB6' HT6 HR6 HS6 HB6
  go_wp2_with (fail)
  refine (tagged_any s _ _ _ _ [] w8 hs (Sl.nil _) .nil (by omega) (HK.out.below HK.out.pos HB8.out)).mono ?_
  rintro e w9 h9
  obtain ⟨g9, k9, rfl, hb9, hg9, hs9⟩ := h9.slice
  have HB9 := Lib.hid (below_then HB8.out HB8.out.size hb9)
  have HS9 := Lib.hid hs9
  clear h9 hg9 hs9 HB8 hb9
  go_wp2_with (fail)
  refine (wireT_any s w9 hs).mono ?_
  rintro e w10 h10
  obtain ⟨b10, m10, k10, rfl, hb10, hs10⟩ := h10.slice
  have hx10 := hs10.blen
  have hf10 := field_length_le s.data.toList
  have HB10 := Lib.hid (below_then HB9.out HB9.out.size hb10)
  go_wp2_with (fail)
  refine (sum_any _ _ _ _ w10 hs10 (by omega) (HK.out.below HK.out.pos HB10.out)).mono ?_
  rintro e w11 h11
  obtain ⟨g11, k11, rfl, hb11, hg11, hs11⟩ := h11.slice
  have HB11 := Lib.hid (below_then HB10.out HB10.out.size hb11)
  go_wp2_with (fail)
  refine (same3_yes _ _ _ _ _ _ (tagged s.data.toList []) w11 ((HS9.out.below hb10).below hb11) hs11).mono ?_
  rintro e w12 ⟨rfl, hb12⟩
  have HB12 := Lib.hid (below_then HB11.out HB11.out.size hb12)
  clear HB9 HB10 HB11 hb10 hb11 hb12 hs10 hs11 HS9 h10 h11 hg11 hx10 hf10
  go_wp2_with (fail)
  have HR12 := row_sl w12 #[.slice a1 n1 c1] 1 rfl (by unfold maxLen; omega)
  have HT12 := row_below w12 (.cells #[.slice a1 n1 c1] 22)
  have HB12' := Lib.hid (below_then HB12.out HB12.out.size HT12.out)
  refine (tagged_any s _ _ _ _ [l1] _ hs HR12.out (.cons (.of (H1.out.below HB12'.out)) .nil) (by omega) (HK.out.below HK.out.pos HB12'.out)).mono ?_
  rintro e w13 h13
  obtain ⟨g13, k13, rfl, hb13, hg13, hs13⟩ := h13.slice
  have HB13 := Lib.hid (below_then HB12'.out HB12'.out.size hb13)
  have HS13 := Lib.hid hs13
  clear h13 hg13 hs13 HB12 HB12' hb13 HT12 HR12
  go_wp2_with (fail)
  have HR13 := row_sl w13 #[.slice a1 n1 c1] 1 rfl (by unfold maxLen; omega)
  have HT13 := row_below w13 (.cells #[.slice a1 n1 c1] 22)
  have HB13' := Lib.hid (below_then HB13.out HB13.out.size HT13.out)
  refine (rtagged_any s _ _ _ _ [l1] _ hs HR13.out (.cons (.of (H1.out.below HB13'.out)) .nil) (by omega) (HK1.out.below HK1.out.pos HB13'.out)).mono ?_
  rintro e w14 h14
  obtain ⟨g14, k14, rfl, hb14, hg14, hs14⟩ := h14.slice
  have HB14 := Lib.hid (below_then HB13'.out HB13'.out.size hb14)
  go_wp2_with (fail)
  refine (same3_yes _ _ _ _ _ _ _ w14 ((HS13.out.below HT13.out).below hb14) hs14).mono ?_
  rintro e w15 ⟨rfl, hb15⟩
  have HB15 := Lib.hid (below_then HB14.out HB14.out.size hb15)
  go_wp2_with (fail)
  go_ret
  exact ⟨rfl, HB15.out⟩

set_option maxRecDepth 100000 in
set_option maxHeartbeats 1000000 in
theorem shaLens_walk (s : ByteArray) (a1 a2 : Option Addr) (n1 c1 n2 c2 : Nat) (l1 l2 : List UInt8) (w : World) (h1 : Bs w a1 n1 c1 l1) (h2 : Bs w a2 n2 c2 l2) (hs : s.size ≤ 140737488355328) (hn : n1 ≤ 140737488351232) (hK : KAt w) :
    Calls Tryd.prog 7 #[.string s, .slice a1 n1 c1, .slice a2 n2 c2] w fun e w' => e = .returned (.bool true) ∧ Below w.heap.size w w' := by
  have H1 := Lib.hid h1
  have H2 := Lib.hid h2
  have HK := Lib.hid hK
  have HR := row_sl w #[.slice a1 n1 c1, .slice a2 n2 c2] 2 rfl (by unfold maxLen; omega)
  have HT := row_below w (.cells #[.slice a1 n1 c1, .slice a2 n2 c2] 22)
  clear h1 h2 hK
  go_enter Tryd.func7, Tryd.ntmps7
  go_wp2_with (fail)
  refine (tagged_any s _ _ _ _ [l1, l2] _ hs HR.out (.cons (.of (H1.out.below HT.out)) (.cons (.of (H2.out.below HT.out)) .nil)) (by omega) (HK.out.below HK.out.pos HT.out)).mono ?_
  rintro e w1 h1
  obtain ⟨g1, k1, rfl, hb1, hg1, hs1⟩ := h1.slice
  have HB1 := Lib.hid (below_then HT.out HT.out.size hb1)
  have HS1 := Lib.hid hs1
  clear h1 hg1 hs1 hb1 HR HT
  go_wp2_with (fail)
  refine (fixed_any w1 (HK.out.below HK.out.pos HB1.out)).mono ?_
  rintro e w2 ⟨rfl, hb2⟩
  have HB2 := Lib.hid (below_then HB1.out HB1.out.size hb2)
  have HS2 := Lib.hid (HS1.out.below hb2)
  clear HB1 HS1 hb2
  go_wp2_with (fail)
  have HR := row_sl w2 #[.slice a1 n1 c1, .slice a2 n2 c2] 2 rfl (by unfold maxLen; omega)
  have HT := row_below w2 (.cells #[.slice a1 n1 c1, .slice a2 n2 c2] 22)
  have HB2' := Lib.hid (below_then HB2.out HB2.out.size HT.out)
  refine (tagged_any s _ _ _ _ [l1, l2] _ hs HR.out (.cons (.of (H1.out.below HB2'.out)) (.cons (.of (H2.out.below HB2'.out)) .nil)) (by omega) (HK.out.below HK.out.pos HB2'.out)).mono ?_
  rintro e w3 h3
  obtain ⟨g3, k3, rfl, hb3, hg3, hs3⟩ := h3.slice
  have HB3 := Lib.hid (below_then HB2'.out HB2'.out.size hb3)
  go_wp2_with (fail)
  refine (same3_yes _ _ _ _ _ _ _ w3 ((HS2.out.below HT.out).below hb3) hs3).mono ?_
  rintro e w4 ⟨rfl, hb4⟩
  have HB4 := Lib.hid (below_then HB3.out HB3.out.size hb4)
  clear HB3 HB2' hb3 hb4 h3 hs3 HT HR HS2 HB2 hg3
  go_wp2_with (fail)
  refine (sum_any _ _ _ l1 w4 (H1.out.below HB4.out) (by omega) (HK.out.below HK.out.pos HB4.out)).mono ?_
  rintro e w5 h5
  obtain ⟨g5, k5, rfl, hb5, hg5, hs5⟩ := h5.slice
  have HB5 := Lib.hid (below_then HB4.out HB4.out.size hb5)
  go_wp2_with (fail)
  refine (tagged_any s _ _ _ _ [] w5 hs (Sl.nil _) .nil (by omega) (HK.out.below HK.out.pos HB5.out)).mono ?_
  rintro e w6 h6
  obtain ⟨g6, k6, rfl, hb6, hg6, hs6⟩ := h6.slice
  have HB6 := Lib.hid (below_then HB5.out HB5.out.size hb6)
  go_wp2_with (fail)
  go_ret
  exact ⟨rfl, HB6.out⟩
end Go.Proofs.YteceagldjnfeeaaDoor

/- The walks of sign.digits and isthmusref04.Digits. -/
import Derived.Test.YteceagldjnfeeaaDoorSgr
namespace Go.Proofs.YteceagldjnfeeaaDoor
open Go.RowKit
set_option linter.unusedVariables false
set_option linter.unusedSimpArgs false

/-- Digits as values. -/
def nums (ds : List Nat) : List Value := ds.map fun (d : Nat) => .int .i64 (d : Int)
theorem nums_length (ds : List Nat) : (nums ds).length = ds.length := by simp [nums]
theorem nums_get (ds : List Nat) (j : Nat) (h : j < ds.length) : (nums ds)[j]? = some (.int .i64 (ds[j] : Int)) := by simp [nums, h]
theorem nums_append (a b : List Nat) : nums (a ++ b) = nums a ++ nums b := by simp [nums]
theorem info3 : (Tryd.prog.info? 3).map (fun i => (i.zero, i.size, i.bytes)) = some (some (.int .i64 0), 1, 8) := by kernel_rfl
theorem nums_one (l : List Nat) : ∀ u ∈ nums l, u.oneCell' = true := by
  intro u hu
  obtain ⟨b, _, rfl⟩ := List.mem_map.1 hu
  rfl

/-- append(s, x) on a row of numbers of the call's own. -/
theorem app_n {w w0 : World} {ops : Array Oper} {rest : List Oper} {o : Oper} {ac : Act} {Q : Exit → Act → World → Prop} (hgd : o.guard = none) (s x : Operand)
    (ho : o.op = .call { callee := .builtin .append, args := #[s, x], argTypes := #[81, 81] })
    (v : Value) (l : List Nat) (hs : ac.eval s = v) (HO : Hid (w.ownsRow w0.heap.size 3 1 v l.length (nums l))) (HB : Hid (Below w0.heap.size w0 w))
    (d : Nat) (xv : Value) (hd : Hid (xv = .int .i64 (d : Int))) (hx : ac.eval x = .slice (some ⟨w.heap.size, 0, none⟩) 1 1) (hlen : Hid (l.length ≤ 1000000))
    (h : ∀ v' w', Hid (w'.ownsRow w0.heap.size 3 1 v' (l ++ [d]).length (nums (l ++ [d]))) → Hid (Below w0.heap.size w0 w') → wpList Tryd.prog ops Q rest (ac.put o.dst v') w') :
    wpList Tryd.prog ops Q (o :: rest) ac (w.alloc (.cells #[xv] 3)) := by
  have hl : l.length ≤ 1000000 := hlen
  have hb : Below w.heap.size w (w.alloc (.cells #[xv] 3)) := (row_below w _).out
  have hsl := Sl.of_block (heap_alloc_new w (.cells #[xv] 3)) (show (#[xv] : Array Value).size ≤ maxLen by simp [maxLen])
  have e : [xv] = nums [d] := by rw [hd.out]; rfl
  have hsl2 : Sl (w.alloc (.cells #[xv] 3)) (some ⟨w.heap.size, 0, none⟩) 1 1 (nums [d]) := by rw [← e]; exact hsl
  refine wpList_append_src hgd s x 81 ho w0.heap.size 3 (.int .i64 0) 8 Tryd.underlying81 info3 rfl v _ _ hs (own_keep HO.out hb) _ 1 1 _ hx hsl2 (nums_one _) (by unfold maxLen; omega) (by omega) (Nat.le_trans HB.out.size hb.size) ?_
  intro v' w' ho' hg' _
  have hB' := below_then HB.out HB.out.size hb
  refine h v' w' ?_ (hB'.grown hg' hB'.size fun j hj => (HO.out.lt j hj).1)
  rw [List.length_append, nums_append]
  exact ho'

theorem restOf_snoc2 (ds : List Nat) (a b : Nat) : restOf (ds ++ [a, b]) = restOf ds + (15 - a) + (15 - b) := by
  rw [restOf_append]; simp [restOf]; omega

set_option maxRecDepth 100000 in
set_option maxHeartbeats 2000000 in
theorem rdigits_any (D : Nat) (a a' : Option Addr) (n d n' d' : Nat) (root msg : List UInt8) (key : Nat) (w : World) (hr : Pt w D (.slice a n d) root) (hm : Pt w D (.slice a' n' d') msg) (hk : key < 1000) (hK : KAt1 w) :
    Calls Tryd.prog 83 #[.slice a n d, .int .i64 key, .slice a' n' d'] w fun e w' => ∃ ad c, e = .returned (.slice ad 18 c) ∧ Below w.heap.size w w' ∧ Sl w' ad 18 c (nums (digits root key msg)) := by
  have HR := Lib.hid hr
  have HM := Lib.hid hm
  have HK := Lib.hid hK
  clear hr hm hK
  go_enter Tryd.func83, Tryd.ntmps83
  go_wp2_with (fail)
  refine (rnumber_any D key w (by omega)).mono ?_
  rintro e w1 ⟨a1, n1, d1, rfl, hb1, hp1⟩
  have HB1 := Lib.hid hb1
  have HP1 := Lib.hid hp1
  clear hb1 hp1
  go_wp2_with (fail)
  refine (rtagged_row 0 wSigned _ 3 [root, be8 key, msg] w1 (by decide) rfl (by omega) (.cons (HR.out.below HB1.out) (.cons HP1.out (.cons (HM.out.below HB1.out) .nil))) (HK.out.below HK.out.pos HB1.out)).mono ?_
  rintro e w2 h2
  obtain ⟨a2, n2, d2, rfl, hb2, hp2⟩ := h2.before HB1.out
  have HB2 := Lib.hid hb2
  have hl2 : (tagged wSigned [root, be8 key, msg]).length = 32 := tagged_length _ _
  have hn2 : n2 = 32 := by rw [← hp2.bs.blen, hl2]
  subst hn2
  have HP2 := Lib.hid hp2.bs
  have HL2 := Lib.hid hl2
  have HD : Hid (digits root key msg = digitsH (tagged wSigned [root, be8 key, msg])) := rfl
  clear hb2 hp2 h2 hl2
  generalize tagged wSigned [root, be8 key, msg] = h at HP2 HL2 HD
  go_wp2_with (fail)
  go_loopw [8, 9, 10] (fun x s i wr => ∃ k : Nat, k ≤ 8 ∧ i = .int .i64 k ∧ s = .int .i64 ((restOf (hiLo (h.take k)) : Nat) : Int) ∧ Hid (Below w2.heap.size w2 wr) ∧ Hid (wr.ownsRow w2.heap.size 3 1 x (hiLo (h.take k)).length (nums (hiLo (h.take k))))) (fun _ _ i _ => 8 - (intOf i).toNat)
  case atStart => exact ⟨0, by omega, rfl, by simp [hiLo, restOf], Below.refl _ _, (World.ownsRow_nil w2 w2.heap.size 3 1 : w2.ownsRow w2.heap.size 3 1 (.slice none 0 0) 0 [])⟩
  case round =>
    obtain ⟨k, hk8, rfl, rfl, HB, HO⟩ := hrel
    have hrl := restOf_le (hiLo (h.take k))
    rw [hiLo_length, List.length_take, HL2.out, Nat.min_eq_left (by omega)] at hrl
    by_cases hlt : k < 8
    · obtain ⟨b, o, rfl, hc⟩ := (HP2.out.below HB.out).bat (j := k) (by omega)
      have g1 := hc k (by rw [HL2.out]; omega)
      have HT := Lib.hid (hiLo_take h k (by rw [HL2.out]; omega))
      have hlen : Hid ((hiLo (h.take k)).length ≤ 999999) := by show _ ≤ _; rw [hiLo_length, List.length_take]; omega
      generalize h[k]'(by rw [HL2.out]; omega) = x at g1 HT
      have e1 := hi_eq x
      have e2 := lo_eq x
      have h16 : x.toNat / 16 < 16 := by have := x.toNat_lt; omega
      have h15 : x.toNat % 16 < 16 := by omega
      have i0 : (0 : Int) ≤ (k : Int) := by omega
      have i1 : (k : Int) < 8 := by omega
      have i2 : (k : Int) < 32 := by omega
      clear hc
      generalize x.toNat / 16 = y at *
      generalize x.toNat % 16 = z at *
      generalize hrr : restOf (hiLo (h.take k)) = R at hrl ⊢
      have q1 : IntKind.i64.wrap (y : Int) = y := IntWalk.i64_in _ (by omega)
      have q2 : IntKind.i64.wrap (z : Int) = z := IntWalk.i64_in _ (by omega)
      have q3 : IntKind.i64.wrap (30 - (y : Int)) = 30 - (y : Int) := IntWalk.i64_in _ (by omega)
      have q4 : IntKind.i64.wrap (30 - (y : Int) - (z : Int)) = 30 - (y : Int) - (z : Int) := IntWalk.i64_in _ (by omega)
      have q5 : IntKind.i64.wrap ((R : Int) + (30 - (y : Int) - (z : Int))) = (R : Int) + (30 - (y : Int) - (z : Int)) := IntWalk.i64_in _ (by omega)
      go_wp2_with (fail)
      go_quiet (fail)
      have hbd : Below wr.heap.size wr (wr.drewN nq) := drewN_below _ _
      have HB3 := Lib.hid (below_then HB.out HB.out.size hbd)
      have HO3 := Lib.hid (own_keep HO.out hbd)
      have HRR := Lib.hid hrr
      have hlen2 : Hid ((hiLo (h.take k) ++ [y]).length ≤ 1000000) := by
        have := hlen.out
        show _ ≤ _
        rw [List.length_append]; simp only [List.length_cons, List.length_nil]; omega
      have hlen1 : Hid ((hiLo (h.take k)).length ≤ 1000000) := by
        have := hlen.out
        show _ ≤ _
        omega
      clear HB HO hbd hlen g1 hrr
      generalize wr.drewN nq = w3 at HB3 HO3 ⊢
      go_wp2_with (first
        | (at_builtin; refine app_n (w0 := w2) rfl (.tmp 35) (.tmp 37) rfl _ _ rfl HO3 HB3 y _ rfl rfl hlen1 ?_; intro v4 w4 HO4 HB4)
        | (at_builtin; refine app_n (w0 := w2) rfl (.tmp 39) (.tmp 41) rfl _ _ rfl HO4 HB4 z _ rfl rfl hlen2 ?_; intro v5 w5 HO5 HB5))
      have HE : Hid (hiLo (h.take (k + 1)) = hiLo (h.take k) ++ [y] ++ [z]) := by
        show _ = _
        rw [HT.out, List.append_assoc]; rfl
      have HRE : Hid ((R : Int) + (30 - (y : Int) - (z : Int)) = ((restOf (hiLo (h.take (k + 1))) : Nat) : Int)) := by
        show _ = _
        rw [HT.out, restOf_snoc2, HRR.out]; omega
      exact ⟨⟨k + 1, by omega, by go_num, by rw [HRE.out], HB5, by rw [HE.out]; exact HO5⟩, by simp [intOf]; omega⟩
    · obtain rfl : k = 8 := by omega
      have hlen1 : Hid ((hiLo (h.take 8)).length ≤ 1000000) := by show _ ≤ _; rw [hiLo_length, List.length_take]; omega
      have hlen2 : Hid ((hiLo (h.take 8) ++ [restOf (hiLo (h.take 8)) / 16]).length ≤ 1000000) := by
        show _ ≤ _
        rw [List.length_append, hiLo_length, List.length_take]; simp only [List.length_cons, List.length_nil]; omega
      have HE : Hid (digits root key msg = hiLo (h.take 8) ++ [restOf (hiLo (h.take 8)) / 16] ++ [restOf (hiLo (h.take 8)) % 16]) := by
        show _ = _
        rw [HD.out, digitsH, List.append_assoc]; rfl
      have hdl := digits_length root key msg
      have HDL := Lib.hid hdl
      clear hdl
      generalize restOf (hiLo (h.take 8)) = R at *
      go_wp2_with (first
        | (at_builtin; refine app_n (w0 := w2) rfl (.tmp 49) (.tmp 52) rfl _ _ rfl HO HB (R / 16) _ rfl rfl hlen1 ?_; intro v4 w4 HO4 HB4)
        | (at_builtin; refine app_n (w0 := w2) rfl (.tmp 54) (.tmp 57) rfl _ _ rfl HO4 HB4 (R % 16) _ rfl rfl hlen2 ?_; intro v5 w5 HO5 HB5))
      obtain ⟨ad, c, e5, hs5⟩ := own_sl HO5.out
      have hl5 : (hiLo (h.take 8) ++ [R / 16] ++ [R % 16]).length = 18 := by rw [← HE.out]; exact HDL.out
      rw [hl5] at e5 hs5
      subst e5
      have HS5 : Hid (Sl w5 ad 18 c (nums (digits root key msg))) := by
        show Sl _ _ _ _ _
        rw [HE.out]; exact hs5
      clear hs5 hl5
      go_ret
      exact ⟨ad, c, rfl, below_then HB2.out HB2.out.size HB5.out, HS5.out⟩

/-- The digits while they are laid: k bytes are in. -/
def laidD (l : List UInt8) (k : Nat) : List Nat := hiLo (l.take k) ++ List.replicate (18 - 2 * k) 0
theorem laidD_length (l : List UInt8) (k : Nat) (hk : k ≤ 8) (hl : l.length = 8) : (laidD l k).length = 18 := by
  rw [laidD, List.length_append, hiLo_length, List.length_take, List.length_replicate]; omega
theorem laidD_succ (l : List UInt8) (k : Nat) (hk : k < 8) (hl : l.length = 8) (y z : Nat) (h : hiLo (l.take (k + 1)) = hiLo (l.take k) ++ [y, z]) :
    ((laidD l k).set (2 * k) y).set (2 * k + 1) z = laidD l (k + 1) := by
  have h1 : (hiLo (l.take k)).length = 2 * k := by rw [hiLo_length, List.length_take]; omega
  have h2 : List.replicate (18 - 2 * k) 0 = 0 :: 0 :: List.replicate (18 - 2 * (k + 1)) 0 := by
    rw [show 18 - 2 * k = (18 - 2 * (k + 1)) + 1 + 1 by omega, List.replicate_succ, List.replicate_succ]
  rw [laidD, laidD, h, h2, List.set_append_right _ _ (by omega), List.set_append_right _ _ (by omega), h1]
  simp
theorem nums_set (l : List Nat) (j x : Nat) : (nums l).set j (.int .i64 (x : Int)) = nums (l.set j x) := by simp [nums, List.map_set]

/-- A block of numbers of the call's own, of an array's type. -/
def NumsAt (w : World) (g : Nat) (l : List Nat) : Prop := w.heap[g]? = some (.cells (nums l).toArray 114 (0, 0))
theorem NumsAt.cell {w : World} {g : Nat} {l : List Nat} (h : NumsAt w g l) (j : Nat) (hj : j < l.length) : w.cell? ⟨g, j, none⟩ = some (.int .i64 (l[j] : Int)) := by
  rw [cell_of_row _ _ _ _ _ _ h]
  simp [nums, hj]
theorem NumsAt.frozen {w : World} {g : Nat} {l : List Nat} (h : NumsAt w g l) (j : Nat) : w.frozen? ⟨g, j, none⟩ = false := frozen_of_row _ _ _ _ _ h
theorem NumsAt.set {w : World} {g : Nat} {l : List Nat} (h : NumsAt w g l) (j x : Nat) : NumsAt (w.setCell ⟨g, j, none⟩ (.int .i64 (x : Int))) g (l.set j x) := by
  unfold NumsAt
  have := heap_setCell_same w g j _ _ (.int .i64 (x : Int)) h
  rw [this, ← nums_set]
  simp
theorem NumsAt.other {w : World} {g g' : Nat} {l : List Nat} (h : NumsAt w g l) (hne : g ≠ g') (j : Nat) (v : Value) : NumsAt (w.setCell ⟨g', j, none⟩ v) g l := by
  unfold NumsAt
  rw [← h]
  exact heap_setCell_other w ⟨g', j, none⟩ g v (fun e => hne e)
theorem NumsAt.below {w w1 : World} {g : Nat} {l : List Nat} (h : NumsAt w g l) (hb : Below w.heap.size w w1) : NumsAt w1 g l := (hb.block _ (blk_lt h)).trans h
theorem Pt.stored {w : World} {B g : Nat} {v : Value} {l : List UInt8} {ns : List Nat} (h : Pt w B v l) (hg : NumsAt w g ns) (hB : B ≤ g) (j : Nat) (x : Value) : Pt (w.setCell ⟨g, j, none⟩ x) B v l :=
  h.kept (gset (grefl w _) j x) hB hg (by decide)
theorem shr4_eq (n : Nat) : (n : Int) / 16 = ((n / 16 : Nat) : Int) := by omega
theorem i64_and15 (n : Int) : bits .and .i64 n 15 = n % 16 := by
  have h15 : (BitVec.ofInt 64 15).toNat = 2 ^ 4 - 1 := by decide
  have key : (BitVec.ofInt 64 n &&& BitVec.ofInt 64 15).toNat = (n % ((2 ^ 64 : Nat) : Int)).toNat % 2 ^ 4 := by
    rw [BitVec.toNat_and, BitVec.toNat_ofInt, h15, Nat.and_two_pow_sub_one_eq_mod]
  show IntKind.i64.wrap ((BitVec.ofInt 64 n &&& BitVec.ofInt 64 15).toNat : Nat) = n % 16
  rw [key, IntKind.wrap_i64]
  omega
theorem and15_eq (n : Nat) : bits .and .i64 (n : Int) 15 = ((n % 16 : Nat) : Int) := by
  rw [i64_and15]; omega
theorem list16 {α : Type} (l : List α) (h : l.length = 16) : ∃ x0 x1 x2 x3 x4 x5 x6 x7 x8 x9 x10 x11 x12 x13 x14 x15, l = [x0, x1, x2, x3, x4, x5, x6, x7, x8, x9, x10, x11, x12, x13, x14, x15] := by
  match l, h with
  | [x0, x1, x2, x3, x4, x5, x6, x7, x8, x9, x10, x11, x12, x13, x14, x15], _ => exact ⟨_, _, _, _, _, _, _, _, _, _, _, _, _, _, _, _, rfl⟩
theorem getD_set_eq (l : List Nat) (i x : Nat) (h : i < l.length) : (l.set i x)[i]? = some x := by simp [h]

set_option maxRecDepth 100000 in
set_option maxHeartbeats 2000000 in
theorem digits_any (D : Nat) (a a' : Option Addr) (n d n' d' : Nat) (root msg : List UInt8) (key : Nat) (w : World) (hr : Pt w D (.slice a n d) root) (hm : Pt w D (.slice a' n' d') msg) (hk : key < 1000) (hK : KAt w) :
    Calls Tryd.prog 75 #[.slice a n d, .int .i64 key, .slice a' n' d'] w fun e w' => e = .returned (.agg (nums (digits root key msg)).toArray) ∧ Below w.heap.size w w' := by
  obtain ⟨hb0, g1, g2⟩ := two_blocks w (.cells (nums (laidD [] 0)).toArray 114) (.cells (nums (laidD [] 0)).toArray 114)
  have HB0 := Lib.hid hb0
  have HR := Lib.hid (hr.below hb0)
  have HM := Lib.hid (hm.below hb0)
  have HK := Lib.hid hK
  have HG6 : Hid (NumsAt ((w.alloc (.cells (nums (laidD [] 0)).toArray 114)).alloc (.cells (nums (laidD [] 0)).toArray 114)) w.heap.size (laidD [] 0)) := g1
  have HG7 : Hid (NumsAt ((w.alloc (.cells (nums (laidD [] 0)).toArray 114)).alloc (.cells (nums (laidD [] 0)).toArray 114)) (w.heap.size + 1) (laidD [] 0)) := g2
  clear hr hm hK hb0 g1 g2
  go_enter Tryd.func75, Tryd.ntmps75
  go_wp2_with (fail)
  change Calls _ _ _ ((w.alloc (.cells (nums (laidD [] 0)).toArray 114)).alloc (.cells (nums (laidD [] 0)).toArray 114)) _
  generalize (w.alloc (.cells (nums (laidD [] 0)).toArray 114)).alloc (.cells (nums (laidD [] 0)).toArray 114) = w0 at HB0 HR HM HG6 HG7 ⊢
  refine (number_any D key w0 (by omega)).mono ?_
  rintro e w1 ⟨a1, n1, d1, rfl, hb1, hp1⟩
  have HB1 := Lib.hid (below_then HB0.out HB0.out.size hb1)
  have HP1 := Lib.hid hp1
  have HR1 := Lib.hid (HR.out.below hb1)
  have HM1 := Lib.hid (HM.out.below hb1)
  have HG6' := Lib.hid (HG6.out.below hb1)
  have HG7' := Lib.hid (HG7.out.below hb1)
  clear hb1 hp1 HG6 HG7 HR HM
  go_wp2_with (fail)
  refine (tagged_row 0 wSigned _ 3 [root, be8 key, msg] w1 (by decide) rfl (by omega) (.cons HR1.out (.cons HP1.out (.cons HM1.out .nil))) (HK.out.below HK.out.pos HB1.out)).mono ?_
  rintro e w2 ⟨a2, n2, d2, rfl, hb2, hp2⟩
  have HB2 := Lib.hid (below_then HB1.out HB1.out.size hb2)
  have HG6 := Lib.hid (HG6'.out.below hb2)
  have HG7 := Lib.hid (HG7'.out.below hb2)
  have hl2 : (tagged wSigned [root, be8 key, msg]).length = 32 := tagged_length _ _
  have hn2 : n2 = 32 := by rw [← hp2.bs.blen, hl2]
  subst hn2
  have hcap : 32 ≤ d2 := hp2.bs.cap
  have h8d : 8 ≤ d2 := by omega
  have HD : Hid (digits root key msg = digitsH (tagged wSigned [root, be8 key, msg])) := rfl
  obtain ⟨l8, hl8⟩ : ∃ l8, l8 = (tagged wSigned [root, be8 key, msg]).take 8 := ⟨_, rfl⟩
  have HL8 : Hid (l8.length = 8) := by show _ = _; rw [hl8, List.length_take, hl2]; rfl
  have HD8 : Hid (digits root key msg = hiLo l8 ++ [restOf (hiLo l8) / 16, restOf (hiLo l8) % 16]) := by show _ = _; rw [HD.out, digitsH, hl8]
  have HP8 : Hid (Pt w2 0 (.slice a2 8 d2) l8) := by
    obtain ⟨a', n', c', e, hs, hd⟩ := hp2
    cases e
    refine ⟨_, _, _, rfl, ?_, .inr ?_⟩
    · have := hs.take 8 (by omega)
      rwa [← bts_take, ← hl8] at this
    · rcases hd with h0 | hd
      · omega
      · exact hd
  clear hb2 hp2 hl2 hl8 HD HG6' HG7' HR1 HM1 HP1 hcap
  go_wp2_with (fail)
  go_loopw [8, 19] (fun s i wr => ∃ k : Nat, k ≤ 8 ∧ i = .int .i64 k ∧ s = .int .i64 ((restOf (hiLo (l8.take k)) : Nat) : Int) ∧ Hid (Below w.heap.size w wr) ∧ Hid (Pt wr 0 (.slice a2 8 d2) l8) ∧ Hid (NumsAt wr w.heap.size (laidD [] 0)) ∧ Hid (NumsAt wr (w.heap.size + 1) (laidD l8 k))) (fun _ i _ => 8 - (intOf i).toNat)
  case atStart => exact ⟨0, by omega, rfl, by simp [hiLo, restOf], HB2, HP8, HG6, by simpa [laidD] using HG7⟩
  case round =>
    clear HB2 HP8 HG6 HG7
    obtain ⟨k, hk8, rfl, rfl, HB, HP, HG6, HG7⟩ := hrel
    have hrl := restOf_le (hiLo (l8.take k))
    rw [hiLo_length, List.length_take, HL8.out, Nat.min_eq_left (by omega)] at hrl
    by_cases hlt : k < 8
    · obtain ⟨b, o, rfl, hc⟩ := HP.out.bs.bat (j := k) (by omega)
      have g1 := hc k (by rw [HL8.out]; omega)
      have hT := hiLo_take l8 k (by rw [HL8.out]; omega)
      generalize l8[k]'(by rw [HL8.out]; omega) = x at g1 hT
      have e1 := hi_eq x
      have e2 := lo_eq x
      have h16 : x.toNat / 16 < 16 := by have := x.toNat_lt; omega
      have h15 : x.toNat % 16 < 16 := by omega
      have i0 : (0 : Int) ≤ (k : Int) := by omega
      have i1 : (k : Int) < 8 := by omega
      have hll := laidD_length l8 k hk8 HL8.out
      clear hc
      generalize x.toNat / 16 = y at *
      generalize x.toNat % 16 = z at *
      have HLs := Lib.hid (laidD_succ l8 k hlt HL8.out y z hT)
      have HT := Lib.hid hT
      generalize hrr : restOf (hiLo (l8.take k)) = R at hrl ⊢
      have q1 : IntKind.i64.wrap (y : Int) = y := IntWalk.i64_in _ (by omega)
      have q2 : IntKind.i64.wrap (z : Int) = z := IntWalk.i64_in _ (by omega)
      have p0 : IntKind.i64.wrap (2 * (k : Int)) = 2 * (k : Int) := IntWalk.i64_in _ (by omega)
      have p1 : IntKind.i64.wrap (2 * (k : Int) + 1) = 2 * (k : Int) + 1 := IntWalk.i64_in _ (by omega)
      have j0 : (0 : Int) ≤ 2 * (k : Int) := by omega
      have j1 : 2 * (k : Int) < 18 := by omega
      have j2 : (0 : Int) ≤ 2 * (k : Int) + 1 := by omega
      have j3 : 2 * (k : Int) + 1 < 18 := by omega
      have t0 : (2 * (k : Int)).toNat = 2 * k := by omega
      have t1 : (2 * (k : Int) + 1).toNat = 2 * k + 1 := by omega
      have c0 := HG7.out.cell (2 * k) (by omega)
      have c1 := HG7.out.cell (2 * k + 1) (by omega)
      have f0 := HG7.out.frozen (2 * k)
      have f1 := HG7.out.frozen (2 * k + 1)
      clear hT
      go_wp2_with (fail)
      have hgx : NumsAt ((wr.setCell ⟨w.heap.size + 1, 2 * k, none⟩ (.int .i64 (y : Int))).setCell ⟨w.heap.size + 1, 2 * k + 1, none⟩ (.int .i64 (z : Int))) (w.heap.size + 1) (((laidD l8 k).set (2 * k) y).set (2 * k + 1) z) := (HG7.out.set (2 * k) y).set (2 * k + 1) z
      have HBx : Hid (Below w.heap.size w ((wr.setCell ⟨w.heap.size + 1, 2 * k, none⟩ (.int .i64 (y : Int))).setCell ⟨w.heap.size + 1, 2 * k + 1, none⟩ (.int .i64 (z : Int)))) :=
        (HB.out.setCell (p := ⟨w.heap.size + 1, 2 * k, none⟩) (Nat.le_succ _) _).setCell (p := ⟨w.heap.size + 1, 2 * k + 1, none⟩) (Nat.le_succ _) _
      have HG6x : Hid (NumsAt ((wr.setCell ⟨w.heap.size + 1, 2 * k, none⟩ (.int .i64 (y : Int))).setCell ⟨w.heap.size + 1, 2 * k + 1, none⟩ (.int .i64 (z : Int))) w.heap.size (laidD [] 0)) :=
        (HG6.out.other (by omega) _ _).other (by omega) _ _
      have HPx : Hid (Pt ((wr.setCell ⟨w.heap.size + 1, 2 * k, none⟩ (.int .i64 (y : Int))).setCell ⟨w.heap.size + 1, 2 * k + 1, none⟩ (.int .i64 (z : Int))) 0 (.slice (some ⟨b, o, none⟩) 8 d2) l8) :=
        (HP.out.stored HG7.out (Nat.zero_le _) _ _).stored (HG7.out.set (2 * k) y) (Nat.zero_le _) _ _
      have x0 := hgx.cell (2 * k) (by rw [List.length_set, List.length_set]; omega)
      have x1 := hgx.cell (2 * k + 1) (by rw [List.length_set, List.length_set]; omega)
      have hx0 : (((laidD l8 k).set (2 * k) y).set (2 * k + 1) z)[2 * k]'(by rw [List.length_set, List.length_set]; omega) = y := by
        rw [List.getElem_set_ne (by omega), List.getElem_set_self]
      have hx1 : (((laidD l8 k).set (2 * k) y).set (2 * k + 1) z)[2 * k + 1]'(by rw [List.length_set, List.length_set]; omega) = z := by
        rw [List.getElem_set_self]
      rw [hx0] at x0
      rw [hx1] at x1
      rw [HLs.out] at hgx
      have HGx := Lib.hid hgx
      clear hgx hx0 hx1 c0 c1 f0 f1 HB HG6 HG7 HP g1
      generalize (wr.setCell ⟨w.heap.size + 1, 2 * k, none⟩ (.int .i64 (y : Int))).setCell ⟨w.heap.size + 1, 2 * k + 1, none⟩ (.int .i64 (z : Int)) = wb at x0 x1 HGx HBx HG6x HPx ⊢
      have r0 : IntKind.i64.wrap (15 - (y : Int)) = 15 - (y : Int) := IntWalk.i64_in _ (by omega)
      have r1 : IntKind.i64.wrap (15 - (y : Int) + 15) = 15 - (y : Int) + 15 := IntWalk.i64_in _ (by omega)
      have r2 : IntKind.i64.wrap (15 - (y : Int) + 15 - (z : Int)) = 15 - (y : Int) + 15 - (z : Int) := IntWalk.i64_in _ (by omega)
      have r3 : IntKind.i64.wrap ((R : Int) + (15 - (y : Int) + 15 - (z : Int))) = (R : Int) + (15 - (y : Int) + 15 - (z : Int)) := IntWalk.i64_in _ (by omega)
      have HRE : Hid ((R : Int) + (15 - (y : Int) + 15 - (z : Int)) = ((restOf (hiLo (l8.take (k + 1))) : Nat) : Int)) := by
        show _ = _
        rw [HT.out, restOf_snoc2, hrr]; omega
      clear hrr
      go_quiet (fail)
      go_wp2_with (fail)
      have hbd := drewN_below wb nq
      exact ⟨⟨k + 1, by omega, by go_num, by rw [HRE.out], below_then HBx.out HBx.out.size hbd, HPx.out.below hbd, HG6x.out.below hbd, HGx.out.below hbd⟩, by simp [intOf]; omega⟩
    · have hk : k = 8 := by omega
      subst hk
      have ht8 : Hid (l8.take 8 = l8) := by show _ = _; exact List.take_of_length_le (by rw [HL8.out]; omega)
      rw [ht8.out] at hrl ⊢
      have hG : Hid (NumsAt wr (w.heap.size + 1) (hiLo l8 ++ [0, 0])) := by
        have := HG7.out
        rw [laidD, ht8.out] at this
        exact this
      have hh16 : (hiLo l8).length = 16 := by rw [hiLo_length, HL8.out]
      generalize restOf (hiLo l8) = R at *
      have u0 := shr4_eq R
      have u1 := and15_eq R
      have hy16 : R / 16 ≤ 15 := by omega
      clear hrl
      generalize R / 16 = y at *
      generalize R % 16 = z at *
      obtain ⟨o16, c16⟩ : ∃ v, wr.cell? ⟨w.heap.size + 1, 16, none⟩ = some v := ⟨_, hG.out.cell 16 (by rw [List.length_append, hh16]; simp)⟩
      obtain ⟨o17, c17⟩ : ∃ v, wr.cell? ⟨w.heap.size + 1, 17, none⟩ = some v := ⟨_, hG.out.cell 17 (by rw [List.length_append, hh16]; simp)⟩
      have f16 := hG.out.frozen 16
      have f17 := hG.out.frozen 17
      have hE : ((hiLo l8 ++ [0, 0]).set 16 y).set 17 z = hiLo l8 ++ [y, z] := by
        rw [List.set_append_right _ _ (by omega), List.set_append_right _ _ (by omega), hh16]; simp
      have hGF : NumsAt ((wr.setCell ⟨w.heap.size + 1, 16, none⟩ (.int .i64 (y : Int))).setCell ⟨w.heap.size + 1, 17, none⟩ (.int .i64 (z : Int))) (w.heap.size + 1) (hiLo l8 ++ [y, z]) := by
        have := (hG.out.set 16 y).set 17 z
        rwa [hE] at this
      have HBF : Hid (Below w.heap.size w ((wr.setCell ⟨w.heap.size + 1, 16, none⟩ (.int .i64 (y : Int))).setCell ⟨w.heap.size + 1, 17, none⟩ (.int .i64 (z : Int)))) :=
        (HB.out.setCell (p := ⟨w.heap.size + 1, 16, none⟩) (Nat.le_succ _) _).setCell (p := ⟨w.heap.size + 1, 17, none⟩) (Nat.le_succ _) _
      have HG6F : Hid (NumsAt ((wr.setCell ⟨w.heap.size + 1, 16, none⟩ (.int .i64 (y : Int))).setCell ⟨w.heap.size + 1, 17, none⟩ (.int .i64 (z : Int))) w.heap.size (laidD [] 0)) :=
        (HG6.out.other (by omega) _ _).other (by omega) _ _
      rw [← HD8.out] at hGF
      have HGF := Lib.hid hGF
      have hsz : Hid ((Tryd.prog.info? 114).map (·.size) = some (nums (digits root key msg)).toArray.size) := by
        show _ = _
        rw [List.size_toArray, nums_length, digits_length]
        kernel_rfl
      have hsz2 : Hid ((nums (laidD [] 0)).toArray.size = (nums (digits root key msg)).toArray.size) := by
        show _ = _
        rw [List.size_toArray, List.size_toArray, nums_length, nums_length, digits_length]; rfl
      have hone : Hid ((nums (digits root key msg)).toArray.all (·.oneCell') = true) := by
        show _ = _
        rw [Array.all_eq_true']
        intro u hu
        exact nums_one _ u (by simpa using hu)
      clear hGF hE hG HG6 HG7 HB HP hh16 ht8 HD8
      obtain ⟨ds, hds⟩ : ∃ ds, ds = digits root key msg := ⟨_, rfl⟩
      have HDS := Lib.hid hds
      rw [← hds] at HGF hsz hsz2 hone
      clear hds
      go_wp2_with (first
        | (refine wpList_load_row rfl 114 (.tmp 7) rfl (w.heap.size + 1) rfl 114 _ (0, 0) _ HGF.out Tryd.underlying114 rfl hsz.out ?_)
        | (refine wpList_store_row rfl 114 (.tmp 6) (.tmp 58) rfl w.heap.size _ rfl rfl 114 _ HG6F.out hsz.out hsz2.out hone.out ?_))
      have hrow := setRow_heap _ w.heap.size _ (nums ds).toArray 114 (0, 0) HG6F.out
      refine bodyPost_ret (v := .agg (nums ds).toArray) (results_cell_row (p := 6) (ty := 114) rfl _ _ w.heap.size 114 _ (0, 0) _ rfl hrow Tryd.underlying114 rfl hsz.out) rfl ⟨by rw [HDS.out], below_setRow HBF.out (Nat.le_refl _) _⟩

end Go.Proofs.YteceagldjnfeeaaDoor

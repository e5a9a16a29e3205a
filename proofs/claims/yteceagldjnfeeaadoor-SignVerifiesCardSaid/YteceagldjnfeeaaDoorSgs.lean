/- The walks of sign.Sign, isthmusref04.SignBy and isthmusref04.Sign. -/
import Derived.Test.YteceagldjnfeeaaDoorSgd
namespace Go.Proofs.YteceagldjnfeeaaDoor
open Go.RowKit
set_option linter.unusedVariables false
set_option linter.unusedSimpArgs false

theorem xor1_eq (n : Nat) (h : n < 8) : bits .xor .i64 (n : Int) 1 = ((beside n : Nat) : Int) := by
  have : n = 0 ∨ n = 1 ∨ n = 2 ∨ n = 3 ∨ n = 4 ∨ n = 5 ∨ n = 6 ∨ n = 7 := by omega
  rcases this with rfl | rfl | rfl | rfl | rfl | rfl | rfl | rfl <;> rfl
theorem beside_lt (n L : Nat) (h : n < 2 * L) : beside n < 2 * L := by
  rw [beside_eq]; split <;> omega
theorem run_index_nums (w : World) (ds : List Nat) (k : Nat) (h : k < 18) (hl : ds.length = 18) : (Instr.index 114 (.agg (nums ds).toArray) (.int .i64 k)).run Tryd.prog w = .ok (.int .i64 ((digitAt ds k : Nat) : Int)) w := by
  have hs : (sizeOf 3).run Tryd.prog w = .ok 1 w := by kernel_rfl
  have ha : (isAgg 3).run Tryd.prog w = .ok false w := by kernel_rfl
  have hk : (0 : Int) ≤ (k : Int) ∧ (k : Int) < ((18 : Nat) : Int) := by omega
  have hg : (nums ds)[k]? = some (.int .i64 ((digitAt ds k : Nat) : Int)) := by
    rw [nums_get ds k (by omega), digitAt, List.getD_eq_getElem?_getD, List.getElem?_eq_getElem (by omega)]; rfl
  simp [Instr.index, asIntOf, run_underlying Tryd.underlying114, hs, ha, hk, part, hg, h]

/-- append(s, x...) on a row of bytes of the call's own, at a step of a region that draws its order. -/
theorem wp_app_b {w w0 : World} {o : Oper} {ac : Act} {K : Act → World → Prop} {Q : Exit → Act → World → Prop} (s x : Operand)
    (ho : o.op = .call { callee := .builtin .append, args := #[s, x], argTypes := #[22, 22] })
    (v : Value) (l : List UInt8) (hs : ac.eval s = v) (HO : Hid (w.ownsRow w0.heap.size 5 1 v l.length (bts l))) (HB : Hid (Below w0.heap.size w0 w))
    (a : Option Addr) (m c : Nat) (news : List UInt8) (hx : ac.eval x = .slice a m c) (hsl : Hid (Bs w a m c news)) (hlen : Hid (l.length + m ≤ 140737488355328))
    (h : ∀ v' w', Hid (w'.ownsRow w0.heap.size 5 1 v' (l ++ news).length (bts (l ++ news))) → Hid (Below w0.heap.size w0 w') → K (ac.put o.dst v') w') :
    Oper.wp Tryd.prog o ac w K Q := by
  have hl : l.length + m ≤ 140737488355328 := hlen
  obtain ⟨i, hi, hzz⟩ := Option.map_eq_some_iff.1 info5
  simp only [Prod.mk.injEq] at hzz
  obtain ⟨hz0, hz1, hz2⟩ := hzz
  obtain ⟨v', w', hr, ho', hg', _⟩ := run_append_own_src (P := Tryd.prog) w w0.heap.size 22 o.type 5 i (.int .u8 0) 1 Tryd.underlying22 hi hz0 hz1 hz2 rfl v l.length (bts l) HO.out a m c (bts news) hsl.out (bts_one _) (by unfold maxLen; omega) (by omega) HB.out.size
  unfold Oper.wp execOp
  simp only [ho, resolve, invoke, builtin, Sem.run_bind, Sem.run_pure, Result.andThen_ok, List.map_toArray, List.map_cons, List.map_nil, hs, hx, hr]
  refine h v' w' ?_ (HB.out.grown hg' HB.out.size fun j hj => (HO.out.lt j hj).1)
  have hb : news.length = m := hsl.out.blen
  rw [List.length_append, bts_append, hb]
  exact ho'
theorem step_app_b {w w0 : World} {ops : Array Oper} {o : Oper} {ac : Act} {K : Act → World → Prop} {Q : Exit → Act → World → Prop} {E : Prop} (hgd : o.guard = none) (s x : Operand)
    (ho : o.op = .call { callee := .builtin .append, args := #[s, x], argTypes := #[22, 22] })
    (v : Value) (l : List UInt8) (hs : ac.eval s = v) (HO : Hid (w.ownsRow w0.heap.size 5 1 v l.length (bts l))) (HB : Hid (Below w0.heap.size w0 w))
    (a : Option Addr) (m c : Nat) (news : List UInt8) (hx : ac.eval x = .slice a m c) (hsl : Hid (Bs w a m c news)) (hlen : Hid (l.length + m ≤ 140737488355328))
    (h : ∀ v' w', Hid (w'.ownsRow w0.heap.size 5 1 v' (l ++ news).length (bts (l ++ news))) → Hid (Below w0.heap.size w0 w') → K (ac.put o.dst v') w') :
    if Region.wanted o (yielded ops ac.tmps) = true then Oper.wp Tryd.prog o ac w K Q else E := by
  rw [if_pos (by simp [Region.wanted, hgd])]
  exact wp_app_b s x ho v l hs HO HB a m c news hx hsl hlen h

theorem cell_below {w w' : World} (hb : Below w.heap.size w w') {b o : Nat} {v : Value} (h : w.cell? ⟨b, o, none⟩ = some v) : w'.cell? ⟨b, o, none⟩ = some v :=
  (hb.cell (p := ⟨b, o, none⟩) (World.block_lt_of_cell? w _ h)).trans h

/-- The call hands back a signature's bytes. -/
def RetS (l : List UInt8) (w : World) (e : Ending) (w' : World) : Prop := ∃ ad c, e = .returned (.slice ad 672 c) ∧ Below w.heap.size w w' ∧ Bs w' ad 672 c l
def RetS2 (l : List UInt8) (w : World) (e : Ending) (w' : World) : Prop := ∃ ad c, e = .returned (.tuple #[.slice ad 672 c, .int .i64 0]) ∧ Below w.heap.size w w' ∧ Bs w' ad 672 c l

theorem chains_len (seed : List UInt8) (key : Nat) (ds : List Nat) (n : Nat) : (chainsOf seed key ds n).length = 32 * n := by
  rw [chainsOf, flat_length _ n (fun j _ => chainsOf_32 _ _ _ j)]
theorem path_len (seed : List UInt8) (key n : Nat) (hk : key < 8) (hn : n ≤ 3) : (pathOf seed key n).length = 32 * n := by
  rw [pathOf, flat_length _ n (fun j hj => path_32 _ _ hk j (by omega))]

set_option maxRecDepth 100000 in
set_option maxHeartbeats 2000000 in
theorem rsignBy_any {D : Nat} (al a a' : Option Addr) (cl n d n' d' : Nat) (vs : List Value) (seed msg : List UInt8) (key : Nat) (w : World) (hl : Sl w al 8 cl vs) (hp : Pts w D vs (leavesOf seed)) (hs : Bs w a n d seed) (hm : Bs w a' n' d' msg) (hk : key < 8) (hK : KAt1 w) :
    Calls Tryd.prog 78 #[.slice al 8 cl, .slice a n d, .int .i64 key, .slice a' n' d'] w (RetS (sigOf seed key msg) w) := by
  have HL := Lib.hid hl
  have HP := Lib.hid hp
  have HS := Lib.hid hs
  have HM := Lib.hid hm
  have HK := Lib.hid hK
  clear hl hp hs hm hK
  go_enter Tryd.func78, Tryd.ntmps78
  go_wp2_with (fail)
  refine (rabove_any 0 D _ _ _ _ _ w HL.out HP.out (by omega) (Nat.zero_le _) HK.out).mono ?_
  rintro e w1 h1
  obtain ⟨a1, d1, vs1, rfl, hb1, hp1, hs1⟩ := h1.num (l1 seed)
  have HB1 := Lib.hid hb1
  have HP1 := Lib.hid hp1
  have HS1 := Lib.hid hs1
  clear hb1 h1 hp1 hs1
  go_wp2_with (fail)
  refine (rabove_any 0 0 _ _ _ _ _ w1 HS1.out HP1.out (by omega) (Nat.zero_le _) (HK.out.below HK.out.pos HB1.out)).mono ?_
  rintro e w2 h2
  obtain ⟨a2, d2, vs2, rfl, hb2, hp2, hs2⟩ := h2.num (l2 seed)
  have HB2 := Lib.hid (below_then HB1.out HB1.out.size hb2)
  have HP2 := Lib.hid hp2
  have HS2 := Lib.hid hs2
  have HP12 := Lib.hid (HP1.out.later hb2)
  have HS12 := Lib.hid (HS1.out.below hb2)
  clear hb2 h2 hp2 hs2 HP1 HS1
  go_wp2_with (fail)
  refine (rabove_any 0 0 _ _ _ _ _ w2 HS2.out HP2.out (by omega) (Nat.zero_le _) (HK.out.below HK.out.pos HB2.out)).mono ?_
  rintro e w3 h3
  obtain ⟨a3, d3, vs3, rfl, hb3, hp3, hs3⟩ := h3.num (l3 seed)
  have HB3 := Lib.hid (below_then HB2.out HB2.out.size hb3)
  have HP13 := Lib.hid (HP12.out.later hb3)
  have HS13 := Lib.hid (HS12.out.below hb3)
  have HP23 := Lib.hid (HP2.out.later hb3)
  have HS23 := Lib.hid (HS2.out.below hb3)
  obtain ⟨b, o, a5, n5, c5, rfl, g5, p5⟩ := Pts.read hs3 hp3 (j := 0) (by omega)
  have HP5 : Hid (Pt w3 0 (.slice a5 n5 c5) (rootOf seed)) := p5
  rw [Nat.add_zero] at g5
  clear hb3 h3 hp3 hs3 p5 HP12 HS12 HP2 HS2
  go_wp2_with (fail)
  clear g5
  refine (rdigits_any w3.heap.size _ _ _ _ _ _ (rootOf seed) msg key w3 (HP5.out.mono (Nat.zero_le _)) (.arg (HM.out.below HB3.out) (Nat.le_refl _)) (by omega) (HK.out.below HK.out.pos HB3.out)).mono ?_
  rintro e w4 ⟨a4, c4, rfl, hb4, hs4⟩
  have HB4 := Lib.hid (below_then HB3.out HB3.out.size hb4)
  have HS4 := Lib.hid hs4
  have HP14 := Lib.hid (HP13.out.later hb4)
  have HS14 := Lib.hid (HS13.out.below hb4)
  have HP24 := Lib.hid (HP23.out.later hb4)
  have HS24 := Lib.hid (HS23.out.below hb4)
  have HD : Hid (sigOf seed key msg = chainsOf seed key (digits (rootOf seed) key msg) 18 ++ pathOf seed key 3) := rfl
  have hdl := digits_length (rootOf seed) key msg
  have hdm : ∀ c, digitAt (digits (rootOf seed) key msg) c ≤ 15 := fun c => digitAt_le _ _ _ c
  have HDL := Lib.hid hdl
  have HDM := Lib.hid hdm
  clear hb4 hs4 hdl hdm HP13 HS13 HP23 HS23 HP5
  generalize digits (rootOf seed) key msg = ds at HS4 HD HDL HDM
  obtain ⟨b0, o0, x0, n0, c0, rfl, g0, p0⟩ := Pts.read (HL.out.below HB4.out) (HP.out.later HB4.out) (j := beside key) (beside_lt key 4 (by omega))
  obtain ⟨b1, o1, x1, n1, c1, rfl, g1, p1⟩ := Pts.read HS14.out HP14.out (j := beside (key / 2)) (beside_lt (key / 2) 2 (by omega))
  obtain ⟨b2, o2, x2, n2, c2, rfl, g2, p2⟩ := Pts.read HS24.out HP24.out (j := beside (key / 4)) (beside_lt (key / 4) 1 (by omega))
  have hn0 : n0 = 32 := by rw [← p0.bs.blen]; have := path_32 seed key hk 0 (by omega); rwa [Nat.pow_zero, Nat.div_one] at this
  have hn1 : n1 = 32 := by rw [← p1.bs.blen]; exact path_32 seed key hk 1 (by omega)
  have hn2 : n2 = 32 := by rw [← p2.bs.blen]; exact path_32 seed key hk 2 (by omega)
  subst hn0 hn1 hn2
  have P0 := Lib.hid p0
  have P1 := Lib.hid p1
  have P2 := Lib.hid p2
  have G0 := Lib.hid g0
  have G1 := Lib.hid g1
  have G2 := Lib.hid g2
  have HF : Hid (chainsOf seed key ds 18 ++ (leavesOf seed).getD (beside key) [] ++ (above (leavesOf seed)).getD (beside (key / 2)) [] ++ (above (above (leavesOf seed))).getD (beside (key / 4)) [] = sigOf seed key msg) := by
    show _ = _
    rw [HD.out, pathOf_succ, pathOf_succ, pathOf_succ]
    simp [pathOf, List.append_assoc, levelOf]
  have h32a := path_32 seed key hk 0 (by omega)
  have h32b := path_32 seed key hk 1 (by omega)
  have h32c := path_32 seed key hk 2 (by omega)
  have HLA : Hid ((chainsOf seed key ds 18).length + 32 ≤ 140737488355328) := by show _ ≤ _; rw [chains_len]; omega
  have HLB : Hid ((chainsOf seed key ds 18 ++ (leavesOf seed).getD (beside key) []).length + 32 ≤ 140737488355328) := by
    show _ ≤ _
    have e0 := p0.bs.blen
    rw [List.length_append, chains_len, e0]; omega
  have HLC : Hid ((chainsOf seed key ds 18 ++ (leavesOf seed).getD (beside key) [] ++ (above (leavesOf seed)).getD (beside (key / 2)) []).length + 32 ≤ 140737488355328) := by
    show _ ≤ _
    have e0 := p0.bs.blen
    have e1 := p1.bs.blen
    rw [List.length_append, List.length_append, chains_len, e0, e1]; omega
  clear g0 g1 g2 p0 p1 p2 h32a h32b h32c HS14 HS24 HP14 HP24
  have hx0 := xor1_eq key hk
  have hx1 := xor1_eq (key / 2) (by omega)
  have hx2 := xor1_eq (key / 4) (by omega)
  have hb0 := beside_lt key 4 (by omega)
  have hb1 := beside_lt (key / 2) 2 (by omega)
  have hb2 := beside_lt (key / 4) 1 (by omega)
  have hy1 : (key : Int) / 2 = ((key / 2 : Nat) : Int) := by omega
  have hy2 : (key : Int) / 4 = ((key / 4 : Nat) : Int) := by omega
  have HX := Lib.hid (And.intro hx0 (And.intro hx1 (And.intro hx2 (And.intro hy1 hy2))))
  clear hx0 hx1 hx2 hy1 hy2
  generalize key / 2 = y1 at HX P1 G1 HF HLC hb1
  generalize key / 4 = y2 at HX P2 G2 HF hb2
  go_wp2_with (fail)
  go_loopw [12, 28] (fun x i wr => ∃ k : Nat, k ≤ 18 ∧ i = .int .i64 k ∧ Hid (Below w4.heap.size w4 wr) ∧ Hid (wr.ownsRow w4.heap.size 5 1 x (chainsOf seed key ds k).length (bts (chainsOf seed key ds k)))) (fun _ i _ => 18 - (intOf i).toNat)
  case atStart => exact ⟨0, by omega, rfl, Below.refl _ _, (World.ownsRow_nil w4 w4.heap.size 5 1 : w4.ownsRow w4.heap.size 5 1 (.slice none 0 0) 0 [])⟩
  case round =>
    obtain ⟨k, hk18, rfl, HB, HO⟩ := hrel
    have HBW := Lib.hid (below_then HB4.out HB4.out.size HB.out)
    by_cases hlt : k < 18
    · obtain ⟨b, o, rfl, hc⟩ := (HS4.out.below HB.out).at (j := k) hlt
      have g1 := hc k (by rw [nums_length, HDL.out]; exact hlt)
      have e1 : (nums ds)[k]'(by rw [nums_length, HDL.out]; exact hlt) = .int .i64 ((digitAt ds k : Nat) : Int) := by
        simp only [nums, List.getElem_map]
        rw [digitAt, List.getD_eq_getElem?_getD, List.getElem?_eq_getElem (by rw [HDL.out]; exact hlt)]; rfl
      rw [e1] at g1
      have i0 : (0 : Int) ≤ (k : Int) := by omega
      have i1 : (k : Int) < 18 := by omega
      have hd15 := HDM.out k
      have HE := Lib.hid (chainsOf_succ seed key ds k)
      have H32 := Lib.hid (chainsOf_32 seed key ds k)
      have hlen : Hid ((chainsOf seed key ds k).length + 32 ≤ 140737488355328) := by show _ ≤ _; rw [chains_len]; omega
      clear hc e1
      generalize digitAt ds k = dk at g1 hd15 HE H32
      go_wp2_with (fail)
      refine (begin_any 0 a n d seed key k wr (.arg (HS.out.below HBW.out) (Nat.le_refl _)) (by omega) (by omega) (HK.out.below HK.out.pos HBW.out)).mono ?_
      rintro e w5 ⟨a5, n5, d5, rfl, hb5, hp5⟩
      have HB5 := Lib.hid (below_then HB.out HB.out.size hb5)
      have HB5W := Lib.hid (below_then HBW.out HBW.out.size hb5)
      have HP5 := Lib.hid hp5
      have HO5 := Lib.hid (own_keep HO.out hb5)
      clear hb5 hp5
      go_wp2_with (fail)
      refine (along_any 0 _ _ _ (secretOf seed key k) k 0 dk w5 HP5.out (by omega) (by omega) (by omega) (HK.out.below HK.out.pos HB5W.out)).mono ?_
      rintro e w6 ⟨a6, n6, d6, rfl, hb6, hp6⟩
      have HB6 := Lib.hid (below_then HB5.out HB5.out.size hb6)
      have HO6 := Lib.hid (own_keep HO5.out hb6)
      have hn6 : n6 = 32 := by rw [← hp6.bs.blen, Nat.sub_zero]; exact H32.out
      subst hn6
      have HS6 : Hid (Bs w6 a6 32 d6 (chain k 0 dk (secretOf seed key k))) := hp6.bs
      clear hb6 hp6 HO HO5
      go_wp2_with (at_builtin; refine app_b (w0 := w4) rfl (.tmp 33) (.tmp 40) rfl _ _ rfl HO6 HB6 _ _ _ _ rfl HS6 hlen ?_; intro v7 w7 HO7 HB7)
      exact ⟨⟨k + 1, by omega, by go_num, HB7, by rw [HE.out]; exact HO7⟩, by simp [intOf]; omega⟩
    · obtain rfl : k = 18 := by omega
      obtain ⟨hx0, hx1, hx2, hy1, hy2⟩ := HX.out
      have g0 := cell_below HB.out G0.out
      have S0 := Lib.hid (P0.out.below HB.out).bs
      have i18 : ¬ ((18 : Nat) : Int) < 18 := by omega
      have j0 : (0 : Int) ≤ (key : Int) := by omega
      have j8 : (key : Int) < 8 := by omega
      go_wp2_with (first
        | (at_builtin; refine app_b (w0 := w4) rfl (.tmp 43) (.tmp 48) rfl _ _ rfl HO HB _ _ _ _ rfl S0 HLA ?_; intro v7 w7 HO7 HB7; have g1 := cell_below HB7.out G1.out; have S1 := Lib.hid (P1.out.below HB7.out).bs)
        | (at_builtin; refine app_b (w0 := w4) rfl (.tmp 50) (.tmp 56) rfl _ _ rfl HO7 HB7 _ _ _ _ rfl S1 HLB ?_; intro v8 w8 HO8 HB8; have g2 := cell_below HB8.out G2.out; have S2 := Lib.hid (P2.out.below HB8.out).bs)
        | (at_builtin; refine app_b (w0 := w4) rfl (.tmp 58) (.tmp 64) rfl _ _ rfl HO8 HB8 _ _ _ _ rfl S2 HLC ?_; intro v9 w9 HO9 HB9))
      have HO10 : Hid (w9.ownsRow w4.heap.size 5 1 v9 (sigOf seed key msg).length (bts (sigOf seed key msg))) := by
        show World.ownsRow _ _ _ _ _ _ _
        rw [← HF.out]; exact HO9.out
      obtain ⟨a9, c9, e9, hs9⟩ := own_sl HO10.out
      rw [sigOf_length seed key msg hk] at e9 hs9
      subst e9
      have HS9 := Lib.hid hs9
      clear hs9
      go_ret
      exact ⟨_, _, rfl, below_then HB4.out HB4.out.size HB9.out, HS9.out⟩
end Go.Proofs.YteceagldjnfeeaaDoor

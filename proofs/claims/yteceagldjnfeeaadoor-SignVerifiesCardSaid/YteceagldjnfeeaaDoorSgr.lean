/- The walks of sign.tree and sign.Root. -/
import Derived.Test.YteceagldjnfeeaaDoorSgt
namespace Go.Proofs.YteceagldjnfeeaaDoor
open Go.RowKit
set_option linter.unusedVariables false
set_option linter.unusedSimpArgs false

theorem info77 : (Tryd.prog.info? 77).map (fun i => (i.zero, i.size, i.bytes)) = some (some (.slice none 0 0), 1, 24) := by kernel_rfl

/-- The levels, each a list; the row that holds them is the call's own. -/
structure Lvs (B C : Nat) (seed : List UInt8) (w : World) (v : Value) (X : Nat → Value) (n : Nat) : Prop where
  row : w.ownsRow B 77 1 v (n + 1) ((List.range (n + 1)).map X)
  lst : ∀ i, i ≤ n → ∃ vs, Lst B C w (X i) vs (levelOf seed i)
theorem Lvs.below {B C n : Nat} {seed : List UInt8} {w w1 : World} {v : Value} {X : Nat → Value} (h : Lvs B C seed w v X n) (hb : Below w.heap.size w w1) : Lvs B C seed w1 v X n :=
  ⟨own_keep h.row hb, fun i hi => by obtain ⟨vs, hl⟩ := h.lst i hi; exact ⟨vs, hl.below hb⟩⟩
theorem Lst.lower {B B' C : Nat} {w : World} {v : Value} {vs : List Value} {ls : List (List UInt8)} (h : Lst B C w v vs ls) (hB : B' ≤ B) : Lst B' C w v vs ls := ⟨own_mono h.row hB, h.pts⟩
theorem Lst.val {B C : Nat} {w : World} {v : Value} {vs : List Value} {ls : List (List UInt8)} (h : Lst B C w v vs ls) : v.oneCell' = true := by
  obtain ⟨a, c, rfl, _⟩ := h.sl; rfl
theorem Lvs.made (B C : Nat) (seed : List UInt8) (w : World) (hB : B ≤ w.heap.size) (v : Value) (vs : List Value) (h : Lst B C w v vs (levelOf seed 0)) :
    Lvs B C seed (w.alloc (.cells #[v] 77)) (.slice (some ⟨w.heap.size, 0, none⟩) 1 1) (fun _ => v) 0 := by
  refine ⟨World.ownsRow_lit w #[v] 1 hB (by unfold maxLen; omega) rfl, fun i hi => ⟨vs, ?_⟩⟩
  obtain rfl : i = 0 := by omega
  exact h.below (row_below w _).out

theorem wp_app_t {w w0 : World} {C n : Nat} {seed : List UInt8} {rest : List Oper} {ops : Array Oper} {o : Oper} {ac : Act} {Q : Exit → Act → World → Prop} (hgd : o.guard = none) (s x : Operand)
    (ho : o.op = .call { callee := .builtin .append, args := #[s, x], argTypes := #[97, 97] })
    (v : Value) (X : Nat → Value) (hs : ac.eval s = v) (HO : Hid (Lvs w0.heap.size C seed w v X n)) (HB : Hid (Below w0.heap.size w0 w)) (hn : n ≤ 100)
    (xv : Value) (vs : List Value) (hx : ac.eval x = .slice (some ⟨w.heap.size, 0, none⟩) 1 1) (hp : Hid (Lst w0.heap.size C w xv vs (levelOf seed (n + 1)))) (hC : C ≤ w0.heap.size)
    (h : ∀ v' w', Hid (Lvs w0.heap.size C seed w' v' (fun i => if i ≤ n then X i else xv) (n + 1)) → Hid (Below w0.heap.size w0 w') → wpList Tryd.prog ops Q rest (ac.put o.dst v') w') :
    wpList Tryd.prog ops Q (o :: rest) ac (w.alloc (.cells #[xv] 77)) := by
  have hb : Below w.heap.size w (w.alloc (.cells #[xv] 77)) := (row_below w _).out
  have hsl := Sl.of_block (heap_alloc_new w (.cells #[xv] 77)) (show (#[xv] : Array Value).size ≤ maxLen by simp [maxLen])
  have h1 : ∀ u ∈ [xv], u.oneCell' = true := by
    intro u hu
    simp only [List.mem_singleton] at hu
    subst hu
    exact hp.out.val
  have hO := HO.out.below hb
  refine wpList_append_src hgd s x 97 ho w0.heap.size 77 (.slice none 0 0) 24 Tryd.underlying97 info77 rfl v _ _ hs hO.row _ 1 1 [xv] hx hsl h1 (by unfold maxLen; omega) (by omega) (Nat.le_trans HB.out.size hb.size) ?_
  intro v' w' ho' hg' _
  have hB' := below_then HB.out HB.out.size hb
  have hp1 := hp.out.below hb
  have keep : ∀ (u : Value) (us : List Value) (ls : List (List UInt8)), Lst w0.heap.size C (w.alloc (.cells #[xv] 77)) u us ls → Lst w0.heap.size C w' u us ls := by
    intro u us ls hl
    rcases hO.row.2 with ⟨_, e2⟩ | ⟨g2, cap, cur, e2, hg2, hgc, _⟩
    · omega
    · rw [e2] at hg'
      exact hl.kept hg' (Nat.le_trans hC hg2) hgc (by decide) (by decide)
  refine h v' w' ⟨?_, fun i hi => ?_⟩ (hB'.grown hg' hB'.size fun j hj => (HO.out.row.lt j hj).1)
  · have e : (List.range (n + 1 + 1)).map (fun i => if i ≤ n then X i else xv) = (List.range (n + 1)).map X ++ [xv] := by
      rw [range_map_succ]
      congr 1
      · exact List.map_congr_left fun i hi => by have := List.mem_range.1 hi; rw [if_pos (by omega)]
      · rw [if_neg (by omega)]
    rw [e]
    exact ho'
  · by_cases hin : i ≤ n
    · obtain ⟨us, hl⟩ := hO.lst i hin
      exact ⟨us, by simp only [if_pos hin]; exact keep _ _ _ hl⟩
    · obtain rfl : i = n + 1 := by omega
      exact ⟨vs, by simp only [if_neg hin]; exact keep _ _ _ hp1⟩

/-- The call hands back the four levels. -/
def RetT (C : Nat) (seed : List UInt8) (w : World) (e : Ending) (w' : World) : Prop :=
  ∃ g c X, e = .returned (.slice (some ⟨g, 0, none⟩) 4 c) ∧ Below w.heap.size w w' ∧ Lvs w.heap.size C seed w' (.slice (some ⟨g, 0, none⟩) 4 c) X 3

set_option maxRecDepth 100000 in
set_option maxHeartbeats 4000000 in
theorem tree_any (C : Nat) (a : Option Addr) (n d : Nat) (seed : List UInt8) (w : World) (hs : Bs w a n d seed) (hC : C ≤ w.heap.size) (hK : KAt w) :
    Calls Tryd.prog 66 #[.slice a n d] w (RetT C seed w) := by
  have HK := Lib.hid hK
  have HS := Lib.hid hs
  have hT : ∀ args w, (callFunc 108 args).run Tryd.prog w = .ok (.enter 108 args) w := enters_of Tryd.func108 (by kernel_rfl) rfl
  have HT := Lib.hid hT
  have HB0 := row_below w (.cells #[.slice a n d] 22)
  have g0 : (w.alloc (.cells #[.slice a n d] 22)).heap[w.heap.size]? = some (.cells #[.slice a n d] 22 (0, 0)) := heap_alloc_new w _
  have HP1 : Hid ((w.alloc (.cells #[.slice a n d] 22)).cell? ⟨w.heap.size, 0, none⟩ = some (.slice a n d)) := by show _ = _; rw [cell_of_row _ _ _ _ _ _ g0]; rfl
  have HSZ : Hid (w.heap.size < (w.alloc (.cells #[.slice a n d] 22)).heap.size) := blk_lt g0
  clear hs hK hT g0
  go_enter Tryd.func66, Tryd.ntmps66
  go_wp2_with (fail)
  generalize w.alloc (.cells #[.slice a n d] 22) = w1 at HB0 HP1 HSZ ⊢
  have hC1 : C ≤ w1.heap.size := Nat.le_trans hC HB0.out.size
  go_loopw [3, 8] (fun x i wr => ∃ (k : Nat) (vs : List Value), k ≤ 8 ∧ i = .int .i64 k ∧ Hid (Below w1.heap.size w1 wr) ∧ Hid (Lst w1.heap.size C wr x vs ((List.range k).map fun k => leafOf k (endsOf seed k)))) (fun _ i _ => 8 - (intOf i).toNat)
  case atStart => exact ⟨0, [], by omega, rfl, Below.refl _ _, Lst.nil _ _ _⟩
  case round =>
    obtain ⟨k, vs, hk, rfl, HB, HL⟩ := hrel
    have HBW := Lib.hid (below_then HB0.out HB0.out.size HB.out)
    by_cases hlt : k < 8
    · have i1 : (k : Int) < 8 := by omega
      go_wp2_with (fail)
      have HBk := row_below wr (.cells #[.int .i64 k] 3)
      have gk : (wr.alloc (.cells #[.int .i64 k] 3)).heap[wr.heap.size]? = some (.cells #[.int .i64 k] 3 (0, 0)) := heap_alloc_new wr _
      have HPk : Hid ((wr.alloc (.cells #[.int .i64 k] 3)).cell? ⟨wr.heap.size, 0, none⟩ = some (.int .i64 k)) := by show _ = _; rw [cell_of_row _ _ _ _ _ _ gk]; rfl
      have HSk : Hid (wr.heap.size < (wr.alloc (.cells #[.int .i64 k] 3)).heap.size) := blk_lt gk
      have HLk := Lib.hid (HL.out.below HBk.out)
      have HBWk := Lib.hid (below_then HBW.out HBW.out.size HBk.out)
      have HPs : Hid ((wr.alloc (.cells #[.int .i64 k] 3)).cell? ⟨w.heap.size, 0, none⟩ = some (.slice a n d)) := by
        show _ = _
        have h1 := (below_then HB.out HB.out.size HBk.out).cell (p := ⟨w.heap.size, 0, none⟩) HSZ.out
        rw [h1]; exact HP1.out
      have HSs : Hid (w.heap.size < (wr.alloc (.cells #[.int .i64 k] 3)).heap.size) := by
        show _ < _
        have := HSZ.out
        have := HB.out.size
        have := HBk.out.size
        omega
      clear gk
      generalize wr.alloc (.cells #[.int .i64 k] 3) = wk at HBk HPk HSk HLk HBWk HPs HSs ⊢
      refine (leaf_any C 108 _ _ k (fun c => secretOf seed k c) (fun _ => 0) wk HT.out (by omega) (fun _ => by omega) ?_ (HK.out.below HK.out.pos HBWk.out)).mono ?_
      · intro j wr' hj hb'
        have hb2 := below_then HBWk.out HBWk.out.size hb'
        refine tree1_any wk.heap.size (D := wr'.heap.size) ⟨w.heap.size, 0, none⟩ ⟨wr.heap.size, 0, none⟩ a n d seed k j wr' ?_ ?_ (.arg (HS.out.below hb2) (Nat.le_refl _)) (by omega) (by omega) (HK.out.below HK.out.pos hb2)
        · exact (hb'.cell (p := ⟨w.heap.size, 0, none⟩) HSs.out).trans HPs.out
        · exact (hb'.cell (p := ⟨wr.heap.size, 0, none⟩) HSk.out).trans HPk.out
      rintro e w2 ⟨a2, n2, d2, rfl, hb2, hp2⟩
      have HB2 := Lib.hid (below_then HBWk.out HBWk.out.size hb2)
      have HB2' := Lib.hid (below_then (below_then HB.out HB.out.size HBk.out) (Nat.le_trans HB.out.size HBk.out.size) hb2)
      have HP2 : Hid (Pt w2 C (.slice a2 n2 d2) (leafOf k (endsOf seed k))) := hp2
      have HL2 := Lib.hid (HLk.out.below hb2)
      have hlen := Lib.hid (take18 (fun k => leafOf k (endsOf seed k)) k (by omega))
      clear hb2 hp2
      go_wp2_with (at_builtin; refine app_s (w0 := w1) rfl (.tmp 11) (.tmp 15) rfl _ _ _ rfl HL2 HB2' _ _ rfl HP2 hC1 hlen ?_; intro v3 w3 HL3 HB3)
      have HL4 : Hid (Lst w1.heap.size C w3 v3 (vs ++ [.slice a2 n2 d2]) ((List.range (k + 1)).map fun k => leafOf k (endsOf seed k))) := by
        show Lst _ _ _ _ _ _
        rw [range_map_succ]
        exact HL3.out
      exact ⟨⟨k + 1, _, by omega, by go_num, HB3, HL4⟩, by simp [intOf]; omega⟩
    · have h8 : k = 8 := by omega
      have i8 : ¬ (k : Int) < 8 := by omega
      have HL0 : Hid (Lst w1.heap.size C wr u3 vs (levelOf seed 0)) := by
        rw [h8] at HL
        exact HL
      clear HL h8
      obtain ⟨wo, ho⟩ : ∃ wo : World, wo = wr := ⟨_, rfl⟩
      rw [← ho] at HB HL0 HBW ⊢
      clear ho
      have HV0 := Lib.hid (Lvs.made w1.heap.size C seed wo HB.out.size u3 vs HL0.out)
      have HBa := Lib.hid (below_then HB.out HB.out.size (row_below wo (.cells #[u3] 77)).out)
      have HLa := Lib.hid (HL0.out.below (row_below wo (.cells #[u3] 77)).out)
      obtain ⟨a0, d0, e0, _⟩ := HL0.out.sl
      subst e0
      clear HB HBW HL0
      go_wp2_with (fail)
      generalize wo.alloc (.cells #[_] 77) = w2 at HV0 HBa HLa ⊢
      go_loopw [3, 5] (fun x y wr => ∃ (q : Nat) (X : Nat → Value) (vs : List Value), q ≤ 3 ∧ Hid (Below w1.heap.size w1 wr) ∧ Hid (Lvs w1.heap.size C seed wr y X q) ∧ Hid (Lst w1.heap.size C wr x vs (levelOf seed q))) (fun x _ _ => sliceLen x)
      case atStart => exact ⟨0, _, _, by omega, HBa, HV0, HLa⟩
      case round =>
        clear HBa HV0 HLa
        obtain ⟨q, X, us, hq, HB, HV, HL⟩ := hrel
        have hql := levelOf_length seed q hq
        by_cases hlt : q < 3
        · obtain ⟨a3, d3, rfl, hs3⟩ := HL.out.sl
          obtain ⟨L, hL, hL2, hLm⟩ : ∃ L, (levelOf seed q).length = 2 * L ∧ 1 ≤ L ∧ L ≤ 4 := by
            have : q = 0 ∨ q = 1 ∨ q = 2 := by omega
            rcases this with rfl | rfl | rfl
            · exact ⟨4, by rw [hql], by omega, by omega⟩
            · exact ⟨2, by rw [hql], by omega, by omega⟩
            · exact ⟨1, by rw [hql], by omega, by omega⟩
          rw [hL] at hs3 ⊢
          have HS3 := Lib.hid hs3
          have HQ3 := Lib.hid HL.out.pts
          have HN := Lib.hid hL
          clear hs3 HL hql hL
          have i1 : (1 : Int) < 2 * (L : Int) := by omega
          go_wp2_with (fail)
          obtain ⟨wq, hwq⟩ : ∃ wq : World, wq = wr := ⟨_, rfl⟩
          rw [← hwq] at HB HV HS3 HQ3 ⊢
          clear hwq
          have hCq : C ≤ wq.heap.size := Nat.le_trans hC1 HB.out.size
          go_loopw [6, 7] (fun y i wr => ∃ (m : Nat) (zs : List Value), m ≤ L ∧ i = .int .i64 (2 * (m : Int)) ∧ Hid (Below wq.heap.size wq wr) ∧ Hid (Lst wq.heap.size C wr y zs ((above (levelOf seed q)).take m))) (fun _ i _ => 2 * L - (intOf i).toNat)
          case atStart => exact ⟨0, [], by omega, by simp, Below.refl _ _, Lst.nil _ _ _⟩
          case round =>
            obtain ⟨m, zs, hm, rfl, HB2, HL2⟩ := hrel
            have HBW := Lib.hid (below_then HB0.out HB0.out.size (below_then HB.out HB.out.size HB2.out))
            by_cases hlt2 : m < L
            · have q1 : IntKind.i64.wrap (2 * (m : Int) + 1) = 2 * (m : Int) + 1 := IntWalk.i64_in _ (by omega)
              have q2 : IntKind.i64.wrap (2 * (m : Int) + 2) = 2 * (m : Int) + 2 := IntWalk.i64_in _ (by omega)
              have i2 : 2 * (m : Int) + 1 < 2 * (L : Int) := by omega
              have i0 : (0 : Int) ≤ 2 * (m : Int) := by omega
              have i4 : 2 * (m : Int) < 2 * (L : Int) := by omega
              have i3 : (0 : Int) ≤ 2 * (m : Int) + 1 := by omega
              have t1 : (2 * (m : Int)).toNat = 2 * m := by omega
              have t2 : (2 * (m : Int) + 1).toNat = 2 * m + 1 := by omega
              obtain ⟨b, o, x1, n1, c1, rfl, g1, p1⟩ := Pts.read (HS3.out.below HB2.out) (HQ3.out.later HB2.out) (j := 2 * m) (by omega)
              obtain ⟨b', o', x2, n2, c2, e2, g2, p2⟩ := Pts.read (HS3.out.below HB2.out) (HQ3.out.later HB2.out) (j := 2 * m + 1) (by omega)
              cases e2
              have HTk := Lib.hid (above_take (levelOf seed q) m (by rw [HN.out]; omega))
              have hlen : Hid (((above (levelOf seed q)).take m).length ≤ 1000000) := by show _ ≤ _; rw [List.length_take]; omega
              have hbd : Below wr.heap.size wr wr.drew := (Below.refl _ _).drew
              have HBD := Lib.hid (below_then HB2.out HB2.out.size hbd)
              have HLD := Lib.hid (HL2.out.below hbd)
              have KX : Hid (Calls Tryd.prog 30 #[.string { data := #[110, 111, 100, 101] }, .slice (some { block := wr.heap.size, off := 0 }) 2 2] (wr.alloc (.cells #[.slice x1 n1 c1, .slice x2 n2 c2] 22)).drew (RetP C (node ((levelOf seed q).getD (2 * m) []) ((levelOf seed q).getD (2 * m + 1) [])) wr.drew)) :=
                tagged_row (D := C) C wNode #[.slice x1 n1 c1, .slice x2 n2 c2] 2 [(levelOf seed q).getD (2 * m) [], (levelOf seed q).getD (2 * m + 1) []] wr.drew (by decide) rfl (by omega) (.cons (p1.below hbd) (.cons (p2.below hbd) .nil)) (HK.out.below HK.out.pos (below_then HBW.out HBW.out.size hbd))
              clear p1 p2 hbd
              go_wp2_with (fail)
              go_region_law (first
                | (refine step_app_s (w0 := wq) rfl (.tmp 29) (.tmp 41) rfl _ _ _ rfl HL3 HB3 _ _ rfl HP3 hCq hlen ?_; intro v4 w4 HL4 HB4)
                | (go_simp; go_at_call 30; refine KX.out.mono ?_; rintro e w3 ⟨a3, n3, d3, rfl, hb3, hp3⟩; have HB3 := Lib.hid (below_then HBD.out HBD.out.size hb3); have HP3 := Lib.hid hp3; have HL3 := Lib.hid (HLD.out.below hb3); clear hb3 hp3))
              all_goals go_wp2_with (fail)
              all_goals (
                have HL5 : Hid (Lst wq.heap.size C w4 v4 (zs ++ [.slice a3 n3 d3]) ((above (levelOf seed q)).take (m + 1))) := by
                  show Lst _ _ _ _ _ _
                  rw [HTk.out]
                  exact HL4.out
                exact ⟨⟨m + 1, _, by omega, by go_num, HB4, HL5⟩, by simp [intOf]; omega⟩)
            · obtain rfl : m = L := by omega
              have i2 : ¬ 2 * (m : Int) < 2 * (m : Int) := by omega
              have hF : Hid ((above (levelOf seed q)).take m = levelOf seed (q + 1)) := by
                show _ = _
                rw [levelOf]
                exact List.take_of_length_le (by rw [above_length, HN.out]; omega)
              rw [hF.out] at HL2
              have HL3 := Lib.hid (HL2.out.lower (HB.out.size))
              have HV3 := Lib.hid (HV.out.below HB2.out)
              have HB3 := Lib.hid (below_then HB.out HB.out.size HB2.out)
              obtain ⟨a5, d5, e5, _⟩ := HL3.out.sl
              subst e5
              clear HL2 HB2
              go_wp2_with (at_builtin; refine wp_app_t (w0 := w1) rfl (.tmp 44) (.tmp 46) rfl _ _ rfl HV3 HB3 (by omega) _ _ rfl HL3 hC1 ?_; intro v6 w6 HV6 HB6)
              obtain ⟨vs6, hl6⟩ := HV6.out.lst (q + 1) (Nat.le_refl _)
              simp only [show ¬ (q + 1 ≤ q) by omega, if_false] at hl6
              have hln : (levelOf seed (q + 1)).length = m := by
                rw [levelOf, above_length, HN.out]; omega
              exact ⟨⟨q + 1, _, vs6, by omega, HB6, HV6, hl6⟩, by simp only [sliceLen]; omega⟩
        · obtain rfl : q = 3 := by omega
          obtain ⟨a3, d3, rfl, hs3⟩ := HL.out.sl
          have hl3 : (levelOf seed 3).length = 1 := hql
          rw [hl3]
          obtain ⟨g, c, e5⟩ : ∃ g c, u5 = .slice (some ⟨g, 0, none⟩) 4 c := by
            rcases HV.out.row.2 with ⟨_, h0⟩ | ⟨g, cap, cur, hv, _⟩
            · omega
            · exact ⟨g, cap, hv⟩
          subst e5
          have i1 : ¬ ((1 : Int) < ((1 : Nat) : Int)) := by omega
          clear hs3 HL hl3 hql
          go_wp2_with (fail)
          go_ret
          exact ⟨g, c, X, rfl, below_then HB0.out HB0.out.size HB.out, ⟨own_mono HV.out.row HB0.out.size, fun i hi => by obtain ⟨zs, hz⟩ := HV.out.lst i hi; exact ⟨zs, hz.lower HB0.out.size⟩⟩⟩

set_option maxRecDepth 100000 in
set_option maxHeartbeats 1000000 in
theorem root_any (C : Nat) (a : Option Addr) (n d : Nat) (seed : List UInt8) (w : World) (hs : Bs w a n d seed) (hC : C ≤ w.heap.size) (hK : KAt w) :
    Calls Tryd.prog 33 #[.slice a n d] w (RetP C (rootOf seed) w) := by
  have HK := Lib.hid hK
  have HS := Lib.hid hs
  clear hs hK
  go_enter Tryd.func33, Tryd.ntmps33
  go_wp2_with (fail)
  refine (tree_any C a n d seed w HS.out hC HK.out).mono ?_
  rintro e w1 ⟨g, c, X, rfl, hb1, hv⟩
  have g3 : w1.cell? ⟨g, 3, none⟩ = some (X 3) := by rw [hv.row.cellAt 3 (by omega)]; rfl
  obtain ⟨vs, hl⟩ := hv.lst 3 (Nat.le_refl _)
  obtain ⟨a3, d3, e3, hs3⟩ := hl.sl
  rw [e3] at g3
  have hl3 : (levelOf seed 3).length = 1 := levelOf_length seed 3 (by omega)
  rw [hl3] at g3 hs3
  obtain ⟨b, o, a5, n5, c5, rfl, g5, p5⟩ := Pts.read hs3 hl.pts (j := 0) (by omega)
  have HP5 : Hid (Pt w1 C (.slice a5 n5 c5) (rootOf seed)) := p5
  rw [Nat.add_zero] at g5
  have HB1 := Lib.hid hb1
  clear hb1 hv hl hs3 p5 e3 hl3
  go_wp2_with (fail)
  go_ret
  exact ⟨_, _, _, rfl, HB1.out, HP5.out⟩
end Go.Proofs.YteceagldjnfeeaaDoor

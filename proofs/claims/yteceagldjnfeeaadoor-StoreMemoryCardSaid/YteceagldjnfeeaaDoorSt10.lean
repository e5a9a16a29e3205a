/- The walk of the store's Pairs. -/
import Derived.Test.YteceagldjnfeeaaDoorSt9
namespace Go.Proofs.YteceagldjnfeeaaDoor
open Go.RowKit Go.Maps
set_option linter.unusedVariables false
set_option linter.unusedSimpArgs false

theorem pairs_snoc (es : SM Ent) (e : List UInt8 × Ent) (pre : List UInt8) : pairsOf (es ++ [e]) pre = pairsOf es pre ++ (if seenBy pre e = true then [(e.1, e.2.1)] else []) := by
  unfold pairsOf
  rw [List.filter_append, List.map_append]
  by_cases h : seenBy pre e = true
  · rw [if_pos h, List.filter_cons_of_pos h]; rfl
  · rw [if_neg h, List.filter_cons_of_neg h]; rfl
theorem row_below2 {B : Nat} {w w1 : World} {e size : Nat} {u : Value} {n : Nat} {xs : List Value} (h : w.ownsRow B e size u n xs) (hb : Below w.heap.size w w1) : w1.ownsRow B e size u n xs :=
  h.kept (row := none) ⟨hb.os, hb.tape, hb.output, hb.size, fun i hi _ => hb.block i hi⟩ (by cases u.ownBlock <;> simp)
def RetPairs (ps : List KV) (w : World) : Ending → World → Prop := fun e w' => ∃ v, e = .returned v ∧ OwnV w.heap.size w' v ps ∧ Below w.heap.size w w'
set_option maxRecDepth 100000 in
theorem pairs_nil (pre : List UInt8) (w : World) : Calls Tryd.prog 40 #[.pointer none, str pre] w (RetPairs [] w) := by
  go_enter Tryd.func40, Tryd.ntmps40
  go_wp2_with (fail)
  go_ret
  exact ⟨_, rfl, OwnV.nil _ _, Below.refl _ _⟩

set_option maxRecDepth 100000 in
set_option maxHeartbeats 8000000 in
theorem pairs_any (B p : Nat) (es : SM Ent) (pre : List UInt8) (w : World) (hk : ∀ e ∈ es, e.1.length ≤ maxLen) (hn : es.length ≤ 3518437208780)
    (hc : Calls Tryd.prog 71 #[.pointer (some ⟨p, 0, none⟩)] w (RetMap B es w)) :
    Calls Tryd.prog 40 #[.pointer (some ⟨p, 0, none⟩), str pre] w (RetPairs (pairsOf es pre) w) := by
  have HK := Lib.hid hk
  have HC := Lib.hid hc
  clear hk hc
  go_enter Tryd.func40, Tryd.ntmps40
  go_wp2_with (fail)
  refine HC.out.mono ?_
  rintro e w1 ⟨bm, rfl, hm1, hb1, hlt⟩
  have HM1 := Lib.hid hm1
  have HB1 := Lib.hid hb1
  clear hm1 hb1 hlt HC
  go_wp2_with (fail)
  refine (keys_any bm w1).mono ?_
  rintro e w2 ⟨rfl, rfl⟩
  go_wp2_with (fail)
  have HM2 := Lib.hid (HM1.out.below (row_below w1 (.cells #[.map (some bm)] 101)).out)
  have HLT := Lib.hid HM1.out.lt
  refine (sorted_any B bm es w1 HM1.out (by omega)).mono ?_
  rintro e w3 ⟨v3, rfl, hr3, hb3⟩
  obtain ⟨a3, c3, e3, _⟩ : ∃ a c, v3 = .slice a es.length c ∧ True := by
    rcases hr3.2 with ⟨e2, h0⟩ | ⟨g, cap, cur, e2, _⟩
    · exact ⟨none, 0, by rw [e2, h0], trivial⟩
    · exact ⟨_, cap, e2, trivial⟩
  subst e3
  have HM3 := Lib.hid (HM1.out.below hb3)
  have HB3 := Lib.hid (below_then HB1.out HB1.out.size hb3)
  have HR3 := Lib.hid hr3
  clear hr3 hb3
  generalize (w1.alloc (.cells #[.map (some bm)] 101)).heap.size = base at HR3
  have HN : Hid (es.length = es.length) := rfl
  generalize hnn : es.length = n at *
  have HNN : Hid (es.length = n) := hnn
  clear hnn
  go_wp2_with (fail)
  go_loopw [6, 18] (fun v i wr => ∃ j : Nat, j ≤ n ∧ i = .int .i64 j ∧ Hid (MapE B wr bm es) ∧ Hid (wr.ownsRow base 9 1 (.slice a3 n c3) n (es.map fun e => str e.1)) ∧ Hid (OwnV w.heap.size wr v (pairsOf (es.take j) pre)) ∧ Hid (Below w.heap.size w wr)) (fun _ i _ => n - (intOf i).toNat)
  case atStart => exact ⟨0, by omega, rfl, HM3, HR3, OwnV.nil _ _, HB3⟩
  case round =>
    obtain ⟨j, hj, rfl, HM, HR, HO, HB⟩ := hrel
    by_cases hlt : j < n
    · have hjl : j < es.length := by rw [HNN.out]; exact hlt
      obtain ⟨g3, ha3, gk⟩ : ∃ g, a3 = some ⟨g, 0, none⟩ ∧ wr.cell? ⟨g, j, none⟩ = some (str es[j].1) := by
        rcases HR.out.2 with ⟨e2, h0⟩ | ⟨g, cap, cur, e2, _⟩
        · omega
        · cases e2
          have := HR.out.cells (g := g) rfl j (str es[j].1) (by rw [List.getElem?_map, List.getElem?_eq_getElem hjl]; rfl)
          rw [add_plain] at this
          refine ⟨g, rfl, ?_⟩
          simpa using this
      subst ha3
      have i0 : (0 : Int) ≤ (j : Int) := by omega
      have i1 : (j : Int) < (n : Int) := by omega
      have hmem : es[j] ∈ es := List.getElem_mem hjl
      have hsnoc := Lib.hid (pairs_snoc (es.take j) es[j] pre)
      have htk : Hid (es.take (j + 1) = es.take j ++ [es[j]]) := List.take_succ_eq_append_getElem hjl
      have hpl : Hid ((pairsOf (es.take j) pre).length ≤ 3518437208780) := by
        show _ ≤ _
        unfold pairsOf
        rw [List.length_map]
        have := List.length_filter_le (seenBy pre) (es.take j)
        rw [List.length_take] at this
        have := HNN.out
        omega
      have hgt : sget es es[j].1 = some es[j].2 := sget_of_mem HM.out.rise hmem
      have hkl := HK.out es[j] hmem
      rw [← htk.out] at hsnoc
      generalize es[j] = e0 at *
      obtain ⟨k, v, gg⟩ := e0
      obtain ⟨ax, nx, cx, hrunL, hev⟩ := look_at HM.out hgt hkl
      generalize hq : pairsOf (es.take (j + 1)) pre = q1 at hsnoc
      have HQ : Hid (pairsOf (es.take (j + 1)) pre = q1) := hq
      generalize pairsOf (es.take j) pre = q0 at *
      have HBx := fun g' : Bool => row_below wr (.cells #[.slice ax nx cx, .bool g'] 105)
      clear hmem hq hkl hgt htk
      cases gg with
      | true =>
        have hq1 : Hid (q1 = q0) := by show _ = _; rw [hsnoc.out, if_neg (by simp [seenBy])]; simp
        have HBt := HBx true
        have HMt := Lib.hid (HM.out.below HBt.out)
        have HRt : Hid ((wr.alloc (.cells #[.slice ax nx cx, .bool true] 105)).ownsRow base 9 1 (.slice (some ⟨g3, 0, none⟩) n c3) n (es.map fun e => str e.1)) := HR.out.alloc _
        have HOt := Lib.hid (HO.out.below HBt.out)
        have HBB := Lib.hid (below_then HB.out HB.out.size HBt.out)
        clear hev HBx
        go_wp2_with (fail)
        exact ⟨⟨j + 1, by omega, by go_num, HMt, HRt, (by show OwnV _ _ _ _; rw [HQ.out, hq1.out]; exact HOt.out), HBB⟩, by simp [intOf]; omega⟩
      | false =>
        have HBt := HBx false
        have HE := Lib.hid (hev.below HBt.out)
        have HMt := Lib.hid (HM.out.below HBt.out)
        have HRt : Hid ((wr.alloc (.cells #[.slice ax nx cx, .bool false] 105)).ownsRow base 9 1 (.slice (some ⟨g3, 0, none⟩) n c3) n (es.map fun e => str e.1)) := HR.out.alloc _
        have HOt := Lib.hid (HO.out.below HBt.out)
        have HBB := Lib.hid (below_then HB.out HB.out.size HBt.out)
        clear hev HBx
        go_wp2_with (fail)
        have g0 : (wr.alloc (.cells #[.slice ax nx cx, .bool false] 105)).cell? ⟨wr.heap.size, 0, none⟩ = some (.slice ax nx cx) := by rw [cell_of_row _ _ _ _ _ _ (MapKept.heap_alloc wr _).1]; rfl
        generalize wr.alloc (.cells #[.slice ax nx cx, .bool false] 105) = W1 at *
        refine (Tryd.strings_HasPrefix ⟨k.toArray⟩ ⟨pre.toArray⟩ W1).mono ?_
        rintro e w4 ⟨rfl, rfl⟩
        have hx : Lib.hasPrefix (⟨k.toArray⟩ : ByteArray).data.toList (⟨pre.toArray⟩ : ByteArray).data.toList = pre.isPrefixOf k := rfl
        rw [hx]
        by_cases hpx : pre.isPrefixOf k = true
        · have hq1 : Hid (q1 = q0 ++ [(k, v)]) := by show _ = _; rw [hsnoc.out, if_pos (by simp [seenBy, hpx])]
          rw [hpx]
          clear hpx hx
          go_wp2_with (fail)
          have CC : Hid (Calls Tryd.prog 70 #[.slice ax nx cx] w4 (RetB v w4)) := by
            obtain ⟨a1, n1, c1, e1, h1, h2, _⟩ := HE.out
            injection e1 with e1
            simp only [Array.mk.injEq, List.cons.injEq, Value.slice.injEq] at e1
            obtain ⟨⟨rfl, rfl, rfl⟩, _⟩ := e1
            exact clone_own _ _ _ v w4 h1 (by have := h1.bs.blen; simp only at this h2; omega)
          refine CC.out.mono ?_
          rintro e w5 ⟨v5, rfl, hb5, ho5⟩
          obtain ⟨a5, c5, e5, _⟩ := own_sl ho5
          subst e5
          have HM5 := Lib.hid (HMt.out.below hb5)
          have HR5 := Lib.hid (row_below2 HRt.out hb5)
          have HO5 := Lib.hid (HOt.out.below hb5)
          have HP5 := Lib.hid (own_low ho5 HBB.out.size)
          have HB5 := Lib.hid (below_then HBB.out HBB.out.size hb5)
          have HX := row_below w5 (.cells #[str k, .slice a5 v.length c5] 45)
          have HM6 := Lib.hid (HM5.out.below HX.out)
          have HR6 := Lib.hid (row_below2 HR5.out HX.out)
          have H45 := Lib.hid ((HO5.out.below HX.out).t45)
          clear hb5 ho5 CC
          go_wp2_with (at_builtin; refine app_v (w0 := w) rfl (.tmp 33) (.tmp 39) rfl u6 q0 rfl HO5 HB5 k _ v rfl HP5 hpl ?_; intro v6 w6 HO6 HB6 HG6)
          have HM7 := Lib.hid (HM6.out.keptO HG6.out (fun g hg => (H45.out g hg).2))
          have HR7 := Lib.hid (row_keptO HR6.out HG6.out (fun g hg => (H45.out g hg).2) (by decide))
          exact ⟨⟨j + 1, by omega, by go_num, HM7, HR7, (by show OwnV _ _ _ _; rw [HQ.out, hq1.out]; exact HO6.out), HB6⟩, by simp [intOf]; omega⟩
        · have hpf : pre.isPrefixOf k = false := by cases h : pre.isPrefixOf k with | true => exact absurd h hpx | false => rfl
          have hq1 : Hid (q1 = q0) := by show _ = _; rw [hsnoc.out, if_neg (by simp [seenBy, hpf])]; simp
          rw [hpf]
          clear hpx hpf hx
          go_wp2_with (fail)
          exact ⟨⟨j + 1, by omega, by go_num, HMt, HRt, (by show OwnV _ _ _ _; rw [HQ.out, hq1.out]; exact HOt.out), HBB⟩, by simp [intOf]; omega⟩
    · obtain rfl : j = n := by omega
      have i5 : ¬ ((j : Int) < (j : Int)) := by omega
      have HO2 : Hid (OwnV w.heap.size wr u6 (pairsOf es pre)) := by
        have := HO.out
        rw [List.take_of_length_le (by rw [HNN.out]; exact Nat.le_refl _)] at this
        exact this
      clear HO
      go_wp2_with (fail)
      go_ret
      exact ⟨_, rfl, HO2.out, HB.out⟩
end Go.Proofs.YteceagldjnfeeaaDoor

/- The walk of merkle.climb. -/
import Derived.Test.YteceagldjnfeeaaDoorMk6
namespace Go.Proofs.YteceagldjnfeeaaDoor
open Go.RowKit
set_option linter.unusedVariables false
set_option linter.unusedSimpArgs false

theorem turns_length_le (n : Nat) : ∀ i, (turns i n).length ≤ n := by
  induction n using Nat.strongRecOn with
  | _ n ih =>
    intro i
    by_cases h : 2 ≤ n
    · have h1 := half_lt n h
      have h2 := half_pos n
      by_cases hi : i < half n
      · rw [turns_left i n h hi]; have := ih (half n) h1 i; simp; omega
      · rw [turns_right i n h hi]; have := ih (n - half n) (by omega) (i - half n); simp; omega
    · rw [turns_one i n (by omega)]; simp
def bls (l : List Bool) : List Value := l.map .bool
theorem bls_length (l : List Bool) : (bls l).length = l.length := by simp [bls]
theorem bls_append (a b : List Bool) : bls (a ++ b) = bls a ++ bls b := by simp [bls]
theorem bls_one (l : List Bool) : ∀ u ∈ bls l, u.oneCell' = true := by
  intro u hu
  obtain ⟨b, _, rfl⟩ := List.mem_map.1 hu
  rfl
theorem info161 : (Tryd.prog.info? 161).map (fun i => (i.zero, i.size, i.bytes)) = some (some (.agg #[.bool false]), 1, 1) := by kernel_rfl

/-- append(s, x) on a row of turns of the call's own. -/
theorem app_t {w w0 : World} {ops : Array Oper} {rest : List Oper} {o : Oper} {ac : Act} {Q : Exit → Act → World → Prop} (hgd : o.guard = none) (s x : Operand)
    (ho : o.op = .call { callee := .builtin .append, args := #[s, x], argTypes := #[159, 159] })
    (v : Value) (l : List Bool) (hs : ac.eval s = v) (HO : Hid (w.ownsRow w0.heap.size 161 1 v l.length (bls l))) (HB : Hid (Below w0.heap.size w0 w))
    (d : Bool) (hx : ac.eval x = .slice (some ⟨w.heap.size, 0, none⟩) 1 1) (hlen : Hid (l.length ≤ 1000000))
    (h : ∀ v' w', Hid (w'.ownsRow w0.heap.size 161 1 v' (l ++ [d]).length (bls (l ++ [d]))) → Hid (Below w0.heap.size w0 w') → wpList Tryd.prog ops Q rest (ac.put o.dst v') w') :
    wpList Tryd.prog ops Q (o :: rest) ac (w.alloc (.cells #[.bool d] 161)) := by
  have hl : l.length ≤ 1000000 := hlen
  have hb : Below w.heap.size w (w.alloc (.cells #[.bool d] 161)) := (row_below w _).out
  have hsl := Sl.of_block (heap_alloc_new w (.cells #[.bool d] 161)) (show (#[Value.bool d] : Array Value).size ≤ maxLen by simp [maxLen])
  refine wpList_append_src hgd s x 159 ho w0.heap.size 161 (.agg #[.bool false]) 1 Tryd.underlying159 info161 rfl v _ _ hs (own_keep HO.out hb) _ 1 1 _ hx hsl (bls_one [d]) (by unfold maxLen; omega) (by omega) (Nat.le_trans HB.out.size hb.size) ?_
  intro v' w' ho' hg' _
  have hB' := below_then HB.out HB.out.size hb
  refine h v' w' ?_ (hB'.grown hg' hB'.size fun j hj => (HO.out.lt j hj).1)
  rw [List.length_append, bls_append]
  exact ho'

def RetWay (D : Nat) (h : List UInt8) (i n : Nat) (path : List (List UInt8)) (w : World) (e : Ending) (w' : World) : Prop :=
  ∃ a m c, e = .returned (.tuple #[.slice a m c, .bool (wayOk i n path)]) ∧ Below w.heap.size w w' ∧ (wayOk i n path = true → Pt w' D (.slice a m c) (upOf h i n path))
theorem way_len {i n : Nat} {path : List (List UInt8)} (h : path.length ≠ (turns i n).length) : wayOk i n path = false := by
  unfold wayOk; rw [decide_eq_false h]; rfl
theorem way_32 {i n : Nat} {path : List (List UInt8)} (j : Nat) (hj : j < path.length) (h : (path.getD j []).length ≠ 32) : wayOk i n path = false := by
  unfold wayOk
  rw [Bool.and_eq_false_iff]
  right
  rw [List.all_eq_false]
  refine ⟨path[j], List.getElem_mem _, ?_⟩
  rw [List.getD_eq_getElem?_getD, List.getElem?_eq_getElem hj] at h
  simpa using h
theorem way_yes {i n : Nat} {path : List (List UInt8)} (h1 : path.length = (turns i n).length) (h : ∀ j, j < path.length → (path.getD j []).length = 32) : wayOk i n path = true := by
  unfold wayOk
  rw [decide_eq_true h1, Bool.true_and, List.all_eq_true]
  intro x hx
  obtain ⟨j, hj, rfl⟩ := List.mem_iff_getElem.1 hx
  have := h j hj
  rw [List.getD_eq_getElem?_getD, List.getElem?_eq_getElem hj] at this
  exact decide_eq_true this
theorem goUp_take (h : List UInt8) (ts : List Bool) (ps : List (List UInt8)) (j : Nat) (h1 : j < ts.length) (h2 : j < ps.length) :
    goUp h (ts.take (j + 1)) (ps.take (j + 1)) = joinT (ts.getD j false) (goUp h (ts.take j) (ps.take j)) (ps.getD j []) := by
  rw [List.take_succ_eq_append_getElem h1, List.take_succ_eq_append_getElem h2, goUp_snoc _ _ _ _ _ (by rw [List.length_take, List.length_take]; omega),
    List.getD_eq_getElem?_getD, List.getElem?_eq_getElem h1, List.getD_eq_getElem?_getD, List.getElem?_eq_getElem h2]
  rfl

set_option maxRecDepth 100000 in
set_option maxHeartbeats 8000000 in
theorem climb_any {D : Nat} (ah ap : Option Addr) (nh ch np cp i n : Nat) (h : List UInt8) (path : List (List UInt8)) (w : World) (hi : i < n) (hn : n ≤ 65536)
    (hh : Pt w D (.slice ah nh ch) h) (hp : Hs w D ap np cp path) (hK : KAt w) :
    Calls Tryd.prog 126 #[.slice ah nh ch, .int .i64 i, .int .i64 n, .slice ap np cp] w (RetWay D h i n path w) := by
  have HH := Lib.hid hh
  have HP := Lib.hid hp
  have HK := Lib.hid hK
  have HPL := Lib.hid hp.len
  have HTL := Lib.hid (turns_length_le n i)
  have hcap := hp.caps
  have hnp : np ≤ 9223372036854775807 := by have := hcap.1; have := hcap.2; unfold maxLen at this; omega
  have HI := Lib.hid hi
  have HN := Lib.hid hn
  clear hh hp hK hcap hi hn
  go_enter Tryd.func126, Tryd.ntmps126
  go_wp2_with (fail)
  go_loopw [1, 2, 10] (fun x1 x2 x10 wr => ∃ i1 n1 : Nat, ∃ ts : List Bool, x1 = .int .i64 i1 ∧ x2 = .int .i64 n1 ∧ i1 < n1 ∧ n1 ≤ 65536 ∧ Hid (ts ++ turns i1 n1 = turns i n) ∧ Hid (Below w.heap.size w wr) ∧ Hid (wr.ownsRow w.heap.size 161 1 x10 ts.length (bls ts))) (fun _ x2 _ _ => (intOf x2).toNat)
  case atStart => exact ⟨i, n, [], rfl, rfl, HI.out, HN.out, rfl, Below.refl _ _, (World.ownsRow_nil w w.heap.size 161 1 : w.ownsRow w.heap.size 161 1 (.slice none 0 0) 0 [])⟩
  case round =>
    obtain ⟨i1, n1, ts, rfl, rfl, hi1, hn1, HT, HB, HO⟩ := hrel
    by_cases h2 : 2 ≤ n1
    · have j1 : (1 : Int) < (n1 : Int) := by omega
      have hlt := half_lt n1 h2
      have hp0 := half_pos n1
      have hspl := split_ok n1 h2
      have HTL1 : Hid (ts.length ≤ 1000000) := by
        have h1 : ts.length ≤ (turns i n).length := by rw [← HT.out, List.length_append]; omega
        have h2 := HTL.out
        have h3 := HN.out
        show _ ≤ _
        omega
      have HTA := Lib.hid (turns_left i1 n1 h2)
      have HTB := Lib.hid (turns_right i1 n1 h2)
      generalize half n1 = k at *
      by_cases hlk : i1 < k
      · have j2 : (i1 : Int) < (k : Int) := by omega
        have HT2 : Hid ((ts ++ [true]) ++ turns i1 k = turns i n) := by show _ = _; rw [← HT.out, HTA.out hlk, List.append_assoc]; rfl
        go_wp2_with (fail)
        refine (hspl.out wr hn1).mono ?_
        rintro e w' ⟨rfl, rfl⟩
        go_wp2_with (at_builtin; refine app_t (w0 := w) rfl (.tmp 21) (.tmp 23) rfl _ _ rfl HO HB true rfl HTL1 ?_; intro v5 w5 HO5 HB5)
        exact ⟨⟨i1, k, ts ++ [true], rfl, rfl, hlk, by omega, HT2, HB5, HO5⟩, by simp [intOf]; omega⟩
      · have j2 : ¬ (i1 : Int) < (k : Int) := by omega
        have j3 : (k : Int) ≤ (i1 : Int) := by omega
        have j4 : (i1 : Int) ≤ 65536 := by omega
        have j5 : (n1 : Int) ≤ 65536 := by omega
        have j6 : (k : Int) ≤ (n1 : Int) := by omega
        have HT2 : Hid ((ts ++ [false]) ++ turns (i1 - k) (n1 - k) = turns i n) := by show _ = _; rw [← HT.out, HTB.out hlk, List.append_assoc]; rfl
        go_wp2_with (fail)
        refine (hspl.out wr hn1).mono ?_
        rintro e w' ⟨rfl, rfl⟩
        go_wp2_with (at_builtin; refine app_t (w0 := w) rfl (.tmp 26) (.tmp 28) rfl _ _ rfl HO HB false rfl HTL1 ?_; intro v5 w5 HO5 HB5)
        exact ⟨⟨i1 - k, n1 - k, ts ++ [false], by congr 1; omega, by congr 1; omega, by omega, by omega, HT2, HB5, HO5⟩, by simp [intOf]; omega⟩
    · have j1 : ¬ (1 : Int) < (n1 : Int) := by omega
      have HT1 : Hid (ts = turns i n) := by show _ = _; rw [← HT.out, turns_one i1 n1 (by omega), List.append_nil]
      obtain ⟨at1, ct, ev, hsl⟩ := own_sl HO.out
      subst ev
      have HTS := Lib.hid hsl
      have htl : ts.length ≤ 65536 := by rw [HT1.out]; have := HTL.out; have := HN.out; omega
      clear hsl HO HT hi1 hn1
      by_cases hl : np = ts.length
      · have HL := Lib.hid hl
        have k1 : ((np : Int) != (ts.length : Int)) = false := by rw [bne_eq_false_iff_eq]; omega
        have hnp2 : np ≤ 65536 := by omega
        have HTLL : Hid (ts.length = np) := hl.symm
        have hcc : Hid (Sl wr at1 np ct (bls ts)) := by rw [hl]; exact HTS.out
        have k2 : ((np : Int) != (np : Int)) = false := by rw [bne_eq_false_iff_eq]
        clear hl htl HTS k1
        rw [HTLL.out]
        go_wp2_with (fail)
        clear k2
        have HHW := Lib.hid (HH.out.below HB.out)
        go_loopw [0, 43] (fun x0 x43 wr2 => ∃ a0 n0 c0, ∃ j : Nat, x0 = .slice a0 n0 c0 ∧ j ≤ np ∧ x43 = .int .i64 j ∧ Hid (Below wr.heap.size wr wr2) ∧ Hid (Pt wr2 D (.slice a0 n0 c0) (goUp h (ts.reverse.take j) (path.take j))) ∧ Hid (∀ m, m < j → (path.getD m []).length = 32)) (fun _ x43 _ => np - (intOf x43).toNat)
        case atStart => exact ⟨ah, nh, ch, 0, rfl, by omega, rfl, Below.refl _ _, HHW.out, fun m hm => by omega⟩
        case round =>
          obtain ⟨a0, n0, c0, j, rfl, hj, rfl, HB2, HG, H32⟩ := hrel
          have HBW := Lib.hid (below_then HB.out HB.out.size HB2.out)
          by_cases hlt : j < np
          · obtain ⟨b, o, a2, n2, c2, hap, g1, hp2⟩ := (HP.out.below HBW.out).at j hlt
            subst hap
            have hn2 := hp2.bs.blen
            have HP2 := Lib.hid hp2
            have j0 : (0 : Int) ≤ (j : Int) := by omega
            have j1 : (j : Int) < (np : Int) := by omega
            clear hp2
            by_cases h32 : n2 = 32
            · have HL2 : Hid ((path.getD j []).length = 32) := by show _ = _; rw [hn2, h32]
              have H33 : Hid (∀ m, m < j + 1 → (path.getD m []).length = 32) := fun m hm => by
                by_cases e : m = j
                · subst e; exact HL2.out
                · exact H32.out m (by omega)
              obtain ⟨q, hq⟩ : ∃ q, np = q + j + 1 := ⟨np - 1 - j, by omega⟩
              have jq : (np : Int) - 1 - (j : Int) = (q : Int) := by omega
              have q0 : (0 : Int) ≤ (q : Int) := by omega
              have q1 : (q : Int) < (np : Int) := by omega
              have q2 : (np : Int) ≤ 65536 := by omega
              have hqt : q < ts.length := by rw [HTLL.out]; omega
              obtain ⟨bt, ot, hat, g2⟩ := hcc.out.cells q (.bool ts[q]) (by simp [bls, hqt])
              subst hat
              have g3 : wr.cell? ⟨bt, ot + q, none⟩ = some (.bool ts[q]) := below_cell HB2.out g2
              have HJ : Hid (goUp h (ts.reverse.take (j + 1)) (path.take (j + 1)) = joinT ts[q] (goUp h (ts.reverse.take j) (path.take j)) (path.getD j [])) := by
                show _ = _
                rw [goUp_take h _ _ j (by rw [List.length_reverse, HTLL.out]; exact hlt) (by rw [HPL.out]; exact hlt)]
                congr 1
                rw [List.getD_eq_getElem?_getD, List.getElem?_eq_getElem (by rw [List.length_reverse, HTLL.out]; exact hlt), Option.getD_some, List.getElem_reverse]
                have e : ts.length - 1 - j = q := by rw [HTLL.out]; omega
                simp only [e]
              have HQ := Lib.hid hq
              subst h32
              clear g2 hn2 hq
              generalize ts[q] = tv at g3 HJ
              clear hqt
              cases tv
              · go_wp2_with (fail)
                clear jq
                refine (tagged_row (D := D) D wNode #[.slice a2 32 c2, .slice a0 n0 c0] 2 [path.getD j [], goUp h (ts.reverse.take j) (path.take j)] wr (by decide) rfl (by omega) (.cons HP2.out (.cons HG.out .nil)) (HK.out.below HK.out.pos HBW.out)).mono ?_
                rintro e w7 ⟨a7, n7, c7, rfl, hb7, hp7⟩
                have HB7 := Lib.hid (below_then HB2.out HB2.out.size hb7)
                have HP7 : Hid (Pt w7 D (.slice a7 n7 c7) (goUp h (ts.reverse.take (j + 1)) (path.take (j + 1)))) := by show Pt _ _ _ _; rw [HJ.out]; exact hp7
                clear hb7 hp7
                go_wp2_with (fail)
                exact ⟨⟨a7, n7, c7, j + 1, rfl, by omega, by go_num, HB7, HP7, H33⟩, by simp [intOf]; omega⟩
              · go_wp2_with (fail)
                clear jq
                refine (tagged_row (D := D) D wNode #[.slice a0 n0 c0, .slice a2 32 c2] 2 [goUp h (ts.reverse.take j) (path.take j), path.getD j []] wr (by decide) rfl (by omega) (.cons HG.out (.cons HP2.out .nil)) (HK.out.below HK.out.pos HBW.out)).mono ?_
                rintro e w7 ⟨a7, n7, c7, rfl, hb7, hp7⟩
                have HB7 := Lib.hid (below_then HB2.out HB2.out.size hb7)
                have HP7 : Hid (Pt w7 D (.slice a7 n7 c7) (goUp h (ts.reverse.take (j + 1)) (path.take (j + 1)))) := by show Pt _ _ _ _; rw [HJ.out]; exact hp7
                clear hb7 hp7
                go_wp2_with (fail)
                exact ⟨⟨a7, n7, c7, j + 1, rfl, by omega, by go_num, HB7, HP7, H33⟩, by simp [intOf]; omega⟩
            · have hr : Hid (wayOk i n path = false) := way_32 j (by rw [HPL.out]; exact hlt) (by rw [hn2]; exact h32)
              have k3 : ((n2 : Int) != 32) = true := by rw [bne_iff_ne]; omega
              clear h32 hn2
              go_wp2_with (fail)
              go_ret2
              exact ⟨none, 0, 0, by rw [hr.out]; rfl, HBW.out, fun h => by rw [hr.out] at h; cases h⟩
          · obtain rfl : j = np := by omega
            have i5 : ¬ ((j : Int) < (j : Int)) := by omega
            have hr : Hid (wayOk i n path = true) := way_yes (by rw [HPL.out, ← HTLL.out, HT1.out]) (fun m hm => H32.out m (by rw [← HPL.out]; exact hm))
            have hu : Hid (upOf h i n path = goUp h (ts.reverse.take j) (path.take j)) := by
              show _ = _
              unfold upOf
              rw [List.take_of_length_le (by rw [List.length_reverse, HTLL.out]; omega), List.take_of_length_le (by rw [HPL.out]; omega), HT1.out]
            go_wp2_with (fail)
            go_ret2
            exact ⟨a0, n0, c0, by rw [hr.out]; rfl, HBW.out, fun _ => by rw [hu.out]; exact HG.out⟩
      · have k1 : ((np : Int) != (ts.length : Int)) = true := by rw [bne_iff_ne]; omega
        have hr : Hid (wayOk i n path = false) := way_len (by rw [HPL.out, ← HT1.out]; exact hl)
        clear hl htl
        go_wp2_with (fail)
        go_ret2
        exact ⟨none, 0, 0, by rw [hr.out]; rfl, HB.out, fun h => by rw [hr.out] at h; cases h⟩
end Go.Proofs.YteceagldjnfeeaaDoor

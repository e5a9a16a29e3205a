/- The walk of isthmuslaw09.StoreMemory. -/
import Derived.Test.YteceagldjnfeeaaDoorSt12
namespace Go.Proofs.YteceagldjnfeeaaDoor
open Go.RowKit Go.Maps
set_option linter.unusedVariables false
set_option linter.unusedSimpArgs false

set_option maxRecDepth 100000 in
theorem del_nil (k : List UInt8) (w : World) : Calls Tryd.prog 41 #[.pointer none, str k] w fun e w' => e = .returned (.tuple #[]) ∧ w = w' := by
  go_enter Tryd.func41, Tryd.ntmps41
  go_wp2_with (fail)
  go_end0
  exact ⟨rfl, rfl⟩
set_option maxRecDepth 100000 in
theorem set_nil (k : List UInt8) (v : Value) (w : World) : Calls Tryd.prog 38 #[.pointer none, str k, v] w fun e w' => e = .returned (.int .i64 1) ∧ w = w' := by
  go_enter Tryd.func38, Tryd.ntmps38
  go_wp2_with (fail)
  go_ret
  exact ⟨rfl, rfl⟩
set_option maxRecDepth 100000 in
theorem branch_nil (w : World) : Calls Tryd.prog 44 #[.pointer none] w fun e w' => e = .returned (.pointer none) ∧ w = w' := by
  go_enter Tryd.func44, Tryd.ntmps44
  go_wp2_with (fail)
  go_ret
  exact ⟨rfl, rfl⟩
theorem Sto.up0 {B B' : Nat} {w : World} {p b : Nat} {par : Option Addr} (h : Sto B w p par b []) : Sto B' w p par b [] := by
  obtain ⟨m, h1, h2⟩ := h.own.ex
  cases h2
  exact ⟨h.blk, h.own.rise, _, h1, .nil⟩
/-- A row of bytes below B turns. -/
theorem Sto.cut {B g : Nat} {w w1 : World} {p b : Nat} {par : Option Addr} {es : SM Ent} (h : Sto B w p par b es) (hg : w.grownBy w1 (some g)) (hB : g < B) (h5 : ∃ cs fr, w.heap[g]? = some (.cells cs 5 fr)) : Sto B w1 p par b es := by
  obtain ⟨cs, fr, h5⟩ := h5
  have hpg : p ≠ g := by rintro rfl; rw [h.blk] at h5; cases h5
  have hbg : b ≠ g := by
    rintro rfl
    obtain ⟨_, _, hb⟩ := h.own.blk
    rw [hb] at h5; cases h5
  exact ⟨(hg.block p (blk_lt h.blk) (fun e => hpg (Option.some.inj e))).trans h.blk, h.own.cut hg hbg hB⟩
theorem row_t5 {B : Nat} {w : World} {g n c : Nat} {xs : List Value} (h : w.ownsRow B 5 1 (.slice (some ⟨g, 0, none⟩) n c) n xs) : ∃ cs fr, w.heap[g]? = some (.cells cs 5 fr) := by
  rcases h.2 with ⟨e2, _⟩ | ⟨g3, cap3, cur, e2, hb, hgc, _⟩
  · cases e2
  · cases e2; exact ⟨_, _, hgc⟩

theorem row_keptM {B : Nat} {w w1 : World} {g e size : Nat} {u : Value} {n : Nat} {xs : List Value} (h : w.ownsRow B e size u n xs) (hg : w.grownBy w1 (some g)) (hm : ∃ en clock, w.heap[g]? = some (.map en clock)) : w1.ownsRow B e size u n xs := by
  refine h.kept hg ?_
  rcases h.2 with ⟨e2, _⟩ | ⟨g3, cap3, cur, e2, hb, hgc, _⟩
  · left; rw [e2]; rfl
  · right
    rw [e2]
    intro h4
    obtain ⟨en, ck, h5⟩ := hm
    simp only [Value.ownBlock, Option.some.injEq] at h4
    subst h4
    rw [hgc] at h5
    cases h5
theorem app_three {w w0 : World} {ops : Array Oper} {rest : List Oper} {o : Oper} {ac : Act} {Q : Exit → Act → World → Prop} (hgd : o.guard = none) (s x : Operand)
    (ho : o.op = .call { callee := .builtin .append, args := #[s, x], argTypes := #[22, 22] })
    (v : Value) (n : Nat) (xs : List Value) (hs : ac.eval s = v) (HO : Hid (w.ownsRow w0.heap.size 5 1 v n xs)) (HB : Hid (Below w0.heap.size w0 w)) {H : Nat} (hblk : Hid (w.heap[H]? = some (.cells #[.int .u8 1, .int .u8 2, .int .u8 3] 5 (0, 0))))
    (hx : ac.eval x = .slice (some ⟨H, 0, none⟩) 3 3) (hlen : Hid (n + 3 ≤ 140737488355328))
    (h : ∀ a' c' w', Hid (Below w0.heap.size w0 w') → wpList Tryd.prog ops Q rest (ac.put o.dst (.slice a' (n + 3) c')) w') : wpList Tryd.prog ops Q (o :: rest) ac w := by
  obtain ⟨i, hi, hzz⟩ := Option.map_eq_some_iff.1 info5
  simp only [Prod.mk.injEq] at hzz
  obtain ⟨hz0, hz1, hz2⟩ := hzz
  have hl : n + 3 ≤ 140737488355328 := hlen
  refine wpList_append_own w hgd s x 22 ho w0.heap.size 5 i _ 1 1 Tryd.underlying22 hi hz0 hz1 hz2 rfl (by omega) v n xs hs HO.out ⟨H, 0, none⟩ 3 3 [.int .u8 1, .int .u8 2, .int .u8 3] hx rfl (World.news_of_block hblk.out)
    (by intro u hu; simp only [List.mem_cons, List.not_mem_nil, or_false] at hu; rcases hu with rfl | rfl | rfl <;> rfl) (by unfold maxLen; omega) (by omega) HB.out.size ?_
  intro v' w' ho' hg' _
  obtain ⟨a', c', rfl⟩ : ∃ a' c', v' = .slice a' (n + 3) c' := by
    rcases ho'.2 with ⟨e2, h0⟩ | ⟨g, cap, cur, e2, _⟩
    · omega
    · exact ⟨_, _, e2⟩
  exact h _ _ _ (HB.out.grown hg' HB.out.size fun j hj => (HO.out.lt j hj).1)
set_option maxRecDepth 100000 in
set_option maxHeartbeats 16000000 in
theorem storeMemory_walk {C : Nat} (key : List UInt8) (a : Option Addr) (n c : Nat) (value : List UInt8) (w : World) (hv : Pt w C (.slice a n c) value) (hkl : key.length ≤ maxLen) (hn : n ≤ 140737488351232) :
    Calls Tryd.prog 9 #[str key, .slice a n c] w fun e w' => e = .returned (.bool true) ∧ Below w.heap.size w w' := by
  have HV := Lib.hid hv
  have HL := Lib.hid hv.bs.blen
  have HN := Lib.hid hn
  have HKL := Lib.hid hkl
  clear hv hn hkl
  go_enter Tryd.func9, Tryd.ntmps9
  go_wp2_with (fail)
  refine (fixed9_any w).mono ?_
  rintro e w1 ⟨rfl, hb1⟩
  have HB1 := Lib.hid hb1
  clear hb1
  go_wp2_with (fail)
  refine (new_any none 0 0 [] w1 (Prs.nil w1 0)).mono ?_
  rintro e w2 ⟨h, _⟩
  obtain ⟨p, b, rfl, hs, hb, hp1, hb1⟩ := h rfl
  have HS2 : Hid (∀ B', Sto B' w2 p none b []) := fun B' => Sto.up0 hs
  have HB2 := Lib.hid (below_then HB1.out HB1.out.size hb)
  have HWP : Hid (w.heap.size ≤ p ∧ w.heap.size ≤ b) := by have := HB1.out.size; exact ⟨by omega, by omega⟩
  clear hs hb hp1 hb1 HB1
  have HR2 := row_below w2 (.cells #[] 5)
  have HO2 : Hid ((w2.alloc (.cells #[] 5)).ownsRow w2.heap.size 5 1 (.slice (some ⟨w2.heap.size, 0, none⟩) 0 0) ([] : List UInt8).length (bts [])) := World.ownsRow_lit w2 #[] 0 (Nat.le_refl _) (by unfold maxLen; omega) rfl
  have HV2 : Hid (Bs (w2.alloc (.cells #[] 5)) a n c value) := (HV.out.below (below_then HB2.out HB2.out.size HR2.out)).bs
  have hlen : Hid (([] : List UInt8).length + n ≤ 140737488355328) := by have := HN.out; show _ ≤ _; simp; omega
  go_wp2_with (at_builtin; refine app_bk (w0 := w2) rfl (.tmp 24) (.tmp 25) rfl _ _ rfl HO2 HR2 _ _ _ _ rfl HV2 hlen ?_; intro v3 w3 HO3 HB3)
  obtain ⟨a3, c3, e3, _⟩ := own_sl HO3.out
  have ho3 := HO3.out
  rw [e3] at ho3
  subst e3
  simp only [List.nil_append] at ho3 ⊢
  rw [HL.out] at ho3 ⊢
  have hn63 : n ≤ 9223372036854775807 := by have := HN.out; omega
  have HP3 := Lib.hid (Pt.own (B := 0) ho3)
  have HO := Lib.hid ho3
  have HBs := Lib.hid (fresh_own ho3)
  have HS3 : Hid (Sto w3.heap.size w3 p none b []) := (HS2.out _).below HB3.out
  have HB3w := Lib.hid (below_then HB2.out HB2.out.size HB3.out)
  have HW2 : Hid (w.heap.size ≤ w2.heap.size ∧ w2.heap.size ≤ w3.heap.size) := ⟨HB2.out.size, HB3.out.size⟩
  have HG3 : Hid (∀ ad, a3 = some ad → ad.block < w3.heap.size) := by
    rintro ad rfl
    exact (ho3.lt ad.block rfl).2
  clear ho3 HO3 HB2 HV2 HO2 HR2 hlen HS2 HB3
  by_cases ht : takesB key value = true
  · have hc : setC key value = 0 := by unfold setC; rw [if_pos ht]
    have hkl : key.length ≤ 200 ∧ value.length ≤ 65535 := by
      unfold takesB goodK at ht
      simp only [Bool.and_eq_true, decide_eq_true_eq] at ht
      exact ⟨ht.1.2, ht.2⟩
    have HKV := Lib.hid hkl
    refine (set_any (D := 0) w3.heap.size p b none [] key value a3 n c3 w3 HS3.out HP3.out (Nat.le_refl _) (by decide)).mono ?_
    rintro e w4 ⟨rfl, h4, _⟩
    obtain ⟨hs4, hg4⟩ := h4 ht
    rw [hc]
    have HS4 : Hid (Sto w3.heap.size w4 p none b [(key, (value, false))]) := hs4
    have HB4 := Lib.hid (below_turn HB3w.out hg4 HWP.out.2)
    have HO4 : Hid (w4.ownsRow w2.heap.size 5 1 (.slice a3 n c3) n (bts value)) := row_keptM HO.out hg4 HS3.out.own.blk
    clear hs4 hg4 h4 hc ht hkl HS3 HP3 HO HB3w
    go_wp2_with (fail)
    go_loopw [54] (fun i wr => ∃ j : Nat, j ≤ n ∧ i = .int .i64 j ∧ Hid (∃ xs, wr.ownsRow w2.heap.size 5 1 (.slice a3 n c3) n xs ∧ ∀ i, j ≤ i → xs[i]? = (bts value)[i]?) ∧ Hid (Sto w3.heap.size wr p none b [(key, (value, false))]) ∧ Hid (Below w.heap.size w wr)) (fun i _ => n - (intOf i).toNat)
    case atStart => exact ⟨0, by omega, rfl, ⟨_, HO4.out, fun _ _ => rfl⟩, HS4, HB4⟩
    case round =>
      obtain ⟨j, hj, rfl, HX, HS, HB⟩ := hrel
      by_cases hlt : j < n
      · have i0 : (0 : Int) ≤ (j : Int) := by omega
        have i1 : (j : Int) < (n : Int) := by omega
        obtain ⟨xs, hxs, heq⟩ := HX.out
        obtain ⟨g, hag⟩ : ∃ g, a3 = some ⟨g, 0, none⟩ := by
          rcases hxs.2 with ⟨e2, h0⟩ | ⟨g, cap, cur, e2, _⟩
          · omega
          · cases e2; exact ⟨g, rfl⟩
        subst hag
        obtain ⟨x, hx⟩ : ∃ x, value[j]? = some x := ⟨_, List.getElem?_eq_getElem (by rw [HL.out]; exact hlt)⟩
        have hxj : xs[j]? = some (.int .u8 (ub x)) := by rw [heq j (Nat.le_refl _)]; unfold bts; rw [List.getElem?_map, hx]; rfl
        have g0 : wr.cell? ⟨g, j, none⟩ = some (.int .u8 (ub x)) := by rw [hxs.cellAt j (by omega)]; exact hxj
        have f0 : wr.frozen? ⟨g, j, none⟩ = false := hxs.frozenAt j
        have HST := Lib.hid (fun u => hxs.stored j u)
        have h5 := Lib.hid (row_t5 hxs)
        have HEQ := Lib.hid heq
        clear hxs heq hxj hx
        go_wp2_with (fail)
        exact ⟨⟨j + 1, by omega, by go_num, ⟨_, (HST.out _).1, fun i hi => by rw [List.getElem?_set_ne (by omega)]; exact HEQ.out i (by omega)⟩, HS.out.cut (gset (grefl wr _) j _) (HG3.out _ rfl) h5.out, HB.out.setCell (by have := HBs.out _ rfl; have := HW2.out; simp only at *; omega) _⟩, by simp [intOf]; omega⟩
      · obtain rfl : j = n := by omega
        have i5 : ¬ ((j : Int) < (j : Int)) := by omega
        clear HX HBs HG3
        generalize hwl : wr = wl at *
        clear hwl
        go_wp2_with (fail)
        refine (get_any w3.heap.size p b _ key wl HS.out HKL.out).mono ?_
        have hsg : sget ([(key, (value, false))] : SM Ent) key = some (value, false) := by rw [sget, if_pos rfl]
        rw [hsg]
        rintro e w5 ⟨v5, rfl, hb5, ho5⟩
        have hv5 : vE (some ((value, false) : Ent)) = value := rfl
        have hk5 : okE (some ((value, false) : Ent)) = true := rfl
        rw [hv5] at ho5
        rw [hk5]
        obtain ⟨a5, c5, e5, hs5⟩ := own_sl ho5
        subst e5
        rw [HL.out] at ho5 hs5 ⊢
        have HA5x : Hid (∀ ad, a5 = some ad → wl.heap.size ≤ ad.block ∧ ad.block < w5.heap.size) := by
          rintro ad rfl
          exact ho5.lt ad.block rfl
        have HS5 := Lib.hid (HS.out.below hb5)
        have HO5 := Lib.hid ho5
        have HB5 := Lib.hid (below_then HB.out HB.out.size hb5)
        have HW5 : Hid (Below wl.heap.size wl w5) := hb5
        clear ho5 hs5 hb5 hsg hv5 hk5
        go_wp2_with (fail)
        have hpo : pairsOf ([(key, (value, false))] : SM Ent) [] = [(key, value)] := by simp [pairsOf, seenBy]
        refine (pairs_any w3.heap.size p [(key, (value, false))] [] w5 (by simpa using HKL.out) (by simp) (seen_own w3.heap.size p b _ w5 HS5.out)).mono ?_
        rw [hpo]
        rintro e w6 ⟨v6, rfl, ho6, hb6⟩
        obtain ⟨vs, hvs, hrow, hval⟩ := ho6.ex
        obtain ⟨pv, rfl⟩ : ∃ pv, vs = [pv] := by
          match vs, hvs with
          | [x], _ => exact ⟨x, rfl⟩
        have hpv : w6.ownsRow w5.heap.size 5 1 pv value.length (bts value) := hval 0 (by simp) (by simp)
        obtain ⟨ap, cp, ep, _⟩ := own_sl hpv
        subst ep
        obtain ⟨gp, c6, e6⟩ : ∃ gp c6, v6 = .slice (some ⟨gp, 0, none⟩) 1 c6 := by
          rcases hrow.2 with ⟨e2, h0⟩ | ⟨g, cap, cur, e2, _⟩
          · simp at h0
          · exact ⟨g, cap, e2⟩
        subst e6
        rw [HL.out] at hpv hrow
        have hp1 : w6.cell? ⟨gp, 1, none⟩ = some (.slice ap j cp) := by
          have := hrow.cells (g := gp) rfl 1 (.slice ap j cp) rfl
          rw [add_plain] at this
          exact this
        have HGPx : Hid (∃ cs fr, w6.heap[gp]? = some (.cells cs 45 fr)) := (ho6.t45 gp rfl).2
        have HS6 := Lib.hid (HS5.out.below hb6)
        have HB6 := Lib.hid (below_then HB5.out HB5.out.size hb6)
        have HW6 := Lib.hid (below_then HW5.out HW5.out.size hb6)
        have HO6 := Lib.hid (row_below2 HO5.out hb6)
        have HPV := Lib.hid hpv
        have HP1 := Lib.hid hp1
        have P5 := Lib.hid (Pt.own (B := 0) HO6.out).bs
        have PP := Lib.hid (Pt.own (B := 0) HPV.out).bs
        have PA := Lib.hid (HV.out.below HB6.out).bs
        have HWS : Hid (w.heap.size ≤ wl.heap.size ∧ wl.heap.size ≤ w5.heap.size) := ⟨HB.out.size, HW5.out.size⟩
        have x1 : (value != value) = false := by simp
        clear ho6 hb6 hrow hval hpv hp1 hvs HS5 HB5 HO5 HW5
        have START : Hid (∀ W, Hid (Below w6.heap.size w6 W) → Hid (Below w6.heap.size w6 W) ∧ W.cell? ⟨gp, 1, none⟩ = some (.slice ap j cp) ∧
            (convert 22 9 (.slice a5 j c5)).run Tryd.prog W = .ok (.string ⟨value.toArray⟩) W ∧ (convert 22 9 (.slice a j c)).run Tryd.prog W = .ok (.string ⟨value.toArray⟩) W ∧ (convert 22 9 (.slice ap j cp)).run Tryd.prog W = .ok (.string ⟨value.toArray⟩) W) := fun W hW =>
          ⟨hW, below_cell hW.out HP1.out, conv_str (P5.out.below hW.out), conv_str (PA.out.below hW.out), conv_str (PP.out.below hW.out)⟩
        have hst : Hid (Below w6.heap.size w6 w6) := Below.refl _ _
        have hstd : Hid (Below w6.heap.size w6 w6.drew) := (Below.refl _ _).drew
        go_wp2_with (fail)
        go_region_held3 (fun W => Hid (Below w6.heap.size w6 W) ∧ W.cell? ⟨gp, 1, none⟩ = some (.slice ap j cp) ∧
            (convert 22 9 (.slice a5 j c5)).run Tryd.prog W = .ok (.string ⟨value.toArray⟩) W ∧ (convert 22 9 (.slice a j c)).run Tryd.prog W = .ok (.string ⟨value.toArray⟩) W ∧ (convert 22 9 (.slice ap j cp)).run Tryd.prog W = .ok (.string ⟨value.toArray⟩) W)
          (first
            | exact START.out _ (by first | assumption | exact hid_drew (by assumption)))
          (fail)
        have HO7 : Hid (w6.drew.ownsRow wl.heap.size 5 1 (.slice a5 j c5) j (bts value)) := HO6.out.drew
        have HPV7 : Hid (w6.drew.ownsRow w5.heap.size 5 1 (.slice ap j cp) j (bts value)) := HPV.out.drew
        have HP17 : Hid (w6.drew.cell? ⟨gp, 1, none⟩ = some (.slice ap j cp)) := HP1.out
        have HW7 : Hid (Below wl.heap.size wl w6.drew) := HW6.out.drew
        have HA5 : Hid (∀ ad, a5 = some ad → wl.heap.size ≤ ad.block ∧ ad.block < w5.heap.size) := HA5x
        have HAP : Hid (∀ ad, ap = some ad → w5.heap.size ≤ ad.block) := fresh_own HPV.out
        have HGP : Hid (∃ cs fr, w6.drew.heap[gp]? = some (.cells cs 45 fr)) := HGPx.out
        clear x1 START hst hstd HP1 HPV HO6 HW6 P5 PP PA HA5x HGPx
        go_wp2_with (fail)
        go_loopw [94] (fun i wr => ∃ k : Nat, k ≤ j ∧ i = .int .i64 k ∧ Hid (∃ xs, wr.ownsRow wl.heap.size 5 1 (.slice a5 j c5) j xs ∧ ∀ i, k ≤ i → xs[i]? = (bts value)[i]?) ∧ Hid (∃ ys, wr.ownsRow w5.heap.size 5 1 (.slice ap j cp) j ys ∧ ∀ i, k ≤ i → ys[i]? = (bts value)[i]?) ∧
          Hid (wr.cell? ⟨gp, 1, none⟩ = some (.slice ap j cp)) ∧ Hid (∃ cs fr, wr.heap[gp]? = some (.cells cs 45 fr)) ∧ Hid (Below wl.heap.size wl wr)) (fun i _ => j - (intOf i).toNat)
        case atStart => exact ⟨0, by omega, rfl, ⟨_, HO7.out, fun _ _ => rfl⟩, ⟨_, HPV7.out, fun _ _ => rfl⟩, HP17, HGP, HW7⟩
        case round =>
          obtain ⟨k, hk, rfl, HX, HY, HC, HG, HBl⟩ := hrel
          by_cases hlt : k < j
          · have i0 : (0 : Int) ≤ (k : Int) := by omega
            have i1 : (k : Int) < (j : Int) := by omega
            obtain ⟨xs, hxs, heq⟩ := HX.out
            obtain ⟨ys, hys, heqy⟩ := HY.out
            obtain ⟨g, hag⟩ : ∃ g, a5 = some ⟨g, 0, none⟩ := by
              rcases hxs.2 with ⟨e2, h0⟩ | ⟨g, cap, cur, e2, _⟩
              · omega
              · cases e2; exact ⟨g, rfl⟩
            obtain ⟨q, haq⟩ : ∃ g, ap = some ⟨g, 0, none⟩ := by
              rcases hys.2 with ⟨e2, h0⟩ | ⟨g, cap, cur, e2, _⟩
              · omega
              · cases e2; exact ⟨g, rfl⟩
            subst hag haq
            have hg1 := HA5.out _ rfl
            have hq1 := HAP.out _ rfl
            have hgq : g < q := Nat.lt_of_lt_of_le hg1.2 hq1
            have hwq : wl.heap.size ≤ q := Nat.le_trans HWS.out.2 hq1
            obtain ⟨x, hx⟩ : ∃ x, value[k]? = some x := ⟨_, List.getElem?_eq_getElem (by rw [HL.out]; exact hlt)⟩
            have hbx : (bts value)[k]? = some (.int .u8 (ub x)) := by unfold bts; rw [List.getElem?_map, hx]; rfl
            have g0 : wr.cell? ⟨g, k, none⟩ = some (.int .u8 (ub x)) := by rw [hxs.cellAt k (by omega), heq k (Nat.le_refl _)]; exact hbx
            have f0 : wr.frozen? ⟨g, k, none⟩ = false := hxs.frozenAt k
            have hgp : ∀ z cs fr, wr.heap[z]? = some (.cells cs 5 fr) → gp ≠ z := by
              rintro z cs fr hz rfl
              obtain ⟨_, _, h45⟩ := HG.out
              rw [hz] at h45; cases h45
            obtain ⟨_, _, hg5⟩ := row_t5 hxs
            obtain ⟨_, _, hq5⟩ := row_t5 hys
            have hgpg := hgp _ _ _ hg5
            have hgpq := hgp _ _ _ hq5
            have hgr : ∀ u, wr.grownBy (wr.setCell ⟨g, k, none⟩ u) (some g) := fun u => gset (grefl wr _) k u
            have hy1 : ∀ u, (wr.setCell ⟨g, k, none⟩ u).ownsRow w5.heap.size 5 1 (.slice (some ⟨q, 0, none⟩) j cp) j ys := fun u => hys.kept (hgr u) (.inr (fun e => Nat.ne_of_gt hgq (Option.some.inj e)))
            have q0 : ∀ u, (wr.setCell ⟨g, k, none⟩ u).cell? ⟨q, k, none⟩ = some (.int .u8 (ub x)) := fun u => by rw [(hy1 u).cellAt k (by omega), heqy k (Nat.le_refl _)]; exact hbx
            have q1 : ∀ u, (wr.setCell ⟨g, k, none⟩ u).frozen? ⟨q, k, none⟩ = false := fun u => (hy1 u).frozenAt k
            have q2 : ∀ u, (wr.setCell ⟨g, k, none⟩ u).cell? ⟨gp, 1, none⟩ = some (.slice (some ⟨q, 0, none⟩) j cp) := fun u => grown_cell (hgr u) HC.out (fun e => hgpg (Option.some.inj e))
            have hgr2 : ∀ u u', (wr.setCell ⟨g, k, none⟩ u).grownBy ((wr.setCell ⟨g, k, none⟩ u).setCell ⟨q, k, none⟩ u') (some q) := fun u u' => gset (grefl _ _) k u'
            have HX2 : Hid (∀ u u', ((wr.setCell ⟨g, k, none⟩ u).setCell ⟨q, k, none⟩ u').ownsRow wl.heap.size 5 1 (.slice (some ⟨g, 0, none⟩) j c5) j (xs.set k u)) := fun u u' => (hxs.stored k u).1.kept (hgr2 u u') (.inr (fun e => Nat.ne_of_lt hgq (Option.some.inj e)))
            have HY2 : Hid (∀ u u', ((wr.setCell ⟨g, k, none⟩ u).setCell ⟨q, k, none⟩ u').ownsRow w5.heap.size 5 1 (.slice (some ⟨q, 0, none⟩) j cp) j (ys.set k u')) := fun u u' => ((hy1 u).stored k u').1
            have HC2 : Hid (∀ u u', ((wr.setCell ⟨g, k, none⟩ u).setCell ⟨q, k, none⟩ u').cell? ⟨gp, 1, none⟩ = some (.slice (some ⟨q, 0, none⟩) j cp)) := fun u u' => grown_cell (hgr2 u u') (q2 u) (fun e => hgpq (Option.some.inj e))
            have HG2 : Hid (∀ u u', ∃ cs fr, ((wr.setCell ⟨g, k, none⟩ u).setCell ⟨q, k, none⟩ u').heap[gp]? = some (.cells cs 45 fr)) := fun u u' => by
              obtain ⟨cs, fr, h⟩ := HG.out
              refine ⟨cs, fr, ?_⟩
              rw [(hgr2 u u').block gp (by simpa [World.setCell] using blk_lt h) (fun e => hgpq (Option.some.inj e)), (hgr u).block gp (blk_lt h) (fun e => hgpg (Option.some.inj e))]
              exact h
            have HB2 : Hid (∀ u u', Below wl.heap.size wl ((wr.setCell ⟨g, k, none⟩ u).setCell ⟨q, k, none⟩ u')) := fun u u' => (HBl.out.setCell (show wl.heap.size ≤ (⟨g, k, none⟩ : Addr).block from hg1.1) u).setCell (show wl.heap.size ≤ (⟨q, k, none⟩ : Addr).block from hwq) u'
            have HEQ := Lib.hid heq
            have HEQY := Lib.hid heqy
            clear hxs heq hys heqy hbx hx hgp hg5 hq5 hgpg hgpq hgr hgr2 hy1 hg1 hq1 hgq hwq
            go_wp2_with (fail)
            exact ⟨⟨k + 1, by omega, by go_num, ⟨_, HX2.out _ _, fun i hi => by rw [List.getElem?_set_ne (by omega)]; exact HEQ.out i (by omega)⟩, ⟨_, HY2.out _ _, fun i hi => by rw [List.getElem?_set_ne (by omega)]; exact HEQY.out i (by omega)⟩, HC2.out _ _, HG2.out _ _, HB2.out _ _⟩, by simp [intOf]; omega⟩
          · obtain rfl : k = j := by omega
            have i6 : ¬ ((k : Int) < (k : Int)) := by omega
            obtain ⟨xs, hxs, _⟩ := HX.out
            have HXr := Lib.hid (row_below2 hxs (row_below wr (.cells #[.int .u8 1, .int .u8 2, .int .u8 3] 5)).out)
            have HBr := Lib.hid (below_then HBl.out HBl.out.size (row_below wr (.cells #[.int .u8 1, .int .u8 2, .int .u8 3] 5)).out)
            have hblk := Lib.hid (MapKept.heap_alloc wr (.cells #[.int .u8 1, .int .u8 2, .int .u8 3] 5)).1
            have hk3 : Hid (k + 3 ≤ 140737488355328) := by have := HN.out; show _ ≤ _; omega
            clear HX HY HC HG HA5 HAP HGP HP17 HPV7 HO7 hxs
            go_wp2_with (at_builtin; refine app_three rfl (.tmp 113) (.tmp 114) rfl _ k xs rfl HXr HBr hblk rfl hk3 ?_; intro a8 c8 w8 HB8)
            have HS8 := Lib.hid (HS.out.below HB8.out)
            refine (get_any w3.heap.size p b _ key w8 HS8.out HKL.out).mono ?_
            have hsg : sget ([(key, (value, false))] : SM Ent) key = some (value, false) := by rw [sget, if_pos rfl]
            rw [hsg]
            rintro e w9 ⟨v9, rfl, hb9, ho9⟩
            have hv5 : vE (some ((value, false) : Ent)) = value := rfl
            have hk5 : okE (some ((value, false) : Ent)) = true := rfl
            rw [hv5] at ho9
            rw [hk5]
            obtain ⟨a9, c9, e9, _⟩ := own_sl ho9
            subst e9
            rw [HL.out] at ho9 ⊢
            have P9 := Lib.hid (Pt.own (B := 0) ho9)
            have HB9 := Lib.hid (below_then HB.out HB.out.size (below_then HB8.out HB8.out.size hb9))
            clear ho9 hb9 hsg hv5 hk5 HXr HBr hblk HS8 HB8
            go_wp2_with (fail)
            refine (get_nil key w9).mono ?_
            rintro e w10 ⟨v10, rfl, hb10, _⟩
            have ok0 : okE none = false := rfl
            rw [ok0]
            have P10 := Lib.hid (P9.out.below hb10)
            have HB10 := Lib.hid (below_then HB9.out HB9.out.size hb10)
            clear hb10 ok0 P9 HB9
            go_wp2_with (fail)
            refine (del_nil key w10).mono ?_
            rintro e w11 ⟨rfl, rfl⟩
            go_wp2_with (fail)
            refine (write_nil w10).mono ?_
            rintro e w11 ⟨rfl, rfl⟩
            have cv9 := conv_str P10.out.bs
            have cva := conv_str (HV.out.below HB10.out).bs
            have hkn := HN.out
            go_wp2_with (fail)
            refine (set_nil key _ w10).mono ?_
            rintro e w11 ⟨rfl, rfl⟩
            go_wp2_with (fail)
            refine (pairs_nil [] w10).mono ?_
            rintro e w11 ⟨v11, rfl, ho11, hb11⟩
            obtain ⟨a11, c11, e11, _⟩ := ho11.ownP.prs
            subst e11
            have HB11 := Lib.hid (below_then HB10.out HB10.out.size hb11)
            have hz11 : ([] : List KV).length = 0 := rfl
            rw [hz11]
            clear ho11 hb11 hz11 cv9 cva
            go_wp2_with (fail)
            refine (root_nil w11).mono ?_
            rintro e w12 ⟨rfl, rfl⟩
            go_wp2_with (fail)
            refine (branch_nil w11).mono ?_
            rintro e w12 ⟨rfl, rfl⟩
            go_wp2_with (fail)
            go_ret
            exact ⟨rfl, HB11.out⟩
  · have ht1 : takesB key value = false := by simpa using ht
    have hc : setC key value = 60 := by unfold setC; rw [if_neg ht]
    refine (set_any (D := 0) w3.heap.size p b none [] key value a3 n c3 w3 HS3.out HP3.out (Nat.le_refl _) (by decide)).mono ?_
    rintro e w4 ⟨rfl, _, h4⟩
    obtain rfl := h4 ht1
    rw [hc]
    clear h4 hc HS3 HP3 HO HBs HG3
    by_cases k0 : key = []
    · subst k0
      clear ht ht1
      go_wp2_with (fail)
      go_ret
      exact ⟨rfl, HB3w.out⟩
    · by_cases k1 : key.length ≤ 200
      · have k2 : (65535 : Int) < (n : Int) := by
          have h1 := HL.out
          unfold takesB goodK at ht1
          rw [decide_eq_true k0, decide_eq_true k1] at ht1
          simp only [Bool.and_self, Bool.true_and, decide_eq_false_iff_not] at ht1
          omega
        clear ht ht1
        go_wp2_with (fail)
        go_ret
        exact ⟨rfl, HB3w.out⟩
      · have k2 : (200 : Int) < (key.length : Int) := by omega
        clear ht ht1 k1
        go_wp2_with (fail)
        go_ret
        exact ⟨rfl, HB3w.out⟩
end Go.Proofs.YteceagldjnfeeaaDoor

/- The walk of isthmusref08.Prove. -/
import Derived.Test.YteceagldjnfeeaaDoorRshown
namespace Go.Proofs.YteceagldjnfeeaaDoor
open Go.RowKit
set_option linter.unusedVariables false
set_option linter.unusedSimpArgs false

/-- A proof in the making: pp its block, w0 the world when the call began, whose next block is the result's. -/
structure PSt (w0 : World) (C pp : Nat) (N : Int) (W : World) (v : Value) (ls : List LeafV) : Prop where
  blk : W.heap[pp]? = some (.cells #[.int .i64 N, v] 66 (0, 0))
  own : OwnL w0.heap.size C W v ls
  bel : Below w0.heap.size w0 W
  res : W.heap[w0.heap.size]? = some (.cells #[.int .i64 0, .slice none 0 0] 66 (0, 0))
  ge : w0.heap.size ≤ pp ∧ pp ≠ w0.heap.size
  low : C ≤ w0.heap.size
theorem PSt.later {w0 : World} {C pp : Nat} {N : Int} {W W1 : World} {v : Value} {ls : List LeafV} (h : PSt w0 C pp N W v ls) (hb : Below W.heap.size W W1) : PSt w0 C pp N W1 v ls :=
  ⟨later_blk h.blk hb, h.own.below hb, below_then h.bel h.bel.size hb, later_blk h.res hb, h.ge, h.low⟩
theorem PSt.cell {w0 : World} {C pp : Nat} {N : Int} {W : World} {v : Value} {ls : List LeafV} (h : PSt w0 C pp N W v ls) : W.cell? ⟨pp, 1, none⟩ = some v := by
  rw [cell_of_row _ _ _ _ _ _ h.blk]; rfl
theorem PSt.done {w0 : World} {C pp : Nat} {N : Int} {W : World} {v : Value} {ls : List LeafV} (h : PSt w0 C pp N W v ls) :
    ∃ al cl, v = .slice al ls.length cl ∧ Below w0.heap.size w0 (W.setRow w0.heap.size #[.int .i64 N, v]) ∧ (W.setRow w0.heap.size #[.int .i64 N, v]).heap[w0.heap.size]? = some (.cells #[.int .i64 N, v] 66 (0, 0)) ∧ Lvs (W.setRow w0.heap.size #[.int .i64 N, v]) C al ls.length cl ls := by
  have h2 := h.own.kept (grown_setRow W w0.heap.size #[.int .i64 N, v]) h.low h.res (by decide) (by decide) (by decide)
  obtain ⟨al, cl, e, h3⟩ := h2.lvs
  exact ⟨al, cl, e, below_setRow h.bel (Nat.le_refl _) _, setRow_heap _ _ _ _ 66 (0, 0) h.res, h3⟩
theorem step_l {w0 w : World} {C pp : Nat} {N : Int} {ops : Array Oper} {o : Oper} {ac : Act} {K : Act → World → Prop} {Q : Exit → Act → World → Prop} {E : Prop} (hgd : o.guard = none) (s x : Operand)
    (ho : o.op = .call { callee := .builtin .append, args := #[s, x], argTypes := #[64, 64] })
    (v : Value) (ls : List LeafV) (hs : ac.eval s = v) (HS : Hid (PSt w0 C pp N w v ls))
    (l : LeafV) (xv xp : Value) (hx : ac.eval x = .slice (some ⟨w.heap.size, 0, none⟩) 1 1) (hp : Hid (LfR w C (xv, xp) l)) (hlen : Hid (ls.length ≤ 1000000)) (cs : Array Value) (hcs : cs = #[.int .i64 l.i, str l.key, xv, xp])
    (h : ∀ a' n' c' w', w'.cell? ⟨pp, 1, none⟩ = some v → w'.frozen? ⟨pp, 1, none⟩ = false → Hid (PSt w0 C pp N (w'.setCell ⟨pp, 1, none⟩ (.slice a' n' c')) (.slice a' n' c') (ls ++ [l])) → K (ac.put o.dst (.slice a' n' c')) w') :
    if Region.wanted o (yielded ops ac.tmps) = true then Oper.wp Tryd.prog o ac (w.alloc (.cells cs 79)) K Q else E := by
  subst hcs
  rw [if_pos (by simp [Region.wanted, hgd])]
  have H := HS.out
  obtain ⟨v', w', hr, ho', hg'⟩ := run_app_l o.type v ls H.own H.bel.size H.low l xv xp hp.out hlen.out
  obtain ⟨a', c', rfl, _⟩ := ho'.lvs
  have hb : Below w.heap.size w (w.alloc (.cells #[.int .i64 l.i, str l.key, xv, xp] 79)) := (row_below w _).out
  have hlt : pp < w.heap.size := blk_lt H.blk
  have hne : ∀ g cs fr, w.heap[g]? = some (.cells cs 66 fr) → some g ≠ v.ownBlock := by
    intro g cs fr hg0 e
    obtain ⟨vs, h1, h2, h3⟩ := H.own.ex
    rcases h2.2 with ⟨e2, _⟩ | ⟨g2, cap, cur, e2, _, hg, _⟩
    · rw [e2] at e; cases e
    · rw [e2] at e
      cases e
      rw [hg0] at hg
      cases hg
  have hblk : w'.heap[pp]? = some (.cells #[.int .i64 N, v] 66 (0, 0)) := ((hg'.block pp (Nat.lt_of_lt_of_le hlt hb.size) (hne _ _ _ H.blk)).trans (hb.block _ hlt)).trans H.blk
  have hset : w'.grownBy (w'.setCell ⟨pp, 1, none⟩ (.slice a' (ls ++ [l]).length c')) (some pp) := gset (grefl w' _) 1 _
  unfold Oper.wp execOp
  simp only [ho, resolve, invoke, builtin, Sem.run_bind, Sem.run_pure, Result.andThen_ok, List.map_toArray, List.map_cons, List.map_nil, hs, hx, hr]
  refine h a' _ c' w' (by rw [cell_of_row _ _ _ _ _ _ hblk]; rfl) (by simp [World.frozen?, hblk]) ⟨?_, ?_, ?_, ?_, H.ge, H.low⟩
  · simp only [World.setCell, Array.getElem?_modify, if_true, hblk, Option.map_some]
    simp
  · exact ho'.kept hset (by have := H.low; have := H.ge; omega) hblk (by decide) (by decide) (by decide)
  · have h1 : Below w0.heap.size w0 w' := (below_then H.bel H.bel.size hb).grown hg' (Nat.le_trans H.bel.size hb.size) fun j hj => (H.own.lt j hj).1
    exact h1.setCell H.ge.1 _
  · have hl2 := blk_lt H.res
    rw [hset.block _ (Nat.lt_of_lt_of_le hl2 (Nat.le_trans hb.size hg'.size)) (fun e => H.ge.2 (Option.some.inj e).symm), hg'.block _ (Nat.lt_of_lt_of_le hl2 hb.size) (hne _ _ _ H.res), hb.block _ hl2]
    exact H.res

theorem rprove_idx {ps : List KV} {key : List UInt8} (ho : okTo ps ps.length = true) (i : Nat) (hi : i < ps.length) : Op.bytesLess (keyAt ps i) key = decide (i < below ps key) := below_tells ho key i hi
theorem prove_split {ps : List KV} {key : List UInt8} {n : Nat} (hl : ps.length = n) :
    (thereB ps key = true → below ps key < n ∧ proveV ps key = ⟨n, [shownV ps (below ps key)]⟩) ∧
    (thereB ps key = false → proveV ps key = ⟨n, (if 0 < below ps key then [shownV ps (below ps key - 1)] else []) ++ (if below ps key < n then [shownV ps (below ps key)] else [])⟩) := by
  subst hl
  constructor
  · intro h
    have h2 := h
    unfold thereB at h2
    simp only [Bool.and_eq_true, decide_eq_true_eq] at h2
    refine ⟨h2.1, ?_⟩
    unfold proveV
    rw [h, if_pos h2.1]
    rfl
  · intro h
    unfold proveV
    rw [h]
    simp

set_option maxRecDepth 100000 in
set_option maxHeartbeats 32000000 in
theorem rprove_any {C : Nat} (a : Option Addr) (n c : Nat) (ps : List KV) (key : List UInt8) (w : World) (hp : Prs w C a n c ps) (hK : KAt1 w) (hC : C ≤ w.heap.size) :
    Calls Tryd.prog 54 #[.slice a n c, str key] w fun e w' => ∃ al cl, e = .returned (.tuple #[.agg #[.int .i64 (proveP ps key).n, .slice al (proveP ps key).leaves.length cl], .int .i64 (proveC ps key)]) ∧ Below w.heap.size w w' ∧ Lvs w' C al (proveP ps key).leaves.length cl (proveP ps key).leaves := by
  have HB0 : Hid (Below w.heap.size w (w.alloc (.cells #[.int .i64 0, .slice none 0 0] 66))) := row_below w _
  have HROW : Hid ((w.alloc (.cells #[.int .i64 0, .slice none 0 0] 66)).heap[w.heap.size]? = some (.cells #[.int .i64 0, .slice none 0 0] 66 (0, 0))) := heap_alloc_new _ _
  have HP := Lib.hid (hp.below HB0.out)
  have HK := Lib.hid hK
  have HK0 := Lib.hid (hK.below hK.pos HB0.out)
  have HPW := Lib.hid hp
  have HL := Lib.hid hp.len
  have HCW := Lib.hid hC
  clear hp hK hC
  by_cases hok : (ordered ps && goodK key) = true
  · have hc : Hid (proveC ps key = 0) := by show _ = _; unfold proveC; rw [if_pos hok]
    have hpv : Hid (proveP ps key = proveV ps key) := by show _ = _; unfold proveP; rw [if_pos hok]
    rw [Bool.and_eq_true] at hok
    obtain ⟨ho, hg⟩ := hok
    have HO := Lib.hid ho
    have HG := Lib.hid hg
    have HOK := Lib.hid ((ordered_iff ps).1 ho).1
    have HN : Hid (n ≤ 65536) := by have := ((ordered_iff ps).1 ho).2; rw [HL.out] at this; exact this
    have HKL : Hid (∀ k, k < n → (keyAt ps k).length ≤ maxLen) := fun k hk => ordered_key ho k (by rw [HL.out]; exact hk)
    have HVL : Hid (∀ i, i < n → (valAt ps i).length ≤ 65535) := fun i hi => val_at HOK.out (by rw [HL.out]; exact hi)
    have HIX : Hid (∀ i, i < n → Op.bytesLess (keyAt ps i) key = decide (i < below ps key)) := fun i hi => rprove_idx HOK.out i (by rw [HL.out]; exact hi)
    have HBN : Hid (below ps key ≤ n) := by have := below_le ps key; rw [HL.out] at this; exact this
    have HSP := Lib.hid (prove_split (key := key) HL.out)
    have HTH : Hid (thereB ps key = (decide (below ps key < n) && decide (keyAt ps (below ps key) = key))) := by show _ = _; unfold thereB; rw [HL.out]
    clear ho hg
    go_enter Tryd.func54, Tryd.ntmps54
    go_wp2_with (fail)
    generalize w.alloc (.cells #[.int .i64 0, .slice none 0 0] 66) = w0 at HB0 HROW HP HK0 ⊢
    refine (right_any a n c ps w0 HP.out).mono ?_
    rintro e w1 ⟨rfl, hb1⟩
    rw [HO.out]
    have HB1 := Lib.hid hb1
    clear hb1
    go_wp2_with (fail)
    refine (rkey_any key w1).mono ?_
    rintro e w2 ⟨rfl, rfl⟩
    rw [HG.out]
    have HB12 := Lib.hid (row_below w2 (.cells #[.int .i64 n, .slice none 0 0] 66)).out
    have hr2 : Hid ((w2.alloc (.cells #[.int .i64 n, .slice none 0 0] 66)).heap[w2.heap.size]? = some (.cells #[.int .i64 n, .slice none 0 0] 66 (0, 0))) := heap_alloc_new w2 _
    have HB2 := Lib.hid (below_then HB1.out HB1.out.size HB12.out)
    have HGE : Hid (w0.heap.size ≤ w2.heap.size) := HB1.out.size
    go_wp2_with (fail)
    generalize w2.alloc (.cells #[.int .i64 n, .slice none 0 0] 66) = w3 at HB12 hr2 HB2 ⊢
    generalize w2.heap.size = pp at hr2 HGE ⊢
    have HBW := Lib.hid (below_then HB0.out HB0.out.size HB2.out)
    have HBP : Hid (w.heap.size ≤ pp ∧ pp ≠ w.heap.size) := by
      have h1 := HGE.out
      have h2 := blk_lt HROW.out
      show _ ∧ _
      omega
    have HX3 := Lib.hid (later_blk HROW.out HB2.out)
    have HP3 := Lib.hid (HPW.out.below HBW.out)
    have HK3 := Lib.hid (HK.out.below HK.out.pos HBW.out)
    have HD3 : Hid (C ≤ w3.heap.size) := by have := HBW.out.size; have := HCW.out; show _ ≤ _; omega
    clear HB12 HB1 HB2 HB0 HROW HP HK0 HGE
    have hn : (n : Int) ≤ 65536 := by have := HN.out; omega
    generalize below ps key = B at HIX HBN HSP HTH
    go_loop [7] (fun x => ∃ i : Nat, i ≤ B ∧ x = .int .i64 i) (fun x => n - (intOf x).toNat)
    case atStart => exact ⟨0, by omega, rfl⟩
    case round =>
      obtain ⟨i, hi, rfl⟩ := hrel
      by_cases hlt : i < B
      · have hin : i < n := by have := HBN.out; omega
        obtain ⟨b, o, va, hab, g1, g2, hva⟩ := HP3.out.cells i hin
        subst hab
        have i0 : (0 : Int) ≤ (i : Int) := by omega
        have i1 : (i : Int) < (n : Int) := by omega
        have hix : Op.bytesLess (keyAt ps i) key = true := by rw [HIX.out i hin]; exact decide_eq_true hlt
        generalize keyAt ps i = kk at g1 hix
        go_wp2_with (fail)
        go_round
        case rel => exact ⟨i + 1, by omega, by go_num⟩
        case measure => simp [intOf]; omega
      · obtain rfl : i = B := by omega
        have HS3 : Hid (PSt w C pp n w3 (.slice none 0 0) []) := ⟨hr2.out, OwnL.nil _ _ _, HBW.out, HX3.out, HBP.out, HCW.out⟩
        clear hlt hi HX3 hr2 HBP HD3 HK3
        by_cases hin : i < n
        · obtain ⟨b, o, va, hab, g1, g2, hva⟩ := HP3.out.cells i hin
          subst hab
          have i0 : (0 : Int) ≤ (i : Int) := by omega
          have i1 : (i : Int) < (n : Int) := by omega
          have hix : Op.bytesLess (keyAt ps i) key = false := by rw [HIX.out i hin]; exact decide_eq_false (by omega)
          have HIN := Lib.hid hin
          rcases hth : thereB ps key with _ | _
          · have heq : (keyAt ps i == key) = false := by
              have h := HTH.out
              rw [hth, decide_eq_true hin, Bool.true_and] at h
              rw [beq_eq_false_iff_ne]
              exact of_decide_eq_false h.symm
            have hps := HSP.out.2 hth
            rw [if_pos hin] at hps
            by_cases h0 : 0 < i
            · obtain ⟨q, rfl⟩ : ∃ q, i = q + 1 := ⟨i - 1, by omega⟩
              rw [if_pos h0, Nat.add_sub_cancel] at hps
              have hpr : Hid (proveP ps key = ⟨n, ([] ++ [shownV ps q]) ++ [shownV ps (q + 1)]⟩) := by show _ = _; rw [hpv.out, hps]; rfl
              have HQN : Hid (q < n) := by show _ < _; omega
              have hq6 : (q : Int) ≤ 65536 := by omega
              have hw1 : IntKind.i64.wrap ((q : Int) + 1 - 1) = (q : Int) := by rw [IntWalk.i64_in _ (by omega)]; omega
              have hw2 : IntKind.i64.wrap (q : Int) = (q : Int) := IntWalk.i64_in _ (by omega)
              have HG1 := Lib.hid g1
              clear hth hin hva hps h0 g2
              have hbw6 := HS3.out.bel
              obtain ⟨b6, o6, va6, hab6, _, _, _⟩ := (HPW.out.below hbw6).cells (q) HQN.out
              have hK6 : KAt1 w3.drew := (HK.out.below HK.out.pos hbw6).below (HK.out.below HK.out.pos hbw6).pos (Below.refl _ _).drew
              have hsh6 := rshown_any (D := C) b6 o6 n c (q) ps w3.drew HQN.out HN.out HKL.out (HVL.out _ HQN.out) (by rw [← hab6]; exact (HPW.out.below hbw6).below (Below.refl _ _).drew) hK6 (by have := hbw6.size; have := HCW.out; show C ≤ w3.heap.size; omega)
              rw [← hab6, show ((((q) : Nat)) : Int) = (q : Int) from rfl] at hsh6
              have CS6 := Lib.hid hsh6
              have cc6 := HS3.out.cell
              clear hK6 hsh6 hab6 hbw6
              go_wp2_with (fail)
              go_region_law (first
                | (refine step_l (w0 := w) (C := C) (pp := pp) (N := n) rfl (.tmp 60) (.tmp 65) rfl (.slice none 0 0) ([]) rfl HSA6 (shownV ps (q)) _ _ rfl HLR6 HLEN6 _ rfl ?_; intro a6 n6 c6 w6 cz6 ff6 HSN6)
                | (go_simp
                   go_at_call 100
                   refine CS6.out.mono ?_
                   rintro e wa6 ⟨xv, xp, rfl, hb6, hlr6⟩
                   have hbb6 := below_then (below_then (Below.refl w3.heap.size w3) (Nat.le_refl _) (Below.refl _ _).drew) (Nat.le_refl _) hb6
                   have HSA6 := Lib.hid (HS3.out.later hbb6)
                   obtain ⟨xa, xn, xc, ex, _⟩ := id hlr6.1
                   obtain ⟨ya, yn, yc, ey, _⟩ := id hlr6.2
                   simp only at ex ey
                   subst ex ey
                   have HLR6 := Lib.hid hlr6
                   have HLEN6 : Hid (([] : List LeafV).length ≤ 1000000) := by show _ ≤ _; simp
                   have cd6 := HSA6.out.cell
                   have ce6 := below_cell (row_below wa6 (.cells #[.int .i64 ((q : Int)), str (keyAt ps (q)), .slice xa xn xc, .slice ya yn yc] 79)).out cd6
                   clear hb6 hlr6 hbb6))
              all_goals (
                clear g1
                have HS6 : Hid (PSt w C pp n (w6.setCell ⟨pp, 1, none⟩ (.slice a6 n6 c6)) _ _) := HSN6
                clear HSN6 HSA6 HLR6 CS6 cz6 ff6 cd6 ce6 cc6
                generalize w6.setCell ⟨pp, 1, none⟩ (.slice a6 n6 c6) = v6 at HS6 ⊢
                have hbw7 := HS6.out.bel
                obtain ⟨b7, o7, va7, hab7, _, _, _⟩ := (HPW.out.below hbw7).cells (q + 1) HIN.out
                have hK7 : KAt1 v6.drew := (HK.out.below HK.out.pos hbw7).below (HK.out.below HK.out.pos hbw7).pos (Below.refl _ _).drew
                have hsh7 := rshown_any (D := C) b7 o7 n c (q + 1) ps v6.drew HIN.out HN.out HKL.out (HVL.out _ HIN.out) (by rw [← hab7]; exact (HPW.out.below hbw7).below (Below.refl _ _).drew) hK7 (by have := hbw7.size; have := HCW.out; show C ≤ v6.heap.size; omega)
                rw [← hab7, show ((((q + 1) : Nat)) : Int) = (q : Int) + 1 from rfl] at hsh7
                have CS7 := Lib.hid hsh7
                have cc7 := HS6.out.cell
                clear hK7 hsh7 hab7 hbw7
                go_wp2_with (fail)
                go_region_law (first
                  | (refine step_l (w0 := w) (C := C) (pp := pp) (N := n) rfl (.tmp 73) (.tmp 77) rfl (.slice a6 n6 c6) ([] ++ [shownV ps q]) rfl HSA7 (shownV ps (q + 1)) _ _ rfl HLR7 HLEN7 _ rfl ?_; intro a7 n7 c7 w7 cz7 ff7 HSN7)
                  | (go_simp
                     go_at_call 100
                     refine CS7.out.mono ?_
                     rintro e wa7 ⟨xv, xp, rfl, hb7, hlr7⟩
                     have hbb7 := below_then (below_then (Below.refl v6.heap.size v6) (Nat.le_refl _) (Below.refl _ _).drew) (Nat.le_refl _) hb7
                     have HSA7 := Lib.hid (HS6.out.later hbb7)
                     obtain ⟨xa, xn, xc, ex, _⟩ := id hlr7.1
                     obtain ⟨ya, yn, yc, ey, _⟩ := id hlr7.2
                     simp only at ex ey
                     subst ex ey
                     have HLR7 := Lib.hid hlr7
                     have HLEN7 : Hid (([] ++ [shownV ps q] : List LeafV).length ≤ 1000000) := by show _ ≤ _; simp
                     have cd7 := HSA7.out.cell
                     have ce7 := below_cell (row_below wa7 (.cells #[.int .i64 ((q : Int) + 1), str (keyAt ps (q + 1)), .slice xa xn xc, .slice ya yn yc] 79)).out cd7
                     clear hb7 hlr7 hbb7))
                all_goals (
                  have HS7 : Hid (PSt w C pp n (w7.setCell ⟨pp, 1, none⟩ (.slice a7 n7 c7)) _ _) := HSN7
                  clear HSN7 HSA7 HLR7 CS7 cz7 ff7 cd7 ce7 cc7
                  generalize w7.setCell ⟨pp, 1, none⟩ (.slice a7 n7 c7) = v7 at HS7 ⊢
                  obtain ⟨al, cl, el, h9, hrow, hlv⟩ := HS7.out.done
                  cases el
                  have hsz : Hid ((Tryd.prog.info? 66).map (·.size) = some (#[Value.int .i64 n, .slice a7 (([] ++ [shownV ps q]) ++ [shownV ps (q + 1)] : List LeafV).length c7] : Array Value).size) := size66' _ _ _ _
                  have hone : Hid ((#[Value.int .i64 n, .slice a7 (([] ++ [shownV ps q]) ++ [shownV ps (q + 1)] : List LeafV).length c7] : Array Value).all (·.oneCell') = true) := by show _ = true; simp [Value.oneCell']
                  have H9 := Lib.hid h9
                  have HROWF := Lib.hid hrow
                  have HLV := Lib.hid hlv
                  clear h9 hrow hlv
                  go_wp2_with (first
                    | (refine wpList_load_row rfl 66 (.tmp 6) rfl pp rfl 66 _ (0, 0) _ HS7.out.blk Tryd.underlying66 rfl hsz.out ?_)
                    | (refine wpList_store_row rfl 66 (.tmp 4) (.tmp 80) rfl w.heap.size _ rfl rfl 66 _ HS7.out.res hsz.out rfl hone.out ?_))
                  refine bodyPost_ret (v := .tuple #[.agg #[.int .i64 n, .slice a7 (([] ++ [shownV ps q]) ++ [shownV ps (q + 1)] : List LeafV).length c7], .int .i64 0]) (results_row_tmp (p := 4) (u := 5) (ty := 66) rfl _ _ w.heap.size 66 _ (0, 0) _ rfl HROWF.out Tryd.underlying66 rfl hsz.out) rfl ?_
                  rw [hpr.out, hc.out]
                  exact ⟨a7, c7, rfl, H9.out, HLV.out⟩))
            · obtain rfl : i = 0 := by omega
              rw [if_neg h0] at hps
              have hpr : Hid (proveP ps key = ⟨n, [] ++ [shownV ps 0]⟩) := by show _ = _; rw [hpv.out, hps]
              have hz : ¬ (0 : Int) < ((0 : Nat) : Int) := by omega
              rw [Nat.zero_mul, Nat.add_zero] at g1
              clear hth hin hva hps h0 g2
              have hbw6 := HS3.out.bel
              obtain ⟨b6, o6, va6, hab6, _, _, _⟩ := (HPW.out.below hbw6).cells (0) HIN.out
              have hK6 : KAt1 w3.drew := (HK.out.below HK.out.pos hbw6).below (HK.out.below HK.out.pos hbw6).pos (Below.refl _ _).drew
              have hsh6 := rshown_any (D := C) b6 o6 n c (0) ps w3.drew HIN.out HN.out HKL.out (HVL.out _ HIN.out) (by rw [← hab6]; exact (HPW.out.below hbw6).below (Below.refl _ _).drew) hK6 (by have := hbw6.size; have := HCW.out; show C ≤ w3.heap.size; omega)
              rw [← hab6, show ((((0) : Nat)) : Int) = (0 : Int) from rfl] at hsh6
              have CS6 := Lib.hid hsh6
              have cc6 := HS3.out.cell
              clear hK6 hsh6 hab6 hbw6
              go_wp2_with (fail)
              go_region_law (first
                | (refine step_l (w0 := w) (C := C) (pp := pp) (N := n) rfl (.tmp 73) (.tmp 77) rfl (.slice none 0 0) ([]) rfl HSA6 (shownV ps (0)) _ _ rfl HLR6 HLEN6 _ rfl ?_; intro a6 n6 c6 w6 cz6 ff6 HSN6)
                | (go_simp
                   go_at_call 100
                   refine CS6.out.mono ?_
                   rintro e wa6 ⟨xv, xp, rfl, hb6, hlr6⟩
                   have hbb6 := below_then (below_then (Below.refl w3.heap.size w3) (Nat.le_refl _) (Below.refl _ _).drew) (Nat.le_refl _) hb6
                   have HSA6 := Lib.hid (HS3.out.later hbb6)
                   obtain ⟨xa, xn, xc, ex, _⟩ := id hlr6.1
                   obtain ⟨ya, yn, yc, ey, _⟩ := id hlr6.2
                   simp only at ex ey
                   subst ex ey
                   have HLR6 := Lib.hid hlr6
                   have HLEN6 : Hid (([] : List LeafV).length ≤ 1000000) := by show _ ≤ _; simp
                   have cd6 := HSA6.out.cell
                   have ce6 := below_cell (row_below wa6 (.cells #[.int .i64 ((0 : Int)), str (keyAt ps (0)), .slice xa xn xc, .slice ya yn yc] 79)).out cd6
                   clear hb6 hlr6 hbb6))
              all_goals (
                have HS6 : Hid (PSt w C pp n (w6.setCell ⟨pp, 1, none⟩ (.slice a6 n6 c6)) _ _) := HSN6
                clear HSN6 HSA6 HLR6 CS6 cz6 ff6 cd6 ce6 cc6
                generalize w6.setCell ⟨pp, 1, none⟩ (.slice a6 n6 c6) = v6 at HS6 ⊢
                obtain ⟨al, cl, el, h9, hrow, hlv⟩ := HS6.out.done
                cases el
                have hsz : Hid ((Tryd.prog.info? 66).map (·.size) = some (#[Value.int .i64 n, .slice a6 ([] ++ [shownV ps 0] : List LeafV).length c6] : Array Value).size) := size66' _ _ _ _
                have hone : Hid ((#[Value.int .i64 n, .slice a6 ([] ++ [shownV ps 0] : List LeafV).length c6] : Array Value).all (·.oneCell') = true) := by show _ = true; simp [Value.oneCell']
                have H9 := Lib.hid h9
                have HROWF := Lib.hid hrow
                have HLV := Lib.hid hlv
                clear h9 hrow hlv
                go_wp2_with (first
                  | (refine wpList_load_row rfl 66 (.tmp 6) rfl pp rfl 66 _ (0, 0) _ HS6.out.blk Tryd.underlying66 rfl hsz.out ?_)
                  | (refine wpList_store_row rfl 66 (.tmp 4) (.tmp 80) rfl w.heap.size _ rfl rfl 66 _ HS6.out.res hsz.out rfl hone.out ?_))
                refine bodyPost_ret (v := .tuple #[.agg #[.int .i64 n, .slice a6 ([] ++ [shownV ps 0] : List LeafV).length c6], .int .i64 0]) (results_row_tmp (p := 4) (u := 5) (ty := 66) rfl _ _ w.heap.size 66 _ (0, 0) _ rfl HROWF.out Tryd.underlying66 rfl hsz.out) rfl ?_
                rw [hpr.out, hc.out]
                exact ⟨a6, c6, rfl, H9.out, HLV.out⟩)
          · have heq : (keyAt ps i == key) = true := by
              have h := HTH.out
              rw [hth, decide_eq_true hin, Bool.true_and] at h
              rw [beq_iff_eq]
              exact of_decide_eq_true h.symm
            have hpr : Hid (proveP ps key = ⟨n, [] ++ [shownV ps i]⟩) := by show _ = _; rw [hpv.out, (HSP.out.1 hth).2]; rfl
            clear hth hin hva
            have hbw6 := HS3.out.bel
            obtain ⟨b6, o6, va6, hab6, _, _, _⟩ := (HPW.out.below hbw6).cells (i) HIN.out
            have hK6 : KAt1 w3.drew := (HK.out.below HK.out.pos hbw6).below (HK.out.below HK.out.pos hbw6).pos (Below.refl _ _).drew
            have hsh6 := rshown_any (D := C) b6 o6 n c (i) ps w3.drew HIN.out HN.out HKL.out (HVL.out _ HIN.out) (by rw [← hab6]; exact (HPW.out.below hbw6).below (Below.refl _ _).drew) hK6 (by have := hbw6.size; have := HCW.out; show C ≤ w3.heap.size; omega)
            rw [← hab6, show ((((i) : Nat)) : Int) = (i : Int) from rfl] at hsh6
            have CS6 := Lib.hid hsh6
            have cc6 := HS3.out.cell
            clear hK6 hsh6 hab6 hbw6
            go_wp2_with (fail)
            go_region_law (first
              | (refine step_l (w0 := w) (C := C) (pp := pp) (N := n) rfl (.tmp 49) (.tmp 53) rfl (.slice none 0 0) ([]) rfl HSA6 (shownV ps (i)) _ _ rfl HLR6 HLEN6 _ rfl ?_; intro a6 n6 c6 w6 cz6 ff6 HSN6)
              | (go_simp
                 go_at_call 100
                 refine CS6.out.mono ?_
                 rintro e wa6 ⟨xv, xp, rfl, hb6, hlr6⟩
                 have hbb6 := below_then (below_then (Below.refl w3.heap.size w3) (Nat.le_refl _) (Below.refl _ _).drew) (Nat.le_refl _) hb6
                 have HSA6 := Lib.hid (HS3.out.later hbb6)
                 obtain ⟨xa, xn, xc, ex, _⟩ := id hlr6.1
                 obtain ⟨ya, yn, yc, ey, _⟩ := id hlr6.2
                 simp only at ex ey
                 subst ex ey
                 have HLR6 := Lib.hid hlr6
                 have HLEN6 : Hid (([] : List LeafV).length ≤ 1000000) := by show _ ≤ _; simp
                 have cd6 := HSA6.out.cell
                 have ce6 := below_cell (row_below wa6 (.cells #[.int .i64 ((i : Int)), str (keyAt ps (i)), .slice xa xn xc, .slice ya yn yc] 79)).out cd6
                 clear hb6 hlr6 hbb6))
            all_goals (
              have HS6 : Hid (PSt w C pp n (w6.setCell ⟨pp, 1, none⟩ (.slice a6 n6 c6)) _ _) := HSN6
              clear HSN6 HSA6 HLR6 CS6 cz6 ff6 cd6 ce6 cc6
              generalize w6.setCell ⟨pp, 1, none⟩ (.slice a6 n6 c6) = v6 at HS6 ⊢
              obtain ⟨al, cl, el, h9, hrow, hlv⟩ := HS6.out.done
              cases el
              have hsz : Hid ((Tryd.prog.info? 66).map (·.size) = some (#[Value.int .i64 n, .slice a6 ([] ++ [shownV ps i] : List LeafV).length c6] : Array Value).size) := size66' _ _ _ _
              have hone : Hid ((#[Value.int .i64 n, .slice a6 ([] ++ [shownV ps i] : List LeafV).length c6] : Array Value).all (·.oneCell') = true) := by show _ = true; simp [Value.oneCell']
              have H9 := Lib.hid h9
              have HROWF := Lib.hid hrow
              have HLV := Lib.hid hlv
              clear h9 hrow hlv
              go_wp2_with (first
                | (refine wpList_load_row rfl 66 (.tmp 6) rfl pp rfl 66 _ (0, 0) _ HS6.out.blk Tryd.underlying66 rfl hsz.out ?_)
                | (refine wpList_store_row rfl 66 (.tmp 4) (.tmp 56) rfl w.heap.size _ rfl rfl 66 _ HS6.out.res hsz.out rfl hone.out ?_))
              refine bodyPost_ret (v := .tuple #[.agg #[.int .i64 n, .slice a6 ([] ++ [shownV ps i] : List LeafV).length c6], .int .i64 0]) (results_row_tmp (p := 4) (u := 5) (ty := 66) rfl _ _ w.heap.size 66 _ (0, 0) _ rfl HROWF.out Tryd.underlying66 rfl hsz.out) rfl ?_
              rw [hpr.out, hc.out]
              exact ⟨a6, c6, rfl, H9.out, HLV.out⟩)
        · obtain rfl : i = n := by have := HBN.out; omega
          have i1 : ¬ (i : Int) < (i : Int) := by omega
          have hth : thereB ps key = false := by rw [HTH.out, decide_eq_false hin, Bool.false_and]
          have hps := HSP.out.2 hth
          rw [if_neg hin] at hps
          by_cases h0 : 0 < i
          · obtain ⟨q, rfl⟩ : ∃ q, i = q + 1 := ⟨i - 1, by omega⟩
            rw [if_pos h0, Nat.add_sub_cancel, List.append_nil] at hps
            have hpr : Hid (proveP ps key = ⟨((q + 1 : Nat) : Int), [] ++ [shownV ps q]⟩) := by show _ = _; rw [hpv.out, hps]; rfl
            have HQN : Hid (q < q + 1) := by show _ < _; omega
            have hq6 : (q : Int) ≤ 65536 := by omega
            have hw1 : IntKind.i64.wrap ((q : Int) + 1 - 1) = (q : Int) := by rw [IntWalk.i64_in _ (by omega)]; omega
            have hw2 : IntKind.i64.wrap (q : Int) = (q : Int) := IntWalk.i64_in _ (by omega)
            clear hth hin hps h0
            have hbw6 := HS3.out.bel
            obtain ⟨b6, o6, va6, hab6, _, _, _⟩ := (HPW.out.below hbw6).cells (q) HQN.out
            have hK6 : KAt1 w3.drew := (HK.out.below HK.out.pos hbw6).below (HK.out.below HK.out.pos hbw6).pos (Below.refl _ _).drew
            have hsh6 := rshown_any (D := C) b6 o6 (q + 1) c (q) ps w3.drew HQN.out HN.out HKL.out (HVL.out _ HQN.out) (by rw [← hab6]; exact (HPW.out.below hbw6).below (Below.refl _ _).drew) hK6 (by have := hbw6.size; have := HCW.out; show C ≤ w3.heap.size; omega)
            rw [← hab6, show ((((q) : Nat)) : Int) = (q : Int) from rfl] at hsh6
            have CS6 := Lib.hid hsh6
            have cc6 := HS3.out.cell
            clear hK6 hsh6 hab6 hbw6
            go_wp2_with (fail)
            go_region_law (first
              | (refine step_l (w0 := w) (C := C) (pp := pp) (N := ((q + 1 : Nat) : Int)) rfl (.tmp 60) (.tmp 65) rfl (.slice none 0 0) ([]) rfl HSA6 (shownV ps (q)) _ _ rfl HLR6 HLEN6 _ rfl ?_; intro a6 n6 c6 w6 cz6 ff6 HSN6)
              | (go_simp
                 go_at_call 100
                 refine CS6.out.mono ?_
                 rintro e wa6 ⟨xv, xp, rfl, hb6, hlr6⟩
                 have hbb6 := below_then (below_then (Below.refl w3.heap.size w3) (Nat.le_refl _) (Below.refl _ _).drew) (Nat.le_refl _) hb6
                 have HSA6 := Lib.hid (HS3.out.later hbb6)
                 obtain ⟨xa, xn, xc, ex, _⟩ := id hlr6.1
                 obtain ⟨ya, yn, yc, ey, _⟩ := id hlr6.2
                 simp only at ex ey
                 subst ex ey
                 have HLR6 := Lib.hid hlr6
                 have HLEN6 : Hid (([] : List LeafV).length ≤ 1000000) := by show _ ≤ _; simp
                 have cd6 := HSA6.out.cell
                 have ce6 := below_cell (row_below wa6 (.cells #[.int .i64 ((q : Int)), str (keyAt ps (q)), .slice xa xn xc, .slice ya yn yc] 79)).out cd6
                 clear hb6 hlr6 hbb6))
            all_goals (
              have HS6 : Hid (PSt w C pp ((q + 1 : Nat) : Int) (w6.setCell ⟨pp, 1, none⟩ (.slice a6 n6 c6)) _ _) := HSN6
              clear HSN6 HSA6 HLR6 CS6 cz6 ff6 cd6 ce6 cc6
              generalize w6.setCell ⟨pp, 1, none⟩ (.slice a6 n6 c6) = v6 at HS6 ⊢
              obtain ⟨al, cl, el, h9, hrow, hlv⟩ := HS6.out.done
              cases el
              have hsz : Hid ((Tryd.prog.info? 66).map (·.size) = some (#[Value.int .i64 ((q + 1 : Nat) : Int), .slice a6 ([] ++ [shownV ps q] : List LeafV).length c6] : Array Value).size) := size66' _ _ _ _
              have hone : Hid ((#[Value.int .i64 ((q + 1 : Nat) : Int), .slice a6 ([] ++ [shownV ps q] : List LeafV).length c6] : Array Value).all (·.oneCell') = true) := by show _ = true; simp [Value.oneCell']
              have H9 := Lib.hid h9
              have HROWF := Lib.hid hrow
              have HLV := Lib.hid hlv
              clear h9 hrow hlv
              go_wp2_with (first
                | (refine wpList_load_row rfl 66 (.tmp 6) rfl pp rfl 66 _ (0, 0) _ HS6.out.blk Tryd.underlying66 rfl hsz.out ?_)
                | (refine wpList_store_row rfl 66 (.tmp 4) (.tmp 80) rfl w.heap.size _ rfl rfl 66 _ HS6.out.res hsz.out rfl hone.out ?_))
              refine bodyPost_ret (v := .tuple #[.agg #[.int .i64 ((q + 1 : Nat) : Int), .slice a6 ([] ++ [shownV ps q] : List LeafV).length c6], .int .i64 0]) (results_row_tmp (p := 4) (u := 5) (ty := 66) rfl _ _ w.heap.size 66 _ (0, 0) _ rfl HROWF.out Tryd.underlying66 rfl hsz.out) rfl ?_
              rw [hpr.out, hc.out]
              exact ⟨a6, c6, rfl, H9.out, HLV.out⟩)
          · obtain rfl : i = 0 := by omega
            rw [if_neg h0] at hps
            have hpr : Hid (proveP ps key = ⟨((0 : Nat) : Int), []⟩) := by show _ = _; rw [hpv.out, hps]; rfl
            have hz : ¬ (0 : Int) < ((0 : Nat) : Int) := by omega
            clear hth hin hps h0
            obtain ⟨al, cl, el, h9, hrow, hlv⟩ := HS3.out.done
            cases el
            have hsz : Hid ((Tryd.prog.info? 66).map (·.size) = some (#[Value.int .i64 ((0 : Nat) : Int), .slice none 0 0] : Array Value).size) := size66' _ _ _ _
            have hone : Hid ((#[Value.int .i64 ((0 : Nat) : Int), .slice none 0 0] : Array Value).all (·.oneCell') = true) := by show _ = true; simp [Value.oneCell']
            have H9 := Lib.hid h9
            have HROWF := Lib.hid hrow
            have HLV := Lib.hid hlv
            clear h9 hrow hlv
            go_wp2_with (first
              | (refine wpList_load_row rfl 66 (.tmp 6) rfl pp rfl 66 _ (0, 0) _ HS3.out.blk Tryd.underlying66 rfl hsz.out ?_)
              | (refine wpList_store_row rfl 66 (.tmp 4) (.tmp 80) rfl w.heap.size _ rfl rfl 66 _ HS3.out.res hsz.out rfl hone.out ?_))
            refine bodyPost_ret (v := .tuple #[.agg #[.int .i64 ((0 : Nat) : Int), .slice none 0 0], .int .i64 0]) (results_row_tmp (p := 4) (u := 5) (ty := 66) rfl _ _ w.heap.size 66 _ (0, 0) _ rfl HROWF.out Tryd.underlying66 rfl hsz.out) rfl ?_
            rw [hpr.out, hc.out]
            exact ⟨none, 0, rfl, H9.out, HLV.out⟩
  · have hc : Hid (proveC ps key = 60) := by show _ = _; unfold proveC; rw [if_neg hok]
    have hpv : Hid (proveP ps key = ⟨0, []⟩) := by show _ = _; unfold proveP; rw [if_neg hok]
    by_cases ho : ordered ps = true
    · have hg : goodK key = false := by
        cases h : goodK key with
        | false => rfl
        | true => exact absurd (by rw [ho, h]; rfl) hok
      have HO := Lib.hid ho
      have HG := Lib.hid hg
      clear hok ho hg
      go_enter Tryd.func54, Tryd.ntmps54
      go_wp2_with (fail)
      generalize w.alloc (.cells #[.int .i64 0, .slice none 0 0] 66) = w0 at HB0 HROW HP HK0 ⊢
      refine (right_any a n c ps w0 HP.out).mono ?_
      rintro e w1 ⟨rfl, hb1⟩
      rw [HO.out]
      have HX1 : Hid (w1.heap[w.heap.size]? = some (.cells #[.int .i64 0, .slice none 0 0] 66 (0, 0))) := later_blk HROW.out hb1
      have HBW := Lib.hid (below_then HB0.out HB0.out.size hb1)
      clear hb1
      go_wp2_with (fail)
      refine (rkey_any key w1).mono ?_
      rintro e w2 ⟨rfl, rfl⟩
      rw [HG.out]
      have hsz : Hid ((Tryd.prog.info? 66).map (·.size) = some (#[Value.int .i64 0, .slice none 0 0] : Array Value).size) := size66' _ _ _ _
      have hone : Hid ((#[Value.int .i64 0, .slice none 0 0] : Array Value).all (·.oneCell') = true) := by show _ = true; simp [Value.oneCell']
      have hrow := setRow_heap _ w.heap.size _ (#[Value.int .i64 0, .slice none 0 0] : Array Value) 66 (0, 0) HX1.out
      have HR := Lib.hid hrow
      clear hrow
      go_wp2_with (refine wpList_store_row rfl 66 (.tmp 4) (.tmp 16) rfl w.heap.size _ rfl rfl 66 _ HX1.out hsz.out rfl hone.out ?_)
      refine bodyPost_ret (v := .tuple #[.agg #[.int .i64 0, .slice none 0 0], .int .i64 60]) (results_row_tmp (p := 4) (u := 5) (ty := 66) rfl _ _ w.heap.size 66 _ (0, 0) _ rfl HR.out Tryd.underlying66 rfl hsz.out) rfl ?_
      rw [hpv.out, hc.out]
      exact ⟨none, 0, rfl, below_setRow HBW.out (by omega) _, Lvs.nil _ _⟩
    · have ho1 : ordered ps = false := by simpa using ho
      have HO := Lib.hid ho1
      clear hok ho ho1
      go_enter Tryd.func54, Tryd.ntmps54
      go_wp2_with (fail)
      generalize w.alloc (.cells #[.int .i64 0, .slice none 0 0] 66) = w0 at HB0 HROW HP HK0 ⊢
      refine (right_any a n c ps w0 HP.out).mono ?_
      rintro e w1 ⟨rfl, hb1⟩
      rw [HO.out]
      have HX1 : Hid (w1.heap[w.heap.size]? = some (.cells #[.int .i64 0, .slice none 0 0] 66 (0, 0))) := later_blk HROW.out hb1
      have HBW := Lib.hid (below_then HB0.out HB0.out.size hb1)
      clear hb1
      have hsz : Hid ((Tryd.prog.info? 66).map (·.size) = some (#[Value.int .i64 0, .slice none 0 0] : Array Value).size) := size66' _ _ _ _
      have hone : Hid ((#[Value.int .i64 0, .slice none 0 0] : Array Value).all (·.oneCell') = true) := by show _ = true; simp [Value.oneCell']
      have hrow := setRow_heap _ w.heap.size _ (#[Value.int .i64 0, .slice none 0 0] : Array Value) 66 (0, 0) HX1.out
      have HR := Lib.hid hrow
      clear hrow
      go_wp2_with (refine wpList_store_row rfl 66 (.tmp 4) (.tmp 16) rfl w.heap.size _ rfl rfl 66 _ HX1.out hsz.out rfl hone.out ?_)
      refine bodyPost_ret (v := .tuple #[.agg #[.int .i64 0, .slice none 0 0], .int .i64 60]) (results_row_tmp (p := 4) (u := 5) (ty := 66) rfl _ _ w.heap.size 66 _ (0, 0) _ rfl HR.out Tryd.underlying66 rfl hsz.out) rfl ?_
      rw [hpv.out, hc.out]
      exact ⟨none, 0, rfl, below_setRow HBW.out (by omega) _, Lvs.nil _ _⟩
end Go.Proofs.YteceagldjnfeeaaDoor

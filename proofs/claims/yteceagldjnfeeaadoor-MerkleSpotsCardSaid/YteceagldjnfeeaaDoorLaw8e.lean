/- The walk of isthmuslaw08.MerkleSpots. -/
import Derived.Test.YteceagldjnfeeaaDoorMk12
import Derived.Test.YteceagldjnfeeaaDoorMprove
import Derived.Test.YteceagldjnfeeaaDoorOpen8
import Derived.Test.YteceagldjnfeeaaDoorMkLaw
namespace Go.Proofs.YteceagldjnfeeaaDoor
open Go.RowKit
set_option linter.unusedVariables false
set_option linter.unusedSimpArgs false

theorem later_b9 {w W : World} {b : Nat} {o : Obj} (h : w.heap[b]? = some o) (hb : Below w.heap.size w W) : W.heap[b]? = some o := (hb.block _ (blk_lt h)).trans h

/-- A row of pairs of the call's own, whose values lie below D or in rows of bytes. -/
structure OwnQ (B D : Nat) (w : World) (v : Value) (ps : List KV) : Prop where
  ex : ∃ vs : List Value, vs.length = ps.length ∧ w.ownsRow B 45 2 v ps.length (kvrow ps vs) ∧ Pts w D vs (ps.map (·.2))
theorem OwnQ.below {B D : Nat} {w w1 : World} {v : Value} {ps : List KV} (h : OwnQ B D w v ps) (hb : Below w.heap.size w w1) : OwnQ B D w1 v ps := by
  obtain ⟨vs, h1, h2, h3⟩ := h.ex
  exact ⟨vs, h1, h2.kept (row := none) ⟨hb.os, hb.tape, hb.output, hb.size, fun i hi _ => hb.block i hi⟩ (by cases v.ownBlock <;> simp), h3.later hb⟩
theorem OwnQ.lt {B D : Nat} {w : World} {v : Value} {ps : List KV} (h : OwnQ B D w v ps) (g : Nat) (hg : v.ownBlock = some g) : B ≤ g ∧ g < w.heap.size := by
  obtain ⟨vs, h1, h2, h3⟩ := h.ex
  exact h2.lt g hg
theorem OwnQ.nil (B D : Nat) (w : World) : OwnQ B D w (.slice none 0 0) [] := ⟨[], rfl, World.ownsRow_nil _ _ _ _, .nil⟩
theorem OwnQ.prs {B D : Nat} {w : World} {v : Value} {ps : List KV} (h : OwnQ B D w v ps) : ∃ a c, v = .slice a ps.length c ∧ Prs w D a ps.length c ps := by
  obtain ⟨vs, h1, h2, h3⟩ := h.ex
  rcases h2.2 with ⟨rfl, h0⟩ | ⟨g, cap, cur, rfl, hb, hg, hnc, hm, hs, ht⟩
  · obtain rfl : ps = [] := List.eq_nil_of_length_eq_zero h0
    exact ⟨none, 0, rfl, Prs.nil w D⟩
  · refine ⟨_, cap, rfl, rfl, hnc, hm, fun j hj => ?_⟩
    obtain ⟨k1, k2⟩ := kvrow_key ps vs h1 j hj
    have hj2 : j < vs.length := by omega
    have c1 := h2.cells (g := g) rfl (j * 2) _ k1
    have c2 := h2.cells (g := g) rfl (j * 2 + 1) _ k2
    have e : ∀ x, (⟨g, 0, none⟩ : Addr).add x = ⟨g, 0 + x, none⟩ := fun x => by unfold Addr.add; split <;> simp_all
    rw [e] at c1 c2
    have hp := h3.get j hj2 (by rw [List.length_map]; exact hj)
    rw [keyAt_get ps j hj, valAt_get ps j hj]
    rw [List.getElem_map] at hp
    exact ⟨g, 0, vs[j], rfl, c1, c2, hp⟩
/-- append(s, pair): the pair stands in a new block. -/
theorem app_q {w w0 : World} {D : Nat} {ops : Array Oper} {rest : List Oper} {o : Oper} {ac : Act} {Q : Exit → Act → World → Prop} (hgd : o.guard = none) (s x : Operand)
    (ho : o.op = .call { callee := .builtin .append, args := #[s, x], argTypes := #[42, 42] })
    (v : Value) (ps : List KV) (hs : ac.eval s = v) (HO : Hid (OwnQ w0.heap.size D w v ps)) (HB : Hid (Below w0.heap.size w0 w)) (hD : Hid (D ≤ w0.heap.size))
    (k : List UInt8) (xv : Value) (l : List UInt8) (hx : ac.eval x = .slice (some ⟨w.heap.size, 0, none⟩) 1 1) (hp : Hid (Pt w D xv l)) (hlen : Hid (ps.length ≤ 3518437208780))
    (h : ∀ v' w', Hid (OwnQ w0.heap.size D w' v' (ps ++ [(k, l)])) → Hid (Below w0.heap.size w0 w') → wpList Tryd.prog ops Q rest (ac.put o.dst v') w') :
    wpList Tryd.prog ops Q (o :: rest) ac (w.alloc (.cells #[str k, xv] 45)) := by
  refine wpList_plain hgd fun _ hK => ?_
  obtain ⟨vs, h1, h2, h3⟩ := HO.out.ex
  have hl : ps.length ≤ 3518437208780 := hlen
  have hb : Below w.heap.size w (w.alloc (.cells #[str k, xv] 45)) := (row_below w _).out
  have hB' := below_then HB.out HB.out.size hb
  have h2' : (w.alloc (.cells #[str k, xv] 45)).ownsRow w0.heap.size 45 2 v ps.length (kvrow ps vs) := h2.kept (row := none) ⟨hb.os, hb.tape, hb.output, hb.size, fun i hi _ => hb.block i hi⟩ (by cases v.ownBlock <;> simp)
  obtain ⟨i, hi, hzz⟩ := Option.map_eq_some_iff.1 info45
  simp only [Prod.mk.injEq] at hzz
  obtain ⟨hz0, hz1, hz2⟩ := hzz
  have hone : ∀ u ∈ [str k, xv], u.oneCell' = true := by
    intro u hu
    obtain ⟨a, n, c, e, _⟩ := hp.out
    simp only [List.mem_cons, List.not_mem_nil, or_false] at hu
    rcases hu with rfl | rfl
    · rfl
    · subst e; rfl
  obtain ⟨v', w', hr, ho', hg', _⟩ := run_append_own (P := Tryd.prog) (w.alloc (.cells #[str k, xv] 45)) w0.heap.size 42 o.type 45 i _ 2 40 Tryd.underlying42 hi hz0 hz1 hz2 rfl (by omega) v ps.length (kvrow ps vs) h2'
    ⟨w.heap.size, 0, none⟩ 1 1 [str k, xv] rfl (World.news_of_block (cs := #[str k, xv]) (t := 45) (fr := (0, 0)) (heap_alloc_new w _)) hone (by unfold maxLen; omega) (by omega) (Nat.le_trans HB.out.size hb.size)
  unfold Oper.wp execOp
  simp only [ho, resolve, invoke, builtin, Sem.run_bind, Sem.run_pure, Result.andThen_ok, List.map_toArray, List.map_cons, List.map_nil, hs, hx, hr]
  refine hK _ _ (h v' w' ?_ (hB'.grown hg' hB'.size fun j hj => (HO.out.lt j hj).1))
  refine ⟨vs ++ [xv], by simp [h1], ?_, ?_⟩
  · rw [List.length_append, kvrow_snoc _ _ _ _ h1]; exact ho'
  · rw [List.map_append]
    have hp0 := h3.later hb
    have hx0 := hp.out.below hb
    have hDo := hD.out
    rcases hv : v.ownBlock with _ | g2
    · rw [hv] at hg'
      have hbb : Below (w.alloc (.cells #[str k, xv] 45)).heap.size (w.alloc (.cells #[str k, xv] 45)) w' := ⟨hg'.os, hg'.tape, hg'.output, hg'.size, fun k hk => hg'.block k hk (by simp)⟩
      exact (hp0.later hbb).snoc (hx0.below hbb)
    · rw [hv] at hg'
      rcases h2'.2 with ⟨e2, _⟩ | ⟨g3, cap3, cur, e2, hg2, hgc, _⟩
      · rw [e2] at hv; cases hv
      · rw [e2] at hv
        cases hv
        exact (hp0.kept hg' (Nat.le_trans hDo hg2) hgc (by decide)).snoc (hx0.kept hg' (Nat.le_trans hDo hg2) hgc (by decide))

theorem take_back (ps : List KV) (m : Nat) (h : m < ps.length) : ps.reverse.take (m + 1) = ps.reverse.take m ++ [(keyAt ps (ps.length - 1 - m), valAt ps (ps.length - 1 - m))] := by
  rw [List.take_succ_eq_append_getElem (by rw [List.length_reverse]; exact h), List.getElem_reverse, keyAt_get ps _ (by omega), valAt_get ps _ (by omega)]

set_option maxRecDepth 100000 in
set_option maxHeartbeats 16000000 in
theorem merkleSpots_walk {C : Nat} (a : Option Addr) (n c : Nat) (ps : List KV) (z : Int) (w : World) (hz1 : -9223372036854775808 ≤ z) (hz2 : z ≤ 9223372036854775807) (hp : Prs w C a n c ps) (hC : C ≤ w.heap.size) (hK : KAt w) :
    Calls Tryd.prog 20 #[.slice a n c, .int .i64 z] w fun e w' => e = .returned (.bool true) ∧ Below w.heap.size w w' := by
  have HP := Lib.hid hp
  have HK := Lib.hid hK
  have HLN := Lib.hid hp.len
  have HC := Lib.hid hC
  have hn63 : n ≤ 9223372036854775807 := by have := hp.cap; have := hp.big; unfold maxLen at this; omega
  clear hp hK hC
  by_cases ho : ordered ps = true
  · have hrc : rootC ps = 0 := by unfold rootC; rw [if_pos ho]
    have hrB : rootB ps = rootH ps := by unfold rootB; rw [if_pos ho]
    by_cases h0 : n = 0
    · subst h0
      have hrl : (rootH ps).length = 32 := topH_length _ _
      go_enter Tryd.func20, Tryd.ntmps20
      go_wp2_with (fail)
      refine (root_any 0 a 0 c ps w HP.out HK.out).mono ?_
      rintro e w1 ⟨ar, nr, cr, rfl, hb1, hr1⟩
      have hl := hr1.bs.blen
      rw [hrB, hrl] at hl
      subst hl
      rw [hrc]
      have HB1 := Lib.hid hb1
      clear hb1 hr1 hrc hrB hrl
      go_wp2_with (fail)
      refine (fixed8_any w1 (HK.out.below HK.out.pos HB1.out)).mono ?_
      rintro e w2 ⟨rfl, hb2⟩
      have HB2 := Lib.hid (below_then HB1.out HB1.out.size hb2)
      clear hb2
      go_wp2_with (fail)
      refine (fixed8_any w2 (HK.out.below HK.out.pos HB2.out)).mono ?_
      rintro e w3 ⟨rfl, hb3⟩
      have HB3 := Lib.hid (below_then HB2.out HB2.out.size hb3)
      clear hb3
      go_wp2_with (fail)
      go_ret
      exact ⟨rfl, HB3.out⟩
    · have hn0 : ((n : Int) == 0) = false := by rw [beq_eq_false_iff_ne]; omega
      obtain ⟨i, hin, hi⟩ : ∃ i : Nat, i < n ∧ wrap64 ((IntKind.u64.wrap z).tmod (n : Int)) = (i : Int) := by
        have h0' : 0 ≤ IntKind.u64.wrap z := by simp only [IntKind.wrap, IntKind.bits, IntKind.signed]; simp; omega
        have h1 := Int.emod_nonneg (IntKind.u64.wrap z) (show (n : Int) ≠ 0 by omega)
        have h2 := Int.emod_lt_of_pos (IntKind.u64.wrap z) (show 0 < (n : Int) by omega)
        rw [Int.tmod_eq_emod_of_nonneg h0']
        refine ⟨((IntKind.u64.wrap z) % (n : Int)).toNat, by omega, ?_⟩
        rw [IntWalk.wrap64_in _ ⟨by omega, by omega⟩]
        omega
      obtain ⟨b, o, va, hab, _, _, _⟩ := HP.out.cells i hin
      subst hab
      have i0 : (0 : Int) ≤ (i : Int) := by omega
      have i1 : (i : Int) < (n : Int) := by omega
      have hgk : goodK (keyAt ps i) = true := good_at ((ordered_iff ps).1 ho).1 (by rw [HLN.out]; exact hin)
      have hpc : Hid (proveC ps (keyAt ps i) = 0) := by show _ = _; unfold proveC; rw [if_pos (by rw [ho, hgk]; rfl)]
      have hpp : Hid (proveP ps (keyAt ps i) = ⟨n, [shownV ps i]⟩) := by
        show _ = _
        unfold proveP
        rw [if_pos (by rw [ho, hgk]; rfl), prove_at ((ordered_iff ps).1 ho).1 i (by rw [HLN.out]; exact hin), HLN.out]
      have hsh : Hid ((pathH (ps.map leafH) i).length ≤ 16) := path_short ho i (by rw [HLN.out]; exact hin)
      have hbk : Hid (rootC ps.reverse = if n = 1 then 0 else 60) := by
        show _ = _
        unfold rootC
        rw [back_ordered ho (by rw [HLN.out]; omega), HLN.out]
        by_cases h1 : n = 1
        · simp [h1]
        · simp [h1]
      have hno : Hid (n ≤ 65536) := by have := ordered_len ho; rw [HLN.out] at this; exact this
      clear hgk
      go_enter Tryd.func20, Tryd.ntmps20
      go_wp2_with (fail)
      refine (root_any 0 (some ⟨b, o, none⟩) n c ps w HP.out HK.out).mono ?_
      rintro e w1 ⟨ar, nr, cr, rfl, hb1, hr1⟩
      rw [hrc]
      have HB1 := Lib.hid hb1
      clear hb1 hr1 hrc hrB
      go_wp2_with (fail)
      refine (fixed8_any w1 (HK.out.below HK.out.pos HB1.out)).mono ?_
      rintro e w2 ⟨rfl, hb2⟩
      have HB2 := Lib.hid (below_then HB1.out HB1.out.size hb2)
      clear hb2
      obtain ⟨b', o', va, hab, g1, g2, hva⟩ := (HP.out.below HB2.out).cells i hin
      cases hab
      obtain ⟨a2, n2, c2, hva2, _⟩ := id hva
      subst hva2
      have HVA := Lib.hid hva
      have hgk2 := g1
      generalize hkk : keyAt ps i = kk at g1 hpc hpp
      have HKK := Lib.hid hkk
      clear hkk hgk2 hva
      go_wp2_with (fail)
      refine (mprove_any _ n c ps kk w2 (HP.out.below HB2.out) (HK.out.below HK.out.pos HB2.out)).mono ?_
      rintro e w3 ⟨al, cl, rfl, hb3, hl3⟩
      rw [hpp.out] at hl3 ⊢
      rw [hpc.out]
      have hrb := (row_below w3 (.cells #[.int .i64 n, .slice al 1 cl] 66)).out
      have hb34 := below_then hb3 hb3.size hrb
      have HB4 := Lib.hid (below_then HB2.out HB2.out.size hb34)
      have HL4 : Hid (Lvs (w3.alloc (.cells #[.int .i64 n, .slice al 1 cl] 66)) 0 al 1 cl [shownV ps i]) := hl3.below hrb
      have HX4 : Hid ((w3.alloc (.cells #[.int .i64 n, .slice al 1 cl] 66)).heap[w3.heap.size]? = some (.cells #[.int .i64 n, .slice al 1 cl] 66 (0, 0))) := heap_alloc_new w3 _
      have G24 := Lib.hid (below_cell hb34 g2)
      have HV4 := Lib.hid (HVA.out.below hb34)
      clear hb3 hl3 hrb hb34 g1 g2
      go_wp2_with (fail)
      generalize w3.alloc (.cells #[.int .i64 n, .slice al 1 cl] 66) = w4 at HB4 HL4 HX4 G24 HV4 ⊢
      generalize w3.heap.size = x at HX4 ⊢
      have x0 : w4.cell? ⟨x, 0, none⟩ = some (.int .i64 n) := by rw [cell_of_row _ _ _ _ _ _ HX4.out]; rfl
      have x1 : w4.cell? ⟨x, 1, none⟩ = some (.slice al 1 cl) := by rw [cell_of_row _ _ _ _ _ _ HX4.out]; rfl
      obtain ⟨b5, o5, av, nv, cv, ap, np, cp, hal, k1, _, k3, k4, hv5, hp5⟩ := HL4.out.cells 0 (by simp)
      subst hal
      simp only [Nat.zero_mul, Nat.add_zero, List.getElem_cons_zero] at k1 k3 k4 hv5 hp5
      have k1' : w4.cell? ⟨b5, o5, none⟩ = some (.int .i64 (i : Int)) := k1
      have hnp : np ≤ 16 := by rw [← hp5.len]; exact hsh.out
      have j1 : ¬ (16 : Int) < (np : Int) := by omega
      have hbq : ∀ q, Below w4.heap.size w4 (w4.drewN q) := fun q => drewN_below w4 q
      have cA : ∀ q, (convert 22 9 (.slice av nv cv)).run Tryd.prog (w4.drewN q) = .ok (.string ⟨(valAt ps i).toArray⟩) (w4.drewN q) := fun q => conv_str (hv5.below (hbq q)).bs
      have cB : ∀ q, (convert 22 9 (.slice a2 n2 c2)).run Tryd.prog (w4.drewN q) = .ok (.string ⟨(valAt ps i).toArray⟩) (w4.drewN q) := fun q => conv_str (HV4.out.below (hbq q)).bs
      have g24 := G24.out
      have e1 : ((n : Int) != (n : Int)) = false := by simp
      have e2 : ((i : Int) != (i : Int)) = false := by simp
      have e3 : (valAt ps i != valAt ps i) = false := by simp
      generalize valAt ps i = vv at cA cB e3
      clear k1 hv5 hp5 hnp hbq
      go_quiet (fail)
      have HB5 := Lib.hid (below_then HB4.out HB4.out.size (drewN_below w4 nq))
      clear cA cB e1 e2 e3 x0 x1 k1' k3 k4 g24 j1 hi
      go_wp2_with (fail)
      generalize w4.drewN nq = w5 at HB5 ⊢
      have hn16 : (n : Int) ≤ 65536 := by have := hno.out; omega
      go_loopw [10, 11] (fun v k wr => ∃ (m : Nat) (kz : Int), m ≤ n ∧ k = .int .i64 kz ∧ kz + m + 1 ≤ n ∧ (n : Int) ≤ kz + m + 1 ∧ Hid (Below w.heap.size w wr) ∧ Hid (OwnQ w.heap.size C wr v (ps.reverse.take m))) (fun _ k _ => ((intOf k) + 1).toNat)
      case atStart => exact ⟨0, (n : Int) - 1, by omega, rfl, by omega, by omega, HB5.out, OwnQ.nil _ _ _⟩
      case round =>
        obtain ⟨m, kz, hm, rfl, hk1, hk2, HB, HO⟩ := hrel
        by_cases hlt : m < n
        · obtain ⟨j, rfl⟩ : ∃ j : Nat, kz = (j : Int) := ⟨kz.toNat, by omega⟩
          have hjn : j < n := by omega
          have hjm : Hid (n - 1 - m = j) := by show _ = _; omega
          obtain ⟨b6, o6, va6, hab6, q1, q2, hva6⟩ := (HP.out.below HB.out).cells j hjn
          cases hab6
          obtain ⟨a6, n6, c6, e6, _⟩ := id hva6
          subst e6
          have j0 : (0 : Int) ≤ (j : Int) := by omega
          have j1 : (j : Int) < (n : Int) := by omega
          have HPT := Lib.hid hva6
          have HTK : Hid (ps.reverse.take (m + 1) = ps.reverse.take m ++ [(keyAt ps j, valAt ps j)]) := by
            show _ = _
            rw [take_back ps m (by rw [HLN.out]; exact hlt), HLN.out, hjm.out]
          have hlen : Hid ((ps.reverse.take m).length ≤ 3518437208780) := by show _ ≤ _; rw [List.length_take]; have := hno.out; omega
          clear hva6
          generalize keyAt ps j = kj at q1 HTK
          go_wp2_with (at_builtin; refine app_q (w0 := w) (D := C) rfl (.tmp 117) (.tmp 122) rfl _ _ rfl HO HB HC kj _ (valAt ps j) rfl HPT hlen ?_; intro v7 w7 HO7 HB7)
          have HO8 : Hid (OwnQ w.heap.size C w7 v7 (ps.reverse.take (m + 1))) := by show OwnQ _ _ _ _ _; rw [HTK.out]; exact HO7.out
          exact ⟨⟨m + 1, (j : Int) - 1, by omega, rfl, by omega, by omega, HB7, HO8⟩, by simp [intOf]⟩
        · have hk : kz = -1 := by omega
          subst hk
          have hof := HO.out
          rw [List.take_of_length_le (by rw [List.length_reverse, HLN.out]; omega)] at hof
          obtain ⟨a7, c7, e7, hp7⟩ := hof.prs
          subst e7
          rw [List.length_reverse, HLN.out] at hp7
          have HP7 := Lib.hid hp7
          clear hof hp7 HO
          rw [List.length_reverse, HLN.out]
          go_wp2_with (fail)
          refine (root_any 0 a7 n c7 ps.reverse wr HP7.out (HK.out.below HK.out.pos HB.out)).mono ?_
          rintro e w8 ⟨a8, n8, c8, rfl, hb8, _⟩
          have HB8 := Lib.hid (below_then HB.out HB.out.size hb8)
          clear hb8
          rw [hbk.out]
          by_cases h1 : n = 1
          · have i6 : ((n : Int) == 1) = true := by rw [beq_iff_eq]; omega
            rw [if_pos h1]
            clear h1
            go_wp2_with (fail)
            go_ret
            exact ⟨rfl, HB8.out⟩
          · have i6 : ((n : Int) == 1) = false := by rw [beq_eq_false_iff_ne]; omega
            rw [if_neg h1]
            clear h1
            go_wp2_with (fail)
            go_ret
            exact ⟨rfl, HB8.out⟩
  · have ho1 : ordered ps = false := by simpa using ho
    have hrc : rootC ps = 60 := by unfold rootC; rw [if_neg ho]
    have hrB : rootB ps = [] := by unfold rootB; rw [if_neg ho]
    go_enter Tryd.func20, Tryd.ntmps20
    go_wp2_with (fail)
    refine (root_any 0 a n c ps w HP.out HK.out).mono ?_
    rintro e w1 ⟨ar, nr, cr, rfl, hb1, hr1⟩
    have hl := hr1.bs.blen
    rw [hrB] at hl
    have hnr : nr = 0 := by simpa using hl.symm
    subst hnr
    rw [hrc]
    have HB1 := Lib.hid hb1
    clear hb1 hr1 hrc hrB hl
    go_wp2_with (fail)
    refine (fixed8_any w1 (HK.out.below HK.out.pos HB1.out)).mono ?_
    rintro e w2 ⟨rfl, hb2⟩
    have HB2 := Lib.hid (below_then HB1.out HB1.out.size hb2)
    clear hb2
    go_wp2_with (fail)
    refine (fixed8_any w2 (HK.out.below HK.out.pos HB2.out)).mono ?_
    rintro e w3 ⟨rfl, hb3⟩
    have HB3 := Lib.hid (below_then HB2.out HB2.out.size hb3)
    clear hb3
    go_wp2_with (fail)
    go_ret
    exact ⟨rfl, HB3.out⟩
end Go.Proofs.YteceagldjnfeeaaDoor

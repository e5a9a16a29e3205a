/- The walk of merkle.Prove. -/
import Derived.Test.YteceagldjnfeeaaDoorShow
import Derived.Test.YteceagldjnfeeaaDoorCmp
import Derived.Outline
namespace Go.Proofs.YteceagldjnfeeaaDoor
open Go.RowKit
set_option linter.unusedVariables false
set_option linter.unusedSimpArgs false

theorem Fr2.grown {pp : Nat} {w w' : World} (h : Fr2 pp none w w') : w.grownBy w' (some pp) := ⟨h.os, h.tape, h.output, h.size, fun k hk hne => h.block k hk (fun e => hne (by rw [e])) (by simp)⟩
theorem Fr2.below {B pp : Nat} {r : Option Nat} {w0 w w' : World} (hb : Below B w0 w) (h : Fr2 pp r w w') (hBw : B ≤ w.heap.size) (hp : B ≤ pp) (hr : ∀ g, r = some g → B ≤ g) : Below B w0 w' :=
  ⟨h.os.trans hb.os, h.tape.trans hb.tape, h.output.trans hb.output, Nat.le_trans hb.size h.size, fun k hk => (h.block k (by omega) (by omega) (fun e => by have := hr k e.symm; omega)).trans (hb.block k hk)⟩
theorem grown_setRow (w : World) (g : Nat) (cs : Array Value) : w.grownBy (w.setRow g cs) (some g) :=
  ⟨rfl, rfl, rfl, by simp, fun k _ hk => setRow_other w g k _ (fun e => hk (by rw [e]))⟩
theorem size66' (a : Option Addr) (n c : Nat) (N : Int) : (Tryd.prog.info? 66).map (·.size) = some (#[Value.int .i64 N, .slice a n c] : Array Value).size := by rw [size66]; rfl

def proveC (ps : List KV) (key : List UInt8) : Int := if (ordered ps && goodK key) = true then 0 else 60
def proveP (ps : List KV) (key : List UInt8) : ProofV := if (ordered ps && goodK key) = true then proveV ps key else ⟨0, []⟩
def RetPv (p : ProofV) (c : Int) (w : World) (e : Ending) (w' : World) : Prop :=
  ∃ al cl, e = .returned (.tuple #[.agg #[.int .i64 p.n, .slice al p.leaves.length cl], .int .i64 c]) ∧ Below w.heap.size w w' ∧ Lvs w' 0 al p.leaves.length cl p.leaves
theorem hashes_row {w w0 : World} {D n c : Nat} {a : Option Addr} {ls : List (List UInt8)} (h : Hs w D a n c ls) : Hs w D a n c ls := h

/-- The proof's end: its cells are handed back. -/
theorem prove_end {rx : Nat} {N : Int} {w : World} {w1 : World} {v : Value} {ls : List LeafV} (hb : Below w.heap.size w w1) (hrx : w.heap.size ≤ rx) (hr : ∃ cs, w1.heap[rx]? = some (.cells cs 66 (0, 0))) (hl : OwnL w.heap.size 0 w1 v ls) :
    ∃ al cl, v = .slice al ls.length cl ∧ Below w.heap.size w (w1.setRow rx #[.int .i64 N, v]) ∧ (w1.setRow rx #[.int .i64 N, v]).heap[rx]? = some (.cells #[.int .i64 N, v] 66 (0, 0)) ∧ Lvs (w1.setRow rx #[.int .i64 N, v]) 0 al ls.length cl ls := by
  obtain ⟨cs, hr⟩ := hr
  have h2 := hl.kept (grown_setRow w1 rx #[.int .i64 N, v]) (Nat.zero_le _) hr (by decide) (by decide) (by decide)
  obtain ⟨al, cl, e, h3⟩ := h2.lvs
  exact ⟨al, cl, e, below_setRow hb hrx _, setRow_heap _ rx _ _ 66 (0, 0) hr, h3⟩

set_option maxRecDepth 100000 in
set_option maxHeartbeats 16000000 in
theorem mprove_any {C : Nat} (a : Option Addr) (n c : Nat) (ps : List KV) (key : List UInt8) (w : World) (hp : Prs w C a n c ps) (hK : KAt w) :
    Calls Tryd.prog 53 #[.slice a n c, str key] w (RetPv (proveP ps key) (proveC ps key) w) := by
  have HB0 : Hid (Below w.heap.size w ((w.alloc (.cells #[.slice a n c] 42)).alloc (.cells #[.int .i64 0, .slice none 0 0] 66))) :=
    hid_row (row_below w (.cells #[.slice a n c] 42)) _
  have hz : (w.alloc (.cells #[.slice a n c] 42)).heap.size = w.heap.size + 1 := Array.size_push _
  have HC : Hid (((w.alloc (.cells #[.slice a n c] 42)).alloc (.cells #[.int .i64 0, .slice none 0 0] 66)).cell? ⟨w.heap.size, 0, none⟩ = some (.slice a n c)) :=
    below_cell (row_below _ _).out (by rw [cell_of_row _ _ _ _ _ _ (heap_alloc_new w _)]; rfl)
  have HROW : Hid (((w.alloc (.cells #[.slice a n c] 42)).alloc (.cells #[.int .i64 0, .slice none 0 0] 66)).heap[w.heap.size + 1]? = some (.cells #[.int .i64 0, .slice none 0 0] 66 (0, 0))) := by
    show _ = _
    rw [← hz]; exact heap_alloc_new _ _
  have HP := Lib.hid (hp.below HB0.out)
  have HK := Lib.hid hK
  have HK0 := Lib.hid (hK.below hK.pos HB0.out)
  have HPW := Lib.hid hp
  have HL := Lib.hid hp.len
  clear hp hK hz
  by_cases hok : (ordered ps && goodK key) = true
  · have hc : Hid (proveC ps key = 0) := by show _ = _; unfold proveC; rw [if_pos hok]
    have hpv : Hid (proveP ps key = proveV ps key) := by show _ = _; unfold proveP; rw [if_pos hok]
    rw [Bool.and_eq_true] at hok
    obtain ⟨ho, hg⟩ := hok
    have HO := Lib.hid ho
    have HG := Lib.hid hg
    have HOK := Lib.hid ((ordered_iff ps).1 ho).1
    have HN : Hid (n ≤ 65536) := by have := ((ordered_iff ps).1 ho).2; rw [HL.out] at this; exact this
    have HKL : Hid (∀ k, k < n → (keyAt ps k).length ≤ maxLen) := fun k hk => ordered_key ho k (by rw [HL.out]; exact hk)
    have HKEY : Hid (key.length ≤ maxLen) := by
      unfold goodK at hg
      simp only [Bool.and_eq_true, decide_eq_true_eq] at hg
      show _ ≤ _
      unfold maxLen
      omega
    have HVL : Hid (∀ i, i < n → (valAt ps i).length ≤ 65535) := fun i hi => val_at HOK.out (by rw [HL.out]; exact hi)
    clear ho hg
    go_enter Tryd.func53, Tryd.ntmps53
    go_wp2_with (fail)
    generalize (w.alloc (.cells #[.slice a n c] 42)).alloc (.cells #[.int .i64 0, .slice none 0 0] 66) = w0 at HB0 HC HROW HP HK0 ⊢
    refine (ordered_any a n c ps w0 HP.out).mono ?_
    rintro e w1 ⟨rfl, hb1⟩
    rw [HO.out]
    have HB1 := Lib.hid hb1
    clear hb1
    go_wp2_with (fail)
    refine (good_any key w1).mono ?_
    rintro e w2 ⟨rfl, rfl⟩
    rw [HG.out]
    have c1 := below_cell HB1.out HC.out
    have HB12 := Lib.hid (row_below w1 (.cells #[.int .i64 n, .slice none 0 0] 66)).out
    have hr2 : Hid ((w1.alloc (.cells #[.int .i64 n, .slice none 0 0] 66)).heap[w1.heap.size]? = some (.cells #[.int .i64 n, .slice none 0 0] 66 (0, 0))) := heap_alloc_new w1 _
    have HB2 := Lib.hid (below_then HB1.out HB1.out.size HB12.out)
    have c2 := below_cell HB12.out c1
    have HGE : Hid (w0.heap.size ≤ w1.heap.size) := HB1.out.size
    go_wp2_with (fail)
    clear c1
    have HC2 := Lib.hid c2
    clear c2
    generalize w1.alloc (.cells #[.int .i64 n, .slice none 0 0] 66) = w2 at HB12 hr2 HB2 HC2 ⊢
    generalize w1.heap.size = pp at hr2 HGE ⊢
    clear HB12 HB1
    have HLT := Lib.hid (blk_lt hr2.out)
    refine (hashes_any a n c ps w2 (HP.out.below HB2.out) HN.out HKL.out (HK0.out.below HK0.out.pos HB2.out)).mono ?_
    rintro e w3 ⟨g, rfl, hb3, hh3⟩
    have HB3 := Lib.hid (below_then HB2.out HB2.out.size hb3)
    have HC3 := Lib.hid (below_cell hb3 HC2.out)
    have hr3 : Hid (w3.heap[pp]? = some (.cells #[.int .i64 n, .slice none 0 0] 66 (0, 0))) := (hb3.block _ HLT.out).trans hr2.out
    have hrb := (row_below w3 (.cells #[.slice (some ⟨g, 0, none⟩) n n] 77)).out
    have c4 := below_cell hrb HC3.out
    have HA4 : Hid ((w3.alloc (.cells #[.slice (some ⟨g, 0, none⟩) n n] 77)).cell? ⟨w3.heap.size, 0, none⟩ = some (.slice (some ⟨g, 0, none⟩) n n)) := by
      show _ = _
      rw [cell_of_row _ _ _ _ _ _ (heap_alloc_new w3 _)]; rfl
    have hr4 : Hid ((w3.alloc (.cells #[.slice (some ⟨g, 0, none⟩) n n] 77)).heap[pp]? = some (.cells #[.int .i64 n, .slice none 0 0] 66 (0, 0))) := (hrb.block _ (blk_lt hr3.out)).trans hr3.out
    have HB4 := Lib.hid (below_then HB3.out HB3.out.size hrb)
    have HH4 := Lib.hid (hh3.below hrb)
    have HLT3 : Hid (pp < w3.heap.size) := blk_lt hr3.out
    clear hb3 hh3 hrb hr2 HC2 HC3 HB3 HB2 hr3
    go_wp2_with (fail)
    generalize w3.alloc (.cells #[.slice (some ⟨g, 0, none⟩) n n] 77) = w4 at c4 HA4 hr4 HB4 HH4 ⊢
    generalize w3.heap.size = allx at HA4 HLT3 ⊢
    have C4 := Lib.hid c4
    clear c4
    refine (bsf_any a n c ps key w4 (HP.out.below HB4.out) HOK.out HN.out HKL.out HKEY.out).mono ?_
    rintro e w5 ⟨rfl, hb5⟩
    have HB5 := Lib.hid (below_then HB4.out HB4.out.size hb5)
    have HBW := Lib.hid (below_then HB0.out HB0.out.size HB5.out)
    have HR5 : Hid (w5.heap[pp]? = some (.cells #[.int .i64 n, .slice none 0 0] 66 (0, 0))) := (hb5.block _ (blk_lt hr4.out)).trans hr4.out
    have HA5 := Lib.hid (below_cell hb5 HA4.out)
    have HC5 := Lib.hid (below_cell hb5 C4.out)
    have HH5 := Lib.hid (HH4.out.below hb5)
    have HPV : Hid ((proveV ps key).n = n ∧ (proveV ps key).leaves = (if (!thereB ps key && decide (0 < below ps key)) = true then [shownV ps (below ps key - 1)] else []) ++ (if below ps key < n then [shownV ps (below ps key)] else [])) := by
      show _ ∧ _
      unfold proveV
      rw [HL.out]
      exact ⟨rfl, rfl⟩
    have HBN : Hid (below ps key ≤ n) := by have := below_le ps key; rw [HL.out] at this; exact this
    have HTN : Hid (thereB ps key = true → below ps key < n) := fun h => by
      unfold thereB at h
      rw [HL.out] at h
      simp only [Bool.and_eq_true, decide_eq_true_eq] at h
      exact h.1
    have HBP : Hid (w.heap.size ≤ pp ∧ pp ≠ 0) := by
      have h1 := HGE.out
      have h2 := HB0.out.size
      have h3 := HK.out.pos
      show _ ∧ _
      omega
    have HROW5 : Hid (w5.heap[w.heap.size + 1]? = some (.cells #[.int .i64 0, .slice none 0 0] 66 (0, 0))) := (HB5.out.block _ (blk_lt HROW.out)).trans HROW.out
    have HRX : Hid (w.heap.size + 1 ≠ pp ∧ w.heap.size ≤ w5.heap.size) := by
      have h1 := HGE.out
      have h2 := blk_lt HROW.out
      have h3 := HBW.out.size
      show _ ∧ _
      omega
    have HK5 := Lib.hid (HK.out.below HK.out.pos HBW.out)
    have HPX : Hid (w.heap.size < pp) := by
      have h1 := HGE.out
      have h2 := blk_lt HROW.out
      show _ < _
      omega
    have SH1 : Hid (∀ i, i < n → Calls Tryd.prog 95 #[.int .i64 i, .pointer (some ⟨w.heap.size, 0, none⟩), .pointer (some ⟨allx, 0, none⟩), .pointer (some ⟨pp, 0, none⟩)] w5 fun e w' =>
        e = .returned (.tuple #[]) ∧ ∃ v', w'.heap[pp]? = some (.cells #[.int .i64 n, v'] 66 (0, 0)) ∧ OwnL w.heap.size 0 w' v' ([] ++ [shownV ps i]) ∧ Fr2 pp none w5 w') := fun i hi =>
      show_any w.heap.size w.heap.size allx pp g a n c n i n (.slice none 0 0) ps [] w5 (HPW.out.below HBW.out) hi HN.out (HVL.out i hi) HC5.out HA5.out HH5.out HR5.out HBP.out.1 HBP.out.2 (OwnL.nil _ _ _) (by simp) HK5.out
    clear hb5 hr4 HB4 HH4 HA4 C4 HB0 HC HROW HP HK0 HLT HGE
    generalize thereB ps key = th at HPV HTN ⊢
    generalize below ps key = B at HPV HBN HTN ⊢
    cases th with
    | true =>
      have hbn : B < n := HTN.out rfl
      have i1 : (B : Int) < (n : Int) := by omega
      have hpr : Hid (proveP ps key = ⟨n, [shownV ps B]⟩) := by
        show _ = _
        obtain ⟨h1, h2⟩ := HPV.out
        rw [if_pos hbn] at h2
        rw [hpv.out]
        cases hq : proveV ps key with
        | mk n' l' =>
          rw [hq] at h1 h2
          simp only [Bool.not_true, Bool.false_and, Bool.false_eq_true, if_false, List.nil_append] at h1 h2
          rw [h1, h2]
      have c5 := HC5.out
      go_wp2_with (fail)
      clear c5
      refine (SH1.out B hbn).mono ?_
      rintro e w6 ⟨rfl, v6, hr6, ho6, hf6⟩
      have ho6' : OwnL w.heap.size 0 w6 v6 [shownV ps (B)] := ho6
      obtain ⟨a8, c8, e8, _⟩ := ho6'.lvs
      have HB6 := Lib.hid (Fr2.below HBW.out hf6 HRX.out.2 HBP.out.1 (fun g h => by cases h))
      have HX6 : Hid (w6.heap[w.heap.size + 1]? = some (.cells #[.int .i64 0, .slice none 0 0] 66 (0, 0))) := (hf6.block _ (blk_lt HROW5.out) HRX.out.1 (by simp)).trans HROW5.out
      subst e8
      have HO6 := Lib.hid ho6'
      have HR6 := Lib.hid hr6
      have HF6 := Lib.hid hf6
      clear ho6 ho6' hr6 hf6
      have hsz : Hid ((Tryd.prog.info? 66).map (·.size) = some (#[Value.int .i64 n, .slice a8 ([shownV ps B]).length c8] : Array Value).size) := size66' _ _ _ _
      have hone : Hid ((#[Value.int .i64 n, .slice a8 ([shownV ps B]).length c8] : Array Value).all (·.oneCell') = true) := by show _ = true; simp [Value.oneCell']
      obtain ⟨a9, c9, e9, h9, hrow, hlv⟩ := prove_end (N := n) HB6.out (show w.heap.size ≤ w.heap.size + 1 by omega) ⟨_, HX6.out⟩ HO6.out
      cases e9
      have H9 := Lib.hid h9
      have HROWF := Lib.hid hrow
      have HLV := Lib.hid hlv
      clear h9 hrow hlv
      go_wp2_with (first
        | (refine wpList_load_row rfl 66 (.tmp 6) rfl pp rfl 66 _ (0, 0) _ HR6.out Tryd.underlying66 rfl hsz.out ?_)
        | (refine wpList_store_row rfl 66 (.tmp 4) (.tmp 49) rfl (w.heap.size + 1) _ rfl rfl 66 _ HX6.out hsz.out rfl hone.out ?_))
      refine bodyPost_ret (v := .tuple #[.agg #[.int .i64 n, .slice a8 ([shownV ps B]).length c8], .int .i64 0]) (results_row_tmp (p := 4) (u := 5) (ty := 66) rfl _ _ (w.heap.size + 1) 66 _ (0, 0) _ rfl HROWF.out Tryd.underlying66 rfl hsz.out) rfl ?_
      unfold RetPv
      rw [hpr.out, hc.out]
      exact ⟨a8, c8, rfl, H9.out, HLV.out⟩
    | false =>
      by_cases h0 : 0 < B
      · obtain ⟨q, rfl⟩ : ∃ q, B = q + 1 := ⟨B - 1, by omega⟩
        have i0 : (0 : Int) < ((q + 1 : Nat) : Int) := by omega
        have hqn : q < n := by have := HBN.out; omega
        have hq6 : (q : Int) ≤ 65536 := by have := HN.out; omega
        by_cases h1 : q + 1 < n
        · have i1 : ((q + 1 : Nat) : Int) < (n : Int) := by omega
          have hpr : Hid (proveP ps key = ⟨n, [shownV ps q] ++ [shownV ps (q + 1)]⟩) := by
            show _ = _
            obtain ⟨h1', h2'⟩ := HPV.out
            rw [if_pos h1] at h2'
            rw [hpv.out]
            cases hq : proveV ps key with
            | mk n' l' =>
              rw [hq] at h1' h2'
              simp only [Bool.not_false, Bool.true_and, decide_eq_true h0, if_true, Nat.add_sub_cancel] at h1' h2'
              rw [h1', h2']
          have H1N := Lib.hid h1
          clear h1 h0
          go_wp2_with (fail)
          refine (SH1.out q hqn).mono ?_
          rintro e w6 ⟨rfl, v6, hr6, ho6, hf6⟩
          have ho6' : OwnL w.heap.size 0 w6 v6 [shownV ps (q)] := ho6
          obtain ⟨a8, c8, e8, _⟩ := ho6'.lvs
          have HB6 := Lib.hid (Fr2.below HBW.out hf6 HRX.out.2 HBP.out.1 (fun g h => by cases h))
          have HX6 : Hid (w6.heap[w.heap.size + 1]? = some (.cells #[.int .i64 0, .slice none 0 0] 66 (0, 0))) := (hf6.block _ (blk_lt HROW5.out) HRX.out.1 (by simp)).trans HROW5.out
          have HC6 : Hid (w6.cell? ⟨w.heap.size, 0, none⟩ = some (.slice a n c)) := grown_cell hf6.grown HC5.out (fun e => by have := Option.some.inj e; have := HBP.out.1; have := HPX.out; omega)
          subst e8
          have HO6 := Lib.hid ho6'
          have HR6 := Lib.hid hr6
          have HF6 := Lib.hid hf6
          clear ho6 ho6' hr6 hf6
          have hgp : Hid (g ≠ pp) := by
            intro e
            obtain ⟨b', o', x2, y2, z2, e2, k1, _⟩ := HH5.out.at 0 (by omega)
            cases e2
            subst e
            rw [cell_of_row _ _ _ _ _ _ HR5.out] at k1
            cases k1
          have hap : Hid (allx ≠ pp) := by have := HLT3.out; show _ ≠ _; omega
          have HA6 := Lib.hid (grown_cell HF6.out.grown HA5.out (fun e => hap.out (Option.some.inj e)))
          have HH6 := Lib.hid (HH5.out.kept HF6.out.grown hgp.out (Nat.zero_le _) HR5.out (by decide))
          have HK6 := Lib.hid (HK.out.below HK.out.pos HB6.out)
          have hsh := show_any w.heap.size w.heap.size allx pp g a n c n (q + 1) n (.slice a8 [shownV ps q].length c8) ps [shownV ps q] w6 (HPW.out.below HB6.out) H1N.out HN.out (HVL.out _ H1N.out) HC6.out HA6.out HH6.out HR6.out HBP.out.1 HBP.out.2 HO6.out (by simp) HK6.out
          have e1 : ((q + 1 : Nat) : Int) = (q : Int) + 1 := rfl
          rw [e1] at hsh
          have SH2 := Lib.hid hsh
          have c6 := HC6.out
          clear hsh e1
          go_wp2_with (fail)
          clear c6
          refine SH2.out.mono ?_
          rintro e w7 ⟨rfl, v7, hr7, ho7, hf7⟩
          have HB7 := Lib.hid (Fr2.below HB6.out hf7 (by have := HB6.out.size; omega) HBP.out.1 (fun g hg => (HO6.out.lt g hg).1))
          have hrn : some (w.heap.size + 1) ≠ (Value.slice a8 [shownV ps q].length c8).ownBlock := by
            intro e
            obtain ⟨vs, _, h2, _⟩ := HO6.out.ex
            rcases h2.2 with ⟨e2, _⟩ | ⟨g2, cap, cur, e2, _, hg2, _⟩
            · rw [e2] at e; cases e
            · rw [e2] at e
              cases e
              rw [HX6.out] at hg2
              cases hg2
          have HX7 : Hid (w7.heap[w.heap.size + 1]? = some (.cells #[.int .i64 0, .slice none 0 0] 66 (0, 0))) := (hf7.block _ (blk_lt HX6.out) HRX.out.1 hrn).trans HX6.out
          obtain ⟨a9, c9, e9, _⟩ := ho7.lvs
          subst e9
          have HO7 := Lib.hid ho7
          have HR7 := Lib.hid hr7
          clear ho7 hr7 hf7 SH2 HO6 HR6 HF6 hrn
          have hsz : Hid ((Tryd.prog.info? 66).map (·.size) = some (#[Value.int .i64 n, .slice a9 ([shownV ps q] ++ [shownV ps (q + 1)]).length c9] : Array Value).size) := size66' _ _ _ _
          have hone : Hid ((#[Value.int .i64 n, .slice a9 ([shownV ps q] ++ [shownV ps (q + 1)]).length c9] : Array Value).all (·.oneCell') = true) := by show _ = true; simp [Value.oneCell']
          obtain ⟨a10, c10, e10, h9, hrow, hlv⟩ := prove_end (N := n) HB7.out (show w.heap.size ≤ w.heap.size + 1 by omega) ⟨_, HX7.out⟩ HO7.out
          cases e10
          have H9 := Lib.hid h9
          have HROWF := Lib.hid hrow
          have HLV := Lib.hid hlv
          clear h9 hrow hlv
          go_wp2_with (first
            | (refine wpList_load_row rfl 66 (.tmp 6) rfl pp rfl 66 _ (0, 0) _ HR7.out Tryd.underlying66 rfl hsz.out ?_)
            | (refine wpList_store_row rfl 66 (.tmp 4) (.tmp 49) rfl (w.heap.size + 1) _ rfl rfl 66 _ HX7.out hsz.out rfl hone.out ?_))
          refine bodyPost_ret (v := .tuple #[.agg #[.int .i64 n, .slice a9 ([shownV ps q] ++ [shownV ps (q + 1)]).length c9], .int .i64 0]) (results_row_tmp (p := 4) (u := 5) (ty := 66) rfl _ _ (w.heap.size + 1) 66 _ (0, 0) _ rfl HROWF.out Tryd.underlying66 rfl hsz.out) rfl ?_
          unfold RetPv
          rw [hpr.out, hc.out]
          exact ⟨a9, c9, rfl, H9.out, HLV.out⟩
        · have i1 : ¬ ((q + 1 : Nat) : Int) < (n : Int) := by omega
          have i2 : (n : Int) ≤ ((q + 1 : Nat) : Int) := by omega
          have hpr : Hid (proveP ps key = ⟨n, [shownV ps q]⟩) := by
            show _ = _
            obtain ⟨h1', h2'⟩ := HPV.out
            rw [if_neg h1] at h2'
            rw [hpv.out]
            cases hq : proveV ps key with
            | mk n' l' =>
              rw [hq] at h1' h2'
              simp only [Bool.not_false, Bool.true_and, decide_eq_true h0, if_true, Nat.add_sub_cancel, List.append_nil] at h1' h2'
              rw [h1', h2']
          clear h1 h0
          go_wp2_with (fail)
          refine (SH1.out q hqn).mono ?_
          rintro e w6 ⟨rfl, v6, hr6, ho6, hf6⟩
          have ho6' : OwnL w.heap.size 0 w6 v6 [shownV ps (q)] := ho6
          obtain ⟨a8, c8, e8, _⟩ := ho6'.lvs
          have HB6 := Lib.hid (Fr2.below HBW.out hf6 HRX.out.2 HBP.out.1 (fun g h => by cases h))
          have HX6 : Hid (w6.heap[w.heap.size + 1]? = some (.cells #[.int .i64 0, .slice none 0 0] 66 (0, 0))) := (hf6.block _ (blk_lt HROW5.out) HRX.out.1 (by simp)).trans HROW5.out
          have HC6 : Hid (w6.cell? ⟨w.heap.size, 0, none⟩ = some (.slice a n c)) := grown_cell hf6.grown HC5.out (fun e => by have := Option.some.inj e; have := HBP.out.1; have := HPX.out; omega)
          subst e8
          have HO6 := Lib.hid ho6'
          have HR6 := Lib.hid hr6
          have HF6 := Lib.hid hf6
          clear ho6 ho6' hr6 hf6
          have c6 := HC6.out
          have hsz : Hid ((Tryd.prog.info? 66).map (·.size) = some (#[Value.int .i64 n, .slice a8 ([shownV ps q]).length c8] : Array Value).size) := size66' _ _ _ _
          have hone : Hid ((#[Value.int .i64 n, .slice a8 ([shownV ps q]).length c8] : Array Value).all (·.oneCell') = true) := by show _ = true; simp [Value.oneCell']
          obtain ⟨a9, c9, e9, h9, hrow, hlv⟩ := prove_end (N := n) HB6.out (show w.heap.size ≤ w.heap.size + 1 by omega) ⟨_, HX6.out⟩ HO6.out
          cases e9
          have H9 := Lib.hid h9
          have HROWF := Lib.hid hrow
          have HLV := Lib.hid hlv
          clear h9 hrow hlv
          go_wp2_with (first
            | (refine wpList_load_row rfl 66 (.tmp 6) rfl pp rfl 66 _ (0, 0) _ HR6.out Tryd.underlying66 rfl hsz.out ?_)
            | (refine wpList_store_row rfl 66 (.tmp 4) (.tmp 49) rfl (w.heap.size + 1) _ rfl rfl 66 _ HX6.out hsz.out rfl hone.out ?_))
          refine bodyPost_ret (v := .tuple #[.agg #[.int .i64 n, .slice a8 ([shownV ps q]).length c8], .int .i64 0]) (results_row_tmp (p := 4) (u := 5) (ty := 66) rfl _ _ (w.heap.size + 1) 66 _ (0, 0) _ rfl HROWF.out Tryd.underlying66 rfl hsz.out) rfl ?_
          unfold RetPv
          rw [hpr.out, hc.out]
          exact ⟨a8, c8, rfl, H9.out, HLV.out⟩
      · obtain rfl : B = 0 := by omega
        have i0 : ¬ (0 : Int) < ((0 : Nat) : Int) := by omega
        by_cases h1 : 0 < n
        · have i1 : ((0 : Nat) : Int) < (n : Int) := by omega
          have i2 : (0 : Int) < (n : Int) := by omega
          have hpr : Hid (proveP ps key = ⟨n, [shownV ps 0]⟩) := by
            show _ = _
            obtain ⟨h1', h2'⟩ := HPV.out
            rw [if_pos h1] at h2'
            rw [hpv.out]
            cases hq : proveV ps key with
            | mk n' l' =>
              rw [hq] at h1' h2'
              simp only [Bool.not_false, Bool.true_and, decide_eq_false h0, Bool.false_eq_true, if_false, List.nil_append] at h1' h2'
              rw [h1', h2']
          have H1N := Lib.hid h1
          clear h1 h0
          have c5 := HC5.out
          go_wp2_with (fail)
          clear c5
          refine (SH1.out 0 H1N.out).mono ?_
          rintro e w6 ⟨rfl, v6, hr6, ho6, hf6⟩
          have ho6' : OwnL w.heap.size 0 w6 v6 [shownV ps (0)] := ho6
          obtain ⟨a8, c8, e8, _⟩ := ho6'.lvs
          have HB6 := Lib.hid (Fr2.below HBW.out hf6 HRX.out.2 HBP.out.1 (fun g h => by cases h))
          have HX6 : Hid (w6.heap[w.heap.size + 1]? = some (.cells #[.int .i64 0, .slice none 0 0] 66 (0, 0))) := (hf6.block _ (blk_lt HROW5.out) HRX.out.1 (by simp)).trans HROW5.out
          have HC6 : Hid (w6.cell? ⟨w.heap.size, 0, none⟩ = some (.slice a n c)) := grown_cell hf6.grown HC5.out (fun e => by have := Option.some.inj e; have := HBP.out.1; have := HPX.out; omega)
          subst e8
          have HO6 := Lib.hid ho6'
          have HR6 := Lib.hid hr6
          have HF6 := Lib.hid hf6
          clear ho6 ho6' hr6 hf6
          have hsz : Hid ((Tryd.prog.info? 66).map (·.size) = some (#[Value.int .i64 n, .slice a8 ([shownV ps 0]).length c8] : Array Value).size) := size66' _ _ _ _
          have hone : Hid ((#[Value.int .i64 n, .slice a8 ([shownV ps 0]).length c8] : Array Value).all (·.oneCell') = true) := by show _ = true; simp [Value.oneCell']
          obtain ⟨a9, c9, e9, h9, hrow, hlv⟩ := prove_end (N := n) HB6.out (show w.heap.size ≤ w.heap.size + 1 by omega) ⟨_, HX6.out⟩ HO6.out
          cases e9
          have H9 := Lib.hid h9
          have HROWF := Lib.hid hrow
          have HLV := Lib.hid hlv
          clear h9 hrow hlv
          go_wp2_with (first
            | (refine wpList_load_row rfl 66 (.tmp 6) rfl pp rfl 66 _ (0, 0) _ HR6.out Tryd.underlying66 rfl hsz.out ?_)
            | (refine wpList_store_row rfl 66 (.tmp 4) (.tmp 49) rfl (w.heap.size + 1) _ rfl rfl 66 _ HX6.out hsz.out rfl hone.out ?_))
          refine bodyPost_ret (v := .tuple #[.agg #[.int .i64 n, .slice a8 ([shownV ps 0]).length c8], .int .i64 0]) (results_row_tmp (p := 4) (u := 5) (ty := 66) rfl _ _ (w.heap.size + 1) 66 _ (0, 0) _ rfl HROWF.out Tryd.underlying66 rfl hsz.out) rfl ?_
          unfold RetPv
          rw [hpr.out, hc.out]
          exact ⟨a8, c8, rfl, H9.out, HLV.out⟩
        · obtain rfl : n = 0 := by omega
          have hpr : Hid (proveP ps key = ⟨((0 : Nat) : Int), []⟩) := by
            show _ = _
            obtain ⟨h1', h2'⟩ := HPV.out
            rw [if_neg h1] at h2'
            rw [hpv.out]
            cases hq : proveV ps key with
            | mk n' l' =>
              rw [hq] at h1' h2'
              simp only [Bool.not_false, Bool.true_and, decide_eq_false h0, Bool.false_eq_true, if_false, List.append_nil] at h1' h2'
              rw [h1', h2']
          have HO5 : Hid (OwnL w.heap.size 0 w5 (.slice none 0 0) []) := OwnL.nil _ _ _
          have HX5 := HROW5
          clear h1 h0
          have c5 := HC5.out
          have hsz : Hid ((Tryd.prog.info? 66).map (·.size) = some (#[Value.int .i64 ((0 : Nat) : Int), .slice none ([] : List LeafV).length 0] : Array Value).size) := size66' _ _ _ _
          have hone : Hid ((#[Value.int .i64 ((0 : Nat) : Int), .slice none ([] : List LeafV).length 0] : Array Value).all (·.oneCell') = true) := by show _ = true; simp [Value.oneCell']
          obtain ⟨a9, c9, e9, h9, hrow, hlv⟩ := prove_end (N := ((0 : Nat) : Int)) HBW.out (show w.heap.size ≤ w.heap.size + 1 by omega) ⟨_, HX5.out⟩ HO5.out
          cases e9
          have H9 := Lib.hid h9
          have HROWF := Lib.hid hrow
          have HLV := Lib.hid hlv
          clear h9 hrow hlv
          go_wp2_with (first
            | (refine wpList_load_row rfl 66 (.tmp 6) rfl pp rfl 66 _ (0, 0) _ HR5.out Tryd.underlying66 rfl hsz.out ?_)
            | (refine wpList_store_row rfl 66 (.tmp 4) (.tmp 49) rfl (w.heap.size + 1) _ rfl rfl 66 _ HX5.out hsz.out rfl hone.out ?_))
          refine bodyPost_ret (v := .tuple #[.agg #[.int .i64 ((0 : Nat) : Int), .slice none ([] : List LeafV).length 0], .int .i64 0]) (results_row_tmp (p := 4) (u := 5) (ty := 66) rfl _ _ (w.heap.size + 1) 66 _ (0, 0) _ rfl HROWF.out Tryd.underlying66 rfl hsz.out) rfl ?_
          unfold RetPv
          rw [hpr.out, hc.out]
          exact ⟨none, 0, rfl, H9.out, HLV.out⟩
  · have hc : Hid (proveC ps key = 60) := by show _ = _; unfold proveC; rw [if_neg hok]
    have hpv : Hid (proveP ps key = ⟨0, []⟩) := by show _ = _; unfold proveP; rw [if_neg hok]
    by_cases ho : ordered ps = true
    · have hg : goodK key = false := by
        cases h : goodK key with
        | false => rfl
        | true => exact absurd (by rw [ho, h]; rfl) hok
      have HO := Lib.hid ho
      have HG := Lib.hid hg
      clear hok ho hg
      go_enter Tryd.func53, Tryd.ntmps53
      go_wp2_with (fail)
      generalize (w.alloc (.cells #[.slice a n c] 42)).alloc (.cells #[.int .i64 0, .slice none 0 0] 66) = w0 at HB0 HC HROW HP HK0 ⊢
      refine (ordered_any a n c ps w0 HP.out).mono ?_
      rintro e w1 ⟨rfl, hb1⟩
      rw [HO.out]
      have HB1 := Lib.hid hb1
      have HX1 : Hid (w1.heap[w.heap.size + 1]? = some (.cells #[.int .i64 0, .slice none 0 0] 66 (0, 0))) := (hb1.block _ (blk_lt HROW.out)).trans HROW.out
      have HBW := Lib.hid (below_then HB0.out HB0.out.size hb1)
      clear hb1
      go_wp2_with (fail)
      refine (good_any key w1).mono ?_
      rintro e w2 ⟨rfl, rfl⟩
      rw [HG.out]
      have hsz : Hid ((Tryd.prog.info? 66).map (·.size) = some (#[Value.int .i64 0, .slice none 0 0] : Array Value).size) := size66' _ _ _ _
      have hone : Hid ((#[Value.int .i64 0, .slice none 0 0] : Array Value).all (·.oneCell') = true) := by show _ = true; simp [Value.oneCell']
      have hrow := setRow_heap _ (w.heap.size + 1) _ (#[Value.int .i64 0, .slice none 0 0] : Array Value) 66 (0, 0) HX1.out
      have HR := Lib.hid hrow
      clear hrow
      go_wp2_with (refine wpList_store_row rfl 66 (.tmp 4) (.tmp 19) rfl (w.heap.size + 1) _ rfl rfl 66 _ HX1.out hsz.out rfl hone.out ?_)
      refine bodyPost_ret (v := .tuple #[.agg #[.int .i64 0, .slice none 0 0], .int .i64 60]) (results_row_tmp (p := 4) (u := 5) (ty := 66) rfl _ _ (w.heap.size + 1) 66 _ (0, 0) _ rfl HR.out Tryd.underlying66 rfl hsz.out) rfl ?_
      unfold RetPv
      rw [hpv.out, hc.out]
      exact ⟨none, 0, rfl, below_setRow HBW.out (by omega) _, Lvs.nil _ _⟩
    · have ho1 : ordered ps = false := by simpa using ho
      have HO := Lib.hid ho1
      clear hok ho ho1
      go_enter Tryd.func53, Tryd.ntmps53
      go_wp2_with (fail)
      generalize (w.alloc (.cells #[.slice a n c] 42)).alloc (.cells #[.int .i64 0, .slice none 0 0] 66) = w0 at HB0 HC HROW HP HK0 ⊢
      refine (ordered_any a n c ps w0 HP.out).mono ?_
      rintro e w1 ⟨rfl, hb1⟩
      rw [HO.out]
      have HB1 := Lib.hid hb1
      have HX1 : Hid (w1.heap[w.heap.size + 1]? = some (.cells #[.int .i64 0, .slice none 0 0] 66 (0, 0))) := (hb1.block _ (blk_lt HROW.out)).trans HROW.out
      have HBW := Lib.hid (below_then HB0.out HB0.out.size hb1)
      clear hb1
      have hsz : Hid ((Tryd.prog.info? 66).map (·.size) = some (#[Value.int .i64 0, .slice none 0 0] : Array Value).size) := size66' _ _ _ _
      have hone : Hid ((#[Value.int .i64 0, .slice none 0 0] : Array Value).all (·.oneCell') = true) := by show _ = true; simp [Value.oneCell']
      have hrow := setRow_heap _ (w.heap.size + 1) _ (#[Value.int .i64 0, .slice none 0 0] : Array Value) 66 (0, 0) HX1.out
      have HR := Lib.hid hrow
      clear hrow
      go_wp2_with (refine wpList_store_row rfl 66 (.tmp 4) (.tmp 19) rfl (w.heap.size + 1) _ rfl rfl 66 _ HX1.out hsz.out rfl hone.out ?_)
      refine bodyPost_ret (v := .tuple #[.agg #[.int .i64 0, .slice none 0 0], .int .i64 60]) (results_row_tmp (p := 4) (u := 5) (ty := 66) rfl _ _ (w.heap.size + 1) 66 _ (0, 0) _ rfl HR.out Tryd.underlying66 rfl hsz.out) rfl ?_
      unfold RetPv
      rw [hpv.out, hc.out]
      exact ⟨none, 0, rfl, below_setRow HBW.out (by omega) _, Lvs.nil _ _⟩
end Go.Proofs.YteceagldjnfeeaaDoor

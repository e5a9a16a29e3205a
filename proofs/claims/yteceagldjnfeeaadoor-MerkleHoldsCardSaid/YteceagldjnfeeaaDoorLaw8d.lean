/- The walk of isthmuslaw08.MerkleHolds. -/
import Derived.Test.YteceagldjnfeeaaDoorMk12
import Derived.Test.YteceagldjnfeeaaDoorMprove
import Derived.Test.YteceagldjnfeeaaDoorOpen8
import Derived.Test.YteceagldjnfeeaaDoorMkLaw
namespace Go.Proofs.YteceagldjnfeeaaDoor
open Go.RowKit
set_option linter.unusedVariables false
set_option linter.unusedSimpArgs false

theorem later_b8 {w W : World} {b : Nat} {o : Obj} (h : w.heap[b]? = some o) (hb : Below w.heap.size w W) : W.heap[b]? = some o := (hb.block _ (blk_lt h)).trans h
theorem Hs.mono {w : World} {D D' : Nat} {a : Option Addr} {n c : Nat} {ls : List (List UInt8)} (h : Hs w D a n c ls) (hD : D ≤ D') : Hs w D' a n c ls := by
  obtain ⟨vs, h1, h2⟩ := h
  exact ⟨vs, h1, h2.mono hD⟩
theorem Lvs.mono {w : World} {D D' : Nat} {a : Option Addr} {n c : Nat} {ls : List LeafV} (h : Lvs w D a n c ls) (hD : D ≤ D') : Lvs w D' a n c ls :=
  ⟨h.len, h.cap, h.big, fun j hj => by
    obtain ⟨b, o, av, nv, cv, ap, np, cp, e, h1, h2, h3, h4, h5, h6⟩ := h.cells j hj
    exact ⟨b, o, av, nv, cv, ap, np, cp, e, h1, h2, h3, h4, h5.mono hD, h6.mono hD⟩⟩

set_option maxRecDepth 100000 in
set_option maxHeartbeats 16000000 in
theorem merkleHolds_walk {C : Nat} (a : Option Addr) (n c : Nat) (ps : List KV) (key : List UInt8) (w : World) (hp : Prs w C a n c ps) (hK : KAt w) :
    Calls Tryd.prog 18 #[.slice a n c, str key] w fun e w' => e = .returned (.bool true) ∧ Below w.heap.size w w' := by
  have HP := Lib.hid hp
  have HK := Lib.hid hK
  have HLN := Lib.hid hp.len
  have hn63 : n ≤ 9223372036854775807 := by have := hp.cap; have := hp.big; unfold maxLen at this; omega
  clear hp hK
  go_enter Tryd.func18, Tryd.ntmps18
  go_wp2_with (fail)
  refine (fixed8_any w HK.out).mono ?_
  rintro e w1 ⟨rfl, hb1⟩
  have HB1 := Lib.hid hb1
  clear hb1
  go_wp2_with (fail)
  refine (root_any 0 a n c ps w1 (HP.out.below HB1.out) (HK.out.below HK.out.pos HB1.out)).mono ?_
  rintro e w2 ⟨ar, nr, cr, rfl, hb2, hr2⟩
  have HB2 := Lib.hid (below_then HB1.out HB1.out.size hb2)
  have HR2 := Lib.hid hr2
  clear hb2 hr2
  go_wp2_with (fail)
  refine (mprove_any a n c ps key w2 (HP.out.below HB2.out) (HK.out.below HK.out.pos HB2.out)).mono ?_
  rintro e w3 ⟨al, cl, rfl, hb3, hl3⟩
  have hrb := (row_below w3 (.cells #[.int .i64 (proveP ps key).n, .slice al (proveP ps key).leaves.length cl] 66)).out
  have hb34 := below_then hb3 hb3.size hrb
  have HB4 := Lib.hid (below_then HB2.out HB2.out.size hb34)
  have HL4 := Lib.hid (hl3.below hrb)
  have HR4 := Lib.hid (HR2.out.below hb34)
  have HX4 : Hid ((w3.alloc (.cells #[.int .i64 (proveP ps key).n, .slice al (proveP ps key).leaves.length cl] 66)).heap[w3.heap.size]? = some (.cells #[.int .i64 (proveP ps key).n, .slice al (proveP ps key).leaves.length cl] 66 (0, 0))) := heap_alloc_new w3 _
  clear hb3 hl3 hrb hb34 HR2
  by_cases ho : ordered ps = true
  · have hrc : rootC ps = 0 := by unfold rootC; rw [if_pos ho]
    have hrB : Hid (rootB ps = rootH ps) := by show _ = _; unfold rootB; rw [if_pos ho]
    rw [hrc]
    by_cases hg : goodK key = true
    · have hpc : proveC ps key = 0 := by unfold proveC; rw [if_pos (by rw [ho, hg]; rfl)]
      have hpp : proveP ps key = proveV ps key := by unfold proveP; rw [if_pos (by rw [ho, hg]; rfl)]
      rw [hpc]
      rw [hpp] at HB4 HL4 HX4 HR4 ⊢
      have HSH : Hid (∀ i, i < n → keyAt ps i = key → verifyV (rootH ps) key (valAt ps i) (proveV ps key) = true ∧ absentV (rootH ps) key (proveV ps key) = false) := fun i hi he => by
        have h := there_shown ho i (by rw [HLN.out]; exact hi)
        rw [he] at h
        exact h
      have HAB : Hid ((∀ i, i < n → keyAt ps i ≠ key) → absentV (rootH ps) key (proveV ps key) = true ∧ verifyV (rootH ps) key [] (proveV ps key) = false ∧ (proveV ps key).leaves.length ≤ 2) := fun h =>
        absent_shown ho key hg (fun i hi => h i (by rw [← HLN.out]; exact hi)) []
      clear hpc hpp hg ho hrc
      generalize proveV ps key = P at HB4 HL4 HX4 HR4 HSH HAB ⊢
      rw [hrB.out] at HR4
      clear hrB
      go_wp2_with (fail)
      generalize w3.alloc (.cells #[.int .i64 P.n, .slice al P.leaves.length cl] 66) = w4 at HB4 HL4 HX4 HR4 ⊢
      generalize w3.heap.size = x at HX4 ⊢
      have HK4 := Lib.hid (HK.out.below HK.out.pos HB4.out)
      go_loopw [49] (fun z wr => ∃ j : Nat, j ≤ n ∧ z = .int .i64 j ∧ Hid (Below w4.heap.size w4 wr) ∧ Hid (∀ i, i < j → keyAt ps i ≠ key)) (fun z _ => n - (intOf z).toNat)
      case atStart => exact ⟨0, by omega, rfl, Below.refl _ _, fun i hi => by omega⟩
      case round =>
        obtain ⟨j, hj, rfl, HB, HNO⟩ := hrel
        have HBW := Lib.hid (below_then HB4.out HB4.out.size HB.out)
        have hx := later_b8 HX4.out HB.out
        have x0 : wr.cell? ⟨x, 0, none⟩ = some (.int .i64 P.n) := by rw [cell_of_row _ _ _ _ _ _ hx]; rfl
        have x1 : wr.cell? ⟨x, 1, none⟩ = some (.slice al P.leaves.length cl) := by rw [cell_of_row _ _ _ _ _ _ hx]; rfl
        clear hx
        by_cases hlt : j < n
        · obtain ⟨b, o, va, hab, g1, g2, hva⟩ := (HP.out.below HBW.out).cells j hlt
          subst hab
          obtain ⟨a2, n2, c2, hva2, _⟩ := id hva
          subst hva2
          have j0 : (0 : Int) ≤ (j : Int) := by omega
          have j1 : (j : Int) < (n : Int) := by omega
          have hrb := (row_below wr (.cells #[str (keyAt ps j), .slice a2 n2 c2] 45)).out
          have e0 : (wr.alloc (.cells #[str (keyAt ps j), .slice a2 n2 c2] 45)).heap[wr.heap.size]? = some (.cells #[str (keyAt ps j), .slice a2 n2 c2] 45 (0, 0)) := heap_alloc_new wr _
          have z0 : (wr.alloc (.cells #[str (keyAt ps j), .slice a2 n2 c2] 45)).cell? ⟨wr.heap.size, 0, none⟩ = some (str (keyAt ps j)) := by rw [cell_of_row _ _ _ _ _ _ e0]; rfl
          have z1 : (wr.alloc (.cells #[str (keyAt ps j), .slice a2 n2 c2] 45)).cell? ⟨wr.heap.size, 1, none⟩ = some (.slice a2 n2 c2) := by rw [cell_of_row _ _ _ _ _ _ e0]; rfl
          have x0' := below_cell hrb x0
          have x1' := below_cell hrb x1
          have HBa := Lib.hid (below_then HB.out HB.out.size hrb)
          have HV := Lib.hid (hva.below hrb)
          have HKJ : Hid (∀ kk, keyAt ps j = kk → (kk == key) = true → verifyV (rootH ps) key (valAt ps j) P = true ∧ absentV (rootH ps) key P = false) := fun kk h1 h2 => HSH.out j hlt (by rw [h1]; exact beq_iff_eq.1 h2)
          have HKN : Hid (∀ kk, keyAt ps j = kk → (kk == key) = false → ∀ i, i < j + 1 → keyAt ps i ≠ key) := fun kk h1 h2 i hi => by
            by_cases e : i = j
            · subst e; rw [h1]; exact beq_eq_false_iff_ne.1 h2
            · exact HNO.out i (by omega)
          clear hrb e0 hva
          generalize hkk : keyAt ps j = kk at g1 HBa z0 z1 x0' x1' HV ⊢
          have HKK := Lib.hid hkk
          clear hkk
          rcases hq : (kk == key) with _ | _
          · have HNO2 := Lib.hid (HKN.out kk HKK.out hq)
            go_wp2_with (fail)
            exact ⟨⟨j + 1, by omega, by go_num, HBa, HNO2⟩, by simp [intOf]; omega⟩
          · obtain ⟨v1, v2⟩ := HKJ.out kk HKK.out hq
            have HV1 := Lib.hid v1
            have HV2 := Lib.hid v2
            clear v1 v2
            go_wp2_with (fail)
            generalize wr.alloc (.cells #[str kk, .slice a2 n2 c2] 45) = w5 at HBa z0 z1 x0' x1' HV ⊢
            refine (verify_any' (D := C) ar a2 al nr cr n2 c2 P.leaves.length cl (rootH ps) key (valAt ps j) P w5 ((HR4.out.below HBa.out).mono (Nat.zero_le _)) HV.out ((HL4.out.below HBa.out).mono (Nat.zero_le _)) (HK4.out.below HK4.out.pos HBa.out)).mono ?_
            rintro e w6 ⟨rfl, hb6⟩
            rw [HV1.out]
            have HB6 := Lib.hid (below_then HBa.out HBa.out.size hb6)
            have x06 := below_cell hb6 x0'
            have x16 := below_cell hb6 x1'
            clear hb6 z0 z1 x0' x1'
            go_wp2_with (fail)
            clear x06 x16
            refine (absent_any (D := 0) ar al nr cr P.leaves.length cl (rootH ps) key P w6 (HR4.out.below HB6.out) (HL4.out.below HB6.out) (HK4.out.below HK4.out.pos HB6.out)).mono ?_
            rintro e w7 ⟨rfl, hb7⟩
            rw [HV2.out]
            have HB7 := Lib.hid (below_then HB6.out HB6.out.size hb7)
            clear hb7
            go_wp2_with (fail)
            go_ret
            exact ⟨rfl, below_then HB4.out HB4.out.size HB7.out⟩
        · obtain rfl : j = n := by omega
          have i5 : ¬ ((j : Int) < (j : Int)) := by omega
          obtain ⟨v1, v2, v3⟩ := HAB.out HNO.out
          have HV1 := Lib.hid v1
          have HV2 := Lib.hid v2
          have v3' : (P.leaves.length : Int) ≤ 2 := by omega
          clear v1 v2 v3
          go_wp2_with (fail)
          refine (absent_any (D := 0) ar al nr cr P.leaves.length cl (rootH ps) key P wr (HR4.out.below HB.out) (HL4.out.below HB.out) (HK4.out.below HK4.out.pos HB.out)).mono ?_
          rintro e w6 ⟨rfl, hb6⟩
          rw [HV1.out]
          have HB6 := Lib.hid (below_then HB.out HB.out.size hb6)
          have x06 := below_cell hb6 x0
          have x16 := below_cell hb6 x1
          clear hb6 x0 x1
          go_wp2_with (fail)
          refine (verify_any' (D := 0) ar none al nr cr 0 0 P.leaves.length cl (rootH ps) key [] P w6 (HR4.out.below HB6.out) (Pt.zero w6 0) (HL4.out.below HB6.out) (HK4.out.below HK4.out.pos HB6.out)).mono ?_
          rintro e w7 ⟨rfl, hb7⟩
          rw [HV2.out]
          have HB7 := Lib.hid (below_then HB6.out HB6.out.size hb7)
          have x07 := below_cell hb7 x06
          have x17 := below_cell hb7 x16
          clear hb7 x06 x16
          go_wp2_with (fail)
          go_ret
          exact ⟨rfl, below_then HB4.out HB4.out.size HB7.out⟩
    · have hg1 : goodK key = false := by simpa using hg
      have hpc : proveC ps key = 60 := by unfold proveC; rw [if_neg (by rw [hg1]; simp)]
      rw [hpc]
      have hkk : Hid (key = [] ∨ 200 < key.length) := by
        unfold goodK at hg1
        rw [Bool.and_eq_false_iff] at hg1
        rcases hg1 with h | h
        · left; simpa using h
        · right; simpa using h
      clear hg hg1 hpc hrc ho
      rcases hkk.out with h | h
      · subst h
        go_wp2_with (fail)
        go_ret
        exact ⟨rfl, HB4.out⟩
      · have h1 : ¬ key = [] := by rintro rfl; simp at h
        have h2 : (200 : Int) < (key.length : Int) := by omega
        go_wp2_with (fail)
        go_ret
        exact ⟨rfl, HB4.out⟩
  · have ho1 : ordered ps = false := by simpa using ho
    have hrc : rootC ps = 60 := by unfold rootC; rw [if_neg ho]
    have hpc : proveC ps key = 60 := by unfold proveC; rw [if_neg (by rw [ho1]; simp)]
    have hrB : rootB ps = [] := by unfold rootB; rw [if_neg ho]
    have hl := HR4.out.bs.blen
    rw [hrB] at hl
    have hnr : nr = 0 := by simpa using hl.symm
    subst hnr
    rw [hrc, hpc]
    clear hrc hpc hrB hl ho ho1
    go_wp2_with (fail)
    go_ret
    exact ⟨rfl, HB4.out⟩
theorem merkleHolds_walk' {C : Nat} (a : Option Addr) (n c : Nat) (ps : List KV) (s : ByteArray) (w : World) (hp : Prs w C a n c ps) (hK : KAt w) :
    Calls Tryd.prog 18 #[.slice a n c, .string s] w fun e w' => e = .returned (.bool true) ∧ Below w.heap.size w w' := by
  rw [← str_of s]
  exact merkleHolds_walk a n c ps _ w hp hK
end Go.Proofs.YteceagldjnfeeaaDoor

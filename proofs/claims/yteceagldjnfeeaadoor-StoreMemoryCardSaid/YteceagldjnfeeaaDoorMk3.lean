/- The walk of isthmusref08.right. -/
import Derived.Test.YteceagldjnfeeaaDoorMk2
import Derived.Deep.QuietTactic
import Derived.BigQuiet
import Derived.IntWalk
namespace Go.Proofs.YteceagldjnfeeaaDoor
open Go.RowKit
set_option linter.unusedVariables false
set_option linter.unusedSimpArgs false

theorem ble_not (a b : List UInt8) : (!(Op.bytesLess a b)) = !(blt a b) := rfl

set_option maxRecDepth 100000 in
set_option maxHeartbeats 4000000 in
theorem right_any {C : Nat} (a : Option Addr) (n c : Nat) (ps : List KV) (w : World) (hp : Prs w C a n c ps) :
    Calls Tryd.prog 90 #[.slice a n c] w fun e w' => e = .returned (.bool (ordered ps)) ∧ Below w.heap.size w w' := by
  have hn63 : n ≤ 9223372036854775807 := by have := hp.cap; have := hp.big; unfold maxLen at this; omega
  have HP := Lib.hid hp
  have HL := Lib.hid hp.len
  have hord : Hid (ordered ps = (okTo ps n && decide (n ≤ 65536))) := by
    show _ = _
    unfold ordered
    rw [HL.out]
  have hfa : Hid (∀ k, k < n → okAt ps k = false → ordered ps = false) := fun k hk h => by rw [hord.out, okTo_false hk h]; rfl
  clear hp
  by_cases hbig : n ≤ 65536
  · have hb0 : ¬ (65536 : Int) < (n : Int) := by omega
    have hb1 : (n : Int) ≤ 65536 := by omega
    have HBIG := Lib.hid hbig
    clear hbig
    go_enter Tryd.func90, Tryd.ntmps90
    go_wp2_with (fail)
    go_loopw [10] (fun i wr => ∃ k : Nat, k ≤ n ∧ i = .int .i64 k ∧ Hid (okTo ps k = true) ∧ Hid (Below w.heap.size w wr)) (fun i _ => n - (intOf i).toNat)
    case atStart => exact ⟨0, by omega, rfl, rfl, Below.refl _ _⟩
    case round =>
      obtain ⟨k, hk, rfl, hok, HB⟩ := hrel
      by_cases hlt : k < n
      · obtain ⟨b, o, va, hab, g1, g2, hv⟩ := (HP.out.below HB.out).cells k hlt
        subst hab
        obtain ⟨a2, n2, c2, hva, hbs, hfr⟩ := hv
        subst hva
        have hvl := hbs.blen
        have i0 : (0 : Int) ≤ (k : Int) := by omega
        have i1 : (k : Int) < (n : Int) := by omega
        have HBa := Lib.hid (below_then HB.out HB.out.size (row_below wr (.cells #[str (keyAt ps k), .slice a2 n2 c2] 45)).out)
        have e0 : (wr.alloc (.cells #[str (keyAt ps k), .slice a2 n2 c2] 45)).heap[wr.heap.size]? = some (.cells #[str (keyAt ps k), .slice a2 n2 c2] 45 (0, 0)) := heap_alloc_new wr _
        have z0 : (wr.alloc (.cells #[str (keyAt ps k), .slice a2 n2 c2] 45)).cell? ⟨wr.heap.size, 0, none⟩ = some (str (keyAt ps k)) := by rw [cell_of_row _ _ _ _ _ _ e0]; rfl
        have z1 : (wr.alloc (.cells #[str (keyAt ps k), .slice a2 n2 c2] 45)).cell? ⟨wr.heap.size, 1, none⟩ = some (.slice a2 n2 c2) := by rw [cell_of_row _ _ _ _ _ _ e0]; rfl
        have hprev : Hid (∀ j, k = j + 1 → (wr.alloc (.cells #[str (keyAt ps k), .slice a2 n2 c2] 45)).cell? ⟨b, o + j * 2, none⟩ = some (str (keyAt ps j))) := fun j hj => by
          obtain ⟨b', o', va', hab', g1', _, _⟩ := (HP.out.below HB.out).cells j (by omega)
          cases hab'
          exact below_cell (row_below wr _).out g1'
        have HLT := Lib.hid (blk_lt e0)
        have hla := Lib.hid (okAt_last ps k)
        have hsu := Lib.hid (okTo_succ ps k)
        have hff := Lib.hid (hfa.out k hlt)
        have HVL := Lib.hid hvl
        clear hbs hfr e0 hvl
        generalize hkk : keyAt ps k = kk at *
        have HKK := Lib.hid hkk
        clear hkk
        go_wp2_with (fail)
        generalize wr.alloc (.cells #[str kk, .slice a2 n2 c2] 45) = w0 at HBa z0 z1 hprev HLT ⊢
        clear g1 g2
        by_cases hg : goodK kk = true
        · have HG := Lib.hid hg
          clear hg
          by_cases hvl2 : n2 ≤ 65535
          · have d1 : decide ((65535 : Int) < (n2 : Int)) = false := decide_eq_false (by omega)
            have hvd : Hid (decide ((valAt ps k).length ≤ 65535) = true) := decide_eq_true (by rw [HVL.out]; exact hvl2)
            clear hvl2
            by_cases hk0 : k = 0
            · subst hk0
              have hok2 : Hid (okTo ps (0 + 1) = true) := by
                show _ = _
                rw [hsu.out, hok.out]
                unfold okAt
                rw [HKK.out, HG.out, hvd.out]; rfl
              go_quiet ((go_at_call 99; exact Calls.quiet_of_same ((rkey_any kk _).mono (by rintro e w' ⟨rfl, rfl⟩; rw [HG.out]; exact ⟨rfl, rfl⟩))))
              have HB2 := Lib.hid (below_then HBa.out HBa.out.size (drewN_below w0 nq))
              go_wp2_with (fail)
              exact ⟨⟨0 + 1, by omega, by go_num, hok2, HB2⟩, by simp [intOf]; omega⟩
            · obtain ⟨j, rfl⟩ : ∃ j, k = j + 1 := ⟨k - 1, by omega⟩
              have hz := hprev.out j rfl
              have d2 : decide ((0 : Int) < ((j + 1 : Nat) : Int)) = true := decide_eq_true (by omega)
              have j1 : IntKind.i64.wrap (((j + 1 : Nat) : Int) - 1) = (j : Int) := by rw [IntWalk.i64_in _ (by omega)]; omega
              have j2 : (0 : Int) ≤ (j : Int) := by omega
              have j3 : (j : Int) < (n : Int) := by omega
              have hlo : Hid (lastOf ps (j + 1) = keyAt ps j) := rfl
              have HZ := Lib.hid hz
              generalize keyAt ps j = ll at hz hlo
              clear HZ hprev
              by_cases hb : blt ll kk = true
              · have x1 : Op.bytesLess ll kk = true := hb
                have hok2 : Hid (okTo ps (j + 1 + 1) = true) := by show _ = _; rw [hsu.out, hok.out, hla.out, hlo.out, HG.out, hb, hvd.out]; rfl
                clear hb
                go_quiet ((go_at_call 99; exact Calls.quiet_of_same ((rkey_any kk _).mono (by rintro e w' ⟨rfl, rfl⟩; rw [HG.out]; exact ⟨rfl, rfl⟩))))
                have HB2 := Lib.hid (below_then HBa.out HBa.out.size (drewN_below w0 nq))
                clear j1
                go_wp2_with (fail)
                exact ⟨⟨j + 1 + 1, by omega, by go_num, hok2, HB2⟩, by simp [intOf]; omega⟩
              · have hb1 : blt ll kk = false := by simpa using hb
                have hr : Hid (ordered ps = false) := hff.out (by rw [hla.out, hlo.out, hb1, Bool.and_false, Bool.false_and])
                clear hb
                have x4 : Op.bytesLess ll kk = false := hb1
                clear hb1
                go_quiet ((go_at_call 99; exact Calls.quiet_of_same ((rkey_any kk _).mono (by rintro e w' ⟨rfl, rfl⟩; rw [HG.out]; exact ⟨rfl, rfl⟩))))
                have HB2 := Lib.hid (below_then HBa.out HBa.out.size (drewN_below w0 nq))
                clear j1
                go_wp2_with (fail)
                go_ret
                exact ⟨by rw [hr.out]; rfl, HB2.out⟩
          · have d1 : decide ((65535 : Int) < (n2 : Int)) = true := decide_eq_true (by omega)
            have hvd : Hid (decide ((valAt ps k).length ≤ 65535) = false) := decide_eq_false (by rw [HVL.out]; exact hvl2)
            have hr : Hid (ordered ps = false) := hff.out (by rw [hla.out, hvd.out, Bool.and_false])
            clear hvl2 hprev
            go_quiet ((go_at_call 99; exact Calls.quiet_of_same ((rkey_any kk _).mono (by rintro e w' ⟨rfl, rfl⟩; rw [HG.out]; exact ⟨rfl, rfl⟩))))
            have HB2 := Lib.hid (below_then HBa.out HBa.out.size (drewN_below w0 nq))
            go_wp2_with (fail)
            go_ret
            exact ⟨by rw [hr.out]; rfl, HB2.out⟩
        · have hg1 : goodK kk = false := by simpa using hg
          have hr : Hid (ordered ps = false) := hff.out (by rw [hla.out, hg1]; rfl)
          have HG := Lib.hid hg1
          clear hg hg1 hprev
          go_quiet ((go_at_call 99; exact Calls.quiet_of_same ((rkey_any kk _).mono (by rintro e w' ⟨rfl, rfl⟩; rw [HG.out]; exact ⟨rfl, rfl⟩))))
          have HB2 := Lib.hid (below_then HBa.out HBa.out.size (drewN_below w0 nq))
          go_wp2_with (fail)
          go_ret
          exact ⟨by rw [hr.out]; rfl, HB2.out⟩
      · obtain rfl : k = n := by omega
        have i5 : ¬ ((k : Int) < (k : Int)) := by omega
        have hr : Hid (ordered ps = true) := by show _ = _; rw [hord.out, hok.out, decide_eq_true HBIG.out]; rfl
        go_wp2_with (fail)
        go_ret
        exact ⟨by rw [hr.out]; rfl, HB.out⟩
  · have hb0 : (65536 : Int) < (n : Int) := by omega
    have hr : Hid (ordered ps = false) := by show _ = _; rw [hord.out, decide_eq_false hbig, Bool.and_false]
    clear hbig
    go_enter Tryd.func90, Tryd.ntmps90
    go_wp2_with (fail)
    go_ret
    exact ⟨by rw [hr.out]; rfl, Below.refl _ _⟩
end Go.Proofs.YteceagldjnfeeaaDoor

/- The contract of the reference's padding. -/
import Derived.Test.YteceagldjnfeeaaDoorSum
import Derived.Deep.OwnRows
namespace Go.Proofs.YteceagldjnfeeaaDoor
open Go.RowKit
set_option linter.unusedVariables false
set_option linter.unusedSimpArgs false

/-- The message while it is padded: k bytes of its length are in. -/
def stepsP (l : List UInt8) (N : Nat) : Nat → List UInt8
  | 0 => (l ++ zeros (N - l.length)).set l.length 128
  | k + 1 => (stepsP l N k).set (N - 1 - k) (UInt8.ofNat (l.length * 8 / 2 ^ (8 * k)))
theorem stepsP_length (l : List UInt8) (N : Nat) (h : l.length ≤ N) (k : Nat) : (stepsP l N k).length = N := by
  induction k with
  | zero => simp [stepsP, zeros_length]; omega
  | succ k ih => simp [stepsP, ih]
theorem stepsP_eight (l : List UInt8) : stepsP l (padLen l.length) 8 = padded l := by
  have h9 := padLen_ge l.length
  have e0 : stepsP l (padLen l.length) 0 = (l ++ 128 :: zeros (padLen l.length - l.length - 9)) ++ [0, 0, 0, 0, 0, 0, 0, 0] := by
    have : zeros (padLen l.length - l.length) = 0 :: (zeros (padLen l.length - l.length - 9) ++ [0, 0, 0, 0, 0, 0, 0, 0]) := by
      have e8 : ([0, 0, 0, 0, 0, 0, 0, 0] : List UInt8) = List.replicate 8 0 := rfl
      unfold zeros
      rw [e8, List.replicate_append_replicate, ← List.replicate_succ]
      congr 1
      omega
    rw [stepsP, this]
    have := set_off l (0 :: (zeros (padLen l.length - l.length - 9) ++ [0, 0, 0, 0, 0, 0, 0, 0])) 0 128
    rw [Nat.add_zero] at this
    rw [this]
    simp
  have hl : (l ++ 128 :: zeros (padLen l.length - l.length - 9)).length = padLen l.length - 8 := by
    rw [List.length_append, List.length_cons, zeros_length]; omega
  have step : ∀ (j k : Nat) (B : List UInt8) (x : UInt8), j + k = 7 → (((l ++ 128 :: zeros (padLen l.length - l.length - 9)) ++ B).set (padLen l.length - 1 - k) x) = (l ++ 128 :: zeros (padLen l.length - l.length - 9)) ++ B.set j x := by
    intro j k B x hjk
    have := set_off (l ++ 128 :: zeros (padLen l.length - l.length - 9)) B j x
    rwa [hl, show padLen l.length - 8 + j = padLen l.length - 1 - k by omega] at this
  simp only [stepsP] at e0 ⊢
  rw [e0, step 7 0 _ _ rfl, step 6 1 _ _ rfl, step 5 2 _ _ rfl, step 4 3 _ _ rfl, step 3 4 _ _ rfl, step 2 5 _ _ rfl, step 1 6 _ _ rfl, step 0 7 _ _ rfl]
  simp [padded, bits8, zeros]

theorem LW.copiedN {w0 w2 : World} {L m N : Nat} {r : List UInt8} (hr : Hid (w2.heap[L]? = some (.cells (splice (bts (zeros N)) 0 (bts r)).toArray 5))) (hb : Below L w0 w2) (hm : r.length = m) : LW w0 w2 L (r ++ zeros (N - m)) := by
  refine ⟨hb, ?_⟩
  rw [hr.out]
  refine congrArg (fun z => some (Obj.cells (List.toArray z) 5 (0, 0))) ?_
  simp only [splice, List.take_zero, List.nil_append, Nat.zero_add, bts_append, bts_length, hm]
  rw [← bts_drop, zeros, List.drop_replicate, zeros]
theorem run_make_n (N : Nat) (hN : N ≤ 281474976710656) (w : World) : (Instr.makeSlice 22 (.int .i64 (N : Int)) (.int .i64 (N : Int))).run Tryd.prog w = .ok (.slice (some ⟨w.heap.size, 0, none⟩) N N) (w.alloc (.cells (bts (zeros N)).toArray 5)) := by
  have h := run_make_row' (P := Tryd.prog) 22 5 (.int .u8 0) 1 Tryd.underlying22 info5 rfl .i64 .i64 N (by omega) (by omega) w
  rw [h]
  have e : madeCells #[.int .u8 0] N = (bts (zeros N)).toArray := by
    apply Array.ext
    · simp [madeCells, bts, zeros]
    · intro j h1 h2
      simp [madeCells, bts, zeros, ub, Nat.mod_one]
  rw [e]

set_option maxRecDepth 100000 in
set_option maxHeartbeats 4000000 in
theorem padded_any (a : Option Addr) (n c : Nat) (l : List UInt8) (w : World) (h : Bs w a n c l) (hn : n ≤ 140737488355328) :
    Calls Tryd.prog 61 #[.slice a n c] w (RetN (padded l) (padLen n) w) := by
  have HL := Lib.hid h.blen
  have HS := Lib.hid h
  have hP1 : n + 9 ≤ padLen n := padLen_ge n
  have hP2 : padLen n ≤ n + 72 := by unfold padLen; omega
  have hP3 := padLen_mod n
  have hP4 : ∀ q, n + 9 ≤ q → q < padLen n → q % 64 ≠ 0 := by intro q h1 h2 h3; unfold padLen at h2; omega
  have HP3 := Lib.hid hP3
  have HP4 := Lib.hid hP4
  clear h hP3 hP4
  generalize hN : padLen n = N at HP3 HP4 hP1 hP2 ⊢
  have HE := Lib.hid hN
  clear hN
  go_enter Tryd.func61, Tryd.ntmps61
  go_wp2
  go_loop [3] (fun i => ∃ q : Nat, n + 9 ≤ q ∧ q ≤ N ∧ i = .int .i64 q) (fun i => N - (intOf i).toNat)
  case atStart => exact ⟨n + 9, by omega, by omega, by go_num⟩
  case round =>
    obtain ⟨q, hq1, hq2, rfl⟩ := hrel
    by_cases hlt : q < N
    · have hm : ((q : Int) % 64 != 0) = true := by
        have := HP4.out q hq1 hlt
        rw [bne_iff_ne]; omega
      go_wp2
      go_round
      case rel => exact ⟨q + 1, by omega, by omega, by go_num⟩
      case measure => simp [intOf]; omega
    · obtain rfl : N = q := by omega
      have hm : ((N : Int) % 64 != 0) = false := by
        have := HP3.out
        simp; omega
      have hmk := run_make_n N (by omega)
      have HN := Lib.hid (stepsP_length l N (by rw [HL.out]; omega))
      have HLW : Hid (LW w (w.alloc (.cells (bts (zeros N)).toArray 5)) w.heap.size (zeros N)) := ⟨(Below.refl _ _).alloc (Nat.le_refl _) _, heap_alloc_new w _⟩
      have hn0 : Hid ((bts l).length = Nat.min n N) := by
        show _ = _
        rw [bts_length, HL.out]; exact (Nat.min_eq_left (by omega)).symm
      have hfit : Hid (0 + (bts l).length ≤ (bts (zeros N)).length) := by
        show _ ≤ _
        rw [bts_length, bts_length, zeros_length, HL.out]; omega
      have hpos : Hid (0 < (bts l).length → (some (⟨w.heap.size, 0, none⟩ : Addr)) = some ⟨w.heap.size, 0, none⟩ ∧ ∃ ad, a = some ad ∧ ∀ j v, (bts l)[j]? = some v → (w.alloc (.cells (bts (zeros N)).toArray 5)).cell? (ad.add j) = some v) := by
        intro h0
        refine ⟨rfl, ?_⟩
        obtain ⟨b, o, e, _⟩ := HS.out.cells 0 ((bts l)[0]) (List.getElem?_eq_getElem h0)
        refine ⟨⟨b, o, none⟩, e, fun j v hj => ?_⟩
        obtain ⟨b', o', e', hc⟩ := (HS.out.below HLW.out.below).cells j v hj
        rw [e] at e'
        cases e'
        rw [show (⟨b, o, none⟩ : Addr).add j = ⟨b, o + j, none⟩ by unfold Addr.add; split <;> simp_all]
        exact hc
      go_wp2_with (refine wpList_copy_splice rfl (.tmp 17) (.tmp 18) 22 22 rfl 5 Tryd.underlying22 (by kernel_rfl) _ _ N N n c rfl rfl w.heap.size 0 (bts (zeros N)) 5 HLW.out.row (bts l) hn0.out hpos.out hfit.out (bts_one _) w.heap.size w HLW.out.below (Nat.le_refl _) ?_; intro w2 hr2 hb2; have HLW2 := Lib.hid (LW.copiedN hr2 hb2 HL.out); clear hr2 hb2; have cm := HLW2.out.cell n (by rw [List.length_append, zeros_length, HL.out]; omega); have fm := HLW2.out.frozen n)
      have HLW3 : Hid (LW w (w2.setCell ⟨w.heap.size, n, none⟩ (.int .u8 (ub 128))) w.heap.size (stepsP l N 0)) := by
        have := HLW2.out.set n 128
        rw [← HL.out] at this ⊢
        exact this
      clear HLW2 cm fm
      generalize hw3 : w2.setCell ⟨w.heap.size, n, none⟩ (.int .u8 (ub 128)) = w3 at HLW3
      have hw3' : w2.setCell ⟨w.heap.size, n, none⟩ (.int .u8 128) = w3 := hw3
      rw [hw3']
      clear hw3 hw3'
      go_loopw [6] (fun i wr => ∃ k : Nat, k ≤ 8 ∧ i = .int .i64 k ∧ Hid (LW w wr w.heap.size (stepsP l N k))) (fun i _ => 8 - (intOf i).toNat)
      case atStart => exact ⟨0, by omega, rfl, HLW3⟩
      case round =>
        clear HLW3
        obtain ⟨j, hj, rfl, HLW4⟩ := hrel
        by_cases hlt : j < 8
        · have j0 : (0 : Int) ≤ (j : Int) := by omega
          have j1 : (j : Int) < 8 := by omega
          have j2 : (0 : Int) ≤ (N : Int) - 1 - (j : Int) := by omega
          have cj := HLW4.out.cell (N - 1 - j) (by rw [HN.out]; omega)
          have fj := HLW4.out.frozen (N - 1 - j)
          have HLW5 : Hid (LW w (wr.setCell ⟨w.heap.size, N - 1 - j, none⟩ (.int .u8 ((n : Int) * 8 / 2 ^ (8 * j) % 256))) w.heap.size (stepsP l N (j + 1))) := by
            rw [last_val]
            have := HLW4.out.set (N - 1 - j) (UInt8.ofNat (n * 8 / 2 ^ (8 * j)))
            rw [stepsP, HL.out]
            exact this
          go_wp2
          exact ⟨⟨j + 1, by omega, by go_num, HLW5⟩, by simp [intOf]; omega⟩
        · obtain rfl : j = 8 := by omega
          have hfin : RetN (padded l) N w (.returned (.slice (some ⟨w.heap.size, 0, none⟩) N N)) wr := by
            refine ⟨w.heap.size, N, rfl, HLW4.out.below, Nat.le_refl _, ?_⟩
            have hr := HLW4.out.row
            have hp := stepsP_eight l
            rw [HL.out, HE.out] at hp
            rw [hp] at hr
            have hpl : (padded l).length = N := by rw [padded_length, HL.out, HE.out]
            exact ⟨by rw [bts_length, hpl]; omega, .inr ⟨w.heap.size, N, _, rfl, Nat.le_refl _, hr, Nat.le_refl _, by unfold maxLen; omega, by rw [List.size_toArray, bts_length, hpl]; omega, by
              rw [Nat.mul_one, ← hpl, ← bts_length]; simp⟩⟩
          go_wp2
          go_ret
          exact hfin
end Go.Proofs.YteceagldjnfeeaaDoor

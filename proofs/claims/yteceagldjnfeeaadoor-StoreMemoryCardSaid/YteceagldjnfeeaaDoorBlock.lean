/- The contract of the reference's block: the state behind 64 bytes. -/
import Derived.Test.YteceagldjnfeeaaDoorMix
namespace Go.Proofs.YteceagldjnfeeaaDoor
open Go.RowKit
set_option linter.unusedVariables false
set_option linter.unusedSimpArgs false
attribute [local go_sem] q_or q_xor q_and q_add q_wadd q_byte q_wbyte q_wshl24 q_wshl16 q_wshl8 q_shl24 q_shl16 q_shl8 q_shr3 q_shr10 q_not q_wnot q_cpl q_cpl' q_add3 q_add4 q_add5 q_add14

theorem turn_q (x : U32) (n : Nat) (w : World) (k : Nat) (hn : n ≤ 31) :
    Calls Tryd.prog 105 #[.int .u32 (uw x), .int .u64 n] (w.drewN k) fun e w'' => e = .returned (.int .u32 (uw (rotr x n))) ∧ ∃ m, w'' = w.drewN m :=
  Calls.quiet_of_same ((turn_any x n _ hn).mono fun _ _ ⟨a, b⟩ => ⟨a, b.symm⟩)
/-- The same with the count as the walk has it. -/
theorem turn_z (x : U32) (z : Int) (w : World) (h0 : 0 ≤ z) (h1 : z ≤ 31) :
    Calls Tryd.prog 105 #[.int .u32 (uw x), .int .u64 z] w fun e w' => e = .returned (.int .u32 (uw (rotr x z.toNat))) ∧ w = w' := by
  obtain ⟨n, rfl⟩ := Int.eq_ofNat_of_zero_le h0
  rw [Int.toNat_natCast]
  exact turn_any x n w (by omega)
theorem turn_zq (x : U32) (z : Int) (w : World) (k : Nat) (h0 : 0 ≤ z) (h1 : z ≤ 31) :
    Calls Tryd.prog 105 #[.int .u32 (uw x), .int .u64 z] (w.drewN k) fun e w'' => e = .returned (.int .u32 (uw (rotr x z.toNat))) ∧ ∃ m, w'' = w.drewN m :=
  Calls.quiet_of_same ((turn_z x z _ h0 h1).mono fun _ _ ⟨a, b⟩ => ⟨a, b.symm⟩)
theorem turn_zs (x : U32) (z : Int) (w : World) (h0 : 0 ≤ z) (h1 : z ≤ 31) :
    Calls Tryd.prog 105 #[.int .u32 (uw x), .int .u64 z] w fun e w' => e = .returned (.int .u32 (uw (rotr x z.toNat))) ∧ w' = w :=
  (turn_z x z _ h0 h1).mono fun _ _ ⟨a, b⟩ => ⟨a, b.symm⟩

theorem scell85 {w : World} {g : Nat} {s : St} (h : w.heap[g]? = some (.cells (srow s).toArray 85)) (j : Nat) : w.cell? ⟨g, j, none⟩ = (srow s)[j]? := by
  rw [cell_of_row w g j _ _ _ h]; simp
/-- The reference's table's cells. -/
def KAt1 (w : World) : Prop := ∀ k, k < 64 → w.cell? ⟨1, k, none⟩ = some (.int .u32 (uw (wordAt kTab k)))
/-- The call's three blocks: the state, the result, the schedule. -/
structure Blk (w wr : World) (s : St) (l : List U32) : Prop where
  below : Below w.heap.size w wr
  size : w.heap.size + 3 ≤ wr.heap.size
  state : wr.heap[w.heap.size]? = some (.cells (srow s).toArray 85)
  res : wr.heap[w.heap.size + 1]? = some (.cells (srow ⟨0, 0, 0, 0, 0, 0, 0, 0⟩).toArray 85)
  words : wr.heap[w.heap.size + 2]? = some (.cells (wrow l).toArray 138)
theorem Blk.drewN {w wr : World} {s : St} {l : List U32} (h : Blk w wr s l) (n : Nat) : Blk w (wr.drewN n) s l :=
  ⟨below_then h.below h.below.size (drewN_below wr n), h.size, h.state, h.res, h.words⟩
theorem Blk.push {w wr : World} {s : St} {l : List U32} (h : Blk w wr s l) (k : Nat) (hl : l.length = k) (hk : k < 64) (x : U32) :
    Blk w ((wr.setCell ⟨w.heap.size + 2, k, none⟩ (.int .u32 (uw x))).drew) s (l ++ [x]) :=
  ⟨(h.below.setCell (by simp) _).drew, by simpa [World.setCell] using h.size, by
    show (wr.setCell _ _).heap[_]? = _
    rw [Below.heap_setCell _ _ _ _ (by simp)]; exact h.state, by
    show (wr.setCell _ _).heap[_]? = _
    rw [Below.heap_setCell _ _ _ _ (by simp)]; exact h.res, wset h.words k hl hk x⟩
theorem Blk.start (w : World) (s : St) : Blk w (((w.alloc (.cells (srow s).toArray 85)).alloc (.cells (srow ⟨0, 0, 0, 0, 0, 0, 0, 0⟩).toArray 85)).alloc (.cells (wrow []).toArray 138)) s [] := by
  have h2 := two_blocks w (.cells (srow s).toArray 85) (.cells (srow ⟨0, 0, 0, 0, 0, 0, 0, 0⟩).toArray 85)
  refine ⟨h2.1.alloc (by simp; omega) _, by simp, ?_, ?_, ?_⟩
  · rw [heap_alloc_old _ _ (by simp; omega)]; exact h2.2.1
  · rw [heap_alloc_old _ _ (by simp)]; exact h2.2.2
  · have := heap_alloc_new ((w.alloc (.cells (srow s).toArray 85)).alloc (.cells (srow ⟨0, 0, 0, 0, 0, 0, 0, 0⟩).toArray 85)) (.cells (wrow []).toArray 138)
    simpa using this

theorem next_ref (m : List UInt8) (l : List U32) (i : Nat) (h : ¬ i < 16) : next m l i = ssig1 (wordAt l (i - 2)) + wordAt l (i - 7) + ssig0 (wordAt l (i - 15)) + wordAt l (i - 16) := by
  rw [next, if_neg h]
  generalize ssig1 (wordAt l (i - 2)) = a
  generalize ssig0 (wordAt l (i - 15)) = b
  generalize wordAt l (i - 7) = c
  generalize wordAt l (i - 16) = d
  ac_rfl
theorem rnd_ref (s : St) (k w : U32) : rnd s k w = ⟨(s.h + bsig1 s.e + ((s.e &&& s.f) ^^^ (~~~s.e &&& s.g)) + k + w) + (bsig0 s.a + ((s.a &&& s.b) ^^^ (s.a &&& s.c) ^^^ (s.b &&& s.c))), s.a, s.b, s.c,
    s.d + (s.h + bsig1 s.e + ((s.e &&& s.f) ^^^ (~~~s.e &&& s.g)) + k + w), s.e, s.f, s.g⟩ := by
  rw [ch_eq, maj_eq]; rfl

def sagg (s : St) : Value := .agg #[.int .u32 (uw s.a), .int .u32 (uw s.b), .int .u32 (uw s.c), .int .u32 (uw s.d), .int .u32 (uw s.e), .int .u32 (uw s.f), .int .u32 (uw s.g), .int .u32 (uw s.h)]

set_option maxRecDepth 100000 in
set_option maxHeartbeats 4000000 in
theorem block_any (c : Nat) (b o : Nat) (m : List UInt8) (w : World) (hm : m.length = 64) (hb : ∀ i (hi : i < m.length), w.cell? ⟨b, o + i, none⟩ = some (.int .u8 (ub m[i]))) (hblt : b < w.heap.size) (st : St) (hpos : 1 < w.heap.size) (hK : KAt1 w) :
    Calls Tryd.prog 62 #[.agg #[.int .u32 (uw st.a), .int .u32 (uw st.b), .int .u32 (uw st.c), .int .u32 (uw st.d), .int .u32 (uw st.e), .int .u32 (uw st.f), .int .u32 (uw st.g), .int .u32 (uw st.h)], .slice (some ⟨b, o, none⟩) 64 c] w
      fun e w' => e = .returned (sagg (comp st m)) ∧ Below w.heap.size w w' := by
  have HB0 := Lib.hid (Blk.start w st)
  have HK := Lib.hid hK
  have Hb := Lib.hid hb
  have Hm := Lib.hid hm
  clear hb hm hK
  go_enter Tryd.func62, Tryd.ntmps62
  go_wp2
  go_loopw [6] (fun i wr => ∃ k : Nat, k ≤ 16 ∧ i = .int .i64 k ∧ Hid (Blk w wr st (sched m k))) (fun i _ => 16 - (intOf i).toNat)
  case atStart => exact ⟨0, by omega, rfl, HB0⟩
  case round =>
    obtain ⟨k, hk, rfl, HB1⟩ := hrel
    by_cases hlt : k < 16
    · have hi1 : (k : Int) < 16 := by omega
      have hi0 : (0 : Int) ≤ (k : Int) := by omega
      have hi64 : (k : Int) < 64 := by omega
      have g0 : wr.cell? ⟨b, o + 4 * k, none⟩ = some (.int .u8 (ub (byteAt m (4 * k)))) := by
        rw [HB1.out.below.cell (p := ⟨b, o + 4 * k, none⟩) hblt, Hb.out (4 * k) (by rw [Hm.out]; omega)]; rw [byteAt_get m (4 * k) (by rw [Hm.out]; omega)]
      have g1 : wr.cell? ⟨b, o + (4 * k + 1), none⟩ = some (.int .u8 (ub (byteAt m (4 * k + 1)))) := by
        rw [HB1.out.below.cell (p := ⟨b, o + (4 * k + 1), none⟩) hblt, Hb.out (4 * k + 1) (by rw [Hm.out]; omega)]; rw [byteAt_get m (4 * k + 1) (by rw [Hm.out]; omega)]
      have g2 : wr.cell? ⟨b, o + (4 * k + 2), none⟩ = some (.int .u8 (ub (byteAt m (4 * k + 2)))) := by
        rw [HB1.out.below.cell (p := ⟨b, o + (4 * k + 2), none⟩) hblt, Hb.out (4 * k + 2) (by rw [Hm.out]; omega)]; rw [byteAt_get m (4 * k + 2) (by rw [Hm.out]; omega)]
      have g3 : wr.cell? ⟨b, o + (4 * k + 3), none⟩ = some (.int .u8 (ub (byteAt m (4 * k + 3)))) := by
        rw [HB1.out.below.cell (p := ⟨b, o + (4 * k + 3), none⟩) hblt, Hb.out (4 * k + 3) (by rw [Hm.out]; omega)]; rw [byteAt_get m (4 * k + 3) (by rw [Hm.out]; omega)]
      have gw : wr.cell? ⟨w.heap.size + 1 + 1, k, none⟩ = some (.int .u32 (uw (wordAt (sched m k) k))) := wcell HB1.out.words (by rw [sched_length]; omega) k (by omega)
      have fw : wr.frozen? ⟨w.heap.size + 1 + 1, k, none⟩ = false := by unfold World.frozen?; show (match wr.heap[w.heap.size + 2]? with | some (.cells _ _ (lo, hi)) => _ | _ => _) = _; rw [HB1.out.words]; simp
      have p0 : (0 : Int) ≤ 4 * (k : Int) := by omega
      have r0 : 4 * (k : Int) < 64 := by omega
      have t0 : (4 * (k : Int)).toNat = 4 * k := by omega
      have q0 : IntKind.i64.wrap (4 * (k : Int)) = 4 * (k : Int) := IntWalk.i64_in _ (by omega)
      have p1 : (0 : Int) ≤ 4 * (k : Int) + 1 := by omega
      have r1 : 4 * (k : Int) + 1 < 64 := by omega
      have t1 : (4 * (k : Int) + 1).toNat = 4 * k + 1 := by omega
      have q1 : IntKind.i64.wrap (4 * (k : Int) + 1) = 4 * (k : Int) + 1 := IntWalk.i64_in _ (by omega)
      have p2 : (0 : Int) ≤ 4 * (k : Int) + 2 := by omega
      have r2 : 4 * (k : Int) + 2 < 64 := by omega
      have t2 : (4 * (k : Int) + 2).toNat = 4 * k + 2 := by omega
      have q2 : IntKind.i64.wrap (4 * (k : Int) + 2) = 4 * (k : Int) + 2 := IntWalk.i64_in _ (by omega)
      have p3 : (0 : Int) ≤ 4 * (k : Int) + 3 := by omega
      have r3 : 4 * (k : Int) + 3 < 64 := by omega
      have t3 : (4 * (k : Int) + 3).toNat = 4 * k + 3 := by omega
      have q3 : IntKind.i64.wrap (4 * (k : Int) + 3) = 4 * (k : Int) + 3 := IntWalk.i64_in _ (by omega)
      go_wp2
      go_still_tail 35, (by kernel_rfl)
      change wpList _ _ _ _ _ wr.drew
      go_wp2
      refine ⟨⟨k + 1, by omega, by go_num, Lib.hid ?_⟩, by simp [intOf]; omega⟩
      have := HB1.out.push k (sched_length m k) (by omega) (word m k)
      rw [show sched m (k + 1) = sched m k ++ [word m k] by rw [sched, next, if_pos hlt]]
      exact this
    · obtain rfl : k = 16 := by omega
      go_wp2
      go_loopw [7] (fun i wr => ∃ k : Nat, 16 ≤ k ∧ k ≤ 64 ∧ i = .int .i64 k ∧ Hid (Blk w wr st (sched m k))) (fun i _ => 64 - (intOf i).toNat)
      case atStart => exact ⟨16, by omega, by omega, rfl, HB1⟩
      case round =>
        clear HB1
        obtain ⟨k, hk16, hk, rfl, HB1⟩ := hrel
        by_cases h64 : k < 64
        · have hlt : ¬ k < 16 := by omega
          have hi0 : (0 : Int) ≤ (k : Int) := by omega
          have hi2 : (k : Int) < 64 := by omega
          have c15 : wr.cell? ⟨w.heap.size + 1 + 1, k - 15, none⟩ = some (.int .u32 (uw (wordAt (sched m k) (k - 15)))) := wcell HB1.out.words (by rw [sched_length]; omega) _ (by omega)
          have c2 : wr.cell? ⟨w.heap.size + 1 + 1, k - 2, none⟩ = some (.int .u32 (uw (wordAt (sched m k) (k - 2)))) := wcell HB1.out.words (by rw [sched_length]; omega) _ (by omega)
          have p15 : (0 : Int) ≤ (k : Int) - 15 := by omega
          have s15 : (15 : Int) ≤ (k : Int) := by omega
          have r15 : (k : Int) - 15 < 64 := by omega
          have t15 : ((k : Int) - 15).toNat = k - 15 := by omega
          have q15 : IntKind.i64.wrap ((k : Int) - 15) = (k : Int) - 15 := IntWalk.i64_in _ (by omega)
          have p2 : (0 : Int) ≤ (k : Int) - 2 := by omega
          have s2 : (2 : Int) ≤ (k : Int) := by omega
          have r2 : (k : Int) - 2 < 64 := by omega
          have t2 : ((k : Int) - 2).toNat = k - 2 := by omega
          have q2 : IntKind.i64.wrap ((k : Int) - 2) = (k : Int) - 2 := IntWalk.i64_in _ (by omega)
          have p16 : (0 : Int) ≤ (k : Int) - 16 := by omega
          have s16 : (16 : Int) ≤ (k : Int) := by omega
          have r16 : (k : Int) - 16 < 64 := by omega
          have t16 : ((k : Int) - 16).toNat = k - 16 := by omega
          have q16 : IntKind.i64.wrap ((k : Int) - 16) = (k : Int) - 16 := IntWalk.i64_in _ (by omega)
          have p7 : (0 : Int) ≤ (k : Int) - 7 := by omega
          have s7 : (7 : Int) ≤ (k : Int) := by omega
          have r7 : (k : Int) - 7 < 64 := by omega
          have t7 : ((k : Int) - 7).toNat = k - 7 := by omega
          have q7 : IntKind.i64.wrap ((k : Int) - 7) = (k : Int) - 7 := IntWalk.i64_in _ (by omega)
          go_wp2
          go_quiet (fail)
          have HB2 := Lib.hid (HB1.out.drewN nq)
          clear c15 c2 HB1
          generalize wr.drewN nq = w2 at HB2 ⊢
          have c16 : w2.cell? ⟨w.heap.size + 1 + 1, k - 16, none⟩ = some (.int .u32 (uw (wordAt (sched m k) (k - 16)))) := wcell HB2.out.words (by rw [sched_length]; omega) _ (by omega)
          have c7 : w2.cell? ⟨w.heap.size + 1 + 1, k - 7, none⟩ = some (.int .u32 (uw (wordAt (sched m k) (k - 7)))) := wcell HB2.out.words (by rw [sched_length]; omega) _ (by omega)
          have gw : w2.cell? ⟨w.heap.size + 1 + 1, k, none⟩ = some (.int .u32 (uw (wordAt (sched m k) k))) := wcell HB2.out.words (by rw [sched_length]; omega) k (by omega)
          have fw : w2.frozen? ⟨w.heap.size + 1 + 1, k, none⟩ = false := by unfold World.frozen?; show (match w2.heap[w.heap.size + 2]? with | some (.cells _ _ (lo, hi)) => _ | _ => _) = _; rw [HB2.out.words]; simp
          go_wp2
          go_still_tail 29, (by kernel_rfl)
          still_call (turn_zs _ _ _ (by decide) (by decide))
          repeat still_step
          still_call (turn_zs _ _ _ (by decide) (by decide))
          repeat still_step
          still_call (turn_zs _ _ _ (by decide) (by decide))
          repeat still_step
          still_call (turn_zs _ _ _ (by decide) (by decide))
          repeat still_step
          try refine wpStill_nil ?_
          change wpList _ _ _ _ _ w2.drew
          go_wp2
          have hp := HB2.out.push k (sched_length m k) (by omega) (next m (sched m k) k)
          have hq : Hid (Blk w ((w2.setCell ⟨w.heap.size + 2, k, none⟩ (.int .u32 (uw (ssig1 (wordAt (sched m k) (k - 2)) + wordAt (sched m k) (k - 7) + ssig0 (wordAt (sched m k) (k - 15)) + wordAt (sched m k) (k - 16))))).drew) st (sched m (k + 1))) := by
            rw [show sched m (k + 1) = sched m k ++ [next m (sched m k) k] from rfl]
            rw [next_ref _ _ _ hlt] at hp ⊢
            exact hp
          go_roundw
          case rel =>
            (repeat apply Exists.intro)
            exact ⟨⟨k + 1, by omega, by omega, by go_num, hq⟩, rfl⟩
          case measure => simp [intOf]; omega
        · obtain rfl : k = 64 := by omega
          have s0 : wr.cell? ⟨w.heap.size, 0, none⟩ = some (.int .u32 (uw st.a)) := scell85 HB1.out.state 0
          have s1 : wr.cell? ⟨w.heap.size, 1, none⟩ = some (.int .u32 (uw st.b)) := scell85 HB1.out.state 1
          have s2 : wr.cell? ⟨w.heap.size, 2, none⟩ = some (.int .u32 (uw st.c)) := scell85 HB1.out.state 2
          have s3 : wr.cell? ⟨w.heap.size, 3, none⟩ = some (.int .u32 (uw st.d)) := scell85 HB1.out.state 3
          have s4 : wr.cell? ⟨w.heap.size, 4, none⟩ = some (.int .u32 (uw st.e)) := scell85 HB1.out.state 4
          have s5 : wr.cell? ⟨w.heap.size, 5, none⟩ = some (.int .u32 (uw st.f)) := scell85 HB1.out.state 5
          have s6 : wr.cell? ⟨w.heap.size, 6, none⟩ = some (.int .u32 (uw st.g)) := scell85 HB1.out.state 6
          have s7 : wr.cell? ⟨w.heap.size, 7, none⟩ = some (.int .u32 (uw st.h)) := scell85 HB1.out.state 7
          go_wp2
          go_quiet (fail)
          have HB2 := Lib.hid (HB1.out.drewN nq)
          clear s0 s1 s2 s3 s4 s5 s6 s7 HB1
          generalize wr.drewN nq = w2 at HB2 ⊢
          go_wp2
          go_loopw [10, 11, 12, 13, 14, 15, 16, 17, 18] (fun a b c d e f g h i wr => ∃ k : Nat, k ≤ 64 ∧ i = .int .i64 k ∧ a = .int .u32 (uw (rounds st (sched m 64) k).a) ∧ b = .int .u32 (uw (rounds st (sched m 64) k).b) ∧
            c = .int .u32 (uw (rounds st (sched m 64) k).c) ∧ d = .int .u32 (uw (rounds st (sched m 64) k).d) ∧ e = .int .u32 (uw (rounds st (sched m 64) k).e) ∧ f = .int .u32 (uw (rounds st (sched m 64) k).f) ∧
            g = .int .u32 (uw (rounds st (sched m 64) k).g) ∧ h = .int .u32 (uw (rounds st (sched m 64) k).h) ∧ Hid (Blk w wr st (sched m 64)))
            (fun _ _ _ _ _ _ _ _ i _ => 64 - (intOf i).toNat)
          case atStart => exact ⟨0, by omega, rfl, rfl, rfl, rfl, rfl, rfl, rfl, rfl, rfl, HB2⟩
          case round =>
            clear HB2
            obtain ⟨k, hk, rfl, rfl, rfl, rfl, rfl, rfl, rfl, rfl, rfl, HB3⟩ := hrel
            by_cases hlt : k < 64
            · have hR : rounds st (sched m 64) (k + 1) = _ := rnd_ref (rounds st (sched m 64) k) (wordAt kTab k) (wordAt (sched m 64) k)
              have HR := Lib.hid hR
              clear hR
              generalize rounds st (sched m 64) k = s at HR ⊢
              have hk0 : (0 : Int) ≤ (k : Int) := by omega
              have hk1 : (k : Int) < 64 := by omega
              have cw : wr.cell? ⟨w.heap.size + 1 + 1, k, none⟩ = some (.int .u32 (uw (wordAt (sched m 64) k))) := wcell HB3.out.words (by rw [sched_length]; omega) k hlt
              have ck : wr.cell? ⟨1, k, none⟩ = some (.int .u32 (uw (wordAt kTab k))) := by rw [HB3.out.below.cell (p := ⟨1, k, none⟩) hpos]; exact HK.out k hlt
              go_wp2
              go_quiet ((go_at_call 105; exact turn_zq _ _ _ _ (by decide) (by decide)))
              go_wp2_with (go_at_call 105; refine (turn_z _ _ _ (by decide) (by decide)).mono ?_; rintro e w' ⟨rfl, rfl⟩)
              have HB4 := Lib.hid (HB3.out.drewN nq)
              refine ⟨⟨_, _, _, _, _, _, _, _, _, ⟨k + 1, by omega, by go_num, by rw [HR.out]; rfl, by rw [HR.out], by rw [HR.out], by rw [HR.out], by rw [HR.out]; rfl, by rw [HR.out], by rw [HR.out], by rw [HR.out], HB4⟩, rfl, rfl, rfl, rfl, rfl, rfl, rfl, rfl, rfl⟩, by simp [intOf]; omega⟩
            · obtain rfl : k = 64 := by omega
              have HC : Hid (comp st m = st.add (rounds st (sched m 64) 64)) := rfl
              generalize rounds st (sched m 64) 64 = r at HC ⊢
              have s0 : wr.cell? ⟨w.heap.size, 0, none⟩ = some (.int .u32 (uw st.a)) := scell85 HB3.out.state 0
              have s1 : wr.cell? ⟨w.heap.size, 1, none⟩ = some (.int .u32 (uw st.b)) := scell85 HB3.out.state 1
              have s2 : wr.cell? ⟨w.heap.size, 2, none⟩ = some (.int .u32 (uw st.c)) := scell85 HB3.out.state 2
              have s3 : wr.cell? ⟨w.heap.size, 3, none⟩ = some (.int .u32 (uw st.d)) := scell85 HB3.out.state 3
              have s4 : wr.cell? ⟨w.heap.size, 4, none⟩ = some (.int .u32 (uw st.e)) := scell85 HB3.out.state 4
              have s5 : wr.cell? ⟨w.heap.size, 5, none⟩ = some (.int .u32 (uw st.f)) := scell85 HB3.out.state 5
              have s6 : wr.cell? ⟨w.heap.size, 6, none⟩ = some (.int .u32 (uw st.g)) := scell85 HB3.out.state 6
              have s7 : wr.cell? ⟨w.heap.size, 7, none⟩ = some (.int .u32 (uw st.h)) := scell85 HB3.out.state 7
              have z0 : wr.cell? ⟨w.heap.size + 1, 0, none⟩ = some (.int .u32 (uw 0)) := scell85 HB3.out.res 0
              have y0 : wr.frozen? ⟨w.heap.size + 1, 0, none⟩ = false := by unfold World.frozen?; rw [HB3.out.res]; simp
              have z1 : wr.cell? ⟨w.heap.size + 1, 1, none⟩ = some (.int .u32 (uw 0)) := scell85 HB3.out.res 1
              have y1 : wr.frozen? ⟨w.heap.size + 1, 1, none⟩ = false := by unfold World.frozen?; rw [HB3.out.res]; simp
              have z2 : wr.cell? ⟨w.heap.size + 1, 2, none⟩ = some (.int .u32 (uw 0)) := scell85 HB3.out.res 2
              have y2 : wr.frozen? ⟨w.heap.size + 1, 2, none⟩ = false := by unfold World.frozen?; rw [HB3.out.res]; simp
              have z3 : wr.cell? ⟨w.heap.size + 1, 3, none⟩ = some (.int .u32 (uw 0)) := scell85 HB3.out.res 3
              have y3 : wr.frozen? ⟨w.heap.size + 1, 3, none⟩ = false := by unfold World.frozen?; rw [HB3.out.res]; simp
              have z4 : wr.cell? ⟨w.heap.size + 1, 4, none⟩ = some (.int .u32 (uw 0)) := scell85 HB3.out.res 4
              have y4 : wr.frozen? ⟨w.heap.size + 1, 4, none⟩ = false := by unfold World.frozen?; rw [HB3.out.res]; simp
              have z5 : wr.cell? ⟨w.heap.size + 1, 5, none⟩ = some (.int .u32 (uw 0)) := scell85 HB3.out.res 5
              have y5 : wr.frozen? ⟨w.heap.size + 1, 5, none⟩ = false := by unfold World.frozen?; rw [HB3.out.res]; simp
              have z6 : wr.cell? ⟨w.heap.size + 1, 6, none⟩ = some (.int .u32 (uw 0)) := scell85 HB3.out.res 6
              have y6 : wr.frozen? ⟨w.heap.size + 1, 6, none⟩ = false := by unfold World.frozen?; rw [HB3.out.res]; simp
              have z7 : wr.cell? ⟨w.heap.size + 1, 7, none⟩ = some (.int .u32 (uw 0)) := scell85 HB3.out.res 7
              have y7 : wr.frozen? ⟨w.heap.size + 1, 7, none⟩ = false := by unfold World.frozen?; rw [HB3.out.res]; simp
              have HBB := Lib.hid HB3.out.below
              go_wp2
              have hb8 : Below w.heap.size w ((((((((wr.setCell ⟨w.heap.size + 1, 0, none⟩ (.int .u32 (uw (st.a + r.a)))).setCell ⟨w.heap.size + 1, 1, none⟩ (.int .u32 (uw (st.b + r.b)))).setCell ⟨w.heap.size + 1, 2, none⟩ (.int .u32 (uw (st.c + r.c)))).setCell
                ⟨w.heap.size + 1, 3, none⟩ (.int .u32 (uw (st.d + r.d)))).setCell ⟨w.heap.size + 1, 4, none⟩ (.int .u32 (uw (st.e + r.e)))).setCell ⟨w.heap.size + 1, 5, none⟩ (.int .u32 (uw (st.f + r.f)))).setCell ⟨w.heap.size + 1, 6, none⟩ (.int .u32 (uw (st.g + r.g)))).setCell
                ⟨w.heap.size + 1, 7, none⟩ (.int .u32 (uw (st.h + r.h)))) :=
                (((((((HBB.out.setCell (by simp) _).setCell (by simp) _).setCell (by simp) _).setCell (by simp) _).setCell (by simp) _).setCell (by simp) _).setCell (by simp) _).setCell (by simp) _
              refine bodyPost_ret (v := sagg (comp st m)) ?_ rfl ⟨rfl, hb8⟩
              rw [HC.out]
              simp [results, Tryd.results62, go_sem, z0, z1, z2, z3, z4, z5, z6, z7, sagg, St.add]
end Go.Proofs.YteceagldjnfeeaaDoor

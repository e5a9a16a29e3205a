/- The walks of merkle.hashes and merkle.row without a way. -/
import Derived.Test.YteceagldjnfeeaaDoorMk2
import Derived.Deep.RegionHeld3
namespace Go.Proofs.YteceagldjnfeeaaDoor
open Go.RowKit
set_option linter.unusedVariables false
set_option linter.unusedSimpArgs false

/-! ### Rows of hashes -/
theorem Pts.take {w : World} {B : Nat} {vs : List Value} {ls : List (List UInt8)} (h : Pts w B vs ls) (k : Nat) : Pts w B (vs.take k) (ls.take k) := by
  induction h generalizing k with
  | nil => simp; exact .nil
  | cons hp _ ih =>
    cases k with
    | zero => exact .nil
    | succ k => exact .cons hp (ih k)
theorem Pts.drop {w : World} {B : Nat} {vs : List Value} {ls : List (List UInt8)} (h : Pts w B vs ls) (k : Nat) : Pts w B (vs.drop k) (ls.drop k) := by
  induction h generalizing k with
  | nil => simp; exact .nil
  | cons hp hr ih =>
    cases k with
    | zero => exact .cons hp hr
    | succ k => exact ih k
/-- A slice of slices of bytes, as it reads. -/
def Hs (w : World) (D : Nat) (a : Option Addr) (n c : Nat) (ls : List (List UInt8)) : Prop := ∃ vs, Sl w a n c vs ∧ Pts w D vs ls
theorem Hs.below {w w1 : World} {D : Nat} {a : Option Addr} {n c : Nat} {ls : List (List UInt8)} (h : Hs w D a n c ls) (hb : Below w.heap.size w w1) : Hs w1 D a n c ls := by
  obtain ⟨vs, h1, h2⟩ := h
  exact ⟨vs, h1.below hb, h2.later hb⟩
theorem Hs.len {w : World} {D : Nat} {a : Option Addr} {n c : Nat} {ls : List (List UInt8)} (h : Hs w D a n c ls) : ls.length = n := by
  obtain ⟨vs, h1, h2⟩ := h
  rw [← h2.length, h1.len]
theorem Hs.caps {w : World} {D : Nat} {a : Option Addr} {n c : Nat} {ls : List (List UInt8)} (h : Hs w D a n c ls) : n ≤ c ∧ c ≤ maxLen := by
  obtain ⟨vs, h1, h2⟩ := h
  exact ⟨h1.cap, h1.big⟩
theorem Hs.left {w : World} {D b o n c : Nat} {ls : List (List UInt8)} (h : Hs w D (some ⟨b, o, none⟩) n c ls) (k : Nat) (hk : k ≤ n) : Hs w D (some ⟨b, o, none⟩) k c (ls.take k) := by
  obtain ⟨vs, h1, h2⟩ := h
  exact ⟨_, h1.take k hk, h2.take k⟩
theorem Hs.right {w : World} {D b o n c : Nat} {ls : List (List UInt8)} (h : Hs w D (some ⟨b, o, none⟩) n c ls) (k : Nat) (hk : k ≤ n) : Hs w D (some ⟨b, o + k, none⟩) (n - k) (c - k) (ls.drop k) := by
  obtain ⟨vs, h1, h2⟩ := h
  have h3 := h1.piece k (n - k) (by omega)
  rw [List.take_of_length_le (by rw [List.length_drop, h1.len]; omega)] at h3
  exact ⟨_, h3, h2.drop k⟩
theorem Hs.at {w : World} {D : Nat} {a : Option Addr} {n c : Nat} {ls : List (List UInt8)} (h : Hs w D a n c ls) (j : Nat) (hj : j < n) : ∃ b o a2 n2 c2, a = some ⟨b, o, none⟩ ∧ w.cell? ⟨b, o + j, none⟩ = some (.slice a2 n2 c2) ∧ Pt w D (.slice a2 n2 c2) (ls.getD j []) := by
  have hl := h.len
  obtain ⟨vs, h1, h2⟩ := h
  have hv : j < vs.length := by rw [h1.len]; exact hj
  have hp := h2.get j hv (by omega)
  obtain ⟨b, o, e, hc⟩ := h1.cells j vs[j] (List.getElem?_eq_getElem hv)
  rw [List.getD_eq_getElem?_getD, List.getElem?_eq_getElem (by omega)]
  obtain ⟨a2, n2, c2, ev, r⟩ := id hp
  refine ⟨b, o, a2, n2, c2, e, ?_, ?_⟩
  · rw [hc, ev]
  · rw [← ev]; exact hp

theorem run_make_h (N : Nat) (hN : N ≤ 65536) (w : World) : (Instr.makeSlice 77 (.int .i64 (N : Int)) (.int .i64 (N : Int))).run Tryd.prog w = .ok (.slice (some ⟨w.heap.size, 0, none⟩) N N) (w.alloc (.cells (Array.replicate N (Value.slice none 0 0)) 22)) := by
  have h := run_make_row' (P := Tryd.prog) 77 22 (.slice none 0 0) 24 Tryd.underlying77 info22 rfl .i64 .i64 N (by omega) (by omega) w
  rw [h]
  have e : madeCells #[.slice none 0 0] N = (Array.replicate N (Value.slice none 0 0)) := by
    apply Array.ext
    · simp [madeCells]
    · intro j h1 h2
      simp [madeCells, Nat.mod_one]
  rw [e]

/-- The row in the making. -/
structure HW (w wr : World) (n k : Nat) (hs : List (List UInt8)) : Prop where
  below : Below w.heap.size w wr
  ex : ∃ vs : List Value, vs.length = n ∧ wr.heap[w.heap.size]? = some (.cells vs.toArray 22 (0, 0)) ∧ Pts wr 0 (vs.take k) (hs.take k)
theorem HW.lt {w wr : World} {n k : Nat} {hs : List (List UInt8)} (h : HW w wr n k hs) : w.heap.size < wr.heap.size := by
  obtain ⟨vs, _, h1, _⟩ := h.ex
  exact blk_lt h1
theorem HW.start (w : World) (n : Nat) (hs : List (List UInt8)) : HW w (w.alloc (.cells (Array.replicate n (Value.slice none 0 0)) 22)) n 0 hs :=
  ⟨(row_below w _).out, List.replicate n (Value.slice none 0 0), List.length_replicate, by rw [heap_alloc_new]; simp, .nil⟩
theorem HW.later {w wr w1 : World} {n k : Nat} {hs : List (List UInt8)} (h : HW w wr n k hs) (hb : Below wr.heap.size wr w1) : HW w w1 n k hs := by
  obtain ⟨vs, h1, h2, h3⟩ := h.ex
  exact ⟨below_then h.below h.below.size hb, vs, h1, (hb.block _ h.lt).trans h2, h3.later hb⟩
theorem HW.cell {w wr : World} {n k : Nat} {hs : List (List UInt8)} (h : HW w wr n k hs) (j : Nat) (hj : j < n) : ∃ u, wr.cell? ⟨w.heap.size, j, none⟩ = some u := by
  obtain ⟨vs, h1, h2, h3⟩ := h.ex
  refine ⟨vs[j]'(by omega), ?_⟩
  rw [cell_of_row _ _ _ _ _ _ h2]
  simp [h1, hj]
theorem HW.frozen {w wr : World} {n k : Nat} {hs : List (List UInt8)} (h : HW w wr n k hs) (j : Nat) : wr.frozen? ⟨w.heap.size, j, none⟩ = false := by
  obtain ⟨vs, h1, h2, h3⟩ := h.ex
  simp [World.frozen?, h2]
theorem HW.store {w wr : World} {n k : Nat} {hs : List (List UInt8)} (h : HW w wr n k hs) (hk : k < n) (hl : hs.length = n) (v : Value) (hp : Pt wr 0 v (hs.getD k [])) : HW w (wr.setCell ⟨w.heap.size, k, none⟩ v) n (k + 1) hs := by
  obtain ⟨vs, h1, h2, h3⟩ := h.ex
  have hg : wr.grownBy (wr.setCell ⟨w.heap.size, k, none⟩ v) (some w.heap.size) := gset (grefl wr _) k v
  have e1 : (vs.set k v).take (k + 1) = vs.take k ++ [v] := by
    rw [List.take_set, List.take_succ_eq_append_getElem (by omega), List.set_append_right _ _ (by rw [List.length_take]; omega)]
    have : k - (vs.take k).length = 0 := by rw [List.length_take]; omega
    rw [this]; rfl
  have e2 : hs.take (k + 1) = hs.take k ++ [hs.getD k []] := by
    rw [List.take_succ_eq_append_getElem (by omega), List.getD_eq_getElem?_getD, List.getElem?_eq_getElem (by omega)]; rfl
  refine ⟨h.below.setCell (Nat.le_refl _) _, vs.set k v, by rw [List.length_set]; exact h1, ?_, ?_⟩
  · simp only [World.setCell, Array.getElem?_modify, if_true, h2, Option.map_some]
    simp
  · rw [e1, e2]
    exact (h3.kept hg (Nat.zero_le _) h2 (by decide)).snoc (hp.kept hg (Nat.zero_le _) h2 (by decide))
theorem HW.done {w wr : World} {n : Nat} {hs : List (List UInt8)} (h : HW w wr n n hs) (hl : hs.length = n) (hn : n ≤ 65536) : Hs wr 0 (some ⟨w.heap.size, 0, none⟩) n n hs := by
  obtain ⟨vs, h1, h2, h3⟩ := h.ex
  rw [List.take_of_length_le (by omega), List.take_of_length_le (by omega)] at h3
  have := Sl.of_block h2 (by show vs.length ≤ _; rw [h1]; unfold maxLen; omega)
  have e : vs.toArray.size = n := h1
  rw [e] at this
  exact ⟨vs, this, h3⟩

theorem map_leaf_at (ps : List KV) (k : Nat) (hk : k < ps.length) : (ps.map leafH).getD k [] = leafH (keyAt ps k, valAt ps k) := by
  unfold keyAt valAt
  rw [List.getD_eq_getElem?_getD, List.getElem?_map, List.getD_eq_getElem?_getD, List.getElem?_eq_getElem hk]
  rfl

set_option maxRecDepth 100000 in
set_option maxHeartbeats 4000000 in
theorem hashes_any {C : Nat} (a : Option Addr) (n c : Nat) (ps : List KV) (w : World) (hp : Prs w C a n c ps) (hn : n ≤ 65536) (hkl : ∀ k, k < n → (keyAt ps k).length ≤ maxLen) (hK : KAt w) :
    Calls Tryd.prog 89 #[.slice a n c] w fun e w' => ∃ g, e = .returned (.slice (some ⟨g, 0, none⟩) n n) ∧ Below w.heap.size w w' ∧ Hs w' 0 (some ⟨g, 0, none⟩) n n (ps.map leafH) := by
  have hb1 : (n : Int) ≤ 65536 := by omega
  have hmk := run_make_h n hn
  have HP := Lib.hid hp
  have HL := Lib.hid hp.len
  have HKL := Lib.hid hkl
  have HK := Lib.hid hK
  have HHL : Hid ((ps.map leafH).length = n) := by show _ = _; rw [List.length_map, HL.out]
  have HN := Lib.hid hn
  clear hp hkl hK hn
  go_enter Tryd.func89, Tryd.ntmps89
  go_wp2_with (fail)
  have H0 := Lib.hid (HW.start w n (ps.map leafH))
  generalize w.alloc (.cells (Array.replicate n (Value.slice none 0 0)) 22) = w0 at H0 ⊢
  clear hmk
  go_loopw [11] (fun i wr => ∃ k : Nat, k ≤ n ∧ i = .int .i64 k ∧ Hid (HW w wr n k (ps.map leafH))) (fun i _ => n - (intOf i).toNat)
  case atStart => exact ⟨0, by omega, rfl, H0⟩
  case round =>
    obtain ⟨k, hk, rfl, HH⟩ := hrel
    by_cases hlt : k < n
    · obtain ⟨b, o, va, hab, g1, g2, hv⟩ := (HP.out.below HH.out.below).cells k hlt
      subst hab
      obtain ⟨a2, n2, c2, hva, hbs, hfr⟩ := id hv
      subst hva
      have HV := Lib.hid (hv.below (row_below wr (.cells #[str (keyAt ps k), .slice a2 n2 c2] 45)).out)
      have i0 : (0 : Int) ≤ (k : Int) := by omega
      have i1 : (k : Int) < (n : Int) := by omega
      have HH1 := Lib.hid (HH.out.later (row_below wr (.cells #[str (keyAt ps k), .slice a2 n2 c2] 45)).out)
      have HKK := Lib.hid (HKL.out k hlt)
      have HAT := Lib.hid (map_leaf_at ps k (by rw [HL.out]; exact hlt))
      clear hbs hfr hv
      generalize keyAt ps k = kk at *
      go_wp2_with (fail)
      generalize wr.alloc (.cells #[str kk, .slice a2 n2 c2] 45) = w1 at HH1 HV ⊢
      refine (mleaf_any 0 kk _ a2 n2 c2 w1 HKK.out HV.out (HK.out.below HK.out.pos HH1.out.below)).mono ?_
      rintro e w2 ⟨a3, n3, c3, rfl, hb3, hp3⟩
      have HH2 := Lib.hid (HH1.out.later hb3)
      obtain ⟨u, z⟩ := HH2.out.cell k hlt
      have y := HH2.out.frozen k
      have HH3 := Lib.hid (HH2.out.store hlt HHL.out (.slice a3 n3 c3) (by rw [HAT.out]; exact hp3))
      clear hb3 hp3
      go_wp2_with (fail)
      exact ⟨⟨k + 1, by omega, by go_num, HH3⟩, by simp [intOf]; omega⟩
    · obtain rfl : k = n := by omega
      have i5 : ¬ ((k : Int) < (k : Int)) := by omega
      go_wp2_with (fail)
      go_ret
      exact ⟨_, rfl, HH.out.below, HH.out.done HHL.out HN.out⟩

/-! ### The row's hash -/
theorem run_sl77_l (w : World) (b o n c k : Nat) (hc : k ≤ c) :
    (Instr.slice 77 (.slice (some ⟨b, o, none⟩) n c) none (some (.int .i64 (k : Int))) none).run Tryd.prog w = .ok (.slice (some ⟨b, o, none⟩) k c) w := by
  have hs : (sizeOf (Tryd.prog.elem 77)).run Tryd.prog w = .ok 1 w := by kernel_rfl
  have e := run_slice_h (P := Tryd.prog) (w := w) 77 (some ⟨b, o, none⟩) n c (by kernel_rfl) .i64 (k : Int) (by omega) (by omega)
  rw [e, hs]
  simp only [Result.andThen_ok, sliced, Int.toNat_natCast, Nat.zero_mul, Nat.sub_zero]
  by_cases h0 : c = 0
  · rw [if_pos h0]
  · rw [if_neg h0]; simp only [Option.map_some, add_plain, Nat.add_zero]
theorem run_sl77_r (w : World) (b o n c k : Nat) (hk : k < n) (hc : n ≤ c) :
    (Instr.slice 77 (.slice (some ⟨b, o, none⟩) n c) (some (.int .i64 (k : Int))) none none).run Tryd.prog w = .ok (.slice (some ⟨b, o + k, none⟩) (n - k) (c - k)) w := by
  have hs : (sizeOf (Tryd.prog.elem 77)).run Tryd.prog w = .ok 1 w := by kernel_rfl
  have e := run_slice_l (P := Tryd.prog) (w := w) 77 (some ⟨b, o, none⟩) n c (by kernel_rfl) .i64 (k : Int) (by omega) (by omega)
  rw [e, hs]
  simp only [Result.andThen_ok, sliced, Int.toNat_natCast, Nat.mul_one]
  rw [if_neg (by omega)]
  simp only [Option.map_some, add_plain]

theorem split_ok (n : Nat) (h2 : 2 ≤ n) : Hid (∀ w, n ≤ 65536 → Calls Tryd.prog 119 #[.int .i64 n] w fun e w' => e = .returned (.int .i64 (half n : Int)) ∧ w = w') := fun w hn => half_any n w h2 hn

set_option maxRecDepth 100000 in
set_option maxHeartbeats 8000000 in
theorem row_any (p : Value) (m : Nat) : ∀ {D : Nat} (b o n c : Nat) (ls : List (List UInt8)) (w : World), n ≤ m → 1 ≤ n → n ≤ 65536 → Hs w D (some ⟨b, o, none⟩) n c ls → KAt w →
    Calls Tryd.prog 88 #[.slice (some ⟨b, o, none⟩) n c, .int .i64 (-1), p] w (RetP D (rowH ls) w) := by
  induction m with
  | zero => intro D b o n c ls w h1 h2; omega
  | succ m ih =>
    intro D b o n c ls w hm hn1 hn hh hK
    have HLN := Lib.hid hh.len
    by_cases h2 : 2 ≤ n
    · have hlt := half_lt n h2
      have hp0 := half_pos n
      have hrow := rowH_two ls (by rw [HLN.out]; exact h2)
      rw [HLN.out] at hrow
      have hc := hh.caps
      have i1 : ((n : Int) == 1) = false := by rw [beq_eq_false_iff_ne]; omega
      have i2 : (-1 : Int) < (half n : Int) := by omega
      have i3 : ¬ (half n : Int) ≤ -1 := by omega
      have hspl := split_ok n h2
      generalize half n = k at *
      have hsl := fun wx => run_sl77_l wx b o n c k (by omega)
      have hsr := fun wx => run_sl77_r wx b o n c k (by omega) (by omega)
      have CL : Hid (∀ W, Hid (Below w.heap.size w W) → Calls Tryd.prog 88 #[.slice (some ⟨b, o, none⟩) k c, .int .i64 (-1), p] W (fun e w' => ∃ a n c, e = .returned (.slice a n c) ∧ Hid (Below W.heap.size W w') ∧ Hid (Below w.heap.size w w') ∧ Hid (Pt w' D (.slice a n c) (rowH (ls.take k))))) := fun W hW =>
        (ih b o k c (ls.take k) W (by omega) (by omega) (by omega) ((hh.left k (by omega)).below hW.out) (hK.below hK.pos hW.out)).mono fun e w' ⟨a, n, c, h1, h2, h3⟩ => ⟨a, n, c, h1, h2, below_then hW.out hW.out.size h2, h3⟩
      have CR : Hid (∀ W, Hid (Below w.heap.size w W) → Calls Tryd.prog 88 #[.slice (some ⟨b, o + k, none⟩) (n - k) (c - k), .int .i64 (-1), p] W (fun e w' => ∃ a n c, e = .returned (.slice a n c) ∧ Hid (Below W.heap.size W w') ∧ Hid (Below w.heap.size w w') ∧ Hid (Pt w' D (.slice a n c) (rowH (ls.drop k))))) := fun W hW =>
        (ih b (o + k) (n - k) (c - k) (ls.drop k) W (by omega) (by omega) (by omega) ((hh.right k (by omega)).below hW.out) (hK.below hK.pos hW.out)).mono fun e w' ⟨a, n, c, h1, h2, h3⟩ => ⟨a, n, c, h1, h2, below_then hW.out hW.out.size h2, h3⟩
      have HK := Lib.hid hK
      have HROW := Lib.hid hrow
      clear hh hK hrow ih hc hm
      generalize o + k = o2 at hsr CR
      generalize n - k = n2 at hsr CR
      generalize c - k = c2 at hsr CR
      go_enter Tryd.func88, Tryd.ntmps88
      go_wp2_with (fail)
      refine (hspl.out w hn).mono ?_
      rintro e w' ⟨rfl, rfl⟩
      go_wp2_with (fail)
      have hstart : Hid (Below w.heap.size w w) := Below.refl _ _
      have hstartd : Hid (Below w.heap.size w w.drew) := (Below.refl _ _).drew
      go_region_held3 (fun W => Hid (Below w.heap.size w W))
        (first
          | assumption
          | exact (by assumption : Hid (Below w.heap.size w _)).out.drew
          | go_keep)
        (first
          | (go_at_call_of 88 (Value.slice (some ⟨b, o, none⟩) k c); refine (CL.out _ (by assumption)).mono ?_; rintro e w5 ⟨a5, n5, c5, rfl, HX5, HB5, HP5⟩)
          | (go_at_call_of 88 (Value.slice (some ⟨b, o2, none⟩) n2 c2); refine (CR.out _ (by assumption)).mono ?_; rintro e w6 ⟨a6, n6, c6, rfl, HX6, HB6, HP6⟩))
      all_goals (
        go_wp2_with (fail)
        refine (tagged_row (D := D) D wNode #[.slice a5 n5 c5, .slice a6 n6 c6] 2 [rowH (ls.take k), rowH (ls.drop k)] _ (by decide) rfl (by omega)
          (by first
            | exact .cons (HP5.out.below HX6.out) (.cons HP6.out .nil)
            | exact .cons HP5.out (.cons (HP6.out.below HX5.out) .nil))
          (by first
            | exact HK.out.below HK.out.pos HB5.out
            | exact HK.out.below HK.out.pos HB6.out)).mono ?_
        rintro e w7 ⟨a7, n7, c7, rfl, hb7, hp7⟩
        have HP7 := Lib.hid hp7
        have HB7 : Hid (Below w.heap.size w w7) := by
          first
            | exact below_then HB5.out HB5.out.size hb7
            | exact below_then HB6.out HB6.out.size hb7
        clear hb7 hp7
        go_wp2_with (fail)
        go_ret
        rw [HROW.out]
        exact ⟨_, _, _, rfl, HB7.out, HP7.out⟩)
    · obtain rfl : n = 1 := by omega
      obtain ⟨b', o', a2, n2, c2, e, g1, hp⟩ := hh.at 0 (by omega)
      cases e
      have hr : Hid (rowH ls = ls.getD 0 []) := rowH_one ls (by rw [HLN.out]; omega)
      have HP := Lib.hid hp
      have hc := hh.caps
      rw [Nat.add_zero] at g1
      clear hp hh
      go_enter Tryd.func88, Tryd.ntmps88
      go_wp2_with (fail)
      go_ret
      rw [hr.out]
      exact ⟨_, _, _, rfl, Below.refl _ _, HP.out⟩
end Go.Proofs.YteceagldjnfeeaaDoor

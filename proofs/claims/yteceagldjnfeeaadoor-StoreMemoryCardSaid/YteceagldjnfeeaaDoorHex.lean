/- The contracts of strings.Builder's copyCheck and WriteByte (the panic's text stands refused in the cut: that way is never taken), and of sha.Hex. -/
import Derived.Test.YteceagldjnfeeaaDoorHexW
import Derived.Lib.Builder
import Derived.Test.YteceagldjnfeeaaDoorShelf
namespace Go.Proofs.YteceagldjnfeeaaDoor
open Go.RowKit
set_option linter.unusedVariables false
set_option linter.unusedSimpArgs false

theorem sizeBuilder : (Tryd.prog.info? 92).map (fun i => i.size) = some 2 := by kernel_rfl
theorem liesBuilder : liesAt Tryd.prog Tryd.prog.depth 92 (2 / Tryd.prog.cellsOf 92) 0 92 1 = true := by kernel_rfl

set_option maxHeartbeats 1000000 in
set_option maxRecDepth 100000 in
theorem copyCheck_used (b : Nat) (w : World) (h0 : w.cell? ⟨b, 0, none⟩ = some (.pointer (some ⟨b, 0, none⟩))) :
    Calls Tryd.prog 106 #[.pointer (some ⟨b, 0, none⟩)] w fun e w' => e = .returned (.tuple #[]) ∧ w' = w := by
  obtain ⟨j, hj, _⟩ := Option.map_eq_some_iff.1 sizeBuilder
  go_enter Tryd.func106, Tryd.ntmps106
  go_wp2
  rw [Lib.run_neq_ptr_same w _ Tryd.underlying90 hj]
  go_wp2
  go_end0
  exact ⟨rfl, rfl⟩

set_option maxHeartbeats 1000000 in
set_option maxRecDepth 100000 in
theorem copyCheck_fresh (b : Nat) (w : World) (h0 : w.cell? ⟨b, 0, none⟩ = some (.pointer none)) (hsh : w.shape? b = some (92, 2)) (hfz : w.frozen? ⟨b, 0, none⟩ = false) :
    Calls Tryd.prog 106 #[.pointer (some ⟨b, 0, none⟩)] w fun e w' => e = .returned (.tuple #[]) ∧ w' = w.setCell ⟨b, 0, none⟩ (.pointer (some ⟨b, 0, none⟩)) := by
  obtain ⟨j, hj, hjs⟩ := Option.map_eq_some_iff.1 sizeBuilder
  go_enter Tryd.func106, Tryd.ntmps106
  go_wp2
  rw [Lib.run_to_unsafe w ⟨b, 0, none⟩ Tryd.underlying90 Tryd.underlying152 hj (by rw [hjs]; decide) hsh (Nat.zero_lt_succ 1)]
  simp only [Result.andThen]
  rw [Oper.upon_value]
  go_wp2
  rw [run_callFunc_extern Tryd.func128 (by kernel_rfl) (by kernel_rfl) (by kernel_rfl) (e := Extern.AbiNoEscape.same) (by kernel_rfl)]
  rw [Lib.run_noEscape]
  simp only [Result.andThen]
  rw [Oper.upon_value]
  go_wp2
  rw [Lib.run_from_unsafe w ⟨b, 0, none⟩ Tryd.underlying152 Tryd.underlying90 hj hsh liesBuilder]
  simp only [Result.andThen]
  rw [Oper.upon_value]
  go_wp2
  go_end0
  exact ⟨rfl, rfl⟩

theorem copyCheck_any (B b : Nat) (bs : List Value) (w : World) (h : Lib.IsBuilder 92 5 B b bs w) :
    Calls Tryd.prog 106 #[.pointer (some ⟨b, 0, none⟩)] w fun e w' => e = .returned (.tuple #[]) ∧ (Lib.BuilderAt 92 5 B b (.pointer (some ⟨b, 0, none⟩)) bs w' ∧ Below B w w') := by
  rcases h with h | h
  · refine (copyCheck_fresh b w h.cell0 h.shape h.frozen0).mono ?_
    rintro e w' ⟨rfl, rfl⟩
    exact ⟨rfl, h.used _, (Below.refl B w).setCell (p := ⟨b, 0, none⟩) h.1 _⟩
  · refine (copyCheck_used b w h.cell0).mono ?_
    rintro e w' ⟨rfl, rfl⟩
    exact ⟨rfl, h, Below.refl B _⟩

set_option maxHeartbeats 2000000 in
set_option maxRecDepth 100000 in
theorem writeByte_any (B b : Nat) (bs : List Value) (c : Int) (w : World) (h : Lib.IsBuilder 92 5 B b bs w) (hlen : bs.length + 1 ≤ 140737488355328) (hBw : B ≤ w.heap.size) :
    Calls Tryd.prog 63 #[.pointer (some ⟨b, 0, none⟩), .int .u8 c] w fun e w' => e = .returned .nilIface ∧ (Lib.BuilderAt 92 5 B b (.pointer (some ⟨b, 0, none⟩)) (bs ++ [.int .u8 c]) w' ∧ Below B w w') := by
  obtain ⟨i0, hi, hzz⟩ := Option.map_eq_some_iff.1 info5
  simp only [Prod.mk.injEq] at hzz
  obtain ⟨hz0, hz1, hz2⟩ := hzz
  go_enter Tryd.func63, Tryd.ntmps63
  go_wp2_with (go_at_call 106; refine (copyCheck_any B b bs _ h).mono ?_)
  rintro e w1 ⟨rfl, h1, hb1⟩
  obtain ⟨hB, v, hbk, hown, hne⟩ := h1
  have c0 : w1.cell? ⟨b, 0, none⟩ = some (.pointer (some ⟨b, 0, none⟩)) := by rw [Lib.cell_of_heap hbk]; rfl
  have c1 : w1.cell? ⟨b, 1, none⟩ = some v := by rw [Lib.cell_of_heap hbk]; rfl
  go_wp2_with (at_builtin; refine wpList_append_own _ rfl _ _ 22 rfl B 5 i0 (.int .u8 0) 1 1 Tryd.underlying22 hi hz0 hz1 hz2 rfl (by decide) _ _ _ rfl (hown.alloc _) ⟨w1.heap.size, 0, none⟩ 1 1 [.int .u8 c] rfl rfl ?c1 ?c2 ?c3 ?c4 ?c5 ?_)
  case c1 =>
    intro j u hj
    match j, hj with
    | 0, hj => simp at hj; subst hj; simp [Addr.add]
  case c2 => intro u hu; simp at hu; subst hu; rfl
  case c3 => unfold maxLen; omega
  case c4 => omega
  case c5 => have := hb1.size; simp; omega
  intro v' w2 hown' hgrow _
  have hlt : b < w1.heap.size := by
    rcases Nat.lt_or_ge b w1.heap.size with h' | h'
    · exact h'
    · simp [Array.getElem?_eq_none h'] at hbk
  have hb2 : w2.heap[b]? = some (.cells #[.pointer (some ⟨b, 0, none⟩), v] 92 (0, 0)) := by
    rw [hgrow.block b (by simp; omega) (fun e => hne e.symm), Lib.alloc_old w1 _ b hlt]
    exact hbk
  have d0 : w2.cell? ⟨b, 0, none⟩ = some (.pointer (some ⟨b, 0, none⟩)) := by rw [Lib.cell_of_heap hb2]; rfl
  have d1 : w2.cell? ⟨b, 1, none⟩ = some v := by rw [Lib.cell_of_heap hb2]; rfl
  have f1 : w2.frozen? ⟨b, 1, none⟩ = false := Lib.frozen_of_heap hb2 1
  obtain ⟨g, cap, rfl⟩ : ∃ g cap, v' = .slice (some ⟨g, 0, none⟩) (bs.length + 1) cap := by
    rcases hown'.2 with ⟨_, h0⟩ | ⟨g, cap, cur, hv, _⟩
    · omega
    · exact ⟨g, cap, hv⟩
  go_wp2
  go_ret
  refine ⟨rfl, ?_, ?_⟩
  · exact Lib.BuilderAt.put (T := 92) (e := 5) hB hb2 (bs' := bs ++ [.int .u8 c]) (by simpa using hown') (by decide)
  · exact ((hb1.alloc (by have := hb1.size; omega) _).grown hgrow (by have := hb1.size; simp; omega) (fun k hk => (hown.lt k hk).1)).setCell (p := ⟨b, 1, none⟩) hB _

theorem byteCells_bts (l : List UInt8) : Lib.byteCells l = bts l := by
  simp [Lib.byteCells, bts, ub]

set_option maxHeartbeats 2000000 in
set_option maxRecDepth 100000 in
theorem hex_any (a : Option Addr) (n c : Nat) (l : List UInt8) (w : World) (h : Bs w a n c l) (hn : n ≤ 70368744177663) :
    Calls Tryd.prog 26 #[.slice a n c] w fun e w' => e = .returned (.string ⟨(hexOf l).toArray⟩) ∧ Below w.heap.size w w' := by
  have hx := h.blen
  have H1 := Lib.hid h
  have HX := Lib.hid hx
  clear h hx
  go_enter Tryd.func26, Tryd.ntmps26
  go_wp2
  go_loopw [8] (fun i wr => ∃ k : Nat, k ≤ n ∧ i = .int .i64 k ∧ Hid (Lib.IsBuilder 92 5 w.heap.size w.heap.size (bts (hexOf (l.take k))) wr) ∧ Hid (Below w.heap.size w wr)) (fun i _ => n - (intOf i).toNat)
  case atStart => 
    exact ⟨0, Nat.zero_le _, rfl, Lib.fresh_isBuilder 92 5 w, (Below.refl _ _).alloc (Nat.le_refl _) _⟩
  case round =>
    obtain ⟨k, hk, rfl, HB, HW⟩ := hrel
    by_cases hlt : k < n
    · obtain ⟨b1, o1, rfl, hc1⟩ := (H1.out.below HW.out).bat hlt
      have g1 := hc1 k (by rw [HX.out]; exact hlt)
      have i0 : (0 : Int) ≤ (k : Int) := by omega
      have i1 : (k : Int) < (n : Int) := by omega
      have HT := Lib.hid (hexOf_take l k (by rw [HX.out]; exact hlt))
      have hsz : (bts (hexOf (l.take k))).length + 1 + 1 ≤ 140737488355328 := by rw [bts_length, hexOf_length, List.length_take]; omega
      have HZ := Lib.hid hsz
      clear hc1 hsz
      generalize l[k]'(by rw [HX.out]; exact hlt) = b at g1 HT
      have hX : Hid (hex2 b = [dig (b.toNat / 16), dig (b.toNat % 16)]) := rfl
      have e1 := hi_eq b
      have e2 := lo_eq b
      have h16 : b.toNat / 16 < 16 := by have := b.toNat_lt; omega
      have h15 : b.toNat % 16 < 16 := by omega
      have s1 := fun wq => idx16 (b.toNat / 16) h16 wq
      have s2 := fun wq => idx16 (b.toNat % 16) h15 wq
      generalize b.toNat / 16 = x at *
      generalize b.toNat % 16 = y at *
      have KA := Lib.hid (writeByte_any w.heap.size w.heap.size _ (ub (dig x)) wr HB.out (by have := HZ.out; omega) HW.out.size)
      go_wp2_with (go_at_call 63; with_reducible refine KA.out.mono ?_; rintro e w3 ⟨rfl, hba, hwa⟩; have HBA := Lib.hid hba; have HWA := Lib.hid hwa; clear hba hwa)
      have KB := Lib.hid (writeByte_any w.heap.size w.heap.size _ (ub (dig y)) w3 (Or.inr HBA.out) (by have := HZ.out; simp only [List.length_append, List.length_cons, List.length_nil]; omega) (Nat.le_trans HW.out.size HWA.out.size))
      go_wp2_with (go_at_call 63; with_reducible refine KB.out.mono ?_; rintro e w4 ⟨rfl, hba, hwa⟩; have HBB := Lib.hid hba; have HWB := Lib.hid hwa; clear hba hwa)
      have HN : Hid (Lib.IsBuilder 92 5 w.heap.size w.heap.size (bts (hexOf (l.take (k + 1)))) w4) := by
        have := HBB.out
        rw [List.append_assoc] at this
        refine Or.inr ?_
        rw [HT.out, hX.out, bts_append]
        exact this
      have HW4 := Lib.hid ((HW.out.trans HWA.out).trans HWB.out)
      go_roundw
      case rel => exact ⟨k + 1, by omega, by go_num, HN, HW4⟩
      case measure => simp [intOf]; omega
    · obtain rfl : n = k := by omega
      have hF : l.take n = l := List.take_of_length_le (by rw [HX.out]; omega)
      have KC := Lib.hid (Tryd.Builder_String_any w.heap.size w.heap.size (hexOf l) wr (by have := HB.out; rw [hF] at this; rw [byteCells_bts]; exact this) HW.out.size)
      clear hF
      go_wp2_with (go_at_call 64; refine KC.out.mono ?_; rintro e w3 ⟨rfl, hwa⟩; have HWA := Lib.hid hwa; clear hwa)
      go_ret
      exact ⟨rfl, HW.out.trans HWA.out⟩
end Go.Proofs.YteceagldjnfeeaaDoor

/- The walks of both Roots. -/
import Derived.Test.YteceagldjnfeeaaDoorMk5
namespace Go.Proofs.YteceagldjnfeeaaDoor
open Go.RowKit
set_option linter.unusedVariables false
set_option linter.unusedSimpArgs false

def rootC (ps : List KV) : Int := if ordered ps then 0 else 60
def rootB (ps : List KV) : List UInt8 := if ordered ps then rootH ps else []
def RetRoot (D : Nat) (ps : List KV) (w : World) (e : Ending) (w' : World) : Prop :=
  ∃ a n c, e = .returned (.tuple #[.slice a n c, .int .i64 (rootC ps)]) ∧ Below w.heap.size w w' ∧ Pt w' D (.slice a n c) (rootB ps)
theorem ordered_len {ps : List KV} (h : ordered ps = true) : ps.length ≤ 65536 := by
  unfold ordered at h
  simp only [Bool.and_eq_true, decide_eq_true_eq] at h
  exact h.2
theorem ordered_key {ps : List KV} (h : ordered ps = true) (k : Nat) (hk : k < ps.length) : (keyAt ps k).length ≤ maxLen := by
  unfold ordered at h
  simp only [Bool.and_eq_true] at h
  have := okTo_at h.1 hk
  unfold okAt goodK at this
  simp only [Bool.and_eq_true, decide_eq_true_eq] at this
  have := this.1.1.2
  unfold maxLen
  omega
theorem Pt.zero (w : World) (D : Nat) : Pt w D (.slice none 0 0) [] := ⟨none, 0, 0, rfl, Sl.nil w, .inl rfl⟩

set_option maxRecDepth 100000 in
set_option maxHeartbeats 4000000 in
theorem root_any {C : Nat} (D : Nat) (a : Option Addr) (n c : Nat) (ps : List KV) (w : World) (hp : Prs w C a n c ps) (hK : KAt w) :
    Calls Tryd.prog 50 #[.slice a n c] w (RetRoot D ps w) := by
  have HP := Lib.hid hp
  have HK := Lib.hid hK
  have HL := Lib.hid hp.len
  clear hp hK
  by_cases ho : ordered ps = true
  · have hC : Hid (rootC ps = 0) := by show _ = _; unfold rootC; rw [if_pos ho]
    have hR : Hid (rootB ps = topH ps.length (rowH (ps.map leafH))) := by show _ = _; unfold rootB; rw [if_pos ho]; rfl
    have hn : n ≤ 65536 := by rw [← HL.out]; exact ordered_len ho
    have HKL : Hid (∀ k, k < n → (keyAt ps k).length ≤ maxLen) := fun k hk => ordered_key ho k (by rw [HL.out]; exact hk)
    have HO := Lib.hid ho
    have HN := Lib.hid hn
    clear ho
    by_cases h0 : n = 0
    · subst h0
      clear hn
      have hT : Hid (topH ps.length (rowH (ps.map leafH)) = topH 0 []) := by show _ = _; rw [HL.out]; rfl
      go_enter Tryd.func50, Tryd.ntmps50
      go_wp2_with (fail)
      refine (ordered_any a 0 c ps w HP.out).mono ?_
      rintro e w1 ⟨rfl, hb1⟩
      have HB1 := Lib.hid hb1
      rw [HO.out]
      clear hb1
      go_wp2_with (fail)
      refine (top_any D (D := 0) 0 [] none 0 0 w1 (by omega) (Pt.zero w1 0) (HK.out.below HK.out.pos HB1.out)).mono ?_
      rintro e w2 ⟨a2, n2, c2, rfl, hb2, hp2⟩
      have HB2 := Lib.hid (below_then HB1.out HB1.out.size hb2)
      have HP2 := Lib.hid hp2
      clear hb2 hp2
      go_wp2_with (fail)
      go_ret2
      refine ⟨a2, n2, c2, by rw [hC.out]; rfl, HB2.out, ?_⟩
      rw [hR.out, hT.out]
      exact HP2.out
    · have i1 : ((n : Int) == 0) = false := by rw [beq_eq_false_iff_ne]; omega
      have hn1 : 1 ≤ n := by omega
      have HN1 := Lib.hid hn1
      have hT : Hid (topH ps.length (rowH (ps.map leafH)) = topH n (rowH (ps.map leafH))) := by show _ = _; rw [HL.out]
      clear h0 hn hn1
      go_enter Tryd.func50, Tryd.ntmps50
      go_wp2_with (fail)
      refine (ordered_any a n c ps w HP.out).mono ?_
      rintro e w1 ⟨rfl, hb1⟩
      have HB1 := Lib.hid hb1
      rw [HO.out]
      clear hb1
      go_wp2_with (fail)
      have HB2 := Lib.hid (below_then HB1.out HB1.out.size (row_below w1 (.cells #[.slice none 0 0] 77)).out)
      generalize w1.alloc (.cells #[.slice none 0 0] 77) = w2 at HB2 ⊢
      refine (hashes_any a n c ps w2 (HP.out.below HB2.out) HN.out HKL.out (HK.out.below HK.out.pos HB2.out)).mono ?_
      rintro e w3 ⟨g, rfl, hb3, hh3⟩
      have HB3 := Lib.hid (below_then HB2.out HB2.out.size hb3)
      have HH3 := Lib.hid hh3
      clear hb3 hh3
      go_wp2_with (fail)
      refine (row_any _ n g 0 n n (ps.map leafH) w3 (Nat.le_refl _) HN1.out HN.out HH3.out (HK.out.below HK.out.pos HB3.out)).mono ?_
      rintro e w4 ⟨a4, n4, c4, rfl, hb4, hp4⟩
      have HB4 := Lib.hid (below_then HB3.out HB3.out.size hb4)
      have HP4 := Lib.hid hp4
      clear hb4 hp4
      go_wp2_with (fail)
      refine (top_any D n _ a4 n4 c4 w4 HN.out HP4.out (HK.out.below HK.out.pos HB4.out)).mono ?_
      rintro e w5 ⟨a5, n5, c5, rfl, hb5, hp5⟩
      have HB5 := Lib.hid (below_then HB4.out HB4.out.size hb5)
      have HP5 := Lib.hid hp5
      clear hb5 hp5
      go_wp2_with (fail)
      go_ret2
      refine ⟨a5, n5, c5, by rw [hC.out]; rfl, HB5.out, ?_⟩
      rw [hR.out, hT.out]
      exact HP5.out
  · have ho1 : ordered ps = false := by simpa using ho
    have hC : Hid (rootC ps = 60) := by show _ = _; unfold rootC; rw [if_neg ho]
    have hR : Hid (rootB ps = []) := by show _ = _; unfold rootB; rw [if_neg ho]
    have HO := Lib.hid ho1
    clear ho ho1
    go_enter Tryd.func50, Tryd.ntmps50
    go_wp2_with (fail)
    refine (ordered_any a n c ps w HP.out).mono ?_
    rintro e w1 ⟨rfl, hb1⟩
    have HB1 := Lib.hid hb1
    rw [HO.out]
    clear hb1
    go_wp2_with (fail)
    go_ret2
    refine ⟨none, 0, 0, by rw [hC.out]; rfl, HB1.out, ?_⟩
    rw [hR.out]
    exact Pt.zero _ _

set_option maxRecDepth 100000 in
set_option maxHeartbeats 4000000 in
theorem rroot_any {C : Nat} (D : Nat) (a : Option Addr) (n c : Nat) (ps : List KV) (w : World) (hp : Prs w C a n c ps) (hK : KAt1 w) :
    Calls Tryd.prog 51 #[.slice a n c] w (RetRoot D ps w) := by
  have HP := Lib.hid hp
  have HK := Lib.hid hK
  have HL := Lib.hid hp.len
  clear hp hK
  by_cases ho : ordered ps = true
  · have hC : Hid (rootC ps = 0) := by show _ = _; unfold rootC; rw [if_pos ho]
    have hR : Hid (rootB ps = topH ps.length (rowH (ps.map leafH))) := by show _ = _; unfold rootB; rw [if_pos ho]; rfl
    have hn : n ≤ 65536 := by rw [← HL.out]; exact ordered_len ho
    have HKL : Hid (∀ k, k < n → (keyAt ps k).length ≤ maxLen) := fun k hk => ordered_key ho k (by rw [HL.out]; exact hk)
    have HO := Lib.hid ho
    have HN := Lib.hid hn
    clear ho
    by_cases h0 : n = 0
    · subst h0
      clear hn
      have hT : Hid (topH ps.length (rowH (ps.map leafH)) = tagged wRoot [be8 0]) := by show _ = _; rw [HL.out]; rfl
      go_enter Tryd.func51, Tryd.ntmps51
      go_wp2_with (fail)
      refine (right_any a 0 c ps w HP.out).mono ?_
      rintro e w1 ⟨rfl, hb1⟩
      have HB1 := Lib.hid hb1
      rw [HO.out]
      clear hb1
      go_wp2_with (fail)
      refine (rmnumber_any D 0 w1 (by omega)).mono ?_
      rintro e w2 ⟨a2, n2, c2, rfl, hb2, hp2⟩
      have HB2 := Lib.hid (below_then HB1.out HB1.out.size hb2)
      have HP2 := Lib.hid hp2
      clear hb2 hp2
      go_wp2_with (fail)
      refine (rtagged_row (D := D) D wRoot _ 1 [be8 0] w2 (by decide) rfl (by omega) (.cons HP2.out .nil) (HK.out.below HK.out.pos HB2.out)).mono ?_
      rintro e w3 ⟨a3, n3, c3, rfl, hb3, hp3⟩
      have HB3 := Lib.hid (below_then HB2.out HB2.out.size hb3)
      have HP3 := Lib.hid hp3
      clear hb3 hp3
      go_wp2_with (fail)
      go_ret2
      refine ⟨a3, n3, c3, by rw [hC.out]; rfl, HB3.out, ?_⟩
      rw [hR.out, hT.out]
      exact HP3.out
    · have i1 : ((n : Int) == 0) = false := by rw [beq_eq_false_iff_ne]; omega
      have hn1 : 1 ≤ n := by omega
      have HN1 := Lib.hid hn1
      have hT : Hid (topH ps.length (rowH (ps.map leafH)) = tagged wRoot [be8 n, rowH (ps.map leafH)]) := by show _ = _; rw [HL.out]; unfold topH; rw [if_neg h0]
      obtain ⟨b, o, va, hab, _⟩ := HP.out.cells 0 (by omega)
      subst hab
      clear h0 hn hn1
      go_enter Tryd.func51, Tryd.ntmps51
      go_wp2_with (fail)
      refine (right_any (some ⟨b, o, none⟩) n c ps w HP.out).mono ?_
      rintro e w1 ⟨rfl, hb1⟩
      have HB1 := Lib.hid hb1
      rw [HO.out]
      clear hb1
      go_wp2_with (fail)
      refine (rmnumber_any D n w1 (by have := HN.out; omega)).mono ?_
      rintro e w2 ⟨a2, n2, c2, rfl, hb2, hp2⟩
      have HB2 := Lib.hid (below_then HB1.out HB1.out.size hb2)
      have HP2 := Lib.hid hp2
      clear hb2 hp2
      go_wp2_with (fail)
      refine (rrow_any n b o n c ps w2 (Nat.le_refl _) HN1.out HN.out HKL.out (HP.out.below HB2.out) (HK.out.below HK.out.pos HB2.out)).mono ?_
      rintro e w3 ⟨a3, n3, c3, rfl, hb3, hp3⟩
      have HB3 := Lib.hid (below_then HB2.out HB2.out.size hb3)
      have HP3 := Lib.hid (hp3.mono (Nat.le_max_left C D))
      have HP23 := Lib.hid ((HP2.out.below hb3).mono (Nat.le_max_right C D))
      clear hb3 hp3
      go_wp2_with (fail)
      refine (rtagged_row (D := max C D) D wRoot _ 2 [be8 n, rowH (ps.map leafH)] w3 (by decide) rfl (by omega) (.cons HP23.out (.cons HP3.out .nil)) (HK.out.below HK.out.pos HB3.out)).mono ?_
      rintro e w5 ⟨a5, n5, c5, rfl, hb5, hp5⟩
      have HB5 := Lib.hid (below_then HB3.out HB3.out.size hb5)
      have HP5 := Lib.hid hp5
      clear hb5 hp5
      go_wp2_with (fail)
      go_ret2
      refine ⟨a5, n5, c5, by rw [hC.out]; rfl, HB5.out, ?_⟩
      rw [hR.out, hT.out]
      exact HP5.out
  · have ho1 : ordered ps = false := by simpa using ho
    have hC : Hid (rootC ps = 60) := by show _ = _; unfold rootC; rw [if_neg ho]
    have hR : Hid (rootB ps = []) := by show _ = _; unfold rootB; rw [if_neg ho]
    have HO := Lib.hid ho1
    clear ho ho1
    go_enter Tryd.func51, Tryd.ntmps51
    go_wp2_with (fail)
    refine (right_any a n c ps w HP.out).mono ?_
    rintro e w1 ⟨rfl, hb1⟩
    have HB1 := Lib.hid hb1
    rw [HO.out]
    clear hb1
    go_wp2_with (fail)
    go_ret2
    refine ⟨none, 0, 0, by rw [hC.out]; rfl, HB1.out, ?_⟩
    rw [hR.out]
    exact Pt.zero _ _
end Go.Proofs.YteceagldjnfeeaaDoor

/- The walks of bytes.Compare, of the search's comparison and of slices.BinarySearchFunc over pairs in order. -/
import Derived.Test.YteceagldjnfeeaaDoorMk11
import Derived.Test.YteceagldjnfeeaaDoorMkLaw
import Derived.Laws.Externs
import Derived.Lib.Bytealg
import Derived.Lib.BytesEntry
namespace Go.Proofs.YteceagldjnfeeaaDoor
open Go.RowKit
set_option linter.unusedVariables false
set_option linter.unusedSimpArgs false

theorem run_bytesOf_bs {w : World} {a : Option Addr} {n c : Nat} {l : List UInt8} (h : Bs w a n c l) : (Extern.Bytes.bytesOf (.slice a n c)).run Tryd.prog w = .ok ⟨l.toArray⟩ w := by
  have hl := h.blen
  cases a with
  | none =>
    have hz : l = [] := by
      cases l with
      | nil => rfl
      | cons x r => obtain ⟨b, o, e, _⟩ := h.bat (j := 0) (by rw [← hl]; simp); cases e
    subst hz
    rfl
  | some ad =>
    have hx := Lib.run_loadBytesX (P := Tryd.prog) w (l.map ub) ad .empty (fun j x hj => by
      rw [List.getElem?_map] at hj
      by_cases hjl : j < l.length
      · rw [List.getElem?_eq_getElem hjl] at hj
        cases hj
        obtain ⟨b, o, e, hc⟩ := h.bat (j := j) (by rw [← hl]; exact hjl)
        cases e
        rw [add_plain]
        exact hc j hjl
      · rw [List.getElem?_eq_none (by omega)] at hj; cases hj)
    rw [List.length_map, hl] at hx
    show (Extern.Bytes.loadBytes ad n .empty).run Tryd.prog w = _
    rw [hx]
    congr 2
    show ByteArray.empty.data ++ (Lib.bytesOf (l.map ub)).toArray = l.toArray
    have : Lib.bytesOf (l.map ub) = l := by
      unfold Lib.bytesOf
      rw [List.map_map]
      conv => rhs; rw [← List.map_id l]
      apply List.map_congr_left
      intro x _
      simp [ub]
    rw [this]
    show (#[] : Array UInt8) ++ l.toArray = l.toArray
    simp
theorem run_compare_bs {w : World} {a a2 : Option Addr} {n c n2 c2 : Nat} {xs ys : List UInt8} (h : Bs w a n c xs) (h2 : Bs w a2 n2 c2 ys) :
    (Extern.BytealgCompare.compare #[.slice a n c, .slice a2 n2 c2]).run Tryd.prog w = .ok (.int .i64 (Lib.compareBytes xs ys)) w := by
  change Sem.run Tryd.prog (do pure (goInt (Extern.BytealgCompare.cmp (← Extern.Bytes.bytesOf (.slice a n c)) (← Extern.Bytes.bytesOf (.slice a2 n2 c2))))) w = _
  rw [Sem.run_bind, run_bytesOf_bs h, Result.andThen_ok, Sem.run_bind, run_bytesOf_bs h2, Result.andThen_ok, Sem.run_pure, Lib.cmp_eq]
  rfl

set_option maxRecDepth 100000 in
set_option maxHeartbeats 1000000 in
theorem compare_any (a a2 : Option Addr) (n c n2 c2 : Nat) (xs ys : List UInt8) (w : World) (h : Bs w a n c xs) (h2 : Bs w a2 n2 c2 ys) :
    Calls Tryd.prog 98 #[.slice a n c, .slice a2 n2 c2] w fun e w' => e = .returned (.int .i64 (Lib.compareBytes xs ys)) ∧ w = w' := by
  have hc := Lib.hid (run_compare_bs h h2)
  clear h h2
  go_enter Tryd.func98, Tryd.ntmps98
  go_wp2
  rw [run_callFunc_extern Tryd.func124 (by kernel_rfl) (by kernel_rfl) (by kernel_rfl) (e := Extern.BytealgCompare.compare) (by kernel_rfl), hc.out]
  simp only [Result.andThen]
  rw [Oper.upon_value]
  go_wp2
  go_ret
  exact ⟨rfl, rfl⟩

theorem cmp_lt : ∀ a b : List UInt8, Lib.compareBytes a b < 0 ↔ blt a b = true
  | [], [] => by simp [Lib.compareBytes, blt_irrefl]
  | [], _ :: _ => by simp [Lib.compareBytes, blt_nil_left]
  | _ :: _, [] => by simp [Lib.compareBytes, blt_nil_right]
  | a :: x, b :: y => by
    have ih := cmp_lt x y
    rw [blt_cons]
    unfold Lib.compareBytes
    by_cases h1 : a < b
    · simp [h1]
    · by_cases h2 : b < a
      · have hne : ¬ a = b := fun e => by subst e; exact h1 h2
        simp [h1, h2, hne]
      · have he : a = b := by
          apply UInt8.toNat_inj.1
          rw [UInt8.lt_iff_toNat_lt] at h1 h2
          omega
        subst he
        simp [h1, ih]
theorem cmp_eq0 : ∀ a b : List UInt8, Lib.compareBytes a b = 0 ↔ a = b
  | [], [] => by simp [Lib.compareBytes]
  | [], _ :: _ => by simp [Lib.compareBytes]
  | _ :: _, [] => by simp [Lib.compareBytes]
  | a :: x, b :: y => by
    have ih := cmp_eq0 x y
    unfold Lib.compareBytes
    by_cases h1 : a < b
    · have hne : ¬ a = b := fun e => by subst e; exact UInt8.lt_irrefl a h1
      simp [h1, hne]
    · by_cases h2 : b < a
      · have hne : ¬ a = b := fun e => by subst e; exact h1 h2
        simp [h1, h2, hne]
      · have he : a = b := by
          apply UInt8.toNat_inj.1
          rw [UInt8.lt_iff_toNat_lt] at h1 h2
          omega
        subst he
        simp [h1, ih]

set_option maxRecDepth 100000 in
set_option maxHeartbeats 1000000 in
theorem cmp_any (k key : List UInt8) (a : Option Addr) (n c : Nat) (w : World) (hk : k.length ≤ maxLen) (hkey : key.length ≤ maxLen) :
    Calls Tryd.prog 97 #[.agg #[str k, .slice a n c], str key] w fun e w' => e = .returned (.int .i64 (Lib.compareBytes k key)) ∧ Below w.heap.size w w' := by
  have HB0 := row_below w (.cells #[str k, .slice a n c] 45)
  have g0 : (w.alloc (.cells #[str k, .slice a n c] 45)).heap[w.heap.size]? = some (.cells #[str k, .slice a n c] 45 (0, 0)) := heap_alloc_new w _
  have z0 : (w.alloc (.cells #[str k, .slice a n c] 45)).cell? ⟨w.heap.size, 0, none⟩ = some (str k) := by rw [cell_of_row _ _ _ _ _ _ g0]; rfl
  have hcv := fun wx => Lib.run_convert_string_bytes (P := Tryd.prog) wx 9 22 5 ⟨k.toArray⟩ Tryd.underlying9 Tryd.underlying22 Tryd.underlying5
  have hcv2 := fun wx => Lib.run_convert_string_bytes (P := Tryd.prog) wx 9 22 5 ⟨key.toArray⟩ Tryd.underlying9 Tryd.underlying22 Tryd.underlying5
  have HB1 := Lib.hid (below_then HB0.out HB0.out.size (bytesWorld_below (w.alloc (.cells #[str k, .slice a n c] 45)) ⟨k.toArray⟩))
  have HB2 := Lib.hid (below_then HB1.out HB1.out.size (bytesWorld_below (Lib.bytesWorld (w.alloc (.cells #[str k, .slice a n c] 45)) 5 ⟨k.toArray⟩) ⟨key.toArray⟩))
  have hz : (w.alloc (.cells #[str k, .slice a n c] 45)).heap.size = w.heap.size + 1 := Array.size_push _
  have hp1 := (bytesWorld_sl (w.alloc (.cells #[str k, .slice a n c] 45)) k hk).below (bytesWorld_below (Lib.bytesWorld (w.alloc (.cells #[str k, .slice a n c] 45)) 5 ⟨k.toArray⟩) ⟨key.toArray⟩)
  rw [hz] at hp1
  have HP1 := Lib.hid hp1
  have HP2 := Lib.hid (bytesWorld_sl (Lib.bytesWorld (w.alloc (.cells #[str k, .slice a n c] 45)) 5 ⟨k.toArray⟩) key hkey)
  clear hz hp1 g0
  go_enter Tryd.func97, Tryd.ntmps97
  go_wp2_with (fail)
  clear hcv hcv2 z0
  refine (compare_any _ _ _ _ _ _ _ _ _ HP1.out HP2.out).mono ?_
  rintro e w' ⟨rfl, rfl⟩
  go_wp2_with (fail)
  go_ret
  exact ⟨rfl, HB2.out⟩

theorem run_shr1 (x : Int) (h0 : 0 ≤ x) (h1 : x ≤ 9223372036854775807) (w : World) : (binOp .shr 76 (.int .u64 x) (.int .u64 1)).run Tryd.prog w = .ok (.int .u64 (x / 2)) w := by
  have hx : IntKind.u64.wrap (x / 2) = x / 2 := IntWalk.u64_in _ (by omega)
  go_simp

/-- The search among pairs in order: where the key's place is, and whether it is there. -/
theorem search_end {n i j B : Nat} (hB : B ≤ n) (hi : i ≤ B) (hj : B ≤ j) (h : ¬ i < j) : i = B := by omega

set_option maxRecDepth 100000 in
set_option maxHeartbeats 8000000 in
theorem bsf_any {C : Nat} (a : Option Addr) (n c : Nat) (ps : List KV) (key : List UInt8) (w : World) (hp : Prs w C a n c ps) (ho : okTo ps ps.length = true) (hn : n ≤ 65536) (hkl : ∀ k, k < n → (keyAt ps k).length ≤ maxLen) (hkey : key.length ≤ maxLen) :
    Calls Tryd.prog 96 #[.slice a n c, str key, .func (.func 97) #[] #[]] w fun e w' => e = .returned (.tuple #[.int .i64 (below ps key), .bool (thereB ps key)]) ∧ Below w.heap.size w w' := by
  have HP := Lib.hid hp
  have HL := Lib.hid hp.len
  have HT : Hid (∀ k, k < n → blt (keyAt ps k) key = decide (k < below ps key)) := fun k hk => below_tells ho key k (by rw [HL.out]; exact hk)
  have HBL : Hid (below ps key ≤ n) := by have := below_le ps key; rw [HL.out] at this; exact this
  have HKL := Lib.hid hkl
  have HKEY := Lib.hid hkey
  have hth : Hid (thereB ps key = (decide (below ps key < n) && decide (keyAt ps (below ps key) = key))) := by show _ = _; unfold thereB; rw [HL.out]
  clear hp ho hkl hkey
  generalize below ps key = B at *
  have n1 : (n : Int) ≤ 65536 := by omega
  go_enter Tryd.func96, Tryd.ntmps96
  go_wp2_with (fail)
  go_loopw [9, 10] (fun x y wr => ∃ i j : Nat, x = .int .i64 i ∧ y = .int .i64 j ∧ i ≤ B ∧ B ≤ j ∧ j ≤ n ∧ Hid (Below w.heap.size w wr)) (fun x y _ => ((intOf y) - (intOf x)).toNat)
  case atStart => exact ⟨0, n, rfl, rfl, by omega, HBL.out, Nat.le_refl _, Below.refl _ _⟩
  case round =>
    obtain ⟨i, j, rfl, rfl, hi, hj, hjn, HB⟩ := hrel
    by_cases hlt : i < j
    · have h1 : i ≤ (i + j) / 2 := by omega
      have h2 : (i + j) / 2 < j := by omega
      have i1 : (i : Int) < (j : Int) := by omega
      have i2 : (j : Int) ≤ 65536 := by omega
      have i3 : (0 : Int) ≤ (i : Int) := by omega
      have q0 : IntKind.u64.wrap ((i : Int) + (j : Int)) = (i : Int) + (j : Int) := IntWalk.u64_in _ (by omega)
      have hsh := fun wx => run_shr1 ((i : Int) + (j : Int)) (by omega) (by omega) wx
      obtain ⟨b, o, va, hab, g1, g2, hv⟩ := (HP.out.below HB.out).cells ((i + j) / 2) (by omega)
      subst hab
      obtain ⟨a2, n2, c2, hva, _⟩ := hv
      subst hva
      have HTH := Lib.hid (HT.out ((i + j) / 2) (by omega))
      have HKH := Lib.hid (HKL.out ((i + j) / 2) (by omega))
      generalize keyAt ps ((i + j) / 2) = kk at g1 HTH HKH
      have hx : (((i + j) / 2 : Nat) : Int) = ((i : Int) + (j : Int)) / 2 := by omega
      have HX := Lib.hid hx
      clear hx
      have HB2 := HB
      go_wp2_with (fail)
      refine (cmp_any kk key a2 n2 c2 wr HKH.out HKEY.out).mono ?_
      rintro e w5 ⟨rfl, hb5⟩
      have HB5 := Lib.hid (below_then HB.out HB.out.size hb5)
      clear hb5 g1 g2
      by_cases hc : Lib.compareBytes kk key < 0
      · have hlt2 : (i + j) / 2 < B := by
          have h := (cmp_lt kk key).1 hc
          rw [HTH.out] at h
          simpa using h
        go_wp2_with (fail)
        exact ⟨⟨(i + j) / 2 + 1, j, by congr 1, rfl, by omega, hj, hjn, HB5⟩, by simp [intOf]; omega⟩
      · have hge : B ≤ (i + j) / 2 := by
          have h : ¬ blt kk key = true := fun h => hc ((cmp_lt kk key).2 h)
          rw [HTH.out] at h
          simpa using h
        go_wp2_with (fail)
        exact ⟨⟨i, (i + j) / 2, rfl, by congr 1, hi, hge, by omega, HB5⟩, by simp [intOf]; omega⟩
    · obtain rfl : i = B := search_end HBL.out hi hj hlt
      have i1 : ¬ (i : Int) < (j : Int) := by omega
      by_cases hin : i < n
      · have i2 : (i : Int) < (n : Int) := by omega
        have i3 : (0 : Int) ≤ (i : Int) := by omega
        obtain ⟨b, o, va, hab, g1, g2, hv⟩ := (HP.out.below HB.out).cells i hin
        subst hab
        obtain ⟨a2, n2, c2, hva, _⟩ := hv
        subst hva
        have HKH := Lib.hid (HKL.out i hin)
        have hth2 : Hid (thereB ps key = (Lib.compareBytes (keyAt ps i) key == 0)) := by
          show _ = _
          rw [hth.out, decide_eq_true hin, Bool.true_and, Bool.eq_iff_iff]
          simp [cmp_eq0]
        generalize keyAt ps i = kk at g1 HKH hth2
        go_wp2_with (fail)
        refine (cmp_any kk key a2 n2 c2 wr HKH.out HKEY.out).mono ?_
        rintro e w5 ⟨rfl, hb5⟩
        have HB5 := Lib.hid (below_then HB.out HB.out.size hb5)
        clear hb5 g1 g2
        go_wp2_with (fail)
        go_ret2
        exact ⟨by rw [hth2.out]; rfl, HB5.out⟩
      · have i2 : ¬ (i : Int) < (n : Int) := by omega
        have i3 : (n : Int) ≤ (i : Int) := by omega
        have hth2 : Hid (thereB ps key = false) := by
          show _ = _
          rw [hth.out, decide_eq_false hin, Bool.false_and]
        go_wp2_with (fail)
        go_ret2
        exact ⟨by rw [hth2.out]; rfl, HB.out⟩
end Go.Proofs.YteceagldjnfeeaaDoor

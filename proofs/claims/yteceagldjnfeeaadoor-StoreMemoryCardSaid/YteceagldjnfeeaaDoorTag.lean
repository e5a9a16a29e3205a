/- The contracts of sha.Tagged and of the reference's Tagged: both are one function of the word and the parts. -/
import Derived.Test.YteceagldjnfeeaaDoorRSum
namespace Go.Proofs.YteceagldjnfeeaaDoor
open Go.RowKit
set_option linter.unusedVariables false
set_option linter.unusedSimpArgs false

/-- A word and parts, one behind the other. -/
def tagBytes (word : List UInt8) (ls : List (List UInt8)) : List UInt8 := ls.foldl (fun b p => b ++ field p) (field word)
def tagged (word : List UInt8) (ls : List (List UInt8)) : List UInt8 := sha (tagBytes word ls)
theorem tagged_length (word : List UInt8) (ls : List (List UInt8)) : (tagged word ls).length = 32 := sha_length _
theorem field_length_le (x : List UInt8) : (field x).length ≤ 65539 := by
  simp only [field, List.length_append, List.length_cons, List.length_nil, List.length_take]
  omega
theorem tagBytes_snoc (word : List UInt8) (ls : List (List UInt8)) (p : List UInt8) : tagBytes word (ls ++ [p]) = tagBytes word ls ++ field p := by
  simp [tagBytes, List.foldl_append]
theorem tagBytes_take (word : List UInt8) (ls : List (List UInt8)) (k : Nat) (h : k < ls.length) : tagBytes word (ls.take (k + 1)) = tagBytes word (ls.take k) ++ field ls[k] := by
  rw [List.take_succ_eq_append_getElem h, tagBytes_snoc]
theorem tagBytes_length_le (word : List UInt8) (ls : List (List UInt8)) (k : Nat) (h : k ≤ ls.length) : (tagBytes word (ls.take k)).length ≤ 65539 * (k + 1) := by
  induction k with
  | zero => simpa [tagBytes] using field_length_le word
  | succ k ih =>
    rw [tagBytes_take word ls k (by omega), List.length_append]
    have := ih (by omega)
    have := field_length_le ls[k]
    omega
theorem tagBytes_all (word : List UInt8) (ls : List (List UInt8)) (k : Nat) (h : k = ls.length) : tagBytes word (ls.take k) = tagBytes word ls := by
  subst h; rw [List.take_length]

/-- New bytes, the slice written out. -/
theorem RetB.slice {l : List UInt8} {w : World} {e : Ending} {w' : World} (h : RetB l w e w') : ∃ a n c, e = .returned (.slice a n c) ∧ Below w.heap.size w w' ∧ Bs w' a n c l := by
  obtain ⟨v, rfl, hb, ho⟩ := h
  obtain ⟨a, c, rfl, hs⟩ := own_sl ho
  exact ⟨a, _, c, rfl, hb, hs⟩
theorem RetN.slice {l : List UInt8} {n : Nat} {w : World} {e : Ending} {w' : World} (h : RetN l n w e w') : ∃ g c, e = .returned (.slice (some ⟨g, 0, none⟩) n c) ∧ Below w.heap.size w w' ∧ w.heap.size ≤ g ∧ Bs w' (some ⟨g, 0, none⟩) n c l := by
  obtain ⟨g, c, rfl, hb, hg, ho⟩ := h
  obtain ⟨a', c', e, hs⟩ := own_sl ho
  cases e
  exact ⟨g, c, rfl, hb, hg, hs⟩
theorem RetN.before {l : List UInt8} {n : Nat} {w wa : World} {e : Ending} {w' : World} (h : RetN l n wa e w') (hb : Below w.heap.size w wa) : RetN l n w e w' := by
  obtain ⟨g, c, he, hb1, hg, ho⟩ := h
  exact ⟨g, c, he, below_then hb hb.size hb1, Nat.le_trans hb.size hg, own_mono ho hb.size⟩

set_option maxRecDepth 100000 in
set_option maxHeartbeats 1000000 in
theorem tagged_any (s : ByteArray) (a : Option Addr) (n c : Nat) (vs : List Value) (ls : List (List UInt8)) (w : World) (hs : s.size ≤ 140737488355328) (h : Sl w a n c vs) (hp : Parts w vs ls) (hn : n ≤ 1000) (hK : KAt w) :
    Calls Tryd.prog 30 #[.string s, .slice a n c] w (RetN (tagged s.data.toList ls) 32 w) := by
  have hvl : ls.length = n := by rw [← hp.length, h.len]
  have H := Lib.hid h
  have HP := Lib.hid hp
  have HV := Lib.hid hvl
  have HK := Lib.hid hK
  have K1 := Lib.hid (wireT_any s w hs)
  clear h hp hvl hK hs
  go_enter Tryd.func30, Tryd.ntmps30
  go_wp2_with (go_at_call 31; refine K1.out.mono ?_; rintro e w1 h1; have H1 := Lib.hid h1.slice; clear h1; obtain ⟨a1, m1, c1, rfl, hb1, hs1⟩ := H1.out; have HB1 := Lib.hid hb1; have HS1 := Lib.hid hs1; clear hb1 hs1 H1)
  go_loopw [5, 12] (fun v i wr => ∃ k nb : Nat, ∃ ab : Option Addr, ∃ cb : Nat, k ≤ n ∧ i = .int .i64 k ∧ v = .slice ab nb cb ∧ Hid (Below w.heap.size w wr) ∧ Hid (Bs wr ab nb cb (tagBytes s.data.toList (ls.take k)))) (fun _ i _ => n - (intOf i).toNat)
  case atStart => exact ⟨0, _, a1, c1, by omega, rfl, rfl, HB1, HS1⟩
  case round =>
    clear HB1 HS1
    obtain ⟨k, nb, ab, cb, hk, rfl, rfl, HB, HS⟩ := hrel
    have hle := tagBytes_length_le s.data.toList ls k (by rw [HV.out]; exact hk)
    have hnb := HS.out.blen
    have hnb2 : nb ≤ 65539 * 1001 := by
      have : 65539 * (k + 1) ≤ 65539 * 1001 := Nat.mul_le_mul_left _ (by omega)
      omega
    clear hle hnb
    by_cases hlt : k < n
    · obtain ⟨b, o, rfl, hc⟩ := (H.out.below HB.out).at hlt
      have hg := hc k (by rw [H.out.len]; exact hlt)
      obtain ⟨a2, n2, c2, e2, hs2⟩ := (HP.out.later HB.out).get k (by rw [H.out.len]; exact hlt) (by rw [HV.out]; exact hlt)
      rw [e2] at hg
      have i0 : (0 : Int) ≤ (k : Int) := by omega
      have i1 : (k : Int) < (n : Int) := by omega
      have K2 := Lib.hid (wireB_any ab a2 nb cb n2 c2 _ _ wr HS.out hs2 (by omega))
      have HT := Lib.hid (tagBytes_take s.data.toList ls k (by rw [HV.out]; exact hlt))
      clear hc e2 hs2
      go_wp2_with (go_at_call 65; refine K2.out.mono ?_; rintro e w3 h3; have H3 := Lib.hid h3.slice; clear h3; obtain ⟨a3, m3, c3, rfl, hb3, hs3⟩ := H3.out; have HB3 := Lib.hid hb3; have HS3 := Lib.hid hs3; clear hb3 hs3 H3)
      have HB4 := Lib.hid (below_then HB.out HB.out.size HB3.out)
      go_roundw
      case rel => exact ⟨k + 1, _, _, _, by omega, by go_num, rfl, HB4, by rw [HT.out]; exact HS3⟩
      case measure => simp [intOf]; omega
    · obtain rfl : n = k := by omega
      have HQ := Lib.hid (tagBytes_all s.data.toList ls n HV.out.symm)
      have K3 := Lib.hid (sum_any ab nb cb _ wr HS.out (by omega) (HK.out.below HK.out.pos HB.out))
      go_wp2_with (go_at_call 22; refine K3.out.mono ?_; rintro e w3 h3; have H3 := Lib.hid h3; clear h3; obtain ⟨g3, c3, rfl, h5⟩ := H3.out; have H5 := Lib.hid h5; clear h5)
      have hfin : RetN (tagged s.data.toList ls) 32 w (.returned (.slice (some ⟨g3, 0, none⟩) 32 c3)) w3 := by
        unfold tagged
        rw [← HQ.out]
        exact RetN.before H3.out HB.out
      go_ret
      exact hfin

set_option maxRecDepth 100000 in
set_option maxHeartbeats 1000000 in
theorem rtagged_any (s : ByteArray) (a : Option Addr) (n c : Nat) (vs : List Value) (ls : List (List UInt8)) (w : World) (hs : s.size ≤ 140737488355328) (h : Sl w a n c vs) (hp : Parts w vs ls) (hn : n ≤ 1000) (hK : KAt1 w) :
    Calls Tryd.prog 32 #[.string s, .slice a n c] w (RetN (tagged s.data.toList ls) 32 w) := by
  have hvl : ls.length = n := by rw [← hp.length, h.len]
  have H := Lib.hid h
  have HP := Lib.hid hp
  have HV := Lib.hid hvl
  have HK := Lib.hid hK
  have K1 := Lib.hid (ref2T_any s w hs)
  clear h hp hvl hK hs
  go_enter Tryd.func32, Tryd.ntmps32
  go_wp2_with (go_at_call 29; refine K1.out.mono ?_; rintro e w1 h1; have H1 := Lib.hid h1.slice; clear h1; obtain ⟨a1, m1, c1, rfl, hb1, hs1⟩ := H1.out; have HB1 := Lib.hid hb1; have HS1 := Lib.hid hs1; clear hb1 hs1 H1)
  go_loopw [5, 12] (fun v i wr => ∃ k nb : Nat, ∃ ab : Option Addr, ∃ cb : Nat, k ≤ n ∧ i = .int .i64 k ∧ v = .slice ab nb cb ∧ Hid (Below w.heap.size w wr) ∧ Hid (Bs wr ab nb cb (tagBytes s.data.toList (ls.take k)))) (fun _ i _ => n - (intOf i).toNat)
  case atStart => exact ⟨0, _, a1, c1, by omega, rfl, rfl, HB1, HS1⟩
  case round =>
    clear HB1 HS1
    obtain ⟨k, nb, ab, cb, hk, rfl, rfl, HB, HS⟩ := hrel
    have hle := tagBytes_length_le s.data.toList ls k (by rw [HV.out]; exact hk)
    have hnb := HS.out.blen
    have hnb2 : nb ≤ 65539 * 1001 := by
      have : 65539 * (k + 1) ≤ 65539 * 1001 := Nat.mul_le_mul_left _ (by omega)
      omega
    clear hle hnb
    by_cases hlt : k < n
    · obtain ⟨b, o, rfl, hc⟩ := (H.out.below HB.out).at hlt
      have hg := hc k (by rw [H.out.len]; exact hlt)
      obtain ⟨a2, n2, c2, e2, hs2⟩ := (HP.out.later HB.out).get k (by rw [H.out.len]; exact hlt) (by rw [HV.out]; exact hlt)
      rw [e2] at hg
      have i0 : (0 : Int) ≤ (k : Int) := by omega
      have i1 : (k : Int) < (n : Int) := by omega
      have K2 := Lib.hid (ref2B_any ab a2 nb cb n2 c2 _ _ wr HS.out hs2 (by omega))
      have HT := Lib.hid (tagBytes_take s.data.toList ls k (by rw [HV.out]; exact hlt))
      clear hc e2 hs2
      go_wp2_with (go_at_call 28; refine K2.out.mono ?_; rintro e w3 h3; have H3 := Lib.hid h3.slice; clear h3; obtain ⟨a3, m3, c3, rfl, hb3, hs3⟩ := H3.out; have HB3 := Lib.hid hb3; have HS3 := Lib.hid hs3; clear hb3 hs3 H3)
      have HB4 := Lib.hid (below_then HB.out HB.out.size HB3.out)
      go_roundw
      case rel => exact ⟨k + 1, _, _, _, by omega, by go_num, rfl, HB4, by rw [HT.out]; exact HS3⟩
      case measure => simp [intOf]; omega
    · obtain rfl : n = k := by omega
      have HQ := Lib.hid (tagBytes_all s.data.toList ls n HV.out.symm)
      have K3 := Lib.hid (rsum_any ab nb cb _ wr HS.out (by omega) (HK.out.below HK.out.pos HB.out))
      go_wp2_with (go_at_call 23; refine K3.out.mono ?_; rintro e w3 h3; have H3 := Lib.hid h3; clear h3; obtain ⟨g3, c3, rfl, h5⟩ := H3.out; have H5 := Lib.hid h5; clear h5)
      have hfin : RetN (tagged s.data.toList ls) 32 w (.returned (.slice (some ⟨g3, 0, none⟩) 32 c3)) w3 := by
        unfold tagged
        rw [← HQ.out]
        exact RetN.before H3.out HB.out
      go_ret
      exact hfin

end Go.Proofs.YteceagldjnfeeaaDoor

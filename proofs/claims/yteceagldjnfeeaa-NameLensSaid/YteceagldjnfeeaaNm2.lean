/- The walks of the package isthmusref05. -/
import Derived.Test.YteceagldjnfeeaaNm
namespace Go.Proofs.Yteceagldjnfeeaa
open Go.RowKit
set_option linter.unusedVariables false
set_option linter.unusedSimpArgs false

/-! ### Words, by places -/
def wk (l : List UInt8) : Nat → List (List UInt8) × Nat
  | 0 => ([], 0)
  | k + 1 => if k = l.length ∨ l.getD k 0 = slash then ((wk l k).1 ++ [(l.drop (wk l k).2).take (k - (wk l k).2)], k + 1) else wk l k
theorem wk_inv (l : List UInt8) (k : Nat) (hk : k ≤ l.length) : (wk l k).2 ≤ k ∧ words l = (wk l k).1 ++ words (l.drop (wk l k).2) ∧ slash ∉ (l.drop (wk l k).2).take (k - (wk l k).2) ∧ (wk l k).1.length ≤ k := by
  induction k with
  | zero => simp [wk]
  | succ k ih =>
    obtain ⟨h1, h2, h3, h4⟩ := ih (by omega)
    rw [wk]
    have hne : ¬ k = l.length := by omega
    have hsplit : l.drop (wk l k).2 = (l.drop (wk l k).2).take (k - (wk l k).2) ++ l.getD k 0 :: l.drop (k + 1) := by
      have e1 := (List.take_append_drop (k - (wk l k).2) (l.drop (wk l k).2)).symm
      rw [List.drop_drop, show (wk l k).2 + (k - (wk l k).2) = k by omega, List.drop_eq_getElem_cons (l := l) (i := k) (by omega)] at e1
      rw [List.getD_eq_getElem?_getD, List.getElem?_eq_getElem (by omega)]
      exact e1
    by_cases hs : l.getD k 0 = slash
    · rw [if_pos (.inr hs)]
      refine ⟨Nat.le_refl _, ?_, by simp, by simp; omega⟩
      have hc : cutAt (l.drop (wk l k).2) = some ((l.drop (wk l k).2).take (k - (wk l k).2), l.drop (k + 1)) := by
        rw [hs] at hsplit
        have := cutAt_append _ (l.drop (k + 1)) h3
        rw [← hsplit] at this
        exact this
      rw [h2, words_some hc]
      simp
    · rw [if_neg (by intro h; rcases h with h | h; exact hne h; exact hs h)]
      refine ⟨by omega, h2, ?_, by omega⟩
      have e2 : (l.drop (wk l k).2).take (k + 1 - (wk l k).2) = (l.drop (wk l k).2).take (k - (wk l k).2) ++ [l.getD k 0] := by
        rw [show k + 1 - (wk l k).2 = (k - (wk l k).2) + 1 by omega, List.take_succ_eq_append_getElem (by rw [List.length_drop]; omega), List.getElem_drop]
        congr 2
        rw [List.getD_eq_getElem?_getD, List.getElem?_eq_getElem (by omega)]
        simp only [Option.getD_some]
        congr 1; omega
      rw [e2]
      intro hm
      rcases List.mem_append.1 hm with hm | hm
      · exact h3 hm
      · exact hs (List.mem_singleton.1 hm).symm
theorem wk_end (l : List UInt8) : (wk l (l.length + 1)).1 = words l := by
  obtain ⟨h1, h2, h3, h4⟩ := wk_inv l l.length (Nat.le_refl _)
  rw [wk, if_pos (.inl rfl), h2]
  have e : (l.drop (wk l l.length).2).take (l.length - (wk l l.length).2) = l.drop (wk l l.length).2 := List.take_of_length_le (by rw [List.length_drop]; omega)
  rw [e] at h3 ⊢
  rw [words_none ((cutAt_none _).2 h3)]
theorem words_le (l : List UInt8) : 1 ≤ (words l).length ∧ (words l).length ≤ l.length + 1 := by
  have h := wk_end l
  rw [wk, if_pos (.inl rfl)] at h
  have h4 := (wk_inv l l.length (Nat.le_refl _)).2.2.2
  rw [← h, List.length_append]
  simp only [List.length_cons, List.length_nil]
  omega

/-! ### Rows of texts -/
abbrev str (l : List UInt8) : Value := .string ⟨l.toArray⟩
def strs (ls : List (List UInt8)) : List Value := ls.map str
theorem strs_length (ls : List (List UInt8)) : (strs ls).length = ls.length := by simp [strs]
theorem strs_get (ls : List (List UInt8)) (j : Nat) (h : j < ls.length) : (strs ls)[j]? = some (str (ls.getD j [])) := by
  rw [strs, List.getElem?_map, List.getElem?_eq_getElem h, List.getD_eq_getElem?_getD, List.getElem?_eq_getElem h]; rfl
theorem strs_append (a b : List (List UInt8)) : strs (a ++ b) = strs a ++ strs b := by simp [strs]
theorem strs_one (ls : List (List UInt8)) : ∀ u ∈ strs ls, u.oneCell' = true := by
  intro u hu
  obtain ⟨b, _, rfl⟩ := List.mem_map.1 hu
  rfl
theorem info9 : (Try.prog.info? 9).map (fun i => (i.zero, i.size, i.bytes)) = some (some (.string ⟨#[]⟩), 1, 16) := by kernel_rfl
theorem row_below (w : World) (o : Obj) : Hid (Below w.heap.size w (w.alloc o)) := (Below.refl _ _).alloc (Nat.le_refl _) _
theorem str_eta (s : ByteArray) : Value.string s = str (tx s) := rfl
theorem ext_eq (s : ByteArray) (f k : Nat) : s.extract f k = ⟨(((tx s).drop f).take (k - f)).toArray⟩ := by
  apply ByteArray.ext
  rw [ByteArray.data_extract]
  apply Array.ext'
  simp [Array.toList_extract, List.extract_eq_take_drop]

/-- append(s, t) on a row of texts of the call's own. -/
theorem app_t {w w0 : World} {ops : Array Oper} {rest : List Oper} {o : Oper} {ac : Act} {Q : Exit → Act → World → Prop} (hgd : o.guard = none) (s x : Operand)
    (ho : o.op = .call { callee := .builtin .append, args := #[s, x], argTypes := #[46, 46] })
    (v : Value) (ls : List (List UInt8)) (hs : ac.eval s = v) (HO : Hid (w.ownsRow w0.heap.size 9 1 v ls.length (strs ls))) (HB : Hid (Below w0.heap.size w0 w))
    (xv : Value) (l : List UInt8) (hd : Hid (xv = str l)) (hx : ac.eval x = .slice (some ⟨w.heap.size, 0, none⟩) 1 1) (hlen : Hid (ls.length ≤ 1000000))
    (h : ∀ v' w', Hid (w'.ownsRow w0.heap.size 9 1 v' (ls ++ [l]).length (strs (ls ++ [l]))) → Hid (Below w0.heap.size w0 w') → wpList Try.prog ops Q rest (ac.put o.dst v') w') : wpList Try.prog ops Q (o :: rest) ac (w.alloc (.cells #[xv] 9)) := by
  have hl : ls.length ≤ 1000000 := hlen
  have hb : Below w.heap.size w (w.alloc (.cells #[xv] 9)) := (row_below w _).out
  have hsl := Sl.of_block (heap_alloc_new w (.cells #[xv] 9)) (show (#[xv] : Array Value).size ≤ maxLen by simp [maxLen])
  have e : [xv] = strs [l] := by rw [hd.out]; rfl
  have hsl2 : Sl (w.alloc (.cells #[xv] 9)) (some ⟨w.heap.size, 0, none⟩) 1 1 (strs [l]) := by rw [← e]; exact hsl
  refine wpList_append_src hgd s x 46 ho w0.heap.size 9 (.string ⟨#[]⟩) 16 Try.underlying46 info9 rfl v _ _ hs (own_keep HO.out hb) _ 1 1 _ hx hsl2 (strs_one _) (by unfold maxLen; omega) (by omega) (Nat.le_trans HB.out.size hb.size) ?_
  intro v' w' ho' hg' _
  have hB' := below_then HB.out HB.out.size hb
  refine h v' w' ?_ (hB'.grown hg' hB'.size fun j hj => (HO.out.lt j hj).1)
  rw [List.length_append, strs_append]
  exact ho'

/-! ### Small, digit, Ident -/
set_option maxRecDepth 100000 in
theorem small_any (x : UInt8) (w : World) : Calls Try.prog 30 #[.int .u8 (ub x)] w fun e w' => e = .returned (.bool (smallB x)) ∧ w = w' := by
  have h0 := ub_nonneg x
  have h1 := ub_le x
  have hv : Hid (smallB x = (decide (97 ≤ ub x) && decide (ub x ≤ 122))) := by
    show _ = _
    unfold smallB ub
    congr 1 <;> (congr 1; rw [eq_iff_iff]; omega)
  go_enter Try.func30, Try.ntmps30
  by_cases h : 97 ≤ ub x
  · go_wp2
    go_ret
    exact ⟨by rw [hv.out, decide_eq_true h, Bool.true_and]; rfl, rfl⟩
  · have h2 : ub x < 97 := by omega
    go_wp2
    go_ret
    exact ⟨by rw [hv.out, decide_eq_false (by omega), Bool.false_and]; rfl, rfl⟩
set_option maxRecDepth 100000 in
theorem digit_any (x : UInt8) (w : World) : Calls Try.prog 31 #[.int .u8 (ub x)] w fun e w' => e = .returned (.bool (digitB x)) ∧ w = w' := by
  have h0 := ub_nonneg x
  have h1 := ub_le x
  have hv : Hid (digitB x = (decide (48 ≤ ub x) && decide (ub x ≤ 57))) := by
    show _ = _
    unfold digitB ub
    congr 1 <;> (congr 1; rw [eq_iff_iff]; omega)
  go_enter Try.func31, Try.ntmps31
  by_cases h : 48 ≤ ub x
  · go_wp2
    go_ret
    exact ⟨by rw [hv.out, decide_eq_true h, Bool.true_and]; rfl, rfl⟩
  · have h2 : ub x < 48 := by omega
    go_wp2
    go_ret
    exact ⟨by rw [hv.out, decide_eq_false (by omega), Bool.false_and]; rfl, rfl⟩

theorem small_is (x : UInt8) (b : Bool) (w : World) (h : smallB x = b) : Calls Try.prog 30 #[.int .u8 (ub x)] w fun e w' => e = .returned (.bool b) ∧ w = w' := by subst h; exact small_any x w
theorem digit_is (x : UInt8) (b : Bool) (w : World) (h : digitB x = b) : Calls Try.prog 31 #[.int .u8 (ub x)] w fun e w' => e = .returned (.bool b) ∧ w = w' := by subst h; exact digit_any x w
theorem first_sign (l : List UInt8) (h : identB l = true) : smallB (l.getD 0 0) = true := by
  have h1 := ident_len h
  unfold identB at h
  simp only [Bool.and_eq_true] at h
  have h2 := List.all_eq_true.1 h.2 0 (List.mem_range.2 h1.1)
  simpa [signB] using h2
theorem ident_late (l : List UInt8) : identB l = (decide (l ≠ []) && decide (l.length ≤ 32) && smallB (l.getD 0 0) && (List.range l.length).all fun i => lateB (l.getD i 0)) := by
  rw [Bool.eq_iff_iff]
  unfold identB signsTo
  simp only [Bool.and_eq_true, decide_eq_true_eq, List.all_eq_true, List.mem_range]
  constructor
  · rintro ⟨⟨h1, h2⟩, h3⟩
    have hl : 0 < l.length := List.length_pos_iff.2 h1
    refine ⟨⟨⟨h1, h2⟩, by simpa [signB] using h3 0 hl⟩, fun i hi => ?_⟩
    have := h3 i hi
    unfold signB at this
    unfold lateB
    simp only [Bool.or_eq_true, Bool.and_eq_true, decide_eq_true_eq] at this ⊢
    rcases this with h | ⟨_, h⟩
    · exact .inl (.inl (.inl h))
    · rcases h with (h | h) | h
      · exact .inl (.inl (.inr h))
      · exact .inl (.inr h)
      · exact .inr h
  · rintro ⟨⟨⟨h1, h2⟩, h3⟩, h4⟩
    refine ⟨⟨h1, h2⟩, fun i hi => ?_⟩
    by_cases h0 : i = 0
    · subst h0; unfold signB; rw [h3, Bool.true_or]
    · have := h4 i hi
      unfold lateB at this
      unfold signB
      rw [decide_eq_true (show 0 < i by omega), Bool.true_and]
      simp only [Bool.or_eq_true, decide_eq_true_eq] at this ⊢
      rcases this with ((h | h) | h) | h
      · exact .inl h
      · exact .inr (.inl (.inl h))
      · exact .inr (.inl (.inr h))
      · exact .inr (.inr h)
def lateTo (l : List UInt8) (n : Nat) : Bool := (List.range n).all fun i => lateB (l.getD i 0)
theorem lateTo_succ (l : List UInt8) (n : Nat) : lateTo l (n + 1) = (lateTo l n && lateB (l.getD n 0)) := by simp [lateTo, List.range_succ]
theorem lateTo_false {l : List UInt8} {n i : Nat} (hi : i < n) (h : lateB (l.getD i 0) = false) : lateTo l n = false := by
  cases e : lateTo l n with
  | false => rfl
  | true => have := List.all_eq_true.1 e i (List.mem_range.2 hi); rw [h] at this; cases this

set_option maxRecDepth 100000 in
set_option maxHeartbeats 1000000 in
theorem rident_any (s : ByteArray) (w : World) (hs : s.size ≤ 140737488355328) :
    Calls Try.prog 16 #[.string s] w fun e w' => e = .returned (.bool (identB (tx s))) ∧ w = w' := by
  have hl := tx_len s
  by_cases h1 : 1 ≤ s.size ∧ s.size ≤ 32
  · obtain ⟨h0, h32⟩ := h1
    have hid : identB (tx s) = (smallB ((tx s).getD 0 0) && lateTo (tx s) s.size) := by
      rw [ident_late, decide_eq_true (show tx s ≠ [] from List.length_pos_iff.1 (by omega)), decide_eq_true (show (tx s).length ≤ 32 by omega), hl]; rfl
    have HID := Lib.hid hid
    have gk : ∀ (k : Nat) (h : k < s.data.size), s.data[k] = (tx s).getD k 0 := fun k h => (tx_at s k h).symm
    have GK := Lib.hid gk
    have i2 : (0 : Int) < (s.size : Int) := by omega
    have i3 : 0 < s.size := by omega
    clear hid hl gk
    by_cases hf : smallB ((tx s).getD 0 0) = true
    · have hf2 : smallB (s.data[0]'i3) = true := by rw [GK.out 0 i3]; exact hf
      go_enter Try.func16, Try.ntmps16
      go_wp2_with (fail)
      refine (small_is _ _ w hf2).mono ?_
      rintro e w' ⟨rfl, rfl⟩
      go_wp2_with (fail)
      go_loop [3] (fun i => ∃ k : Nat, k ≤ s.size ∧ i = .int .i64 k ∧ Hid (lateTo (tx s) k = true)) (fun i => s.size - (intOf i).toNat)
      case atStart => exact ⟨0, by omega, rfl, rfl⟩
      case round =>
        clear hf2
        obtain ⟨k, hk, rfl, hp⟩ := hrel
        by_cases hlt : k < s.size
        · have hgk := Lib.hid (GK.out k hlt)
          have hsu := Lib.hid (lateTo_succ (tx s) k)
          have hfa : Hid (lateB ((tx s).getD k 0) = false → identB (tx s) = false) := fun h => by
            rw [HID.out, lateTo_false hlt h, Bool.and_false]
          have j0 : (0 : Int) ≤ (k : Int) := by omega
          have j1 : (k : Int) < (s.size : Int) := by omega
          generalize (tx s).getD k 0 = x at hgk hsu hfa
          have e45 : ((x.toNat : Int) != 45) = !decide (x.toNat = 45) := by rw [bne, ← ub_is x 45]; rfl
          have e46 : ((x.toNat : Int) != 46) = !decide (x.toNat = 46) := by rw [bne, ← ub_is x 46]; rfl
          have E45 := Lib.hid e45
          have E46 := Lib.hid e46
          clear e45 e46
          have done : ∀ (z : Bool), Hid (lateB x = z) → Hid (z = true → lateTo (tx s) (k + 1) = true) := fun z hz h => by
            rw [hsu.out, hp.out, hz.out, h]; rfl
          by_cases hsm : smallB x = true
          · have hsm2 : smallB (s.data[k]'hlt) = true := by rw [hgk.out]; exact hsm
            have hlate : Hid (lateB x = true) := by show _ = _; unfold lateB; rw [hsm]; rfl
            go_wp2_with (fail)
            refine (small_is _ _ w hsm2).mono ?_
            rintro e w' ⟨rfl, rfl⟩
            go_wp2_with (fail)
            clear hsm2 hsm
            go_round
            case rel => exact ⟨k + 1, by omega, by go_num, done _ hlate rfl⟩
            case measure => simp [intOf]; omega
          · have hsm1 : smallB x = false := by simpa using hsm
            have hsm2 : smallB (s.data[k]'hlt) = false := by rw [hgk.out]; exact hsm1
            by_cases hdg : digitB x = true
            · have hdg2 : digitB (s.data[k]'hlt) = true := by rw [hgk.out]; exact hdg
              have hlate : Hid (lateB x = true) := by show _ = _; unfold lateB; rw [hsm1, hdg]; rfl
              go_wp2_with (fail)
              refine (small_is _ _ w hsm2).mono ?_
              rintro e w' ⟨rfl, rfl⟩
              go_wp2_with (fail)
              refine (digit_is _ _ w hdg2).mono ?_
              rintro e w' ⟨rfl, rfl⟩
              go_wp2_with (fail)
              clear hsm2 hsm hsm1 hdg hdg2
              go_round
              case rel => exact ⟨k + 1, by omega, by go_num, done _ hlate rfl⟩
              case measure => simp [intOf]; omega
            · have hdg1 : digitB x = false := by simpa using hdg
              have hdg2 : digitB (s.data[k]'hlt) = false := by rw [hgk.out]; exact hdg1
              have hlate : Hid (lateB x = (decide (x.toNat = 45) || decide (x.toNat = 46))) := by show _ = _; unfold lateB; rw [hsm1, hdg1]; rfl
              go_wp2_with (fail)
              refine (small_is _ _ w hsm2).mono ?_
              rintro e w' ⟨rfl, rfl⟩
              go_wp2_with (fail)
              refine (digit_is _ _ w hdg2).mono ?_
              rintro e w' ⟨rfl, rfl⟩
              clear hdg hsm
              by_cases h45 : x.toNat = 45
              · have e1 : (((s[k]'hlt).toNat : Int) != 45) = false := by show (((s.data[k]'hlt).toNat : Int) != 45) = false; rw [hgk.out, E45.out, decide_eq_true h45]; rfl
                have hl2 : Hid (lateB x = true) := by show _ = _; rw [hlate.out, decide_eq_true h45]; rfl
                clear h45
                go_wp2_with (fail)
                clear hsm2 hsm1 hdg1 hdg2 e1
                go_round
                case rel => exact ⟨k + 1, by omega, by go_num, done _ hl2 rfl⟩
                case measure => simp [intOf]; omega
              · have e1 : (((s[k]'hlt).toNat : Int) != 45) = true := by show (((s.data[k]'hlt).toNat : Int) != 45) = true; rw [hgk.out, E45.out, decide_eq_false h45]; rfl
                by_cases h46 : x.toNat = 46
                · have e2 : (((s[k]'hlt).toNat : Int) != 46) = false := by show (((s.data[k]'hlt).toNat : Int) != 46) = false; rw [hgk.out, E46.out, decide_eq_true h46]; rfl
                  have hl2 : Hid (lateB x = true) := by show _ = _; rw [hlate.out, decide_eq_true h46, Bool.or_true]
                  clear h45 h46
                  go_wp2_with (fail)
                  clear hsm2 hsm1 hdg1 hdg2 e1 e2
                  go_round
                  case rel => exact ⟨k + 1, by omega, by go_num, done _ hl2 rfl⟩
                  case measure => simp [intOf]; omega
                · have e2 : (((s[k]'hlt).toNat : Int) != 46) = true := by show (((s.data[k]'hlt).toNat : Int) != 46) = true; rw [hgk.out, E46.out, decide_eq_false h46]; rfl
                  have hl2 : Hid (identB (tx s) = false) := hfa.out (by rw [hlate.out, decide_eq_false h45, decide_eq_false h46]; rfl)
                  clear h45 h46
                  go_wp2_with (fail)
                  go_ret
                  exact ⟨by rw [hl2.out]; rfl, rfl⟩
        · obtain rfl : k = s.size := by omega
          have i5 : ¬ ((s.size : Int) < (s.size : Int)) := by omega
          have hr : Hid (identB (tx s) = true) := by show _ = _; rw [HID.out, hf, hp.out]; rfl
          go_wp2_with (fail)
          go_ret
          exact ⟨by rw [hr.out]; rfl, rfl⟩
    · have hf1 : smallB ((tx s).getD 0 0) = false := by simpa using hf
      have hf2 : smallB (s.data[0]'i3) = false := by rw [GK.out 0 i3]; exact hf1
      have hr : Hid (identB (tx s) = false) := by show _ = _; rw [HID.out, hf1]; rfl
      go_enter Try.func16, Try.ntmps16
      go_wp2_with (fail)
      refine (small_is _ _ w hf2).mono ?_
      rintro e w' ⟨rfl, rfl⟩
      go_wp2_with (fail)
      go_ret
      exact ⟨by rw [hr.out]; rfl, rfl⟩
  · have hr : Hid (identB (tx s) = false) := by
      show _ = _
      cases e : identB (tx s) with
      | false => rfl
      | true => have := ident_len e; omega
    by_cases h0 : s.size = 0
    · have hz : (s.size : Int) < 1 := by omega
      clear h0 hl h1
      go_enter Try.func16, Try.ntmps16
      go_wp2_with (fail)
      go_ret
      exact ⟨by rw [hr.out]; rfl, rfl⟩
    · have hz : ¬ (s.size : Int) < 1 := by omega
      have hz2 : (1 : Int) ≤ (s.size : Int) := by omega
      have hz3 : (32 : Int) < (s.size : Int) := by omega
      clear h0 hl h1
      go_enter Try.func16, Try.ntmps16
      go_wp2_with (fail)
      go_ret
      exact ⟨by rw [hr.out]; rfl, rfl⟩
end Go.Proofs.Yteceagldjnfeeaa

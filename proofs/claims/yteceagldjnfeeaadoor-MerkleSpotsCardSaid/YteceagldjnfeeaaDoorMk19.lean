/- The walks of slices.Clone of bytes and of merkle.row with a way. -/
import Derived.Test.YteceagldjnfeeaaDoorMkF
import Derived.Deep.RegionHeld3
import Derived.Deep.RegionLaw
import Derived.Outline
namespace Go.Proofs.YteceagldjnfeeaaDoor
open Go.RowKit
set_option linter.unusedVariables false
set_option linter.unusedSimpArgs false

set_option maxRecDepth 100000 in
set_option maxHeartbeats 2000000 in
theorem clone_any {D : Nat} (B : Nat) (a : Option Addr) (n c : Nat) (l : List UInt8) (w : World) (h : Pt w D (.slice a n c) l) (hn : n ≤ 140737488355328) :
    Calls Tryd.prog 70 #[.slice a n c] w (RetP B l w) := by
  have hs : Bs w a n c l := h.bs
  have hl := hs.blen
  rcases a with _ | ad
  · have hz : l = [] := by
      cases l with
      | nil => rfl
      | cons x r => obtain ⟨b, o, e, _⟩ := hs.bat (j := 0) (by rw [← hl]; simp); cases e
    subst hz
    clear h hs hl
    have HZ : Hid (Pt w B (.slice none 0 0) []) := Pt.zero w B
    have k0 := Lib.run_eql_slice_nil (P := Tryd.prog)
    go_enter Tryd.func70, Tryd.ntmps70
    go_wp2_with (fail)
    go_ret
    exact ⟨_, _, _, rfl, Below.refl _ _, HZ.out⟩
  · have HB : Hid (Below w.heap.size w (w.alloc (.cells #[] 5))) := row_below w _
    have HO : Hid ((w.alloc (.cells #[] 5)).ownsRow w.heap.size 5 1 (.slice (some ⟨w.heap.size, 0, none⟩) 0 0) ([] : List UInt8).length (bts [])) := World.ownsRow_lit w #[] 0 (Nat.le_refl _) (by unfold maxLen; omega) rfl
    have HS : Hid (Bs (w.alloc (.cells #[] 5)) (some ad) n c l) := hs.below HB.out
    have hlen : Hid (([] : List UInt8).length + n ≤ 140737488355328) := by show _ ≤ _; simpa using hn
    clear h hs hl
    have k0 := Lib.run_eql_slice_nil (P := Tryd.prog)
    go_enter Tryd.func70, Tryd.ntmps70
    go_wp2_with (at_builtin; refine app_bk (w0 := w) rfl (.tmp 5) (.tmp 6) rfl _ _ rfl HO HB _ _ _ _ rfl HS hlen ?_; intro v7 w7 HO7 HB7)
    obtain ⟨a7, c7, e7, hs7⟩ := own_sl HO7.out
    have HP7 : Hid (Pt w7 B v7 l) := Pt.own HO7.out
    subst e7
    clear hs7
    go_ret
    exact ⟨_, _, _, rfl, HB7.out, HP7.out⟩

theorem Hs.way {w0 w w1 : World} {D pb po b o n c : Nat} {t : TypeId} {cs : Array Value} {v v1 : Value} {ds d1 ls : List (List UInt8)} (h : Hs w D (some ⟨b, o, none⟩) n c ls) (h0 : WayS w0 D pb po t cs w v ds) (h1 : WayS w0 D pb po t cs w1 v1 d1) (hst : Stay D w w1) (hb : b < w0.heap.size) (hne : b ≠ pb) : Hs w1 D (some ⟨b, o, none⟩) n c ls := by
  obtain ⟨vs, hs, hp⟩ := h
  refine ⟨vs, ⟨hs.len, hs.cap, hs.big, fun j u hj => ?_⟩, hst.pts hp⟩
  obtain ⟨b', o', e, hc⟩ := hs.cells j u hj
  cases e
  refine ⟨b, o, rfl, ?_⟩
  have e0 := h0.fr.block b hb (fun e => hne (Option.some.inj e))
  have e1 := h1.fr.block b hb (fun e => hne (Option.some.inj e))
  unfold World.cell? at hc ⊢
  simp only at hc ⊢
  rw [e1, ← e0]; exact hc

/-- One step of a way: the element stands in a new block, and goes behind what is gathered. -/
theorem step_way {w0 : World} {D pb po : Nat} {t : TypeId} {cs : Array Value} {w : World} {ls : List (List UInt8)} {ops : Array Oper} {o : Oper} {ac : Act} {K : Act → World → Prop} {Q : Exit → Act → World → Prop} {E : Prop} (hgd : o.guard = none) (s x : Operand)
    (ho : o.op = .call { callee := .builtin .append, args := #[s, x], argTypes := #[77, 77] }) (v : Value) (hs : ac.eval s = v) (HW : Hid (WayS w0 D pb po t cs w v ls)) (HC : Hid (D ≤ pb ∧ pb < w0.heap.size ∧ t ≠ 5 ∧ t ≠ 22 ∧ po < cs.size))
    (xv : Value) (l : List UInt8) (hx : ac.eval x = .slice (some ⟨w.heap.size, 0, none⟩) 1 1) (hp : Hid (Pt w D xv l)) (hlen : Hid (ls.length ≤ 1000000))
    (h : ∀ a' n' c' w', w'.cell? ⟨pb, po, none⟩ = some v → w'.frozen? ⟨pb, po, none⟩ = false → Hid (WayS w0 D pb po t cs (w'.setCell ⟨pb, po, none⟩ (.slice a' n' c')) (.slice a' n' c') (ls ++ [l]) ∧ Stay D w (w'.setCell ⟨pb, po, none⟩ (.slice a' n' c'))) → K (ac.put o.dst (.slice a' n' c')) w') :
    if Region.wanted o (yielded ops ac.tmps) = true then Oper.wp Tryd.prog o ac (w.alloc (.cells #[xv] 22)) K Q else E := by
  rw [if_pos (by simp [Region.wanted, hgd])]
  obtain ⟨c1, c2, c3, c4, c5⟩ := HC.out
  obtain ⟨v', w', hr, hc, hf, hst, hall⟩ := way_app HW.out (by omega) c2 o.type xv l hp.out hlen.out
  have hh := hall c3 c4 c1
  obtain ⟨vs, hl⟩ := hh.1.row
  obtain ⟨a', c', rfl, _⟩ := hl.sl
  unfold Oper.wp execOp
  simp only [ho, resolve, invoke, builtin, Sem.run_bind, Sem.run_pure, Result.andThen_ok, List.map_toArray, List.map_cons, List.map_nil, hs, hx, hr]
  exact h a' _ c' w' (by rw [hc]; exact HW.out.cell c5) hf hh

/-- What merkle.row does with a way. -/
def RetWy (w0 : World) (D pb po : Nat) (t : TypeId) (cs : Array Value) (ls ds : List (List UInt8)) (w : World) (e : Ending) (w' : World) : Prop :=
  ∃ a n c v, e = .returned (.slice a n c) ∧ Pt w' D (.slice a n c) (rowH ls) ∧ WayS w0 D pb po t cs w' v ds ∧ Stay D w w'

set_option maxRecDepth 100000 in
set_option maxHeartbeats 16000000 in
theorem row_way (w0 : World) (D pb po : Nat) (t : TypeId) (cs : Array Value) (b : Nat) (hC : D ≤ pb ∧ pb < w0.heap.size ∧ t ≠ 5 ∧ t ≠ 22 ∧ po < cs.size) (hb : b < w0.heap.size) (hne : b ≠ pb) (h0 : pb ≠ 0) (hK : KAt w0) (m : Nat) :
    ∀ (o n c i : Nat) (ls : List (List UInt8)) (w : World) (v : Value) (done : List (List UInt8)), n ≤ m → i < n → n ≤ 65536 → done.length + n ≤ 900000 → (∀ x ∈ ls, x.length = 32) → Hs w D (some ⟨b, o, none⟩) n c ls → WayS w0 D pb po t cs w v done →
    Calls Tryd.prog 88 #[.slice (some ⟨b, o, none⟩) n c, .int .i64 i, .pointer (some ⟨pb, po, none⟩)] w (RetWy w0 D pb po t cs ls (done ++ pathH ls i) w) := by
  have HC := Lib.hid hC
  have HKW : Hid (∀ (w : World) (v : Value) (ds : List (List UInt8)), WayS w0 D pb po t cs w v ds → KAt w) := fun w v ds h => hK.grown h.fr h0
  clear hC
  induction m with
  | zero => intro o n c i ls w v done h1 h2; omega
  | succ m ih =>
    intro o n c i ls w v done hm hi hn hdl h32 hh hw
    have HLN := Lib.hid hh.len
    by_cases h2 : 2 ≤ n
    · have hlt := half_lt n h2
      have hp0 := half_pos n
      have hrow := rowH_two ls (by rw [HLN.out]; exact h2)
      have hpl := fun h => pathH_left ls i (by rw [HLN.out]; exact h2) h
      have hpr := fun h => pathH_right ls i (by rw [HLN.out]; exact h2) h
      rw [HLN.out] at hrow hpl hpr
      have hc := hh.caps
      have hf1 : ((n : Int) == 1) = false := by rw [beq_eq_false_iff_ne]; omega
      have hspl := split_ok n h2
      have t32 : ∀ x ∈ ls.take (half n), x.length = 32 := fun x hx => h32 x (List.mem_of_mem_take hx)
      have d32 : ∀ x ∈ ls.drop (half n), x.length = 32 := fun x hx => h32 x (List.mem_of_mem_drop hx)
      have hll : Hid ((rowH (ls.take (half n))).length = 32) := rowH_32 _ _ (Nat.le_refl _) (by rw [List.length_take, HLN.out]; omega) t32
      have hlr : Hid ((rowH (ls.drop (half n))).length = 32) := rowH_32 _ _ (Nat.le_refl _) (by rw [List.length_drop, HLN.out]; omega) d32
      generalize half n = k at *
      have hsl := fun wx => run_sl77_l wx b o n c k (by omega)
      have hsr := fun wx => run_sl77_r wx b o n c k (by omega) (by omega)
      have hwd : WayS w0 D pb po t cs w.drew v done := hw.below (Below.refl _ _).drew
      have hhd : Hs w.drew D (some ⟨b, o, none⟩) n c ls := hh.below (Below.refl _ _).drew
      by_cases hik : i < k
      · -- the way goes left
        have HP := Lib.hid (hpl hik)
        have CL : Hid (Calls Tryd.prog 88 #[.slice (some ⟨b, o, none⟩) k c, .int .i64 i, .pointer (some ⟨pb, po, none⟩)] w.drew (RetWy w0 D pb po t cs (ls.take k) (done ++ pathH (ls.take k) i) w.drew)) :=
          ih o k c i (ls.take k) w.drew v done (by omega) hik (by omega) (by omega) t32 (hhd.left k (by omega)) hwd
        have CR : Hid (∀ W, Hid (Hs W D (some ⟨b, o, none⟩) n c ls) → Hid (KAt W) → Calls Tryd.prog 88 #[.slice (some ⟨b, o + k, none⟩) (n - k) (c - k), .int .i64 (-1), .pointer (some ⟨pb, po, none⟩)] W (RetP D (rowH (ls.drop k)) W)) := fun W hW hKW =>
          row_any _ (n - k) b (o + k) (n - k) (c - k) (ls.drop k) W (Nat.le_refl _) (by omega) (by omega) (hW.out.right k (by omega)) hKW.out
        have hlen : Hid ((done ++ pathH (ls.take k) i).length ≤ 1000000) := by
          show _ ≤ _
          rw [List.length_append]
          have h3 := (way_ok _ (ls.take k) i (Nat.le_refl _) (by rw [List.length_take, HLN.out]; omega) t32).1
          have h4 := turns_length_le (ls.take k).length i
          have h5 : (ls.take k).length ≤ n := by rw [List.length_take, HLN.out]; omega
          rw [h3]
          omega
        have HHS : Hid (∀ w1 v1 d1, WayS w0 D pb po t cs w1 v1 d1 → Stay D w.drew w1 → Hs w1 D (some ⟨b, o, none⟩) n c ls) := fun w1 v1 d1 h1 hst => hhd.way hwd h1 hst hb hne
        have i0 : (0 : Int) ≤ (i : Int) := by omega
        have i2 : (i : Int) < (k : Int) := by omega
        have i9 : ¬ (0 : Int) ≤ -1 := by omega
        have HROW := Lib.hid hrow
        clear hh hrow ih hc hm hpl hpr h32 t32 d32 hK hw hwd hhd hi hik hdl hlt hp0 h2 hb hne h0
        generalize o + k = o2 at hsr CR
        generalize n - k = n2 at hsr CR
        generalize c - k = c2 at hsr CR
        go_enter Tryd.func88, Tryd.ntmps88
        go_wp2_with (fail)
        refine (hspl.out w (by omega)).mono ?_
        rintro e w' ⟨rfl, rfl⟩
        go_wp2_with (fail)
        go_region_held3 (fun _ => True)
          (first | trivial | go_keep)
          (first
            | (go_at_call_of 88 (Value.int IntKind.i64 (i : Int))
               refine CL.out.mono ?_
               rintro e w5 ⟨a5, n5, c5, v5, rfl, hp5, hw5, hst5⟩
               have HW5 := Lib.hid hw5
               have HP5 := Lib.hid hp5
               have HH5 := Lib.hid (HHS.out _ _ _ hw5 hst5)
               have HK5 := Lib.hid (HKW.out _ _ _ hw5)
               have HS5 := Lib.hid hst5
               clear hp5 hw5 hst5)
            | (go_at_call_of 88 (Value.slice (some ⟨b, o2, none⟩) n2 c2)
               refine (CR.out _ HH5 HK5).mono ?_
               rintro e w6 ⟨a6, n6, c6, rfl, hb6, hp6⟩
               have HW6 := Lib.hid (HW5.out.below hb6)
               have HP56 := Lib.hid (HP5.out.below hb6)
               have HP6 := Lib.hid hp6
               have HS6 := Lib.hid (HS5.out.trans (Stay.below hb6))
               clear hb6 hp6))
        have hpo := HC.out.2.2.2.2
        have cc6 := HW6.out.cell hpo
        have ff6 := HW6.out.frozen
        have KX : Hid (Calls Tryd.prog 70 #[.slice a6 n6 c6] w6.drew (RetP D (rowH (ls.drop k)) w6.drew)) :=
          clone_any D a6 n6 c6 _ w6.drew (HP6.out.below (Below.refl _ _).drew) (by have := HP6.out.bs.blen; rw [hlr.out] at this; omega)
        clear hpo
        go_wp2_with (fail)
        go_region_law (first
          | (refine step_way (w0 := w0) rfl (.tmp 52) (.tmp 55) rfl _ rfl HW7 HC _ _ rfl HP7 hlen ?_; intro a8 n8 c8 w8 cc8 ff8 HW8)
          | (go_simp
             go_at_call 70
             refine KX.out.mono ?_
             rintro e w7 ⟨a7, n7, c7, rfl, hb7, hp7⟩
             have hb67 := below_then (below_then (Below.refl w6.heap.size w6) (Nat.le_refl _) (Below.refl _ _).drew) (Nat.le_refl _) hb7
             have HW7 := Lib.hid (HW6.out.below hb67)
             have HP7 := Lib.hid hp7
             have HP567 := Lib.hid (HP56.out.below hb67)
             have HP67 := Lib.hid (HP6.out.below hb67)
             have HS7 := Lib.hid (HS6.out.trans (Stay.below hb67))
             have cc7 := HW7.out.cell HC.out.2.2.2.2
             have ff7 := HW7.out.frozen
             have cca7 := below_cell (row_below w7 (.cells #[.slice a7 n7 c7] 22)).out cc7
             clear hb7 hp7 hb67))
        all_goals (
          have HW9 := Lib.hid HW8.out.1
          have HPL := Lib.hid (HW8.out.2 _ _ HP567.out)
          have HPR := Lib.hid (HW8.out.2 _ _ HP67.out)
          have HS9 := Lib.hid (HS7.out.trans HW8.out.2)
          have HK9 := Lib.hid (HKW.out _ _ _ HW9.out)
          clear HW8 cc6 ff6 cc7 ff7 cca7 cc8 ff8
          generalize w8.setCell { block := pb, off := po } (.slice a8 n8 c8) = w9 at HW9 HPL HPR HS9 HK9 ⊢
          go_wp2_with (fail)
          refine (tagged_row (D := D) D wNode #[.slice a5 n5 c5, .slice a6 n6 c6] 2 [rowH (ls.take k), rowH (ls.drop k)] w9 (by decide) rfl (by omega) (.cons HPL.out (.cons HPR.out .nil)) HK9.out).mono ?_
          rintro e w10 ⟨a10, n10, c10, rfl, hb10, hp10⟩
          have HP10 := Lib.hid hp10
          have HW10 := Lib.hid (HW9.out.below hb10)
          have HS10 : Hid (Stay D w w10) := (Stay.below (Below.refl _ _).drew).trans (HS9.out.trans (Stay.below hb10))
          clear hb10 hp10
          go_wp2_with (fail)
          go_ret
          unfold RetWy
          rw [HROW.out, HP.out, ← List.append_assoc]
          exact ⟨_, _, _, _, rfl, HP10.out, HW10.out, HS10.out⟩)
      · -- the way goes right
        have hki : k ≤ i := by omega
        have HP := Lib.hid (hpr hik)
        have CL : Hid (Calls Tryd.prog 88 #[.slice (some ⟨b, o, none⟩) k c, .int .i64 (-1), .pointer (some ⟨pb, po, none⟩)] w.drew (RetP D (rowH (ls.take k)) w.drew)) :=
          row_any _ k b o k c (ls.take k) w.drew (Nat.le_refl _) hp0 (by omega) (hhd.left k (by omega)) (HKW.out _ _ _ hwd)
        have CR : Hid (∀ W, Hid (Hs W D (some ⟨b, o, none⟩) n c ls) → Hid (WayS w0 D pb po t cs W v done) → Calls Tryd.prog 88 #[.slice (some ⟨b, o + k, none⟩) (n - k) (c - k), .int .i64 ((i : Int) - (k : Int)), .pointer (some ⟨pb, po, none⟩)] W (RetWy w0 D pb po t cs (ls.drop k) (done ++ pathH (ls.drop k) (i - k)) W)) := fun W hW hW2 => by
          have e : ((i : Int) - (k : Int)) = ((i - k : Nat) : Int) := by omega
          rw [e]
          exact ih (o + k) (n - k) (c - k) (i - k) (ls.drop k) W v done (by omega) (by omega) (by omega) (by omega) d32 (hW.out.right k (by omega)) hW2.out
        have hlen : Hid ((done ++ pathH (ls.drop k) (i - k)).length ≤ 1000000) := by
          show _ ≤ _
          rw [List.length_append]
          have h3 := (way_ok _ (ls.drop k) (i - k) (Nat.le_refl _) (by rw [List.length_drop, HLN.out]; omega) d32).1
          have h4 := turns_length_le (ls.drop k).length (i - k)
          have h5 : (ls.drop k).length ≤ n := by rw [List.length_drop, HLN.out]; omega
          rw [h3]
          omega
        have HHD := Lib.hid hhd
        have HWD := Lib.hid hwd
        have i0 : (0 : Int) ≤ (i : Int) := by omega
        have i2 : (k : Int) ≤ (i : Int) := by omega
        have i3 : (i : Int) ≤ 65536 := by omega
        have i9 : ¬ (0 : Int) ≤ -1 := by omega
        have i8 : (0 : Int) ≤ (i : Int) - (k : Int) := by omega
        have HROW := Lib.hid hrow
        clear hh hrow ih hc hm hpl hpr h32 t32 d32 hK hw hwd hhd hi hik hdl hlt hp0 h2 hb hne h0 hki
        generalize i - k = ik at HP CR hlen
        generalize o + k = o2 at hsr CR
        generalize n - k = n2 at hsr CR
        generalize c - k = c2 at hsr CR
        go_enter Tryd.func88, Tryd.ntmps88
        go_wp2_with (fail)
        refine (hspl.out w (by omega)).mono ?_
        rintro e w' ⟨rfl, rfl⟩
        go_wp2_with (fail)
        go_region_held3 (fun _ => True)
          (first | trivial | go_keep)
          (first
            | (go_at_call_of 88 (Value.slice (some ⟨b, o, none⟩) k c)
               refine CL.out.mono ?_
               rintro e w5 ⟨a5, n5, c5, rfl, hb5, hp5⟩
               have HW5 := Lib.hid (HWD.out.below hb5)
               have HP5 := Lib.hid hp5
               have HH5 := Lib.hid (HHD.out.below hb5)
               have HS5 : Hid (Stay D w.drew w5) := Stay.below hb5
               clear hb5 hp5)
            | (go_at_call_of 88 (Value.slice (some ⟨b, o2, none⟩) n2 c2)
               refine (CR.out _ HH5 HW5).mono ?_
               rintro e w6 ⟨a6, n6, c6, v6, rfl, hp6, hw6, hst6⟩
               have HW6 := Lib.hid hw6
               have HP56 := Lib.hid (hst6 _ _ HP5.out)
               have HP6 := Lib.hid hp6
               have HS6 := Lib.hid (HS5.out.trans hst6)
               clear hp6 hw6 hst6))
        have hpo := HC.out.2.2.2.2
        have cc6 := HW6.out.cell hpo
        have ff6 := HW6.out.frozen
        have KX : Hid (Calls Tryd.prog 70 #[.slice a5 n5 c5] w6.drew (RetP D (rowH (ls.take k)) w6.drew)) :=
          clone_any D a5 n5 c5 _ w6.drew (HP56.out.below (Below.refl _ _).drew) (by have := HP56.out.bs.blen; rw [hll.out] at this; omega)
        clear hpo
        go_wp2_with (fail)
        go_region_law (first
          | (refine step_way (w0 := w0) rfl (.tmp 63) (.tmp 66) rfl _ rfl HW7 HC _ _ rfl HP7 hlen ?_; intro a8 n8 c8 w8 cc8 ff8 HW8)
          | (go_simp
             go_at_call 70
             refine KX.out.mono ?_
             rintro e w7 ⟨a7, n7, c7, rfl, hb7, hp7⟩
             have hb67 := below_then (below_then (Below.refl w6.heap.size w6) (Nat.le_refl _) (Below.refl _ _).drew) (Nat.le_refl _) hb7
             have HW7 := Lib.hid (HW6.out.below hb67)
             have HP7 := Lib.hid hp7
             have HP567 := Lib.hid (HP56.out.below hb67)
             have HP67 := Lib.hid (HP6.out.below hb67)
             have HS7 := Lib.hid (HS6.out.trans (Stay.below hb67))
             have cc7 := HW7.out.cell HC.out.2.2.2.2
             have ff7 := HW7.out.frozen
             have cca7 := below_cell (row_below w7 (.cells #[.slice a7 n7 c7] 22)).out cc7
             clear hb7 hp7 hb67))
        all_goals (
          have HW9 := Lib.hid HW8.out.1
          have HPL := Lib.hid (HW8.out.2 _ _ HP567.out)
          have HPR := Lib.hid (HW8.out.2 _ _ HP67.out)
          have HS9 := Lib.hid (HS7.out.trans HW8.out.2)
          have HK9 := Lib.hid (HKW.out _ _ _ HW9.out)
          clear HW8 cc6 ff6 cc7 ff7 cca7 cc8 ff8
          generalize w8.setCell { block := pb, off := po } (.slice a8 n8 c8) = w9 at HW9 HPL HPR HS9 HK9 ⊢
          go_wp2_with (fail)
          refine (tagged_row (D := D) D wNode #[.slice a5 n5 c5, .slice a6 n6 c6] 2 [rowH (ls.take k), rowH (ls.drop k)] w9 (by decide) rfl (by omega) (.cons HPL.out (.cons HPR.out .nil)) HK9.out).mono ?_
          rintro e w10 ⟨a10, n10, c10, rfl, hb10, hp10⟩
          have HP10 := Lib.hid hp10
          have HW10 := Lib.hid (HW9.out.below hb10)
          have HS10 : Hid (Stay D w w10) := (Stay.below (Below.refl _ _).drew).trans (HS9.out.trans (Stay.below hb10))
          clear hb10 hp10
          go_wp2_with (fail)
          go_ret
          unfold RetWy
          rw [HROW.out, HP.out, ← List.append_assoc]
          exact ⟨_, _, _, _, rfl, HP10.out, HW10.out, HS10.out⟩)
    · obtain rfl : n = 1 := by omega
      obtain rfl : i = 0 := by omega
      obtain ⟨b', o', a2, n2, c2, e, g1, hp⟩ := hh.at 0 (by omega)
      cases e
      have hr : Hid (rowH ls = ls.getD 0 []) := rowH_one ls (by rw [HLN.out]; omega)
      have hq : Hid (pathH ls 0 = []) := pathH_one ls 0 (by rw [HLN.out]; omega)
      have HP := Lib.hid hp
      have HW := Lib.hid hw
      have hc := hh.caps
      rw [Nat.add_zero] at g1
      clear hp hh hw ih hK
      go_enter Tryd.func88, Tryd.ntmps88
      go_wp2_with (fail)
      go_ret
      unfold RetWy
      rw [hr.out, hq.out, List.append_nil]
      exact ⟨_, _, _, _, rfl, HP.out, HW.out, Stay.refl _ _⟩
end Go.Proofs.YteceagldjnfeeaaDoor

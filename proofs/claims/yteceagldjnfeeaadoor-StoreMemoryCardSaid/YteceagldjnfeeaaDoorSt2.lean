/- The walks of the store's takes, Set, Del, Branch. -/
import Derived.Test.YteceagldjnfeeaaDoorSt1
import Derived.Test.YteceagldjnfeeaaDoorMkF
import Derived.Deep.RegionHeld3
import Derived.Laws.Pointers
import Derived.Outline
namespace Go.Proofs.YteceagldjnfeeaaDoor
open Go.RowKit Go.Maps
set_option linter.unusedVariables false
set_option linter.unusedSimpArgs false

/-- A store: its block holds its parent and its map. -/
structure Sto (B : Nat) (w : World) (p : Nat) (par : Option Addr) (b : Nat) (es : SM Ent) : Prop where
  blk : w.heap[p]? = some (.cells #[.pointer par, .map (some b)] 103 (0, 0))
  own : MapE B w b es
theorem Sto.ne {B : Nat} {w : World} {p b : Nat} {par : Option Addr} {es : SM Ent} (h : Sto B w p par b es) : p ≠ b := by
  rintro rfl
  obtain ⟨_, _, hb⟩ := h.own.blk
  rw [h.blk] at hb; cases hb
theorem Sto.below {B : Nat} {w w1 : World} {p b : Nat} {par : Option Addr} {es : SM Ent} (h : Sto B w p par b es) (hb : Below w.heap.size w w1) : Sto B w1 p par b es :=
  ⟨(hb.block _ (blk_lt h.blk)).trans h.blk, h.own.below hb⟩
theorem Sto.low {B B' : Nat} {w : World} {p b : Nat} {par : Option Addr} {es : SM Ent} (h : Sto B w p par b es) (hB : B' ≤ B) : Sto B' w p par b es := ⟨h.blk, h.own.low hB⟩
/-- Another map turns. -/
theorem Sto.keptM {B g : Nat} {w w1 : World} {p b : Nat} {par : Option Addr} {es : SM Ent} (h : Sto B w p par b es) (hg : w.grownBy w1 (some g)) (hbg : b ≠ g) (hm : ∃ en clock, w.heap[g]? = some (.map en clock)) : Sto B w1 p par b es := by
  obtain ⟨en, clock, hm⟩ := hm
  have hpg : p ≠ g := by rintro rfl; rw [h.blk] at hm; cases hm
  exact ⟨(hg.block p (blk_lt h.blk) (fun e => hpg (Option.some.inj e))).trans h.blk, h.own.keptM hg hbg (fun cs fr e => by rw [hm] at e; cases e)⟩
theorem Sto.turn {B : Nat} {w w1 : World} {p b : Nat} {par : Option Addr} {es es1 : SM Ent} (h : Sto B w p par b es) (hg : w.grownBy w1 (some b)) (hm : MapE B w1 b es1) : Sto B w1 p par b es1 :=
  ⟨(hg.block p (blk_lt h.blk) (fun e => h.ne (Option.some.inj e))).trans h.blk, hm⟩
theorem Sto.c0 {B : Nat} {w : World} {p b : Nat} {par : Option Addr} {es : SM Ent} (h : Sto B w p par b es) : w.cell? ⟨p, 0, none⟩ = some (.pointer par) := by rw [cell_of_row _ _ _ _ _ _ h.blk]; rfl
theorem Sto.c1 {B : Nat} {w : World} {p b : Nat} {par : Option Addr} {es : SM Ent} (h : Sto B w p par b es) : w.cell? ⟨p, 1, none⟩ = some (.map (some b)) := by rw [cell_of_row _ _ _ _ _ _ h.blk]; rfl

set_option maxRecDepth 100000 in
theorem takes_any (k v : List UInt8) (a : Option Addr) (n c : Nat) (hn : v.length = n) (w : World) : Calls Tryd.prog 69 #[str k, .slice a n c] w fun e w' => e = .returned (.bool (takesB k v)) ∧ w = w' := by
  have hg : Hid (takesB k v = (!k.isEmpty && decide ((k.length : Int) ≤ 200) && decide ((n : Int) ≤ 65535))) := by
    show _ = _
    unfold takesB goodK
    rw [hn]
    congr 1
    · congr 1
      · cases k <;> rfl
      · congr 1; rw [eq_iff_iff]; omega
    · congr 1; rw [eq_iff_iff]; omega
  clear hn
  by_cases h : k = []
  · subst h
    go_enter Tryd.func69, Tryd.ntmps69
    go_wp2_with (fail)
    go_ret
    exact ⟨by rw [hg.out]; rfl, rfl⟩
  · have hne : ¬ k = [] := h
    clear h
    by_cases h2 : (k.length : Int) ≤ 200
    · have hr : Hid (takesB k v = (!k.isEmpty && decide ((n : Int) ≤ 65535))) := by
        show _ = _
        rw [hg.out, decide_eq_true h2, Bool.and_true]
      go_enter Tryd.func69, Tryd.ntmps69
      go_wp2_with (fail)
      go_ret
      exact ⟨by rw [hr.out]; rfl, rfl⟩
    · have hr : Hid (takesB k v = false) := by show _ = _; rw [hg.out, decide_eq_false h2]; simp
      have h3 : (200 : Int) < (k.length : Int) := by omega
      go_enter Tryd.func69, Tryd.ntmps69
      go_wp2_with (fail)
      go_ret
      exact ⟨by rw [hr.out]; rfl, rfl⟩

set_option maxRecDepth 100000 in
set_option maxHeartbeats 2000000 in
/-- slices.Clone: the bytes stand in a row of the call's own. -/
theorem clone_own {D : Nat} (a : Option Addr) (n c : Nat) (l : List UInt8) (w : World) (h : Pt w D (.slice a n c) l) (hn : n ≤ 140737488355328) :
    Calls Tryd.prog 70 #[.slice a n c] w (RetB l w) := by
  have hs : Bs w a n c l := h.bs
  have hl := hs.blen
  rcases a with _ | ad
  · have hz : l = [] := by
      cases l with
      | nil => rfl
      | cons x r => obtain ⟨b, o, e, _⟩ := hs.bat (j := 0) (by rw [← hl]; simp); cases e
    subst hz
    clear h hs hl
    have HZ : Hid (w.ownsRow w.heap.size 5 1 (.slice none 0 0) ([] : List UInt8).length (bts [])) := World.ownsRow_nil _ _ _ _
    have k0 := Lib.run_eql_slice_nil (P := Tryd.prog)
    go_enter Tryd.func70, Tryd.ntmps70
    go_wp2_with (fail)
    go_ret
    exact ⟨_, rfl, Below.refl _ _, HZ.out⟩
  · have HB : Hid (Below w.heap.size w (w.alloc (.cells #[] 5))) := row_below w _
    have HO : Hid ((w.alloc (.cells #[] 5)).ownsRow w.heap.size 5 1 (.slice (some ⟨w.heap.size, 0, none⟩) 0 0) ([] : List UInt8).length (bts [])) := World.ownsRow_lit w #[] 0 (Nat.le_refl _) (by unfold maxLen; omega) rfl
    have HS : Hid (Bs (w.alloc (.cells #[] 5)) (some ad) n c l) := hs.below HB.out
    have hlen : Hid (([] : List UInt8).length + n ≤ 140737488355328) := by show _ ≤ _; simpa using hn
    clear h hs hl
    have k0 := Lib.run_eql_slice_nil (P := Tryd.prog)
    go_enter Tryd.func70, Tryd.ntmps70
    go_wp2_with (at_builtin; refine app_bk (w0 := w) rfl (.tmp 5) (.tmp 6) rfl _ _ rfl HO HB _ _ _ _ rfl HS hlen ?_; intro v7 w7 HO7 HB7)
    go_ret
    exact ⟨_, rfl, HB7.out, HO7.out⟩
theorem fresh_own {B : Nat} {w : World} {a : Option Addr} {m n c : Nat} {l : List UInt8} (h : w.ownsRow B 5 1 (.slice a n c) m (bts l)) : ∀ ad, a = some ad → B ≤ ad.block := by
  rintro ad rfl
  exact (h.lt ad.block rfl).1

def setC (k v : List UInt8) : Int := if takesB k v = true then 0 else 60
set_option maxRecDepth 100000 in
set_option maxHeartbeats 8000000 in
theorem set_any {D : Nat} (B p b : Nat) (par : Option Addr) (es : SM Ent) (k v : List UInt8) (a : Option Addr) (n c : Nat) (w : World) (hs : Sto B w p par b es) (hv : Pt w D (.slice a n c) v) (hB : B ≤ w.heap.size) (hes : es.length ≤ 9000000000000000) :
    Calls Tryd.prog 38 #[.pointer (some ⟨p, 0, none⟩), str k, .slice a n c] w fun e w' => e = .returned (.int .i64 (setC k v)) ∧ (takesB k v = true → Sto B w' p par b (sput es k (v, false)) ∧ w.grownBy w' (some b)) ∧ (takesB k v = false → w = w') := by
  have hl := hv.bs.blen
  have HS := Lib.hid hs
  have HV := Lib.hid hv
  have HBB := Lib.hid hB
  clear hs hv hB
  by_cases ht : takesB k v = true
  · have hc : Hid (setC k v = 0) := by show _ = _; unfold setC; rw [if_pos ht]
    have hkl : k.length ≤ 200 ∧ v.length ≤ 65535 := by
      unfold takesB goodK at ht
      simp only [Bool.and_eq_true, decide_eq_true_eq] at ht
      exact ⟨ht.1.2, ht.2⟩
    have HT := Lib.hid ht
    have HKL := Lib.hid hkl
    have c1 := HS.out.c1
    have CC : Hid (Calls Tryd.prog 70 #[.slice a n c] w.drew (RetB v w.drew)) := clone_own a n c v w.drew (HV.out.below (Below.refl _ _).drew) (by omega)
    have HLL := Lib.hid hl
    clear ht hkl hl
    go_enter Tryd.func38, Tryd.ntmps38
    go_wp2_with (fail)
    refine (takes_any k v a n c HLL.out w).mono ?_
    rintro e w' ⟨rfl, rfl⟩
    rw [HT.out]
    go_wp2_with (fail)
    have c1d : w.drew.cell? ⟨p, 1, none⟩ = some (.map (some b)) := c1
    go_region_held3 (fun W => W.cell? ⟨p, 1, none⟩ = some (.map (some b)))
      (first | assumption | go_keep)
      (first
        | (go_at_call 70
           refine CC.out.mono ?_
           rintro e w7 ⟨v7, rfl, hb7, ho7⟩
           obtain ⟨a7, c7, e7, hs7⟩ := own_sl ho7
           subst e7
           have hb := below_then (below_then (Below.refl w.heap.size w) (Nat.le_refl _) (Below.refl _ _).drew) (Nat.le_refl _) hb7
           have HS7 := Lib.hid (HS.out.below hb)
           have hev : EV B w7 (.agg #[.slice a7 v.length c7, .bool false]) (v, false) := ⟨a7, v.length, c7, rfl, Pt.own ho7, HKL.out.2, fun ad ha => Nat.le_trans HBB.out (fresh_own ho7 ad ha)⟩
           have c17 := HS7.out.c1
           obtain ⟨m, hm, hen⟩ := HS7.out.own.ex
           have hml : m.length < maxLen := by rw [hen.length]; unfold maxLen; omega
           have hkk : k.length ≤ maxLen := by have := HKL.out.1; unfold maxLen; omega
           obtain ⟨w8, hrun, ho8, hg8⟩ := hm.update law9 Tryd.underlying101 hml (key9 hkk) (RV_mk a7 v.length c7 false)
           have HS8 : Hid (Sto B w8 p par b (sput es k (v, false))) := HS7.out.turn hg8 (MapE.put HS7.out.own.rise hen k hev ho8 hg8 HS7.out.own.not5)
           have HG8 : Hid (w.grownBy w8 (some b)) := grown_then (below_grown hb _) hg8
           have c18 := HS8.out.c1
           clear hb7 ho7 hs7 hb hev hm hen ho8 hg8))
    go_wp2_with (fail)
    go_ret
    exact ⟨by rw [hc.out]; rfl, fun _ => ⟨HS8.out, HG8.out⟩, fun h => by rw [HT.out] at h; cases h⟩
  · have ht1 : takesB k v = false := by simpa using ht
    have hc : Hid (setC k v = 60) := by show _ = _; unfold setC; rw [if_neg ht]
    have HT := Lib.hid ht1
    have HLL := Lib.hid hl
    clear ht ht1 hl
    go_enter Tryd.func38, Tryd.ntmps38
    go_wp2_with (fail)
    refine (takes_any k v a n c HLL.out w).mono ?_
    rintro e w' ⟨rfl, rfl⟩
    rw [HT.out]
    go_wp2_with (fail)
    go_ret
    exact ⟨by rw [hc.out]; rfl, fun h => absurd (HT.out.symm.trans h) (by decide), fun _ => rfl⟩
end Go.Proofs.YteceagldjnfeeaaDoor

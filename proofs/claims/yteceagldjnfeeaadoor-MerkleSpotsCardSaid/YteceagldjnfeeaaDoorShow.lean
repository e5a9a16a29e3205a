/- The walk of merkle.Prove's closure, which shows a leaf with its way. -/
import Derived.Test.YteceagldjnfeeaaDoorMk19
import Derived.Test.YteceagldjnfeeaaDoorMkL
import Derived.Outline
namespace Go.Proofs.YteceagldjnfeeaaDoor
open Go.RowKit
set_option linter.unusedVariables false
set_option linter.unusedSimpArgs false

/-- But for the block pp and one row nothing that was there has turned. -/
structure Fr2 (pp : Nat) (r : Option Nat) (w w' : World) : Prop where
  os : w'.os = w.os
  tape : w'.tape = w.tape
  output : w'.output = w.output
  size : w.heap.size ≤ w'.heap.size
  block : ∀ k, k < w.heap.size → k ≠ pp → some k ≠ r → w'.heap[k]? = w.heap[k]?

theorem Fr2.after {pp : Nat} {r : Option Nat} {w w1 w2 : World} (h : Below w.heap.size w w1) (k : Fr2 pp r w1 w2) : Fr2 pp r w w2 :=
  ⟨k.os.trans h.os, k.tape.trans h.tape, k.output.trans h.output, Nat.le_trans h.size k.size, fun i hi h1 h2 => (k.block i (Nat.lt_of_lt_of_le hi h.size) h1 h2).trans (h.block i hi)⟩
theorem grown_new {w w0 w1 : World} {pb : Nat} (h : Below w.heap.size w w0) (hg : w0.grownBy w1 (some pb)) (hp : w.heap.size ≤ pb) : Below w.heap.size w w1 :=
  ⟨hg.os.trans h.os, hg.tape.trans h.tape, hg.output.trans h.output, Nat.le_trans h.size hg.size, fun i hi => (hg.block i (Nat.lt_of_lt_of_le hi h.size) (fun e => by have := Option.some.inj e; omega)).trans (h.block i hi)⟩

/-- p.Leaves = append(p.Leaves, l): what it leaves. -/
def Put (B pp : Nat) (N : Int) (ls : List LeafV) (r : Option Nat) (w w' : World) (v' : Value) : Prop :=
  w'.heap[pp]? = some (.cells #[.int .i64 N, v'] 66 (0, 0)) ∧ OwnL B 0 w' v' ls ∧ Fr2 pp r w w'
theorem app_l {w : World} {B pp : Nat} {N : Int} {ops : Array Oper} {rest : List Oper} {o : Oper} {ac : Act} {Q : Exit → Act → World → Prop} (hgd : o.guard = none) (s x : Operand)
    (ho : o.op = .call { callee := .builtin .append, args := #[s, x], argTypes := #[64, 64] })
    (v : Value) (ls : List LeafV) (hs : ac.eval s = v) (HO : Hid (OwnL B 0 w v ls)) (HB : Hid (B ≤ pp ∧ B ≤ w.heap.size)) (hpp : Hid (w.heap[pp]? = some (.cells #[.int .i64 N, v] 66 (0, 0))))
    (l : LeafV) (xv xp : Value) (hx : ac.eval x = .slice (some ⟨w.heap.size, 0, none⟩) 1 1) (hp : Hid (LfR w 0 (xv, xp) l)) (hlen : Hid (ls.length ≤ 1000000))
    (h : ∀ a' n' c' w', w'.cell? ⟨pp, 1, none⟩ = some v → w'.frozen? ⟨pp, 1, none⟩ = false → Hid (Put B pp N (ls ++ [l]) v.ownBlock w (w'.setCell ⟨pp, 1, none⟩ (.slice a' n' c')) (.slice a' n' c')) → wpList Tryd.prog ops Q rest (ac.put o.dst (.slice a' n' c')) w') :
    wpList Tryd.prog ops Q (o :: rest) ac (w.alloc (.cells #[.int .i64 l.i, str l.key, xv, xp] 79)) := by
  refine wpList_plain hgd fun _ hK => ?_
  obtain ⟨v', w', hr, ho', hg'⟩ := run_app_l o.type v ls HO.out HB.out.2 (Nat.zero_le _) l xv xp hp.out hlen.out
  obtain ⟨a', c', rfl, _⟩ := ho'.lvs
  have hb : Below w.heap.size w (w.alloc (.cells #[.int .i64 l.i, str l.key, xv, xp] 79)) := (row_below w _).out
  have hlt : pp < w.heap.size := blk_lt hpp.out
  have hne : some pp ≠ v.ownBlock := by
    intro e
    obtain ⟨vs, h1, h2, h3⟩ := HO.out.ex
    rcases h2.2 with ⟨e2, _⟩ | ⟨g, cap, cur, e2, _, hg, _⟩
    · rw [e2] at e; cases e
    · rw [e2] at e
      cases e
      rw [hpp.out] at hg
      cases hg
  have hblk : w'.heap[pp]? = some (.cells #[.int .i64 N, v] 66 (0, 0)) := ((hg'.block pp (Nat.lt_of_lt_of_le hlt hb.size) hne).trans (hb.block _ hlt)).trans hpp.out
  have hset : w'.grownBy (w'.setCell ⟨pp, 1, none⟩ (.slice a' (ls ++ [l]).length c')) (some pp) := gset (grefl w' _) 1 _
  unfold Oper.wp execOp
  simp only [ho, resolve, invoke, builtin, Sem.run_bind, Sem.run_pure, Result.andThen_ok, List.map_toArray, List.map_cons, List.map_nil, hs, hx, hr]
  refine hK _ _ (h a' _ c' w' (by rw [cell_of_row _ _ _ _ _ _ hblk]; rfl) (by simp [World.frozen?, hblk]) ⟨?_, ?_, ?_⟩)
  · simp only [World.setCell, Array.getElem?_modify, if_true, hblk, Option.map_some]
    simp
  · exact ho'.kept hset (Nat.zero_le _) hblk (by decide) (by decide) (by decide)
  · refine ⟨hset.os.trans (hg'.os.trans hb.os), hset.tape.trans (hg'.tape.trans hb.tape), hset.output.trans (hg'.output.trans hb.output), Nat.le_trans hb.size (Nat.le_trans hg'.size hset.size), fun k hk h1 h2 => ?_⟩
    have hk1 := Nat.lt_of_lt_of_le hk hb.size
    rw [hset.block k (Nat.lt_of_lt_of_le hk1 hg'.size) (fun e => h1 (Option.some.inj e)), hg'.block k hk1 h2, hb.block k hk]

theorem hid_setc {w W : World} (h : Hid (Below w.heap.size w W)) {b : Nat} (hb : Hid (w.heap.size ≤ b)) (o : Nat) (u : Value) : Hid (Below w.heap.size w (W.setCell ⟨b, o, none⟩ u)) := h.out.setCell hb.out u
/-- A new leaf's block, behind a call. -/
theorem leaf_blk {w W : World} {cs : Array Value} {t : TypeId} (hb : Below (w.alloc (.cells cs t)).drew.heap.size (w.alloc (.cells cs t)).drew W) : W.heap[w.heap.size]? = some (.cells cs t (0, 0)) :=
  (hb.block _ (blk_lt (heap_alloc_new w (.cells cs t)))).trans (heap_alloc_new w (.cells cs t))

set_option maxRecDepth 100000 in
set_option maxHeartbeats 16000000 in
theorem show_any {C : Nat} (B pbx allx pp b : Nat) (a : Option Addr) (n c cc i : Nat) (N : Int) (v : Value) (ps : List KV) (ls : List LeafV) (w : World) (hp : Prs w C a n c ps) (hi : i < n) (hn : n ≤ 65536) (hv : (valAt ps i).length ≤ 65535)
    (hpx : w.cell? ⟨pbx, 0, none⟩ = some (.slice a n c)) (hax : w.cell? ⟨allx, 0, none⟩ = some (.slice (some ⟨b, 0, none⟩) n cc)) (hh : Hs w 0 (some ⟨b, 0, none⟩) n cc (ps.map leafH))
    (hpp : w.heap[pp]? = some (.cells #[.int .i64 N, v] 66 (0, 0))) (hB : B ≤ pp) (hpp0 : pp ≠ 0) (hl : OwnL B 0 w v ls) (hll : ls.length ≤ 10) (hK : KAt w) :
    Calls Tryd.prog 95 #[.int .i64 i, .pointer (some ⟨pbx, 0, none⟩), .pointer (some ⟨allx, 0, none⟩), .pointer (some ⟨pp, 0, none⟩)] w fun e w' =>
      e = .returned (.tuple #[]) ∧ ∃ v', w'.heap[pp]? = some (.cells #[.int .i64 N, v'] 66 (0, 0)) ∧ OwnL B 0 w' v' (ls ++ [shownV ps i]) ∧ Fr2 pp v.ownBlock w w' := by
  obtain ⟨bp, op, va, hab, g1, g2, hva⟩ := hp.cells i hi
  subst hab
  obtain ⟨a2, n2, c2, hva2, _⟩ := id hva
  subst hva2
  have i0 : (0 : Int) ≤ (i : Int) := by omega
  have i1 : (i : Int) < (n : Int) := by omega
  have HV := Lib.hid hva
  have hd : Hid (Below w.heap.size w w.drew) := (Below.refl _ _).drew
  have START : Hid (∀ W, Hid (Below w.heap.size w W) → Hid (Below w.heap.size w W) ∧ W.cell? ⟨pbx, 0, none⟩ = some (.slice (some ⟨bp, op, none⟩) n c) ∧ W.cell? ⟨bp, op + i * 2, none⟩ = some (str (keyAt ps i)) ∧ W.cell? ⟨bp, op + i * 2 + 1, none⟩ = some (.slice a2 n2 c2)) := fun W hW =>
    ⟨hW, below_cell hW.out hpx, below_cell hW.out g1, below_cell hW.out g2⟩
  have CC : Hid (∀ W, Hid (Below w.heap.size w W) → Calls Tryd.prog 70 #[.slice a2 n2 c2] W (fun e w' => ∃ a n c, e = .returned (.slice a n c) ∧ Hid (Below W.heap.size W w') ∧ Hid (Below w.heap.size w w') ∧ Hid (Pt w' 0 (.slice a n c) (valAt ps i)))) := fun W hW =>
    (clone_any 0 a2 n2 c2 _ W (HV.out.below hW.out) (by have := HV.out.bs.blen; omega)).mono fun e w' ⟨a, n, c, h1, h2, h3⟩ => ⟨a, n, c, h1, h2, below_then hW.out hW.out.size h2, h3⟩
  have hge : Hid (w.heap.size ≤ w.heap.size) := Nat.le_refl _
  have HH := Lib.hid hh
  have HK := Lib.hid hK
  have HPP := Lib.hid hpp
  have HAX := Lib.hid hax
  have HL := Lib.hid hl
  have HBP := Lib.hid hB
  have HLEN : Hid (ls.length ≤ 1000000) := by show _ ≤ _; omega
  clear hva hp hh hK hpp hax hl hB hll hpp0 hv
  go_enter Tryd.func95, Tryd.ntmps95
  go_wp2_with (fail)
  go_region_held3 (fun W => Hid (Below w.heap.size w W) ∧ W.cell? ⟨pbx, 0, none⟩ = some (.slice (some ⟨bp, op, none⟩) n c) ∧ W.cell? ⟨bp, op + i * 2, none⟩ = some (str (keyAt ps i)) ∧ W.cell? ⟨bp, op + i * 2 + 1, none⟩ = some (.slice a2 n2 c2))
    (first
      | exact START.out _ (by first | assumption | exact hid_drew (by assumption) | exact hid_row (by assumption) _ | exact hid_setc (hid_setc (hid_setc (hid_setc (by assumption) (by assumption) _ _) (by assumption) _ _) (by assumption) _ _) (by assumption) _ _))
    (first
      | (go_at_call 70
         refine (CC.out _ (by first | assumption | exact hid_row (by assumption) _)).mono ?_
         rintro e w7 ⟨a7, n7, c7, rfl, HX7, HB7, HP7⟩
         try (
           have hlb := leaf_blk HX7.out
           have z0 : w7.cell? ⟨w.heap.size, 0, none⟩ = some (.int .i64 0) := by rw [cell_of_row _ _ _ _ _ _ hlb]; rfl
           have z1 : w7.cell? ⟨w.heap.size, 1, none⟩ = some (.string ⟨#[]⟩) := by rw [cell_of_row _ _ _ _ _ _ hlb]; rfl
           have z2 : w7.cell? ⟨w.heap.size, 2, none⟩ = some (.slice none 0 0) := by rw [cell_of_row _ _ _ _ _ _ hlb]; rfl
           have z3 : w7.cell? ⟨w.heap.size, 3, none⟩ = some (.slice none 0 0) := by rw [cell_of_row _ _ _ _ _ _ hlb]; rfl
           have zf : ∀ o, w7.frozen? ⟨w.heap.size, o, none⟩ = false := fun o => by simp [World.frozen?, hlb]
           have HLB := Lib.hid hlb
           clear hlb)))
  · have hz : w.heap.size ≤ w7.heap.size := HB7.out.size
    have hnew := heap_alloc_new w7 (.cells #[.int .i64 i, str (keyAt ps i), .slice a7 n7 c7, .slice none 0 0] 79)
    have hrb := (row_below w7 (.cells #[.int .i64 i, str (keyAt ps i), .slice a7 n7 c7, .slice none 0 0] 79)).out
    have HLF := Lib.hid hnew
    have HB0 := Lib.hid (below_then HB7.out HB7.out.size hrb)
    have HP0 := Lib.hid (HP7.out.below hrb)
    have HGE := Lib.hid hz
    clear hz hnew hrb HX7 HB7 HP7
    generalize w7.alloc (.cells #[.int .i64 i, str (keyAt ps i), .slice a7 n7 c7, .slice none 0 0] 79) = w0 at HLF HB0 HP0 ⊢
    generalize w7.heap.size = pb at HLF HGE ⊢
    have hpb0 : pb < w0.heap.size := blk_lt HLF.out
    have hbw : b < w.heap.size := by
      obtain ⟨vs, h1, h2⟩ := HH.out
      obtain ⟨b', o', e, hc⟩ := h1.cells 0 (vs[0]'(by rw [h1.len]; omega)) (List.getElem?_eq_getElem _)
      cases e
      exact World.block_lt_of_cell? w _ hc
    have hge2 : w.heap.size ≤ pb := HGE.out
    have hsz := HB0.out.size
    have hK0 := HK.out.pos
    have HW0 : Hid (WayS w0 0 pb 3 79 #[.int .i64 i, str (keyAt ps i), .slice a7 n7 c7, .slice none 0 0] w0 (.slice none 0 0) []) := ⟨grefl w0 _, HLF.out, [], Lst.nil _ _ _⟩
    have hRW := row_way w0 0 pb 3 79 #[.int .i64 i, str (keyAt ps i), .slice a7 n7 c7, .slice none 0 0] b ⟨Nat.zero_le _, hpb0, by decide, by decide, by simp⟩ (by omega) (by omega) (by omega) (HK.out.below HK.out.pos HB0.out) n 0 n cc i (ps.map leafH) w0 (.slice none 0 0) [] (Nat.le_refl _) hi hn (by simp; omega) (leaves_32 ps) (HH.out.below HB0.out) HW0.out
    rw [List.nil_append] at hRW
    have HRW := Lib.hid hRW
    have hlt : Hid (pp < w.heap.size) := blk_lt HPP.out
    have HNE : Hid (pp ≠ pb) := by have := hlt.out; show _ ≠ _; omega
    have HHL := Lib.hid hpb0
    have cax := below_cell HB0.out HAX.out
    clear hRW hpb0 hbw hge2 hsz hK0
    go_wp2_with (fail)
    refine HRW.out.mono ?_
    rintro e w1 ⟨a1, n1, c1, v1, rfl, hp1, hw1, hst1⟩
    obtain ⟨vs1, hl1⟩ := hw1.row
    have HT1 : Hid (Ht w1 0 v1 (pathH (ps.map leafH) i)) := Ht.own hl1 (Nat.le_refl _)
    obtain ⟨a8, c8, e8, _⟩ := hl1.sl
    have hblk := hw1.blk
    subst e8
    generalize (pathH (ps.map leafH) i).length = n8 at hblk HT1
    have hblk2 : w1.heap[pb]? = some (.cells #[.int .i64 i, str (keyAt ps i), .slice a7 n7 c7, .slice a8 n8 c8] 79 (0, 0)) := hblk
    have q0 : w1.cell? ⟨pb, 0, none⟩ = some (.int .i64 i) := by rw [cell_of_row _ _ _ _ _ _ hblk2]; rfl
    have q1 : w1.cell? ⟨pb, 1, none⟩ = some (str (keyAt ps i)) := by rw [cell_of_row _ _ _ _ _ _ hblk2]; rfl
    have q2 : w1.cell? ⟨pb, 2, none⟩ = some (.slice a7 n7 c7) := by rw [cell_of_row _ _ _ _ _ _ hblk2]; rfl
    have q3 : w1.cell? ⟨pb, 3, none⟩ = some (.slice a8 n8 c8) := by rw [cell_of_row _ _ _ _ _ _ hblk2]; rfl
    have HB1 := Lib.hid (grown_new HB0.out hw1.fr HGE.out)
    have HPP1 : Hid (w1.heap[pp]? = some (.cells #[.int .i64 N, v] 66 (0, 0))) := (HB1.out.block _ hlt.out).trans HPP.out
    have cpp : w1.cell? ⟨pp, 1, none⟩ = some v := by rw [cell_of_row _ _ _ _ _ _ HPP1.out]; rfl
    have HO1 := Lib.hid (HL.out.below HB1.out)
    have HLR : Hid (LfR w1 0 (.slice a7 n7 c7, .slice a8 n8 c8) (shownV ps i)) := ⟨hst1 _ _ HP0.out, HT1.out⟩
    have HBB : Hid (B ≤ pp ∧ B ≤ w1.heap.size) := ⟨HBP.out, by have := HB1.out.size; have := hlt.out; have := HBP.out; omega⟩
    clear hp1 hw1 hst1 hl1 hblk hblk2 HT1 HRW HW0 HP0 HLF cax
    go_wp2_with (at_builtin; refine app_l (B := B) (pp := pp) (N := N) rfl (.tmp 24) (.tmp 26) rfl v ls rfl HO1 HBB HPP1 (shownV ps i) (.slice a7 n7 c7) (.slice a8 n8 c8) rfl HLR HLEN ?_; intro a9 n9 c9 w9 cc9 ff9 HPUT)
    go_end0
    exact ⟨rfl, _, HPUT.out.1, HPUT.out.2.1, HPUT.out.2.2.after HB1.out⟩
  · have hg : w7.grownBy ((((w7.setCell ⟨w.heap.size, 0, none⟩ (.int .i64 i)).setCell ⟨w.heap.size, 1, none⟩ (str (keyAt ps i))).setCell ⟨w.heap.size, 2, none⟩ (.slice a7 n7 c7)).setCell ⟨w.heap.size, 3, none⟩ (.slice none 0 0)) (some w.heap.size) :=
      gset (gset (gset (gset (grefl w7 _) 0 _) 1 _) 2 _) 3 _
    have hnew : ((((w7.setCell ⟨w.heap.size, 0, none⟩ (.int .i64 i)).setCell ⟨w.heap.size, 1, none⟩ (str (keyAt ps i))).setCell ⟨w.heap.size, 2, none⟩ (.slice a7 n7 c7)).setCell ⟨w.heap.size, 3, none⟩ (.slice none 0 0)).heap[w.heap.size]? = some (.cells #[.int .i64 i, str (keyAt ps i), .slice a7 n7 c7, .slice none 0 0] 79 (0, 0)) := by
      simp only [World.setCell, Array.getElem?_modify, if_true, HLB.out, Option.map_some]
      simp
    have HP0 := Lib.hid (HP7.out.kept hg (Nat.zero_le _) HLB.out (by decide))
    have HB0 := Lib.hid (grown_new HB7.out hg (Nat.le_refl _))
    have HLF := Lib.hid hnew
    have HGE := hge
    clear hg hnew HX7 HB7 HP7 HLB z0 z1 z2 z3 zf
    generalize ((((w7.setCell ⟨w.heap.size, 0, none⟩ (.int .i64 i)).setCell ⟨w.heap.size, 1, none⟩ (str (keyAt ps i))).setCell ⟨w.heap.size, 2, none⟩ (.slice a7 n7 c7)).setCell ⟨w.heap.size, 3, none⟩ (.slice none 0 0)) = w0 at HP0 HB0 HLF ⊢
    obtain ⟨pb, hpb⟩ : ∃ pb, w.heap.size = pb := ⟨_, rfl⟩
    have HLF2 : Hid (w0.heap[pb]? = some (.cells #[.int .i64 i, str (keyAt ps i), .slice a7 n7 c7, .slice none 0 0] 79 (0, 0))) := by rw [← hpb]; exact HLF.out
    have HGE2 : Hid (w.heap.size ≤ pb) := by rw [← hpb]; exact hge.out
    rw [hpb]
    clear hpb HLF HGE
    have HLF := HLF2
    have HGE := HGE2
    clear HLF2 HGE2
    have hpb0 : pb < w0.heap.size := blk_lt HLF.out
    have hbw : b < w.heap.size := by
      obtain ⟨vs, h1, h2⟩ := HH.out
      obtain ⟨b', o', e, hc⟩ := h1.cells 0 (vs[0]'(by rw [h1.len]; omega)) (List.getElem?_eq_getElem _)
      cases e
      exact World.block_lt_of_cell? w _ hc
    have hge2 : w.heap.size ≤ pb := HGE.out
    have hsz := HB0.out.size
    have hK0 := HK.out.pos
    have HW0 : Hid (WayS w0 0 pb 3 79 #[.int .i64 i, str (keyAt ps i), .slice a7 n7 c7, .slice none 0 0] w0 (.slice none 0 0) []) := ⟨grefl w0 _, HLF.out, [], Lst.nil _ _ _⟩
    have hRW := row_way w0 0 pb 3 79 #[.int .i64 i, str (keyAt ps i), .slice a7 n7 c7, .slice none 0 0] b ⟨Nat.zero_le _, hpb0, by decide, by decide, by simp⟩ (by omega) (by omega) (by omega) (HK.out.below HK.out.pos HB0.out) n 0 n cc i (ps.map leafH) w0 (.slice none 0 0) [] (Nat.le_refl _) hi hn (by simp; omega) (leaves_32 ps) (HH.out.below HB0.out) HW0.out
    rw [List.nil_append] at hRW
    have HRW := Lib.hid hRW
    have hlt : Hid (pp < w.heap.size) := blk_lt HPP.out
    have HNE : Hid (pp ≠ pb) := by have := hlt.out; show _ ≠ _; omega
    have HHL := Lib.hid hpb0
    have cax := below_cell HB0.out HAX.out
    clear hRW hpb0 hbw hge2 hsz hK0
    go_wp2_with (fail)
    refine HRW.out.mono ?_
    rintro e w1 ⟨a1, n1, c1, v1, rfl, hp1, hw1, hst1⟩
    obtain ⟨vs1, hl1⟩ := hw1.row
    have HT1 : Hid (Ht w1 0 v1 (pathH (ps.map leafH) i)) := Ht.own hl1 (Nat.le_refl _)
    obtain ⟨a8, c8, e8, _⟩ := hl1.sl
    have hblk := hw1.blk
    subst e8
    generalize (pathH (ps.map leafH) i).length = n8 at hblk HT1
    have hblk2 : w1.heap[pb]? = some (.cells #[.int .i64 i, str (keyAt ps i), .slice a7 n7 c7, .slice a8 n8 c8] 79 (0, 0)) := hblk
    have q0 : w1.cell? ⟨pb, 0, none⟩ = some (.int .i64 i) := by rw [cell_of_row _ _ _ _ _ _ hblk2]; rfl
    have q1 : w1.cell? ⟨pb, 1, none⟩ = some (str (keyAt ps i)) := by rw [cell_of_row _ _ _ _ _ _ hblk2]; rfl
    have q2 : w1.cell? ⟨pb, 2, none⟩ = some (.slice a7 n7 c7) := by rw [cell_of_row _ _ _ _ _ _ hblk2]; rfl
    have q3 : w1.cell? ⟨pb, 3, none⟩ = some (.slice a8 n8 c8) := by rw [cell_of_row _ _ _ _ _ _ hblk2]; rfl
    have HB1 := Lib.hid (grown_new HB0.out hw1.fr HGE.out)
    have HPP1 : Hid (w1.heap[pp]? = some (.cells #[.int .i64 N, v] 66 (0, 0))) := (HB1.out.block _ hlt.out).trans HPP.out
    have cpp : w1.cell? ⟨pp, 1, none⟩ = some v := by rw [cell_of_row _ _ _ _ _ _ HPP1.out]; rfl
    have HO1 := Lib.hid (HL.out.below HB1.out)
    have HLR : Hid (LfR w1 0 (.slice a7 n7 c7, .slice a8 n8 c8) (shownV ps i)) := ⟨hst1 _ _ HP0.out, HT1.out⟩
    have HBB : Hid (B ≤ pp ∧ B ≤ w1.heap.size) := ⟨HBP.out, by have := HB1.out.size; have := hlt.out; have := HBP.out; omega⟩
    clear hp1 hw1 hst1 hl1 hblk hblk2 HT1 HRW HW0 HP0 HLF cax
    go_wp2_with (at_builtin; refine app_l (B := B) (pp := pp) (N := N) rfl (.tmp 24) (.tmp 26) rfl v ls rfl HO1 HBB HPP1 (shownV ps i) (.slice a7 n7 c7) (.slice a8 n8 c8) rfl HLR HLEN ?_; intro a9 n9 c9 w9 cc9 ff9 HPUT)
    go_end0
    exact ⟨rfl, _, HPUT.out.1, HPUT.out.2.1, HPUT.out.2.2.after HB1.out⟩
end Go.Proofs.YteceagldjnfeeaaDoor

/- The walk of isthmusref08.shown. -/
import Derived.Test.YteceagldjnfeeaaDoorRway
namespace Go.Proofs.YteceagldjnfeeaaDoor
open Go.RowKit
set_option linter.unusedVariables false
set_option linter.unusedSimpArgs false

theorem size79 : (Tryd.prog.info? 79).map (·.size) = some 4 := by kernel_rfl
theorem later_blk {w W : World} {b : Nat} {o : Obj} (h : w.heap[b]? = some o) (hb : Below w.heap.size w W) : W.heap[b]? = some o := (hb.block _ (blk_lt h)).trans h

theorem hid_setb {B : Nat} {w W : World} (h : Hid (Below B w W)) {b : Nat} (hb : Hid (B ≤ b)) (o : Nat) (u : Value) : Hid (Below B w (W.setCell ⟨b, o, none⟩ u)) := h.out.setCell hb.out u

set_option maxRecDepth 100000 in
set_option maxHeartbeats 16000000 in
theorem rshown_any {D : Nat} (b o n c i : Nat) (ps : List KV) (w : World) (hi : i < n) (hn : n ≤ 65536) (hkl : ∀ k, k < n → (keyAt ps k).length ≤ maxLen) (hvl : (valAt ps i).length ≤ 65535) (hp : Prs w D (some ⟨b, o, none⟩) n c ps) (hK : KAt1 w) (hD : D ≤ w.heap.size) :
    Calls Tryd.prog 100 #[.slice (some ⟨b, o, none⟩) n c, .int .i64 i] w fun e w' => ∃ v p, e = .returned (.agg #[.int .i64 i, str (keyAt ps i), v, p]) ∧ Below w.heap.size w w' ∧ LfR w' D (v, p) (shownV ps i) := by
  obtain ⟨bp, op, va, hab, g1, g2, hva⟩ := hp.cells i hi
  cases hab
  obtain ⟨a2, n2, c2, hva2, _⟩ := id hva
  subst hva2
  have i0 : (0 : Int) ≤ (i : Int) := by omega
  have i1 : (i : Int) < (n : Int) := by omega
  have HB0 := row_below w (.cells #[.int .i64 0, .string ⟨#[]⟩, .slice none 0 0, .slice none 0 0] 79)
  have hnew : Hid ((w.alloc (.cells #[.int .i64 0, .string ⟨#[]⟩, .slice none 0 0, .slice none 0 0] 79)).heap[w.heap.size]? = some (.cells #[.int .i64 0, .string ⟨#[]⟩, .slice none 0 0, .slice none 0 0] 79 (0, 0))) := heap_alloc_new w _
  have HV := Lib.hid (hva.below HB0.out)
  have HP := Lib.hid (hp.below HB0.out)
  have HK := Lib.hid (hK.below hK.pos HB0.out)
  have g1' := below_cell HB0.out g1
  have g2' := below_cell HB0.out g2
  have hD0 : Hid (D ≤ w.heap.size) := hD
  have hDz : Hid (w.heap.size ≤ (w.alloc (.cells #[.int .i64 0, .string ⟨#[]⟩, .slice none 0 0, .slice none 0 0] 79)).heap.size) := HB0.out.size
  have hbw : Hid (b < w.heap.size) := World.block_lt_of_cell? w _ g1
  clear hva hp hK g1 g2 hD
  go_enter Tryd.func100, Tryd.ntmps100
  go_wp2_with (fail)
  generalize w.alloc (.cells #[.int .i64 0, .string ⟨#[]⟩, .slice none 0 0, .slice none 0 0] 79) = w0 at HB0 hnew HV HP HK g1' g2' hDz ⊢
  have START : Hid (∀ W, Hid (Below w.heap.size w0 W) → Hid (Below w.heap.size w0 W) ∧ W.cell? ⟨b, o + i * 2, none⟩ = some (str (keyAt ps i)) ∧ W.cell? ⟨b, o + i * 2 + 1, none⟩ = some (.slice a2 n2 c2)) := fun W hW =>
    ⟨hW, (hW.out.cell (p := ⟨b, o + i * 2, none⟩) hbw.out).trans g1', (hW.out.cell (p := ⟨b, o + i * 2 + 1, none⟩) hbw.out).trans g2'⟩
  have LOW : Hid (∀ W, Hid (Below w0.heap.size w0 W) → Hid (Below w.heap.size w0 W)) := fun W hW => hW.out.mono hDz.out
  have hge : Hid (w.heap.size ≤ w.heap.size) := Nat.le_refl _
  have hs0 : Hid (Below w0.heap.size w0 w0) := Below.refl _ _
  have hd : Hid (Below w0.heap.size w0 w0.drew) := (Below.refl _ _).drew
  have HB2 : Hid (Below w0.heap.size w0 (w0.drew.alloc (.cells #[] 5))) := hid_row hd _
  have HO2 : Hid ((w0.drew.alloc (.cells #[] 5)).ownsRow w0.heap.size 5 1 (.slice (some ⟨w0.heap.size, 0, none⟩) 0 0) ([] : List UInt8).length (bts [])) := World.ownsRow_lit w0.drew #[] 0 (Nat.le_refl _) (by unfold maxLen; omega) rfl
  have HS2 : Hid (Bs (w0.drew.alloc (.cells #[] 5)) a2 n2 c2 (valAt ps i)) := HV.out.bs.below HB2.out
  have hlen2 : Hid (([] : List UInt8).length + n2 ≤ 140737488355328) := by show _ ≤ _; have := HV.out.bs.blen; simp; omega
  have CW : Hid (∀ W, Hid (Below w0.heap.size w0 W) → Calls Tryd.prog 125 #[.slice (some ⟨b, o, none⟩) n c, .int .i64 i] W (RetL D (pathH (ps.map leafH) i) W)) := fun W hW =>
    rway_any n b o n c i ps W (Nat.le_refl _) hi hn hkl (HP.out.below hW.out) (HK.out.below HK.out.pos hW.out) (by have := hW.out.size; have := hD0.out; have := hDz.out; omega)
  clear hvl hi hn hkl
  have HSV : Hid (shownV ps i = ⟨i, keyAt ps i, valAt ps i, pathH (ps.map leafH) i⟩) := rfl
  generalize pathH (ps.map leafH) i = pl at CW HSV
  generalize hkk : keyAt ps i = kk at *
  have HKK := Lib.hid hkk
  clear hkk
  generalize valAt ps i = vv at *
  go_region_held3 (fun W => Hid (Below w.heap.size w0 W) ∧ W.cell? ⟨b, o + i * 2, none⟩ = some (str kk) ∧ W.cell? ⟨b, o + i * 2 + 1, none⟩ = some (.slice a2 n2 c2))
    (first
      | exact START.out _ (LOW.out _ (by assumption))
      | exact START.out _ (LOW.out _ (hid_drew (by assumption)))
      | exact START.out _ (LOW.out _ (hid_row (by assumption) _))
      | exact START.out _ (LOW.out _ (hid_drew (hid_row (by assumption) _)))
      | exact START.out _ (hid_setb (hid_setb (hid_setb (hid_setb (LOW.out _ (by assumption)) hge _ _) hge _ _) hge _ _) hge _ _))
    (first
      | (refine step_app_bk (w0 := w0) rfl (.tmp 11) (.tmp 16) rfl _ _ rfl HO2 HB2 _ _ _ _ rfl HS2 hlen2 ?_; intro v7 w7 HO7 HB7; obtain ⟨a7, c7, e7, hs7⟩ := own_sl HO7.out; subst e7; have HP7 : Hid (Pt w7 D _ _) := Pt.own HO7.out)
      | (go_at_call 125
         refine (CW.out _ HB7).mono ?_
         rintro e w8 ⟨a8, c8, vs8, rfl, hb8, hl8⟩
         have HB8 := Lib.hid (below_then HB7.out HB7.out.size hb8)
         have HT8 : Hid (Ht w8 D (.slice a8 pl.length c8) pl) := Ht.own hl8 (Nat.le_refl _)
         have HP8 := Lib.hid (HP7.out.below hb8)
         have hlb := later_blk hnew.out HB8.out
         have z0 : w8.cell? ⟨w.heap.size, 0, none⟩ = some (.int .i64 0) := by rw [cell_of_row _ _ _ _ _ _ hlb]; rfl
         have z1 : w8.cell? ⟨w.heap.size, 1, none⟩ = some (.string ⟨#[]⟩) := by rw [cell_of_row _ _ _ _ _ _ hlb]; rfl
         have z2 : w8.cell? ⟨w.heap.size, 2, none⟩ = some (.slice none 0 0) := by rw [cell_of_row _ _ _ _ _ _ hlb]; rfl
         have z3 : w8.cell? ⟨w.heap.size, 3, none⟩ = some (.slice none 0 0) := by rw [cell_of_row _ _ _ _ _ _ hlb]; rfl
         have zf : ∀ o, w8.frozen? ⟨w.heap.size, o, none⟩ = false := fun o => by simp [World.frozen?, hlb]
         have HLB := Lib.hid hlb
         clear hlb hb8 hl8))
  have hg : w8.grownBy ((((w8.setCell ⟨w.heap.size, 0, none⟩ (.int .i64 i)).setCell ⟨w.heap.size, 1, none⟩ (str kk)).setCell ⟨w.heap.size, 2, none⟩ (.slice a7 vv.length c7)).setCell ⟨w.heap.size, 3, none⟩ (.slice a8 pl.length c8)) (some w.heap.size) :=
    gset (gset (gset (gset (grefl w8 _) 0 _) 1 _) 2 _) 3 _
  have hrow : ((((w8.setCell ⟨w.heap.size, 0, none⟩ (.int .i64 i)).setCell ⟨w.heap.size, 1, none⟩ (str kk)).setCell ⟨w.heap.size, 2, none⟩ (.slice a7 vv.length c7)).setCell ⟨w.heap.size, 3, none⟩ (.slice a8 pl.length c8)).heap[w.heap.size]? = some (.cells #[.int .i64 i, str kk, .slice a7 vv.length c7, .slice a8 pl.length c8] 79 (0, 0)) := by
    simp only [World.setCell, Array.getElem?_modify, if_true, HLB.out, Option.map_some]
    simp
  have HLR : Hid (LfR ((((w8.setCell ⟨w.heap.size, 0, none⟩ (.int .i64 i)).setCell ⟨w.heap.size, 1, none⟩ (str kk)).setCell ⟨w.heap.size, 2, none⟩ (.slice a7 vv.length c7)).setCell ⟨w.heap.size, 3, none⟩ (.slice a8 pl.length c8)) D (.slice a7 vv.length c7, .slice a8 pl.length c8) ⟨i, kk, vv, pl⟩) :=
    LfR.kept (w := w8) ⟨HP8.out, HT8.out⟩ hg hD0.out HLB.out (by decide) (by decide)
  have HBF : Hid (Below w.heap.size w ((((w8.setCell ⟨w.heap.size, 0, none⟩ (.int .i64 i)).setCell ⟨w.heap.size, 1, none⟩ (str kk)).setCell ⟨w.heap.size, 2, none⟩ (.slice a7 vv.length c7)).setCell ⟨w.heap.size, 3, none⟩ (.slice a8 pl.length c8))) :=
    grown_new (below_then HB0.out HB0.out.size HB8.out) hg (Nat.le_refl _)
  have HROW := Lib.hid hrow
  have hsz : Hid ((Tryd.prog.info? 79).map (·.size) = some (#[Value.int .i64 i, str kk, .slice a7 vv.length c7, .slice a8 pl.length c8] : Array Value).size) := size79
  clear hg hrow z0 z1 z2 z3 zf HLB HP8 HT8 g1' g2'
  generalize ((((w8.setCell ⟨w.heap.size, 0, none⟩ (.int .i64 i)).setCell ⟨w.heap.size, 1, none⟩ (str kk)).setCell ⟨w.heap.size, 2, none⟩ (.slice a7 vv.length c7)).setCell ⟨w.heap.size, 3, none⟩ (.slice a8 pl.length c8)) = w9 at HLR HBF HROW ⊢
  go_wp2_with (fail)
  refine bodyPost_ret (v := .agg #[.int .i64 i, str kk, .slice a7 vv.length c7, .slice a8 pl.length c8]) (results_cell_row (p := 4) (ty := 79) rfl _ _ w.heap.size 79 _ (0, 0) _ rfl HROW.out Tryd.underlying79 rfl hsz.out) rfl ?_
  rw [HSV.out, HKK.out]
  exact ⟨_, _, rfl, HBF.out, HLR.out⟩
end Go.Proofs.YteceagldjnfeeaaDoor

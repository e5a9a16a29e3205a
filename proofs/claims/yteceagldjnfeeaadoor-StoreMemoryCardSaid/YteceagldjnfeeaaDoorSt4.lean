/- The walk of the store's Get, at a store that lies over no other. -/
import Derived.Test.YteceagldjnfeeaaDoorSt3
namespace Go.Proofs.YteceagldjnfeeaaDoor
open Go.RowKit Go.Maps
set_option linter.unusedVariables false
set_option linter.unusedSimpArgs false

def vE : Option Ent → List UInt8 | some e => e.1 | none => []
def okE : Option Ent → Bool | some e => !e.2 | none => false
/-- Bytes of the call's own. -/
def RetGet (o : Option Ent) (w : World) : Ending → World → Prop := fun e w' => ∃ v, e = .returned (.tuple #[v, .bool (okE o)]) ∧ Below w.heap.size w w' ∧ w'.ownsRow w.heap.size 5 1 v (vE o).length (bts (vE o))
theorem new_row {w w1 : World} (h : Below w.heap.size w w1) (u v : Value) : Hid (Below w.heap.size w (w1.alloc (.cells #[u, v] 105))) := h.alloc h.size _
set_option maxRecDepth 100000 in
theorem get_nil (k : List UInt8) (w : World) : Calls Tryd.prog 39 #[.pointer none, str k] w (RetGet none w) := by
  have HZ : Hid (w.ownsRow w.heap.size 5 1 (.slice none 0 0) ([] : List UInt8).length (bts [])) := World.ownsRow_nil _ _ _ _
  go_enter Tryd.func39, Tryd.ntmps39
  go_wp2_with (fail)
  go_loopw [0] (fun q wr => q = .pointer none ∧ w = wr) (fun q _ => 0)
  case atStart => exact ⟨rfl, rfl⟩
  case round =>
    obtain ⟨rfl, rfl⟩ := hrel
    go_wp2_with (fail)
    go_ret2
    exact ⟨_, rfl, Below.refl _ _, HZ.out⟩

theorem own_low {B B' n : Nat} {w : World} {v : Value} {l : List UInt8} (h : w.ownsRow B 5 1 v n (bts l)) (hB : B' ≤ B) : w.ownsRow B' 5 1 v n (bts l) := 
  ⟨h.1, h.2.imp id fun ⟨g, cap, cur, h1, h2, h3⟩ => ⟨g, cap, cur, h1, Nat.le_trans hB h2, h3⟩⟩
def isP : Value → Nat | .pointer (some _) => 1 | _ => 0
set_option maxRecDepth 100000 in
set_option maxHeartbeats 4000000 in
theorem get_any (B p b : Nat) (es : SM Ent) (k : List UInt8) (w : World) (hs : Sto B w p none b es) (hk : k.length ≤ maxLen) :
    Calls Tryd.prog 39 #[.pointer (some ⟨p, 0, none⟩), str k] w (RetGet (sget es k) w) := by
  have HS := Lib.hid hs
  have HM := Lib.hid hs.own
  have c0 := hs.c0
  have c1 := hs.c1
  clear hs
  rcases hg : sget es k with _ | e
  · have HZ : ∀ wr : World, Hid (wr.ownsRow w.heap.size 5 1 (.slice none 0 0) ([] : List UInt8).length (bts [])) := fun wr => World.ownsRow_nil _ _ _ _
    go_enter Tryd.func39, Tryd.ntmps39
    go_wp2_with (fail)
    go_loopw [0] (fun q wr => (q = .pointer (some ⟨p, 0, none⟩) ∧ w = wr) ∨ (q = .pointer none ∧ Hid (Below w.heap.size w wr))) (fun q _ => isP q)
    case atStart => exact .inl ⟨rfl, rfl⟩
    case round =>
      rcases hrel with ⟨rfl, rfl⟩ | ⟨rfl, HB⟩
      · have HB := new_row (Below.refl w.heap.size w) (.slice none 0 0) (.bool false)
        have c01 := HS.out.below HB.out |>.c0
        go_wp2_with (at_lookup; refine wpList_none _ rfl _ _ rfl B b es rfl HM k rfl hk hg ?_)
        exact ⟨.inr ⟨rfl, HB⟩, Nat.zero_lt_one⟩
      · go_wp2_with (fail)
        go_ret2
        exact ⟨_, rfl, HB.out, (HZ _).out⟩
  · obtain ⟨v, g⟩ := e
    go_enter Tryd.func39, Tryd.ntmps39
    go_wp2_with (fail)
    go_loopw [0] (fun q wr => q = .pointer (some ⟨p, 0, none⟩) ∧ w = wr) (fun q _ => isP q)
    case atStart => exact ⟨rfl, rfl⟩
    case round =>
      obtain ⟨rfl, rfl⟩ := hrel
      go_wp2_with (at_lookup; refine wpList_some _ rfl _ _ rfl B b es rfl HM k rfl hk (v, g) hg ?_; intro ax nx cx HX)
      have HB1 := new_row (Below.refl w.heap.size w) (.slice ax nx cx) (.bool g)
      have HX1 := Lib.hid (HX.out.below HB1.out)
      have g0 : (w.alloc (.cells #[.slice ax nx cx, .bool g] 105)).cell? ⟨w.heap.size, 0, none⟩ = some (.slice ax nx cx) := by rw [cell_of_row _ _ _ _ _ _ (MapKept.heap_alloc w _).1]; rfl
      have g1 : (w.alloc (.cells #[.slice ax nx cx, .bool g] 105)).cell? ⟨w.heap.size, 1, none⟩ = some (.bool g) := by rw [cell_of_row _ _ _ _ _ _ (MapKept.heap_alloc w _).1]; rfl
      have HL : Hid ((w.alloc (.cells #[.slice ax nx cx, .bool g] 105)).heap.size = w.heap.size + 1) := by show _ = _; simp
      generalize w.alloc (.cells #[.slice ax nx cx, .bool g] 105) = W1 at *
      have CC : Hid (Calls Tryd.prog 70 #[.slice ax nx cx] W1.drew (RetB v W1.drew)) := by
        obtain ⟨a1, n1, c1, e1, h1, h2, _⟩ := HX1.out
        injection e1 with e1
        simp only [Array.mk.injEq, List.cons.injEq, Value.slice.injEq] at e1
        obtain ⟨⟨rfl, rfl, rfl⟩, _⟩ := e1
        exact clone_own _ _ _ v W1.drew (h1.below (Below.refl _ _).drew) (by have := h1.bs.blen; simp only at this h2; omega)
      have HLT : Hid (w.heap.size < W1.heap.size) := by show _ < _; rw [HL.out]; omega
      have HLE : Hid (w.heap.size ≤ W1.heap.size) := by show _ ≤ _; rw [HL.out]; omega
      have g0d : W1.drew.cell? ⟨w.heap.size, 0, none⟩ = some (.slice ax nx cx) := g0
      have g1d : W1.drew.cell? ⟨w.heap.size, 1, none⟩ = some (.bool g) := g1
      clear HX HX1 HS HM hk c0 c1 hg
      go_region_held3 (fun W => W.cell? ⟨w.heap.size, 0, none⟩ = some (.slice ax nx cx) ∧ W.cell? ⟨w.heap.size, 1, none⟩ = some (.bool g))
        (first | exact ⟨by assumption, by assumption⟩)
        (first
          | (go_at_call 70
             refine CC.out.mono ?_
             rintro e w7 ⟨v7, rfl, hb7, ho7⟩
             have h0 : w7.cell? ⟨w.heap.size, 0, none⟩ = some (.slice ax nx cx) := (hb7.cell (p := ⟨w.heap.size, 0, none⟩) HLT.out).trans g0d
             have h1 : w7.cell? ⟨w.heap.size, 1, none⟩ = some (.bool g) := (hb7.cell (p := ⟨w.heap.size, 1, none⟩) HLT.out).trans g1d
             have HB7 : Hid (Below w.heap.size w w7) := below_then HB1.out.drew HLE.out hb7
             have HO7 : Hid (w7.ownsRow w.heap.size 5 1 v7 v.length (bts v)) := own_low ho7 HLE.out
             clear hb7 ho7))
      go_wp2_with (fail)

      go_ret2
      exact ⟨_, rfl, HB7.out, HO7.out⟩
end Go.Proofs.YteceagldjnfeeaaDoor

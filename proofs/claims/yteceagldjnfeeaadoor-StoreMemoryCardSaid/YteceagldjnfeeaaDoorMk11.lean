/- The walk of merkle.Prove where there are no pairs. -/
import Derived.Test.YteceagldjnfeeaaDoorMk10
import Derived.Laws.CopyOwn
namespace Go.Proofs.YteceagldjnfeeaaDoor
open Go.RowKit
set_option linter.unusedVariables false
set_option linter.unusedSimpArgs false

/-- Two results, of which the first lies in memory. -/
theorem results_row_tmp {P : Program} {fn : Func} {p u : Tmp} {ty : TypeId} (h : fn.results = #[.cell p ty, .tmp u]) (tmps : Array Value) (w : World) (g : Nat) (t : TypeId) (cs : Array Value) (fr : Nat × Nat) (d : TypeDesc)
    (hp : tmps.getD p undef = .pointer (some ⟨g, 0, none⟩)) (hg : w.heap[g]? = some (.cells cs t fr))
    (hu : P.underlying ty = some d) (hd : (match d with | .struct _ | .array _ _ => true | _ => false) = true) (hi : (P.info? ty).map (·.size) = some cs.size) :
    (results fn tmps).run P w = .ok (.tuple #[.agg cs, tmps.getD u undef]) w := by
  rw [results_cell_tmp h, hp]
  simp [asAddr, run_loadVar_row w g t ty cs fr d hg hu hd hi]

set_option maxRecDepth 100000 in
set_option maxHeartbeats 4000000 in
theorem bsf_nil (k : List UInt8) (f : Value) (w : World) : Calls Tryd.prog 96 #[.slice none 0 0, str k, f] w fun e w' => e = .returned (.tuple #[.int .i64 0, .bool false]) ∧ w = w' := by
  go_enter Tryd.func96, Tryd.ntmps96
  go_wp2_with (fail)
  go_loop [9, 10] (fun x y => x = .int .i64 0 ∧ y = .int .i64 0) (fun _ _ => 0)
  case atStart => exact ⟨rfl, rfl⟩
  case round =>
    obtain ⟨rfl, rfl⟩ := hrel
    go_wp2_with (fail)
    go_ret2
    exact ⟨rfl, rfl⟩

theorem size66 : (Tryd.prog.info? 66).map (·.size) = some 2 := by kernel_rfl

set_option maxRecDepth 100000 in
set_option maxHeartbeats 8000000 in
theorem prove_nil (k : List UInt8) (w : World) (hk : goodK k = true) (hK : KAt w) :
    Calls Tryd.prog 53 #[.slice none 0 0, str k] w fun e w' => e = .returned (.tuple #[.agg #[.int .i64 0, .slice none 0 0], .int .i64 0]) ∧ Below w.heap.size w w' := by
  have HG := Lib.hid hk
  have HK := Lib.hid hK
  clear hk hK
  go_enter Tryd.func53, Tryd.ntmps53
  go_wp2_with (fail)
  have hb1 := (row_below w (.cells #[.slice none 0 0] 42)).out
  have hb2 := below_then hb1 hb1.size (row_below (w.alloc (.cells #[.slice none 0 0] 42)) (.cells #[.int .i64 0, .slice none 0 0] 66)).out
  have hz : (w.alloc (.cells #[.slice none 0 0] 42)).heap.size = w.heap.size + 1 := Array.size_push _
  have hc := below_cell (row_below (w.alloc (.cells #[.slice none 0 0] 42)) (.cells #[.int .i64 0, .slice none 0 0] 66)).out (show (w.alloc (.cells #[.slice none 0 0] 42)).cell? ⟨w.heap.size, 0, none⟩ = some (.slice none 0 0) by rw [cell_of_row _ _ _ _ _ _ (heap_alloc_new w _)]; rfl)
  have hrow : ((w.alloc (.cells #[.slice none 0 0] 42)).alloc (.cells #[.int .i64 0, .slice none 0 0] 66)).heap[w.heap.size + 1]? = some (.cells #[.int .i64 0, .slice none 0 0] 66 (0, 0)) := by
    rw [← hz]; exact heap_alloc_new _ _
  have hsz : ((w.alloc (.cells #[.slice none 0 0] 42)).alloc (.cells #[.int .i64 0, .slice none 0 0] 66)).heap.size = w.heap.size + 2 := by
    show (Array.push _ _).size = _
    rw [Array.size_push, hz]
  have HB := Lib.hid hb2
  have HC := Lib.hid hc
  have HROW := Lib.hid hrow
  have HSZ := Lib.hid hsz
  clear hb1 hb2 hz hc hrow hsz
  generalize (w.alloc (.cells #[.slice none 0 0] 42)).alloc (.cells #[.int .i64 0, .slice none 0 0] 66) = w0 at HB HC HROW HSZ ⊢
  refine (ordered_any none 0 0 [] w0 (Prs.nil w0 0)).mono ?_
  rintro e w1 ⟨rfl, hb1⟩
  have ho : ordered [] = true := rfl
  rw [ho]
  have HB1 := Lib.hid hb1
  clear hb1 ho
  go_wp2_with (fail)
  refine (good_any k w1).mono ?_
  rintro e w2 ⟨rfl, rfl⟩
  rw [HG.out]
  have c1 := below_cell HB1.out HC.out
  have HB12 := Lib.hid (row_below w1 (.cells #[.int .i64 0, .slice none 0 0] 66)).out
  have hr2 : Hid ((w1.alloc (.cells #[.int .i64 0, .slice none 0 0] 66)).heap[w1.heap.size]? = some (.cells #[.int .i64 0, .slice none 0 0] 66 (0, 0))) := heap_alloc_new w1 _
  have HB2 := Lib.hid (below_then HB1.out HB1.out.size HB12.out)
  have c2 := below_cell HB12.out c1
  go_wp2_with (fail)
  clear c1
  have HC2 := Lib.hid c2
  clear c2
  generalize w1.alloc (.cells #[.int .i64 0, .slice none 0 0] 66) = w2 at HB12 hr2 HB2 HC2 ⊢
  have HLT := Lib.hid (blk_lt hr2.out)
  refine (hashes_any none 0 0 [] w2 (Prs.nil w2 0) (by omega) (fun j hj => by omega) (HK.out.below HK.out.pos (below_then HB.out HB.out.size HB2.out))).mono ?_
  rintro e w3 ⟨g, rfl, hb3, _⟩
  have HB3 := Lib.hid (below_then HB2.out HB2.out.size hb3)
  have c3 := below_cell hb3 HC2.out
  have hr3 : Hid (w3.heap[w1.heap.size]? = some (.cells #[.int .i64 0, .slice none 0 0] 66 (0, 0))) := (hb3.block _ HLT.out).trans hr2.out
  clear hb3
  have HB34 := Lib.hid (row_below w3 (.cells #[.slice (some ⟨g, 0, none⟩) 0 0] 77)).out
  have c4 := below_cell HB34.out c3
  have hr4 : Hid ((w3.alloc (.cells #[.slice (some ⟨g, 0, none⟩) 0 0] 77)).heap[w1.heap.size]? = some (.cells #[.int .i64 0, .slice none 0 0] 66 (0, 0))) := (HB34.out.block _ (blk_lt hr3.out)).trans hr3.out
  have HB4 := Lib.hid (below_then HB3.out HB3.out.size HB34.out)
  clear c3
  go_wp2_with (fail)
  generalize w3.alloc (.cells #[.slice (some ⟨g, 0, none⟩) 0 0] 77) = w4 at HB34 c4 hr4 HB4 ⊢
  refine (bsf_nil k _ w4).mono ?_
  rintro e w5 ⟨rfl, rfl⟩
  have hsz : Hid ((Tryd.prog.info? 66).map (·.size) = some (#[Value.int .i64 0, .slice none 0 0] : Array Value).size) := size66
  have hone : Hid ((#[Value.int .i64 0, .slice none 0 0] : Array Value).all (·.oneCell') = true) := by show _ = true; simp [Value.oneCell']
  have hsz2 : Hid ((#[Value.int .i64 0, .slice none 0 0] : Array Value).size = (#[Value.int .i64 0, .slice none 0 0] : Array Value).size) := rfl
  have hold : Hid (w4.heap[w.heap.size + 1]? = some (.cells #[.int .i64 0, .slice none 0 0] 66 (0, 0))) := (HB4.out.block _ (blk_lt HROW.out)).trans HROW.out
  go_wp2_with (first
    | (refine wpList_load_row rfl 66 (.tmp 6) rfl w1.heap.size rfl 66 _ (0, 0) _ hr4.out Tryd.underlying66 rfl hsz.out ?_)
    | (refine wpList_store_row rfl 66 (.tmp 4) (.tmp 49) rfl (w.heap.size + 1) _ rfl rfl 66 _ hold.out hsz.out rfl hone.out ?_))
  have hrow := setRow_heap _ (w.heap.size + 1) _ (#[Value.int .i64 0, .slice none 0 0] : Array Value) 66 (0, 0) hold.out
  refine bodyPost_ret (v := .tuple #[.agg #[.int .i64 0, .slice none 0 0], .int .i64 0]) (results_row_tmp (p := 4) (u := 5) (ty := 66) rfl _ _ (w.heap.size + 1) 66 _ (0, 0) _ rfl hrow Tryd.underlying66 rfl hsz.out) rfl ⟨rfl, below_setRow (below_then HB.out HB.out.size HB4.out) (by omega) _⟩
end Go.Proofs.YteceagldjnfeeaaDoor

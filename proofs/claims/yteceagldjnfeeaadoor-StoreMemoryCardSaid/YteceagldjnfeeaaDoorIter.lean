/- slices.Sorted(maps.Keys(m)) at this dump (the kit's lay-iter.mjs and lay-plain.mjs wrote it). -/
import Derived.Shelf.SlIter.Nil
import Derived.Shelf.SortM.Plain
import Derived.Shelf.SortM.SortNone
import Derived.Ground.GgzProg
import Derived.Ground.SlgmProg
import Derived.Test.YteceagldjnfeeaaDoorProg
namespace Go.Proofs
open Go.RowKit Go.Maps Go.Sort Go.Shelf
set_option linter.unusedVariables false
set_option linter.unusedSimpArgs false
def Tryd.keys73_ren : Go.Shelf.Ren := ⟨fun | 7 => 73 | 10 => 114 | n => n, fun | 23 => 101 | 26 => 9 | 3 => 105 | 28 => 111 | 0 => 0 | 27 => 110 | 33 => 130 | 4 => 4 | n => n, fun | n => n⟩
theorem Tryd.keys73 : Go.Proofs.SlLaysZ.n7 Tryd.prog Tryd.keys73_ren := {
  mixed := by kernel_rfl
  f7 := ⟨Tryd.f73.name, by decide, Tryd.func73.trans (congrArg some (by kernel_rfl))⟩
  f10 := ⟨Tryd.f114.name, by decide, Tryd.func114.trans (congrArg some (by kernel_rfl))⟩
  t0 := Tryd.underlying0
  a0 := Tryd.isAgg0
  z0 := Tryd.sizeOf0
  v0 := Tryd.zeroValue0
  t4 := Tryd.underlying4
  a4 := Tryd.isAgg4
  z4 := Tryd.sizeOf4
  v4 := Tryd.zeroValue4
  t23 := Tryd.underlying101
  a23 := Tryd.isAgg101
  z23 := Tryd.sizeOf101
  v23 := Tryd.zeroValue101
  t26 := Tryd.underlying9
  a26 := Tryd.isAgg9
  z26 := Tryd.sizeOf9
  v26 := Tryd.zeroValue9
  t27 := Tryd.underlying110
  a27 := Tryd.isAgg110
  z27 := Tryd.sizeOf110
  v27 := Tryd.zeroValue110
  t28 := Tryd.underlying111
  a28 := Tryd.isAgg111
  z28 := Tryd.sizeOf111
  v28 := Tryd.zeroValue111
  t33 := Tryd.underlying130
  a33 := Tryd.isAgg130
  z33 := Tryd.sizeOf130
  v33 := Tryd.zeroValue130 }
def Tryd.sorted72_ren : Go.Shelf.Ren := ⟨fun | 6 => 72 | 8 => 112 | 9 => 113 | 11 => 131 | 13 => 133 | 12 => 132 | 23 => 143 | 24 => 144 | 14 => 134 | 15 => 135 | 16 => 136 | 17 => 137 | 18 => 138 | 19 => 139 | 20 => 140 | 21 => 141 | 22 => 142 | 25 => 145 | 26 => 146 | 27 => 147 | 28 => 148 | 29 => 149 | 30 => 150 | 31 => 151 | n => n, fun | 26 => 9 | 28 => 111 | 24 => 108 | 0 => 0 | 3 => 3 | 37 => 76 | 48 => 84 | 50 => 88 | 4 => 4 | 40 => 164 | 39 => 163 | 45 => 132 | 5 => 5 | 9 => 9 | 51 => 171 | 55 => 175 | 57 => 177 | 58 => 178 | 33 => 130 | n => n, fun | n => n⟩
theorem Tryd.sorted72 : Go.Proofs.SlLaysZ.n6 Tryd.prog Tryd.sorted72_ren := {
  mixed := by kernel_rfl
  f6 := ⟨Tryd.f72.name, by decide, Tryd.func72.trans (congrArg some (by kernel_rfl))⟩
  f8 := ⟨Tryd.f112.name, by decide, Tryd.func112.trans (congrArg some (by kernel_rfl))⟩
  f11 := ⟨Tryd.f131.name, by decide, Tryd.func131.trans (congrArg some (by kernel_rfl))⟩
  t0 := Tryd.underlying0
  a0 := Tryd.isAgg0
  z0 := Tryd.sizeOf0
  v0 := Tryd.zeroValue0
  t24 := Tryd.underlying108
  a24 := Tryd.isAgg108
  z24 := Tryd.sizeOf108
  v24 := Tryd.zeroValue108
  t26 := Tryd.underlying9
  a26 := Tryd.isAgg9
  z26 := Tryd.sizeOf9
  v26 := Tryd.zeroValue9
  t28 := Tryd.underlying111
  a28 := Tryd.isAgg111
  z28 := Tryd.sizeOf111
  v28 := Tryd.zeroValue111
  i26 := by kernel_rfl }
def Tryd.sort113_ren : Go.Shelf.Ren := ⟨fun | 6 => 113 | 8 => 133 | 9 => 132 | 19 => 143 | 20 => 144 | 21 => 134 | 22 => 135 | 23 => 136 | 24 => 137 | 25 => 138 | 26 => 139 | 27 => 140 | 28 => 141 | 29 => 142 | 36 => 145 | 31 => 146 | 32 => 147 | 37 => 148 | 38 => 149 | 39 => 150 | 41 => 151 | n => n, fun | 27 => 108 | 29 => 9 | 3 => 3 | 32 => 76 | 26 => 108 | 0 => 0 | 44 => 84 | 46 => 88 | 4 => 4 | 36 => 164 | 35 => 163 | 41 => 132 | 5 => 5 | 9 => 9 | 53 => 171 | 57 => 175 | 63 => 177 | 64 => 178 | n => n, fun | n => n⟩
theorem Tryd.sort113 : Go.Proofs.SlLaysM.n6 Tryd.prog Tryd.sort113_ren := {
  mixed := by kernel_rfl
  f6 := ⟨Tryd.f113.name, by decide, Tryd.func113.trans (congrArg some (by kernel_rfl))⟩
  f8 := Tryd.func133.trans (congrArg some (by kernel_rfl))
  f9 := ⟨Tryd.f132.name, by decide, Tryd.func132.trans (congrArg some (by kernel_rfl))⟩
  f19 := Tryd.func143.trans (congrArg some (by kernel_rfl))
  f20 := Tryd.func144.trans (congrArg some (by kernel_rfl))
  f21 := ⟨Tryd.f134.name, by decide, Tryd.func134.trans (congrArg some (by kernel_rfl))⟩
  f22 := ⟨Tryd.f135.name, by decide, Tryd.func135.trans (congrArg some (by kernel_rfl))⟩
  f23 := ⟨Tryd.f136.name, by decide, Tryd.func136.trans (congrArg some (by kernel_rfl))⟩
  f24 := ⟨Tryd.f137.name, by decide, Tryd.func137.trans (congrArg some (by kernel_rfl))⟩
  f25 := ⟨Tryd.f138.name, by decide, Tryd.func138.trans (congrArg some (by kernel_rfl))⟩
  f26 := ⟨Tryd.f139.name, by decide, Tryd.func139.trans (congrArg some (by kernel_rfl))⟩
  f27 := ⟨Tryd.f140.name, by decide, Tryd.func140.trans (congrArg some (by kernel_rfl))⟩
  f28 := ⟨Tryd.f141.name, by decide, Tryd.func141.trans (congrArg some (by kernel_rfl))⟩
  f29 := ⟨Tryd.f142.name, by decide, Tryd.func142.trans (congrArg some (by kernel_rfl))⟩
  f31 := Tryd.func146.trans (congrArg some (by kernel_rfl))
  f32 := Tryd.func147.trans (congrArg some (by kernel_rfl))
  f36 := ⟨Tryd.f145.name, by decide, Tryd.func145.trans (congrArg some (by kernel_rfl))⟩
  f37 := ⟨Tryd.f148.name, by decide, Tryd.func148.trans (congrArg some (by kernel_rfl))⟩
  f38 := ⟨Tryd.f149.name, by decide, Tryd.func149.trans (congrArg some (by kernel_rfl))⟩
  f39 := ⟨Tryd.f150.name, by decide, Tryd.func150.trans (congrArg some (by kernel_rfl))⟩
  f41 := ⟨Tryd.f151.name, by decide, Tryd.func151.trans (congrArg some (by kernel_rfl))⟩
  t0 := Tryd.underlying0
  a0 := Tryd.isAgg0
  z0 := Tryd.sizeOf0
  v0 := Tryd.zeroValue0
  t3 := Tryd.underlying3
  a3 := Tryd.isAgg3
  z3 := Tryd.sizeOf3
  v3 := Tryd.zeroValue3
  t4 := Tryd.underlying4
  a4 := Tryd.isAgg4
  z4 := Tryd.sizeOf4
  v4 := Tryd.zeroValue4
  t5 := Tryd.underlying5
  a5 := Tryd.isAgg5
  z5 := Tryd.sizeOf5
  v5 := Tryd.zeroValue5
  t9 := Tryd.underlying9
  a9 := Tryd.isAgg9
  z9 := Tryd.sizeOf9
  v9 := Tryd.zeroValue9
  t26 := Tryd.underlying108
  a26 := Tryd.isAgg108
  z26 := Tryd.sizeOf108
  v26 := Tryd.zeroValue108
  t27 := Tryd.underlying108
  a27 := Tryd.isAgg108
  z27 := Tryd.sizeOf108
  v27 := Tryd.zeroValue108
  t29 := Tryd.underlying9
  a29 := Tryd.isAgg9
  z29 := Tryd.sizeOf9
  v29 := Tryd.zeroValue9
  t32 := Tryd.underlying76
  a32 := Tryd.isAgg76
  z32 := Tryd.sizeOf76
  v32 := Tryd.zeroValue76
  t35 := Tryd.underlying163
  a35 := Tryd.isAgg163
  z35 := Tryd.sizeOf163
  v35 := Tryd.zeroValue163
  t36 := Tryd.underlying164
  a36 := Tryd.isAgg164
  z36 := Tryd.sizeOf164
  v36 := Tryd.zeroValue164
  t41 := Tryd.underlying132
  a41 := Tryd.isAgg132
  z41 := Tryd.sizeOf132
  v41 := Tryd.zeroValue132
  t44 := Tryd.underlying84
  a44 := Tryd.isAgg84
  z44 := Tryd.sizeOf84
  v44 := Tryd.zeroValue84
  t46 := Tryd.underlying88
  a46 := Tryd.isAgg88
  z46 := Tryd.sizeOf88
  v46 := Tryd.zeroValue88
  t53 := Tryd.underlying171
  a53 := Tryd.isAgg171
  z53 := Tryd.sizeOf171
  v53 := Tryd.zeroValue171
  t57 := Tryd.underlying175
  a57 := Tryd.isAgg175
  z57 := Tryd.sizeOf175
  v57 := Tryd.zeroValue175
  t63 := Tryd.underlying177
  a63 := Tryd.isAgg177
  z63 := Tryd.sizeOf177
  v63 := Tryd.zeroValue177
  t64 := Tryd.underlying178
  a64 := Tryd.isAgg178
  z64 := Tryd.sizeOf178
  v64 := Tryd.zeroValue178 }

/-- slices.Sort's two contracts at this dump, at the fence that asks nothing. -/
theorem Tryd.sorts72 (m : Nat) : AnyZ.SortsIn Tryd.prog Tryd.sorted72_ren Fence.wide m :=
  ⟨fun blk off cap ss W hH hblk hsz => callsIn_wide.2 (AnyM.slices_Sort_string Tryd.sort113 blk off cap ss W hH hblk hsz),
   fun p cap W => callsIn_wide.2 (AnyM.slices_Sort_string_none Tryd.sort113 p cap W)⟩

/-- **maps.Keys[map[string]isthmus/store.entry,string,isthmus/store.entry], at whatever map, the nil one too:** a function value over ONE NEW BLOCK, which holds the map. -/
theorem Tryd.maps_Keys_73 (mb : Option Nat) (W : World) : CallsIn Fence.wide 5 Tryd.prog 73 #[.map mb] W fun e w' => e = .returned (.func (.func 114) #[] #[.pointer (some ⟨W.heap.size, 0, none⟩)]) ∧ w' = W.alloc (.cells #[.map mb] 101) :=
  AnyZ.keys_in Tryd.keys73 Fence.wide 5 trivial rfl mb W

set_option maxHeartbeats 1000000 in
/-- **slices.Sorted[string] AT WHAT maps.Keys[map[string]isthmus/store.entry,string,isthmus/store.entry] HANDED BACK FOR A MAP THAT IS NOT nil** ('w': the world AHEAD of maps.Keys' call): A NEW SLICE THAT HOLDS THE MAP's KEYS, SORTED; nil just where it has none; nothing that lay before has turned. -/
theorem Tryd.slices_Sorted_keys_72_73 {H : Type} (b nn : Nat) (D0 : DataW H) (R : Value → Option (DataW H × List MemPlace)) (w : World) (hown : w.ownsMap Tryd.prog 9 R b nn D0) (hmax : Maps.size D0 ≤ maxLen) (hbytes : Maps.size D0 * 16 ≤ 140737488355328) :
    CallsIn Fence.wide 5 Tryd.prog 72 #[.func (.func 114) #[] #[.pointer (some ⟨w.heap.size, 0, none⟩)]] (w.alloc (.cells #[.map (some b)] 101)) fun e w' => ∃ (v : Value) (ss : List (List UInt8)), e = .returned v ∧ ss.Perm (strKeys D0) ∧
      w'.ownsRow (w.alloc (.cells #[.map (some b)] 101)).heap.size 9 1 v ss.length ((ss.mergeSort (fun x y => decide (x ≤ y))).map encStr) ∧ (v = .slice none 0 0 ↔ ss = []) ∧ Below (w.alloc (.cells #[.map (some b)] 101)).heap.size (w.alloc (.cells #[.map (some b)] 101)) w' := by
  have hbl := hown.lt
  have hseq : SeqGives Fence.wide 2 Tryd.prog 114 #[.pointer (some ⟨w.heap.size, 0, none⟩)] encStr (fun ss => ss.Perm (strKeys D0)) (Maps.size D0) (w.alloc (.cells #[.map (some b)] 101)) :=
    AnyZ.keys_gives (ρ := Tryd.keys73_ren) { Tryd.keys73 with } Fence.wide _ trivial rfl (by omega) w.heap.size b nn D0 _ (by simp) (by simp) (by
      obtain ⟨es, clock, hb, Ft, hs, hD⟩ := hown
      exact ⟨es, clock, (Below.heap_alloc _ _ b hbl).trans hb, Ft, hs, hD⟩)
  exact AnyZ.sorted_in Tryd.sorted72 Fence.wide 5 trivial trivial trivial trivial rfl (by omega) (Tryd.sorts72 _) (enters_of Tryd.func113 (by kernel_rfl) rfl) 114 #[.pointer (some ⟨w.heap.size, 0, none⟩)] trivial (enters_of Tryd.func114 (by kernel_rfl) rfl) _ _ hmax hbytes _ hseq

set_option maxHeartbeats 1000000 in
/-- **.. AND FOR THE nil MAP: nil.** -/
theorem Tryd.slices_Sorted_keys_nil_72_73 (w : World) :
    CallsIn Fence.wide 5 Tryd.prog 72 #[.func (.func 114) #[] #[.pointer (some ⟨w.heap.size, 0, none⟩)]] (w.alloc (.cells #[.map none] 101)) fun e w' => ∃ (v : Value) (ss : List (List UInt8)), e = .returned v ∧ ss = [] ∧
      w'.ownsRow (w.alloc (.cells #[.map none] 101)).heap.size 9 1 v ss.length ((ss.mergeSort (fun x y => decide (x ≤ y))).map encStr) ∧ (v = .slice none 0 0 ↔ ss = []) ∧ Below (w.alloc (.cells #[.map none] 101)).heap.size (w.alloc (.cells #[.map none] 101)) w' := by
  have hseq : SeqGives Fence.wide 2 Tryd.prog 114 #[.pointer (some ⟨w.heap.size, 0, none⟩)] encStr (fun ss : List (List UInt8) => ss = []) 0 (w.alloc (.cells #[.map none] 101)) :=
    AnyZ.keys_gives_nil (ρ := Tryd.keys73_ren) { Tryd.keys73 with } Fence.wide _ trivial rfl w.heap.size _ (by simp) (by simp)
  exact AnyZ.sorted_in Tryd.sorted72 Fence.wide 5 trivial trivial trivial trivial rfl (by omega) (Tryd.sorts72 _) (enters_of Tryd.func113 (by kernel_rfl) rfl) 114 #[.pointer (some ⟨w.heap.size, 0, none⟩)] trivial (enters_of Tryd.func114 (by kernel_rfl) rfl) _ 0 (Nat.zero_le _) (by omega) _ hseq


end Go.Proofs

/-
  No cell of these rows narrows 'for every input' (looked for: loops, veiled, ifaces, maps, wideKeys, modest, calm, conditions, laid).
  DERIVED. THE GIVEN ROWS OF THIS SEAT. 7 by the template 'for every input the law returns true; each argument reads behind the call as it read before'; 0 by the template 'total and deterministic' (their statements: YteceagldjnfeeaaTotals.lean).
  GIVEN WITH THE SEED: the statements are not yours to turn. If you find one false, say at which input.
  Laid BY PROGRAM, IN A SANDBOX (cutbox-rows.mjs): the forced cells as the released guide's own fill.sh prints them over the translation 16cc5076eed1ad6c… (all of the seat's roots in one cut). By AI agents, Wed Nov 11 2026. No macro, syntax, notation, axiom, sorry.
-/
import Derived.Test.YteceagldjnfeeaaChecked
import GoSem.Claim
import GoSem.ClaimJoined
import GoSem.ClaimMapViews
import Derived.JoinedTies
import Derived.KernelRfl
namespace Go.Proofs.Yteceagldjnfeeaa
/- THE CELL 'sum', in the pinned program and in every row, IS THE sha256 OF THE DUMP (.gsa) THAT YteceagldjnfeeaaProg.lean LOADS. Nothing in Lean hashes anything: it is a label: what it is worth is what the hold of that sum in a sandbox is worth. -/
noncomputable def Try.pinned : Pinned := { name := "yteceagldjnfeeaa", sum := "16cc5076eed1ad6cc51168ca655dd57dc2429200d86468ca934b45b6ae634f5b", checked := Try.checked }
namespace Rows
def none {H : Type} : Left H := { results := [], args := [] }

/-- 'isthmuslaw05.NameOvers': WHATEVER THE INPUT: true; the input reads as it did. -/
def nameOversSpec : ChangeSpec := { name := "nameOvers", fn := fun _ => fun
  | [d1, d2] => { results := [.lit (.bool true)], args := [d1, d2] }
  | _ => none }
def nameOversRow : OpenClaim := { program := "yteceagldjnfeeaa", sum := "16cc5076eed1ad6cc51168ca655dd57dc2429200d86468ca934b45b6ae634f5b", func := "isthmus/isthmuslaw05.NameOvers", spec := "nameOvers", inPlace := ["internal/bytealg.IndexByteString", "internal/bytealg.IndexString"], named := ["internal/bytealg.MaxLen"], apart := false }
def NameOversSaid : Prop := nameOversRow.holds Try.pinned (OpenSpec.ofChange nameOversSpec)

/-- ITS FALSE NEIGHBOUR: 'it returns false'. Refute it at one input. -/
def nameOversWrong : ChangeSpec := { name := "nameOvers", fn := fun _ => fun
  | [d1, d2] => { results := [.lit (.bool false)], args := [d1, d2] }
  | _ => none }
def NameOversWrongFalsely : Prop := nameOversRow.holds Try.pinned (OpenSpec.ofChange nameOversWrong)

/-- 'isthmuslaw05.NameLens': WHATEVER THE INPUT: true; the input reads as it did. -/
def nameLensSpec : ChangeSpec := { name := "nameLens", fn := fun _ => fun
  | [d1, d2] => { results := [.lit (.bool true)], args := [d1, d2] }
  | _ => none }
def nameLensRow : OpenClaim := { program := "yteceagldjnfeeaa", sum := "16cc5076eed1ad6cc51168ca655dd57dc2429200d86468ca934b45b6ae634f5b", func := "isthmus/isthmuslaw05.NameLens", spec := "nameLens", inPlace := ["internal/bytealg.IndexByteString", "internal/bytealg.IndexString"], named := ["internal/bytealg.MaxLen"], apart := false }
def NameLensSaid : Prop := nameLensRow.holds Try.pinned (OpenSpec.ofChange nameLensSpec)

/-- ITS FALSE NEIGHBOUR: 'it returns false'. Refute it at one input. -/
def nameLensWrong : ChangeSpec := { name := "nameLens", fn := fun _ => fun
  | [d1, d2] => { results := [.lit (.bool false)], args := [d1, d2] }
  | _ => none }
def NameLensWrongFalsely : Prop := nameLensRow.holds Try.pinned (OpenSpec.ofChange nameLensWrong)

/-- 'isthmuslaw05.NameReads': WHATEVER THE INPUT: true; the input reads as it did. -/
def nameReadsSpec : ChangeSpec := { name := "nameReads", fn := fun _ => fun
  | [d] => { results := [.lit (.bool true)], args := [d] }
  | _ => none }
def nameReadsRow : OpenClaim := { program := "yteceagldjnfeeaa", sum := "16cc5076eed1ad6cc51168ca655dd57dc2429200d86468ca934b45b6ae634f5b", func := "isthmus/isthmuslaw05.NameReads", spec := "nameReads", inPlace := ["internal/bytealg.IndexByteString", "internal/bytealg.IndexString"], named := ["internal/bytealg.MaxLen"], apart := false }
def NameReadsSaid : Prop := nameReadsRow.holds Try.pinned (OpenSpec.ofChange nameReadsSpec)

/-- ITS FALSE NEIGHBOUR: 'it returns false'. Refute it at one input. -/
def nameReadsWrong : ChangeSpec := { name := "nameReads", fn := fun _ => fun
  | [d] => { results := [.lit (.bool false)], args := [d] }
  | _ => none }
def NameReadsWrongFalsely : Prop := nameReadsRow.holds Try.pinned (OpenSpec.ofChange nameReadsWrong)

/-- 'isthmuslaw05.NameBack': WHATEVER THE INPUT: true; the input reads as it did. -/
def nameBackSpec : ChangeSpec := { name := "nameBack", fn := fun _ => fun
  | [d1, d2] => { results := [.lit (.bool true)], args := [d1, d2] }
  | _ => none }
def nameBackRow : OpenClaim := { program := "yteceagldjnfeeaa", sum := "16cc5076eed1ad6cc51168ca655dd57dc2429200d86468ca934b45b6ae634f5b", func := "isthmus/isthmuslaw05.NameBack", spec := "nameBack", inPlace := ["internal/bytealg.IndexByteString", "internal/bytealg.IndexString"], named := ["internal/bytealg.MaxLen"], apart := false }
def NameBackSaid : Prop := nameBackRow.holds Try.pinned (OpenSpec.ofChange nameBackSpec)

/-- ITS FALSE NEIGHBOUR: 'it returns false'. Refute it at one input. -/
def nameBackWrong : ChangeSpec := { name := "nameBack", fn := fun _ => fun
  | [d1, d2] => { results := [.lit (.bool false)], args := [d1, d2] }
  | _ => none }
def NameBackWrongFalsely : Prop := nameBackRow.holds Try.pinned (OpenSpec.ofChange nameBackWrong)

/-- 'isthmuslaw05.NameApart': WHATEVER THE INPUT: true; the input reads as it did. -/
def nameApartSpec : ChangeSpec := { name := "nameApart", fn := fun _ => fun
  | [d] => { results := [.lit (.bool true)], args := [d] }
  | _ => none }
def nameApartRow : OpenClaim := { program := "yteceagldjnfeeaa", sum := "16cc5076eed1ad6cc51168ca655dd57dc2429200d86468ca934b45b6ae634f5b", func := "isthmus/isthmuslaw05.NameApart", spec := "nameApart", inPlace := ["internal/bytealg.IndexByteString", "internal/bytealg.IndexString"], named := ["internal/bytealg.MaxLen"], apart := false }
def NameApartSaid : Prop := nameApartRow.holds Try.pinned (OpenSpec.ofChange nameApartSpec)

/-- ITS FALSE NEIGHBOUR: 'it returns false'. Refute it at one input. -/
def nameApartWrong : ChangeSpec := { name := "nameApart", fn := fun _ => fun
  | [d] => { results := [.lit (.bool false)], args := [d] }
  | _ => none }
def NameApartWrongFalsely : Prop := nameApartRow.holds Try.pinned (OpenSpec.ofChange nameApartWrong)

/-- 'isthmuslaw09.StoreNews': WHATEVER THE INPUT: true; the input reads as it did. -/
def storeNewsSpec : ChangeSpec := { name := "storeNews", fn := fun _ => fun
  | [d] => { results := [.lit (.bool true)], args := [d] }
  | _ => none }
def storeNewsRow : OpenClaim := { program := "yteceagldjnfeeaa", sum := "16cc5076eed1ad6cc51168ca655dd57dc2429200d86468ca934b45b6ae634f5b", func := "isthmus/isthmuslaw09.StoreNews", spec := "storeNews", inPlace := ["maps.clone"], unfollowed := true, recurses := true, apart := false }
def StoreNewsSaid : Prop := storeNewsRow.holds Try.pinned (OpenSpec.ofChange storeNewsSpec)

/-- ITS FALSE NEIGHBOUR: 'it returns false'. Refute it at one input. -/
def storeNewsWrong : ChangeSpec := { name := "storeNews", fn := fun _ => fun
  | [d] => { results := [.lit (.bool false)], args := [d] }
  | _ => none }
def StoreNewsWrongFalsely : Prop := storeNewsRow.holds Try.pinned (OpenSpec.ofChange storeNewsWrong)

/-- 'isthmuslaw09.StoreOrder': WHATEVER THE INPUT: true; the input reads as it did. -/
def storeOrderSpec : ChangeSpec := { name := "storeOrder", fn := fun _ => fun
  | [d1, d2] => { results := [.lit (.bool true)], args := [d1, d2] }
  | _ => none }
def storeOrderRow : OpenClaim := { program := "yteceagldjnfeeaa", sum := "16cc5076eed1ad6cc51168ca655dd57dc2429200d86468ca934b45b6ae634f5b", func := "isthmus/isthmuslaw09.StoreOrder", spec := "storeOrder", inPlace := ["maps.clone"], unfollowed := true, recurses := true, apart := false }
def StoreOrderSaid : Prop := storeOrderRow.holds Try.pinned (OpenSpec.ofChange storeOrderSpec)

/-- ITS FALSE NEIGHBOUR: 'it returns false'. Refute it at one input. -/
def storeOrderWrong : ChangeSpec := { name := "storeOrder", fn := fun _ => fun
  | [d1, d2] => { results := [.lit (.bool false)], args := [d1, d2] }
  | _ => none }
def StoreOrderWrongFalsely : Prop := storeOrderRow.holds Try.pinned (OpenSpec.ofChange storeOrderWrong)

/- THE SECOND FORM. 'bulk': how many values and letters a reading holds, each counted each time it is reached (what is shared counts as often as it is met; a slice's spare places count too). A statement '..UptoSaid' is the law's where the arguments, and the package variables that the reading takes, are together of bulk at most 1048576: NARROWER than '..Said'. Prove '..Said' where nothing that the law and all that it calls make is longer than what came in: it says more and counts as full. Else prove '..UptoSaid'. A law counts once. -/
mutual
def uptoBulk {H : Type} : DataW H → Nat
  | .lit (.string bytes) => bytes.length + 1
  | .lit _ => 1
  | .nil => 1
  | .ptr d => uptoBulk d + 1
  | .slice elems spare => uptoBulkAll elems + uptoBulkAll spare + 1
  | .agg parts => uptoBulkAll parts + 1
  | .iface _ d => uptoBulk d + 1
  | .map entries => uptoBulkEntries entries + 1
  | .held _ => 1
def uptoBulkAll {H : Type} : List (DataW H) → Nat
  | [] => 0
  | d :: r => uptoBulk d + uptoBulkAll r
def uptoBulkEntries {H : Type} : List (Lit × DataW H) → Nat
  | [] => 0
  | x :: r => uptoBulkEntry x + uptoBulkEntries r
def uptoBulkEntry {H : Type} : Lit × DataW H → Nat
  | (.string bytes, d) => bytes.length + uptoBulk d + 1
  | (_, d) => uptoBulk d + 1
 end
def uptoSmall : (H : Type) → List (DataW H) → Bool := fun _ ds => decide (uptoBulkAll ds ≤ 1048576)
def OpenSpec.upto (s : _root_.Go.ChangeSpec) : _root_.Go.OpenSpec := { _root_.Go.OpenSpec.ofChange s with cond := some uptoSmall }

/-- 'isthmuslaw05.NameOvers', WHERE WHAT IT READS IS OF BULK AT MOST 1048576: true; the input reads as it did. -/
def nameOversUptoRow : OpenClaim := { program := "yteceagldjnfeeaa", sum := "16cc5076eed1ad6cc51168ca655dd57dc2429200d86468ca934b45b6ae634f5b", func := "isthmus/isthmuslaw05.NameOvers", spec := "nameOvers", inPlace := ["internal/bytealg.IndexByteString", "internal/bytealg.IndexString"], named := ["internal/bytealg.MaxLen"], apart := false, narrowed := true }
def NameOversUptoSaid : Prop := nameOversUptoRow.holds Try.pinned (OpenSpec.upto nameOversSpec)

/-- 'isthmuslaw05.NameLens', WHERE WHAT IT READS IS OF BULK AT MOST 1048576: true; the input reads as it did. -/
def nameLensUptoRow : OpenClaim := { program := "yteceagldjnfeeaa", sum := "16cc5076eed1ad6cc51168ca655dd57dc2429200d86468ca934b45b6ae634f5b", func := "isthmus/isthmuslaw05.NameLens", spec := "nameLens", inPlace := ["internal/bytealg.IndexByteString", "internal/bytealg.IndexString"], named := ["internal/bytealg.MaxLen"], apart := false, narrowed := true }
def NameLensUptoSaid : Prop := nameLensUptoRow.holds Try.pinned (OpenSpec.upto nameLensSpec)

/-- 'isthmuslaw05.NameReads', WHERE WHAT IT READS IS OF BULK AT MOST 1048576: true; the input reads as it did. -/
def nameReadsUptoRow : OpenClaim := { program := "yteceagldjnfeeaa", sum := "16cc5076eed1ad6cc51168ca655dd57dc2429200d86468ca934b45b6ae634f5b", func := "isthmus/isthmuslaw05.NameReads", spec := "nameReads", inPlace := ["internal/bytealg.IndexByteString", "internal/bytealg.IndexString"], named := ["internal/bytealg.MaxLen"], apart := false, narrowed := true }
def NameReadsUptoSaid : Prop := nameReadsUptoRow.holds Try.pinned (OpenSpec.upto nameReadsSpec)

/-- 'isthmuslaw05.NameBack', WHERE WHAT IT READS IS OF BULK AT MOST 1048576: true; the input reads as it did. -/
def nameBackUptoRow : OpenClaim := { program := "yteceagldjnfeeaa", sum := "16cc5076eed1ad6cc51168ca655dd57dc2429200d86468ca934b45b6ae634f5b", func := "isthmus/isthmuslaw05.NameBack", spec := "nameBack", inPlace := ["internal/bytealg.IndexByteString", "internal/bytealg.IndexString"], named := ["internal/bytealg.MaxLen"], apart := false, narrowed := true }
def NameBackUptoSaid : Prop := nameBackUptoRow.holds Try.pinned (OpenSpec.upto nameBackSpec)

/-- 'isthmuslaw05.NameApart', WHERE WHAT IT READS IS OF BULK AT MOST 1048576: true; the input reads as it did. -/
def nameApartUptoRow : OpenClaim := { program := "yteceagldjnfeeaa", sum := "16cc5076eed1ad6cc51168ca655dd57dc2429200d86468ca934b45b6ae634f5b", func := "isthmus/isthmuslaw05.NameApart", spec := "nameApart", inPlace := ["internal/bytealg.IndexByteString", "internal/bytealg.IndexString"], named := ["internal/bytealg.MaxLen"], apart := false, narrowed := true }
def NameApartUptoSaid : Prop := nameApartUptoRow.holds Try.pinned (OpenSpec.upto nameApartSpec)

/-- 'isthmuslaw09.StoreNews', WHERE WHAT IT READS IS OF BULK AT MOST 1048576: true; the input reads as it did. -/
def storeNewsUptoRow : OpenClaim := { program := "yteceagldjnfeeaa", sum := "16cc5076eed1ad6cc51168ca655dd57dc2429200d86468ca934b45b6ae634f5b", func := "isthmus/isthmuslaw09.StoreNews", spec := "storeNews", inPlace := ["maps.clone"], unfollowed := true, recurses := true, apart := false, narrowed := true }
def StoreNewsUptoSaid : Prop := storeNewsUptoRow.holds Try.pinned (OpenSpec.upto storeNewsSpec)

/-- 'isthmuslaw09.StoreOrder', WHERE WHAT IT READS IS OF BULK AT MOST 1048576: true; the input reads as it did. -/
def storeOrderUptoRow : OpenClaim := { program := "yteceagldjnfeeaa", sum := "16cc5076eed1ad6cc51168ca655dd57dc2429200d86468ca934b45b6ae634f5b", func := "isthmus/isthmuslaw09.StoreOrder", spec := "storeOrder", inPlace := ["maps.clone"], unfollowed := true, recurses := true, apart := false, narrowed := true }
def StoreOrderUptoSaid : Prop := storeOrderUptoRow.holds Try.pinned (OpenSpec.upto storeOrderSpec)

end Rows
end Go.Proofs.Yteceagldjnfeeaa

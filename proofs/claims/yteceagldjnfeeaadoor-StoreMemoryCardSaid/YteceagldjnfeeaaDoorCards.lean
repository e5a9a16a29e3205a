/-
  DERIVED. GIVEN WITH THE SEED: THE CARDS: each row of YteceagldjnfeeaaDoorRows.lean that lists a variable, with what it lists TIED to the program's text (the seventh form; the later family's looks); each row that meets fmt, with fmt's text TOLD by the authors' own Lean function (tested against real Go, not proved from fmt's source: count such statements apart). THE CARD IS WHAT COUNTS. Prove the row's statement (the work); the ties are given (YteceagldjnfeeaaDoorTie.lean); close each card by the builder's one call (the guide's Derived/Test/ToyasCard.lean, 'card_holds'). Laid BY PROGRAM, IN A SANDBOX (cutbox-door.mjs). By AI agents, Wed Nov 11 2026. No macro, syntax, notation, axiom, sorry.
-/
import Derived.Test.YteceagldjnfeeaaDoorRows
import GoSem.ClaimSeven
namespace Go.Proofs.YteceagldjnfeeaaDoor
namespace Rows

/-- THE TIED CARD OF 'isthmuslaw03.ShaSums'. -/
def shaSumsCard : Claim7 := { stood := { row := shaSumsRow, standIns := [], harness := (true, "6f0a10b799763a0fea229ef40fe05f27bb6762ea0a5ca9958912e8914a4e4a1b"), looks := true }, kinds := [], alts := [], laidByText := true, laidKinds := [.data, .data], laidTests := true, laidLooks := .later }
def ShaSumsCardSaid : Prop := Claim7.holds Tryd.pinned (.plain (OpenSpec.ofChange shaSumsSpec)) shaSumsCard

/-- THE TIED CARD OF 'isthmuslaw03.ShaHexes'. -/
def shaHexesCard : Claim7 := { stood := { row := shaHexesRow, standIns := [], harness := (true, "6f0a10b799763a0fea229ef40fe05f27bb6762ea0a5ca9958912e8914a4e4a1b"), looks := true }, kinds := [], alts := [], laidByText := true, laidKinds := [.data], laidTests := true, laidLooks := .later }
def ShaHexesCardSaid : Prop := Claim7.holds Tryd.pinned (.plain (OpenSpec.ofChange shaHexesSpec)) shaHexesCard

/-- THE TIED CARD OF 'isthmuslaw03.ShaApart'. -/
def shaApartCard : Claim7 := { stood := { row := shaApartRow, standIns := [], harness := (true, "6f0a10b799763a0fea229ef40fe05f27bb6762ea0a5ca9958912e8914a4e4a1b"), looks := true }, kinds := [], alts := [], laidByText := true, laidKinds := [.data], laidTests := true, laidLooks := .later }
def ShaApartCardSaid : Prop := Claim7.holds Tryd.pinned (.plain (OpenSpec.ofChange shaApartSpec)) shaApartCard

/-- THE TIED CARD OF 'isthmuslaw03.ShaTags'. -/
def shaTagsCard : Claim7 := { stood := { row := shaTagsRow, standIns := [], harness := (true, "6f0a10b799763a0fea229ef40fe05f27bb6762ea0a5ca9958912e8914a4e4a1b"), looks := true }, kinds := [], alts := [], laidByText := true, laidKinds := [.data, .data], laidTests := true, laidLooks := .later }
def ShaTagsCardSaid : Prop := Claim7.holds Tryd.pinned (.plain (OpenSpec.ofChange shaTagsSpec)) shaTagsCard

/-- THE TIED CARD OF 'isthmuslaw03.ShaLens'. -/
def shaLensCard : Claim7 := { stood := { row := shaLensRow, standIns := [], harness := (true, "6f0a10b799763a0fea229ef40fe05f27bb6762ea0a5ca9958912e8914a4e4a1b"), looks := true }, kinds := [], alts := [], laidByText := true, laidKinds := [.data], laidTests := true, laidLooks := .later }
def ShaLensCardSaid : Prop := Claim7.holds Tryd.pinned (.plain (OpenSpec.ofChange shaLensSpec)) shaLensCard

/-- THE TIED CARD OF 'isthmuslaw04.SignRoots'. -/
def signRootsCard : Claim7 := { stood := { row := signRootsRow, standIns := [], harness := (true, "6f0a10b799763a0fea229ef40fe05f27bb6762ea0a5ca9958912e8914a4e4a1b"), looks := true }, kinds := [], alts := [], laidByText := true, laidKinds := [.data, .data], laidTests := true, laidLooks := .later }
def SignRootsCardSaid : Prop := Claim7.holds Tryd.pinned (.plain (OpenSpec.ofChange signRootsSpec)) signRootsCard

/-- THE TIED CARD OF 'isthmuslaw09.StoreMemory'. -/
def storeMemoryCard : Claim7 := { stood := { row := storeMemoryRow, standIns := [], harness := (true, "6f0a10b799763a0fea229ef40fe05f27bb6762ea0a5ca9958912e8914a4e4a1b"), looks := true }, kinds := [], alts := [], laidByText := true, laidKinds := [.data], laidTests := true, laidLooks := .later }
def StoreMemoryCardSaid : Prop := Claim7.holds Tryd.pinned (.plain (OpenSpec.ofChange storeMemorySpec)) storeMemoryCard

/-- THE TIED CARD OF 'isthmuslaw04.SignSigns'. -/
def signSignsCard : Claim7 := { stood := { row := signSignsRow, standIns := [], harness := (true, "6f0a10b799763a0fea229ef40fe05f27bb6762ea0a5ca9958912e8914a4e4a1b"), looks := true }, kinds := [], alts := [], laidByText := true, laidKinds := [.data, .data], laidTests := true, laidLooks := .later }
def SignSignsCardSaid : Prop := Claim7.holds Tryd.pinned (.plain (OpenSpec.ofChange signSignsSpec)) signSignsCard

/-- THE TIED CARD OF 'isthmuslaw09.StoreBranches'. -/
def storeBranchesCard : Claim7 := { stood := { row := storeBranchesRow, standIns := [], harness := (true, "6f0a10b799763a0fea229ef40fe05f27bb6762ea0a5ca9958912e8914a4e4a1b"), looks := true }, kinds := [], alts := [], laidByText := true, laidKinds := [.data], laidTests := true, laidLooks := .later }
def StoreBranchesCardSaid : Prop := Claim7.holds Tryd.pinned (.plain (OpenSpec.ofChange storeBranchesSpec)) storeBranchesCard

/-- THE TIED CARD OF 'isthmuslaw04.SignVerifies'. -/
def signVerifiesCard : Claim7 := { stood := { row := signVerifiesRow, standIns := [], harness := (true, "6f0a10b799763a0fea229ef40fe05f27bb6762ea0a5ca9958912e8914a4e4a1b"), looks := true }, kinds := [], alts := [], laidByText := true, laidKinds := [.data, .data], laidTests := true, laidLooks := .later }
def SignVerifiesCardSaid : Prop := Claim7.holds Tryd.pinned (.plain (OpenSpec.ofChange signVerifiesSpec)) signVerifiesCard

/-- THE TIED CARD OF 'isthmuslaw04.SignShape'. -/
def signShapeCard : Claim7 := { stood := { row := signShapeRow, standIns := [], harness := (true, "6f0a10b799763a0fea229ef40fe05f27bb6762ea0a5ca9958912e8914a4e4a1b"), looks := true }, kinds := [], alts := [], laidByText := true, laidKinds := [.data], laidTests := true, laidLooks := .later }
def SignShapeCardSaid : Prop := Claim7.holds Tryd.pinned (.plain (OpenSpec.ofChange signShapeSpec)) signShapeCard

/-- THE TIED CARD OF 'isthmuslaw04.SignHolds'. -/
def signHoldsCard : Claim7 := { stood := { row := signHoldsRow, standIns := [], harness := (true, "6f0a10b799763a0fea229ef40fe05f27bb6762ea0a5ca9958912e8914a4e4a1b"), looks := true }, kinds := [], alts := [], laidByText := true, laidKinds := [.data], laidTests := true, laidLooks := .later }
def SignHoldsCardSaid : Prop := Claim7.holds Tryd.pinned (.plain (OpenSpec.ofChange signHoldsSpec)) signHoldsCard

/-- THE TIED CARD OF 'isthmuslaw08.MerkleRoots'. -/
def merkleRootsCard : Claim7 := { stood := { row := merkleRootsRow, standIns := [], harness := (true, "6f0a10b799763a0fea229ef40fe05f27bb6762ea0a5ca9958912e8914a4e4a1b"), looks := true }, kinds := [], alts := [], laidByText := true, laidKinds := [.data, .data], laidTests := true, laidLooks := .later }
def MerkleRootsCardSaid : Prop := Claim7.holds Tryd.pinned (.plain (OpenSpec.ofChange merkleRootsSpec)) merkleRootsCard

/-- THE TIED CARD OF 'isthmuslaw08.MerkleProves'. -/
def merkleProvesCard : Claim7 := { stood := { row := merkleProvesRow, standIns := [], harness := (true, "6f0a10b799763a0fea229ef40fe05f27bb6762ea0a5ca9958912e8914a4e4a1b"), looks := true }, kinds := [], alts := [], laidByText := true, laidKinds := [.data, .data], laidTests := true, laidLooks := .later }
def MerkleProvesCardSaid : Prop := Claim7.holds Tryd.pinned (.plain (OpenSpec.ofChange merkleProvesSpec)) merkleProvesCard

/-- THE TIED CARD OF 'isthmuslaw08.MerkleTakes'. -/
def merkleTakesCard : Claim7 := { stood := { row := merkleTakesRow, standIns := [], harness := (true, "6f0a10b799763a0fea229ef40fe05f27bb6762ea0a5ca9958912e8914a4e4a1b"), looks := true }, kinds := [], alts := [], laidByText := true, laidKinds := [.data, .data], laidTests := true, laidLooks := .later }
def MerkleTakesCardSaid : Prop := Claim7.holds Tryd.pinned (.plain (OpenSpec.ofChange merkleTakesSpec)) merkleTakesCard

/-- THE TIED CARD OF 'isthmuslaw08.MerkleHolds'. -/
def merkleHoldsCard : Claim7 := { stood := { row := merkleHoldsRow, standIns := [], harness := (true, "6f0a10b799763a0fea229ef40fe05f27bb6762ea0a5ca9958912e8914a4e4a1b"), looks := true }, kinds := [], alts := [], laidByText := true, laidKinds := [.data], laidTests := true, laidLooks := .later }
def MerkleHoldsCardSaid : Prop := Claim7.holds Tryd.pinned (.plain (OpenSpec.ofChange merkleHoldsSpec)) merkleHoldsCard

/-- THE TIED CARD OF 'isthmuslaw08.MerkleAbsent'. -/
def merkleAbsentCard : Claim7 := { stood := { row := merkleAbsentRow, standIns := [], harness := (true, "6f0a10b799763a0fea229ef40fe05f27bb6762ea0a5ca9958912e8914a4e4a1b"), looks := true }, kinds := [], alts := [], laidByText := true, laidKinds := [.data, .data], laidTests := true, laidLooks := .later }
def MerkleAbsentCardSaid : Prop := Claim7.holds Tryd.pinned (.plain (OpenSpec.ofChange merkleAbsentSpec)) merkleAbsentCard

/-- THE TIED CARD OF 'isthmuslaw08.MerkleSpots'. -/
def merkleSpotsCard : Claim7 := { stood := { row := merkleSpotsRow, standIns := [], harness := (true, "6f0a10b799763a0fea229ef40fe05f27bb6762ea0a5ca9958912e8914a4e4a1b"), looks := true }, kinds := [], alts := [], laidByText := true, laidKinds := [.data], laidTests := true, laidLooks := .later }
def MerkleSpotsCardSaid : Prop := Claim7.holds Tryd.pinned (.plain (OpenSpec.ofChange merkleSpotsSpec)) merkleSpotsCard

/-- THE TIED CARD OF 'isthmuslaw09.StoreHistory'. -/
def storeHistoryCard : Claim7 := { stood := { row := storeHistoryRow, standIns := [], harness := (true, "6f0a10b799763a0fea229ef40fe05f27bb6762ea0a5ca9958912e8914a4e4a1b"), looks := true }, kinds := [], alts := [], laidByText := true, laidKinds := [.data, .data], laidTests := true, laidLooks := .later }
def StoreHistoryCardSaid : Prop := Claim7.holds Tryd.pinned (.plain (OpenSpec.ofChange storeHistorySpec)) storeHistoryCard

/-- THE SECOND FORM's CARD OF 'isthmuslaw03.ShaSums'. -/
def shaSumsUptoCard : Claim7 := { stood := { row := shaSumsUptoRow, standIns := [], harness := (true, "6f0a10b799763a0fea229ef40fe05f27bb6762ea0a5ca9958912e8914a4e4a1b"), looks := true }, kinds := [], alts := [], laidByText := true, laidKinds := [.data, .data], laidTests := true, laidLooks := .later }
def ShaSumsUptoCardSaid : Prop := Claim7.holds Tryd.pinned (.plain (OpenSpec.upto shaSumsSpec)) shaSumsUptoCard

/-- THE SECOND FORM's CARD OF 'isthmuslaw03.ShaHexes'. -/
def shaHexesUptoCard : Claim7 := { stood := { row := shaHexesUptoRow, standIns := [], harness := (true, "6f0a10b799763a0fea229ef40fe05f27bb6762ea0a5ca9958912e8914a4e4a1b"), looks := true }, kinds := [], alts := [], laidByText := true, laidKinds := [.data], laidTests := true, laidLooks := .later }
def ShaHexesUptoCardSaid : Prop := Claim7.holds Tryd.pinned (.plain (OpenSpec.upto shaHexesSpec)) shaHexesUptoCard

/-- THE SECOND FORM's CARD OF 'isthmuslaw03.ShaApart'. -/
def shaApartUptoCard : Claim7 := { stood := { row := shaApartUptoRow, standIns := [], harness := (true, "6f0a10b799763a0fea229ef40fe05f27bb6762ea0a5ca9958912e8914a4e4a1b"), looks := true }, kinds := [], alts := [], laidByText := true, laidKinds := [.data], laidTests := true, laidLooks := .later }
def ShaApartUptoCardSaid : Prop := Claim7.holds Tryd.pinned (.plain (OpenSpec.upto shaApartSpec)) shaApartUptoCard

/-- THE SECOND FORM's CARD OF 'isthmuslaw03.ShaTags'. -/
def shaTagsUptoCard : Claim7 := { stood := { row := shaTagsUptoRow, standIns := [], harness := (true, "6f0a10b799763a0fea229ef40fe05f27bb6762ea0a5ca9958912e8914a4e4a1b"), looks := true }, kinds := [], alts := [], laidByText := true, laidKinds := [.data, .data], laidTests := true, laidLooks := .later }
def ShaTagsUptoCardSaid : Prop := Claim7.holds Tryd.pinned (.plain (OpenSpec.upto shaTagsSpec)) shaTagsUptoCard

/-- THE SECOND FORM's CARD OF 'isthmuslaw03.ShaLens'. -/
def shaLensUptoCard : Claim7 := { stood := { row := shaLensUptoRow, standIns := [], harness := (true, "6f0a10b799763a0fea229ef40fe05f27bb6762ea0a5ca9958912e8914a4e4a1b"), looks := true }, kinds := [], alts := [], laidByText := true, laidKinds := [.data], laidTests := true, laidLooks := .later }
def ShaLensUptoCardSaid : Prop := Claim7.holds Tryd.pinned (.plain (OpenSpec.upto shaLensSpec)) shaLensUptoCard

/-- THE SECOND FORM's CARD OF 'isthmuslaw04.SignRoots'. -/
def signRootsUptoCard : Claim7 := { stood := { row := signRootsUptoRow, standIns := [], harness := (true, "6f0a10b799763a0fea229ef40fe05f27bb6762ea0a5ca9958912e8914a4e4a1b"), looks := true }, kinds := [], alts := [], laidByText := true, laidKinds := [.data, .data], laidTests := true, laidLooks := .later }
def SignRootsUptoCardSaid : Prop := Claim7.holds Tryd.pinned (.plain (OpenSpec.upto signRootsSpec)) signRootsUptoCard

/-- THE SECOND FORM's CARD OF 'isthmuslaw09.StoreMemory'. -/
def storeMemoryUptoCard : Claim7 := { stood := { row := storeMemoryUptoRow, standIns := [], harness := (true, "6f0a10b799763a0fea229ef40fe05f27bb6762ea0a5ca9958912e8914a4e4a1b"), looks := true }, kinds := [], alts := [], laidByText := true, laidKinds := [.data], laidTests := true, laidLooks := .later }
def StoreMemoryUptoCardSaid : Prop := Claim7.holds Tryd.pinned (.plain (OpenSpec.upto storeMemorySpec)) storeMemoryUptoCard

/-- THE SECOND FORM's CARD OF 'isthmuslaw04.SignSigns'. -/
def signSignsUptoCard : Claim7 := { stood := { row := signSignsUptoRow, standIns := [], harness := (true, "6f0a10b799763a0fea229ef40fe05f27bb6762ea0a5ca9958912e8914a4e4a1b"), looks := true }, kinds := [], alts := [], laidByText := true, laidKinds := [.data, .data], laidTests := true, laidLooks := .later }
def SignSignsUptoCardSaid : Prop := Claim7.holds Tryd.pinned (.plain (OpenSpec.upto signSignsSpec)) signSignsUptoCard

/-- THE SECOND FORM's CARD OF 'isthmuslaw09.StoreBranches'. -/
def storeBranchesUptoCard : Claim7 := { stood := { row := storeBranchesUptoRow, standIns := [], harness := (true, "6f0a10b799763a0fea229ef40fe05f27bb6762ea0a5ca9958912e8914a4e4a1b"), looks := true }, kinds := [], alts := [], laidByText := true, laidKinds := [.data], laidTests := true, laidLooks := .later }
def StoreBranchesUptoCardSaid : Prop := Claim7.holds Tryd.pinned (.plain (OpenSpec.upto storeBranchesSpec)) storeBranchesUptoCard

/-- THE SECOND FORM's CARD OF 'isthmuslaw04.SignVerifies'. -/
def signVerifiesUptoCard : Claim7 := { stood := { row := signVerifiesUptoRow, standIns := [], harness := (true, "6f0a10b799763a0fea229ef40fe05f27bb6762ea0a5ca9958912e8914a4e4a1b"), looks := true }, kinds := [], alts := [], laidByText := true, laidKinds := [.data, .data], laidTests := true, laidLooks := .later }
def SignVerifiesUptoCardSaid : Prop := Claim7.holds Tryd.pinned (.plain (OpenSpec.upto signVerifiesSpec)) signVerifiesUptoCard

/-- THE SECOND FORM's CARD OF 'isthmuslaw04.SignShape'. -/
def signShapeUptoCard : Claim7 := { stood := { row := signShapeUptoRow, standIns := [], harness := (true, "6f0a10b799763a0fea229ef40fe05f27bb6762ea0a5ca9958912e8914a4e4a1b"), looks := true }, kinds := [], alts := [], laidByText := true, laidKinds := [.data], laidTests := true, laidLooks := .later }
def SignShapeUptoCardSaid : Prop := Claim7.holds Tryd.pinned (.plain (OpenSpec.upto signShapeSpec)) signShapeUptoCard

/-- THE SECOND FORM's CARD OF 'isthmuslaw04.SignHolds'. -/
def signHoldsUptoCard : Claim7 := { stood := { row := signHoldsUptoRow, standIns := [], harness := (true, "6f0a10b799763a0fea229ef40fe05f27bb6762ea0a5ca9958912e8914a4e4a1b"), looks := true }, kinds := [], alts := [], laidByText := true, laidKinds := [.data], laidTests := true, laidLooks := .later }
def SignHoldsUptoCardSaid : Prop := Claim7.holds Tryd.pinned (.plain (OpenSpec.upto signHoldsSpec)) signHoldsUptoCard

/-- THE SECOND FORM's CARD OF 'isthmuslaw08.MerkleRoots'. -/
def merkleRootsUptoCard : Claim7 := { stood := { row := merkleRootsUptoRow, standIns := [], harness := (true, "6f0a10b799763a0fea229ef40fe05f27bb6762ea0a5ca9958912e8914a4e4a1b"), looks := true }, kinds := [], alts := [], laidByText := true, laidKinds := [.data, .data], laidTests := true, laidLooks := .later }
def MerkleRootsUptoCardSaid : Prop := Claim7.holds Tryd.pinned (.plain (OpenSpec.upto merkleRootsSpec)) merkleRootsUptoCard

/-- THE SECOND FORM's CARD OF 'isthmuslaw08.MerkleProves'. -/
def merkleProvesUptoCard : Claim7 := { stood := { row := merkleProvesUptoRow, standIns := [], harness := (true, "6f0a10b799763a0fea229ef40fe05f27bb6762ea0a5ca9958912e8914a4e4a1b"), looks := true }, kinds := [], alts := [], laidByText := true, laidKinds := [.data, .data], laidTests := true, laidLooks := .later }
def MerkleProvesUptoCardSaid : Prop := Claim7.holds Tryd.pinned (.plain (OpenSpec.upto merkleProvesSpec)) merkleProvesUptoCard

/-- THE SECOND FORM's CARD OF 'isthmuslaw08.MerkleTakes'. -/
def merkleTakesUptoCard : Claim7 := { stood := { row := merkleTakesUptoRow, standIns := [], harness := (true, "6f0a10b799763a0fea229ef40fe05f27bb6762ea0a5ca9958912e8914a4e4a1b"), looks := true }, kinds := [], alts := [], laidByText := true, laidKinds := [.data, .data], laidTests := true, laidLooks := .later }
def MerkleTakesUptoCardSaid : Prop := Claim7.holds Tryd.pinned (.plain (OpenSpec.upto merkleTakesSpec)) merkleTakesUptoCard

/-- THE SECOND FORM's CARD OF 'isthmuslaw08.MerkleHolds'. -/
def merkleHoldsUptoCard : Claim7 := { stood := { row := merkleHoldsUptoRow, standIns := [], harness := (true, "6f0a10b799763a0fea229ef40fe05f27bb6762ea0a5ca9958912e8914a4e4a1b"), looks := true }, kinds := [], alts := [], laidByText := true, laidKinds := [.data], laidTests := true, laidLooks := .later }
def MerkleHoldsUptoCardSaid : Prop := Claim7.holds Tryd.pinned (.plain (OpenSpec.upto merkleHoldsSpec)) merkleHoldsUptoCard

/-- THE SECOND FORM's CARD OF 'isthmuslaw08.MerkleAbsent'. -/
def merkleAbsentUptoCard : Claim7 := { stood := { row := merkleAbsentUptoRow, standIns := [], harness := (true, "6f0a10b799763a0fea229ef40fe05f27bb6762ea0a5ca9958912e8914a4e4a1b"), looks := true }, kinds := [], alts := [], laidByText := true, laidKinds := [.data, .data], laidTests := true, laidLooks := .later }
def MerkleAbsentUptoCardSaid : Prop := Claim7.holds Tryd.pinned (.plain (OpenSpec.upto merkleAbsentSpec)) merkleAbsentUptoCard

/-- THE SECOND FORM's CARD OF 'isthmuslaw08.MerkleSpots'. -/
def merkleSpotsUptoCard : Claim7 := { stood := { row := merkleSpotsUptoRow, standIns := [], harness := (true, "6f0a10b799763a0fea229ef40fe05f27bb6762ea0a5ca9958912e8914a4e4a1b"), looks := true }, kinds := [], alts := [], laidByText := true, laidKinds := [.data], laidTests := true, laidLooks := .later }
def MerkleSpotsUptoCardSaid : Prop := Claim7.holds Tryd.pinned (.plain (OpenSpec.upto merkleSpotsSpec)) merkleSpotsUptoCard

/-- THE SECOND FORM's CARD OF 'isthmuslaw09.StoreHistory'. -/
def storeHistoryUptoCard : Claim7 := { stood := { row := storeHistoryUptoRow, standIns := [], harness := (true, "6f0a10b799763a0fea229ef40fe05f27bb6762ea0a5ca9958912e8914a4e4a1b"), looks := true }, kinds := [], alts := [], laidByText := true, laidKinds := [.data, .data], laidTests := true, laidLooks := .later }
def StoreHistoryUptoCardSaid : Prop := Claim7.holds Tryd.pinned (.plain (OpenSpec.upto storeHistorySpec)) storeHistoryUptoCard
end Rows
end Go.Proofs.YteceagldjnfeeaaDoor

/-
  NARROWER THAN 'FOR EVERY INPUT', by the rows' own cells (each row's printed sentence says how): ShaSums: laid · ShaHexes: laid · ShaApart: laid · ShaTags: laid · ShaLens: laid · SignRoots: laid · StoreMemory: laid · SignSigns: laid · StoreBranches: laid · SignVerifies: laid · SignShape: laid · SignHolds: laid · MerkleRoots: laid · MerkleProves: laid · MerkleTakes: laid · MerkleHolds: laid · MerkleAbsent: laid · MerkleSpots: laid · StoreHistory: laid.
  DERIVED. THE GIVEN ROWS OF THIS SEAT. 19 by the template 'for every input the law returns true; each argument reads behind the call as it read before'; 0 by the template 'total and deterministic' (their statements: YteceagldjnfeeaaDoorTotals.lean).
  GIVEN WITH THE SEED: the statements are not yours to turn. If you find one false, say at which input.
  Laid BY PROGRAM, IN A SANDBOX (cutbox-rows.mjs): the forced cells as the released guide's own fill.sh prints them over the translation d1e0dd48de6c4d80… (all of the seat's roots in one cut). By AI agents, Wed Nov 11 2026. No macro, syntax, notation, axiom, sorry.
-/
import Derived.Test.YteceagldjnfeeaaDoorChecked
import GoSem.Claim
import GoSem.ClaimJoined
import GoSem.ClaimMapViews
import Derived.JoinedTies
import Derived.KernelRfl
namespace Go.Proofs.YteceagldjnfeeaaDoor
/- THE CELL 'sum', in the pinned program and in every row, IS THE sha256 OF THE DUMP (.gsa) THAT YteceagldjnfeeaaDoorProg.lean LOADS. Nothing in Lean hashes anything: it is a label: what it is worth is what the hold of that sum in a sandbox is worth. -/
noncomputable def Tryd.pinned : Pinned := { name := "yteceagldjnfeeaadoor", sum := "d1e0dd48de6c4d80518aa7cdf04e7126290f09c89337846282829da26da6907d", checked := Tryd.checked }
namespace Rows
def none {H : Type} : Left H := { results := [], args := [] }

/- WHAT THE LISTED PACKAGE-LEVEL VARIABLES READ AS WHEN THE CALL BEGINS. Each datum BY PROGRAM (the guide's laid-datum.mjs) off the statement by which the dump's own 'gosem.cut.vars' lays the variable. In a bare row this is a premise. The card (YteceagldjnfeeaaDoorCards.lean) ties it to the program's text. -/
def laid_isthmus_isthmusref03_k {H : Type} : DataW H := .agg [.lit (.int .u32 1116352408), .lit (.int .u32 1899447441), .lit (.int .u32 3049323471), .lit (.int .u32 3921009573), .lit (.int .u32 961987163), .lit (.int .u32 1508970993), .lit (.int .u32 2453635748), .lit (.int .u32 2870763221), .lit (.int .u32 3624381080), .lit (.int .u32 310598401), .lit (.int .u32 607225278), .lit (.int .u32 1426881987), .lit (.int .u32 1925078388), .lit (.int .u32 2162078206), .lit (.int .u32 2614888103), .lit (.int .u32 3248222580), .lit (.int .u32 3835390401), .lit (.int .u32 4022224774), .lit (.int .u32 264347078), .lit (.int .u32 604807628), .lit (.int .u32 770255983), .lit (.int .u32 1249150122), .lit (.int .u32 1555081692), .lit (.int .u32 1996064986), .lit (.int .u32 2554220882), .lit (.int .u32 2821834349), .lit (.int .u32 2952996808), .lit (.int .u32 3210313671), .lit (.int .u32 3336571891), .lit (.int .u32 3584528711), .lit (.int .u32 113926993), .lit (.int .u32 338241895), .lit (.int .u32 666307205), .lit (.int .u32 773529912), .lit (.int .u32 1294757372), .lit (.int .u32 1396182291), .lit (.int .u32 1695183700), .lit (.int .u32 1986661051), .lit (.int .u32 2177026350), .lit (.int .u32 2456956037), .lit (.int .u32 2730485921), .lit (.int .u32 2820302411), .lit (.int .u32 3259730800), .lit (.int .u32 3345764771), .lit (.int .u32 3516065817), .lit (.int .u32 3600352804), .lit (.int .u32 4094571909), .lit (.int .u32 275423344), .lit (.int .u32 430227734), .lit (.int .u32 506948616), .lit (.int .u32 659060556), .lit (.int .u32 883997877), .lit (.int .u32 958139571), .lit (.int .u32 1322822218), .lit (.int .u32 1537002063), .lit (.int .u32 1747873779), .lit (.int .u32 1955562222), .lit (.int .u32 2024104815), .lit (.int .u32 2227730452), .lit (.int .u32 2361852424), .lit (.int .u32 2428436474), .lit (.int .u32 2756734187), .lit (.int .u32 3204031479), .lit (.int .u32 3329325298)]
def laid_isthmus_sha_constants {H : Type} : DataW H := .agg [.lit (.int .u32 1116352408), .lit (.int .u32 1899447441), .lit (.int .u32 3049323471), .lit (.int .u32 3921009573), .lit (.int .u32 961987163), .lit (.int .u32 1508970993), .lit (.int .u32 2453635748), .lit (.int .u32 2870763221), .lit (.int .u32 3624381080), .lit (.int .u32 310598401), .lit (.int .u32 607225278), .lit (.int .u32 1426881987), .lit (.int .u32 1925078388), .lit (.int .u32 2162078206), .lit (.int .u32 2614888103), .lit (.int .u32 3248222580), .lit (.int .u32 3835390401), .lit (.int .u32 4022224774), .lit (.int .u32 264347078), .lit (.int .u32 604807628), .lit (.int .u32 770255983), .lit (.int .u32 1249150122), .lit (.int .u32 1555081692), .lit (.int .u32 1996064986), .lit (.int .u32 2554220882), .lit (.int .u32 2821834349), .lit (.int .u32 2952996808), .lit (.int .u32 3210313671), .lit (.int .u32 3336571891), .lit (.int .u32 3584528711), .lit (.int .u32 113926993), .lit (.int .u32 338241895), .lit (.int .u32 666307205), .lit (.int .u32 773529912), .lit (.int .u32 1294757372), .lit (.int .u32 1396182291), .lit (.int .u32 1695183700), .lit (.int .u32 1986661051), .lit (.int .u32 2177026350), .lit (.int .u32 2456956037), .lit (.int .u32 2730485921), .lit (.int .u32 2820302411), .lit (.int .u32 3259730800), .lit (.int .u32 3345764771), .lit (.int .u32 3516065817), .lit (.int .u32 3600352804), .lit (.int .u32 4094571909), .lit (.int .u32 275423344), .lit (.int .u32 430227734), .lit (.int .u32 506948616), .lit (.int .u32 659060556), .lit (.int .u32 883997877), .lit (.int .u32 958139571), .lit (.int .u32 1322822218), .lit (.int .u32 1537002063), .lit (.int .u32 1747873779), .lit (.int .u32 1955562222), .lit (.int .u32 2024104815), .lit (.int .u32 2227730452), .lit (.int .u32 2361852424), .lit (.int .u32 2428436474), .lit (.int .u32 2756734187), .lit (.int .u32 3204031479), .lit (.int .u32 3329325298)]

/-- 'isthmuslaw03.ShaSums': WHATEVER THE INPUT: true; the input reads as it did. -/
def shaSumsSpec : ChangeSpec := { name := "shaSums", fn := fun _ => fun
  | [d] => { results := [.lit (.bool true)], args := [d] }
  | _ => none }
def shaSumsRow : OpenClaim := { program := "yteceagldjnfeeaadoor", sum := "d1e0dd48de6c4d80518aa7cdf04e7126290f09c89337846282829da26da6907d", func := "isthmus/isthmuslaw03.ShaSums", spec := "shaSums", inPlace := ["internal/abi.NoEscape"], named := ["isthmus/sha.constants", "isthmus/isthmusref03.k"], apart := false, laid := [("isthmus/isthmusref03.k", laid_isthmus_isthmusref03_k), ("isthmus/sha.constants", laid_isthmus_sha_constants)] }
def ShaSumsSaid : Prop := shaSumsRow.holds Tryd.pinned (OpenSpec.ofChange shaSumsSpec)

/-- ITS FALSE NEIGHBOUR: 'it returns false'. Refute it at one input. -/
def shaSumsWrong : ChangeSpec := { name := "shaSums", fn := fun _ => fun
  | [d] => { results := [.lit (.bool false)], args := [d] }
  | _ => none }
def ShaSumsWrongFalsely : Prop := shaSumsRow.holds Tryd.pinned (OpenSpec.ofChange shaSumsWrong)

/-- 'isthmuslaw03.ShaHexes': WHATEVER THE INPUT: true; the input reads as it did. -/
def shaHexesSpec : ChangeSpec := { name := "shaHexes", fn := fun _ => fun
  | [d] => { results := [.lit (.bool true)], args := [d] }
  | _ => none }
def shaHexesRow : OpenClaim := { program := "yteceagldjnfeeaadoor", sum := "d1e0dd48de6c4d80518aa7cdf04e7126290f09c89337846282829da26da6907d", func := "isthmus/isthmuslaw03.ShaHexes", spec := "shaHexes", inPlace := ["internal/abi.NoEscape"], named := ["isthmus/sha.constants"], apart := false, laid := [("isthmus/sha.constants", laid_isthmus_sha_constants)] }
def ShaHexesSaid : Prop := shaHexesRow.holds Tryd.pinned (OpenSpec.ofChange shaHexesSpec)

/-- ITS FALSE NEIGHBOUR: 'it returns false'. Refute it at one input. -/
def shaHexesWrong : ChangeSpec := { name := "shaHexes", fn := fun _ => fun
  | [d] => { results := [.lit (.bool false)], args := [d] }
  | _ => none }
def ShaHexesWrongFalsely : Prop := shaHexesRow.holds Tryd.pinned (OpenSpec.ofChange shaHexesWrong)

/-- 'isthmuslaw03.ShaApart': WHATEVER THE INPUT: true; the input reads as it did. -/
def shaApartSpec : ChangeSpec := { name := "shaApart", fn := fun _ => fun
  | [d1, d2] => { results := [.lit (.bool true)], args := [d1, d2] }
  | _ => none }
def shaApartRow : OpenClaim := { program := "yteceagldjnfeeaadoor", sum := "d1e0dd48de6c4d80518aa7cdf04e7126290f09c89337846282829da26da6907d", func := "isthmus/isthmuslaw03.ShaApart", spec := "shaApart", inPlace := ["internal/abi.NoEscape"], named := ["isthmus/sha.constants"], apart := false, laid := [("isthmus/sha.constants", laid_isthmus_sha_constants)] }
def ShaApartSaid : Prop := shaApartRow.holds Tryd.pinned (OpenSpec.ofChange shaApartSpec)

/-- ITS FALSE NEIGHBOUR: 'it returns false'. Refute it at one input. -/
def shaApartWrong : ChangeSpec := { name := "shaApart", fn := fun _ => fun
  | [d1, d2] => { results := [.lit (.bool false)], args := [d1, d2] }
  | _ => none }
def ShaApartWrongFalsely : Prop := shaApartRow.holds Tryd.pinned (OpenSpec.ofChange shaApartWrong)

/-- 'isthmuslaw03.ShaTags': WHATEVER THE INPUT: true; the input reads as it did. -/
def shaTagsSpec : ChangeSpec := { name := "shaTags", fn := fun _ => fun
  | [d] => { results := [.lit (.bool true)], args := [d] }
  | _ => none }
def shaTagsRow : OpenClaim := { program := "yteceagldjnfeeaadoor", sum := "d1e0dd48de6c4d80518aa7cdf04e7126290f09c89337846282829da26da6907d", func := "isthmus/isthmuslaw03.ShaTags", spec := "shaTags", inPlace := ["internal/abi.NoEscape"], named := ["isthmus/isthmusref03.k", "isthmus/sha.constants"], apart := false, laid := [("isthmus/isthmusref03.k", laid_isthmus_isthmusref03_k), ("isthmus/sha.constants", laid_isthmus_sha_constants)] }
def ShaTagsSaid : Prop := shaTagsRow.holds Tryd.pinned (OpenSpec.ofChange shaTagsSpec)

/-- ITS FALSE NEIGHBOUR: 'it returns false'. Refute it at one input. -/
def shaTagsWrong : ChangeSpec := { name := "shaTags", fn := fun _ => fun
  | [d] => { results := [.lit (.bool false)], args := [d] }
  | _ => none }
def ShaTagsWrongFalsely : Prop := shaTagsRow.holds Tryd.pinned (OpenSpec.ofChange shaTagsWrong)

/-- 'isthmuslaw03.ShaLens': WHATEVER THE INPUT: true; the input reads as it did. -/
def shaLensSpec : ChangeSpec := { name := "shaLens", fn := fun _ => fun
  | [d1, d2, d3] => { results := [.lit (.bool true)], args := [d1, d2, d3] }
  | _ => none }
def shaLensRow : OpenClaim := { program := "yteceagldjnfeeaadoor", sum := "d1e0dd48de6c4d80518aa7cdf04e7126290f09c89337846282829da26da6907d", func := "isthmus/isthmuslaw03.ShaLens", spec := "shaLens", inPlace := ["internal/abi.NoEscape"], named := ["isthmus/sha.constants"], apart := false, laid := [("isthmus/sha.constants", laid_isthmus_sha_constants)] }
def ShaLensSaid : Prop := shaLensRow.holds Tryd.pinned (OpenSpec.ofChange shaLensSpec)

/-- ITS FALSE NEIGHBOUR: 'it returns false'. Refute it at one input. -/
def shaLensWrong : ChangeSpec := { name := "shaLens", fn := fun _ => fun
  | [d1, d2, d3] => { results := [.lit (.bool false)], args := [d1, d2, d3] }
  | _ => none }
def ShaLensWrongFalsely : Prop := shaLensRow.holds Tryd.pinned (OpenSpec.ofChange shaLensWrong)

/-- 'isthmuslaw04.SignRoots': WHATEVER THE INPUT: true; the input reads as it did. -/
def signRootsSpec : ChangeSpec := { name := "signRoots", fn := fun _ => fun
  | [d] => { results := [.lit (.bool true)], args := [d] }
  | _ => none }
def signRootsRow : OpenClaim := { program := "yteceagldjnfeeaadoor", sum := "d1e0dd48de6c4d80518aa7cdf04e7126290f09c89337846282829da26da6907d", func := "isthmus/isthmuslaw04.SignRoots", spec := "signRoots", unfollowed := true, recurses := true, named := ["isthmus/sha.constants", "isthmus/isthmusref03.k"], apart := false, laid := [("isthmus/isthmusref03.k", laid_isthmus_isthmusref03_k), ("isthmus/sha.constants", laid_isthmus_sha_constants)] }
def SignRootsSaid : Prop := signRootsRow.holds Tryd.pinned (OpenSpec.ofChange signRootsSpec)

/-- ITS FALSE NEIGHBOUR: 'it returns false'. Refute it at one input. -/
def signRootsWrong : ChangeSpec := { name := "signRoots", fn := fun _ => fun
  | [d] => { results := [.lit (.bool false)], args := [d] }
  | _ => none }
def SignRootsWrongFalsely : Prop := signRootsRow.holds Tryd.pinned (OpenSpec.ofChange signRootsWrong)

/-- 'isthmuslaw09.StoreMemory': WHATEVER THE INPUT: true; the input reads as it did. -/
def storeMemorySpec : ChangeSpec := { name := "storeMemory", fn := fun _ => fun
  | [d1, d2] => { results := [.lit (.bool true)], args := [d1, d2] }
  | _ => none }
def storeMemoryRow : OpenClaim := { program := "yteceagldjnfeeaadoor", sum := "d1e0dd48de6c4d80518aa7cdf04e7126290f09c89337846282829da26da6907d", func := "isthmus/isthmuslaw09.StoreMemory", spec := "storeMemory", inPlace := ["maps.clone"], unfollowed := true, recurses := true, named := ["isthmus/sha.constants"], apart := false, laid := [("isthmus/sha.constants", laid_isthmus_sha_constants)] }
def StoreMemorySaid : Prop := storeMemoryRow.holds Tryd.pinned (OpenSpec.ofChange storeMemorySpec)

/-- ITS FALSE NEIGHBOUR: 'it returns false'. Refute it at one input. -/
def storeMemoryWrong : ChangeSpec := { name := "storeMemory", fn := fun _ => fun
  | [d1, d2] => { results := [.lit (.bool false)], args := [d1, d2] }
  | _ => none }
def StoreMemoryWrongFalsely : Prop := storeMemoryRow.holds Tryd.pinned (OpenSpec.ofChange storeMemoryWrong)

/-- 'isthmuslaw04.SignSigns': WHATEVER THE INPUT: true; the input reads as it did. -/
def signSignsSpec : ChangeSpec := { name := "signSigns", fn := fun _ => fun
  | [d1, d2, d3] => { results := [.lit (.bool true)], args := [d1, d2, d3] }
  | _ => none }
def signSignsRow : OpenClaim := { program := "yteceagldjnfeeaadoor", sum := "d1e0dd48de6c4d80518aa7cdf04e7126290f09c89337846282829da26da6907d", func := "isthmus/isthmuslaw04.SignSigns", spec := "signSigns", unfollowed := true, recurses := true, named := ["isthmus/sha.constants", "isthmus/isthmusref03.k"], apart := false, laid := [("isthmus/isthmusref03.k", laid_isthmus_isthmusref03_k), ("isthmus/sha.constants", laid_isthmus_sha_constants)] }
def SignSignsSaid : Prop := signSignsRow.holds Tryd.pinned (OpenSpec.ofChange signSignsSpec)

/-- ITS FALSE NEIGHBOUR: 'it returns false'. Refute it at one input. -/
def signSignsWrong : ChangeSpec := { name := "signSigns", fn := fun _ => fun
  | [d1, d2, d3] => { results := [.lit (.bool false)], args := [d1, d2, d3] }
  | _ => none }
def SignSignsWrongFalsely : Prop := signSignsRow.holds Tryd.pinned (OpenSpec.ofChange signSignsWrong)

/-- 'isthmuslaw09.StoreBranches': WHATEVER THE INPUT: true; the input reads as it did. -/
def storeBranchesSpec : ChangeSpec := { name := "storeBranches", fn := fun _ => fun
  | [d1, d2] => { results := [.lit (.bool true)], args := [d1, d2] }
  | _ => none }
def storeBranchesRow : OpenClaim := { program := "yteceagldjnfeeaadoor", sum := "d1e0dd48de6c4d80518aa7cdf04e7126290f09c89337846282829da26da6907d", func := "isthmus/isthmuslaw09.StoreBranches", spec := "storeBranches", inPlace := ["maps.clone"], unfollowed := true, recurses := true, named := ["isthmus/sha.constants"], apart := false, laid := [("isthmus/sha.constants", laid_isthmus_sha_constants)] }
def StoreBranchesSaid : Prop := storeBranchesRow.holds Tryd.pinned (OpenSpec.ofChange storeBranchesSpec)

/-- ITS FALSE NEIGHBOUR: 'it returns false'. Refute it at one input. -/
def storeBranchesWrong : ChangeSpec := { name := "storeBranches", fn := fun _ => fun
  | [d1, d2] => { results := [.lit (.bool false)], args := [d1, d2] }
  | _ => none }
def StoreBranchesWrongFalsely : Prop := storeBranchesRow.holds Tryd.pinned (OpenSpec.ofChange storeBranchesWrong)

/-- 'isthmuslaw04.SignVerifies': WHATEVER THE INPUT: true; the input reads as it did. -/
def signVerifiesSpec : ChangeSpec := { name := "signVerifies", fn := fun _ => fun
  | [d] => { results := [.lit (.bool true)], args := [d] }
  | _ => none }
def signVerifiesRow : OpenClaim := { program := "yteceagldjnfeeaadoor", sum := "d1e0dd48de6c4d80518aa7cdf04e7126290f09c89337846282829da26da6907d", func := "isthmus/isthmuslaw04.SignVerifies", spec := "signVerifies", unfollowed := true, recurses := true, named := ["isthmus/sha.constants", "isthmus/isthmusref03.k"], apart := false, laid := [("isthmus/isthmusref03.k", laid_isthmus_isthmusref03_k), ("isthmus/sha.constants", laid_isthmus_sha_constants)] }
def SignVerifiesSaid : Prop := signVerifiesRow.holds Tryd.pinned (OpenSpec.ofChange signVerifiesSpec)

/-- ITS FALSE NEIGHBOUR: 'it returns false'. Refute it at one input. -/
def signVerifiesWrong : ChangeSpec := { name := "signVerifies", fn := fun _ => fun
  | [d] => { results := [.lit (.bool false)], args := [d] }
  | _ => none }
def SignVerifiesWrongFalsely : Prop := signVerifiesRow.holds Tryd.pinned (OpenSpec.ofChange signVerifiesWrong)

/-- 'isthmuslaw04.SignShape': WHATEVER THE INPUT: true; the input reads as it did. -/
def signShapeSpec : ChangeSpec := { name := "signShape", fn := fun _ => fun
  | [d] => { results := [.lit (.bool true)], args := [d] }
  | _ => none }
def signShapeRow : OpenClaim := { program := "yteceagldjnfeeaadoor", sum := "d1e0dd48de6c4d80518aa7cdf04e7126290f09c89337846282829da26da6907d", func := "isthmus/isthmuslaw04.SignShape", spec := "signShape", unfollowed := true, recurses := true, named := ["isthmus/sha.constants"], apart := false, laid := [("isthmus/sha.constants", laid_isthmus_sha_constants)] }
def SignShapeSaid : Prop := signShapeRow.holds Tryd.pinned (OpenSpec.ofChange signShapeSpec)

/-- ITS FALSE NEIGHBOUR: 'it returns false'. Refute it at one input. -/
def signShapeWrong : ChangeSpec := { name := "signShape", fn := fun _ => fun
  | [d] => { results := [.lit (.bool false)], args := [d] }
  | _ => none }
def SignShapeWrongFalsely : Prop := signShapeRow.holds Tryd.pinned (OpenSpec.ofChange signShapeWrong)

/-- 'isthmuslaw04.SignHolds': WHATEVER THE INPUT: true; the input reads as it did. -/
def signHoldsSpec : ChangeSpec := { name := "signHolds", fn := fun _ => fun
  | [d1, d2, d3] => { results := [.lit (.bool true)], args := [d1, d2, d3] }
  | _ => none }
def signHoldsRow : OpenClaim := { program := "yteceagldjnfeeaadoor", sum := "d1e0dd48de6c4d80518aa7cdf04e7126290f09c89337846282829da26da6907d", func := "isthmus/isthmuslaw04.SignHolds", spec := "signHolds", unfollowed := true, recurses := true, named := ["isthmus/sha.constants"], apart := false, laid := [("isthmus/sha.constants", laid_isthmus_sha_constants)] }
def SignHoldsSaid : Prop := signHoldsRow.holds Tryd.pinned (OpenSpec.ofChange signHoldsSpec)

/-- ITS FALSE NEIGHBOUR: 'it returns false'. Refute it at one input. -/
def signHoldsWrong : ChangeSpec := { name := "signHolds", fn := fun _ => fun
  | [d1, d2, d3] => { results := [.lit (.bool false)], args := [d1, d2, d3] }
  | _ => none }
def SignHoldsWrongFalsely : Prop := signHoldsRow.holds Tryd.pinned (OpenSpec.ofChange signHoldsWrong)

/-- 'isthmuslaw08.MerkleRoots': WHATEVER THE INPUT: true; the input reads as it did. -/
def merkleRootsSpec : ChangeSpec := { name := "merkleRoots", fn := fun _ => fun
  | [d] => { results := [.lit (.bool true)], args := [d] }
  | _ => none }
def merkleRootsRow : OpenClaim := { program := "yteceagldjnfeeaadoor", sum := "d1e0dd48de6c4d80518aa7cdf04e7126290f09c89337846282829da26da6907d", func := "isthmus/isthmuslaw08.MerkleRoots", spec := "merkleRoots", inPlace := ["internal/bytealg.Compare"], unfollowed := true, recurses := true, named := ["isthmus/sha.constants", "isthmus/isthmusref03.k"], apart := false, laid := [("isthmus/isthmusref03.k", laid_isthmus_isthmusref03_k), ("isthmus/sha.constants", laid_isthmus_sha_constants)] }
def MerkleRootsSaid : Prop := merkleRootsRow.holds Tryd.pinned (OpenSpec.ofChange merkleRootsSpec)

/-- ITS FALSE NEIGHBOUR: 'it returns false'. Refute it at one input. -/
def merkleRootsWrong : ChangeSpec := { name := "merkleRoots", fn := fun _ => fun
  | [d] => { results := [.lit (.bool false)], args := [d] }
  | _ => none }
def MerkleRootsWrongFalsely : Prop := merkleRootsRow.holds Tryd.pinned (OpenSpec.ofChange merkleRootsWrong)

/-- 'isthmuslaw08.MerkleProves': WHATEVER THE INPUT: true; the input reads as it did. -/
def merkleProvesSpec : ChangeSpec := { name := "merkleProves", fn := fun _ => fun
  | [d1, d2] => { results := [.lit (.bool true)], args := [d1, d2] }
  | _ => none }
def merkleProvesRow : OpenClaim := { program := "yteceagldjnfeeaadoor", sum := "d1e0dd48de6c4d80518aa7cdf04e7126290f09c89337846282829da26da6907d", func := "isthmus/isthmuslaw08.MerkleProves", spec := "merkleProves", inPlace := ["internal/bytealg.Compare"], unfollowed := true, recurses := true, named := ["isthmus/sha.constants", "isthmus/isthmusref03.k"], apart := false, laid := [("isthmus/isthmusref03.k", laid_isthmus_isthmusref03_k), ("isthmus/sha.constants", laid_isthmus_sha_constants)] }
def MerkleProvesSaid : Prop := merkleProvesRow.holds Tryd.pinned (OpenSpec.ofChange merkleProvesSpec)

/-- ITS FALSE NEIGHBOUR: 'it returns false'. Refute it at one input. -/
def merkleProvesWrong : ChangeSpec := { name := "merkleProves", fn := fun _ => fun
  | [d1, d2] => { results := [.lit (.bool false)], args := [d1, d2] }
  | _ => none }
def MerkleProvesWrongFalsely : Prop := merkleProvesRow.holds Tryd.pinned (OpenSpec.ofChange merkleProvesWrong)

/-- 'isthmuslaw08.MerkleTakes': WHATEVER THE INPUT: true; the input reads as it did. -/
def merkleTakesSpec : ChangeSpec := { name := "merkleTakes", fn := fun _ => fun
  | [d] => { results := [.lit (.bool true)], args := [d] }
  | _ => none }
def merkleTakesRow : OpenClaim := { program := "yteceagldjnfeeaadoor", sum := "d1e0dd48de6c4d80518aa7cdf04e7126290f09c89337846282829da26da6907d", func := "isthmus/isthmuslaw08.MerkleTakes", spec := "merkleTakes", inPlace := ["internal/bytealg.Compare"], unfollowed := true, recurses := true, named := ["isthmus/sha.constants", "isthmus/isthmusref03.k"], apart := false, laid := [("isthmus/isthmusref03.k", laid_isthmus_isthmusref03_k), ("isthmus/sha.constants", laid_isthmus_sha_constants)] }
def MerkleTakesSaid : Prop := merkleTakesRow.holds Tryd.pinned (OpenSpec.ofChange merkleTakesSpec)

/-- ITS FALSE NEIGHBOUR: 'it returns false'. Refute it at one input. -/
def merkleTakesWrong : ChangeSpec := { name := "merkleTakes", fn := fun _ => fun
  | [d] => { results := [.lit (.bool false)], args := [d] }
  | _ => none }
def MerkleTakesWrongFalsely : Prop := merkleTakesRow.holds Tryd.pinned (OpenSpec.ofChange merkleTakesWrong)

/-- 'isthmuslaw08.MerkleHolds': WHATEVER THE INPUT: true; the input reads as it did. -/
def merkleHoldsSpec : ChangeSpec := { name := "merkleHolds", fn := fun _ => fun
  | [d1, d2] => { results := [.lit (.bool true)], args := [d1, d2] }
  | _ => none }
def merkleHoldsRow : OpenClaim := { program := "yteceagldjnfeeaadoor", sum := "d1e0dd48de6c4d80518aa7cdf04e7126290f09c89337846282829da26da6907d", func := "isthmus/isthmuslaw08.MerkleHolds", spec := "merkleHolds", inPlace := ["internal/bytealg.Compare"], unfollowed := true, recurses := true, named := ["isthmus/sha.constants"], apart := false, laid := [("isthmus/sha.constants", laid_isthmus_sha_constants)] }
def MerkleHoldsSaid : Prop := merkleHoldsRow.holds Tryd.pinned (OpenSpec.ofChange merkleHoldsSpec)

/-- ITS FALSE NEIGHBOUR: 'it returns false'. Refute it at one input. -/
def merkleHoldsWrong : ChangeSpec := { name := "merkleHolds", fn := fun _ => fun
  | [d1, d2] => { results := [.lit (.bool false)], args := [d1, d2] }
  | _ => none }
def MerkleHoldsWrongFalsely : Prop := merkleHoldsRow.holds Tryd.pinned (OpenSpec.ofChange merkleHoldsWrong)

/-- 'isthmuslaw08.MerkleAbsent': WHATEVER THE INPUT: true; the input reads as it did. -/
def merkleAbsentSpec : ChangeSpec := { name := "merkleAbsent", fn := fun _ => fun
  | [d] => { results := [.lit (.bool true)], args := [d] }
  | _ => none }
def merkleAbsentRow : OpenClaim := { program := "yteceagldjnfeeaadoor", sum := "d1e0dd48de6c4d80518aa7cdf04e7126290f09c89337846282829da26da6907d", func := "isthmus/isthmuslaw08.MerkleAbsent", spec := "merkleAbsent", inPlace := ["internal/bytealg.Compare"], unfollowed := true, recurses := true, named := ["isthmus/sha.constants", "isthmus/isthmusref03.k"], apart := false, laid := [("isthmus/isthmusref03.k", laid_isthmus_isthmusref03_k), ("isthmus/sha.constants", laid_isthmus_sha_constants)] }
def MerkleAbsentSaid : Prop := merkleAbsentRow.holds Tryd.pinned (OpenSpec.ofChange merkleAbsentSpec)

/-- ITS FALSE NEIGHBOUR: 'it returns false'. Refute it at one input. -/
def merkleAbsentWrong : ChangeSpec := { name := "merkleAbsent", fn := fun _ => fun
  | [d] => { results := [.lit (.bool false)], args := [d] }
  | _ => none }
def MerkleAbsentWrongFalsely : Prop := merkleAbsentRow.holds Tryd.pinned (OpenSpec.ofChange merkleAbsentWrong)

/-- 'isthmuslaw08.MerkleSpots': WHATEVER THE INPUT: true; the input reads as it did. -/
def merkleSpotsSpec : ChangeSpec := { name := "merkleSpots", fn := fun _ => fun
  | [d1, d2] => { results := [.lit (.bool true)], args := [d1, d2] }
  | _ => none }
def merkleSpotsRow : OpenClaim := { program := "yteceagldjnfeeaadoor", sum := "d1e0dd48de6c4d80518aa7cdf04e7126290f09c89337846282829da26da6907d", func := "isthmus/isthmuslaw08.MerkleSpots", spec := "merkleSpots", inPlace := ["internal/bytealg.Compare"], unfollowed := true, recurses := true, named := ["isthmus/sha.constants"], apart := false, laid := [("isthmus/sha.constants", laid_isthmus_sha_constants)] }
def MerkleSpotsSaid : Prop := merkleSpotsRow.holds Tryd.pinned (OpenSpec.ofChange merkleSpotsSpec)

/-- ITS FALSE NEIGHBOUR: 'it returns false'. Refute it at one input. -/
def merkleSpotsWrong : ChangeSpec := { name := "merkleSpots", fn := fun _ => fun
  | [d1, d2] => { results := [.lit (.bool false)], args := [d1, d2] }
  | _ => none }
def MerkleSpotsWrongFalsely : Prop := merkleSpotsRow.holds Tryd.pinned (OpenSpec.ofChange merkleSpotsWrong)

/-- 'isthmuslaw09.StoreHistory': WHATEVER THE INPUT: true; the input reads as it did. -/
def storeHistorySpec : ChangeSpec := { name := "storeHistory", fn := fun _ => fun
  | [d1, d2, d3] => { results := [.lit (.bool true)], args := [d1, d2, d3] }
  | _ => none }
def storeHistoryRow : OpenClaim := { program := "yteceagldjnfeeaadoor", sum := "d1e0dd48de6c4d80518aa7cdf04e7126290f09c89337846282829da26da6907d", func := "isthmus/isthmuslaw09.StoreHistory", spec := "storeHistory", inPlace := ["maps.clone"], unfollowed := true, recurses := true, named := ["isthmus/isthmusref03.k", "isthmus/sha.constants"], apart := false, laid := [("isthmus/isthmusref03.k", laid_isthmus_isthmusref03_k), ("isthmus/sha.constants", laid_isthmus_sha_constants)] }
def StoreHistorySaid : Prop := storeHistoryRow.holds Tryd.pinned (OpenSpec.ofChange storeHistorySpec)

/-- ITS FALSE NEIGHBOUR: 'it returns false'. Refute it at one input. -/
def storeHistoryWrong : ChangeSpec := { name := "storeHistory", fn := fun _ => fun
  | [d1, d2, d3] => { results := [.lit (.bool false)], args := [d1, d2, d3] }
  | _ => none }
def StoreHistoryWrongFalsely : Prop := storeHistoryRow.holds Tryd.pinned (OpenSpec.ofChange storeHistoryWrong)

/- THE SECOND FORM. 'bulk': how many values and letters a reading holds, each counted each time it is reached (what is shared counts as often as it is met; a slice's spare places count too). A statement '..UptoSaid' is the law's where the arguments, and the package variables that the reading takes, are together of bulk at most 1048576: NARROWER than '..Said'. Prove '..Said' where nothing that the law and all that it calls make is longer than what came in: it says more and counts as full. Else prove '..UptoSaid'. A law counts once. -/
mutual
def uptoBulk {H : Type} : DataW H → Nat
  | .lit (.string bytes) => bytes.length + 1
  | .lit _ => 1
  | .nil => 1
  | .ptr d => uptoBulk d + 1
  | .slice elems spare => uptoBulkAll elems + uptoBulkAll spare + 1
  | .agg parts => uptoBulkAll parts + 1
  | .iface _ d => uptoBulk d + 1
  | .map entries => uptoBulkEntries entries + 1
  | .held _ => 1
def uptoBulkAll {H : Type} : List (DataW H) → Nat
  | [] => 0
  | d :: r => uptoBulk d + uptoBulkAll r
def uptoBulkEntries {H : Type} : List (Lit × DataW H) → Nat
  | [] => 0
  | x :: r => uptoBulkEntry x + uptoBulkEntries r
def uptoBulkEntry {H : Type} : Lit × DataW H → Nat
  | (.string bytes, d) => bytes.length + uptoBulk d + 1
  | (_, d) => uptoBulk d + 1
 end
def uptoSmall : (H : Type) → List (DataW H) → Bool := fun _ ds => decide (uptoBulkAll ds ≤ 1048576)
def OpenSpec.upto (s : _root_.Go.ChangeSpec) : _root_.Go.OpenSpec := { _root_.Go.OpenSpec.ofChange s with cond := some uptoSmall }

/-- 'isthmuslaw03.ShaSums', WHERE WHAT IT READS IS OF BULK AT MOST 1048576: true; the input reads as it did. -/
def shaSumsUptoRow : OpenClaim := { program := "yteceagldjnfeeaadoor", sum := "d1e0dd48de6c4d80518aa7cdf04e7126290f09c89337846282829da26da6907d", func := "isthmus/isthmuslaw03.ShaSums", spec := "shaSums", inPlace := ["internal/abi.NoEscape"], named := ["isthmus/sha.constants", "isthmus/isthmusref03.k"], apart := false, laid := [("isthmus/isthmusref03.k", laid_isthmus_isthmusref03_k), ("isthmus/sha.constants", laid_isthmus_sha_constants)], narrowed := true }
def ShaSumsUptoSaid : Prop := shaSumsUptoRow.holds Tryd.pinned (OpenSpec.upto shaSumsSpec)

/-- 'isthmuslaw03.ShaHexes', WHERE WHAT IT READS IS OF BULK AT MOST 1048576: true; the input reads as it did. -/
def shaHexesUptoRow : OpenClaim := { program := "yteceagldjnfeeaadoor", sum := "d1e0dd48de6c4d80518aa7cdf04e7126290f09c89337846282829da26da6907d", func := "isthmus/isthmuslaw03.ShaHexes", spec := "shaHexes", inPlace := ["internal/abi.NoEscape"], named := ["isthmus/sha.constants"], apart := false, laid := [("isthmus/sha.constants", laid_isthmus_sha_constants)], narrowed := true }
def ShaHexesUptoSaid : Prop := shaHexesUptoRow.holds Tryd.pinned (OpenSpec.upto shaHexesSpec)

/-- 'isthmuslaw03.ShaApart', WHERE WHAT IT READS IS OF BULK AT MOST 1048576: true; the input reads as it did. -/
def shaApartUptoRow : OpenClaim := { program := "yteceagldjnfeeaadoor", sum := "d1e0dd48de6c4d80518aa7cdf04e7126290f09c89337846282829da26da6907d", func := "isthmus/isthmuslaw03.ShaApart", spec := "shaApart", inPlace := ["internal/abi.NoEscape"], named := ["isthmus/sha.constants"], apart := false, laid := [("isthmus/sha.constants", laid_isthmus_sha_constants)], narrowed := true }
def ShaApartUptoSaid : Prop := shaApartUptoRow.holds Tryd.pinned (OpenSpec.upto shaApartSpec)

/-- 'isthmuslaw03.ShaTags', WHERE WHAT IT READS IS OF BULK AT MOST 1048576: true; the input reads as it did. -/
def shaTagsUptoRow : OpenClaim := { program := "yteceagldjnfeeaadoor", sum := "d1e0dd48de6c4d80518aa7cdf04e7126290f09c89337846282829da26da6907d", func := "isthmus/isthmuslaw03.ShaTags", spec := "shaTags", inPlace := ["internal/abi.NoEscape"], named := ["isthmus/isthmusref03.k", "isthmus/sha.constants"], apart := false, laid := [("isthmus/isthmusref03.k", laid_isthmus_isthmusref03_k), ("isthmus/sha.constants", laid_isthmus_sha_constants)], narrowed := true }
def ShaTagsUptoSaid : Prop := shaTagsUptoRow.holds Tryd.pinned (OpenSpec.upto shaTagsSpec)

/-- 'isthmuslaw03.ShaLens', WHERE WHAT IT READS IS OF BULK AT MOST 1048576: true; the input reads as it did. -/
def shaLensUptoRow : OpenClaim := { program := "yteceagldjnfeeaadoor", sum := "d1e0dd48de6c4d80518aa7cdf04e7126290f09c89337846282829da26da6907d", func := "isthmus/isthmuslaw03.ShaLens", spec := "shaLens", inPlace := ["internal/abi.NoEscape"], named := ["isthmus/sha.constants"], apart := false, laid := [("isthmus/sha.constants", laid_isthmus_sha_constants)], narrowed := true }
def ShaLensUptoSaid : Prop := shaLensUptoRow.holds Tryd.pinned (OpenSpec.upto shaLensSpec)

/-- 'isthmuslaw04.SignRoots', WHERE WHAT IT READS IS OF BULK AT MOST 1048576: true; the input reads as it did. -/
def signRootsUptoRow : OpenClaim := { program := "yteceagldjnfeeaadoor", sum := "d1e0dd48de6c4d80518aa7cdf04e7126290f09c89337846282829da26da6907d", func := "isthmus/isthmuslaw04.SignRoots", spec := "signRoots", unfollowed := true, recurses := true, named := ["isthmus/sha.constants", "isthmus/isthmusref03.k"], apart := false, laid := [("isthmus/isthmusref03.k", laid_isthmus_isthmusref03_k), ("isthmus/sha.constants", laid_isthmus_sha_constants)], narrowed := true }
def SignRootsUptoSaid : Prop := signRootsUptoRow.holds Tryd.pinned (OpenSpec.upto signRootsSpec)

/-- 'isthmuslaw09.StoreMemory', WHERE WHAT IT READS IS OF BULK AT MOST 1048576: true; the input reads as it did. -/
def storeMemoryUptoRow : OpenClaim := { program := "yteceagldjnfeeaadoor", sum := "d1e0dd48de6c4d80518aa7cdf04e7126290f09c89337846282829da26da6907d", func := "isthmus/isthmuslaw09.StoreMemory", spec := "storeMemory", inPlace := ["maps.clone"], unfollowed := true, recurses := true, named := ["isthmus/sha.constants"], apart := false, laid := [("isthmus/sha.constants", laid_isthmus_sha_constants)], narrowed := true }
def StoreMemoryUptoSaid : Prop := storeMemoryUptoRow.holds Tryd.pinned (OpenSpec.upto storeMemorySpec)

/-- 'isthmuslaw04.SignSigns', WHERE WHAT IT READS IS OF BULK AT MOST 1048576: true; the input reads as it did. -/
def signSignsUptoRow : OpenClaim := { program := "yteceagldjnfeeaadoor", sum := "d1e0dd48de6c4d80518aa7cdf04e7126290f09c89337846282829da26da6907d", func := "isthmus/isthmuslaw04.SignSigns", spec := "signSigns", unfollowed := true, recurses := true, named := ["isthmus/sha.constants", "isthmus/isthmusref03.k"], apart := false, laid := [("isthmus/isthmusref03.k", laid_isthmus_isthmusref03_k), ("isthmus/sha.constants", laid_isthmus_sha_constants)], narrowed := true }
def SignSignsUptoSaid : Prop := signSignsUptoRow.holds Tryd.pinned (OpenSpec.upto signSignsSpec)

/-- 'isthmuslaw09.StoreBranches', WHERE WHAT IT READS IS OF BULK AT MOST 1048576: true; the input reads as it did. -/
def storeBranchesUptoRow : OpenClaim := { program := "yteceagldjnfeeaadoor", sum := "d1e0dd48de6c4d80518aa7cdf04e7126290f09c89337846282829da26da6907d", func := "isthmus/isthmuslaw09.StoreBranches", spec := "storeBranches", inPlace := ["maps.clone"], unfollowed := true, recurses := true, named := ["isthmus/sha.constants"], apart := false, laid := [("isthmus/sha.constants", laid_isthmus_sha_constants)], narrowed := true }
def StoreBranchesUptoSaid : Prop := storeBranchesUptoRow.holds Tryd.pinned (OpenSpec.upto storeBranchesSpec)

/-- 'isthmuslaw04.SignVerifies', WHERE WHAT IT READS IS OF BULK AT MOST 1048576: true; the input reads as it did. -/
def signVerifiesUptoRow : OpenClaim := { program := "yteceagldjnfeeaadoor", sum := "d1e0dd48de6c4d80518aa7cdf04e7126290f09c89337846282829da26da6907d", func := "isthmus/isthmuslaw04.SignVerifies", spec := "signVerifies", unfollowed := true, recurses := true, named := ["isthmus/sha.constants", "isthmus/isthmusref03.k"], apart := false, laid := [("isthmus/isthmusref03.k", laid_isthmus_isthmusref03_k), ("isthmus/sha.constants", laid_isthmus_sha_constants)], narrowed := true }
def SignVerifiesUptoSaid : Prop := signVerifiesUptoRow.holds Tryd.pinned (OpenSpec.upto signVerifiesSpec)

/-- 'isthmuslaw04.SignShape', WHERE WHAT IT READS IS OF BULK AT MOST 1048576: true; the input reads as it did. -/
def signShapeUptoRow : OpenClaim := { program := "yteceagldjnfeeaadoor", sum := "d1e0dd48de6c4d80518aa7cdf04e7126290f09c89337846282829da26da6907d", func := "isthmus/isthmuslaw04.SignShape", spec := "signShape", unfollowed := true, recurses := true, named := ["isthmus/sha.constants"], apart := false, laid := [("isthmus/sha.constants", laid_isthmus_sha_constants)], narrowed := true }
def SignShapeUptoSaid : Prop := signShapeUptoRow.holds Tryd.pinned (OpenSpec.upto signShapeSpec)

/-- 'isthmuslaw04.SignHolds', WHERE WHAT IT READS IS OF BULK AT MOST 1048576: true; the input reads as it did. -/
def signHoldsUptoRow : OpenClaim := { program := "yteceagldjnfeeaadoor", sum := "d1e0dd48de6c4d80518aa7cdf04e7126290f09c89337846282829da26da6907d", func := "isthmus/isthmuslaw04.SignHolds", spec := "signHolds", unfollowed := true, recurses := true, named := ["isthmus/sha.constants"], apart := false, laid := [("isthmus/sha.constants", laid_isthmus_sha_constants)], narrowed := true }
def SignHoldsUptoSaid : Prop := signHoldsUptoRow.holds Tryd.pinned (OpenSpec.upto signHoldsSpec)

/-- 'isthmuslaw08.MerkleRoots', WHERE WHAT IT READS IS OF BULK AT MOST 1048576: true; the input reads as it did. -/
def merkleRootsUptoRow : OpenClaim := { program := "yteceagldjnfeeaadoor", sum := "d1e0dd48de6c4d80518aa7cdf04e7126290f09c89337846282829da26da6907d", func := "isthmus/isthmuslaw08.MerkleRoots", spec := "merkleRoots", inPlace := ["internal/bytealg.Compare"], unfollowed := true, recurses := true, named := ["isthmus/sha.constants", "isthmus/isthmusref03.k"], apart := false, laid := [("isthmus/isthmusref03.k", laid_isthmus_isthmusref03_k), ("isthmus/sha.constants", laid_isthmus_sha_constants)], narrowed := true }
def MerkleRootsUptoSaid : Prop := merkleRootsUptoRow.holds Tryd.pinned (OpenSpec.upto merkleRootsSpec)

/-- 'isthmuslaw08.MerkleProves', WHERE WHAT IT READS IS OF BULK AT MOST 1048576: true; the input reads as it did. -/
def merkleProvesUptoRow : OpenClaim := { program := "yteceagldjnfeeaadoor", sum := "d1e0dd48de6c4d80518aa7cdf04e7126290f09c89337846282829da26da6907d", func := "isthmus/isthmuslaw08.MerkleProves", spec := "merkleProves", inPlace := ["internal/bytealg.Compare"], unfollowed := true, recurses := true, named := ["isthmus/sha.constants", "isthmus/isthmusref03.k"], apart := false, laid := [("isthmus/isthmusref03.k", laid_isthmus_isthmusref03_k), ("isthmus/sha.constants", laid_isthmus_sha_constants)], narrowed := true }
def MerkleProvesUptoSaid : Prop := merkleProvesUptoRow.holds Tryd.pinned (OpenSpec.upto merkleProvesSpec)

/-- 'isthmuslaw08.MerkleTakes', WHERE WHAT IT READS IS OF BULK AT MOST 1048576: true; the input reads as it did. -/
def merkleTakesUptoRow : OpenClaim := { program := "yteceagldjnfeeaadoor", sum := "d1e0dd48de6c4d80518aa7cdf04e7126290f09c89337846282829da26da6907d", func := "isthmus/isthmuslaw08.MerkleTakes", spec := "merkleTakes", inPlace := ["internal/bytealg.Compare"], unfollowed := true, recurses := true, named := ["isthmus/sha.constants", "isthmus/isthmusref03.k"], apart := false, laid := [("isthmus/isthmusref03.k", laid_isthmus_isthmusref03_k), ("isthmus/sha.constants", laid_isthmus_sha_constants)], narrowed := true }
def MerkleTakesUptoSaid : Prop := merkleTakesUptoRow.holds Tryd.pinned (OpenSpec.upto merkleTakesSpec)

/-- 'isthmuslaw08.MerkleHolds', WHERE WHAT IT READS IS OF BULK AT MOST 1048576: true; the input reads as it did. -/
def merkleHoldsUptoRow : OpenClaim := { program := "yteceagldjnfeeaadoor", sum := "d1e0dd48de6c4d80518aa7cdf04e7126290f09c89337846282829da26da6907d", func := "isthmus/isthmuslaw08.MerkleHolds", spec := "merkleHolds", inPlace := ["internal/bytealg.Compare"], unfollowed := true, recurses := true, named := ["isthmus/sha.constants"], apart := false, laid := [("isthmus/sha.constants", laid_isthmus_sha_constants)], narrowed := true }
def MerkleHoldsUptoSaid : Prop := merkleHoldsUptoRow.holds Tryd.pinned (OpenSpec.upto merkleHoldsSpec)

/-- 'isthmuslaw08.MerkleAbsent', WHERE WHAT IT READS IS OF BULK AT MOST 1048576: true; the input reads as it did. -/
def merkleAbsentUptoRow : OpenClaim := { program := "yteceagldjnfeeaadoor", sum := "d1e0dd48de6c4d80518aa7cdf04e7126290f09c89337846282829da26da6907d", func := "isthmus/isthmuslaw08.MerkleAbsent", spec := "merkleAbsent", inPlace := ["internal/bytealg.Compare"], unfollowed := true, recurses := true, named := ["isthmus/sha.constants", "isthmus/isthmusref03.k"], apart := false, laid := [("isthmus/isthmusref03.k", laid_isthmus_isthmusref03_k), ("isthmus/sha.constants", laid_isthmus_sha_constants)], narrowed := true }
def MerkleAbsentUptoSaid : Prop := merkleAbsentUptoRow.holds Tryd.pinned (OpenSpec.upto merkleAbsentSpec)

/-- 'isthmuslaw08.MerkleSpots', WHERE WHAT IT READS IS OF BULK AT MOST 1048576: true; the input reads as it did. -/
def merkleSpotsUptoRow : OpenClaim := { program := "yteceagldjnfeeaadoor", sum := "d1e0dd48de6c4d80518aa7cdf04e7126290f09c89337846282829da26da6907d", func := "isthmus/isthmuslaw08.MerkleSpots", spec := "merkleSpots", inPlace := ["internal/bytealg.Compare"], unfollowed := true, recurses := true, named := ["isthmus/sha.constants"], apart := false, laid := [("isthmus/sha.constants", laid_isthmus_sha_constants)], narrowed := true }
def MerkleSpotsUptoSaid : Prop := merkleSpotsUptoRow.holds Tryd.pinned (OpenSpec.upto merkleSpotsSpec)

/-- 'isthmuslaw09.StoreHistory', WHERE WHAT IT READS IS OF BULK AT MOST 1048576: true; the input reads as it did. -/
def storeHistoryUptoRow : OpenClaim := { program := "yteceagldjnfeeaadoor", sum := "d1e0dd48de6c4d80518aa7cdf04e7126290f09c89337846282829da26da6907d", func := "isthmus/isthmuslaw09.StoreHistory", spec := "storeHistory", inPlace := ["maps.clone"], unfollowed := true, recurses := true, named := ["isthmus/isthmusref03.k", "isthmus/sha.constants"], apart := false, laid := [("isthmus/isthmusref03.k", laid_isthmus_isthmusref03_k), ("isthmus/sha.constants", laid_isthmus_sha_constants)], narrowed := true }
def StoreHistoryUptoSaid : Prop := storeHistoryUptoRow.holds Tryd.pinned (OpenSpec.upto storeHistorySpec)

end Rows
end Go.Proofs.YteceagldjnfeeaaDoor

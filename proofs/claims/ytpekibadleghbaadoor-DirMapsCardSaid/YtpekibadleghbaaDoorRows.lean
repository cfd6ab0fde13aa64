/-
  NARROWER THAN 'FOR EVERY INPUT', by the rows' own cells (each row's printed sentence says how): NamesSalts: laid · NamesCalls: laid · NamesOrders: laid · DirFull: laid · DirDecodes: laid · DirCalls: laid · DirMaps: laid.
  DERIVED. THE GIVEN ROWS OF THIS SEAT. 7 by the template 'for every input the law returns true; each argument reads behind the call as it read before'; 0 by the template 'total and deterministic' (their statements: YtpekibadleghbaaDoorTotals.lean).
  GIVEN WITH THE SEED: the statements are not yours to turn. If you find one false, say at which input.
  Laid BY PROGRAM, IN A SANDBOX (cutbox-rows.mjs): the forced cells as the released guide's own fill.sh prints them over the translation 4e2baa4c6d70e2dd… (all of the seat's roots in one cut). By AI agents, Wed Nov 11 2026. No macro, syntax, notation, axiom, sorry.
-/
import Derived.Test.YtpekibadleghbaaDoorChecked
import GoSem.Claim
import GoSem.ClaimJoined
import GoSem.ClaimMapViews
import Derived.JoinedTies
import Derived.KernelRfl
namespace Go.Proofs.YtpekibadleghbaaDoor
/- THE CELL 'sum', in the pinned program and in every row, IS THE sha256 OF THE DUMP (.gsa) THAT YtpekibadleghbaaDoorProg.lean LOADS. Nothing in Lean hashes anything: it is a label: what it is worth is what the hold of that sum in a sandbox is worth. -/
noncomputable def Tryd.pinned : Pinned := { name := "ytpekibadleghbaadoor", sum := "4e2baa4c6d70e2ddf55bff1bfbdd8b6aefb8cfb1afa06f0cf80fa8f36ec60d47", checked := Tryd.checked }
namespace Rows
def none {H : Type} : Left H := { results := [], args := [] }

/- WHAT THE LISTED PACKAGE-LEVEL VARIABLES READ AS WHEN THE CALL BEGINS. Each datum BY PROGRAM (the guide's laid-datum.mjs) off the statement by which the dump's own 'gosem.cut.vars' lays the variable. In a bare row this is a premise. The card (YtpekibadleghbaaDoorCards.lean) ties it to the program's text. -/
def laid_cloister_cloisterref01_k {H : Type} : DataW H := .agg [.lit (.int .u32 1116352408), .lit (.int .u32 1899447441), .lit (.int .u32 3049323471), .lit (.int .u32 3921009573), .lit (.int .u32 961987163), .lit (.int .u32 1508970993), .lit (.int .u32 2453635748), .lit (.int .u32 2870763221), .lit (.int .u32 3624381080), .lit (.int .u32 310598401), .lit (.int .u32 607225278), .lit (.int .u32 1426881987), .lit (.int .u32 1925078388), .lit (.int .u32 2162078206), .lit (.int .u32 2614888103), .lit (.int .u32 3248222580), .lit (.int .u32 3835390401), .lit (.int .u32 4022224774), .lit (.int .u32 264347078), .lit (.int .u32 604807628), .lit (.int .u32 770255983), .lit (.int .u32 1249150122), .lit (.int .u32 1555081692), .lit (.int .u32 1996064986), .lit (.int .u32 2554220882), .lit (.int .u32 2821834349), .lit (.int .u32 2952996808), .lit (.int .u32 3210313671), .lit (.int .u32 3336571891), .lit (.int .u32 3584528711), .lit (.int .u32 113926993), .lit (.int .u32 338241895), .lit (.int .u32 666307205), .lit (.int .u32 773529912), .lit (.int .u32 1294757372), .lit (.int .u32 1396182291), .lit (.int .u32 1695183700), .lit (.int .u32 1986661051), .lit (.int .u32 2177026350), .lit (.int .u32 2456956037), .lit (.int .u32 2730485921), .lit (.int .u32 2820302411), .lit (.int .u32 3259730800), .lit (.int .u32 3345764771), .lit (.int .u32 3516065817), .lit (.int .u32 3600352804), .lit (.int .u32 4094571909), .lit (.int .u32 275423344), .lit (.int .u32 430227734), .lit (.int .u32 506948616), .lit (.int .u32 659060556), .lit (.int .u32 883997877), .lit (.int .u32 958139571), .lit (.int .u32 1322822218), .lit (.int .u32 1537002063), .lit (.int .u32 1747873779), .lit (.int .u32 1955562222), .lit (.int .u32 2024104815), .lit (.int .u32 2227730452), .lit (.int .u32 2361852424), .lit (.int .u32 2428436474), .lit (.int .u32 2756734187), .lit (.int .u32 3204031479), .lit (.int .u32 3329325298)]
def laid_cloister_sha_keys {H : Type} : DataW H := .agg [.lit (.int .u32 1116352408), .lit (.int .u32 1899447441), .lit (.int .u32 3049323471), .lit (.int .u32 3921009573), .lit (.int .u32 961987163), .lit (.int .u32 1508970993), .lit (.int .u32 2453635748), .lit (.int .u32 2870763221), .lit (.int .u32 3624381080), .lit (.int .u32 310598401), .lit (.int .u32 607225278), .lit (.int .u32 1426881987), .lit (.int .u32 1925078388), .lit (.int .u32 2162078206), .lit (.int .u32 2614888103), .lit (.int .u32 3248222580), .lit (.int .u32 3835390401), .lit (.int .u32 4022224774), .lit (.int .u32 264347078), .lit (.int .u32 604807628), .lit (.int .u32 770255983), .lit (.int .u32 1249150122), .lit (.int .u32 1555081692), .lit (.int .u32 1996064986), .lit (.int .u32 2554220882), .lit (.int .u32 2821834349), .lit (.int .u32 2952996808), .lit (.int .u32 3210313671), .lit (.int .u32 3336571891), .lit (.int .u32 3584528711), .lit (.int .u32 113926993), .lit (.int .u32 338241895), .lit (.int .u32 666307205), .lit (.int .u32 773529912), .lit (.int .u32 1294757372), .lit (.int .u32 1396182291), .lit (.int .u32 1695183700), .lit (.int .u32 1986661051), .lit (.int .u32 2177026350), .lit (.int .u32 2456956037), .lit (.int .u32 2730485921), .lit (.int .u32 2820302411), .lit (.int .u32 3259730800), .lit (.int .u32 3345764771), .lit (.int .u32 3516065817), .lit (.int .u32 3600352804), .lit (.int .u32 4094571909), .lit (.int .u32 275423344), .lit (.int .u32 430227734), .lit (.int .u32 506948616), .lit (.int .u32 659060556), .lit (.int .u32 883997877), .lit (.int .u32 958139571), .lit (.int .u32 1322822218), .lit (.int .u32 1537002063), .lit (.int .u32 1747873779), .lit (.int .u32 1955562222), .lit (.int .u32 2024104815), .lit (.int .u32 2227730452), .lit (.int .u32 2361852424), .lit (.int .u32 2428436474), .lit (.int .u32 2756734187), .lit (.int .u32 3204031479), .lit (.int .u32 3329325298)]

/-- 'cloisterlaw17.NamesSalts': WHATEVER THE INPUT: true; the input reads as it did. -/
def namesSaltsSpec : ChangeSpec := { name := "namesSalts", fn := fun _ => fun
  | [d1, d2, d3] => { results := [.lit (.bool true)], args := [d1, d2, d3] }
  | _ => none }
def namesSaltsRow : OpenClaim := { program := "ytpekibadleghbaadoor", sum := "4e2baa4c6d70e2ddf55bff1bfbdd8b6aefb8cfb1afa06f0cf80fa8f36ec60d47", func := "cloister/cloisterlaw17.NamesSalts", spec := "namesSalts", inPlace := ["internal/bytealg.IndexByteString", "internal/bytealg.IndexString"], named := ["cloister/sha.keys", "cloister/cloisterref01.k", "internal/bytealg.MaxLen"], apart := false, laid := [("cloister/cloisterref01.k", laid_cloister_cloisterref01_k), ("cloister/sha.keys", laid_cloister_sha_keys)] }
def NamesSaltsSaid : Prop := namesSaltsRow.holds Tryd.pinned (OpenSpec.ofChange namesSaltsSpec)

/-- ITS FALSE NEIGHBOUR: 'it returns false'. Refute it at one input. -/
def namesSaltsWrong : ChangeSpec := { name := "namesSalts", fn := fun _ => fun
  | [d1, d2, d3] => { results := [.lit (.bool false)], args := [d1, d2, d3] }
  | _ => none }
def NamesSaltsWrongFalsely : Prop := namesSaltsRow.holds Tryd.pinned (OpenSpec.ofChange namesSaltsWrong)

/-- 'cloisterlaw17.NamesCalls': WHATEVER THE INPUT: true; the input reads as it did. -/
def namesCallsSpec : ChangeSpec := { name := "namesCalls", fn := fun _ => fun
  | [d1, d2, d3] => { results := [.lit (.bool true)], args := [d1, d2, d3] }
  | _ => none }
def namesCallsRow : OpenClaim := { program := "ytpekibadleghbaadoor", sum := "4e2baa4c6d70e2ddf55bff1bfbdd8b6aefb8cfb1afa06f0cf80fa8f36ec60d47", func := "cloister/cloisterlaw17.NamesCalls", spec := "namesCalls", inPlace := ["internal/bytealg.IndexByteString", "internal/bytealg.IndexString"], named := ["cloister/sha.keys", "cloister/cloisterref01.k", "internal/bytealg.MaxLen"], apart := false, laid := [("cloister/cloisterref01.k", laid_cloister_cloisterref01_k), ("cloister/sha.keys", laid_cloister_sha_keys)] }
def NamesCallsSaid : Prop := namesCallsRow.holds Tryd.pinned (OpenSpec.ofChange namesCallsSpec)

/-- ITS FALSE NEIGHBOUR: 'it returns false'. Refute it at one input. -/
def namesCallsWrong : ChangeSpec := { name := "namesCalls", fn := fun _ => fun
  | [d1, d2, d3] => { results := [.lit (.bool false)], args := [d1, d2, d3] }
  | _ => none }
def NamesCallsWrongFalsely : Prop := namesCallsRow.holds Tryd.pinned (OpenSpec.ofChange namesCallsWrong)

/-- 'cloisterlaw17.NamesOrders': WHATEVER THE INPUT: true; the input reads as it did. -/
def namesOrdersSpec : ChangeSpec := { name := "namesOrders", fn := fun _ => fun
  | [d1, d2, d3, d4] => { results := [.lit (.bool true)], args := [d1, d2, d3, d4] }
  | _ => none }
def namesOrdersRow : OpenClaim := { program := "ytpekibadleghbaadoor", sum := "4e2baa4c6d70e2ddf55bff1bfbdd8b6aefb8cfb1afa06f0cf80fa8f36ec60d47", func := "cloister/cloisterlaw17.NamesOrders", spec := "namesOrders", inPlace := ["internal/bytealg.IndexByteString", "internal/bytealg.IndexString"], named := ["cloister/sha.keys", "cloister/cloisterref01.k", "internal/bytealg.MaxLen"], apart := false, laid := [("cloister/cloisterref01.k", laid_cloister_cloisterref01_k), ("cloister/sha.keys", laid_cloister_sha_keys)] }
def NamesOrdersSaid : Prop := namesOrdersRow.holds Tryd.pinned (OpenSpec.ofChange namesOrdersSpec)

/-- ITS FALSE NEIGHBOUR: 'it returns false'. Refute it at one input. -/
def namesOrdersWrong : ChangeSpec := { name := "namesOrders", fn := fun _ => fun
  | [d1, d2, d3, d4] => { results := [.lit (.bool false)], args := [d1, d2, d3, d4] }
  | _ => none }
def NamesOrdersWrongFalsely : Prop := namesOrdersRow.holds Tryd.pinned (OpenSpec.ofChange namesOrdersWrong)

/-- 'cloisterlaw18.DirFull': WHATEVER THE INPUT: true; the input reads as it did. -/
def dirFullSpec : ChangeSpec := { name := "dirFull", fn := fun _ => fun
  | [d1, d2] => { results := [.lit (.bool true)], args := [d1, d2] }
  | _ => none }
def dirFullRow : OpenClaim := { program := "ytpekibadleghbaadoor", sum := "4e2baa4c6d70e2ddf55bff1bfbdd8b6aefb8cfb1afa06f0cf80fa8f36ec60d47", func := "cloister/cloisterlaw18.DirFull", spec := "dirFull", inPlace := ["internal/bytealg.IndexByteString", "internal/bytealg.IndexString", "slices.overlaps[cloister/api.Entry]"], unfollowed := true, recurses := true, named := ["cloister/sha.keys", "internal/bytealg.MaxLen"], apart := false, laid := [("cloister/sha.keys", laid_cloister_sha_keys)] }
def DirFullSaid : Prop := dirFullRow.holds Tryd.pinned (OpenSpec.ofChange dirFullSpec)

/-- ITS FALSE NEIGHBOUR: 'it returns false'. Refute it at one input. -/
def dirFullWrong : ChangeSpec := { name := "dirFull", fn := fun _ => fun
  | [d1, d2] => { results := [.lit (.bool false)], args := [d1, d2] }
  | _ => none }
def DirFullWrongFalsely : Prop := dirFullRow.holds Tryd.pinned (OpenSpec.ofChange dirFullWrong)

/-- 'cloisterlaw18.DirDecodes': WHATEVER THE INPUT: true; the input reads as it did. -/
def dirDecodesSpec : ChangeSpec := { name := "dirDecodes", fn := fun _ => fun
  | [d1, d2] => { results := [.lit (.bool true)], args := [d1, d2] }
  | _ => none }
def dirDecodesRow : OpenClaim := { program := "ytpekibadleghbaadoor", sum := "4e2baa4c6d70e2ddf55bff1bfbdd8b6aefb8cfb1afa06f0cf80fa8f36ec60d47", func := "cloister/cloisterlaw18.DirDecodes", spec := "dirDecodes", inPlace := ["internal/bytealg.IndexByteString", "internal/bytealg.IndexString", "slices.overlaps[cloister/api.Entry]"], unfollowed := true, recurses := true, named := ["cloister/sha.keys", "cloister/cloisterref01.k", "internal/bytealg.MaxLen"], apart := false, laid := [("cloister/cloisterref01.k", laid_cloister_cloisterref01_k), ("cloister/sha.keys", laid_cloister_sha_keys)] }
def DirDecodesSaid : Prop := dirDecodesRow.holds Tryd.pinned (OpenSpec.ofChange dirDecodesSpec)

/-- ITS FALSE NEIGHBOUR: 'it returns false'. Refute it at one input. -/
def dirDecodesWrong : ChangeSpec := { name := "dirDecodes", fn := fun _ => fun
  | [d1, d2] => { results := [.lit (.bool false)], args := [d1, d2] }
  | _ => none }
def DirDecodesWrongFalsely : Prop := dirDecodesRow.holds Tryd.pinned (OpenSpec.ofChange dirDecodesWrong)

/-- 'cloisterlaw18.DirCalls': WHATEVER THE INPUT: true; the input reads as it did. -/
def dirCallsSpec : ChangeSpec := { name := "dirCalls", fn := fun _ => fun
  | [d1, d2, d3, d4, d5] => { results := [.lit (.bool true)], args := [d1, d2, d3, d4, d5] }
  | _ => none }
def dirCallsRow : OpenClaim := { program := "ytpekibadleghbaadoor", sum := "4e2baa4c6d70e2ddf55bff1bfbdd8b6aefb8cfb1afa06f0cf80fa8f36ec60d47", func := "cloister/cloisterlaw18.DirCalls", spec := "dirCalls", inPlace := ["internal/bytealg.IndexByteString", "internal/bytealg.IndexString", "slices.overlaps[cloister/api.Entry]"], unfollowed := true, recurses := true, named := ["cloister/cloisterref01.k", "cloister/sha.keys", "internal/bytealg.MaxLen"], apart := false, laid := [("cloister/cloisterref01.k", laid_cloister_cloisterref01_k), ("cloister/sha.keys", laid_cloister_sha_keys)] }
def DirCallsSaid : Prop := dirCallsRow.holds Tryd.pinned (OpenSpec.ofChange dirCallsSpec)

/-- ITS FALSE NEIGHBOUR: 'it returns false'. Refute it at one input. -/
def dirCallsWrong : ChangeSpec := { name := "dirCalls", fn := fun _ => fun
  | [d1, d2, d3, d4, d5] => { results := [.lit (.bool false)], args := [d1, d2, d3, d4, d5] }
  | _ => none }
def DirCallsWrongFalsely : Prop := dirCallsRow.holds Tryd.pinned (OpenSpec.ofChange dirCallsWrong)

/-- 'cloisterlaw18.DirMaps': WHATEVER THE INPUT: true; the input reads as it did. -/
def dirMapsSpec : ChangeSpec := { name := "dirMaps", fn := fun _ => fun
  | [d1, d2, d3] => { results := [.lit (.bool true)], args := [d1, d2, d3] }
  | _ => none }
def dirMapsRow : OpenClaim := { program := "ytpekibadleghbaadoor", sum := "4e2baa4c6d70e2ddf55bff1bfbdd8b6aefb8cfb1afa06f0cf80fa8f36ec60d47", func := "cloister/cloisterlaw18.DirMaps", spec := "dirMaps", inPlace := ["internal/bytealg.IndexByteString", "internal/bytealg.IndexString", "slices.overlaps[cloister/api.Entry]"], unfollowed := true, recurses := true, named := ["cloister/sha.keys", "internal/bytealg.MaxLen"], apart := false, laid := [("cloister/sha.keys", laid_cloister_sha_keys)] }
def DirMapsSaid : Prop := dirMapsRow.holds Tryd.pinned (OpenSpec.ofChange dirMapsSpec)

/-- ITS FALSE NEIGHBOUR: 'it returns false'. Refute it at one input. -/
def dirMapsWrong : ChangeSpec := { name := "dirMaps", fn := fun _ => fun
  | [d1, d2, d3] => { results := [.lit (.bool false)], args := [d1, d2, d3] }
  | _ => none }
def DirMapsWrongFalsely : Prop := dirMapsRow.holds Tryd.pinned (OpenSpec.ofChange dirMapsWrong)

/- THE SECOND FORM. 'bulk': how many values and letters a reading holds, each counted each time it is reached (what is shared counts as often as it is met; a slice's spare places count too). A statement '..UptoSaid' is the law's where the arguments, and the package variables that the reading takes, are together of bulk at most 1048576: NARROWER than '..Said'. Prove '..Said' where nothing that the law and all that it calls make is longer than what came in: it says more and counts as full. Else prove '..UptoSaid'. A law counts once. -/
mutual
def uptoBulk {H : Type} : DataW H → Nat
  | .lit (.string bytes) => bytes.length + 1
  | .lit _ => 1
  | .nil => 1
  | .ptr d => uptoBulk d + 1
  | .slice elems spare => uptoBulkAll elems + uptoBulkAll spare + 1
  | .agg parts => uptoBulkAll parts + 1
  | .iface _ d => uptoBulk d + 1
  | .map entries => uptoBulkEntries entries + 1
  | .held _ => 1
def uptoBulkAll {H : Type} : List (DataW H) → Nat
  | [] => 0
  | d :: r => uptoBulk d + uptoBulkAll r
def uptoBulkEntries {H : Type} : List (Lit × DataW H) → Nat
  | [] => 0
  | x :: r => uptoBulkEntry x + uptoBulkEntries r
def uptoBulkEntry {H : Type} : Lit × DataW H → Nat
  | (.string bytes, d) => bytes.length + uptoBulk d + 1
  | (_, d) => uptoBulk d + 1
 end
def uptoSmall : (H : Type) → List (DataW H) → Bool := fun _ ds => decide (uptoBulkAll ds ≤ 1048576)
def OpenSpec.upto (s : _root_.Go.ChangeSpec) : _root_.Go.OpenSpec := { _root_.Go.OpenSpec.ofChange s with cond := some uptoSmall }

/-- 'cloisterlaw17.NamesSalts', WHERE WHAT IT READS IS OF BULK AT MOST 1048576: true; the input reads as it did. -/
def namesSaltsUptoRow : OpenClaim := { program := "ytpekibadleghbaadoor", sum := "4e2baa4c6d70e2ddf55bff1bfbdd8b6aefb8cfb1afa06f0cf80fa8f36ec60d47", func := "cloister/cloisterlaw17.NamesSalts", spec := "namesSalts", inPlace := ["internal/bytealg.IndexByteString", "internal/bytealg.IndexString"], named := ["cloister/sha.keys", "cloister/cloisterref01.k", "internal/bytealg.MaxLen"], apart := false, laid := [("cloister/cloisterref01.k", laid_cloister_cloisterref01_k), ("cloister/sha.keys", laid_cloister_sha_keys)], narrowed := true }
def NamesSaltsUptoSaid : Prop := namesSaltsUptoRow.holds Tryd.pinned (OpenSpec.upto namesSaltsSpec)

/-- 'cloisterlaw17.NamesCalls', WHERE WHAT IT READS IS OF BULK AT MOST 1048576: true; the input reads as it did. -/
def namesCallsUptoRow : OpenClaim := { program := "ytpekibadleghbaadoor", sum := "4e2baa4c6d70e2ddf55bff1bfbdd8b6aefb8cfb1afa06f0cf80fa8f36ec60d47", func := "cloister/cloisterlaw17.NamesCalls", spec := "namesCalls", inPlace := ["internal/bytealg.IndexByteString", "internal/bytealg.IndexString"], named := ["cloister/sha.keys", "cloister/cloisterref01.k", "internal/bytealg.MaxLen"], apart := false, laid := [("cloister/cloisterref01.k", laid_cloister_cloisterref01_k), ("cloister/sha.keys", laid_cloister_sha_keys)], narrowed := true }
def NamesCallsUptoSaid : Prop := namesCallsUptoRow.holds Tryd.pinned (OpenSpec.upto namesCallsSpec)

/-- 'cloisterlaw17.NamesOrders', WHERE WHAT IT READS IS OF BULK AT MOST 1048576: true; the input reads as it did. -/
def namesOrdersUptoRow : OpenClaim := { program := "ytpekibadleghbaadoor", sum := "4e2baa4c6d70e2ddf55bff1bfbdd8b6aefb8cfb1afa06f0cf80fa8f36ec60d47", func := "cloister/cloisterlaw17.NamesOrders", spec := "namesOrders", inPlace := ["internal/bytealg.IndexByteString", "internal/bytealg.IndexString"], named := ["cloister/sha.keys", "cloister/cloisterref01.k", "internal/bytealg.MaxLen"], apart := false, laid := [("cloister/cloisterref01.k", laid_cloister_cloisterref01_k), ("cloister/sha.keys", laid_cloister_sha_keys)], narrowed := true }
def NamesOrdersUptoSaid : Prop := namesOrdersUptoRow.holds Tryd.pinned (OpenSpec.upto namesOrdersSpec)

/-- 'cloisterlaw18.DirFull', WHERE WHAT IT READS IS OF BULK AT MOST 1048576: true; the input reads as it did. -/
def dirFullUptoRow : OpenClaim := { program := "ytpekibadleghbaadoor", sum := "4e2baa4c6d70e2ddf55bff1bfbdd8b6aefb8cfb1afa06f0cf80fa8f36ec60d47", func := "cloister/cloisterlaw18.DirFull", spec := "dirFull", inPlace := ["internal/bytealg.IndexByteString", "internal/bytealg.IndexString", "slices.overlaps[cloister/api.Entry]"], unfollowed := true, recurses := true, named := ["cloister/sha.keys", "internal/bytealg.MaxLen"], apart := false, laid := [("cloister/sha.keys", laid_cloister_sha_keys)], narrowed := true }
def DirFullUptoSaid : Prop := dirFullUptoRow.holds Tryd.pinned (OpenSpec.upto dirFullSpec)

/-- 'cloisterlaw18.DirDecodes', WHERE WHAT IT READS IS OF BULK AT MOST 1048576: true; the input reads as it did. -/
def dirDecodesUptoRow : OpenClaim := { program := "ytpekibadleghbaadoor", sum := "4e2baa4c6d70e2ddf55bff1bfbdd8b6aefb8cfb1afa06f0cf80fa8f36ec60d47", func := "cloister/cloisterlaw18.DirDecodes", spec := "dirDecodes", inPlace := ["internal/bytealg.IndexByteString", "internal/bytealg.IndexString", "slices.overlaps[cloister/api.Entry]"], unfollowed := true, recurses := true, named := ["cloister/sha.keys", "cloister/cloisterref01.k", "internal/bytealg.MaxLen"], apart := false, laid := [("cloister/cloisterref01.k", laid_cloister_cloisterref01_k), ("cloister/sha.keys", laid_cloister_sha_keys)], narrowed := true }
def DirDecodesUptoSaid : Prop := dirDecodesUptoRow.holds Tryd.pinned (OpenSpec.upto dirDecodesSpec)

/-- 'cloisterlaw18.DirCalls', WHERE WHAT IT READS IS OF BULK AT MOST 1048576: true; the input reads as it did. -/
def dirCallsUptoRow : OpenClaim := { program := "ytpekibadleghbaadoor", sum := "4e2baa4c6d70e2ddf55bff1bfbdd8b6aefb8cfb1afa06f0cf80fa8f36ec60d47", func := "cloister/cloisterlaw18.DirCalls", spec := "dirCalls", inPlace := ["internal/bytealg.IndexByteString", "internal/bytealg.IndexString", "slices.overlaps[cloister/api.Entry]"], unfollowed := true, recurses := true, named := ["cloister/cloisterref01.k", "cloister/sha.keys", "internal/bytealg.MaxLen"], apart := false, laid := [("cloister/cloisterref01.k", laid_cloister_cloisterref01_k), ("cloister/sha.keys", laid_cloister_sha_keys)], narrowed := true }
def DirCallsUptoSaid : Prop := dirCallsUptoRow.holds Tryd.pinned (OpenSpec.upto dirCallsSpec)

/-- 'cloisterlaw18.DirMaps', WHERE WHAT IT READS IS OF BULK AT MOST 1048576: true; the input reads as it did. -/
def dirMapsUptoRow : OpenClaim := { program := "ytpekibadleghbaadoor", sum := "4e2baa4c6d70e2ddf55bff1bfbdd8b6aefb8cfb1afa06f0cf80fa8f36ec60d47", func := "cloister/cloisterlaw18.DirMaps", spec := "dirMaps", inPlace := ["internal/bytealg.IndexByteString", "internal/bytealg.IndexString", "slices.overlaps[cloister/api.Entry]"], unfollowed := true, recurses := true, named := ["cloister/sha.keys", "internal/bytealg.MaxLen"], apart := false, laid := [("cloister/sha.keys", laid_cloister_sha_keys)], narrowed := true }
def DirMapsUptoSaid : Prop := dirMapsUptoRow.holds Tryd.pinned (OpenSpec.upto dirMapsSpec)

end Rows
end Go.Proofs.YtpekibadleghbaaDoor

/-
  No cell of these rows narrows 'for every input' (looked for: loops, veiled, ifaces, maps, wideKeys, modest, calm, conditions, laid).
  DERIVED. THE GIVEN ROWS OF THIS SEAT. 3 by the template 'for every input the law returns true; each argument reads behind the call as it read before'; 0 by the template 'total and deterministic' (their statements: YtahlmlhdfoijhaaTotals.lean).
  GIVEN WITH THE SEED: the statements are not yours to turn. If you find one false, say at which input.
  Laid BY PROGRAM, IN A SANDBOX (cutbox-rows.mjs): the forced cells as the released guide's own fill.sh prints them over the translation 6ccb1948e36c47ec… (all of the seat's roots in one cut). By AI agents, Wed Nov 11 2026. No macro, syntax, notation, axiom, sorry.
-/
import Derived.Test.YtahlmlhdfoijhaaChecked
import GoSem.Claim
import GoSem.ClaimJoined
import GoSem.ClaimMapViews
import Derived.JoinedTies
import Derived.KernelRfl
namespace Go.Proofs.Ytahlmlhdfoijhaa
/- THE CELL 'sum', in the pinned program and in every row, IS THE sha256 OF THE DUMP (.gsa) THAT YtahlmlhdfoijhaaProg.lean LOADS. Nothing in Lean hashes anything: it is a label: what it is worth is what the hold of that sum in a sandbox is worth. -/
noncomputable def Try.pinned : Pinned := { name := "ytahlmlhdfoijhaa", sum := "6ccb1948e36c47ec948da63997c28b683ce6cc4a85f34d8ae892ceb210e6e791", checked := Try.checked }
namespace Rows
def none {H : Type} : Left H := { results := [], args := [] }

/-- 'cloisterlaw20.QuotaBack': WHATEVER THE INPUT: true; the input reads as it did. -/
def quotaBackSpec : ChangeSpec := { name := "quotaBack", fn := fun _ => fun
  | [d1, d2, d3, d4] => { results := [.lit (.bool true)], args := [d1, d2, d3, d4] }
  | _ => none }
def quotaBackRow : OpenClaim := { program := "ytahlmlhdfoijhaa", sum := "6ccb1948e36c47ec948da63997c28b683ce6cc4a85f34d8ae892ceb210e6e791", func := "cloister/cloisterlaw20.QuotaBack", spec := "quotaBack", inPlace := ["slices.overlaps[cloister/api.Usage]"], unfollowed := true, recurses := true, apart := false }
def QuotaBackSaid : Prop := quotaBackRow.holds Try.pinned (OpenSpec.ofChange quotaBackSpec)

/-- ITS FALSE NEIGHBOUR: 'it returns false'. Refute it at one input. -/
def quotaBackWrong : ChangeSpec := { name := "quotaBack", fn := fun _ => fun
  | [d1, d2, d3, d4] => { results := [.lit (.bool false)], args := [d1, d2, d3, d4] }
  | _ => none }
def QuotaBackWrongFalsely : Prop := quotaBackRow.holds Try.pinned (OpenSpec.ofChange quotaBackWrong)

/-- 'cloisterlaw20.QuotaCalls': WHATEVER THE INPUT: true; the input reads as it did. -/
def quotaCallsSpec : ChangeSpec := { name := "quotaCalls", fn := fun _ => fun
  | [d1, d2, d3, d4] => { results := [.lit (.bool true)], args := [d1, d2, d3, d4] }
  | _ => none }
def quotaCallsRow : OpenClaim := { program := "ytahlmlhdfoijhaa", sum := "6ccb1948e36c47ec948da63997c28b683ce6cc4a85f34d8ae892ceb210e6e791", func := "cloister/cloisterlaw20.QuotaCalls", spec := "quotaCalls", inPlace := ["slices.overlaps[cloister/api.Usage]"], unfollowed := true, recurses := true, apart := false }
def QuotaCallsSaid : Prop := quotaCallsRow.holds Try.pinned (OpenSpec.ofChange quotaCallsSpec)

/-- ITS FALSE NEIGHBOUR: 'it returns false'. Refute it at one input. -/
def quotaCallsWrong : ChangeSpec := { name := "quotaCalls", fn := fun _ => fun
  | [d1, d2, d3, d4] => { results := [.lit (.bool false)], args := [d1, d2, d3, d4] }
  | _ => none }
def QuotaCallsWrongFalsely : Prop := quotaCallsRow.holds Try.pinned (OpenSpec.ofChange quotaCallsWrong)

/-- 'cloisterlaw20.QuotaSums': WHATEVER THE INPUT: true; the input reads as it did. -/
def quotaSumsSpec : ChangeSpec := { name := "quotaSums", fn := fun _ => fun
  | [d1, d2] => { results := [.lit (.bool true)], args := [d1, d2] }
  | _ => none }
def quotaSumsRow : OpenClaim := { program := "ytahlmlhdfoijhaa", sum := "6ccb1948e36c47ec948da63997c28b683ce6cc4a85f34d8ae892ceb210e6e791", func := "cloister/cloisterlaw20.QuotaSums", spec := "quotaSums", inPlace := ["slices.overlaps[cloister/api.Usage]"], unfollowed := true, recurses := true, apart := false }
def QuotaSumsSaid : Prop := quotaSumsRow.holds Try.pinned (OpenSpec.ofChange quotaSumsSpec)

/-- ITS FALSE NEIGHBOUR: 'it returns false'. Refute it at one input. -/
def quotaSumsWrong : ChangeSpec := { name := "quotaSums", fn := fun _ => fun
  | [d1, d2] => { results := [.lit (.bool false)], args := [d1, d2] }
  | _ => none }
def QuotaSumsWrongFalsely : Prop := quotaSumsRow.holds Try.pinned (OpenSpec.ofChange quotaSumsWrong)

/- THE SECOND FORM. 'bulk': how many values and letters a reading holds, each counted each time it is reached (what is shared counts as often as it is met; a slice's spare places count too). A statement '..UptoSaid' is the law's where the arguments, and the package variables that the reading takes, are together of bulk at most 1048576: NARROWER than '..Said'. Prove '..Said' where nothing that the law and all that it calls make is longer than what came in: it says more and counts as full. Else prove '..UptoSaid'. A law counts once. -/
mutual
def uptoBulk {H : Type} : DataW H → Nat
  | .lit (.string bytes) => bytes.length + 1
  | .lit _ => 1
  | .nil => 1
  | .ptr d => uptoBulk d + 1
  | .slice elems spare => uptoBulkAll elems + uptoBulkAll spare + 1
  | .agg parts => uptoBulkAll parts + 1
  | .iface _ d => uptoBulk d + 1
  | .map entries => uptoBulkEntries entries + 1
  | .held _ => 1
def uptoBulkAll {H : Type} : List (DataW H) → Nat
  | [] => 0
  | d :: r => uptoBulk d + uptoBulkAll r
def uptoBulkEntries {H : Type} : List (Lit × DataW H) → Nat
  | [] => 0
  | x :: r => uptoBulkEntry x + uptoBulkEntries r
def uptoBulkEntry {H : Type} : Lit × DataW H → Nat
  | (.string bytes, d) => bytes.length + uptoBulk d + 1
  | (_, d) => uptoBulk d + 1
 end
def uptoSmall : (H : Type) → List (DataW H) → Bool := fun _ ds => decide (uptoBulkAll ds ≤ 1048576)
def OpenSpec.upto (s : _root_.Go.ChangeSpec) : _root_.Go.OpenSpec := { _root_.Go.OpenSpec.ofChange s with cond := some uptoSmall }

/-- 'cloisterlaw20.QuotaBack', WHERE WHAT IT READS IS OF BULK AT MOST 1048576: true; the input reads as it did. -/
def quotaBackUptoRow : OpenClaim := { program := "ytahlmlhdfoijhaa", sum := "6ccb1948e36c47ec948da63997c28b683ce6cc4a85f34d8ae892ceb210e6e791", func := "cloister/cloisterlaw20.QuotaBack", spec := "quotaBack", inPlace := ["slices.overlaps[cloister/api.Usage]"], unfollowed := true, recurses := true, apart := false, narrowed := true }
def QuotaBackUptoSaid : Prop := quotaBackUptoRow.holds Try.pinned (OpenSpec.upto quotaBackSpec)

/-- 'cloisterlaw20.QuotaCalls', WHERE WHAT IT READS IS OF BULK AT MOST 1048576: true; the input reads as it did. -/
def quotaCallsUptoRow : OpenClaim := { program := "ytahlmlhdfoijhaa", sum := "6ccb1948e36c47ec948da63997c28b683ce6cc4a85f34d8ae892ceb210e6e791", func := "cloister/cloisterlaw20.QuotaCalls", spec := "quotaCalls", inPlace := ["slices.overlaps[cloister/api.Usage]"], unfollowed := true, recurses := true, apart := false, narrowed := true }
def QuotaCallsUptoSaid : Prop := quotaCallsUptoRow.holds Try.pinned (OpenSpec.upto quotaCallsSpec)

/-- 'cloisterlaw20.QuotaSums', WHERE WHAT IT READS IS OF BULK AT MOST 1048576: true; the input reads as it did. -/
def quotaSumsUptoRow : OpenClaim := { program := "ytahlmlhdfoijhaa", sum := "6ccb1948e36c47ec948da63997c28b683ce6cc4a85f34d8ae892ceb210e6e791", func := "cloister/cloisterlaw20.QuotaSums", spec := "quotaSums", inPlace := ["slices.overlaps[cloister/api.Usage]"], unfollowed := true, recurses := true, apart := false, narrowed := true }
def QuotaSumsUptoSaid : Prop := quotaSumsUptoRow.holds Try.pinned (OpenSpec.upto quotaSumsSpec)

end Rows
end Go.Proofs.Ytahlmlhdfoijhaa

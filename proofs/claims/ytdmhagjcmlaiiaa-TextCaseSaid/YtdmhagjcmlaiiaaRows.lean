/-
  No cell of these rows narrows 'for every input' (looked for: loops, veiled, ifaces, maps, wideKeys, modest, calm, conditions, laid).
  DERIVED. THE GIVEN ROWS OF THIS SEAT. 2 by the template 'for every input the law returns true; each argument reads behind the call as it read before'; 0 by the template 'total and deterministic' (their statements: YtdmhagjcmlaiiaaTotals.lean).
  GIVEN WITH THE SEED: the statements are not yours to turn. If you find one false, say at which input.
  Laid BY PROGRAM, IN A SANDBOX (cutbox-rows.mjs): the forced cells as the released guide's own fill.sh prints them over the translation 8ace53a45ad27b7d… (all of the seat's roots in one cut). By AI agents, Wed Nov 11 2026. No macro, syntax, notation, axiom, sorry.
-/
import Derived.Test.YtdmhagjcmlaiiaaChecked
import GoSem.Claim
import GoSem.ClaimJoined
import GoSem.ClaimMapViews
import Derived.JoinedTies
import Derived.KernelRfl
namespace Go.Proofs.Ytdmhagjcmlaiiaa
/- THE CELL 'sum', in the pinned program and in every row, IS THE sha256 OF THE DUMP (.gsa) THAT YtdmhagjcmlaiiaaProg.lean LOADS. Nothing in Lean hashes anything: it is a label: what it is worth is what the hold of that sum in a sandbox is worth. -/
noncomputable def Try.pinned : Pinned := { name := "ytdmhagjcmlaiiaa", sum := "8ace53a45ad27b7dcb32afa502f23fdba5b16281667606ccbee4e2bacd3fc09c", checked := Try.checked }
namespace Rows
def none {H : Type} : Left H := { results := [], args := [] }

/-- 'ndjqlaw08.TextCut': WHATEVER THE INPUT: true; the input reads as it did. -/
def textCutSpec : ChangeSpec := { name := "textCut", fn := fun _ => fun
  | [d1, d2] => { results := [.lit (.bool true)], args := [d1, d2] }
  | _ => none }
def textCutRow : OpenClaim := { program := "ytdmhagjcmlaiiaa", sum := "8ace53a45ad27b7dcb32afa502f23fdba5b16281667606ccbee4e2bacd3fc09c", func := "ndjq/ndjqlaw08.TextCut", spec := "textCut", inPlace := ["internal/bytealg.abigen_runtime_cmpstring"], unfollowed := true, recurses := true, apart := false }
def TextCutSaid : Prop := textCutRow.holds Try.pinned (OpenSpec.ofChange textCutSpec)

/-- ITS FALSE NEIGHBOUR: 'it returns false'. Refute it at one input. -/
def textCutWrong : ChangeSpec := { name := "textCut", fn := fun _ => fun
  | [d1, d2] => { results := [.lit (.bool false)], args := [d1, d2] }
  | _ => none }
def TextCutWrongFalsely : Prop := textCutRow.holds Try.pinned (OpenSpec.ofChange textCutWrong)

/-- 'ndjqlaw08.TextCase': WHATEVER THE INPUT: true; the input reads as it did. -/
def textCaseSpec : ChangeSpec := { name := "textCase", fn := fun _ => fun
  | [d] => { results := [.lit (.bool true)], args := [d] }
  | _ => none }
def textCaseRow : OpenClaim := { program := "ytdmhagjcmlaiiaa", sum := "8ace53a45ad27b7dcb32afa502f23fdba5b16281667606ccbee4e2bacd3fc09c", func := "ndjq/ndjqlaw08.TextCase", spec := "textCase", inPlace := ["internal/bytealg.abigen_runtime_cmpstring"], unfollowed := true, recurses := true, apart := false }
def TextCaseSaid : Prop := textCaseRow.holds Try.pinned (OpenSpec.ofChange textCaseSpec)

/-- ITS FALSE NEIGHBOUR: 'it returns false'. Refute it at one input. -/
def textCaseWrong : ChangeSpec := { name := "textCase", fn := fun _ => fun
  | [d] => { results := [.lit (.bool false)], args := [d] }
  | _ => none }
def TextCaseWrongFalsely : Prop := textCaseRow.holds Try.pinned (OpenSpec.ofChange textCaseWrong)

/- THE SECOND FORM. 'bulk': how many values and letters a reading holds, each counted each time it is reached (what is shared counts as often as it is met; a slice's spare places count too). A statement '..UptoSaid' is the law's where the arguments, and the package variables that the reading takes, are together of bulk at most 1048576: NARROWER than '..Said'. Prove '..Said' where nothing that the law and all that it calls make is longer than what came in: it says more and counts as full. Else prove '..UptoSaid'. A law counts once. -/
mutual
def uptoBulk {H : Type} : DataW H → Nat
  | .lit (.string bytes) => bytes.length + 1
  | .lit _ => 1
  | .nil => 1
  | .ptr d => uptoBulk d + 1
  | .slice elems spare => uptoBulkAll elems + uptoBulkAll spare + 1
  | .agg parts => uptoBulkAll parts + 1
  | .iface _ d => uptoBulk d + 1
  | .map entries => uptoBulkEntries entries + 1
  | .held _ => 1
def uptoBulkAll {H : Type} : List (DataW H) → Nat
  | [] => 0
  | d :: r => uptoBulk d + uptoBulkAll r
def uptoBulkEntries {H : Type} : List (Lit × DataW H) → Nat
  | [] => 0
  | x :: r => uptoBulkEntry x + uptoBulkEntries r
def uptoBulkEntry {H : Type} : Lit × DataW H → Nat
  | (.string bytes, d) => bytes.length + uptoBulk d + 1
  | (_, d) => uptoBulk d + 1
 end
def uptoSmall : (H : Type) → List (DataW H) → Bool := fun _ ds => decide (uptoBulkAll ds ≤ 1048576)
def OpenSpec.upto (s : _root_.Go.ChangeSpec) : _root_.Go.OpenSpec := { _root_.Go.OpenSpec.ofChange s with cond := some uptoSmall }

/-- 'ndjqlaw08.TextCut', WHERE WHAT IT READS IS OF BULK AT MOST 1048576: true; the input reads as it did. -/
def textCutUptoRow : OpenClaim := { program := "ytdmhagjcmlaiiaa", sum := "8ace53a45ad27b7dcb32afa502f23fdba5b16281667606ccbee4e2bacd3fc09c", func := "ndjq/ndjqlaw08.TextCut", spec := "textCut", inPlace := ["internal/bytealg.abigen_runtime_cmpstring"], unfollowed := true, recurses := true, apart := false, narrowed := true }
def TextCutUptoSaid : Prop := textCutUptoRow.holds Try.pinned (OpenSpec.upto textCutSpec)

/-- 'ndjqlaw08.TextCase', WHERE WHAT IT READS IS OF BULK AT MOST 1048576: true; the input reads as it did. -/
def textCaseUptoRow : OpenClaim := { program := "ytdmhagjcmlaiiaa", sum := "8ace53a45ad27b7dcb32afa502f23fdba5b16281667606ccbee4e2bacd3fc09c", func := "ndjq/ndjqlaw08.TextCase", spec := "textCase", inPlace := ["internal/bytealg.abigen_runtime_cmpstring"], unfollowed := true, recurses := true, apart := false, narrowed := true }
def TextCaseUptoSaid : Prop := textCaseUptoRow.holds Try.pinned (OpenSpec.upto textCaseSpec)

end Rows
end Go.Proofs.Ytdmhagjcmlaiiaa

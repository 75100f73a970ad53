/-
  No cell of these rows narrows 'for every input' (looked for: loops, veiled, ifaces, maps, wideKeys, modest, calm, conditions, laid).
  DERIVED. THE GIVEN ROWS OF THIS SEAT. 7 by the template 'for every input the law returns true; each argument reads behind the call as it read before'; 0 by the template 'total and deterministic' (their statements: YtmoemalkojckaaaTotals.lean).
  GIVEN WITH THE SEED: the statements are not yours to turn. If you find one false, say at which input.
  Laid BY PROGRAM, IN A SANDBOX (cutbox-rows.mjs): the forced cells as the released guide's own fill.sh prints them over the translation c19bb72a35d92e30… (all of the seat's roots in one cut). By AI agents, Wed Nov 11 2026. No macro, syntax, notation, axiom, sorry.
-/
import Derived.Test.YtmoemalkojckaaaChecked
import GoSem.Claim
import GoSem.ClaimJoined
import GoSem.ClaimMapViews
import Derived.JoinedTies
import Derived.KernelRfl
namespace Go.Proofs.Ytmoemalkojckaaa
/- THE CELL 'sum', in the pinned program and in every row, IS THE sha256 OF THE DUMP (.gsa) THAT YtmoemalkojckaaaProg.lean LOADS. Nothing in Lean hashes anything: it is a label: what it is worth is what the hold of that sum in a sandbox is worth. -/
noncomputable def Try.pinned : Pinned := { name := "ytmoemalkojckaaa", sum := "c19bb72a35d92e30dca12242433bcb8f080e40570769abc2bbef6d4b56940b69", checked := Try.checked }
namespace Rows
def none {H : Type} : Left H := { results := [], args := [] }

/-- 'forkledgerlaw14.JudgeDecides': WHATEVER THE INPUT: true; the input reads as it did. -/
def judgeDecidesSpec : ChangeSpec := { name := "judgeDecides", fn := fun _ => fun
  | [d] => { results := [.lit (.bool true)], args := [d] }
  | _ => none }
def judgeDecidesRow : OpenClaim := { program := "ytmoemalkojckaaa", sum := "c19bb72a35d92e30dca12242433bcb8f080e40570769abc2bbef6d4b56940b69", func := "forkledger/forkledgerlaw14.JudgeDecides", spec := "judgeDecides", plainKeys := false, apart := false }
def JudgeDecidesSaid : Prop := judgeDecidesRow.holds Try.pinned (OpenSpec.ofChange judgeDecidesSpec)

/-- ITS FALSE NEIGHBOUR: 'it returns false'. Refute it at one input. -/
def judgeDecidesWrong : ChangeSpec := { name := "judgeDecides", fn := fun _ => fun
  | [d] => { results := [.lit (.bool false)], args := [d] }
  | _ => none }
def JudgeDecidesWrongFalsely : Prop := judgeDecidesRow.holds Try.pinned (OpenSpec.ofChange judgeDecidesWrong)

/-- 'forkledgerlaw14.JudgeSearches': WHATEVER THE INPUT: true; the input reads as it did. -/
def judgeSearchesSpec : ChangeSpec := { name := "judgeSearches", fn := fun _ => fun
  | [d1, d2, d3] => { results := [.lit (.bool true)], args := [d1, d2, d3] }
  | _ => none }
def judgeSearchesRow : OpenClaim := { program := "ytmoemalkojckaaa", sum := "c19bb72a35d92e30dca12242433bcb8f080e40570769abc2bbef6d4b56940b69", func := "forkledger/forkledgerlaw14.JudgeSearches", spec := "judgeSearches", plainKeys := false, apart := false }
def JudgeSearchesSaid : Prop := judgeSearchesRow.holds Try.pinned (OpenSpec.ofChange judgeSearchesSpec)

/-- ITS FALSE NEIGHBOUR: 'it returns false'. Refute it at one input. -/
def judgeSearchesWrong : ChangeSpec := { name := "judgeSearches", fn := fun _ => fun
  | [d1, d2, d3] => { results := [.lit (.bool false)], args := [d1, d2, d3] }
  | _ => none }
def JudgeSearchesWrongFalsely : Prop := judgeSearchesRow.holds Try.pinned (OpenSpec.ofChange judgeSearchesWrong)

/-- 'forkledgerlaw14.JudgeGrows': WHATEVER THE INPUT: true; the input reads as it did. -/
def judgeGrowsSpec : ChangeSpec := { name := "judgeGrows", fn := fun _ => fun
  | [d1, d2, d3, d4] => { results := [.lit (.bool true)], args := [d1, d2, d3, d4] }
  | _ => none }
def judgeGrowsRow : OpenClaim := { program := "ytmoemalkojckaaa", sum := "c19bb72a35d92e30dca12242433bcb8f080e40570769abc2bbef6d4b56940b69", func := "forkledger/forkledgerlaw14.JudgeGrows", spec := "judgeGrows", unfollowed := true, recurses := true, plainKeys := false, apart := false }
def JudgeGrowsSaid : Prop := judgeGrowsRow.holds Try.pinned (OpenSpec.ofChange judgeGrowsSpec)

/-- ITS FALSE NEIGHBOUR: 'it returns false'. Refute it at one input. -/
def judgeGrowsWrong : ChangeSpec := { name := "judgeGrows", fn := fun _ => fun
  | [d1, d2, d3, d4] => { results := [.lit (.bool false)], args := [d1, d2, d3, d4] }
  | _ => none }
def JudgeGrowsWrongFalsely : Prop := judgeGrowsRow.holds Try.pinned (OpenSpec.ofChange judgeGrowsWrong)

/-- 'forkledgerlaw14.JudgeTight': WHATEVER THE INPUT: true; the input reads as it did. -/
def judgeTightSpec : ChangeSpec := { name := "judgeTight", fn := fun _ => fun
  | [d] => { results := [.lit (.bool true)], args := [d] }
  | _ => none }
def judgeTightRow : OpenClaim := { program := "ytmoemalkojckaaa", sum := "c19bb72a35d92e30dca12242433bcb8f080e40570769abc2bbef6d4b56940b69", func := "forkledger/forkledgerlaw14.JudgeTight", spec := "judgeTight", plainKeys := false, apart := false }
def JudgeTightSaid : Prop := judgeTightRow.holds Try.pinned (OpenSpec.ofChange judgeTightSpec)

/-- ITS FALSE NEIGHBOUR: 'it returns false'. Refute it at one input. -/
def judgeTightWrong : ChangeSpec := { name := "judgeTight", fn := fun _ => fun
  | [d] => { results := [.lit (.bool false)], args := [d] }
  | _ => none }
def JudgeTightWrongFalsely : Prop := judgeTightRow.holds Try.pinned (OpenSpec.ofChange judgeTightWrong)

/-- 'forkledgerlaw14.JudgeRounds': WHATEVER THE INPUT: true; the input reads as it did. -/
def judgeRoundsSpec : ChangeSpec := { name := "judgeRounds", fn := fun _ => fun
  | [] => { results := [.lit (.bool true)], args := [] }
  | _ => none }
def judgeRoundsRow : OpenClaim := { program := "ytmoemalkojckaaa", sum := "c19bb72a35d92e30dca12242433bcb8f080e40570769abc2bbef6d4b56940b69", func := "forkledger/forkledgerlaw14.JudgeRounds", spec := "judgeRounds", plainKeys := false, apart := false }
def JudgeRoundsSaid : Prop := judgeRoundsRow.holds Try.pinned (OpenSpec.ofChange judgeRoundsSpec)

/-- ITS FALSE NEIGHBOUR: 'it returns false'. Refute it at one input. -/
def judgeRoundsWrong : ChangeSpec := { name := "judgeRounds", fn := fun _ => fun
  | [] => { results := [.lit (.bool false)], args := [] }
  | _ => none }
def JudgeRoundsWrongFalsely : Prop := judgeRoundsRow.holds Try.pinned (OpenSpec.ofChange judgeRoundsWrong)

/-- 'forkledgerlaw14.JudgeForks': WHATEVER THE INPUT: true; the input reads as it did. -/
def judgeForksSpec : ChangeSpec := { name := "judgeForks", fn := fun _ => fun
  | [d1, d2, d3] => { results := [.lit (.bool true)], args := [d1, d2, d3] }
  | _ => none }
def judgeForksRow : OpenClaim := { program := "ytmoemalkojckaaa", sum := "c19bb72a35d92e30dca12242433bcb8f080e40570769abc2bbef6d4b56940b69", func := "forkledger/forkledgerlaw14.JudgeForks", spec := "judgeForks", unfollowed := true, recurses := true, plainKeys := false, apart := false }
def JudgeForksSaid : Prop := judgeForksRow.holds Try.pinned (OpenSpec.ofChange judgeForksSpec)

/-- ITS FALSE NEIGHBOUR: 'it returns false'. Refute it at one input. -/
def judgeForksWrong : ChangeSpec := { name := "judgeForks", fn := fun _ => fun
  | [d1, d2, d3] => { results := [.lit (.bool false)], args := [d1, d2, d3] }
  | _ => none }
def JudgeForksWrongFalsely : Prop := judgeForksRow.holds Try.pinned (OpenSpec.ofChange judgeForksWrong)

/-- 'forkledgerlaw14.JudgeAgrees': WHATEVER THE INPUT: true; the input reads as it did. -/
def judgeAgreesSpec : ChangeSpec := { name := "judgeAgrees", fn := fun _ => fun
  | [d1, d2, d3] => { results := [.lit (.bool true)], args := [d1, d2, d3] }
  | _ => none }
def judgeAgreesRow : OpenClaim := { program := "ytmoemalkojckaaa", sum := "c19bb72a35d92e30dca12242433bcb8f080e40570769abc2bbef6d4b56940b69", func := "forkledger/forkledgerlaw14.JudgeAgrees", spec := "judgeAgrees", inPlace := ["internal/reflectlite.ValueOf", "internal/reflectlite.Swapper", "(internal/reflectlite.Value).Len"], unfollowed := true, recurses := true, plainKeys := false, apart := false }
def JudgeAgreesSaid : Prop := judgeAgreesRow.holds Try.pinned (OpenSpec.ofChange judgeAgreesSpec)

/-- ITS FALSE NEIGHBOUR: 'it returns false'. Refute it at one input. -/
def judgeAgreesWrong : ChangeSpec := { name := "judgeAgrees", fn := fun _ => fun
  | [d1, d2, d3] => { results := [.lit (.bool false)], args := [d1, d2, d3] }
  | _ => none }
def JudgeAgreesWrongFalsely : Prop := judgeAgreesRow.holds Try.pinned (OpenSpec.ofChange judgeAgreesWrong)

/- THE SECOND FORM. 'bulk': how many values and letters a reading holds, each counted each time it is reached (what is shared counts as often as it is met; a slice's spare places count too). A statement '..UptoSaid' is the law's where the arguments, and the package variables that the reading takes, are together of bulk at most 1048576: NARROWER than '..Said'. Prove '..Said' where nothing that the law and all that it calls make is longer than what came in: it says more and counts as full. Else prove '..UptoSaid'. A law counts once. -/
mutual
def uptoBulk {H : Type} : DataW H → Nat
  | .lit (.string bytes) => bytes.length + 1
  | .lit _ => 1
  | .nil => 1
  | .ptr d => uptoBulk d + 1
  | .slice elems spare => uptoBulkAll elems + uptoBulkAll spare + 1
  | .agg parts => uptoBulkAll parts + 1
  | .iface _ d => uptoBulk d + 1
  | .map entries => uptoBulkEntries entries + 1
  | .held _ => 1
def uptoBulkAll {H : Type} : List (DataW H) → Nat
  | [] => 0
  | d :: r => uptoBulk d + uptoBulkAll r
def uptoBulkEntries {H : Type} : List (Lit × DataW H) → Nat
  | [] => 0
  | x :: r => uptoBulkEntry x + uptoBulkEntries r
def uptoBulkEntry {H : Type} : Lit × DataW H → Nat
  | (.string bytes, d) => bytes.length + uptoBulk d + 1
  | (_, d) => uptoBulk d + 1
 end
def uptoSmall : (H : Type) → List (DataW H) → Bool := fun _ ds => decide (uptoBulkAll ds ≤ 1048576)
def OpenSpec.upto (s : _root_.Go.ChangeSpec) : _root_.Go.OpenSpec := { _root_.Go.OpenSpec.ofChange s with cond := some uptoSmall }

/-- 'forkledgerlaw14.JudgeDecides', WHERE WHAT IT READS IS OF BULK AT MOST 1048576: true; the input reads as it did. -/
def judgeDecidesUptoRow : OpenClaim := { program := "ytmoemalkojckaaa", sum := "c19bb72a35d92e30dca12242433bcb8f080e40570769abc2bbef6d4b56940b69", func := "forkledger/forkledgerlaw14.JudgeDecides", spec := "judgeDecides", plainKeys := false, apart := false, narrowed := true }
def JudgeDecidesUptoSaid : Prop := judgeDecidesUptoRow.holds Try.pinned (OpenSpec.upto judgeDecidesSpec)

/-- 'forkledgerlaw14.JudgeSearches', WHERE WHAT IT READS IS OF BULK AT MOST 1048576: true; the input reads as it did. -/
def judgeSearchesUptoRow : OpenClaim := { program := "ytmoemalkojckaaa", sum := "c19bb72a35d92e30dca12242433bcb8f080e40570769abc2bbef6d4b56940b69", func := "forkledger/forkledgerlaw14.JudgeSearches", spec := "judgeSearches", plainKeys := false, apart := false, narrowed := true }
def JudgeSearchesUptoSaid : Prop := judgeSearchesUptoRow.holds Try.pinned (OpenSpec.upto judgeSearchesSpec)

/-- 'forkledgerlaw14.JudgeGrows', WHERE WHAT IT READS IS OF BULK AT MOST 1048576: true; the input reads as it did. -/
def judgeGrowsUptoRow : OpenClaim := { program := "ytmoemalkojckaaa", sum := "c19bb72a35d92e30dca12242433bcb8f080e40570769abc2bbef6d4b56940b69", func := "forkledger/forkledgerlaw14.JudgeGrows", spec := "judgeGrows", unfollowed := true, recurses := true, plainKeys := false, apart := false, narrowed := true }
def JudgeGrowsUptoSaid : Prop := judgeGrowsUptoRow.holds Try.pinned (OpenSpec.upto judgeGrowsSpec)

/-- 'forkledgerlaw14.JudgeTight', WHERE WHAT IT READS IS OF BULK AT MOST 1048576: true; the input reads as it did. -/
def judgeTightUptoRow : OpenClaim := { program := "ytmoemalkojckaaa", sum := "c19bb72a35d92e30dca12242433bcb8f080e40570769abc2bbef6d4b56940b69", func := "forkledger/forkledgerlaw14.JudgeTight", spec := "judgeTight", plainKeys := false, apart := false, narrowed := true }
def JudgeTightUptoSaid : Prop := judgeTightUptoRow.holds Try.pinned (OpenSpec.upto judgeTightSpec)

/-- 'forkledgerlaw14.JudgeRounds', WHERE WHAT IT READS IS OF BULK AT MOST 1048576: true; the input reads as it did. -/
def judgeRoundsUptoRow : OpenClaim := { program := "ytmoemalkojckaaa", sum := "c19bb72a35d92e30dca12242433bcb8f080e40570769abc2bbef6d4b56940b69", func := "forkledger/forkledgerlaw14.JudgeRounds", spec := "judgeRounds", plainKeys := false, apart := false, narrowed := true }
def JudgeRoundsUptoSaid : Prop := judgeRoundsUptoRow.holds Try.pinned (OpenSpec.upto judgeRoundsSpec)

/-- 'forkledgerlaw14.JudgeForks', WHERE WHAT IT READS IS OF BULK AT MOST 1048576: true; the input reads as it did. -/
def judgeForksUptoRow : OpenClaim := { program := "ytmoemalkojckaaa", sum := "c19bb72a35d92e30dca12242433bcb8f080e40570769abc2bbef6d4b56940b69", func := "forkledger/forkledgerlaw14.JudgeForks", spec := "judgeForks", unfollowed := true, recurses := true, plainKeys := false, apart := false, narrowed := true }
def JudgeForksUptoSaid : Prop := judgeForksUptoRow.holds Try.pinned (OpenSpec.upto judgeForksSpec)

/-- 'forkledgerlaw14.JudgeAgrees', WHERE WHAT IT READS IS OF BULK AT MOST 1048576: true; the input reads as it did. -/
def judgeAgreesUptoRow : OpenClaim := { program := "ytmoemalkojckaaa", sum := "c19bb72a35d92e30dca12242433bcb8f080e40570769abc2bbef6d4b56940b69", func := "forkledger/forkledgerlaw14.JudgeAgrees", spec := "judgeAgrees", inPlace := ["internal/reflectlite.ValueOf", "internal/reflectlite.Swapper", "(internal/reflectlite.Value).Len"], unfollowed := true, recurses := true, plainKeys := false, apart := false, narrowed := true }
def JudgeAgreesUptoSaid : Prop := judgeAgreesUptoRow.holds Try.pinned (OpenSpec.upto judgeAgreesSpec)

end Rows
end Go.Proofs.Ytmoemalkojckaaa

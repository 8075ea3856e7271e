/-
  No cell of these rows narrows 'for every input' (looked for: loops, veiled, ifaces, maps, wideKeys, modest, calm, conditions, laid).
  DERIVED. THE GIVEN ROWS OF THIS SEAT. 11 by the template 'for every input the law returns true; each argument reads behind the call as it read before'; 0 by the template 'total and deterministic' (their statements: YtcaidbmopehjhaaTotals.lean).
  GIVEN WITH THE SEED: the statements are not yours to turn. If you find one false, say at which input.
  Laid BY PROGRAM, IN A SANDBOX (cutbox-rows.mjs): the forced cells as the released guide's own fill.sh prints them over the translation 4f7f8bd09a54188b… (all of the seat's roots in one cut). By AI agents, Wed Nov 11 2026. No macro, syntax, notation, axiom, sorry.
-/
import Derived.Test.YtcaidbmopehjhaaChecked
import GoSem.Claim
import GoSem.ClaimJoined
import GoSem.ClaimMapViews
import Derived.JoinedTies
import Derived.KernelRfl
namespace Go.Proofs.Ytcaidbmopehjhaa
/- THE CELL 'sum', in the pinned program and in every row, IS THE sha256 OF THE DUMP (.gsa) THAT YtcaidbmopehjhaaProg.lean LOADS. Nothing in Lean hashes anything: it is a label: what it is worth is what the hold of that sum in a sandbox is worth. -/
noncomputable def Try.pinned : Pinned := { name := "ytcaidbmopehjhaa", sum := "4f7f8bd09a54188b7d174631c3750e20cf73bd3e09dcfb1ef2b61fe441037004", checked := Try.checked }
namespace Rows
def none {H : Type} : Left H := { results := [], args := [] }

/-- 'tedderlaw18.ChunkCuts': WHATEVER THE INPUT: true; the input reads as it did. -/
def chunkCutsSpec : ChangeSpec := { name := "chunkCuts", fn := fun _ => fun
  | [d1, d2] => { results := [.lit (.bool true)], args := [d1, d2] }
  | _ => none }
def chunkCutsRow : OpenClaim := { program := "ytcaidbmopehjhaa", sum := "4f7f8bd09a54188b7d174631c3750e20cf73bd3e09dcfb1ef2b61fe441037004", func := "tedder/tedderlaw18.ChunkCuts", spec := "chunkCuts", apart := false }
def ChunkCutsSaid : Prop := chunkCutsRow.holds Try.pinned (OpenSpec.ofChange chunkCutsSpec)

/-- ITS FALSE NEIGHBOUR: 'it returns false'. Refute it at one input. -/
def chunkCutsWrong : ChangeSpec := { name := "chunkCuts", fn := fun _ => fun
  | [d1, d2] => { results := [.lit (.bool false)], args := [d1, d2] }
  | _ => none }
def ChunkCutsWrongFalsely : Prop := chunkCutsRow.holds Try.pinned (OpenSpec.ofChange chunkCutsWrong)

/-- 'tedderlaw18.ChunkWhole': WHATEVER THE INPUT: true; the input reads as it did. -/
def chunkWholeSpec : ChangeSpec := { name := "chunkWhole", fn := fun _ => fun
  | [d1, d2] => { results := [.lit (.bool true)], args := [d1, d2] }
  | _ => none }
def chunkWholeRow : OpenClaim := { program := "ytcaidbmopehjhaa", sum := "4f7f8bd09a54188b7d174631c3750e20cf73bd3e09dcfb1ef2b61fe441037004", func := "tedder/tedderlaw18.ChunkWhole", spec := "chunkWhole", apart := false }
def ChunkWholeSaid : Prop := chunkWholeRow.holds Try.pinned (OpenSpec.ofChange chunkWholeSpec)

/-- ITS FALSE NEIGHBOUR: 'it returns false'. Refute it at one input. -/
def chunkWholeWrong : ChangeSpec := { name := "chunkWhole", fn := fun _ => fun
  | [d1, d2] => { results := [.lit (.bool false)], args := [d1, d2] }
  | _ => none }
def ChunkWholeWrongFalsely : Prop := chunkWholeRow.holds Try.pinned (OpenSpec.ofChange chunkWholeWrong)

/-- 'tedderlaw01.OctetCuts': WHATEVER THE INPUT: true; the input reads as it did. -/
def octetCutsSpec : ChangeSpec := { name := "octetCuts", fn := fun _ => fun
  | [d1, d2, d3] => { results := [.lit (.bool true)], args := [d1, d2, d3] }
  | _ => none }
def octetCutsRow : OpenClaim := { program := "ytcaidbmopehjhaa", sum := "4f7f8bd09a54188b7d174631c3750e20cf73bd3e09dcfb1ef2b61fe441037004", func := "tedder/tedderlaw01.OctetCuts", spec := "octetCuts", inPlace := ["internal/abi.NoEscape"], unfollowed := true, recurses := true, apart := false }
def OctetCutsSaid : Prop := octetCutsRow.holds Try.pinned (OpenSpec.ofChange octetCutsSpec)

/-- ITS FALSE NEIGHBOUR: 'it returns false'. Refute it at one input. -/
def octetCutsWrong : ChangeSpec := { name := "octetCuts", fn := fun _ => fun
  | [d1, d2, d3] => { results := [.lit (.bool false)], args := [d1, d2, d3] }
  | _ => none }
def OctetCutsWrongFalsely : Prop := octetCutsRow.holds Try.pinned (OpenSpec.ofChange octetCutsWrong)

/-- 'tedderlaw01.OctetParts': WHATEVER THE INPUT: true; the input reads as it did. -/
def octetPartsSpec : ChangeSpec := { name := "octetParts", fn := fun _ => fun
  | [d1, d2] => { results := [.lit (.bool true)], args := [d1, d2] }
  | _ => none }
def octetPartsRow : OpenClaim := { program := "ytcaidbmopehjhaa", sum := "4f7f8bd09a54188b7d174631c3750e20cf73bd3e09dcfb1ef2b61fe441037004", func := "tedder/tedderlaw01.OctetParts", spec := "octetParts", inPlace := ["internal/abi.NoEscape"], unfollowed := true, recurses := true, apart := false }
def OctetPartsSaid : Prop := octetPartsRow.holds Try.pinned (OpenSpec.ofChange octetPartsSpec)

/-- ITS FALSE NEIGHBOUR: 'it returns false'. Refute it at one input. -/
def octetPartsWrong : ChangeSpec := { name := "octetParts", fn := fun _ => fun
  | [d1, d2] => { results := [.lit (.bool false)], args := [d1, d2] }
  | _ => none }
def OctetPartsWrongFalsely : Prop := octetPartsRow.holds Try.pinned (OpenSpec.ofChange octetPartsWrong)

/-- 'tedderlaw01.OctetShows': WHATEVER THE INPUT: true; the input reads as it did. -/
def octetShowsSpec : ChangeSpec := { name := "octetShows", fn := fun _ => fun
  | [d] => { results := [.lit (.bool true)], args := [d] }
  | _ => none }
def octetShowsRow : OpenClaim := { program := "ytcaidbmopehjhaa", sum := "4f7f8bd09a54188b7d174631c3750e20cf73bd3e09dcfb1ef2b61fe441037004", func := "tedder/tedderlaw01.OctetShows", spec := "octetShows", inPlace := ["internal/abi.NoEscape"], unfollowed := true, recurses := true, apart := false }
def OctetShowsSaid : Prop := octetShowsRow.holds Try.pinned (OpenSpec.ofChange octetShowsSpec)

/-- ITS FALSE NEIGHBOUR: 'it returns false'. Refute it at one input. -/
def octetShowsWrong : ChangeSpec := { name := "octetShows", fn := fun _ => fun
  | [d] => { results := [.lit (.bool false)], args := [d] }
  | _ => none }
def OctetShowsWrongFalsely : Prop := octetShowsRow.holds Try.pinned (OpenSpec.ofChange octetShowsWrong)

/-- 'tedderlaw21.SchedPlans': WHATEVER THE INPUT: true; the input reads as it did. -/
def schedPlansSpec : ChangeSpec := { name := "schedPlans", fn := fun _ => fun
  | [d1, d2, d3] => { results := [.lit (.bool true)], args := [d1, d2, d3] }
  | _ => none }
def schedPlansRow : OpenClaim := { program := "ytcaidbmopehjhaa", sum := "4f7f8bd09a54188b7d174631c3750e20cf73bd3e09dcfb1ef2b61fe441037004", func := "tedder/tedderlaw21.SchedPlans", spec := "schedPlans", apart := false }
def SchedPlansSaid : Prop := schedPlansRow.holds Try.pinned (OpenSpec.ofChange schedPlansSpec)

/-- ITS FALSE NEIGHBOUR: 'it returns false'. Refute it at one input. -/
def schedPlansWrong : ChangeSpec := { name := "schedPlans", fn := fun _ => fun
  | [d1, d2, d3] => { results := [.lit (.bool false)], args := [d1, d2, d3] }
  | _ => none }
def SchedPlansWrongFalsely : Prop := schedPlansRow.holds Try.pinned (OpenSpec.ofChange schedPlansWrong)

/-- 'tedderlaw21.SchedWhole': WHATEVER THE INPUT: true; the input reads as it did. -/
def schedWholeSpec : ChangeSpec := { name := "schedWhole", fn := fun _ => fun
  | [d1, d2, d3] => { results := [.lit (.bool true)], args := [d1, d2, d3] }
  | _ => none }
def schedWholeRow : OpenClaim := { program := "ytcaidbmopehjhaa", sum := "4f7f8bd09a54188b7d174631c3750e20cf73bd3e09dcfb1ef2b61fe441037004", func := "tedder/tedderlaw21.SchedWhole", spec := "schedWhole", apart := false }
def SchedWholeSaid : Prop := schedWholeRow.holds Try.pinned (OpenSpec.ofChange schedWholeSpec)

/-- ITS FALSE NEIGHBOUR: 'it returns false'. Refute it at one input. -/
def schedWholeWrong : ChangeSpec := { name := "schedWhole", fn := fun _ => fun
  | [d1, d2, d3] => { results := [.lit (.bool false)], args := [d1, d2, d3] }
  | _ => none }
def SchedWholeWrongFalsely : Prop := schedWholeRow.holds Try.pinned (OpenSpec.ofChange schedWholeWrong)

/-- 'tedderlaw21.SchedFirst': WHATEVER THE INPUT: true; the input reads as it did. -/
def schedFirstSpec : ChangeSpec := { name := "schedFirst", fn := fun _ => fun
  | [d1, d2, d3] => { results := [.lit (.bool true)], args := [d1, d2, d3] }
  | _ => none }
def schedFirstRow : OpenClaim := { program := "ytcaidbmopehjhaa", sum := "4f7f8bd09a54188b7d174631c3750e20cf73bd3e09dcfb1ef2b61fe441037004", func := "tedder/tedderlaw21.SchedFirst", spec := "schedFirst", apart := false }
def SchedFirstSaid : Prop := schedFirstRow.holds Try.pinned (OpenSpec.ofChange schedFirstSpec)

/-- ITS FALSE NEIGHBOUR: 'it returns false'. Refute it at one input. -/
def schedFirstWrong : ChangeSpec := { name := "schedFirst", fn := fun _ => fun
  | [d1, d2, d3] => { results := [.lit (.bool false)], args := [d1, d2, d3] }
  | _ => none }
def SchedFirstWrongFalsely : Prop := schedFirstRow.holds Try.pinned (OpenSpec.ofChange schedFirstWrong)

/-- 'tedderlaw01.OctetCases': WHATEVER THE INPUT: true; the input reads as it did. -/
def octetCasesSpec : ChangeSpec := { name := "octetCases", fn := fun _ => fun
  | [d] => { results := [.lit (.bool true)], args := [d] }
  | _ => none }
def octetCasesRow : OpenClaim := { program := "ytcaidbmopehjhaa", sum := "4f7f8bd09a54188b7d174631c3750e20cf73bd3e09dcfb1ef2b61fe441037004", func := "tedder/tedderlaw01.OctetCases", spec := "octetCases", inPlace := ["internal/abi.NoEscape"], unfollowed := true, recurses := true, apart := false }
def OctetCasesSaid : Prop := octetCasesRow.holds Try.pinned (OpenSpec.ofChange octetCasesSpec)

/-- ITS FALSE NEIGHBOUR: 'it returns false'. Refute it at one input. -/
def octetCasesWrong : ChangeSpec := { name := "octetCases", fn := fun _ => fun
  | [d] => { results := [.lit (.bool false)], args := [d] }
  | _ => none }
def OctetCasesWrongFalsely : Prop := octetCasesRow.holds Try.pinned (OpenSpec.ofChange octetCasesWrong)

/-- 'tedderlaw01.OctetIndex': WHATEVER THE INPUT: true; the input reads as it did. -/
def octetIndexSpec : ChangeSpec := { name := "octetIndex", fn := fun _ => fun
  | [d1, d2] => { results := [.lit (.bool true)], args := [d1, d2] }
  | _ => none }
def octetIndexRow : OpenClaim := { program := "ytcaidbmopehjhaa", sum := "4f7f8bd09a54188b7d174631c3750e20cf73bd3e09dcfb1ef2b61fe441037004", func := "tedder/tedderlaw01.OctetIndex", spec := "octetIndex", inPlace := ["internal/abi.NoEscape", "internal/bytealg.IndexByteString", "internal/bytealg.IndexString"], unfollowed := true, recurses := true, named := ["internal/bytealg.MaxLen"], apart := false }
def OctetIndexSaid : Prop := octetIndexRow.holds Try.pinned (OpenSpec.ofChange octetIndexSpec)

/-- ITS FALSE NEIGHBOUR: 'it returns false'. Refute it at one input. -/
def octetIndexWrong : ChangeSpec := { name := "octetIndex", fn := fun _ => fun
  | [d1, d2] => { results := [.lit (.bool false)], args := [d1, d2] }
  | _ => none }
def OctetIndexWrongFalsely : Prop := octetIndexRow.holds Try.pinned (OpenSpec.ofChange octetIndexWrong)

/-- 'tedderlaw01.OctetUnlike': WHATEVER THE INPUT: true; the input reads as it did. -/
def octetUnlikeSpec : ChangeSpec := { name := "octetUnlike", fn := fun _ => fun
  | [d1, d2] => { results := [.lit (.bool true)], args := [d1, d2] }
  | _ => none }
def octetUnlikeRow : OpenClaim := { program := "ytcaidbmopehjhaa", sum := "4f7f8bd09a54188b7d174631c3750e20cf73bd3e09dcfb1ef2b61fe441037004", func := "tedder/tedderlaw01.OctetUnlike", spec := "octetUnlike", inPlace := ["internal/abi.NoEscape", "internal/bytealg.IndexByteString", "internal/bytealg.IndexString"], unfollowed := true, recurses := true, named := ["internal/bytealg.MaxLen"], apart := false }
def OctetUnlikeSaid : Prop := octetUnlikeRow.holds Try.pinned (OpenSpec.ofChange octetUnlikeSpec)

/-- ITS FALSE NEIGHBOUR: 'it returns false'. Refute it at one input. -/
def octetUnlikeWrong : ChangeSpec := { name := "octetUnlike", fn := fun _ => fun
  | [d1, d2] => { results := [.lit (.bool false)], args := [d1, d2] }
  | _ => none }
def OctetUnlikeWrongFalsely : Prop := octetUnlikeRow.holds Try.pinned (OpenSpec.ofChange octetUnlikeWrong)

/- THE SECOND FORM. 'bulk': how many values and letters a reading holds, each counted each time it is reached (what is shared counts as often as it is met; a slice's spare places count too). A statement '..UptoSaid' is the law's where the arguments, and the package variables that the reading takes, are together of bulk at most 1048576: NARROWER than '..Said'. Prove '..Said' where nothing that the law and all that it calls make is longer than what came in: it says more and counts as full. Else prove '..UptoSaid'. A law counts once. -/
mutual
def uptoBulk {H : Type} : DataW H → Nat
  | .lit (.string bytes) => bytes.length + 1
  | .lit _ => 1
  | .nil => 1
  | .ptr d => uptoBulk d + 1
  | .slice elems spare => uptoBulkAll elems + uptoBulkAll spare + 1
  | .agg parts => uptoBulkAll parts + 1
  | .iface _ d => uptoBulk d + 1
  | .map entries => uptoBulkEntries entries + 1
  | .held _ => 1
def uptoBulkAll {H : Type} : List (DataW H) → Nat
  | [] => 0
  | d :: r => uptoBulk d + uptoBulkAll r
def uptoBulkEntries {H : Type} : List (Lit × DataW H) → Nat
  | [] => 0
  | x :: r => uptoBulkEntry x + uptoBulkEntries r
def uptoBulkEntry {H : Type} : Lit × DataW H → Nat
  | (.string bytes, d) => bytes.length + uptoBulk d + 1
  | (_, d) => uptoBulk d + 1
 end
def uptoSmall : (H : Type) → List (DataW H) → Bool := fun _ ds => decide (uptoBulkAll ds ≤ 1048576)
def OpenSpec.upto (s : _root_.Go.ChangeSpec) : _root_.Go.OpenSpec := { _root_.Go.OpenSpec.ofChange s with cond := some uptoSmall }

/-- 'tedderlaw18.ChunkCuts', WHERE WHAT IT READS IS OF BULK AT MOST 1048576: true; the input reads as it did. -/
def chunkCutsUptoRow : OpenClaim := { program := "ytcaidbmopehjhaa", sum := "4f7f8bd09a54188b7d174631c3750e20cf73bd3e09dcfb1ef2b61fe441037004", func := "tedder/tedderlaw18.ChunkCuts", spec := "chunkCuts", apart := false, narrowed := true }
def ChunkCutsUptoSaid : Prop := chunkCutsUptoRow.holds Try.pinned (OpenSpec.upto chunkCutsSpec)

/-- 'tedderlaw18.ChunkWhole', WHERE WHAT IT READS IS OF BULK AT MOST 1048576: true; the input reads as it did. -/
def chunkWholeUptoRow : OpenClaim := { program := "ytcaidbmopehjhaa", sum := "4f7f8bd09a54188b7d174631c3750e20cf73bd3e09dcfb1ef2b61fe441037004", func := "tedder/tedderlaw18.ChunkWhole", spec := "chunkWhole", apart := false, narrowed := true }
def ChunkWholeUptoSaid : Prop := chunkWholeUptoRow.holds Try.pinned (OpenSpec.upto chunkWholeSpec)

/-- 'tedderlaw01.OctetCuts', WHERE WHAT IT READS IS OF BULK AT MOST 1048576: true; the input reads as it did. -/
def octetCutsUptoRow : OpenClaim := { program := "ytcaidbmopehjhaa", sum := "4f7f8bd09a54188b7d174631c3750e20cf73bd3e09dcfb1ef2b61fe441037004", func := "tedder/tedderlaw01.OctetCuts", spec := "octetCuts", inPlace := ["internal/abi.NoEscape"], unfollowed := true, recurses := true, apart := false, narrowed := true }
def OctetCutsUptoSaid : Prop := octetCutsUptoRow.holds Try.pinned (OpenSpec.upto octetCutsSpec)

/-- 'tedderlaw01.OctetParts', WHERE WHAT IT READS IS OF BULK AT MOST 1048576: true; the input reads as it did. -/
def octetPartsUptoRow : OpenClaim := { program := "ytcaidbmopehjhaa", sum := "4f7f8bd09a54188b7d174631c3750e20cf73bd3e09dcfb1ef2b61fe441037004", func := "tedder/tedderlaw01.OctetParts", spec := "octetParts", inPlace := ["internal/abi.NoEscape"], unfollowed := true, recurses := true, apart := false, narrowed := true }
def OctetPartsUptoSaid : Prop := octetPartsUptoRow.holds Try.pinned (OpenSpec.upto octetPartsSpec)

/-- 'tedderlaw01.OctetShows', WHERE WHAT IT READS IS OF BULK AT MOST 1048576: true; the input reads as it did. -/
def octetShowsUptoRow : OpenClaim := { program := "ytcaidbmopehjhaa", sum := "4f7f8bd09a54188b7d174631c3750e20cf73bd3e09dcfb1ef2b61fe441037004", func := "tedder/tedderlaw01.OctetShows", spec := "octetShows", inPlace := ["internal/abi.NoEscape"], unfollowed := true, recurses := true, apart := false, narrowed := true }
def OctetShowsUptoSaid : Prop := octetShowsUptoRow.holds Try.pinned (OpenSpec.upto octetShowsSpec)

/-- 'tedderlaw21.SchedPlans', WHERE WHAT IT READS IS OF BULK AT MOST 1048576: true; the input reads as it did. -/
def schedPlansUptoRow : OpenClaim := { program := "ytcaidbmopehjhaa", sum := "4f7f8bd09a54188b7d174631c3750e20cf73bd3e09dcfb1ef2b61fe441037004", func := "tedder/tedderlaw21.SchedPlans", spec := "schedPlans", apart := false, narrowed := true }
def SchedPlansUptoSaid : Prop := schedPlansUptoRow.holds Try.pinned (OpenSpec.upto schedPlansSpec)

/-- 'tedderlaw21.SchedWhole', WHERE WHAT IT READS IS OF BULK AT MOST 1048576: true; the input reads as it did. -/
def schedWholeUptoRow : OpenClaim := { program := "ytcaidbmopehjhaa", sum := "4f7f8bd09a54188b7d174631c3750e20cf73bd3e09dcfb1ef2b61fe441037004", func := "tedder/tedderlaw21.SchedWhole", spec := "schedWhole", apart := false, narrowed := true }
def SchedWholeUptoSaid : Prop := schedWholeUptoRow.holds Try.pinned (OpenSpec.upto schedWholeSpec)

/-- 'tedderlaw21.SchedFirst', WHERE WHAT IT READS IS OF BULK AT MOST 1048576: true; the input reads as it did. -/
def schedFirstUptoRow : OpenClaim := { program := "ytcaidbmopehjhaa", sum := "4f7f8bd09a54188b7d174631c3750e20cf73bd3e09dcfb1ef2b61fe441037004", func := "tedder/tedderlaw21.SchedFirst", spec := "schedFirst", apart := false, narrowed := true }
def SchedFirstUptoSaid : Prop := schedFirstUptoRow.holds Try.pinned (OpenSpec.upto schedFirstSpec)

/-- 'tedderlaw01.OctetCases', WHERE WHAT IT READS IS OF BULK AT MOST 1048576: true; the input reads as it did. -/
def octetCasesUptoRow : OpenClaim := { program := "ytcaidbmopehjhaa", sum := "4f7f8bd09a54188b7d174631c3750e20cf73bd3e09dcfb1ef2b61fe441037004", func := "tedder/tedderlaw01.OctetCases", spec := "octetCases", inPlace := ["internal/abi.NoEscape"], unfollowed := true, recurses := true, apart := false, narrowed := true }
def OctetCasesUptoSaid : Prop := octetCasesUptoRow.holds Try.pinned (OpenSpec.upto octetCasesSpec)

/-- 'tedderlaw01.OctetIndex', WHERE WHAT IT READS IS OF BULK AT MOST 1048576: true; the input reads as it did. -/
def octetIndexUptoRow : OpenClaim := { program := "ytcaidbmopehjhaa", sum := "4f7f8bd09a54188b7d174631c3750e20cf73bd3e09dcfb1ef2b61fe441037004", func := "tedder/tedderlaw01.OctetIndex", spec := "octetIndex", inPlace := ["internal/abi.NoEscape", "internal/bytealg.IndexByteString", "internal/bytealg.IndexString"], unfollowed := true, recurses := true, named := ["internal/bytealg.MaxLen"], apart := false, narrowed := true }
def OctetIndexUptoSaid : Prop := octetIndexUptoRow.holds Try.pinned (OpenSpec.upto octetIndexSpec)

/-- 'tedderlaw01.OctetUnlike', WHERE WHAT IT READS IS OF BULK AT MOST 1048576: true; the input reads as it did. -/
def octetUnlikeUptoRow : OpenClaim := { program := "ytcaidbmopehjhaa", sum := "4f7f8bd09a54188b7d174631c3750e20cf73bd3e09dcfb1ef2b61fe441037004", func := "tedder/tedderlaw01.OctetUnlike", spec := "octetUnlike", inPlace := ["internal/abi.NoEscape", "internal/bytealg.IndexByteString", "internal/bytealg.IndexString"], unfollowed := true, recurses := true, named := ["internal/bytealg.MaxLen"], apart := false, narrowed := true }
def OctetUnlikeUptoSaid : Prop := octetUnlikeUptoRow.holds Try.pinned (OpenSpec.upto octetUnlikeSpec)

end Rows
end Go.Proofs.Ytcaidbmopehjhaa

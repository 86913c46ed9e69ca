/-
  No cell of these rows narrows 'for every input' (looked for: loops, veiled, ifaces, maps, wideKeys, modest, calm, conditions, laid).
  DERIVED. THE GIVEN ROWS OF THIS SEAT. 13 by the template 'for every input the law returns true; each argument reads behind the call as it read before'; 0 by the template 'total and deterministic' (their statements: YtbcnfegmmhioeaaTotals.lean).
  GIVEN WITH THE SEED: the statements are not yours to turn. If you find one false, say at which input.
  Laid BY PROGRAM, IN A SANDBOX (cutbox-rows.mjs): the forced cells as the released guide's own fill.sh prints them over the translation 006bf9485e4b1ea2… (all of the seat's roots in one cut). By AI agents, Wed Nov 11 2026. No macro, syntax, notation, axiom, sorry.
-/
import Derived.Test.YtbcnfegmmhioeaaChecked
import GoSem.Claim
import GoSem.ClaimJoined
import GoSem.ClaimMapViews
import Derived.JoinedTies
import Derived.KernelRfl
namespace Go.Proofs.Ytbcnfegmmhioeaa
/- THE CELL 'sum', in the pinned program and in every row, IS THE sha256 OF THE DUMP (.gsa) THAT YtbcnfegmmhioeaaProg.lean LOADS. Nothing in Lean hashes anything: it is a label: what it is worth is what the hold of that sum in a sandbox is worth. -/
noncomputable def Try.pinned : Pinned := { name := "ytbcnfegmmhioeaa", sum := "006bf9485e4b1ea2be69194f1911df333d18008667cbb41ea9f72171a086ebd1", checked := Try.checked }
namespace Rows
def none {H : Type} : Left H := { results := [], args := [] }

/-- 'crossroadslaw13.TreeDirs': WHATEVER THE INPUT: true; the input reads as it did. -/
def treeDirsSpec : ChangeSpec := { name := "treeDirs", fn := fun _ => fun
  | [d] => { results := [.lit (.bool true)], args := [d] }
  | _ => none }
def treeDirsRow : OpenClaim := { program := "ytbcnfegmmhioeaa", sum := "006bf9485e4b1ea2be69194f1911df333d18008667cbb41ea9f72171a086ebd1", func := "crossroads/crossroadslaw13.TreeDirs", spec := "treeDirs", inPlace := ["internal/bytealg.IndexByteString", "internal/bytealg.IndexString"], named := ["internal/bytealg.MaxLen"], plainKeys := false, apart := false }
def TreeDirsSaid : Prop := treeDirsRow.holds Try.pinned (OpenSpec.ofChange treeDirsSpec)

/-- ITS FALSE NEIGHBOUR: 'it returns false'. Refute it at one input. -/
def treeDirsWrong : ChangeSpec := { name := "treeDirs", fn := fun _ => fun
  | [d] => { results := [.lit (.bool false)], args := [d] }
  | _ => none }
def TreeDirsWrongFalsely : Prop := treeDirsRow.holds Try.pinned (OpenSpec.ofChange treeDirsWrong)

/-- 'crossroadslaw11.CheckRuns': WHATEVER THE INPUT: true; the input reads as it did. -/
def checkRunsSpec : ChangeSpec := { name := "checkRuns", fn := fun _ => fun
  | [d] => { results := [.lit (.bool true)], args := [d] }
  | _ => none }
def checkRunsRow : OpenClaim := { program := "ytbcnfegmmhioeaa", sum := "006bf9485e4b1ea2be69194f1911df333d18008667cbb41ea9f72171a086ebd1", func := "crossroads/crossroadslaw11.CheckRuns", spec := "checkRuns", inPlace := ["internal/bytealg.IndexByteString", "internal/bytealg.IndexString"], named := ["internal/bytealg.MaxLen"], plainKeys := false, apart := false }
def CheckRunsSaid : Prop := checkRunsRow.holds Try.pinned (OpenSpec.ofChange checkRunsSpec)

/-- ITS FALSE NEIGHBOUR: 'it returns false'. Refute it at one input. -/
def checkRunsWrong : ChangeSpec := { name := "checkRuns", fn := fun _ => fun
  | [d] => { results := [.lit (.bool false)], args := [d] }
  | _ => none }
def CheckRunsWrongFalsely : Prop := checkRunsRow.holds Try.pinned (OpenSpec.ofChange checkRunsWrong)

/-- 'crossroadslaw11.CheckKnown': WHATEVER THE INPUT: true; the input reads as it did. -/
def checkKnownSpec : ChangeSpec := { name := "checkKnown", fn := fun _ => fun
  | [] => { results := [.lit (.bool true)], args := [] }
  | _ => none }
def checkKnownRow : OpenClaim := { program := "ytbcnfegmmhioeaa", sum := "006bf9485e4b1ea2be69194f1911df333d18008667cbb41ea9f72171a086ebd1", func := "crossroads/crossroadslaw11.CheckKnown", spec := "checkKnown", inPlace := ["internal/bytealg.IndexByteString", "internal/bytealg.IndexString"], unfollowed := true, recurses := true, named := ["internal/bytealg.MaxLen"], plainKeys := false, apart := false }
def CheckKnownSaid : Prop := checkKnownRow.holds Try.pinned (OpenSpec.ofChange checkKnownSpec)

/-- ITS FALSE NEIGHBOUR: 'it returns false'. Refute it at one input. -/
def checkKnownWrong : ChangeSpec := { name := "checkKnown", fn := fun _ => fun
  | [] => { results := [.lit (.bool false)], args := [] }
  | _ => none }
def CheckKnownWrongFalsely : Prop := checkKnownRow.holds Try.pinned (OpenSpec.ofChange checkKnownWrong)

/-- 'crossroadslaw18.CastPlaces': WHATEVER THE INPUT: true; the input reads as it did. -/
def castPlacesSpec : ChangeSpec := { name := "castPlaces", fn := fun _ => fun
  | [d] => { results := [.lit (.bool true)], args := [d] }
  | _ => none }
def castPlacesRow : OpenClaim := { program := "ytbcnfegmmhioeaa", sum := "006bf9485e4b1ea2be69194f1911df333d18008667cbb41ea9f72171a086ebd1", func := "crossroads/crossroadslaw18.CastPlaces", spec := "castPlaces", inPlace := ["internal/bytealg.IndexByteString", "internal/bytealg.IndexString"], named := ["internal/bytealg.MaxLen"], plainKeys := false, apart := false }
def CastPlacesSaid : Prop := castPlacesRow.holds Try.pinned (OpenSpec.ofChange castPlacesSpec)

/-- ITS FALSE NEIGHBOUR: 'it returns false'. Refute it at one input. -/
def castPlacesWrong : ChangeSpec := { name := "castPlaces", fn := fun _ => fun
  | [d] => { results := [.lit (.bool false)], args := [d] }
  | _ => none }
def CastPlacesWrongFalsely : Prop := castPlacesRow.holds Try.pinned (OpenSpec.ofChange castPlacesWrong)

/-- 'crossroadslaw18.CastApart': WHATEVER THE INPUT: true; the input reads as it did. -/
def castApartSpec : ChangeSpec := { name := "castApart", fn := fun _ => fun
  | [d1, d2, d3] => { results := [.lit (.bool true)], args := [d1, d2, d3] }
  | _ => none }
def castApartRow : OpenClaim := { program := "ytbcnfegmmhioeaa", sum := "006bf9485e4b1ea2be69194f1911df333d18008667cbb41ea9f72171a086ebd1", func := "crossroads/crossroadslaw18.CastApart", spec := "castApart", inPlace := ["internal/bytealg.IndexByteString", "internal/bytealg.IndexString"], recurses := true, named := ["internal/bytealg.MaxLen"], plainKeys := false, apart := false }
def CastApartSaid : Prop := castApartRow.holds Try.pinned (OpenSpec.ofChange castApartSpec)

/-- ITS FALSE NEIGHBOUR: 'it returns false'. Refute it at one input. -/
def castApartWrong : ChangeSpec := { name := "castApart", fn := fun _ => fun
  | [d1, d2, d3] => { results := [.lit (.bool false)], args := [d1, d2, d3] }
  | _ => none }
def CastApartWrongFalsely : Prop := castApartRow.holds Try.pinned (OpenSpec.ofChange castApartWrong)

/-- 'crossroadslaw18.CastSizes': WHATEVER THE INPUT: true; the input reads as it did. -/
def castSizesSpec : ChangeSpec := { name := "castSizes", fn := fun _ => fun
  | [d1, d2] => { results := [.lit (.bool true)], args := [d1, d2] }
  | _ => none }
def castSizesRow : OpenClaim := { program := "ytbcnfegmmhioeaa", sum := "006bf9485e4b1ea2be69194f1911df333d18008667cbb41ea9f72171a086ebd1", func := "crossroads/crossroadslaw18.CastSizes", spec := "castSizes", inPlace := ["internal/bytealg.IndexByteString", "internal/bytealg.IndexString"], recurses := true, named := ["internal/bytealg.MaxLen"], plainKeys := false, apart := false }
def CastSizesSaid : Prop := castSizesRow.holds Try.pinned (OpenSpec.ofChange castSizesSpec)

/-- ITS FALSE NEIGHBOUR: 'it returns false'. Refute it at one input. -/
def castSizesWrong : ChangeSpec := { name := "castSizes", fn := fun _ => fun
  | [d1, d2] => { results := [.lit (.bool false)], args := [d1, d2] }
  | _ => none }
def CastSizesWrongFalsely : Prop := castSizesRow.holds Try.pinned (OpenSpec.ofChange castSizesWrong)

/-- 'crossroadslaw18.CastTurns': WHATEVER THE INPUT: true; the input reads as it did. -/
def castTurnsSpec : ChangeSpec := { name := "castTurns", fn := fun _ => fun
  | [d1, d2, d3] => { results := [.lit (.bool true)], args := [d1, d2, d3] }
  | _ => none }
def castTurnsRow : OpenClaim := { program := "ytbcnfegmmhioeaa", sum := "006bf9485e4b1ea2be69194f1911df333d18008667cbb41ea9f72171a086ebd1", func := "crossroads/crossroadslaw18.CastTurns", spec := "castTurns", inPlace := ["internal/bytealg.IndexByteString", "internal/bytealg.IndexString"], named := ["internal/bytealg.MaxLen"], plainKeys := false, apart := false }
def CastTurnsSaid : Prop := castTurnsRow.holds Try.pinned (OpenSpec.ofChange castTurnsSpec)

/-- ITS FALSE NEIGHBOUR: 'it returns false'. Refute it at one input. -/
def castTurnsWrong : ChangeSpec := { name := "castTurns", fn := fun _ => fun
  | [d1, d2, d3] => { results := [.lit (.bool false)], args := [d1, d2, d3] }
  | _ => none }
def CastTurnsWrongFalsely : Prop := castTurnsRow.holds Try.pinned (OpenSpec.ofChange castTurnsWrong)

/-- 'crossroadslaw19.GhostFds': WHATEVER THE INPUT: true; the input reads as it did. -/
def ghostFdsSpec : ChangeSpec := { name := "ghostFds", fn := fun _ => fun
  | [d1, d2] => { results := [.lit (.bool true)], args := [d1, d2] }
  | _ => none }
def ghostFdsRow : OpenClaim := { program := "ytbcnfegmmhioeaa", sum := "006bf9485e4b1ea2be69194f1911df333d18008667cbb41ea9f72171a086ebd1", func := "crossroads/crossroadslaw19.GhostFds", spec := "ghostFds", inPlace := ["internal/bytealg.IndexByteString", "internal/bytealg.IndexString", "maps.clone"], named := ["internal/bytealg.MaxLen"], plainKeys := false, apart := false }
def GhostFdsSaid : Prop := ghostFdsRow.holds Try.pinned (OpenSpec.ofChange ghostFdsSpec)

/-- ITS FALSE NEIGHBOUR: 'it returns false'. Refute it at one input. -/
def ghostFdsWrong : ChangeSpec := { name := "ghostFds", fn := fun _ => fun
  | [d1, d2] => { results := [.lit (.bool false)], args := [d1, d2] }
  | _ => none }
def GhostFdsWrongFalsely : Prop := ghostFdsRow.holds Try.pinned (OpenSpec.ofChange ghostFdsWrong)

/-- 'crossroadslaw14.FilesKnown': WHATEVER THE INPUT: true; the input reads as it did. -/
def filesKnownSpec : ChangeSpec := { name := "filesKnown", fn := fun _ => fun
  | [] => { results := [.lit (.bool true)], args := [] }
  | _ => none }
def filesKnownRow : OpenClaim := { program := "ytbcnfegmmhioeaa", sum := "006bf9485e4b1ea2be69194f1911df333d18008667cbb41ea9f72171a086ebd1", func := "crossroads/crossroadslaw14.FilesKnown", spec := "filesKnown", inPlace := ["internal/bytealg.IndexByteString", "internal/bytealg.IndexString", "maps.clone"], named := ["internal/bytealg.MaxLen"], plainKeys := false, apart := false }
def FilesKnownSaid : Prop := filesKnownRow.holds Try.pinned (OpenSpec.ofChange filesKnownSpec)

/-- ITS FALSE NEIGHBOUR: 'it returns false'. Refute it at one input. -/
def filesKnownWrong : ChangeSpec := { name := "filesKnown", fn := fun _ => fun
  | [] => { results := [.lit (.bool false)], args := [] }
  | _ => none }
def FilesKnownWrongFalsely : Prop := filesKnownRow.holds Try.pinned (OpenSpec.ofChange filesKnownWrong)

/-- 'crossroadslaw3.FixParts': WHATEVER THE INPUT: true; the input reads as it did. -/
def fixPartsSpec : ChangeSpec := { name := "fixParts", fn := fun _ => fun
  | [d1, d2, d3] => { results := [.lit (.bool true)], args := [d1, d2, d3] }
  | _ => none }
def fixPartsRow : OpenClaim := { program := "ytbcnfegmmhioeaa", sum := "006bf9485e4b1ea2be69194f1911df333d18008667cbb41ea9f72171a086ebd1", func := "crossroads/crossroadslaw3.FixParts", spec := "fixParts", recurses := true, plainKeys := false, apart := false }
def FixPartsSaid : Prop := fixPartsRow.holds Try.pinned (OpenSpec.ofChange fixPartsSpec)

/-- ITS FALSE NEIGHBOUR: 'it returns false'. Refute it at one input. -/
def fixPartsWrong : ChangeSpec := { name := "fixParts", fn := fun _ => fun
  | [d1, d2, d3] => { results := [.lit (.bool false)], args := [d1, d2, d3] }
  | _ => none }
def FixPartsWrongFalsely : Prop := fixPartsRow.holds Try.pinned (OpenSpec.ofChange fixPartsWrong)

/-- 'crossroadslaw14.FilesPlay': WHATEVER THE INPUT: true; the input reads as it did. -/
def filesPlaySpec : ChangeSpec := { name := "filesPlay", fn := fun _ => fun
  | [d1, d2, d3] => { results := [.lit (.bool true)], args := [d1, d2, d3] }
  | _ => none }
def filesPlayRow : OpenClaim := { program := "ytbcnfegmmhioeaa", sum := "006bf9485e4b1ea2be69194f1911df333d18008667cbb41ea9f72171a086ebd1", func := "crossroads/crossroadslaw14.FilesPlay", spec := "filesPlay", inPlace := ["internal/bytealg.IndexByteString", "internal/bytealg.IndexString", "maps.clone"], named := ["internal/bytealg.MaxLen"], plainKeys := false, apart := false }
def FilesPlaySaid : Prop := filesPlayRow.holds Try.pinned (OpenSpec.ofChange filesPlaySpec)

/-- ITS FALSE NEIGHBOUR: 'it returns false'. Refute it at one input. -/
def filesPlayWrong : ChangeSpec := { name := "filesPlay", fn := fun _ => fun
  | [d1, d2, d3] => { results := [.lit (.bool false)], args := [d1, d2, d3] }
  | _ => none }
def FilesPlayWrongFalsely : Prop := filesPlayRow.holds Try.pinned (OpenSpec.ofChange filesPlayWrong)

/-- 'crossroadslaw19.GhostPlays': WHATEVER THE INPUT: true; the input reads as it did. -/
def ghostPlaysSpec : ChangeSpec := { name := "ghostPlays", fn := fun _ => fun
  | [d1, d2, d3] => { results := [.lit (.bool true)], args := [d1, d2, d3] }
  | _ => none }
def ghostPlaysRow : OpenClaim := { program := "ytbcnfegmmhioeaa", sum := "006bf9485e4b1ea2be69194f1911df333d18008667cbb41ea9f72171a086ebd1", func := "crossroads/crossroadslaw19.GhostPlays", spec := "ghostPlays", inPlace := ["internal/bytealg.IndexByteString", "internal/bytealg.IndexString", "maps.clone"], named := ["internal/bytealg.MaxLen"], plainKeys := false, apart := false }
def GhostPlaysSaid : Prop := ghostPlaysRow.holds Try.pinned (OpenSpec.ofChange ghostPlaysSpec)

/-- ITS FALSE NEIGHBOUR: 'it returns false'. Refute it at one input. -/
def ghostPlaysWrong : ChangeSpec := { name := "ghostPlays", fn := fun _ => fun
  | [d1, d2, d3] => { results := [.lit (.bool false)], args := [d1, d2, d3] }
  | _ => none }
def GhostPlaysWrongFalsely : Prop := ghostPlaysRow.holds Try.pinned (OpenSpec.ofChange ghostPlaysWrong)

/-- 'crossroadslaw19.GhostCopies': WHATEVER THE INPUT: true; the input reads as it did. -/
def ghostCopiesSpec : ChangeSpec := { name := "ghostCopies", fn := fun _ => fun
  | [d1, d2, d3] => { results := [.lit (.bool true)], args := [d1, d2, d3] }
  | _ => none }
def ghostCopiesRow : OpenClaim := { program := "ytbcnfegmmhioeaa", sum := "006bf9485e4b1ea2be69194f1911df333d18008667cbb41ea9f72171a086ebd1", func := "crossroads/crossroadslaw19.GhostCopies", spec := "ghostCopies", inPlace := ["internal/bytealg.IndexByteString", "internal/bytealg.IndexString", "maps.clone"], named := ["internal/bytealg.MaxLen"], plainKeys := false, apart := false }
def GhostCopiesSaid : Prop := ghostCopiesRow.holds Try.pinned (OpenSpec.ofChange ghostCopiesSpec)

/-- ITS FALSE NEIGHBOUR: 'it returns false'. Refute it at one input. -/
def ghostCopiesWrong : ChangeSpec := { name := "ghostCopies", fn := fun _ => fun
  | [d1, d2, d3] => { results := [.lit (.bool false)], args := [d1, d2, d3] }
  | _ => none }
def GhostCopiesWrongFalsely : Prop := ghostCopiesRow.holds Try.pinned (OpenSpec.ofChange ghostCopiesWrong)

/- THE SECOND FORM. 'bulk': how many values and letters a reading holds, each counted each time it is reached (what is shared counts as often as it is met; a slice's spare places count too). A statement '..UptoSaid' is the law's where the arguments, and the package variables that the reading takes, are together of bulk at most 1048576: NARROWER than '..Said'. Prove '..Said' where nothing that the law and all that it calls make is longer than what came in: it says more and counts as full. Else prove '..UptoSaid'. A law counts once. -/
mutual
def uptoBulk {H : Type} : DataW H → Nat
  | .lit (.string bytes) => bytes.length + 1
  | .lit _ => 1
  | .nil => 1
  | .ptr d => uptoBulk d + 1
  | .slice elems spare => uptoBulkAll elems + uptoBulkAll spare + 1
  | .agg parts => uptoBulkAll parts + 1
  | .iface _ d => uptoBulk d + 1
  | .map entries => uptoBulkEntries entries + 1
  | .held _ => 1
def uptoBulkAll {H : Type} : List (DataW H) → Nat
  | [] => 0
  | d :: r => uptoBulk d + uptoBulkAll r
def uptoBulkEntries {H : Type} : List (Lit × DataW H) → Nat
  | [] => 0
  | x :: r => uptoBulkEntry x + uptoBulkEntries r
def uptoBulkEntry {H : Type} : Lit × DataW H → Nat
  | (.string bytes, d) => bytes.length + uptoBulk d + 1
  | (_, d) => uptoBulk d + 1
 end
def uptoSmall : (H : Type) → List (DataW H) → Bool := fun _ ds => decide (uptoBulkAll ds ≤ 1048576)
def OpenSpec.upto (s : _root_.Go.ChangeSpec) : _root_.Go.OpenSpec := { _root_.Go.OpenSpec.ofChange s with cond := some uptoSmall }

/-- 'crossroadslaw13.TreeDirs', WHERE WHAT IT READS IS OF BULK AT MOST 1048576: true; the input reads as it did. -/
def treeDirsUptoRow : OpenClaim := { program := "ytbcnfegmmhioeaa", sum := "006bf9485e4b1ea2be69194f1911df333d18008667cbb41ea9f72171a086ebd1", func := "crossroads/crossroadslaw13.TreeDirs", spec := "treeDirs", inPlace := ["internal/bytealg.IndexByteString", "internal/bytealg.IndexString"], named := ["internal/bytealg.MaxLen"], plainKeys := false, apart := false, narrowed := true }
def TreeDirsUptoSaid : Prop := treeDirsUptoRow.holds Try.pinned (OpenSpec.upto treeDirsSpec)

/-- 'crossroadslaw11.CheckRuns', WHERE WHAT IT READS IS OF BULK AT MOST 1048576: true; the input reads as it did. -/
def checkRunsUptoRow : OpenClaim := { program := "ytbcnfegmmhioeaa", sum := "006bf9485e4b1ea2be69194f1911df333d18008667cbb41ea9f72171a086ebd1", func := "crossroads/crossroadslaw11.CheckRuns", spec := "checkRuns", inPlace := ["internal/bytealg.IndexByteString", "internal/bytealg.IndexString"], named := ["internal/bytealg.MaxLen"], plainKeys := false, apart := false, narrowed := true }
def CheckRunsUptoSaid : Prop := checkRunsUptoRow.holds Try.pinned (OpenSpec.upto checkRunsSpec)

/-- 'crossroadslaw11.CheckKnown', WHERE WHAT IT READS IS OF BULK AT MOST 1048576: true; the input reads as it did. -/
def checkKnownUptoRow : OpenClaim := { program := "ytbcnfegmmhioeaa", sum := "006bf9485e4b1ea2be69194f1911df333d18008667cbb41ea9f72171a086ebd1", func := "crossroads/crossroadslaw11.CheckKnown", spec := "checkKnown", inPlace := ["internal/bytealg.IndexByteString", "internal/bytealg.IndexString"], unfollowed := true, recurses := true, named := ["internal/bytealg.MaxLen"], plainKeys := false, apart := false, narrowed := true }
def CheckKnownUptoSaid : Prop := checkKnownUptoRow.holds Try.pinned (OpenSpec.upto checkKnownSpec)

/-- 'crossroadslaw18.CastPlaces', WHERE WHAT IT READS IS OF BULK AT MOST 1048576: true; the input reads as it did. -/
def castPlacesUptoRow : OpenClaim := { program := "ytbcnfegmmhioeaa", sum := "006bf9485e4b1ea2be69194f1911df333d18008667cbb41ea9f72171a086ebd1", func := "crossroads/crossroadslaw18.CastPlaces", spec := "castPlaces", inPlace := ["internal/bytealg.IndexByteString", "internal/bytealg.IndexString"], named := ["internal/bytealg.MaxLen"], plainKeys := false, apart := false, narrowed := true }
def CastPlacesUptoSaid : Prop := castPlacesUptoRow.holds Try.pinned (OpenSpec.upto castPlacesSpec)

/-- 'crossroadslaw18.CastApart', WHERE WHAT IT READS IS OF BULK AT MOST 1048576: true; the input reads as it did. -/
def castApartUptoRow : OpenClaim := { program := "ytbcnfegmmhioeaa", sum := "006bf9485e4b1ea2be69194f1911df333d18008667cbb41ea9f72171a086ebd1", func := "crossroads/crossroadslaw18.CastApart", spec := "castApart", inPlace := ["internal/bytealg.IndexByteString", "internal/bytealg.IndexString"], recurses := true, named := ["internal/bytealg.MaxLen"], plainKeys := false, apart := false, narrowed := true }
def CastApartUptoSaid : Prop := castApartUptoRow.holds Try.pinned (OpenSpec.upto castApartSpec)

/-- 'crossroadslaw18.CastSizes', WHERE WHAT IT READS IS OF BULK AT MOST 1048576: true; the input reads as it did. -/
def castSizesUptoRow : OpenClaim := { program := "ytbcnfegmmhioeaa", sum := "006bf9485e4b1ea2be69194f1911df333d18008667cbb41ea9f72171a086ebd1", func := "crossroads/crossroadslaw18.CastSizes", spec := "castSizes", inPlace := ["internal/bytealg.IndexByteString", "internal/bytealg.IndexString"], recurses := true, named := ["internal/bytealg.MaxLen"], plainKeys := false, apart := false, narrowed := true }
def CastSizesUptoSaid : Prop := castSizesUptoRow.holds Try.pinned (OpenSpec.upto castSizesSpec)

/-- 'crossroadslaw18.CastTurns', WHERE WHAT IT READS IS OF BULK AT MOST 1048576: true; the input reads as it did. -/
def castTurnsUptoRow : OpenClaim := { program := "ytbcnfegmmhioeaa", sum := "006bf9485e4b1ea2be69194f1911df333d18008667cbb41ea9f72171a086ebd1", func := "crossroads/crossroadslaw18.CastTurns", spec := "castTurns", inPlace := ["internal/bytealg.IndexByteString", "internal/bytealg.IndexString"], named := ["internal/bytealg.MaxLen"], plainKeys := false, apart := false, narrowed := true }
def CastTurnsUptoSaid : Prop := castTurnsUptoRow.holds Try.pinned (OpenSpec.upto castTurnsSpec)

/-- 'crossroadslaw19.GhostFds', WHERE WHAT IT READS IS OF BULK AT MOST 1048576: true; the input reads as it did. -/
def ghostFdsUptoRow : OpenClaim := { program := "ytbcnfegmmhioeaa", sum := "006bf9485e4b1ea2be69194f1911df333d18008667cbb41ea9f72171a086ebd1", func := "crossroads/crossroadslaw19.GhostFds", spec := "ghostFds", inPlace := ["internal/bytealg.IndexByteString", "internal/bytealg.IndexString", "maps.clone"], named := ["internal/bytealg.MaxLen"], plainKeys := false, apart := false, narrowed := true }
def GhostFdsUptoSaid : Prop := ghostFdsUptoRow.holds Try.pinned (OpenSpec.upto ghostFdsSpec)

/-- 'crossroadslaw14.FilesKnown', WHERE WHAT IT READS IS OF BULK AT MOST 1048576: true; the input reads as it did. -/
def filesKnownUptoRow : OpenClaim := { program := "ytbcnfegmmhioeaa", sum := "006bf9485e4b1ea2be69194f1911df333d18008667cbb41ea9f72171a086ebd1", func := "crossroads/crossroadslaw14.FilesKnown", spec := "filesKnown", inPlace := ["internal/bytealg.IndexByteString", "internal/bytealg.IndexString", "maps.clone"], named := ["internal/bytealg.MaxLen"], plainKeys := false, apart := false, narrowed := true }
def FilesKnownUptoSaid : Prop := filesKnownUptoRow.holds Try.pinned (OpenSpec.upto filesKnownSpec)

/-- 'crossroadslaw3.FixParts', WHERE WHAT IT READS IS OF BULK AT MOST 1048576: true; the input reads as it did. -/
def fixPartsUptoRow : OpenClaim := { program := "ytbcnfegmmhioeaa", sum := "006bf9485e4b1ea2be69194f1911df333d18008667cbb41ea9f72171a086ebd1", func := "crossroads/crossroadslaw3.FixParts", spec := "fixParts", recurses := true, plainKeys := false, apart := false, narrowed := true }
def FixPartsUptoSaid : Prop := fixPartsUptoRow.holds Try.pinned (OpenSpec.upto fixPartsSpec)

/-- 'crossroadslaw14.FilesPlay', WHERE WHAT IT READS IS OF BULK AT MOST 1048576: true; the input reads as it did. -/
def filesPlayUptoRow : OpenClaim := { program := "ytbcnfegmmhioeaa", sum := "006bf9485e4b1ea2be69194f1911df333d18008667cbb41ea9f72171a086ebd1", func := "crossroads/crossroadslaw14.FilesPlay", spec := "filesPlay", inPlace := ["internal/bytealg.IndexByteString", "internal/bytealg.IndexString", "maps.clone"], named := ["internal/bytealg.MaxLen"], plainKeys := false, apart := false, narrowed := true }
def FilesPlayUptoSaid : Prop := filesPlayUptoRow.holds Try.pinned (OpenSpec.upto filesPlaySpec)

/-- 'crossroadslaw19.GhostPlays', WHERE WHAT IT READS IS OF BULK AT MOST 1048576: true; the input reads as it did. -/
def ghostPlaysUptoRow : OpenClaim := { program := "ytbcnfegmmhioeaa", sum := "006bf9485e4b1ea2be69194f1911df333d18008667cbb41ea9f72171a086ebd1", func := "crossroads/crossroadslaw19.GhostPlays", spec := "ghostPlays", inPlace := ["internal/bytealg.IndexByteString", "internal/bytealg.IndexString", "maps.clone"], named := ["internal/bytealg.MaxLen"], plainKeys := false, apart := false, narrowed := true }
def GhostPlaysUptoSaid : Prop := ghostPlaysUptoRow.holds Try.pinned (OpenSpec.upto ghostPlaysSpec)

/-- 'crossroadslaw19.GhostCopies', WHERE WHAT IT READS IS OF BULK AT MOST 1048576: true; the input reads as it did. -/
def ghostCopiesUptoRow : OpenClaim := { program := "ytbcnfegmmhioeaa", sum := "006bf9485e4b1ea2be69194f1911df333d18008667cbb41ea9f72171a086ebd1", func := "crossroads/crossroadslaw19.GhostCopies", spec := "ghostCopies", inPlace := ["internal/bytealg.IndexByteString", "internal/bytealg.IndexString", "maps.clone"], named := ["internal/bytealg.MaxLen"], plainKeys := false, apart := false, narrowed := true }
def GhostCopiesUptoSaid : Prop := ghostCopiesUptoRow.holds Try.pinned (OpenSpec.upto ghostCopiesSpec)

end Rows
end Go.Proofs.Ytbcnfegmmhioeaa

/-
  No cell of these rows narrows 'for every input' (looked for: loops, veiled, ifaces, maps, wideKeys, modest, calm, conditions, laid).
  DERIVED. THE GIVEN ROWS OF THIS SEAT. 12 by the template 'for every input the law returns true; each argument reads behind the call as it read before'; 0 by the template 'total and deterministic' (their statements: YtijkcahdegohiaaTotals.lean).
  GIVEN WITH THE SEED: the statements are not yours to turn. If you find one false, say at which input.
  Laid BY PROGRAM, IN A SANDBOX (cutbox-rows.mjs): the forced cells as the released guide's own fill.sh prints them over the translation 673c67355f467729… (all of the seat's roots in one cut). By AI agents, Wed Nov 11 2026. No macro, syntax, notation, axiom, sorry.
-/
import Derived.Test.YtijkcahdegohiaaChecked
import GoSem.Claim
import GoSem.ClaimJoined
import GoSem.ClaimMapViews
import Derived.JoinedTies
import Derived.KernelRfl
namespace Go.Proofs.Ytijkcahdegohiaa
/- THE CELL 'sum', in the pinned program and in every row, IS THE sha256 OF THE DUMP (.gsa) THAT YtijkcahdegohiaaProg.lean LOADS. Nothing in Lean hashes anything: it is a label: what it is worth is what the hold of that sum in a sandbox is worth. -/
noncomputable def Try.pinned : Pinned := { name := "ytijkcahdegohiaa", sum := "673c67355f4677294812da805945d18c9de091f0e7acec2012ba07fe2f6f7f31", checked := Try.checked }
namespace Rows
def none {H : Type} : Left H := { results := [], args := [] }

/-- 'watershedlaw08.MarkNexts': WHATEVER THE INPUT: true; the input reads as it did. -/
def markNextsSpec : ChangeSpec := { name := "markNexts", fn := fun _ => fun
  | [d1, d2, d3] => { results := [.lit (.bool true)], args := [d1, d2, d3] }
  | _ => none }
def markNextsRow : OpenClaim := { program := "ytijkcahdegohiaa", sum := "673c67355f4677294812da805945d18c9de091f0e7acec2012ba07fe2f6f7f31", func := "watershed/watershedlaw08.MarkNexts", spec := "markNexts", apart := false }
def MarkNextsSaid : Prop := markNextsRow.holds Try.pinned (OpenSpec.ofChange markNextsSpec)

/-- ITS FALSE NEIGHBOUR: 'it returns false'. Refute it at one input. -/
def markNextsWrong : ChangeSpec := { name := "markNexts", fn := fun _ => fun
  | [d1, d2, d3] => { results := [.lit (.bool false)], args := [d1, d2, d3] }
  | _ => none }
def MarkNextsWrongFalsely : Prop := markNextsRow.holds Try.pinned (OpenSpec.ofChange markNextsWrong)

/-- 'watershedlaw08.MarkOnTime': WHATEVER THE INPUT: true; the input reads as it did. -/
def markOnTimeSpec : ChangeSpec := { name := "markOnTime", fn := fun _ => fun
  | [d1, d2] => { results := [.lit (.bool true)], args := [d1, d2] }
  | _ => none }
def markOnTimeRow : OpenClaim := { program := "ytijkcahdegohiaa", sum := "673c67355f4677294812da805945d18c9de091f0e7acec2012ba07fe2f6f7f31", func := "watershed/watershedlaw08.MarkOnTime", spec := "markOnTime", apart := false }
def MarkOnTimeSaid : Prop := markOnTimeRow.holds Try.pinned (OpenSpec.ofChange markOnTimeSpec)

/-- ITS FALSE NEIGHBOUR: 'it returns false'. Refute it at one input. -/
def markOnTimeWrong : ChangeSpec := { name := "markOnTime", fn := fun _ => fun
  | [d1, d2] => { results := [.lit (.bool false)], args := [d1, d2] }
  | _ => none }
def MarkOnTimeWrongFalsely : Prop := markOnTimeRow.holds Try.pinned (OpenSpec.ofChange markOnTimeWrong)

/-- 'watershedlaw08.MarkRaises': WHATEVER THE INPUT: true; the input reads as it did. -/
def markRaisesSpec : ChangeSpec := { name := "markRaises", fn := fun _ => fun
  | [d1, d2] => { results := [.lit (.bool true)], args := [d1, d2] }
  | _ => none }
def markRaisesRow : OpenClaim := { program := "ytijkcahdegohiaa", sum := "673c67355f4677294812da805945d18c9de091f0e7acec2012ba07fe2f6f7f31", func := "watershed/watershedlaw08.MarkRaises", spec := "markRaises", apart := false }
def MarkRaisesSaid : Prop := markRaisesRow.holds Try.pinned (OpenSpec.ofChange markRaisesSpec)

/-- ITS FALSE NEIGHBOUR: 'it returns false'. Refute it at one input. -/
def markRaisesWrong : ChangeSpec := { name := "markRaises", fn := fun _ => fun
  | [d1, d2] => { results := [.lit (.bool false)], args := [d1, d2] }
  | _ => none }
def MarkRaisesWrongFalsely : Prop := markRaisesRow.holds Try.pinned (OpenSpec.ofChange markRaisesWrong)

/-- 'watershedlaw08.MarkNil': WHATEVER THE INPUT: true; the input reads as it did. -/
def markNilSpec : ChangeSpec := { name := "markNil", fn := fun _ => fun
  | [d1, d2] => { results := [.lit (.bool true)], args := [d1, d2] }
  | _ => none }
def markNilRow : OpenClaim := { program := "ytijkcahdegohiaa", sum := "673c67355f4677294812da805945d18c9de091f0e7acec2012ba07fe2f6f7f31", func := "watershed/watershedlaw08.MarkNil", spec := "markNil", apart := false }
def MarkNilSaid : Prop := markNilRow.holds Try.pinned (OpenSpec.ofChange markNilSpec)

/-- ITS FALSE NEIGHBOUR: 'it returns false'. Refute it at one input. -/
def markNilWrong : ChangeSpec := { name := "markNil", fn := fun _ => fun
  | [d1, d2] => { results := [.lit (.bool false)], args := [d1, d2] }
  | _ => none }
def MarkNilWrongFalsely : Prop := markNilRow.holds Try.pinned (OpenSpec.ofChange markNilWrong)

/-- 'watershedlaw13.PipeMay': WHATEVER THE INPUT: true; the input reads as it did. -/
def pipeMaySpec : ChangeSpec := { name := "pipeMay", fn := fun _ => fun
  | [d] => { results := [.lit (.bool true)], args := [d] }
  | _ => none }
def pipeMayRow : OpenClaim := { program := "ytijkcahdegohiaa", sum := "673c67355f4677294812da805945d18c9de091f0e7acec2012ba07fe2f6f7f31", func := "watershed/watershedlaw13.PipeMay", spec := "pipeMay", apart := false }
def PipeMaySaid : Prop := pipeMayRow.holds Try.pinned (OpenSpec.ofChange pipeMaySpec)

/-- ITS FALSE NEIGHBOUR: 'it returns false'. Refute it at one input. -/
def pipeMayWrong : ChangeSpec := { name := "pipeMay", fn := fun _ => fun
  | [d] => { results := [.lit (.bool false)], args := [d] }
  | _ => none }
def PipeMayWrongFalsely : Prop := pipeMayRow.holds Try.pinned (OpenSpec.ofChange pipeMayWrong)

/-- 'watershedlaw13.PipeDoes': WHATEVER THE INPUT: true; the input reads as it did. -/
def pipeDoesSpec : ChangeSpec := { name := "pipeDoes", fn := fun _ => fun
  | [d1, d2] => { results := [.lit (.bool true)], args := [d1, d2] }
  | _ => none }
def pipeDoesRow : OpenClaim := { program := "ytijkcahdegohiaa", sum := "673c67355f4677294812da805945d18c9de091f0e7acec2012ba07fe2f6f7f31", func := "watershed/watershedlaw13.PipeDoes", spec := "pipeDoes", apart := false }
def PipeDoesSaid : Prop := pipeDoesRow.holds Try.pinned (OpenSpec.ofChange pipeDoesSpec)

/-- ITS FALSE NEIGHBOUR: 'it returns false'. Refute it at one input. -/
def pipeDoesWrong : ChangeSpec := { name := "pipeDoes", fn := fun _ => fun
  | [d1, d2] => { results := [.lit (.bool false)], args := [d1, d2] }
  | _ => none }
def PipeDoesWrongFalsely : Prop := pipeDoesRow.holds Try.pinned (OpenSpec.ofChange pipeDoesWrong)

/-- 'watershedlaw13.PipeNil': WHATEVER THE INPUT: true; the input reads as it did. -/
def pipeNilSpec : ChangeSpec := { name := "pipeNil", fn := fun _ => fun
  | [d] => { results := [.lit (.bool true)], args := [d] }
  | _ => none }
def pipeNilRow : OpenClaim := { program := "ytijkcahdegohiaa", sum := "673c67355f4677294812da805945d18c9de091f0e7acec2012ba07fe2f6f7f31", func := "watershed/watershedlaw13.PipeNil", spec := "pipeNil", apart := false }
def PipeNilSaid : Prop := pipeNilRow.holds Try.pinned (OpenSpec.ofChange pipeNilSpec)

/-- ITS FALSE NEIGHBOUR: 'it returns false'. Refute it at one input. -/
def pipeNilWrong : ChangeSpec := { name := "pipeNil", fn := fun _ => fun
  | [d] => { results := [.lit (.bool false)], args := [d] }
  | _ => none }
def PipeNilWrongFalsely : Prop := pipeNilRow.holds Try.pinned (OpenSpec.ofChange pipeNilWrong)

/-- 'watershedlaw14.GateAll': WHATEVER THE INPUT: true; the input reads as it did. -/
def gateAllSpec : ChangeSpec := { name := "gateAll", fn := fun _ => fun
  | [d1, d2, d3] => { results := [.lit (.bool true)], args := [d1, d2, d3] }
  | _ => none }
def gateAllRow : OpenClaim := { program := "ytijkcahdegohiaa", sum := "673c67355f4677294812da805945d18c9de091f0e7acec2012ba07fe2f6f7f31", func := "watershed/watershedlaw14.GateAll", spec := "gateAll", apart := false }
def GateAllSaid : Prop := gateAllRow.holds Try.pinned (OpenSpec.ofChange gateAllSpec)

/-- ITS FALSE NEIGHBOUR: 'it returns false'. Refute it at one input. -/
def gateAllWrong : ChangeSpec := { name := "gateAll", fn := fun _ => fun
  | [d1, d2, d3] => { results := [.lit (.bool false)], args := [d1, d2, d3] }
  | _ => none }
def GateAllWrongFalsely : Prop := gateAllRow.holds Try.pinned (OpenSpec.ofChange gateAllWrong)

/-- 'watershedlaw14.GateCuts': WHATEVER THE INPUT: true; the input reads as it did. -/
def gateCutsSpec : ChangeSpec := { name := "gateCuts", fn := fun _ => fun
  | [d1, d2, d3] => { results := [.lit (.bool true)], args := [d1, d2, d3] }
  | _ => none }
def gateCutsRow : OpenClaim := { program := "ytijkcahdegohiaa", sum := "673c67355f4677294812da805945d18c9de091f0e7acec2012ba07fe2f6f7f31", func := "watershed/watershedlaw14.GateCuts", spec := "gateCuts", apart := false }
def GateCutsSaid : Prop := gateCutsRow.holds Try.pinned (OpenSpec.ofChange gateCutsSpec)

/-- ITS FALSE NEIGHBOUR: 'it returns false'. Refute it at one input. -/
def gateCutsWrong : ChangeSpec := { name := "gateCuts", fn := fun _ => fun
  | [d1, d2, d3] => { results := [.lit (.bool false)], args := [d1, d2, d3] }
  | _ => none }
def GateCutsWrongFalsely : Prop := gateCutsRow.holds Try.pinned (OpenSpec.ofChange gateCutsWrong)

/-- 'watershedlaw14.GateMarks': WHATEVER THE INPUT: true; the input reads as it did. -/
def gateMarksSpec : ChangeSpec := { name := "gateMarks", fn := fun _ => fun
  | [d1, d2, d3] => { results := [.lit (.bool true)], args := [d1, d2, d3] }
  | _ => none }
def gateMarksRow : OpenClaim := { program := "ytijkcahdegohiaa", sum := "673c67355f4677294812da805945d18c9de091f0e7acec2012ba07fe2f6f7f31", func := "watershed/watershedlaw14.GateMarks", spec := "gateMarks", apart := false }
def GateMarksSaid : Prop := gateMarksRow.holds Try.pinned (OpenSpec.ofChange gateMarksSpec)

/-- ITS FALSE NEIGHBOUR: 'it returns false'. Refute it at one input. -/
def gateMarksWrong : ChangeSpec := { name := "gateMarks", fn := fun _ => fun
  | [d1, d2, d3] => { results := [.lit (.bool false)], args := [d1, d2, d3] }
  | _ => none }
def GateMarksWrongFalsely : Prop := gateMarksRow.holds Try.pinned (OpenSpec.ofChange gateMarksWrong)

/-- 'watershedlaw14.GateDoes': WHATEVER THE INPUT: true; the input reads as it did. -/
def gateDoesSpec : ChangeSpec := { name := "gateDoes", fn := fun _ => fun
  | [d1, d2, d3] => { results := [.lit (.bool true)], args := [d1, d2, d3] }
  | _ => none }
def gateDoesRow : OpenClaim := { program := "ytijkcahdegohiaa", sum := "673c67355f4677294812da805945d18c9de091f0e7acec2012ba07fe2f6f7f31", func := "watershed/watershedlaw14.GateDoes", spec := "gateDoes", apart := false }
def GateDoesSaid : Prop := gateDoesRow.holds Try.pinned (OpenSpec.ofChange gateDoesSpec)

/-- ITS FALSE NEIGHBOUR: 'it returns false'. Refute it at one input. -/
def gateDoesWrong : ChangeSpec := { name := "gateDoes", fn := fun _ => fun
  | [d1, d2, d3] => { results := [.lit (.bool false)], args := [d1, d2, d3] }
  | _ => none }
def GateDoesWrongFalsely : Prop := gateDoesRow.holds Try.pinned (OpenSpec.ofChange gateDoesWrong)

/-- 'watershedlaw14.GateNil': WHATEVER THE INPUT: true; the input reads as it did. -/
def gateNilSpec : ChangeSpec := { name := "gateNil", fn := fun _ => fun
  | [d1, d2] => { results := [.lit (.bool true)], args := [d1, d2] }
  | _ => none }
def gateNilRow : OpenClaim := { program := "ytijkcahdegohiaa", sum := "673c67355f4677294812da805945d18c9de091f0e7acec2012ba07fe2f6f7f31", func := "watershed/watershedlaw14.GateNil", spec := "gateNil", apart := false }
def GateNilSaid : Prop := gateNilRow.holds Try.pinned (OpenSpec.ofChange gateNilSpec)

/-- ITS FALSE NEIGHBOUR: 'it returns false'. Refute it at one input. -/
def gateNilWrong : ChangeSpec := { name := "gateNil", fn := fun _ => fun
  | [d1, d2] => { results := [.lit (.bool false)], args := [d1, d2] }
  | _ => none }
def GateNilWrongFalsely : Prop := gateNilRow.holds Try.pinned (OpenSpec.ofChange gateNilWrong)

/- THE SECOND FORM. 'bulk': how many values and letters a reading holds, each counted each time it is reached (what is shared counts as often as it is met; a slice's spare places count too). A statement '..UptoSaid' is the law's where the arguments, and the package variables that the reading takes, are together of bulk at most 1048576: NARROWER than '..Said'. Prove '..Said' where nothing that the law and all that it calls make is longer than what came in: it says more and counts as full. Else prove '..UptoSaid'. A law counts once. -/
mutual
def uptoBulk {H : Type} : DataW H → Nat
  | .lit (.string bytes) => bytes.length + 1
  | .lit _ => 1
  | .nil => 1
  | .ptr d => uptoBulk d + 1
  | .slice elems spare => uptoBulkAll elems + uptoBulkAll spare + 1
  | .agg parts => uptoBulkAll parts + 1
  | .iface _ d => uptoBulk d + 1
  | .map entries => uptoBulkEntries entries + 1
  | .held _ => 1
def uptoBulkAll {H : Type} : List (DataW H) → Nat
  | [] => 0
  | d :: r => uptoBulk d + uptoBulkAll r
def uptoBulkEntries {H : Type} : List (Lit × DataW H) → Nat
  | [] => 0
  | x :: r => uptoBulkEntry x + uptoBulkEntries r
def uptoBulkEntry {H : Type} : Lit × DataW H → Nat
  | (.string bytes, d) => bytes.length + uptoBulk d + 1
  | (_, d) => uptoBulk d + 1
 end
def uptoSmall : (H : Type) → List (DataW H) → Bool := fun _ ds => decide (uptoBulkAll ds ≤ 1048576)
def OpenSpec.upto (s : _root_.Go.ChangeSpec) : _root_.Go.OpenSpec := { _root_.Go.OpenSpec.ofChange s with cond := some uptoSmall }

/-- 'watershedlaw08.MarkNexts', WHERE WHAT IT READS IS OF BULK AT MOST 1048576: true; the input reads as it did. -/
def markNextsUptoRow : OpenClaim := { program := "ytijkcahdegohiaa", sum := "673c67355f4677294812da805945d18c9de091f0e7acec2012ba07fe2f6f7f31", func := "watershed/watershedlaw08.MarkNexts", spec := "markNexts", apart := false, narrowed := true }
def MarkNextsUptoSaid : Prop := markNextsUptoRow.holds Try.pinned (OpenSpec.upto markNextsSpec)

/-- 'watershedlaw08.MarkOnTime', WHERE WHAT IT READS IS OF BULK AT MOST 1048576: true; the input reads as it did. -/
def markOnTimeUptoRow : OpenClaim := { program := "ytijkcahdegohiaa", sum := "673c67355f4677294812da805945d18c9de091f0e7acec2012ba07fe2f6f7f31", func := "watershed/watershedlaw08.MarkOnTime", spec := "markOnTime", apart := false, narrowed := true }
def MarkOnTimeUptoSaid : Prop := markOnTimeUptoRow.holds Try.pinned (OpenSpec.upto markOnTimeSpec)

/-- 'watershedlaw08.MarkRaises', WHERE WHAT IT READS IS OF BULK AT MOST 1048576: true; the input reads as it did. -/
def markRaisesUptoRow : OpenClaim := { program := "ytijkcahdegohiaa", sum := "673c67355f4677294812da805945d18c9de091f0e7acec2012ba07fe2f6f7f31", func := "watershed/watershedlaw08.MarkRaises", spec := "markRaises", apart := false, narrowed := true }
def MarkRaisesUptoSaid : Prop := markRaisesUptoRow.holds Try.pinned (OpenSpec.upto markRaisesSpec)

/-- 'watershedlaw08.MarkNil', WHERE WHAT IT READS IS OF BULK AT MOST 1048576: true; the input reads as it did. -/
def markNilUptoRow : OpenClaim := { program := "ytijkcahdegohiaa", sum := "673c67355f4677294812da805945d18c9de091f0e7acec2012ba07fe2f6f7f31", func := "watershed/watershedlaw08.MarkNil", spec := "markNil", apart := false, narrowed := true }
def MarkNilUptoSaid : Prop := markNilUptoRow.holds Try.pinned (OpenSpec.upto markNilSpec)

/-- 'watershedlaw13.PipeMay', WHERE WHAT IT READS IS OF BULK AT MOST 1048576: true; the input reads as it did. -/
def pipeMayUptoRow : OpenClaim := { program := "ytijkcahdegohiaa", sum := "673c67355f4677294812da805945d18c9de091f0e7acec2012ba07fe2f6f7f31", func := "watershed/watershedlaw13.PipeMay", spec := "pipeMay", apart := false, narrowed := true }
def PipeMayUptoSaid : Prop := pipeMayUptoRow.holds Try.pinned (OpenSpec.upto pipeMaySpec)

/-- 'watershedlaw13.PipeDoes', WHERE WHAT IT READS IS OF BULK AT MOST 1048576: true; the input reads as it did. -/
def pipeDoesUptoRow : OpenClaim := { program := "ytijkcahdegohiaa", sum := "673c67355f4677294812da805945d18c9de091f0e7acec2012ba07fe2f6f7f31", func := "watershed/watershedlaw13.PipeDoes", spec := "pipeDoes", apart := false, narrowed := true }
def PipeDoesUptoSaid : Prop := pipeDoesUptoRow.holds Try.pinned (OpenSpec.upto pipeDoesSpec)

/-- 'watershedlaw13.PipeNil', WHERE WHAT IT READS IS OF BULK AT MOST 1048576: true; the input reads as it did. -/
def pipeNilUptoRow : OpenClaim := { program := "ytijkcahdegohiaa", sum := "673c67355f4677294812da805945d18c9de091f0e7acec2012ba07fe2f6f7f31", func := "watershed/watershedlaw13.PipeNil", spec := "pipeNil", apart := false, narrowed := true }
def PipeNilUptoSaid : Prop := pipeNilUptoRow.holds Try.pinned (OpenSpec.upto pipeNilSpec)

/-- 'watershedlaw14.GateAll', WHERE WHAT IT READS IS OF BULK AT MOST 1048576: true; the input reads as it did. -/
def gateAllUptoRow : OpenClaim := { program := "ytijkcahdegohiaa", sum := "673c67355f4677294812da805945d18c9de091f0e7acec2012ba07fe2f6f7f31", func := "watershed/watershedlaw14.GateAll", spec := "gateAll", apart := false, narrowed := true }
def GateAllUptoSaid : Prop := gateAllUptoRow.holds Try.pinned (OpenSpec.upto gateAllSpec)

/-- 'watershedlaw14.GateCuts', WHERE WHAT IT READS IS OF BULK AT MOST 1048576: true; the input reads as it did. -/
def gateCutsUptoRow : OpenClaim := { program := "ytijkcahdegohiaa", sum := "673c67355f4677294812da805945d18c9de091f0e7acec2012ba07fe2f6f7f31", func := "watershed/watershedlaw14.GateCuts", spec := "gateCuts", apart := false, narrowed := true }
def GateCutsUptoSaid : Prop := gateCutsUptoRow.holds Try.pinned (OpenSpec.upto gateCutsSpec)

/-- 'watershedlaw14.GateMarks', WHERE WHAT IT READS IS OF BULK AT MOST 1048576: true; the input reads as it did. -/
def gateMarksUptoRow : OpenClaim := { program := "ytijkcahdegohiaa", sum := "673c67355f4677294812da805945d18c9de091f0e7acec2012ba07fe2f6f7f31", func := "watershed/watershedlaw14.GateMarks", spec := "gateMarks", apart := false, narrowed := true }
def GateMarksUptoSaid : Prop := gateMarksUptoRow.holds Try.pinned (OpenSpec.upto gateMarksSpec)

/-- 'watershedlaw14.GateDoes', WHERE WHAT IT READS IS OF BULK AT MOST 1048576: true; the input reads as it did. -/
def gateDoesUptoRow : OpenClaim := { program := "ytijkcahdegohiaa", sum := "673c67355f4677294812da805945d18c9de091f0e7acec2012ba07fe2f6f7f31", func := "watershed/watershedlaw14.GateDoes", spec := "gateDoes", apart := false, narrowed := true }
def GateDoesUptoSaid : Prop := gateDoesUptoRow.holds Try.pinned (OpenSpec.upto gateDoesSpec)

/-- 'watershedlaw14.GateNil', WHERE WHAT IT READS IS OF BULK AT MOST 1048576: true; the input reads as it did. -/
def gateNilUptoRow : OpenClaim := { program := "ytijkcahdegohiaa", sum := "673c67355f4677294812da805945d18c9de091f0e7acec2012ba07fe2f6f7f31", func := "watershed/watershedlaw14.GateNil", spec := "gateNil", apart := false, narrowed := true }
def GateNilUptoSaid : Prop := gateNilUptoRow.holds Try.pinned (OpenSpec.upto gateNilSpec)

end Rows
end Go.Proofs.Ytijkcahdegohiaa

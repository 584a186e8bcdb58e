/-
  No cell of these rows narrows 'for every input' (looked for: loops, veiled, ifaces, maps, wideKeys, modest, calm, conditions, laid).
  DERIVED. THE GIVEN ROWS OF THIS SEAT. 8 by the template 'for every input the law returns true; each argument reads behind the call as it read before'; 0 by the template 'total and deterministic' (their statements: YtdbbkaeoinalpaaGreatTotals.lean).
  GIVEN WITH THE SEED: the statements are not yours to turn. If you find one false, say at which input.
  Laid BY PROGRAM, IN A SANDBOX (cutbox-rows.mjs): the forced cells as the released guide's own fill.sh prints them over the translation 6a2968c6c9a72bf3… (all of the seat's roots in one cut). By AI agents, Wed Nov 11 2026. No macro, syntax, notation, axiom, sorry.
-/
import Derived.Test.YtdbbkaeoinalpaaGreatChecked
import GoSem.Claim
import GoSem.ClaimJoined
import GoSem.ClaimMapViews
import Derived.JoinedTies
import Derived.KernelRfl
namespace Go.Proofs.YtdbbkaeoinalpaaGreat
/- THE CELL 'sum', in the pinned program and in every row, IS THE sha256 OF THE DUMP (.gsa) THAT YtdbbkaeoinalpaaGreatProg.lean LOADS. Nothing in Lean hashes anything: it is a label: what it is worth is what the hold of that sum in a sandbox is worth. -/
noncomputable def Tryz.pinned : Pinned := { name := "ytdbbkaeoinalpaagreat", sum := "6a2968c6c9a72bf3d86320016be22912645dec6eb1dc728ec5e646b92b888aac", checked := Tryz.checked }
namespace Rows
def none {H : Type} : Left H := { results := [], args := [] }

/-- 'concertinalaw22.ScrubReads': WHATEVER THE INPUT: true; the input reads as it did. -/
def scrubReadsSpec : ChangeSpec := { name := "scrubReads", fn := fun _ => fun
  | [d1, d2] => { results := [.lit (.bool true)], args := [d1, d2] }
  | _ => none }
def scrubReadsRow : OpenClaim := { program := "ytdbbkaeoinalpaagreat", sum := "6a2968c6c9a72bf3d86320016be22912645dec6eb1dc728ec5e646b92b888aac", func := "concertina/concertinalaw22.ScrubReads", spec := "scrubReads", inPlace := ["slices.overlaps[concertina/api.Run]", "math.Float64bits", "math.Float64frombits", "maps.clone", "internal/bytealg.MakeNoZero", "slices.overlaps[int]", "slices.overlaps[concertina/node.Kid]", "slices.overlaps[*concertina/tree.branch]", "slices.overlaps[concertina/api.Place]"], unfollowed := true, recurses := true, plainKeys := false, apart := false }
def ScrubReadsSaid : Prop := scrubReadsRow.holds Tryz.pinned (OpenSpec.ofChange scrubReadsSpec)

/-- ITS FALSE NEIGHBOUR: 'it returns false'. Refute it at one input. -/
def scrubReadsWrong : ChangeSpec := { name := "scrubReads", fn := fun _ => fun
  | [d1, d2] => { results := [.lit (.bool false)], args := [d1, d2] }
  | _ => none }
def ScrubReadsWrongFalsely : Prop := scrubReadsRow.holds Tryz.pinned (OpenSpec.ofChange scrubReadsWrong)

/-- 'concertinalaw20.DeviceArgs': WHATEVER THE INPUT: true; the input reads as it did. -/
def deviceArgsSpec : ChangeSpec := { name := "deviceArgs", fn := fun _ => fun
  | [d1, d2, d3] => { results := [.lit (.bool true)], args := [d1, d2, d3] }
  | _ => none }
def deviceArgsRow : OpenClaim := { program := "ytdbbkaeoinalpaagreat", sum := "6a2968c6c9a72bf3d86320016be22912645dec6eb1dc728ec5e646b92b888aac", func := "concertina/concertinalaw20.DeviceArgs", spec := "deviceArgs", inPlace := ["slices.overlaps[concertina/api.Run]", "math.Float64bits", "math.Float64frombits", "maps.clone", "internal/bytealg.MakeNoZero", "slices.overlaps[int]", "slices.overlaps[concertina/node.Kid]", "slices.overlaps[*concertina/tree.branch]", "slices.overlaps[concertina/api.Place]"], unfollowed := true, recurses := true, plainKeys := false, apart := false }
def DeviceArgsSaid : Prop := deviceArgsRow.holds Tryz.pinned (OpenSpec.ofChange deviceArgsSpec)

/-- ITS FALSE NEIGHBOUR: 'it returns false'. Refute it at one input. -/
def deviceArgsWrong : ChangeSpec := { name := "deviceArgs", fn := fun _ => fun
  | [d1, d2, d3] => { results := [.lit (.bool false)], args := [d1, d2, d3] }
  | _ => none }
def DeviceArgsWrongFalsely : Prop := deviceArgsRow.holds Tryz.pinned (OpenSpec.ofChange deviceArgsWrong)

/-- 'concertinalaw20.DeviceTrims': WHATEVER THE INPUT: true; the input reads as it did. -/
def deviceTrimsSpec : ChangeSpec := { name := "deviceTrims", fn := fun _ => fun
  | [d1, d2, d3] => { results := [.lit (.bool true)], args := [d1, d2, d3] }
  | _ => none }
def deviceTrimsRow : OpenClaim := { program := "ytdbbkaeoinalpaagreat", sum := "6a2968c6c9a72bf3d86320016be22912645dec6eb1dc728ec5e646b92b888aac", func := "concertina/concertinalaw20.DeviceTrims", spec := "deviceTrims", inPlace := ["slices.overlaps[concertina/api.Run]", "math.Float64bits", "math.Float64frombits", "maps.clone", "internal/bytealg.MakeNoZero", "slices.overlaps[int]", "slices.overlaps[concertina/node.Kid]", "slices.overlaps[*concertina/tree.branch]", "slices.overlaps[concertina/api.Place]"], unfollowed := true, recurses := true, plainKeys := false, apart := false }
def DeviceTrimsSaid : Prop := deviceTrimsRow.holds Tryz.pinned (OpenSpec.ofChange deviceTrimsSpec)

/-- ITS FALSE NEIGHBOUR: 'it returns false'. Refute it at one input. -/
def deviceTrimsWrong : ChangeSpec := { name := "deviceTrims", fn := fun _ => fun
  | [d1, d2, d3] => { results := [.lit (.bool false)], args := [d1, d2, d3] }
  | _ => none }
def DeviceTrimsWrongFalsely : Prop := deviceTrimsRow.holds Tryz.pinned (OpenSpec.ofChange deviceTrimsWrong)

/-- 'concertinalaw20.DeviceOver': WHATEVER THE INPUT: true; the input reads as it did. -/
def deviceOverSpec : ChangeSpec := { name := "deviceOver", fn := fun _ => fun
  | [d1, d2, d3] => { results := [.lit (.bool true)], args := [d1, d2, d3] }
  | _ => none }
def deviceOverRow : OpenClaim := { program := "ytdbbkaeoinalpaagreat", sum := "6a2968c6c9a72bf3d86320016be22912645dec6eb1dc728ec5e646b92b888aac", func := "concertina/concertinalaw20.DeviceOver", spec := "deviceOver", inPlace := ["slices.overlaps[concertina/api.Run]", "math.Float64bits", "math.Float64frombits", "maps.clone", "internal/bytealg.MakeNoZero", "slices.overlaps[int]", "slices.overlaps[concertina/node.Kid]", "slices.overlaps[*concertina/tree.branch]", "slices.overlaps[concertina/api.Place]"], unfollowed := true, recurses := true, plainKeys := false, apart := false }
def DeviceOverSaid : Prop := deviceOverRow.holds Tryz.pinned (OpenSpec.ofChange deviceOverSpec)

/-- ITS FALSE NEIGHBOUR: 'it returns false'. Refute it at one input. -/
def deviceOverWrong : ChangeSpec := { name := "deviceOver", fn := fun _ => fun
  | [d1, d2, d3] => { results := [.lit (.bool false)], args := [d1, d2, d3] }
  | _ => none }
def DeviceOverWrongFalsely : Prop := deviceOverRow.holds Tryz.pinned (OpenSpec.ofChange deviceOverWrong)

/-- 'concertinalaw20.DeviceFails': WHATEVER THE INPUT: true; the input reads as it did. -/
def deviceFailsSpec : ChangeSpec := { name := "deviceFails", fn := fun _ => fun
  | [d1, d2, d3] => { results := [.lit (.bool true)], args := [d1, d2, d3] }
  | _ => none }
def deviceFailsRow : OpenClaim := { program := "ytdbbkaeoinalpaagreat", sum := "6a2968c6c9a72bf3d86320016be22912645dec6eb1dc728ec5e646b92b888aac", func := "concertina/concertinalaw20.DeviceFails", spec := "deviceFails", inPlace := ["slices.overlaps[concertina/api.Run]", "math.Float64bits", "math.Float64frombits", "maps.clone", "internal/bytealg.MakeNoZero", "slices.overlaps[int]", "slices.overlaps[concertina/node.Kid]", "slices.overlaps[*concertina/tree.branch]", "slices.overlaps[concertina/api.Place]"], unfollowed := true, recurses := true, plainKeys := false, apart := false }
def DeviceFailsSaid : Prop := deviceFailsRow.holds Tryz.pinned (OpenSpec.ofChange deviceFailsSpec)

/-- ITS FALSE NEIGHBOUR: 'it returns false'. Refute it at one input. -/
def deviceFailsWrong : ChangeSpec := { name := "deviceFails", fn := fun _ => fun
  | [d1, d2, d3] => { results := [.lit (.bool false)], args := [d1, d2, d3] }
  | _ => none }
def DeviceFailsWrongFalsely : Prop := deviceFailsRow.holds Tryz.pinned (OpenSpec.ofChange deviceFailsWrong)

/-- 'concertinalaw20.DeviceBuffer': WHATEVER THE INPUT: true; the input reads as it did. -/
def deviceBufferSpec : ChangeSpec := { name := "deviceBuffer", fn := fun _ => fun
  | [d] => { results := [.lit (.bool true)], args := [d] }
  | _ => none }
def deviceBufferRow : OpenClaim := { program := "ytdbbkaeoinalpaagreat", sum := "6a2968c6c9a72bf3d86320016be22912645dec6eb1dc728ec5e646b92b888aac", func := "concertina/concertinalaw20.DeviceBuffer", spec := "deviceBuffer", inPlace := ["slices.overlaps[concertina/api.Run]", "math.Float64bits", "math.Float64frombits", "maps.clone", "internal/bytealg.MakeNoZero", "slices.overlaps[int]", "slices.overlaps[concertina/node.Kid]", "slices.overlaps[*concertina/tree.branch]", "slices.overlaps[concertina/api.Place]"], unfollowed := true, recurses := true, plainKeys := false, apart := false }
def DeviceBufferSaid : Prop := deviceBufferRow.holds Tryz.pinned (OpenSpec.ofChange deviceBufferSpec)

/-- ITS FALSE NEIGHBOUR: 'it returns false'. Refute it at one input. -/
def deviceBufferWrong : ChangeSpec := { name := "deviceBuffer", fn := fun _ => fun
  | [d] => { results := [.lit (.bool false)], args := [d] }
  | _ => none }
def DeviceBufferWrongFalsely : Prop := deviceBufferRow.holds Tryz.pinned (OpenSpec.ofChange deviceBufferWrong)

/-- 'concertinalaw20.DevicePlays': WHATEVER THE INPUT: true; the input reads as it did. -/
def devicePlaysSpec : ChangeSpec := { name := "devicePlays", fn := fun _ => fun
  | [d1, d2, d3] => { results := [.lit (.bool true)], args := [d1, d2, d3] }
  | _ => none }
def devicePlaysRow : OpenClaim := { program := "ytdbbkaeoinalpaagreat", sum := "6a2968c6c9a72bf3d86320016be22912645dec6eb1dc728ec5e646b92b888aac", func := "concertina/concertinalaw20.DevicePlays", spec := "devicePlays", inPlace := ["slices.overlaps[concertina/api.Run]", "math.Float64bits", "math.Float64frombits", "maps.clone", "internal/bytealg.MakeNoZero", "slices.overlaps[int]", "slices.overlaps[concertina/node.Kid]", "slices.overlaps[*concertina/tree.branch]", "slices.overlaps[concertina/api.Place]"], unfollowed := true, recurses := true, plainKeys := false, apart := false }
def DevicePlaysSaid : Prop := devicePlaysRow.holds Tryz.pinned (OpenSpec.ofChange devicePlaysSpec)

/-- ITS FALSE NEIGHBOUR: 'it returns false'. Refute it at one input. -/
def devicePlaysWrong : ChangeSpec := { name := "devicePlays", fn := fun _ => fun
  | [d1, d2, d3] => { results := [.lit (.bool false)], args := [d1, d2, d3] }
  | _ => none }
def DevicePlaysWrongFalsely : Prop := devicePlaysRow.holds Tryz.pinned (OpenSpec.ofChange devicePlaysWrong)

/-- 'concertinalaw20.DeviceFull': WHATEVER THE INPUT: true; the input reads as it did. -/
def deviceFullSpec : ChangeSpec := { name := "deviceFull", fn := fun _ => fun
  | [d1, d2] => { results := [.lit (.bool true)], args := [d1, d2] }
  | _ => none }
def deviceFullRow : OpenClaim := { program := "ytdbbkaeoinalpaagreat", sum := "6a2968c6c9a72bf3d86320016be22912645dec6eb1dc728ec5e646b92b888aac", func := "concertina/concertinalaw20.DeviceFull", spec := "deviceFull", inPlace := ["slices.overlaps[concertina/api.Run]", "math.Float64bits", "math.Float64frombits", "maps.clone", "internal/bytealg.MakeNoZero", "slices.overlaps[int]", "slices.overlaps[concertina/node.Kid]", "slices.overlaps[*concertina/tree.branch]", "slices.overlaps[concertina/api.Place]"], unfollowed := true, recurses := true, plainKeys := false, apart := false }
def DeviceFullSaid : Prop := deviceFullRow.holds Tryz.pinned (OpenSpec.ofChange deviceFullSpec)

/-- ITS FALSE NEIGHBOUR: 'it returns false'. Refute it at one input. -/
def deviceFullWrong : ChangeSpec := { name := "deviceFull", fn := fun _ => fun
  | [d1, d2] => { results := [.lit (.bool false)], args := [d1, d2] }
  | _ => none }
def DeviceFullWrongFalsely : Prop := deviceFullRow.holds Tryz.pinned (OpenSpec.ofChange deviceFullWrong)

/- THE SECOND FORM. 'bulk': how many values and letters a reading holds, each counted each time it is reached (what is shared counts as often as it is met; a slice's spare places count too). A statement '..UptoSaid' is the law's where the arguments, and the package variables that the reading takes, are together of bulk at most 1048576: NARROWER than '..Said'. Prove '..Said' where nothing that the law and all that it calls make is longer than what came in: it says more and counts as full. Else prove '..UptoSaid'. A law counts once. -/
mutual
def uptoBulk {H : Type} : DataW H → Nat
  | .lit (.string bytes) => bytes.length + 1
  | .lit _ => 1
  | .nil => 1
  | .ptr d => uptoBulk d + 1
  | .slice elems spare => uptoBulkAll elems + uptoBulkAll spare + 1
  | .agg parts => uptoBulkAll parts + 1
  | .iface _ d => uptoBulk d + 1
  | .map entries => uptoBulkEntries entries + 1
  | .held _ => 1
def uptoBulkAll {H : Type} : List (DataW H) → Nat
  | [] => 0
  | d :: r => uptoBulk d + uptoBulkAll r
def uptoBulkEntries {H : Type} : List (Lit × DataW H) → Nat
  | [] => 0
  | x :: r => uptoBulkEntry x + uptoBulkEntries r
def uptoBulkEntry {H : Type} : Lit × DataW H → Nat
  | (.string bytes, d) => bytes.length + uptoBulk d + 1
  | (_, d) => uptoBulk d + 1
 end
def uptoSmall : (H : Type) → List (DataW H) → Bool := fun _ ds => decide (uptoBulkAll ds ≤ 1048576)
def OpenSpec.upto (s : _root_.Go.ChangeSpec) : _root_.Go.OpenSpec := { _root_.Go.OpenSpec.ofChange s with cond := some uptoSmall }

/-- 'concertinalaw22.ScrubReads', WHERE WHAT IT READS IS OF BULK AT MOST 1048576: true; the input reads as it did. -/
def scrubReadsUptoRow : OpenClaim := { program := "ytdbbkaeoinalpaagreat", sum := "6a2968c6c9a72bf3d86320016be22912645dec6eb1dc728ec5e646b92b888aac", func := "concertina/concertinalaw22.ScrubReads", spec := "scrubReads", inPlace := ["slices.overlaps[concertina/api.Run]", "math.Float64bits", "math.Float64frombits", "maps.clone", "internal/bytealg.MakeNoZero", "slices.overlaps[int]", "slices.overlaps[concertina/node.Kid]", "slices.overlaps[*concertina/tree.branch]", "slices.overlaps[concertina/api.Place]"], unfollowed := true, recurses := true, plainKeys := false, apart := false, narrowed := true }
def ScrubReadsUptoSaid : Prop := scrubReadsUptoRow.holds Tryz.pinned (OpenSpec.upto scrubReadsSpec)

/-- 'concertinalaw20.DeviceArgs', WHERE WHAT IT READS IS OF BULK AT MOST 1048576: true; the input reads as it did. -/
def deviceArgsUptoRow : OpenClaim := { program := "ytdbbkaeoinalpaagreat", sum := "6a2968c6c9a72bf3d86320016be22912645dec6eb1dc728ec5e646b92b888aac", func := "concertina/concertinalaw20.DeviceArgs", spec := "deviceArgs", inPlace := ["slices.overlaps[concertina/api.Run]", "math.Float64bits", "math.Float64frombits", "maps.clone", "internal/bytealg.MakeNoZero", "slices.overlaps[int]", "slices.overlaps[concertina/node.Kid]", "slices.overlaps[*concertina/tree.branch]", "slices.overlaps[concertina/api.Place]"], unfollowed := true, recurses := true, plainKeys := false, apart := false, narrowed := true }
def DeviceArgsUptoSaid : Prop := deviceArgsUptoRow.holds Tryz.pinned (OpenSpec.upto deviceArgsSpec)

/-- 'concertinalaw20.DeviceTrims', WHERE WHAT IT READS IS OF BULK AT MOST 1048576: true; the input reads as it did. -/
def deviceTrimsUptoRow : OpenClaim := { program := "ytdbbkaeoinalpaagreat", sum := "6a2968c6c9a72bf3d86320016be22912645dec6eb1dc728ec5e646b92b888aac", func := "concertina/concertinalaw20.DeviceTrims", spec := "deviceTrims", inPlace := ["slices.overlaps[concertina/api.Run]", "math.Float64bits", "math.Float64frombits", "maps.clone", "internal/bytealg.MakeNoZero", "slices.overlaps[int]", "slices.overlaps[concertina/node.Kid]", "slices.overlaps[*concertina/tree.branch]", "slices.overlaps[concertina/api.Place]"], unfollowed := true, recurses := true, plainKeys := false, apart := false, narrowed := true }
def DeviceTrimsUptoSaid : Prop := deviceTrimsUptoRow.holds Tryz.pinned (OpenSpec.upto deviceTrimsSpec)

/-- 'concertinalaw20.DeviceOver', WHERE WHAT IT READS IS OF BULK AT MOST 1048576: true; the input reads as it did. -/
def deviceOverUptoRow : OpenClaim := { program := "ytdbbkaeoinalpaagreat", sum := "6a2968c6c9a72bf3d86320016be22912645dec6eb1dc728ec5e646b92b888aac", func := "concertina/concertinalaw20.DeviceOver", spec := "deviceOver", inPlace := ["slices.overlaps[concertina/api.Run]", "math.Float64bits", "math.Float64frombits", "maps.clone", "internal/bytealg.MakeNoZero", "slices.overlaps[int]", "slices.overlaps[concertina/node.Kid]", "slices.overlaps[*concertina/tree.branch]", "slices.overlaps[concertina/api.Place]"], unfollowed := true, recurses := true, plainKeys := false, apart := false, narrowed := true }
def DeviceOverUptoSaid : Prop := deviceOverUptoRow.holds Tryz.pinned (OpenSpec.upto deviceOverSpec)

/-- 'concertinalaw20.DeviceFails', WHERE WHAT IT READS IS OF BULK AT MOST 1048576: true; the input reads as it did. -/
def deviceFailsUptoRow : OpenClaim := { program := "ytdbbkaeoinalpaagreat", sum := "6a2968c6c9a72bf3d86320016be22912645dec6eb1dc728ec5e646b92b888aac", func := "concertina/concertinalaw20.DeviceFails", spec := "deviceFails", inPlace := ["slices.overlaps[concertina/api.Run]", "math.Float64bits", "math.Float64frombits", "maps.clone", "internal/bytealg.MakeNoZero", "slices.overlaps[int]", "slices.overlaps[concertina/node.Kid]", "slices.overlaps[*concertina/tree.branch]", "slices.overlaps[concertina/api.Place]"], unfollowed := true, recurses := true, plainKeys := false, apart := false, narrowed := true }
def DeviceFailsUptoSaid : Prop := deviceFailsUptoRow.holds Tryz.pinned (OpenSpec.upto deviceFailsSpec)

/-- 'concertinalaw20.DeviceBuffer', WHERE WHAT IT READS IS OF BULK AT MOST 1048576: true; the input reads as it did. -/
def deviceBufferUptoRow : OpenClaim := { program := "ytdbbkaeoinalpaagreat", sum := "6a2968c6c9a72bf3d86320016be22912645dec6eb1dc728ec5e646b92b888aac", func := "concertina/concertinalaw20.DeviceBuffer", spec := "deviceBuffer", inPlace := ["slices.overlaps[concertina/api.Run]", "math.Float64bits", "math.Float64frombits", "maps.clone", "internal/bytealg.MakeNoZero", "slices.overlaps[int]", "slices.overlaps[concertina/node.Kid]", "slices.overlaps[*concertina/tree.branch]", "slices.overlaps[concertina/api.Place]"], unfollowed := true, recurses := true, plainKeys := false, apart := false, narrowed := true }
def DeviceBufferUptoSaid : Prop := deviceBufferUptoRow.holds Tryz.pinned (OpenSpec.upto deviceBufferSpec)

/-- 'concertinalaw20.DevicePlays', WHERE WHAT IT READS IS OF BULK AT MOST 1048576: true; the input reads as it did. -/
def devicePlaysUptoRow : OpenClaim := { program := "ytdbbkaeoinalpaagreat", sum := "6a2968c6c9a72bf3d86320016be22912645dec6eb1dc728ec5e646b92b888aac", func := "concertina/concertinalaw20.DevicePlays", spec := "devicePlays", inPlace := ["slices.overlaps[concertina/api.Run]", "math.Float64bits", "math.Float64frombits", "maps.clone", "internal/bytealg.MakeNoZero", "slices.overlaps[int]", "slices.overlaps[concertina/node.Kid]", "slices.overlaps[*concertina/tree.branch]", "slices.overlaps[concertina/api.Place]"], unfollowed := true, recurses := true, plainKeys := false, apart := false, narrowed := true }
def DevicePlaysUptoSaid : Prop := devicePlaysUptoRow.holds Tryz.pinned (OpenSpec.upto devicePlaysSpec)

/-- 'concertinalaw20.DeviceFull', WHERE WHAT IT READS IS OF BULK AT MOST 1048576: true; the input reads as it did. -/
def deviceFullUptoRow : OpenClaim := { program := "ytdbbkaeoinalpaagreat", sum := "6a2968c6c9a72bf3d86320016be22912645dec6eb1dc728ec5e646b92b888aac", func := "concertina/concertinalaw20.DeviceFull", spec := "deviceFull", inPlace := ["slices.overlaps[concertina/api.Run]", "math.Float64bits", "math.Float64frombits", "maps.clone", "internal/bytealg.MakeNoZero", "slices.overlaps[int]", "slices.overlaps[concertina/node.Kid]", "slices.overlaps[*concertina/tree.branch]", "slices.overlaps[concertina/api.Place]"], unfollowed := true, recurses := true, plainKeys := false, apart := false, narrowed := true }
def DeviceFullUptoSaid : Prop := deviceFullUptoRow.holds Tryz.pinned (OpenSpec.upto deviceFullSpec)

end Rows
end Go.Proofs.YtdbbkaeoinalpaaGreat

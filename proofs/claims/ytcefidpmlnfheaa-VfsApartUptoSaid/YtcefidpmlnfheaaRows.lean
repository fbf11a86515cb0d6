/-
  No cell of these rows narrows 'for every input' (looked for: loops, veiled, ifaces, maps, wideKeys, modest, calm, conditions, laid).
  DERIVED. THE GIVEN ROWS OF THIS SEAT. 5 by the template 'for every input the law returns true; each argument reads behind the call as it read before'; 0 by the template 'total and deterministic' (their statements: YtcefidpmlnfheaaTotals.lean).
  GIVEN WITH THE SEED: the statements are not yours to turn. If you find one false, say at which input.
  Laid BY PROGRAM, IN A SANDBOX (cutbox-rows.mjs): the forced cells as the released guide's own fill.sh prints them over the translation 069bb74eeab1f4f6… (all of the seat's roots in one cut). By AI agents, Wed Nov 11 2026. No macro, syntax, notation, axiom, sorry.
-/
import Derived.Test.YtcefidpmlnfheaaChecked
import GoSem.Claim
import GoSem.ClaimJoined
import GoSem.ClaimMapViews
import Derived.JoinedTies
import Derived.KernelRfl
namespace Go.Proofs.Ytcefidpmlnfheaa
/- THE CELL 'sum', in the pinned program and in every row, IS THE sha256 OF THE DUMP (.gsa) THAT YtcefidpmlnfheaaProg.lean LOADS. Nothing in Lean hashes anything: it is a label: what it is worth is what the hold of that sum in a sandbox is worth. -/
noncomputable def Try.pinned : Pinned := { name := "ytcefidpmlnfheaa", sum := "069bb74eeab1f4f663eb251252c41f14bc6988e87385365db2faf403a83189b8", checked := Try.checked }
namespace Rows
def none {H : Type} : Left H := { results := [], args := [] }

/-- 'purlinlaw10.VfsLimits': WHATEVER THE INPUT: true; the input reads as it did. -/
def vfsLimitsSpec : ChangeSpec := { name := "vfsLimits", fn := fun _ => fun
  | [d] => { results := [.lit (.bool true)], args := [d] }
  | _ => none }
def vfsLimitsRow : OpenClaim := { program := "ytcefidpmlnfheaa", sum := "069bb74eeab1f4f663eb251252c41f14bc6988e87385365db2faf403a83189b8", func := "purlin/purlinlaw10.VfsLimits", spec := "vfsLimits", inPlace := ["internal/bytealg.IndexByteString", "internal/bytealg.IndexString"], unfollowed := true, recurses := true, named := ["internal/bytealg.MaxLen"], apart := false }
def VfsLimitsSaid : Prop := vfsLimitsRow.holds Try.pinned (OpenSpec.ofChange vfsLimitsSpec)

/-- ITS FALSE NEIGHBOUR: 'it returns false'. Refute it at one input. -/
def vfsLimitsWrong : ChangeSpec := { name := "vfsLimits", fn := fun _ => fun
  | [d] => { results := [.lit (.bool false)], args := [d] }
  | _ => none }
def VfsLimitsWrongFalsely : Prop := vfsLimitsRow.holds Try.pinned (OpenSpec.ofChange vfsLimitsWrong)

/-- 'purlinlaw10.VfsSure': WHATEVER THE INPUT: true; the input reads as it did. -/
def vfsSureSpec : ChangeSpec := { name := "vfsSure", fn := fun _ => fun
  | [d1, d2, d3] => { results := [.lit (.bool true)], args := [d1, d2, d3] }
  | _ => none }
def vfsSureRow : OpenClaim := { program := "ytcefidpmlnfheaa", sum := "069bb74eeab1f4f663eb251252c41f14bc6988e87385365db2faf403a83189b8", func := "purlin/purlinlaw10.VfsSure", spec := "vfsSure", inPlace := ["internal/bytealg.IndexByteString", "internal/bytealg.IndexString"], unfollowed := true, recurses := true, named := ["internal/bytealg.MaxLen"], apart := false }
def VfsSureSaid : Prop := vfsSureRow.holds Try.pinned (OpenSpec.ofChange vfsSureSpec)

/-- ITS FALSE NEIGHBOUR: 'it returns false'. Refute it at one input. -/
def vfsSureWrong : ChangeSpec := { name := "vfsSure", fn := fun _ => fun
  | [d1, d2, d3] => { results := [.lit (.bool false)], args := [d1, d2, d3] }
  | _ => none }
def VfsSureWrongFalsely : Prop := vfsSureRow.holds Try.pinned (OpenSpec.ofChange vfsSureWrong)

/-- 'purlinlaw10.VfsPlays': WHATEVER THE INPUT: true; the input reads as it did. -/
def vfsPlaysSpec : ChangeSpec := { name := "vfsPlays", fn := fun _ => fun
  | [d] => { results := [.lit (.bool true)], args := [d] }
  | _ => none }
def vfsPlaysRow : OpenClaim := { program := "ytcefidpmlnfheaa", sum := "069bb74eeab1f4f663eb251252c41f14bc6988e87385365db2faf403a83189b8", func := "purlin/purlinlaw10.VfsPlays", spec := "vfsPlays", inPlace := ["internal/bytealg.IndexByteString", "internal/bytealg.IndexString"], unfollowed := true, recurses := true, named := ["internal/bytealg.MaxLen"], apart := false }
def VfsPlaysSaid : Prop := vfsPlaysRow.holds Try.pinned (OpenSpec.ofChange vfsPlaysSpec)

/-- ITS FALSE NEIGHBOUR: 'it returns false'. Refute it at one input. -/
def vfsPlaysWrong : ChangeSpec := { name := "vfsPlays", fn := fun _ => fun
  | [d] => { results := [.lit (.bool false)], args := [d] }
  | _ => none }
def VfsPlaysWrongFalsely : Prop := vfsPlaysRow.holds Try.pinned (OpenSpec.ofChange vfsPlaysWrong)

/-- 'purlinlaw10.VfsArmed': WHATEVER THE INPUT: true; the input reads as it did. -/
def vfsArmedSpec : ChangeSpec := { name := "vfsArmed", fn := fun _ => fun
  | [d1, d2] => { results := [.lit (.bool true)], args := [d1, d2] }
  | _ => none }
def vfsArmedRow : OpenClaim := { program := "ytcefidpmlnfheaa", sum := "069bb74eeab1f4f663eb251252c41f14bc6988e87385365db2faf403a83189b8", func := "purlin/purlinlaw10.VfsArmed", spec := "vfsArmed", inPlace := ["internal/bytealg.IndexByteString", "internal/bytealg.IndexString"], unfollowed := true, recurses := true, named := ["internal/bytealg.MaxLen"], apart := false }
def VfsArmedSaid : Prop := vfsArmedRow.holds Try.pinned (OpenSpec.ofChange vfsArmedSpec)

/-- ITS FALSE NEIGHBOUR: 'it returns false'. Refute it at one input. -/
def vfsArmedWrong : ChangeSpec := { name := "vfsArmed", fn := fun _ => fun
  | [d1, d2] => { results := [.lit (.bool false)], args := [d1, d2] }
  | _ => none }
def VfsArmedWrongFalsely : Prop := vfsArmedRow.holds Try.pinned (OpenSpec.ofChange vfsArmedWrong)

/-- 'purlinlaw10.VfsApart': WHATEVER THE INPUT: true; the input reads as it did. -/
def vfsApartSpec : ChangeSpec := { name := "vfsApart", fn := fun _ => fun
  | [d1, d2, d3] => { results := [.lit (.bool true)], args := [d1, d2, d3] }
  | _ => none }
def vfsApartRow : OpenClaim := { program := "ytcefidpmlnfheaa", sum := "069bb74eeab1f4f663eb251252c41f14bc6988e87385365db2faf403a83189b8", func := "purlin/purlinlaw10.VfsApart", spec := "vfsApart", inPlace := ["internal/bytealg.IndexByteString", "internal/bytealg.IndexString", "maps.clone"], unfollowed := true, recurses := true, named := ["internal/bytealg.MaxLen"], apart := false }
def VfsApartSaid : Prop := vfsApartRow.holds Try.pinned (OpenSpec.ofChange vfsApartSpec)

/-- ITS FALSE NEIGHBOUR: 'it returns false'. Refute it at one input. -/
def vfsApartWrong : ChangeSpec := { name := "vfsApart", fn := fun _ => fun
  | [d1, d2, d3] => { results := [.lit (.bool false)], args := [d1, d2, d3] }
  | _ => none }
def VfsApartWrongFalsely : Prop := vfsApartRow.holds Try.pinned (OpenSpec.ofChange vfsApartWrong)

/- THE SECOND FORM. 'bulk': how many values and letters a reading holds, each counted each time it is reached (what is shared counts as often as it is met; a slice's spare places count too). A statement '..UptoSaid' is the law's where the arguments, and the package variables that the reading takes, are together of bulk at most 1048576: NARROWER than '..Said'. Prove '..Said' where nothing that the law and all that it calls make is longer than what came in: it says more and counts as full. Else prove '..UptoSaid'. A law counts once. -/
mutual
def uptoBulk {H : Type} : DataW H → Nat
  | .lit (.string bytes) => bytes.length + 1
  | .lit _ => 1
  | .nil => 1
  | .ptr d => uptoBulk d + 1
  | .slice elems spare => uptoBulkAll elems + uptoBulkAll spare + 1
  | .agg parts => uptoBulkAll parts + 1
  | .iface _ d => uptoBulk d + 1
  | .map entries => uptoBulkEntries entries + 1
  | .held _ => 1
def uptoBulkAll {H : Type} : List (DataW H) → Nat
  | [] => 0
  | d :: r => uptoBulk d + uptoBulkAll r
def uptoBulkEntries {H : Type} : List (Lit × DataW H) → Nat
  | [] => 0
  | x :: r => uptoBulkEntry x + uptoBulkEntries r
def uptoBulkEntry {H : Type} : Lit × DataW H → Nat
  | (.string bytes, d) => bytes.length + uptoBulk d + 1
  | (_, d) => uptoBulk d + 1
 end
def uptoSmall : (H : Type) → List (DataW H) → Bool := fun _ ds => decide (uptoBulkAll ds ≤ 1048576)
def OpenSpec.upto (s : _root_.Go.ChangeSpec) : _root_.Go.OpenSpec := { _root_.Go.OpenSpec.ofChange s with cond := some uptoSmall }

/-- 'purlinlaw10.VfsLimits', WHERE WHAT IT READS IS OF BULK AT MOST 1048576: true; the input reads as it did. -/
def vfsLimitsUptoRow : OpenClaim := { program := "ytcefidpmlnfheaa", sum := "069bb74eeab1f4f663eb251252c41f14bc6988e87385365db2faf403a83189b8", func := "purlin/purlinlaw10.VfsLimits", spec := "vfsLimits", inPlace := ["internal/bytealg.IndexByteString", "internal/bytealg.IndexString"], unfollowed := true, recurses := true, named := ["internal/bytealg.MaxLen"], apart := false, narrowed := true }
def VfsLimitsUptoSaid : Prop := vfsLimitsUptoRow.holds Try.pinned (OpenSpec.upto vfsLimitsSpec)

/-- 'purlinlaw10.VfsSure', WHERE WHAT IT READS IS OF BULK AT MOST 1048576: true; the input reads as it did. -/
def vfsSureUptoRow : OpenClaim := { program := "ytcefidpmlnfheaa", sum := "069bb74eeab1f4f663eb251252c41f14bc6988e87385365db2faf403a83189b8", func := "purlin/purlinlaw10.VfsSure", spec := "vfsSure", inPlace := ["internal/bytealg.IndexByteString", "internal/bytealg.IndexString"], unfollowed := true, recurses := true, named := ["internal/bytealg.MaxLen"], apart := false, narrowed := true }
def VfsSureUptoSaid : Prop := vfsSureUptoRow.holds Try.pinned (OpenSpec.upto vfsSureSpec)

/-- 'purlinlaw10.VfsPlays', WHERE WHAT IT READS IS OF BULK AT MOST 1048576: true; the input reads as it did. -/
def vfsPlaysUptoRow : OpenClaim := { program := "ytcefidpmlnfheaa", sum := "069bb74eeab1f4f663eb251252c41f14bc6988e87385365db2faf403a83189b8", func := "purlin/purlinlaw10.VfsPlays", spec := "vfsPlays", inPlace := ["internal/bytealg.IndexByteString", "internal/bytealg.IndexString"], unfollowed := true, recurses := true, named := ["internal/bytealg.MaxLen"], apart := false, narrowed := true }
def VfsPlaysUptoSaid : Prop := vfsPlaysUptoRow.holds Try.pinned (OpenSpec.upto vfsPlaysSpec)

/-- 'purlinlaw10.VfsArmed', WHERE WHAT IT READS IS OF BULK AT MOST 1048576: true; the input reads as it did. -/
def vfsArmedUptoRow : OpenClaim := { program := "ytcefidpmlnfheaa", sum := "069bb74eeab1f4f663eb251252c41f14bc6988e87385365db2faf403a83189b8", func := "purlin/purlinlaw10.VfsArmed", spec := "vfsArmed", inPlace := ["internal/bytealg.IndexByteString", "internal/bytealg.IndexString"], unfollowed := true, recurses := true, named := ["internal/bytealg.MaxLen"], apart := false, narrowed := true }
def VfsArmedUptoSaid : Prop := vfsArmedUptoRow.holds Try.pinned (OpenSpec.upto vfsArmedSpec)

/-- 'purlinlaw10.VfsApart', WHERE WHAT IT READS IS OF BULK AT MOST 1048576: true; the input reads as it did. -/
def vfsApartUptoRow : OpenClaim := { program := "ytcefidpmlnfheaa", sum := "069bb74eeab1f4f663eb251252c41f14bc6988e87385365db2faf403a83189b8", func := "purlin/purlinlaw10.VfsApart", spec := "vfsApart", inPlace := ["internal/bytealg.IndexByteString", "internal/bytealg.IndexString", "maps.clone"], unfollowed := true, recurses := true, named := ["internal/bytealg.MaxLen"], apart := false, narrowed := true }
def VfsApartUptoSaid : Prop := vfsApartUptoRow.holds Try.pinned (OpenSpec.upto vfsApartSpec)

end Rows
end Go.Proofs.Ytcefidpmlnfheaa

/-
  NARROWER THAN 'FOR EVERY INPUT', by the rows' own cells (each row's printed sentence says how): SyntaxForms: laid · SyntaxDeep: laid · SyntaxJoined: laid · SyntaxBinds: laid · SyntaxBroken: laid.
  DERIVED. THE GIVEN ROWS OF THIS SEAT. 5 by the template 'for every input the law returns true; each argument reads behind the call as it read before'; 0 by the template 'total and deterministic' (their statements: YtofhaneggcpdaaaDoorTotals.lean).
  GIVEN WITH THE SEED: the statements are not yours to turn. If you find one false, say at which input.
  Laid BY PROGRAM, IN A SANDBOX (cutbox-rows.mjs): the forced cells as the released guide's own fill.sh prints them over the translation 9b958a6e9b265fe4… (all of the seat's roots in one cut). By AI agents, Wed Nov 11 2026. No macro, syntax, notation, axiom, sorry.
-/
import Derived.Test.YtofhaneggcpdaaaDoorChecked
import GoSem.PinnedTables
import GoSem.Claim
import GoSem.ClaimJoined
import GoSem.ClaimMapViews
import Derived.JoinedTies
import Derived.KernelRfl
namespace Go.Proofs.YtofhaneggcpdaaaDoor
/- THE CELL 'sum', in the pinned program and in every row, IS THE sha256 OF THE DUMP (.gsa) THAT YtofhaneggcpdaaaDoorProg.lean LOADS. Nothing in Lean hashes anything: it is a label: what it is worth is what the hold of that sum in a sandbox is worth. -/
noncomputable def Tryd.pinned : Pinned := { name := "ytofhaneggcpdaaadoor", sum := "9b958a6e9b265fe4f16486441b22dfe7a42698520942547b2e9a06f76b611656", checked := Tryd.checked }
namespace Rows
def none {H : Type} : Left H := { results := [], args := [] }

/- WHAT THE LISTED PACKAGE-LEVEL VARIABLES READ AS WHEN THE CALL BEGINS. Each datum BY PROGRAM (the guide's laid-datum.mjs) off the statement by which the dump's own 'gosem.cut.vars' lays the variable. In a bare row this is a premise. The card (YtofhaneggcpdaaaDoorCards.lean) ties it to the program's text. -/
def laid_unicode_utf8_acceptRanges {H : Type} : DataW H := .agg [.agg [.lit (.int .u8 128), .lit (.int .u8 191)], .agg [.lit (.int .u8 160), .lit (.int .u8 191)], .agg [.lit (.int .u8 128), .lit (.int .u8 159)], .agg [.lit (.int .u8 144), .lit (.int .u8 191)], .agg [.lit (.int .u8 128), .lit (.int .u8 143)], .agg [.lit (.int .u8 0), .lit (.int .u8 0)], .agg [.lit (.int .u8 0), .lit (.int .u8 0)], .agg [.lit (.int .u8 0), .lit (.int .u8 0)], .agg [.lit (.int .u8 0), .lit (.int .u8 0)], .agg [.lit (.int .u8 0), .lit (.int .u8 0)], .agg [.lit (.int .u8 0), .lit (.int .u8 0)], .agg [.lit (.int .u8 0), .lit (.int .u8 0)], .agg [.lit (.int .u8 0), .lit (.int .u8 0)], .agg [.lit (.int .u8 0), .lit (.int .u8 0)], .agg [.lit (.int .u8 0), .lit (.int .u8 0)], .agg [.lit (.int .u8 0), .lit (.int .u8 0)]]
/-- One of Go's own tables, pinned by name: the form's constant. -/
def laid_unicode_utf8_first : DataW Unit := Go.Pinned.utf8First

/-- 'purlinlaw05.SyntaxForms': WHATEVER THE INPUT: true; the input reads as it did. -/
def syntaxFormsSpec : ChangeSpec := { name := "syntaxForms", fn := fun _ => fun
  | [d] => { results := [.lit (.bool true)], args := [d] }
  | _ => none }
def syntaxFormsRow : OpenClaim := { program := "ytofhaneggcpdaaadoor", sum := "9b958a6e9b265fe4f16486441b22dfe7a42698520942547b2e9a06f76b611656", func := "purlin/purlinlaw05.SyntaxForms", spec := "syntaxForms", inPlace := ["internal/bytealg.IndexByteString", "internal/bytealg.IndexString", "internal/abi.NoEscape"], unfollowed := true, recurses := true, named := ["internal/bytealg.MaxLen", "unicode/utf8.first", "unicode/utf8.acceptRanges"], apart := false, laid := [("unicode/utf8.acceptRanges", laid_unicode_utf8_acceptRanges), ("unicode/utf8.first", laid_unicode_utf8_first)] }
def SyntaxFormsSaid : Prop := syntaxFormsRow.holds Tryd.pinned (OpenSpec.ofChange syntaxFormsSpec)

/-- ITS FALSE NEIGHBOUR: 'it returns false'. Refute it at one input. -/
def syntaxFormsWrong : ChangeSpec := { name := "syntaxForms", fn := fun _ => fun
  | [d] => { results := [.lit (.bool false)], args := [d] }
  | _ => none }
def SyntaxFormsWrongFalsely : Prop := syntaxFormsRow.holds Tryd.pinned (OpenSpec.ofChange syntaxFormsWrong)

/-- 'purlinlaw05.SyntaxDeep': WHATEVER THE INPUT: true; the input reads as it did. -/
def syntaxDeepSpec : ChangeSpec := { name := "syntaxDeep", fn := fun _ => fun
  | [d1, d2] => { results := [.lit (.bool true)], args := [d1, d2] }
  | _ => none }
def syntaxDeepRow : OpenClaim := { program := "ytofhaneggcpdaaadoor", sum := "9b958a6e9b265fe4f16486441b22dfe7a42698520942547b2e9a06f76b611656", func := "purlin/purlinlaw05.SyntaxDeep", spec := "syntaxDeep", inPlace := ["internal/bytealg.IndexByteString", "internal/bytealg.IndexString", "internal/abi.NoEscape"], unfollowed := true, recurses := true, named := ["internal/bytealg.MaxLen", "unicode/utf8.first", "unicode/utf8.acceptRanges"], apart := false, laid := [("unicode/utf8.acceptRanges", laid_unicode_utf8_acceptRanges), ("unicode/utf8.first", laid_unicode_utf8_first)] }
def SyntaxDeepSaid : Prop := syntaxDeepRow.holds Tryd.pinned (OpenSpec.ofChange syntaxDeepSpec)

/-- ITS FALSE NEIGHBOUR: 'it returns false'. Refute it at one input. -/
def syntaxDeepWrong : ChangeSpec := { name := "syntaxDeep", fn := fun _ => fun
  | [d1, d2] => { results := [.lit (.bool false)], args := [d1, d2] }
  | _ => none }
def SyntaxDeepWrongFalsely : Prop := syntaxDeepRow.holds Tryd.pinned (OpenSpec.ofChange syntaxDeepWrong)

/-- 'purlinlaw05.SyntaxJoined': WHATEVER THE INPUT: true; the input reads as it did. -/
def syntaxJoinedSpec : ChangeSpec := { name := "syntaxJoined", fn := fun _ => fun
  | [d1, d2] => { results := [.lit (.bool true)], args := [d1, d2] }
  | _ => none }
def syntaxJoinedRow : OpenClaim := { program := "ytofhaneggcpdaaadoor", sum := "9b958a6e9b265fe4f16486441b22dfe7a42698520942547b2e9a06f76b611656", func := "purlin/purlinlaw05.SyntaxJoined", spec := "syntaxJoined", inPlace := ["internal/bytealg.IndexByteString", "internal/bytealg.IndexString", "internal/abi.NoEscape"], unfollowed := true, recurses := true, named := ["internal/bytealg.MaxLen", "unicode/utf8.first", "unicode/utf8.acceptRanges"], apart := false, laid := [("unicode/utf8.acceptRanges", laid_unicode_utf8_acceptRanges), ("unicode/utf8.first", laid_unicode_utf8_first)] }
def SyntaxJoinedSaid : Prop := syntaxJoinedRow.holds Tryd.pinned (OpenSpec.ofChange syntaxJoinedSpec)

/-- ITS FALSE NEIGHBOUR: 'it returns false'. Refute it at one input. -/
def syntaxJoinedWrong : ChangeSpec := { name := "syntaxJoined", fn := fun _ => fun
  | [d1, d2] => { results := [.lit (.bool false)], args := [d1, d2] }
  | _ => none }
def SyntaxJoinedWrongFalsely : Prop := syntaxJoinedRow.holds Tryd.pinned (OpenSpec.ofChange syntaxJoinedWrong)

/-- 'purlinlaw05.SyntaxBinds': WHATEVER THE INPUT: true; the input reads as it did. -/
def syntaxBindsSpec : ChangeSpec := { name := "syntaxBinds", fn := fun _ => fun
  | [d1, d2] => { results := [.lit (.bool true)], args := [d1, d2] }
  | _ => none }
def syntaxBindsRow : OpenClaim := { program := "ytofhaneggcpdaaadoor", sum := "9b958a6e9b265fe4f16486441b22dfe7a42698520942547b2e9a06f76b611656", func := "purlin/purlinlaw05.SyntaxBinds", spec := "syntaxBinds", inPlace := ["internal/bytealg.IndexByteString", "internal/bytealg.IndexString", "internal/abi.NoEscape"], unfollowed := true, recurses := true, named := ["internal/bytealg.MaxLen", "unicode/utf8.first", "unicode/utf8.acceptRanges"], apart := false, laid := [("unicode/utf8.acceptRanges", laid_unicode_utf8_acceptRanges), ("unicode/utf8.first", laid_unicode_utf8_first)] }
def SyntaxBindsSaid : Prop := syntaxBindsRow.holds Tryd.pinned (OpenSpec.ofChange syntaxBindsSpec)

/-- ITS FALSE NEIGHBOUR: 'it returns false'. Refute it at one input. -/
def syntaxBindsWrong : ChangeSpec := { name := "syntaxBinds", fn := fun _ => fun
  | [d1, d2] => { results := [.lit (.bool false)], args := [d1, d2] }
  | _ => none }
def SyntaxBindsWrongFalsely : Prop := syntaxBindsRow.holds Tryd.pinned (OpenSpec.ofChange syntaxBindsWrong)

/-- 'purlinlaw05.SyntaxBroken': WHATEVER THE INPUT: true; the input reads as it did. -/
def syntaxBrokenSpec : ChangeSpec := { name := "syntaxBroken", fn := fun _ => fun
  | [d] => { results := [.lit (.bool true)], args := [d] }
  | _ => none }
def syntaxBrokenRow : OpenClaim := { program := "ytofhaneggcpdaaadoor", sum := "9b958a6e9b265fe4f16486441b22dfe7a42698520942547b2e9a06f76b611656", func := "purlin/purlinlaw05.SyntaxBroken", spec := "syntaxBroken", inPlace := ["internal/bytealg.IndexByteString", "internal/bytealg.IndexString", "internal/abi.NoEscape"], unfollowed := true, recurses := true, named := ["internal/bytealg.MaxLen", "unicode/utf8.first", "unicode/utf8.acceptRanges"], apart := false, laid := [("unicode/utf8.acceptRanges", laid_unicode_utf8_acceptRanges), ("unicode/utf8.first", laid_unicode_utf8_first)] }
def SyntaxBrokenSaid : Prop := syntaxBrokenRow.holds Tryd.pinned (OpenSpec.ofChange syntaxBrokenSpec)

/-- ITS FALSE NEIGHBOUR: 'it returns false'. Refute it at one input. -/
def syntaxBrokenWrong : ChangeSpec := { name := "syntaxBroken", fn := fun _ => fun
  | [d] => { results := [.lit (.bool false)], args := [d] }
  | _ => none }
def SyntaxBrokenWrongFalsely : Prop := syntaxBrokenRow.holds Tryd.pinned (OpenSpec.ofChange syntaxBrokenWrong)

/- THE SECOND FORM. 'bulk': how many values and letters a reading holds, each counted each time it is reached (what is shared counts as often as it is met; a slice's spare places count too). A statement '..UptoSaid' is the law's where the arguments, and the package variables that the reading takes, are together of bulk at most 1048576: NARROWER than '..Said'. Prove '..Said' where nothing that the law and all that it calls make is longer than what came in: it says more and counts as full. Else prove '..UptoSaid'. A law counts once. -/
mutual
def uptoBulk {H : Type} : DataW H → Nat
  | .lit (.string bytes) => bytes.length + 1
  | .lit _ => 1
  | .nil => 1
  | .ptr d => uptoBulk d + 1
  | .slice elems spare => uptoBulkAll elems + uptoBulkAll spare + 1
  | .agg parts => uptoBulkAll parts + 1
  | .iface _ d => uptoBulk d + 1
  | .map entries => uptoBulkEntries entries + 1
  | .held _ => 1
def uptoBulkAll {H : Type} : List (DataW H) → Nat
  | [] => 0
  | d :: r => uptoBulk d + uptoBulkAll r
def uptoBulkEntries {H : Type} : List (Lit × DataW H) → Nat
  | [] => 0
  | x :: r => uptoBulkEntry x + uptoBulkEntries r
def uptoBulkEntry {H : Type} : Lit × DataW H → Nat
  | (.string bytes, d) => bytes.length + uptoBulk d + 1
  | (_, d) => uptoBulk d + 1
 end
def uptoSmall : (H : Type) → List (DataW H) → Bool := fun _ ds => decide (uptoBulkAll ds ≤ 1048576)
def OpenSpec.upto (s : _root_.Go.ChangeSpec) : _root_.Go.OpenSpec := { _root_.Go.OpenSpec.ofChange s with cond := some uptoSmall }

/-- 'purlinlaw05.SyntaxForms', WHERE WHAT IT READS IS OF BULK AT MOST 1048576: true; the input reads as it did. -/
def syntaxFormsUptoRow : OpenClaim := { program := "ytofhaneggcpdaaadoor", sum := "9b958a6e9b265fe4f16486441b22dfe7a42698520942547b2e9a06f76b611656", func := "purlin/purlinlaw05.SyntaxForms", spec := "syntaxForms", inPlace := ["internal/bytealg.IndexByteString", "internal/bytealg.IndexString", "internal/abi.NoEscape"], unfollowed := true, recurses := true, named := ["internal/bytealg.MaxLen", "unicode/utf8.first", "unicode/utf8.acceptRanges"], apart := false, laid := [("unicode/utf8.acceptRanges", laid_unicode_utf8_acceptRanges), ("unicode/utf8.first", laid_unicode_utf8_first)], narrowed := true }
def SyntaxFormsUptoSaid : Prop := syntaxFormsUptoRow.holds Tryd.pinned (OpenSpec.upto syntaxFormsSpec)

/-- 'purlinlaw05.SyntaxDeep', WHERE WHAT IT READS IS OF BULK AT MOST 1048576: true; the input reads as it did. -/
def syntaxDeepUptoRow : OpenClaim := { program := "ytofhaneggcpdaaadoor", sum := "9b958a6e9b265fe4f16486441b22dfe7a42698520942547b2e9a06f76b611656", func := "purlin/purlinlaw05.SyntaxDeep", spec := "syntaxDeep", inPlace := ["internal/bytealg.IndexByteString", "internal/bytealg.IndexString", "internal/abi.NoEscape"], unfollowed := true, recurses := true, named := ["internal/bytealg.MaxLen", "unicode/utf8.first", "unicode/utf8.acceptRanges"], apart := false, laid := [("unicode/utf8.acceptRanges", laid_unicode_utf8_acceptRanges), ("unicode/utf8.first", laid_unicode_utf8_first)], narrowed := true }
def SyntaxDeepUptoSaid : Prop := syntaxDeepUptoRow.holds Tryd.pinned (OpenSpec.upto syntaxDeepSpec)

/-- 'purlinlaw05.SyntaxJoined', WHERE WHAT IT READS IS OF BULK AT MOST 1048576: true; the input reads as it did. -/
def syntaxJoinedUptoRow : OpenClaim := { program := "ytofhaneggcpdaaadoor", sum := "9b958a6e9b265fe4f16486441b22dfe7a42698520942547b2e9a06f76b611656", func := "purlin/purlinlaw05.SyntaxJoined", spec := "syntaxJoined", inPlace := ["internal/bytealg.IndexByteString", "internal/bytealg.IndexString", "internal/abi.NoEscape"], unfollowed := true, recurses := true, named := ["internal/bytealg.MaxLen", "unicode/utf8.first", "unicode/utf8.acceptRanges"], apart := false, laid := [("unicode/utf8.acceptRanges", laid_unicode_utf8_acceptRanges), ("unicode/utf8.first", laid_unicode_utf8_first)], narrowed := true }
def SyntaxJoinedUptoSaid : Prop := syntaxJoinedUptoRow.holds Tryd.pinned (OpenSpec.upto syntaxJoinedSpec)

/-- 'purlinlaw05.SyntaxBinds', WHERE WHAT IT READS IS OF BULK AT MOST 1048576: true; the input reads as it did. -/
def syntaxBindsUptoRow : OpenClaim := { program := "ytofhaneggcpdaaadoor", sum := "9b958a6e9b265fe4f16486441b22dfe7a42698520942547b2e9a06f76b611656", func := "purlin/purlinlaw05.SyntaxBinds", spec := "syntaxBinds", inPlace := ["internal/bytealg.IndexByteString", "internal/bytealg.IndexString", "internal/abi.NoEscape"], unfollowed := true, recurses := true, named := ["internal/bytealg.MaxLen", "unicode/utf8.first", "unicode/utf8.acceptRanges"], apart := false, laid := [("unicode/utf8.acceptRanges", laid_unicode_utf8_acceptRanges), ("unicode/utf8.first", laid_unicode_utf8_first)], narrowed := true }
def SyntaxBindsUptoSaid : Prop := syntaxBindsUptoRow.holds Tryd.pinned (OpenSpec.upto syntaxBindsSpec)

/-- 'purlinlaw05.SyntaxBroken', WHERE WHAT IT READS IS OF BULK AT MOST 1048576: true; the input reads as it did. -/
def syntaxBrokenUptoRow : OpenClaim := { program := "ytofhaneggcpdaaadoor", sum := "9b958a6e9b265fe4f16486441b22dfe7a42698520942547b2e9a06f76b611656", func := "purlin/purlinlaw05.SyntaxBroken", spec := "syntaxBroken", inPlace := ["internal/bytealg.IndexByteString", "internal/bytealg.IndexString", "internal/abi.NoEscape"], unfollowed := true, recurses := true, named := ["internal/bytealg.MaxLen", "unicode/utf8.first", "unicode/utf8.acceptRanges"], apart := false, laid := [("unicode/utf8.acceptRanges", laid_unicode_utf8_acceptRanges), ("unicode/utf8.first", laid_unicode_utf8_first)], narrowed := true }
def SyntaxBrokenUptoSaid : Prop := syntaxBrokenUptoRow.holds Tryd.pinned (OpenSpec.upto syntaxBrokenSpec)

end Rows
end Go.Proofs.YtofhaneggcpdaaaDoor

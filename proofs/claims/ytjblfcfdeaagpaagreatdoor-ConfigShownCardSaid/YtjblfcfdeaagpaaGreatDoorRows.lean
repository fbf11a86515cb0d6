/-
  NARROWER THAN 'FOR EVERY INPUT', by the rows' own cells (each row's printed sentence says how): SyntaxOwn: laid · ShowBack: laid · ConfigOnce: laid · ConfigDeep: laid · ConfigWide: laid · ConfigApart: laid · ConfigShown: laid.
  DERIVED. THE GIVEN ROWS OF THIS SEAT. 7 by the template 'for every input the law returns true; each argument reads behind the call as it read before'; 0 by the template 'total and deterministic' (their statements: YtjblfcfdeaagpaaGreatDoorTotals.lean).
  GIVEN WITH THE SEED: the statements are not yours to turn. If you find one false, say at which input.
  Laid BY PROGRAM, IN A SANDBOX (cutbox-rows.mjs): the forced cells as the released guide's own fill.sh prints them over the translation 446262a3ba8fae8a… (all of the seat's roots in one cut). By AI agents, Wed Nov 11 2026. No macro, syntax, notation, axiom, sorry.
-/
import Derived.Test.YtjblfcfdeaagpaaGreatDoorChecked
import GoSem.PinnedTables
import GoSem.Claim
import GoSem.ClaimJoined
import GoSem.ClaimMapViews
import Derived.JoinedTies
import Derived.KernelRfl
namespace Go.Proofs.YtjblfcfdeaagpaaGreatDoor
/- THE CELL 'sum', in the pinned program and in every row, IS THE sha256 OF THE DUMP (.gsa) THAT YtjblfcfdeaagpaaGreatDoorProg.lean LOADS. Nothing in Lean hashes anything: it is a label: what it is worth is what the hold of that sum in a sandbox is worth. -/
noncomputable def Tryz.pinned : Pinned := { name := "ytjblfcfdeaagpaagreatdoor", sum := "446262a3ba8fae8acc42631070c4b8ff48abb96f12ebcfd324d2632426a23048", checked := Tryz.checked }
namespace Rows
def none {H : Type} : Left H := { results := [], args := [] }

/- WHAT THE LISTED PACKAGE-LEVEL VARIABLES READ AS WHEN THE CALL BEGINS. Each datum BY PROGRAM (the guide's laid-datum.mjs) off the statement by which the dump's own 'gosem.cut.vars' lays the variable. In a bare row this is a premise. The card (YtjblfcfdeaagpaaGreatDoorCards.lean) ties it to the program's text. -/
def laid_unicode_utf8_acceptRanges {H : Type} : DataW H := .agg [.agg [.lit (.int .u8 128), .lit (.int .u8 191)], .agg [.lit (.int .u8 160), .lit (.int .u8 191)], .agg [.lit (.int .u8 128), .lit (.int .u8 159)], .agg [.lit (.int .u8 144), .lit (.int .u8 191)], .agg [.lit (.int .u8 128), .lit (.int .u8 143)], .agg [.lit (.int .u8 0), .lit (.int .u8 0)], .agg [.lit (.int .u8 0), .lit (.int .u8 0)], .agg [.lit (.int .u8 0), .lit (.int .u8 0)], .agg [.lit (.int .u8 0), .lit (.int .u8 0)], .agg [.lit (.int .u8 0), .lit (.int .u8 0)], .agg [.lit (.int .u8 0), .lit (.int .u8 0)], .agg [.lit (.int .u8 0), .lit (.int .u8 0)], .agg [.lit (.int .u8 0), .lit (.int .u8 0)], .agg [.lit (.int .u8 0), .lit (.int .u8 0)], .agg [.lit (.int .u8 0), .lit (.int .u8 0)], .agg [.lit (.int .u8 0), .lit (.int .u8 0)]]
/-- One of Go's own tables, pinned by name: the form's constant. -/
def laid_unicode_utf8_first : DataW Unit := Go.Pinned.utf8First

/-- 'purlinlaw05.SyntaxOwn': WHATEVER THE INPUT: true; the input reads as it did. -/
def syntaxOwnSpec : ChangeSpec := { name := "syntaxOwn", fn := fun _ => fun
  | [d] => { results := [.lit (.bool true)], args := [d] }
  | _ => none }
def syntaxOwnRow : OpenClaim := { program := "ytjblfcfdeaagpaagreatdoor", sum := "446262a3ba8fae8acc42631070c4b8ff48abb96f12ebcfd324d2632426a23048", func := "purlin/purlinlaw05.SyntaxOwn", spec := "syntaxOwn", inPlace := ["internal/bytealg.IndexByteString", "internal/bytealg.IndexString", "internal/abi.NoEscape"], unfollowed := true, recurses := true, named := ["internal/bytealg.MaxLen", "unicode/utf8.first", "unicode/utf8.acceptRanges"], apart := false, laid := [("unicode/utf8.acceptRanges", laid_unicode_utf8_acceptRanges), ("unicode/utf8.first", laid_unicode_utf8_first)] }
def SyntaxOwnSaid : Prop := syntaxOwnRow.holds Tryz.pinned (OpenSpec.ofChange syntaxOwnSpec)

/-- ITS FALSE NEIGHBOUR: 'it returns false'. Refute it at one input. -/
def syntaxOwnWrong : ChangeSpec := { name := "syntaxOwn", fn := fun _ => fun
  | [d] => { results := [.lit (.bool false)], args := [d] }
  | _ => none }
def SyntaxOwnWrongFalsely : Prop := syntaxOwnRow.holds Tryz.pinned (OpenSpec.ofChange syntaxOwnWrong)

/-- 'purlinlaw06.ShowBack': WHATEVER THE INPUT: true; the input reads as it did. -/
def showBackSpec : ChangeSpec := { name := "showBack", fn := fun _ => fun
  | [d] => { results := [.lit (.bool true)], args := [d] }
  | _ => none }
def showBackRow : OpenClaim := { program := "ytjblfcfdeaagpaagreatdoor", sum := "446262a3ba8fae8acc42631070c4b8ff48abb96f12ebcfd324d2632426a23048", func := "purlin/purlinlaw06.ShowBack", spec := "showBack", inPlace := ["internal/bytealg.IndexByteString", "internal/bytealg.IndexString", "internal/abi.NoEscape", "internal/bytealg.MakeNoZero"], unfollowed := true, recurses := true, named := ["internal/bytealg.MaxLen", "unicode/utf8.first", "unicode/utf8.acceptRanges"], apart := false, laid := [("unicode/utf8.acceptRanges", laid_unicode_utf8_acceptRanges), ("unicode/utf8.first", laid_unicode_utf8_first)] }
def ShowBackSaid : Prop := showBackRow.holds Tryz.pinned (OpenSpec.ofChange showBackSpec)

/-- ITS FALSE NEIGHBOUR: 'it returns false'. Refute it at one input. -/
def showBackWrong : ChangeSpec := { name := "showBack", fn := fun _ => fun
  | [d] => { results := [.lit (.bool false)], args := [d] }
  | _ => none }
def ShowBackWrongFalsely : Prop := showBackRow.holds Tryz.pinned (OpenSpec.ofChange showBackWrong)

/-- 'purlinlaw11.ConfigOnce': WHATEVER THE INPUT: true; the input reads as it did. -/
def configOnceSpec : ChangeSpec := { name := "configOnce", fn := fun _ => fun
  | [d] => { results := [.lit (.bool true)], args := [d] }
  | _ => none }
def configOnceRow : OpenClaim := { program := "ytjblfcfdeaagpaagreatdoor", sum := "446262a3ba8fae8acc42631070c4b8ff48abb96f12ebcfd324d2632426a23048", func := "purlin/purlinlaw11.ConfigOnce", spec := "configOnce", inPlace := ["internal/bytealg.IndexByteString", "internal/bytealg.IndexString", "internal/abi.NoEscape"], unfollowed := true, recurses := true, named := ["internal/bytealg.MaxLen", "unicode/utf8.first", "unicode/utf8.acceptRanges"], apart := false, laid := [("unicode/utf8.acceptRanges", laid_unicode_utf8_acceptRanges), ("unicode/utf8.first", laid_unicode_utf8_first)] }
def ConfigOnceSaid : Prop := configOnceRow.holds Tryz.pinned (OpenSpec.ofChange configOnceSpec)

/-- ITS FALSE NEIGHBOUR: 'it returns false'. Refute it at one input. -/
def configOnceWrong : ChangeSpec := { name := "configOnce", fn := fun _ => fun
  | [d] => { results := [.lit (.bool false)], args := [d] }
  | _ => none }
def ConfigOnceWrongFalsely : Prop := configOnceRow.holds Tryz.pinned (OpenSpec.ofChange configOnceWrong)

/-- 'purlinlaw11.ConfigDeep': WHATEVER THE INPUT: true; the input reads as it did. -/
def configDeepSpec : ChangeSpec := { name := "configDeep", fn := fun _ => fun
  | [d] => { results := [.lit (.bool true)], args := [d] }
  | _ => none }
def configDeepRow : OpenClaim := { program := "ytjblfcfdeaagpaagreatdoor", sum := "446262a3ba8fae8acc42631070c4b8ff48abb96f12ebcfd324d2632426a23048", func := "purlin/purlinlaw11.ConfigDeep", spec := "configDeep", inPlace := ["internal/bytealg.IndexByteString", "internal/bytealg.IndexString", "internal/abi.NoEscape"], unfollowed := true, recurses := true, named := ["internal/bytealg.MaxLen", "unicode/utf8.first", "unicode/utf8.acceptRanges"], apart := false, laid := [("unicode/utf8.acceptRanges", laid_unicode_utf8_acceptRanges), ("unicode/utf8.first", laid_unicode_utf8_first)] }
def ConfigDeepSaid : Prop := configDeepRow.holds Tryz.pinned (OpenSpec.ofChange configDeepSpec)

/-- ITS FALSE NEIGHBOUR: 'it returns false'. Refute it at one input. -/
def configDeepWrong : ChangeSpec := { name := "configDeep", fn := fun _ => fun
  | [d] => { results := [.lit (.bool false)], args := [d] }
  | _ => none }
def ConfigDeepWrongFalsely : Prop := configDeepRow.holds Tryz.pinned (OpenSpec.ofChange configDeepWrong)

/-- 'purlinlaw11.ConfigWide': WHATEVER THE INPUT: true; the input reads as it did. -/
def configWideSpec : ChangeSpec := { name := "configWide", fn := fun _ => fun
  | [d] => { results := [.lit (.bool true)], args := [d] }
  | _ => none }
def configWideRow : OpenClaim := { program := "ytjblfcfdeaagpaagreatdoor", sum := "446262a3ba8fae8acc42631070c4b8ff48abb96f12ebcfd324d2632426a23048", func := "purlin/purlinlaw11.ConfigWide", spec := "configWide", inPlace := ["internal/bytealg.IndexByteString", "internal/bytealg.IndexString", "internal/abi.NoEscape"], unfollowed := true, recurses := true, named := ["internal/bytealg.MaxLen", "unicode/utf8.first", "unicode/utf8.acceptRanges"], apart := false, laid := [("unicode/utf8.acceptRanges", laid_unicode_utf8_acceptRanges), ("unicode/utf8.first", laid_unicode_utf8_first)] }
def ConfigWideSaid : Prop := configWideRow.holds Tryz.pinned (OpenSpec.ofChange configWideSpec)

/-- ITS FALSE NEIGHBOUR: 'it returns false'. Refute it at one input. -/
def configWideWrong : ChangeSpec := { name := "configWide", fn := fun _ => fun
  | [d] => { results := [.lit (.bool false)], args := [d] }
  | _ => none }
def ConfigWideWrongFalsely : Prop := configWideRow.holds Tryz.pinned (OpenSpec.ofChange configWideWrong)

/-- 'purlinlaw11.ConfigApart': WHATEVER THE INPUT: true; the input reads as it did. -/
def configApartSpec : ChangeSpec := { name := "configApart", fn := fun _ => fun
  | [d1, d2] => { results := [.lit (.bool true)], args := [d1, d2] }
  | _ => none }
def configApartRow : OpenClaim := { program := "ytjblfcfdeaagpaagreatdoor", sum := "446262a3ba8fae8acc42631070c4b8ff48abb96f12ebcfd324d2632426a23048", func := "purlin/purlinlaw11.ConfigApart", spec := "configApart", inPlace := ["internal/bytealg.IndexByteString", "internal/bytealg.IndexString", "internal/abi.NoEscape"], unfollowed := true, recurses := true, named := ["internal/bytealg.MaxLen", "unicode/utf8.first", "unicode/utf8.acceptRanges"], apart := false, laid := [("unicode/utf8.acceptRanges", laid_unicode_utf8_acceptRanges), ("unicode/utf8.first", laid_unicode_utf8_first)] }
def ConfigApartSaid : Prop := configApartRow.holds Tryz.pinned (OpenSpec.ofChange configApartSpec)

/-- ITS FALSE NEIGHBOUR: 'it returns false'. Refute it at one input. -/
def configApartWrong : ChangeSpec := { name := "configApart", fn := fun _ => fun
  | [d1, d2] => { results := [.lit (.bool false)], args := [d1, d2] }
  | _ => none }
def ConfigApartWrongFalsely : Prop := configApartRow.holds Tryz.pinned (OpenSpec.ofChange configApartWrong)

/-- 'purlinlaw11.ConfigShown': WHATEVER THE INPUT: true; the input reads as it did. -/
def configShownSpec : ChangeSpec := { name := "configShown", fn := fun _ => fun
  | [d] => { results := [.lit (.bool true)], args := [d] }
  | _ => none }
def configShownRow : OpenClaim := { program := "ytjblfcfdeaagpaagreatdoor", sum := "446262a3ba8fae8acc42631070c4b8ff48abb96f12ebcfd324d2632426a23048", func := "purlin/purlinlaw11.ConfigShown", spec := "configShown", inPlace := ["internal/bytealg.IndexByteString", "internal/bytealg.IndexString", "internal/abi.NoEscape", "internal/bytealg.MakeNoZero"], unfollowed := true, recurses := true, named := ["internal/bytealg.MaxLen", "unicode/utf8.first", "unicode/utf8.acceptRanges"], apart := false, laid := [("unicode/utf8.acceptRanges", laid_unicode_utf8_acceptRanges), ("unicode/utf8.first", laid_unicode_utf8_first)] }
def ConfigShownSaid : Prop := configShownRow.holds Tryz.pinned (OpenSpec.ofChange configShownSpec)

/-- ITS FALSE NEIGHBOUR: 'it returns false'. Refute it at one input. -/
def configShownWrong : ChangeSpec := { name := "configShown", fn := fun _ => fun
  | [d] => { results := [.lit (.bool false)], args := [d] }
  | _ => none }
def ConfigShownWrongFalsely : Prop := configShownRow.holds Tryz.pinned (OpenSpec.ofChange configShownWrong)

/- THE SECOND FORM. 'bulk': how many values and letters a reading holds, each counted each time it is reached (what is shared counts as often as it is met; a slice's spare places count too). A statement '..UptoSaid' is the law's where the arguments, and the package variables that the reading takes, are together of bulk at most 1048576: NARROWER than '..Said'. Prove '..Said' where nothing that the law and all that it calls make is longer than what came in: it says more and counts as full. Else prove '..UptoSaid'. A law counts once. -/
mutual
def uptoBulk {H : Type} : DataW H → Nat
  | .lit (.string bytes) => bytes.length + 1
  | .lit _ => 1
  | .nil => 1
  | .ptr d => uptoBulk d + 1
  | .slice elems spare => uptoBulkAll elems + uptoBulkAll spare + 1
  | .agg parts => uptoBulkAll parts + 1
  | .iface _ d => uptoBulk d + 1
  | .map entries => uptoBulkEntries entries + 1
  | .held _ => 1
def uptoBulkAll {H : Type} : List (DataW H) → Nat
  | [] => 0
  | d :: r => uptoBulk d + uptoBulkAll r
def uptoBulkEntries {H : Type} : List (Lit × DataW H) → Nat
  | [] => 0
  | x :: r => uptoBulkEntry x + uptoBulkEntries r
def uptoBulkEntry {H : Type} : Lit × DataW H → Nat
  | (.string bytes, d) => bytes.length + uptoBulk d + 1
  | (_, d) => uptoBulk d + 1
 end
def uptoSmall : (H : Type) → List (DataW H) → Bool := fun _ ds => decide (uptoBulkAll ds ≤ 1048576)
def OpenSpec.upto (s : _root_.Go.ChangeSpec) : _root_.Go.OpenSpec := { _root_.Go.OpenSpec.ofChange s with cond := some uptoSmall }

/-- 'purlinlaw05.SyntaxOwn', WHERE WHAT IT READS IS OF BULK AT MOST 1048576: true; the input reads as it did. -/
def syntaxOwnUptoRow : OpenClaim := { program := "ytjblfcfdeaagpaagreatdoor", sum := "446262a3ba8fae8acc42631070c4b8ff48abb96f12ebcfd324d2632426a23048", func := "purlin/purlinlaw05.SyntaxOwn", spec := "syntaxOwn", inPlace := ["internal/bytealg.IndexByteString", "internal/bytealg.IndexString", "internal/abi.NoEscape"], unfollowed := true, recurses := true, named := ["internal/bytealg.MaxLen", "unicode/utf8.first", "unicode/utf8.acceptRanges"], apart := false, laid := [("unicode/utf8.acceptRanges", laid_unicode_utf8_acceptRanges), ("unicode/utf8.first", laid_unicode_utf8_first)], narrowed := true }
def SyntaxOwnUptoSaid : Prop := syntaxOwnUptoRow.holds Tryz.pinned (OpenSpec.upto syntaxOwnSpec)

/-- 'purlinlaw06.ShowBack', WHERE WHAT IT READS IS OF BULK AT MOST 1048576: true; the input reads as it did. -/
def showBackUptoRow : OpenClaim := { program := "ytjblfcfdeaagpaagreatdoor", sum := "446262a3ba8fae8acc42631070c4b8ff48abb96f12ebcfd324d2632426a23048", func := "purlin/purlinlaw06.ShowBack", spec := "showBack", inPlace := ["internal/bytealg.IndexByteString", "internal/bytealg.IndexString", "internal/abi.NoEscape", "internal/bytealg.MakeNoZero"], unfollowed := true, recurses := true, named := ["internal/bytealg.MaxLen", "unicode/utf8.first", "unicode/utf8.acceptRanges"], apart := false, laid := [("unicode/utf8.acceptRanges", laid_unicode_utf8_acceptRanges), ("unicode/utf8.first", laid_unicode_utf8_first)], narrowed := true }
def ShowBackUptoSaid : Prop := showBackUptoRow.holds Tryz.pinned (OpenSpec.upto showBackSpec)

/-- 'purlinlaw11.ConfigOnce', WHERE WHAT IT READS IS OF BULK AT MOST 1048576: true; the input reads as it did. -/
def configOnceUptoRow : OpenClaim := { program := "ytjblfcfdeaagpaagreatdoor", sum := "446262a3ba8fae8acc42631070c4b8ff48abb96f12ebcfd324d2632426a23048", func := "purlin/purlinlaw11.ConfigOnce", spec := "configOnce", inPlace := ["internal/bytealg.IndexByteString", "internal/bytealg.IndexString", "internal/abi.NoEscape"], unfollowed := true, recurses := true, named := ["internal/bytealg.MaxLen", "unicode/utf8.first", "unicode/utf8.acceptRanges"], apart := false, laid := [("unicode/utf8.acceptRanges", laid_unicode_utf8_acceptRanges), ("unicode/utf8.first", laid_unicode_utf8_first)], narrowed := true }
def ConfigOnceUptoSaid : Prop := configOnceUptoRow.holds Tryz.pinned (OpenSpec.upto configOnceSpec)

/-- 'purlinlaw11.ConfigDeep', WHERE WHAT IT READS IS OF BULK AT MOST 1048576: true; the input reads as it did. -/
def configDeepUptoRow : OpenClaim := { program := "ytjblfcfdeaagpaagreatdoor", sum := "446262a3ba8fae8acc42631070c4b8ff48abb96f12ebcfd324d2632426a23048", func := "purlin/purlinlaw11.ConfigDeep", spec := "configDeep", inPlace := ["internal/bytealg.IndexByteString", "internal/bytealg.IndexString", "internal/abi.NoEscape"], unfollowed := true, recurses := true, named := ["internal/bytealg.MaxLen", "unicode/utf8.first", "unicode/utf8.acceptRanges"], apart := false, laid := [("unicode/utf8.acceptRanges", laid_unicode_utf8_acceptRanges), ("unicode/utf8.first", laid_unicode_utf8_first)], narrowed := true }
def ConfigDeepUptoSaid : Prop := configDeepUptoRow.holds Tryz.pinned (OpenSpec.upto configDeepSpec)

/-- 'purlinlaw11.ConfigWide', WHERE WHAT IT READS IS OF BULK AT MOST 1048576: true; the input reads as it did. -/
def configWideUptoRow : OpenClaim := { program := "ytjblfcfdeaagpaagreatdoor", sum := "446262a3ba8fae8acc42631070c4b8ff48abb96f12ebcfd324d2632426a23048", func := "purlin/purlinlaw11.ConfigWide", spec := "configWide", inPlace := ["internal/bytealg.IndexByteString", "internal/bytealg.IndexString", "internal/abi.NoEscape"], unfollowed := true, recurses := true, named := ["internal/bytealg.MaxLen", "unicode/utf8.first", "unicode/utf8.acceptRanges"], apart := false, laid := [("unicode/utf8.acceptRanges", laid_unicode_utf8_acceptRanges), ("unicode/utf8.first", laid_unicode_utf8_first)], narrowed := true }
def ConfigWideUptoSaid : Prop := configWideUptoRow.holds Tryz.pinned (OpenSpec.upto configWideSpec)

/-- 'purlinlaw11.ConfigApart', WHERE WHAT IT READS IS OF BULK AT MOST 1048576: true; the input reads as it did. -/
def configApartUptoRow : OpenClaim := { program := "ytjblfcfdeaagpaagreatdoor", sum := "446262a3ba8fae8acc42631070c4b8ff48abb96f12ebcfd324d2632426a23048", func := "purlin/purlinlaw11.ConfigApart", spec := "configApart", inPlace := ["internal/bytealg.IndexByteString", "internal/bytealg.IndexString", "internal/abi.NoEscape"], unfollowed := true, recurses := true, named := ["internal/bytealg.MaxLen", "unicode/utf8.first", "unicode/utf8.acceptRanges"], apart := false, laid := [("unicode/utf8.acceptRanges", laid_unicode_utf8_acceptRanges), ("unicode/utf8.first", laid_unicode_utf8_first)], narrowed := true }
def ConfigApartUptoSaid : Prop := configApartUptoRow.holds Tryz.pinned (OpenSpec.upto configApartSpec)

/-- 'purlinlaw11.ConfigShown', WHERE WHAT IT READS IS OF BULK AT MOST 1048576: true; the input reads as it did. -/
def configShownUptoRow : OpenClaim := { program := "ytjblfcfdeaagpaagreatdoor", sum := "446262a3ba8fae8acc42631070c4b8ff48abb96f12ebcfd324d2632426a23048", func := "purlin/purlinlaw11.ConfigShown", spec := "configShown", inPlace := ["internal/bytealg.IndexByteString", "internal/bytealg.IndexString", "internal/abi.NoEscape", "internal/bytealg.MakeNoZero"], unfollowed := true, recurses := true, named := ["internal/bytealg.MaxLen", "unicode/utf8.first", "unicode/utf8.acceptRanges"], apart := false, laid := [("unicode/utf8.acceptRanges", laid_unicode_utf8_acceptRanges), ("unicode/utf8.first", laid_unicode_utf8_first)], narrowed := true }
def ConfigShownUptoSaid : Prop := configShownUptoRow.holds Tryz.pinned (OpenSpec.upto configShownSpec)

end Rows
end Go.Proofs.YtjblfcfdeaagpaaGreatDoor

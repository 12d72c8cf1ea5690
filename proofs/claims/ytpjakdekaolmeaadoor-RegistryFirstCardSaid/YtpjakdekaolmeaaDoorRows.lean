/-
  NARROWER THAN 'FOR EVERY INPUT', by the rows' own cells (each row's printed sentence says how): RegistryNames: laid · RegistryMakes: laid · RegistryKeeps: laid · RegistryMore: laid · RegistryTwice: laid · RegistryFirst: laid.
  DERIVED. THE GIVEN ROWS OF THIS SEAT. 6 by the template 'for every input the law returns true; each argument reads behind the call as it read before'; 0 by the template 'total and deterministic' (their statements: YtpjakdekaolmeaaDoorTotals.lean).
  GIVEN WITH THE SEED: the statements are not yours to turn. If you find one false, say at which input.
  Laid BY PROGRAM, IN A SANDBOX (cutbox-rows.mjs): the forced cells as the released guide's own fill.sh prints them over the translation 1b8335ae198fdaf2… (all of the seat's roots in one cut). By AI agents, Wed Nov 11 2026. No macro, syntax, notation, axiom, sorry.
-/
import Derived.Test.YtpjakdekaolmeaaDoorChecked
import GoSem.PinnedTables
import GoSem.Claim
import GoSem.ClaimJoined
import GoSem.ClaimMapViews
import Derived.JoinedTies
import Derived.KernelRfl
namespace Go.Proofs.YtpjakdekaolmeaaDoor
/- THE CELL 'sum', in the pinned program and in every row, IS THE sha256 OF THE DUMP (.gsa) THAT YtpjakdekaolmeaaDoorProg.lean LOADS. Nothing in Lean hashes anything: it is a label: what it is worth is what the hold of that sum in a sandbox is worth. -/
noncomputable def Tryd.pinned : Pinned := { name := "ytpjakdekaolmeaadoor", sum := "1b8335ae198fdaf2bdad549a7433d5cc71abdab9c967620419c2aa60a69a422c", checked := Tryd.checked }
namespace Rows
def none {H : Type} : Left H := { results := [], args := [] }

/- WHAT THE LISTED PACKAGE-LEVEL VARIABLES READ AS WHEN THE CALL BEGINS. Each datum BY PROGRAM (the guide's laid-datum.mjs) off the statement by which the dump's own 'gosem.cut.vars' lays the variable. In a bare row this is a premise. The card (YtpjakdekaolmeaaDoorCards.lean) ties it to the program's text. -/
def laid_unicode_utf8_acceptRanges {H : Type} : DataW H := .agg [.agg [.lit (.int .u8 128), .lit (.int .u8 191)], .agg [.lit (.int .u8 160), .lit (.int .u8 191)], .agg [.lit (.int .u8 128), .lit (.int .u8 159)], .agg [.lit (.int .u8 144), .lit (.int .u8 191)], .agg [.lit (.int .u8 128), .lit (.int .u8 143)], .agg [.lit (.int .u8 0), .lit (.int .u8 0)], .agg [.lit (.int .u8 0), .lit (.int .u8 0)], .agg [.lit (.int .u8 0), .lit (.int .u8 0)], .agg [.lit (.int .u8 0), .lit (.int .u8 0)], .agg [.lit (.int .u8 0), .lit (.int .u8 0)], .agg [.lit (.int .u8 0), .lit (.int .u8 0)], .agg [.lit (.int .u8 0), .lit (.int .u8 0)], .agg [.lit (.int .u8 0), .lit (.int .u8 0)], .agg [.lit (.int .u8 0), .lit (.int .u8 0)], .agg [.lit (.int .u8 0), .lit (.int .u8 0)], .agg [.lit (.int .u8 0), .lit (.int .u8 0)]]
/-- One of Go's own tables, pinned by name: the form's constant. -/
def laid_unicode_utf8_first : DataW Unit := Go.Pinned.utf8First

/-- 'pouncelaw19.RegistryNames': WHATEVER THE INPUT: true; the input reads as it did. -/
def registryNamesSpec : ChangeSpec := { name := "registryNames", fn := fun _ => fun
  | [d1, d2, d3] => { results := [.lit (.bool true)], args := [d1, d2, d3] }
  | _ => none }
def registryNamesRow : OpenClaim := { program := "ytpjakdekaolmeaadoor", sum := "1b8335ae198fdaf2bdad549a7433d5cc71abdab9c967620419c2aa60a69a422c", func := "pounce/pouncelaw19.RegistryNames", spec := "registryNames", inPlace := ["internal/bytealg.IndexByteString", "internal/bytealg.IndexString"], unfollowed := true, recurses := true, named := ["unicode/utf8.first", "unicode/utf8.acceptRanges", "internal/bytealg.MaxLen"], apart := false, laid := [("unicode/utf8.acceptRanges", laid_unicode_utf8_acceptRanges), ("unicode/utf8.first", laid_unicode_utf8_first)] }
def RegistryNamesSaid : Prop := registryNamesRow.holds Tryd.pinned (OpenSpec.ofChange registryNamesSpec)

/-- ITS FALSE NEIGHBOUR: 'it returns false'. Refute it at one input. -/
def registryNamesWrong : ChangeSpec := { name := "registryNames", fn := fun _ => fun
  | [d1, d2, d3] => { results := [.lit (.bool false)], args := [d1, d2, d3] }
  | _ => none }
def RegistryNamesWrongFalsely : Prop := registryNamesRow.holds Tryd.pinned (OpenSpec.ofChange registryNamesWrong)

/-- 'pouncelaw19.RegistryMakes': WHATEVER THE INPUT: true; the input reads as it did. -/
def registryMakesSpec : ChangeSpec := { name := "registryMakes", fn := fun _ => fun
  | [d1, d2, d3] => { results := [.lit (.bool true)], args := [d1, d2, d3] }
  | _ => none }
def registryMakesRow : OpenClaim := { program := "ytpjakdekaolmeaadoor", sum := "1b8335ae198fdaf2bdad549a7433d5cc71abdab9c967620419c2aa60a69a422c", func := "pounce/pouncelaw19.RegistryMakes", spec := "registryMakes", inPlace := ["internal/bytealg.IndexByteString", "internal/bytealg.IndexString"], unfollowed := true, recurses := true, named := ["unicode/utf8.first", "unicode/utf8.acceptRanges", "internal/bytealg.MaxLen"], apart := false, laid := [("unicode/utf8.acceptRanges", laid_unicode_utf8_acceptRanges), ("unicode/utf8.first", laid_unicode_utf8_first)] }
def RegistryMakesSaid : Prop := registryMakesRow.holds Tryd.pinned (OpenSpec.ofChange registryMakesSpec)

/-- ITS FALSE NEIGHBOUR: 'it returns false'. Refute it at one input. -/
def registryMakesWrong : ChangeSpec := { name := "registryMakes", fn := fun _ => fun
  | [d1, d2, d3] => { results := [.lit (.bool false)], args := [d1, d2, d3] }
  | _ => none }
def RegistryMakesWrongFalsely : Prop := registryMakesRow.holds Tryd.pinned (OpenSpec.ofChange registryMakesWrong)

/-- 'pouncelaw19.RegistryKeeps': WHATEVER THE INPUT: true; the input reads as it did. -/
def registryKeepsSpec : ChangeSpec := { name := "registryKeeps", fn := fun _ => fun
  | [d1, d2, d3] => { results := [.lit (.bool true)], args := [d1, d2, d3] }
  | _ => none }
def registryKeepsRow : OpenClaim := { program := "ytpjakdekaolmeaadoor", sum := "1b8335ae198fdaf2bdad549a7433d5cc71abdab9c967620419c2aa60a69a422c", func := "pounce/pouncelaw19.RegistryKeeps", spec := "registryKeeps", inPlace := ["internal/bytealg.IndexByteString", "internal/bytealg.IndexString"], unfollowed := true, recurses := true, named := ["unicode/utf8.first", "unicode/utf8.acceptRanges", "internal/bytealg.MaxLen"], apart := false, laid := [("unicode/utf8.acceptRanges", laid_unicode_utf8_acceptRanges), ("unicode/utf8.first", laid_unicode_utf8_first)] }
def RegistryKeepsSaid : Prop := registryKeepsRow.holds Tryd.pinned (OpenSpec.ofChange registryKeepsSpec)

/-- ITS FALSE NEIGHBOUR: 'it returns false'. Refute it at one input. -/
def registryKeepsWrong : ChangeSpec := { name := "registryKeeps", fn := fun _ => fun
  | [d1, d2, d3] => { results := [.lit (.bool false)], args := [d1, d2, d3] }
  | _ => none }
def RegistryKeepsWrongFalsely : Prop := registryKeepsRow.holds Tryd.pinned (OpenSpec.ofChange registryKeepsWrong)

/-- 'pouncelaw19.RegistryMore': WHATEVER THE INPUT: true; the input reads as it did. -/
def registryMoreSpec : ChangeSpec := { name := "registryMore", fn := fun _ => fun
  | [d1, d2, d3, d4] => { results := [.lit (.bool true)], args := [d1, d2, d3, d4] }
  | _ => none }
def registryMoreRow : OpenClaim := { program := "ytpjakdekaolmeaadoor", sum := "1b8335ae198fdaf2bdad549a7433d5cc71abdab9c967620419c2aa60a69a422c", func := "pounce/pouncelaw19.RegistryMore", spec := "registryMore", inPlace := ["internal/bytealg.IndexByteString", "internal/bytealg.IndexString"], unfollowed := true, recurses := true, named := ["unicode/utf8.first", "unicode/utf8.acceptRanges", "internal/bytealg.MaxLen"], apart := false, laid := [("unicode/utf8.acceptRanges", laid_unicode_utf8_acceptRanges), ("unicode/utf8.first", laid_unicode_utf8_first)] }
def RegistryMoreSaid : Prop := registryMoreRow.holds Tryd.pinned (OpenSpec.ofChange registryMoreSpec)

/-- ITS FALSE NEIGHBOUR: 'it returns false'. Refute it at one input. -/
def registryMoreWrong : ChangeSpec := { name := "registryMore", fn := fun _ => fun
  | [d1, d2, d3, d4] => { results := [.lit (.bool false)], args := [d1, d2, d3, d4] }
  | _ => none }
def RegistryMoreWrongFalsely : Prop := registryMoreRow.holds Tryd.pinned (OpenSpec.ofChange registryMoreWrong)

/-- 'pouncelaw19.RegistryTwice': WHATEVER THE INPUT: true; the input reads as it did. -/
def registryTwiceSpec : ChangeSpec := { name := "registryTwice", fn := fun _ => fun
  | [d1, d2, d3] => { results := [.lit (.bool true)], args := [d1, d2, d3] }
  | _ => none }
def registryTwiceRow : OpenClaim := { program := "ytpjakdekaolmeaadoor", sum := "1b8335ae198fdaf2bdad549a7433d5cc71abdab9c967620419c2aa60a69a422c", func := "pounce/pouncelaw19.RegistryTwice", spec := "registryTwice", inPlace := ["internal/bytealg.IndexByteString", "internal/bytealg.IndexString"], unfollowed := true, recurses := true, named := ["unicode/utf8.first", "unicode/utf8.acceptRanges", "internal/bytealg.MaxLen"], apart := false, laid := [("unicode/utf8.acceptRanges", laid_unicode_utf8_acceptRanges), ("unicode/utf8.first", laid_unicode_utf8_first)] }
def RegistryTwiceSaid : Prop := registryTwiceRow.holds Tryd.pinned (OpenSpec.ofChange registryTwiceSpec)

/-- ITS FALSE NEIGHBOUR: 'it returns false'. Refute it at one input. -/
def registryTwiceWrong : ChangeSpec := { name := "registryTwice", fn := fun _ => fun
  | [d1, d2, d3] => { results := [.lit (.bool false)], args := [d1, d2, d3] }
  | _ => none }
def RegistryTwiceWrongFalsely : Prop := registryTwiceRow.holds Tryd.pinned (OpenSpec.ofChange registryTwiceWrong)

/-- 'pouncelaw19.RegistryFirst': WHATEVER THE INPUT: true; the input reads as it did. -/
def registryFirstSpec : ChangeSpec := { name := "registryFirst", fn := fun _ => fun
  | [d1, d2] => { results := [.lit (.bool true)], args := [d1, d2] }
  | _ => none }
def registryFirstRow : OpenClaim := { program := "ytpjakdekaolmeaadoor", sum := "1b8335ae198fdaf2bdad549a7433d5cc71abdab9c967620419c2aa60a69a422c", func := "pounce/pouncelaw19.RegistryFirst", spec := "registryFirst", inPlace := ["internal/bytealg.IndexByteString", "internal/bytealg.IndexString"], unfollowed := true, recurses := true, named := ["unicode/utf8.first", "unicode/utf8.acceptRanges", "internal/bytealg.MaxLen"], apart := false, laid := [("unicode/utf8.acceptRanges", laid_unicode_utf8_acceptRanges), ("unicode/utf8.first", laid_unicode_utf8_first)] }
def RegistryFirstSaid : Prop := registryFirstRow.holds Tryd.pinned (OpenSpec.ofChange registryFirstSpec)

/-- ITS FALSE NEIGHBOUR: 'it returns false'. Refute it at one input. -/
def registryFirstWrong : ChangeSpec := { name := "registryFirst", fn := fun _ => fun
  | [d1, d2] => { results := [.lit (.bool false)], args := [d1, d2] }
  | _ => none }
def RegistryFirstWrongFalsely : Prop := registryFirstRow.holds Tryd.pinned (OpenSpec.ofChange registryFirstWrong)

/- THE SECOND FORM. 'bulk': how many values and letters a reading holds, each counted each time it is reached (what is shared counts as often as it is met; a slice's spare places count too). A statement '..UptoSaid' is the law's where the arguments, and the package variables that the reading takes, are together of bulk at most 1048576: NARROWER than '..Said'. Prove '..Said' where nothing that the law and all that it calls make is longer than what came in: it says more and counts as full. Else prove '..UptoSaid'. A law counts once. -/
mutual
def uptoBulk {H : Type} : DataW H → Nat
  | .lit (.string bytes) => bytes.length + 1
  | .lit _ => 1
  | .nil => 1
  | .ptr d => uptoBulk d + 1
  | .slice elems spare => uptoBulkAll elems + uptoBulkAll spare + 1
  | .agg parts => uptoBulkAll parts + 1
  | .iface _ d => uptoBulk d + 1
  | .map entries => uptoBulkEntries entries + 1
  | .held _ => 1
def uptoBulkAll {H : Type} : List (DataW H) → Nat
  | [] => 0
  | d :: r => uptoBulk d + uptoBulkAll r
def uptoBulkEntries {H : Type} : List (Lit × DataW H) → Nat
  | [] => 0
  | x :: r => uptoBulkEntry x + uptoBulkEntries r
def uptoBulkEntry {H : Type} : Lit × DataW H → Nat
  | (.string bytes, d) => bytes.length + uptoBulk d + 1
  | (_, d) => uptoBulk d + 1
 end
def uptoSmall : (H : Type) → List (DataW H) → Bool := fun _ ds => decide (uptoBulkAll ds ≤ 1048576)
def OpenSpec.upto (s : _root_.Go.ChangeSpec) : _root_.Go.OpenSpec := { _root_.Go.OpenSpec.ofChange s with cond := some uptoSmall }

/-- 'pouncelaw19.RegistryNames', WHERE WHAT IT READS IS OF BULK AT MOST 1048576: true; the input reads as it did. -/
def registryNamesUptoRow : OpenClaim := { program := "ytpjakdekaolmeaadoor", sum := "1b8335ae198fdaf2bdad549a7433d5cc71abdab9c967620419c2aa60a69a422c", func := "pounce/pouncelaw19.RegistryNames", spec := "registryNames", inPlace := ["internal/bytealg.IndexByteString", "internal/bytealg.IndexString"], unfollowed := true, recurses := true, named := ["unicode/utf8.first", "unicode/utf8.acceptRanges", "internal/bytealg.MaxLen"], apart := false, laid := [("unicode/utf8.acceptRanges", laid_unicode_utf8_acceptRanges), ("unicode/utf8.first", laid_unicode_utf8_first)], narrowed := true }
def RegistryNamesUptoSaid : Prop := registryNamesUptoRow.holds Tryd.pinned (OpenSpec.upto registryNamesSpec)

/-- 'pouncelaw19.RegistryMakes', WHERE WHAT IT READS IS OF BULK AT MOST 1048576: true; the input reads as it did. -/
def registryMakesUptoRow : OpenClaim := { program := "ytpjakdekaolmeaadoor", sum := "1b8335ae198fdaf2bdad549a7433d5cc71abdab9c967620419c2aa60a69a422c", func := "pounce/pouncelaw19.RegistryMakes", spec := "registryMakes", inPlace := ["internal/bytealg.IndexByteString", "internal/bytealg.IndexString"], unfollowed := true, recurses := true, named := ["unicode/utf8.first", "unicode/utf8.acceptRanges", "internal/bytealg.MaxLen"], apart := false, laid := [("unicode/utf8.acceptRanges", laid_unicode_utf8_acceptRanges), ("unicode/utf8.first", laid_unicode_utf8_first)], narrowed := true }
def RegistryMakesUptoSaid : Prop := registryMakesUptoRow.holds Tryd.pinned (OpenSpec.upto registryMakesSpec)

/-- 'pouncelaw19.RegistryKeeps', WHERE WHAT IT READS IS OF BULK AT MOST 1048576: true; the input reads as it did. -/
def registryKeepsUptoRow : OpenClaim := { program := "ytpjakdekaolmeaadoor", sum := "1b8335ae198fdaf2bdad549a7433d5cc71abdab9c967620419c2aa60a69a422c", func := "pounce/pouncelaw19.RegistryKeeps", spec := "registryKeeps", inPlace := ["internal/bytealg.IndexByteString", "internal/bytealg.IndexString"], unfollowed := true, recurses := true, named := ["unicode/utf8.first", "unicode/utf8.acceptRanges", "internal/bytealg.MaxLen"], apart := false, laid := [("unicode/utf8.acceptRanges", laid_unicode_utf8_acceptRanges), ("unicode/utf8.first", laid_unicode_utf8_first)], narrowed := true }
def RegistryKeepsUptoSaid : Prop := registryKeepsUptoRow.holds Tryd.pinned (OpenSpec.upto registryKeepsSpec)

/-- 'pouncelaw19.RegistryMore', WHERE WHAT IT READS IS OF BULK AT MOST 1048576: true; the input reads as it did. -/
def registryMoreUptoRow : OpenClaim := { program := "ytpjakdekaolmeaadoor", sum := "1b8335ae198fdaf2bdad549a7433d5cc71abdab9c967620419c2aa60a69a422c", func := "pounce/pouncelaw19.RegistryMore", spec := "registryMore", inPlace := ["internal/bytealg.IndexByteString", "internal/bytealg.IndexString"], unfollowed := true, recurses := true, named := ["unicode/utf8.first", "unicode/utf8.acceptRanges", "internal/bytealg.MaxLen"], apart := false, laid := [("unicode/utf8.acceptRanges", laid_unicode_utf8_acceptRanges), ("unicode/utf8.first", laid_unicode_utf8_first)], narrowed := true }
def RegistryMoreUptoSaid : Prop := registryMoreUptoRow.holds Tryd.pinned (OpenSpec.upto registryMoreSpec)

/-- 'pouncelaw19.RegistryTwice', WHERE WHAT IT READS IS OF BULK AT MOST 1048576: true; the input reads as it did. -/
def registryTwiceUptoRow : OpenClaim := { program := "ytpjakdekaolmeaadoor", sum := "1b8335ae198fdaf2bdad549a7433d5cc71abdab9c967620419c2aa60a69a422c", func := "pounce/pouncelaw19.RegistryTwice", spec := "registryTwice", inPlace := ["internal/bytealg.IndexByteString", "internal/bytealg.IndexString"], unfollowed := true, recurses := true, named := ["unicode/utf8.first", "unicode/utf8.acceptRanges", "internal/bytealg.MaxLen"], apart := false, laid := [("unicode/utf8.acceptRanges", laid_unicode_utf8_acceptRanges), ("unicode/utf8.first", laid_unicode_utf8_first)], narrowed := true }
def RegistryTwiceUptoSaid : Prop := registryTwiceUptoRow.holds Tryd.pinned (OpenSpec.upto registryTwiceSpec)

/-- 'pouncelaw19.RegistryFirst', WHERE WHAT IT READS IS OF BULK AT MOST 1048576: true; the input reads as it did. -/
def registryFirstUptoRow : OpenClaim := { program := "ytpjakdekaolmeaadoor", sum := "1b8335ae198fdaf2bdad549a7433d5cc71abdab9c967620419c2aa60a69a422c", func := "pounce/pouncelaw19.RegistryFirst", spec := "registryFirst", inPlace := ["internal/bytealg.IndexByteString", "internal/bytealg.IndexString"], unfollowed := true, recurses := true, named := ["unicode/utf8.first", "unicode/utf8.acceptRanges", "internal/bytealg.MaxLen"], apart := false, laid := [("unicode/utf8.acceptRanges", laid_unicode_utf8_acceptRanges), ("unicode/utf8.first", laid_unicode_utf8_first)], narrowed := true }
def RegistryFirstUptoSaid : Prop := registryFirstUptoRow.holds Tryd.pinned (OpenSpec.upto registryFirstSpec)

end Rows
end Go.Proofs.YtpjakdekaolmeaaDoor

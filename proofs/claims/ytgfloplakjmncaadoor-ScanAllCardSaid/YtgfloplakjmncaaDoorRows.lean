/-
  NARROWER THAN 'FOR EVERY INPUT', by the rows' own cells (each row's printed sentence says how): ScanAll: laid · ScanBegins: laid · ScanJoins: laid · ScanCovers: laid.
  DERIVED. THE GIVEN ROWS OF THIS SEAT. 4 by the template 'for every input the law returns true; each argument reads behind the call as it read before'; 0 by the template 'total and deterministic' (their statements: YtgfloplakjmncaaDoorTotals.lean).
  GIVEN WITH THE SEED: the statements are not yours to turn. If you find one false, say at which input.
  Laid BY PROGRAM, IN A SANDBOX (cutbox-rows.mjs): the forced cells as the released guide's own fill.sh prints them over the translation ea52c51b9843ba44… (all of the seat's roots in one cut). By AI agents, Wed Nov 11 2026. No macro, syntax, notation, axiom, sorry.
-/
import Derived.Test.YtgfloplakjmncaaDoorChecked
import GoSem.PinnedTables
import GoSem.Claim
import GoSem.ClaimJoined
import GoSem.ClaimMapViews
import Derived.JoinedTies
import Derived.KernelRfl
namespace Go.Proofs.YtgfloplakjmncaaDoor
/- THE CELL 'sum', in the pinned program and in every row, IS THE sha256 OF THE DUMP (.gsa) THAT YtgfloplakjmncaaDoorProg.lean LOADS. Nothing in Lean hashes anything: it is a label: what it is worth is what the hold of that sum in a sandbox is worth. -/
noncomputable def Tryd.pinned : Pinned := { name := "ytgfloplakjmncaadoor", sum := "ea52c51b9843ba44df271c2a04296ffc8a2fa05081073c1cc2c0f5eccbc19a44", checked := Tryd.checked }
namespace Rows
def none {H : Type} : Left H := { results := [], args := [] }

/- WHAT THE LISTED PACKAGE-LEVEL VARIABLES READ AS WHEN THE CALL BEGINS. Each datum BY PROGRAM (the guide's laid-datum.mjs) off the statement by which the dump's own 'gosem.cut.vars' lays the variable. In a bare row this is a premise. The card (YtgfloplakjmncaaDoorCards.lean) ties it to the program's text. -/
def laid_unicode_utf8_acceptRanges {H : Type} : DataW H := .agg [.agg [.lit (.int .u8 128), .lit (.int .u8 191)], .agg [.lit (.int .u8 160), .lit (.int .u8 191)], .agg [.lit (.int .u8 128), .lit (.int .u8 159)], .agg [.lit (.int .u8 144), .lit (.int .u8 191)], .agg [.lit (.int .u8 128), .lit (.int .u8 143)], .agg [.lit (.int .u8 0), .lit (.int .u8 0)], .agg [.lit (.int .u8 0), .lit (.int .u8 0)], .agg [.lit (.int .u8 0), .lit (.int .u8 0)], .agg [.lit (.int .u8 0), .lit (.int .u8 0)], .agg [.lit (.int .u8 0), .lit (.int .u8 0)], .agg [.lit (.int .u8 0), .lit (.int .u8 0)], .agg [.lit (.int .u8 0), .lit (.int .u8 0)], .agg [.lit (.int .u8 0), .lit (.int .u8 0)], .agg [.lit (.int .u8 0), .lit (.int .u8 0)], .agg [.lit (.int .u8 0), .lit (.int .u8 0)], .agg [.lit (.int .u8 0), .lit (.int .u8 0)]]
def laid_colophon_class_letters {H : Type} : DataW H := .agg [.agg [.lit (.int .i64 65), .lit (.int .i64 90)], .agg [.lit (.int .i64 97), .lit (.int .i64 122)], .agg [.lit (.int .i64 192), .lit (.int .i64 214)], .agg [.lit (.int .i64 216), .lit (.int .i64 246)], .agg [.lit (.int .i64 248), .lit (.int .i64 591)], .agg [.lit (.int .i64 913), .lit (.int .i64 929)], .agg [.lit (.int .i64 931), .lit (.int .i64 974)], .agg [.lit (.int .i64 1024), .lit (.int .i64 1119)], .agg [.lit (.int .i64 1488), .lit (.int .i64 1514)], .agg [.lit (.int .i64 1568), .lit (.int .i64 1610)], .agg [.lit (.int .i64 2308), .lit (.int .i64 2361)], .agg [.lit (.int .i64 12353), .lit (.int .i64 12438)], .agg [.lit (.int .i64 12449), .lit (.int .i64 12538)], .agg [.lit (.int .i64 19968), .lit (.int .i64 40959)], .agg [.lit (.int .i64 44032), .lit (.int .i64 55203)], .agg [.lit (.int .i64 66560), .lit (.int .i64 66639)], .agg [.lit (.int .i64 131072), .lit (.int .i64 196607)]]
def laid_colophon_class_others {H : Type} : DataW H := .agg [.agg [.lit (.int .i64 48), .lit (.int .i64 57)], .agg [.lit (.int .i64 95), .lit (.int .i64 95)], .agg [.lit (.int .i64 768), .lit (.int .i64 879)]]
/-- One of Go's own tables, pinned by name: the form's constant. -/
def laid_unicode_utf8_first : DataW Unit := Go.Pinned.utf8First

/-- 'colophonlaw10.ScanAll': WHATEVER THE INPUT: true; the input reads as it did. -/
def scanAllSpec : ChangeSpec := { name := "scanAll", fn := fun _ => fun
  | [d1, d2] => { results := [.lit (.bool true)], args := [d1, d2] }
  | _ => none }
def scanAllRow : OpenClaim := { program := "ytgfloplakjmncaadoor", sum := "ea52c51b9843ba44df271c2a04296ffc8a2fa05081073c1cc2c0f5eccbc19a44", func := "colophon/colophonlaw10.ScanAll", spec := "scanAll", inPlace := ["internal/bytealg.IndexByteString", "internal/bytealg.IndexString", "internal/bytealg.CountString"], named := ["unicode/utf8.first", "unicode/utf8.acceptRanges", "internal/bytealg.MaxLen", "colophon/class.letters", "colophon/class.others"], apart := false, laid := [("unicode/utf8.acceptRanges", laid_unicode_utf8_acceptRanges), ("colophon/class.letters", laid_colophon_class_letters), ("colophon/class.others", laid_colophon_class_others), ("unicode/utf8.first", laid_unicode_utf8_first)] }
def ScanAllSaid : Prop := scanAllRow.holds Tryd.pinned (OpenSpec.ofChange scanAllSpec)

/-- ITS FALSE NEIGHBOUR: 'it returns false'. Refute it at one input. -/
def scanAllWrong : ChangeSpec := { name := "scanAll", fn := fun _ => fun
  | [d1, d2] => { results := [.lit (.bool false)], args := [d1, d2] }
  | _ => none }
def ScanAllWrongFalsely : Prop := scanAllRow.holds Tryd.pinned (OpenSpec.ofChange scanAllWrong)

/-- 'colophonlaw10.ScanBegins': WHATEVER THE INPUT: true; the input reads as it did. -/
def scanBeginsSpec : ChangeSpec := { name := "scanBegins", fn := fun _ => fun
  | [d1, d2] => { results := [.lit (.bool true)], args := [d1, d2] }
  | _ => none }
def scanBeginsRow : OpenClaim := { program := "ytgfloplakjmncaadoor", sum := "ea52c51b9843ba44df271c2a04296ffc8a2fa05081073c1cc2c0f5eccbc19a44", func := "colophon/colophonlaw10.ScanBegins", spec := "scanBegins", inPlace := ["internal/bytealg.IndexByteString", "internal/bytealg.IndexString", "internal/bytealg.CountString"], named := ["unicode/utf8.first", "unicode/utf8.acceptRanges", "internal/bytealg.MaxLen", "colophon/class.letters", "colophon/class.others"], apart := false, laid := [("unicode/utf8.acceptRanges", laid_unicode_utf8_acceptRanges), ("colophon/class.letters", laid_colophon_class_letters), ("colophon/class.others", laid_colophon_class_others), ("unicode/utf8.first", laid_unicode_utf8_first)] }
def ScanBeginsSaid : Prop := scanBeginsRow.holds Tryd.pinned (OpenSpec.ofChange scanBeginsSpec)

/-- ITS FALSE NEIGHBOUR: 'it returns false'. Refute it at one input. -/
def scanBeginsWrong : ChangeSpec := { name := "scanBegins", fn := fun _ => fun
  | [d1, d2] => { results := [.lit (.bool false)], args := [d1, d2] }
  | _ => none }
def ScanBeginsWrongFalsely : Prop := scanBeginsRow.holds Tryd.pinned (OpenSpec.ofChange scanBeginsWrong)

/-- 'colophonlaw10.ScanJoins': WHATEVER THE INPUT: true; the input reads as it did. -/
def scanJoinsSpec : ChangeSpec := { name := "scanJoins", fn := fun _ => fun
  | [d1, d2] => { results := [.lit (.bool true)], args := [d1, d2] }
  | _ => none }
def scanJoinsRow : OpenClaim := { program := "ytgfloplakjmncaadoor", sum := "ea52c51b9843ba44df271c2a04296ffc8a2fa05081073c1cc2c0f5eccbc19a44", func := "colophon/colophonlaw10.ScanJoins", spec := "scanJoins", inPlace := ["internal/bytealg.IndexByteString", "internal/bytealg.IndexString", "internal/bytealg.CountString"], named := ["unicode/utf8.first", "unicode/utf8.acceptRanges", "internal/bytealg.MaxLen", "colophon/class.letters", "colophon/class.others"], apart := false, laid := [("unicode/utf8.acceptRanges", laid_unicode_utf8_acceptRanges), ("colophon/class.letters", laid_colophon_class_letters), ("colophon/class.others", laid_colophon_class_others), ("unicode/utf8.first", laid_unicode_utf8_first)] }
def ScanJoinsSaid : Prop := scanJoinsRow.holds Tryd.pinned (OpenSpec.ofChange scanJoinsSpec)

/-- ITS FALSE NEIGHBOUR: 'it returns false'. Refute it at one input. -/
def scanJoinsWrong : ChangeSpec := { name := "scanJoins", fn := fun _ => fun
  | [d1, d2] => { results := [.lit (.bool false)], args := [d1, d2] }
  | _ => none }
def ScanJoinsWrongFalsely : Prop := scanJoinsRow.holds Tryd.pinned (OpenSpec.ofChange scanJoinsWrong)

/-- 'colophonlaw10.ScanCovers': WHATEVER THE INPUT: true; the input reads as it did. -/
def scanCoversSpec : ChangeSpec := { name := "scanCovers", fn := fun _ => fun
  | [d] => { results := [.lit (.bool true)], args := [d] }
  | _ => none }
def scanCoversRow : OpenClaim := { program := "ytgfloplakjmncaadoor", sum := "ea52c51b9843ba44df271c2a04296ffc8a2fa05081073c1cc2c0f5eccbc19a44", func := "colophon/colophonlaw10.ScanCovers", spec := "scanCovers", inPlace := ["internal/bytealg.IndexByteString", "internal/bytealg.IndexString", "internal/bytealg.CountString"], named := ["unicode/utf8.first", "unicode/utf8.acceptRanges", "internal/bytealg.MaxLen", "colophon/class.letters", "colophon/class.others"], apart := false, laid := [("unicode/utf8.acceptRanges", laid_unicode_utf8_acceptRanges), ("colophon/class.letters", laid_colophon_class_letters), ("colophon/class.others", laid_colophon_class_others), ("unicode/utf8.first", laid_unicode_utf8_first)] }
def ScanCoversSaid : Prop := scanCoversRow.holds Tryd.pinned (OpenSpec.ofChange scanCoversSpec)

/-- ITS FALSE NEIGHBOUR: 'it returns false'. Refute it at one input. -/
def scanCoversWrong : ChangeSpec := { name := "scanCovers", fn := fun _ => fun
  | [d] => { results := [.lit (.bool false)], args := [d] }
  | _ => none }
def ScanCoversWrongFalsely : Prop := scanCoversRow.holds Tryd.pinned (OpenSpec.ofChange scanCoversWrong)

/- THE SECOND FORM. 'bulk': how many values and letters a reading holds, each counted each time it is reached (what is shared counts as often as it is met; a slice's spare places count too). A statement '..UptoSaid' is the law's where the arguments, and the package variables that the reading takes, are together of bulk at most 1048576: NARROWER than '..Said'. Prove '..Said' where nothing that the law and all that it calls make is longer than what came in: it says more and counts as full. Else prove '..UptoSaid'. A law counts once. -/
mutual
def uptoBulk {H : Type} : DataW H → Nat
  | .lit (.string bytes) => bytes.length + 1
  | .lit _ => 1
  | .nil => 1
  | .ptr d => uptoBulk d + 1
  | .slice elems spare => uptoBulkAll elems + uptoBulkAll spare + 1
  | .agg parts => uptoBulkAll parts + 1
  | .iface _ d => uptoBulk d + 1
  | .map entries => uptoBulkEntries entries + 1
  | .held _ => 1
def uptoBulkAll {H : Type} : List (DataW H) → Nat
  | [] => 0
  | d :: r => uptoBulk d + uptoBulkAll r
def uptoBulkEntries {H : Type} : List (Lit × DataW H) → Nat
  | [] => 0
  | x :: r => uptoBulkEntry x + uptoBulkEntries r
def uptoBulkEntry {H : Type} : Lit × DataW H → Nat
  | (.string bytes, d) => bytes.length + uptoBulk d + 1
  | (_, d) => uptoBulk d + 1
 end
def uptoSmall : (H : Type) → List (DataW H) → Bool := fun _ ds => decide (uptoBulkAll ds ≤ 1048576)
def OpenSpec.upto (s : _root_.Go.ChangeSpec) : _root_.Go.OpenSpec := { _root_.Go.OpenSpec.ofChange s with cond := some uptoSmall }

/-- 'colophonlaw10.ScanAll', WHERE WHAT IT READS IS OF BULK AT MOST 1048576: true; the input reads as it did. -/
def scanAllUptoRow : OpenClaim := { program := "ytgfloplakjmncaadoor", sum := "ea52c51b9843ba44df271c2a04296ffc8a2fa05081073c1cc2c0f5eccbc19a44", func := "colophon/colophonlaw10.ScanAll", spec := "scanAll", inPlace := ["internal/bytealg.IndexByteString", "internal/bytealg.IndexString", "internal/bytealg.CountString"], named := ["unicode/utf8.first", "unicode/utf8.acceptRanges", "internal/bytealg.MaxLen", "colophon/class.letters", "colophon/class.others"], apart := false, laid := [("unicode/utf8.acceptRanges", laid_unicode_utf8_acceptRanges), ("colophon/class.letters", laid_colophon_class_letters), ("colophon/class.others", laid_colophon_class_others), ("unicode/utf8.first", laid_unicode_utf8_first)], narrowed := true }
def ScanAllUptoSaid : Prop := scanAllUptoRow.holds Tryd.pinned (OpenSpec.upto scanAllSpec)

/-- 'colophonlaw10.ScanBegins', WHERE WHAT IT READS IS OF BULK AT MOST 1048576: true; the input reads as it did. -/
def scanBeginsUptoRow : OpenClaim := { program := "ytgfloplakjmncaadoor", sum := "ea52c51b9843ba44df271c2a04296ffc8a2fa05081073c1cc2c0f5eccbc19a44", func := "colophon/colophonlaw10.ScanBegins", spec := "scanBegins", inPlace := ["internal/bytealg.IndexByteString", "internal/bytealg.IndexString", "internal/bytealg.CountString"], named := ["unicode/utf8.first", "unicode/utf8.acceptRanges", "internal/bytealg.MaxLen", "colophon/class.letters", "colophon/class.others"], apart := false, laid := [("unicode/utf8.acceptRanges", laid_unicode_utf8_acceptRanges), ("colophon/class.letters", laid_colophon_class_letters), ("colophon/class.others", laid_colophon_class_others), ("unicode/utf8.first", laid_unicode_utf8_first)], narrowed := true }
def ScanBeginsUptoSaid : Prop := scanBeginsUptoRow.holds Tryd.pinned (OpenSpec.upto scanBeginsSpec)

/-- 'colophonlaw10.ScanJoins', WHERE WHAT IT READS IS OF BULK AT MOST 1048576: true; the input reads as it did. -/
def scanJoinsUptoRow : OpenClaim := { program := "ytgfloplakjmncaadoor", sum := "ea52c51b9843ba44df271c2a04296ffc8a2fa05081073c1cc2c0f5eccbc19a44", func := "colophon/colophonlaw10.ScanJoins", spec := "scanJoins", inPlace := ["internal/bytealg.IndexByteString", "internal/bytealg.IndexString", "internal/bytealg.CountString"], named := ["unicode/utf8.first", "unicode/utf8.acceptRanges", "internal/bytealg.MaxLen", "colophon/class.letters", "colophon/class.others"], apart := false, laid := [("unicode/utf8.acceptRanges", laid_unicode_utf8_acceptRanges), ("colophon/class.letters", laid_colophon_class_letters), ("colophon/class.others", laid_colophon_class_others), ("unicode/utf8.first", laid_unicode_utf8_first)], narrowed := true }
def ScanJoinsUptoSaid : Prop := scanJoinsUptoRow.holds Tryd.pinned (OpenSpec.upto scanJoinsSpec)

/-- 'colophonlaw10.ScanCovers', WHERE WHAT IT READS IS OF BULK AT MOST 1048576: true; the input reads as it did. -/
def scanCoversUptoRow : OpenClaim := { program := "ytgfloplakjmncaadoor", sum := "ea52c51b9843ba44df271c2a04296ffc8a2fa05081073c1cc2c0f5eccbc19a44", func := "colophon/colophonlaw10.ScanCovers", spec := "scanCovers", inPlace := ["internal/bytealg.IndexByteString", "internal/bytealg.IndexString", "internal/bytealg.CountString"], named := ["unicode/utf8.first", "unicode/utf8.acceptRanges", "internal/bytealg.MaxLen", "colophon/class.letters", "colophon/class.others"], apart := false, laid := [("unicode/utf8.acceptRanges", laid_unicode_utf8_acceptRanges), ("colophon/class.letters", laid_colophon_class_letters), ("colophon/class.others", laid_colophon_class_others), ("unicode/utf8.first", laid_unicode_utf8_first)], narrowed := true }
def ScanCoversUptoSaid : Prop := scanCoversUptoRow.holds Tryd.pinned (OpenSpec.upto scanCoversSpec)

end Rows
end Go.Proofs.YtgfloplakjmncaaDoor

/-
  NARROWER THAN 'FOR EVERY INPUT', by the rows' own cells (each row's printed sentence says how): TopCalls: laid · MacroReads: laid · MacroWords: laid · MacroBack: laid · MacroKeeps: laid · MachMore: laid · AllocMeets: laid · AllocApart: laid · AllocRenames: laid · AllocMeans: laid.
  DERIVED. THE GIVEN ROWS OF THIS SEAT. 10 by the template 'for every input the law returns true; each argument reads behind the call as it read before'; 0 by the template 'total and deterministic' (their statements: YthifdcakhdckfaaDoorTotals.lean).
  GIVEN WITH THE SEED: the statements are not yours to turn. If you find one false, say at which input.
  Laid BY PROGRAM, IN A SANDBOX (cutbox-rows.mjs): the forced cells as the released guide's own fill.sh prints them over the translation 6da7148c9bb75d58… (all of the seat's roots in one cut). By AI agents, Wed Nov 11 2026. No macro, syntax, notation, axiom, sorry.
-/
import Derived.Test.YthifdcakhdckfaaDoorChecked
import GoSem.Claim
import GoSem.ClaimJoined
import GoSem.ClaimMapViews
import Derived.JoinedTies
import Derived.KernelRfl
namespace Go.Proofs.YthifdcakhdckfaaDoor
/- THE CELL 'sum', in the pinned program and in every row, IS THE sha256 OF THE DUMP (.gsa) THAT YthifdcakhdckfaaDoorProg.lean LOADS. Nothing in Lean hashes anything: it is a label: what it is worth is what the hold of that sum in a sandbox is worth. -/
noncomputable def Tryd.pinned : Pinned := { name := "ythifdcakhdckfaadoor", sum := "6da7148c9bb75d584ad1e9b6224162615d27bbd63da2e50e6e194df809c49df5", checked := Tryd.checked }
namespace Rows
def none {H : Type} : Left H := { results := [], args := [] }

/- WHAT THE LISTED PACKAGE-LEVEL VARIABLES READ AS WHEN THE CALL BEGINS. Each datum BY PROGRAM (the guide's laid-datum.mjs) off the statement by which the dump's own 'gosem.cut.vars' lays the variable. In a bare row this is a premise. The card (YthifdcakhdckfaaDoorCards.lean) ties it to the program's text. -/
def laid_burin_kind_names {H : Type} : DataW H := .agg [.lit (.string [118, 111, 105, 100]), .lit (.string [99, 104, 97, 114]), .lit (.string [117, 110, 115, 105, 103, 110, 101, 100, 32, 99, 104, 97, 114]), .lit (.string [115, 104, 111, 114, 116]), .lit (.string [117, 110, 115, 105, 103, 110, 101, 100, 32, 115, 104, 111, 114, 116]), .lit (.string [105, 110, 116]), .lit (.string [117, 110, 115, 105, 103, 110, 101, 100, 32, 105, 110, 116]), .lit (.string [108, 111, 110, 103]), .lit (.string [117, 110, 115, 105, 103, 110, 101, 100, 32, 108, 111, 110, 103])]
def laid_burin_mach_given {H : Type} : DataW H := .agg [.lit (.int .i64 7), .lit (.int .i64 6), .lit (.int .i64 2), .lit (.int .i64 1), .lit (.int .i64 8), .lit (.int .i64 9)]
def laid_burin_mach_kept {H : Type} : DataW H := .agg [.lit (.int .i64 3), .lit (.int .i64 5), .lit (.int .i64 12), .lit (.int .i64 13), .lit (.int .i64 14), .lit (.int .i64 15)]
def laid_burin_mach_lost {H : Type} : DataW H := .agg [.lit (.int .i64 1), .lit (.int .i64 2), .lit (.int .i64 6), .lit (.int .i64 7), .lit (.int .i64 8), .lit (.int .i64 9), .lit (.int .i64 10), .lit (.int .i64 11)]
def laid_burin_token_signs {H : Type} : DataW H := .agg [.lit (.string [46, 46, 46]), .lit (.string [60, 60, 61]), .lit (.string [62, 62, 61]), .lit (.string [45, 62]), .lit (.string [43, 43]), .lit (.string [45, 45]), .lit (.string [60, 60]), .lit (.string [62, 62]), .lit (.string [60, 61]), .lit (.string [62, 61]), .lit (.string [61, 61]), .lit (.string [33, 61]), .lit (.string [38, 38]), .lit (.string [124, 124]), .lit (.string [42, 61]), .lit (.string [47, 61]), .lit (.string [37, 61]), .lit (.string [43, 61]), .lit (.string [45, 61]), .lit (.string [38, 61]), .lit (.string [94, 61]), .lit (.string [124, 61]), .lit (.string [35, 35]), .lit (.string [91]), .lit (.string [93]), .lit (.string [40]), .lit (.string [41]), .lit (.string [123]), .lit (.string [125]), .lit (.string [46]), .lit (.string [38]), .lit (.string [42]), .lit (.string [43]), .lit (.string [45]), .lit (.string [126]), .lit (.string [33]), .lit (.string [47]), .lit (.string [37]), .lit (.string [60]), .lit (.string [62]), .lit (.string [94]), .lit (.string [124]), .lit (.string [63]), .lit (.string [58]), .lit (.string [59]), .lit (.string [61]), .lit (.string [44]), .lit (.string [35])]
def laid_burin_arith_signs {H : Type} : DataW H := .agg [.lit (.string []), .lit (.string [43]), .lit (.string [45]), .lit (.string [42]), .lit (.string [47]), .lit (.string [37]), .lit (.string [60, 60]), .lit (.string [62, 62]), .lit (.string [38]), .lit (.string [94]), .lit (.string [124]), .lit (.string [60]), .lit (.string [60, 61]), .lit (.string [61, 61]), .lit (.string [33, 61]), .lit (.string [45]), .lit (.string [126]), .lit (.string [33])]

/-- 'burintop.TopCalls': WHATEVER THE INPUT: true; the input reads as it did. -/
def topCallsSpec : ChangeSpec := { name := "topCalls", fn := fun _ => fun
  | [d1, d2] => { results := [.lit (.bool true)], args := [d1, d2] }
  | _ => none }
def topCallsRow : OpenClaim := { program := "ythifdcakhdckfaadoor", sum := "6da7148c9bb75d584ad1e9b6224162615d27bbd63da2e50e6e194df809c49df5", func := "burin/burintop.TopCalls", spec := "topCalls", inPlace := ["math/bits.Add64"], unfollowed := true, recurses := true, named := ["burin/kind.names", "burin/mach.kept", "burin/mach.given", "burin/mach.lost"], apart := false, laid := [("burin/kind.names", laid_burin_kind_names), ("burin/mach.given", laid_burin_mach_given), ("burin/mach.kept", laid_burin_mach_kept), ("burin/mach.lost", laid_burin_mach_lost)] }
def TopCallsSaid : Prop := topCallsRow.holds Tryd.pinned (OpenSpec.ofChange topCallsSpec)

/-- ITS FALSE NEIGHBOUR: 'it returns false'. Refute it at one input. -/
def topCallsWrong : ChangeSpec := { name := "topCalls", fn := fun _ => fun
  | [d1, d2] => { results := [.lit (.bool false)], args := [d1, d2] }
  | _ => none }
def TopCallsWrongFalsely : Prop := topCallsRow.holds Tryd.pinned (OpenSpec.ofChange topCallsWrong)

/-- 'burinlaw03.MacroReads': WHATEVER THE INPUT: true; the input reads as it did. -/
def macroReadsSpec : ChangeSpec := { name := "macroReads", fn := fun _ => fun
  | [d] => { results := [.lit (.bool true)], args := [d] }
  | _ => none }
def macroReadsRow : OpenClaim := { program := "ythifdcakhdckfaadoor", sum := "6da7148c9bb75d584ad1e9b6224162615d27bbd63da2e50e6e194df809c49df5", func := "burin/burinlaw03.MacroReads", spec := "macroReads", inPlace := ["internal/bytealg.IndexByteString", "internal/bytealg.IndexString", "internal/abi.NoEscape", "internal/bytealg.MakeNoZero"], unfollowed := true, recurses := true, named := ["internal/bytealg.MaxLen", "burin/token.signs"], apart := false, laid := [("burin/token.signs", laid_burin_token_signs)] }
def MacroReadsSaid : Prop := macroReadsRow.holds Tryd.pinned (OpenSpec.ofChange macroReadsSpec)

/-- ITS FALSE NEIGHBOUR: 'it returns false'. Refute it at one input. -/
def macroReadsWrong : ChangeSpec := { name := "macroReads", fn := fun _ => fun
  | [d] => { results := [.lit (.bool false)], args := [d] }
  | _ => none }
def MacroReadsWrongFalsely : Prop := macroReadsRow.holds Tryd.pinned (OpenSpec.ofChange macroReadsWrong)

/-- 'burinlaw03.MacroWords': WHATEVER THE INPUT: true; the input reads as it did. -/
def macroWordsSpec : ChangeSpec := { name := "macroWords", fn := fun _ => fun
  | [d1, d2] => { results := [.lit (.bool true)], args := [d1, d2] }
  | _ => none }
def macroWordsRow : OpenClaim := { program := "ythifdcakhdckfaadoor", sum := "6da7148c9bb75d584ad1e9b6224162615d27bbd63da2e50e6e194df809c49df5", func := "burin/burinlaw03.MacroWords", spec := "macroWords", inPlace := ["internal/bytealg.IndexByteString", "internal/bytealg.IndexString", "internal/abi.NoEscape", "internal/bytealg.MakeNoZero"], unfollowed := true, recurses := true, named := ["internal/bytealg.MaxLen", "burin/token.signs"], apart := false, laid := [("burin/token.signs", laid_burin_token_signs)] }
def MacroWordsSaid : Prop := macroWordsRow.holds Tryd.pinned (OpenSpec.ofChange macroWordsSpec)

/-- ITS FALSE NEIGHBOUR: 'it returns false'. Refute it at one input. -/
def macroWordsWrong : ChangeSpec := { name := "macroWords", fn := fun _ => fun
  | [d1, d2] => { results := [.lit (.bool false)], args := [d1, d2] }
  | _ => none }
def MacroWordsWrongFalsely : Prop := macroWordsRow.holds Tryd.pinned (OpenSpec.ofChange macroWordsWrong)

/-- 'burinlaw03.MacroBack': WHATEVER THE INPUT: true; the input reads as it did. -/
def macroBackSpec : ChangeSpec := { name := "macroBack", fn := fun _ => fun
  | [d] => { results := [.lit (.bool true)], args := [d] }
  | _ => none }
def macroBackRow : OpenClaim := { program := "ythifdcakhdckfaadoor", sum := "6da7148c9bb75d584ad1e9b6224162615d27bbd63da2e50e6e194df809c49df5", func := "burin/burinlaw03.MacroBack", spec := "macroBack", inPlace := ["internal/bytealg.IndexByteString", "internal/bytealg.IndexString", "internal/abi.NoEscape", "internal/bytealg.MakeNoZero"], unfollowed := true, recurses := true, named := ["internal/bytealg.MaxLen", "burin/token.signs"], apart := false, laid := [("burin/token.signs", laid_burin_token_signs)] }
def MacroBackSaid : Prop := macroBackRow.holds Tryd.pinned (OpenSpec.ofChange macroBackSpec)

/-- ITS FALSE NEIGHBOUR: 'it returns false'. Refute it at one input. -/
def macroBackWrong : ChangeSpec := { name := "macroBack", fn := fun _ => fun
  | [d] => { results := [.lit (.bool false)], args := [d] }
  | _ => none }
def MacroBackWrongFalsely : Prop := macroBackRow.holds Tryd.pinned (OpenSpec.ofChange macroBackWrong)

/-- 'burinlaw03.MacroKeeps': WHATEVER THE INPUT: true; the input reads as it did. -/
def macroKeepsSpec : ChangeSpec := { name := "macroKeeps", fn := fun _ => fun
  | [d1, d2] => { results := [.lit (.bool true)], args := [d1, d2] }
  | _ => none }
def macroKeepsRow : OpenClaim := { program := "ythifdcakhdckfaadoor", sum := "6da7148c9bb75d584ad1e9b6224162615d27bbd63da2e50e6e194df809c49df5", func := "burin/burinlaw03.MacroKeeps", spec := "macroKeeps", inPlace := ["internal/bytealg.IndexByteString", "internal/bytealg.IndexString", "internal/abi.NoEscape", "internal/bytealg.MakeNoZero"], unfollowed := true, recurses := true, named := ["internal/bytealg.MaxLen", "burin/token.signs"], apart := false, laid := [("burin/token.signs", laid_burin_token_signs)] }
def MacroKeepsSaid : Prop := macroKeepsRow.holds Tryd.pinned (OpenSpec.ofChange macroKeepsSpec)

/-- ITS FALSE NEIGHBOUR: 'it returns false'. Refute it at one input. -/
def macroKeepsWrong : ChangeSpec := { name := "macroKeeps", fn := fun _ => fun
  | [d1, d2] => { results := [.lit (.bool false)], args := [d1, d2] }
  | _ => none }
def MacroKeepsWrongFalsely : Prop := macroKeepsRow.holds Tryd.pinned (OpenSpec.ofChange macroKeepsWrong)

/-- 'burinlaw19.MachMore': WHATEVER THE INPUT: true; the input reads as it did. -/
def machMoreSpec : ChangeSpec := { name := "machMore", fn := fun _ => fun
  | [d1, d2, d3, d4, d5, d6, d7] => { results := [.lit (.bool true)], args := [d1, d2, d3, d4, d5, d6, d7] }
  | _ => none }
def machMoreRow : OpenClaim := { program := "ythifdcakhdckfaadoor", sum := "6da7148c9bb75d584ad1e9b6224162615d27bbd63da2e50e6e194df809c49df5", func := "burin/burinlaw19.MachMore", spec := "machMore", inPlace := ["math/bits.Add64"], unfollowed := true, recurses := true, named := ["burin/kind.names", "burin/mach.kept", "burin/mach.given", "burin/mach.lost"], apart := false, laid := [("burin/kind.names", laid_burin_kind_names), ("burin/mach.given", laid_burin_mach_given), ("burin/mach.kept", laid_burin_mach_kept), ("burin/mach.lost", laid_burin_mach_lost)] }
def MachMoreSaid : Prop := machMoreRow.holds Tryd.pinned (OpenSpec.ofChange machMoreSpec)

/-- ITS FALSE NEIGHBOUR: 'it returns false'. Refute it at one input. -/
def machMoreWrong : ChangeSpec := { name := "machMore", fn := fun _ => fun
  | [d1, d2, d3, d4, d5, d6, d7] => { results := [.lit (.bool false)], args := [d1, d2, d3, d4, d5, d6, d7] }
  | _ => none }
def MachMoreWrongFalsely : Prop := machMoreRow.holds Tryd.pinned (OpenSpec.ofChange machMoreWrong)

/-- 'burinlaw18.AllocMeets': WHATEVER THE INPUT: true; the input reads as it did. -/
def allocMeetsSpec : ChangeSpec := { name := "allocMeets", fn := fun _ => fun
  | [d1, d2] => { results := [.lit (.bool true)], args := [d1, d2] }
  | _ => none }
def allocMeetsRow : OpenClaim := { program := "ythifdcakhdckfaadoor", sum := "6da7148c9bb75d584ad1e9b6224162615d27bbd63da2e50e6e194df809c49df5", func := "burin/burinlaw18.AllocMeets", spec := "allocMeets", unfollowed := true, recurses := true, named := ["burin/kind.names", "burin/arith.signs"], apart := false, laid := [("burin/kind.names", laid_burin_kind_names), ("burin/arith.signs", laid_burin_arith_signs)] }
def AllocMeetsSaid : Prop := allocMeetsRow.holds Tryd.pinned (OpenSpec.ofChange allocMeetsSpec)

/-- ITS FALSE NEIGHBOUR: 'it returns false'. Refute it at one input. -/
def allocMeetsWrong : ChangeSpec := { name := "allocMeets", fn := fun _ => fun
  | [d1, d2] => { results := [.lit (.bool false)], args := [d1, d2] }
  | _ => none }
def AllocMeetsWrongFalsely : Prop := allocMeetsRow.holds Tryd.pinned (OpenSpec.ofChange allocMeetsWrong)

/-- 'burinlaw18.AllocApart': WHATEVER THE INPUT: true; the input reads as it did. -/
def allocApartSpec : ChangeSpec := { name := "allocApart", fn := fun _ => fun
  | [d1, d2, d3] => { results := [.lit (.bool true)], args := [d1, d2, d3] }
  | _ => none }
def allocApartRow : OpenClaim := { program := "ythifdcakhdckfaadoor", sum := "6da7148c9bb75d584ad1e9b6224162615d27bbd63da2e50e6e194df809c49df5", func := "burin/burinlaw18.AllocApart", spec := "allocApart", unfollowed := true, recurses := true, named := ["burin/kind.names", "burin/arith.signs"], apart := false, laid := [("burin/kind.names", laid_burin_kind_names), ("burin/arith.signs", laid_burin_arith_signs)] }
def AllocApartSaid : Prop := allocApartRow.holds Tryd.pinned (OpenSpec.ofChange allocApartSpec)

/-- ITS FALSE NEIGHBOUR: 'it returns false'. Refute it at one input. -/
def allocApartWrong : ChangeSpec := { name := "allocApart", fn := fun _ => fun
  | [d1, d2, d3] => { results := [.lit (.bool false)], args := [d1, d2, d3] }
  | _ => none }
def AllocApartWrongFalsely : Prop := allocApartRow.holds Tryd.pinned (OpenSpec.ofChange allocApartWrong)

/-- 'burinlaw18.AllocRenames': WHATEVER THE INPUT: true; the input reads as it did. -/
def allocRenamesSpec : ChangeSpec := { name := "allocRenames", fn := fun _ => fun
  | [d1, d2, d3] => { results := [.lit (.bool true)], args := [d1, d2, d3] }
  | _ => none }
def allocRenamesRow : OpenClaim := { program := "ythifdcakhdckfaadoor", sum := "6da7148c9bb75d584ad1e9b6224162615d27bbd63da2e50e6e194df809c49df5", func := "burin/burinlaw18.AllocRenames", spec := "allocRenames", unfollowed := true, recurses := true, named := ["burin/kind.names", "burin/arith.signs"], apart := false, laid := [("burin/kind.names", laid_burin_kind_names), ("burin/arith.signs", laid_burin_arith_signs)] }
def AllocRenamesSaid : Prop := allocRenamesRow.holds Tryd.pinned (OpenSpec.ofChange allocRenamesSpec)

/-- ITS FALSE NEIGHBOUR: 'it returns false'. Refute it at one input. -/
def allocRenamesWrong : ChangeSpec := { name := "allocRenames", fn := fun _ => fun
  | [d1, d2, d3] => { results := [.lit (.bool false)], args := [d1, d2, d3] }
  | _ => none }
def AllocRenamesWrongFalsely : Prop := allocRenamesRow.holds Tryd.pinned (OpenSpec.ofChange allocRenamesWrong)

/-- 'burinlaw18.AllocMeans': WHATEVER THE INPUT: true; the input reads as it did. -/
def allocMeansSpec : ChangeSpec := { name := "allocMeans", fn := fun _ => fun
  | [d1, d2, d3, d4, d5, d6] => { results := [.lit (.bool true)], args := [d1, d2, d3, d4, d5, d6] }
  | _ => none }
def allocMeansRow : OpenClaim := { program := "ythifdcakhdckfaadoor", sum := "6da7148c9bb75d584ad1e9b6224162615d27bbd63da2e50e6e194df809c49df5", func := "burin/burinlaw18.AllocMeans", spec := "allocMeans", unfollowed := true, recurses := true, named := ["burin/kind.names", "burin/arith.signs"], apart := false, laid := [("burin/kind.names", laid_burin_kind_names), ("burin/arith.signs", laid_burin_arith_signs)] }
def AllocMeansSaid : Prop := allocMeansRow.holds Tryd.pinned (OpenSpec.ofChange allocMeansSpec)

/-- ITS FALSE NEIGHBOUR: 'it returns false'. Refute it at one input. -/
def allocMeansWrong : ChangeSpec := { name := "allocMeans", fn := fun _ => fun
  | [d1, d2, d3, d4, d5, d6] => { results := [.lit (.bool false)], args := [d1, d2, d3, d4, d5, d6] }
  | _ => none }
def AllocMeansWrongFalsely : Prop := allocMeansRow.holds Tryd.pinned (OpenSpec.ofChange allocMeansWrong)

/- THE SECOND FORM. 'bulk': how many values and letters a reading holds, each counted each time it is reached (what is shared counts as often as it is met; a slice's spare places count too). A statement '..UptoSaid' is the law's where the arguments, and the package variables that the reading takes, are together of bulk at most 1048576: NARROWER than '..Said'. Prove '..Said' where nothing that the law and all that it calls make is longer than what came in: it says more and counts as full. Else prove '..UptoSaid'. A law counts once. -/
mutual
def uptoBulk {H : Type} : DataW H → Nat
  | .lit (.string bytes) => bytes.length + 1
  | .lit _ => 1
  | .nil => 1
  | .ptr d => uptoBulk d + 1
  | .slice elems spare => uptoBulkAll elems + uptoBulkAll spare + 1
  | .agg parts => uptoBulkAll parts + 1
  | .iface _ d => uptoBulk d + 1
  | .map entries => uptoBulkEntries entries + 1
  | .held _ => 1
def uptoBulkAll {H : Type} : List (DataW H) → Nat
  | [] => 0
  | d :: r => uptoBulk d + uptoBulkAll r
def uptoBulkEntries {H : Type} : List (Lit × DataW H) → Nat
  | [] => 0
  | x :: r => uptoBulkEntry x + uptoBulkEntries r
def uptoBulkEntry {H : Type} : Lit × DataW H → Nat
  | (.string bytes, d) => bytes.length + uptoBulk d + 1
  | (_, d) => uptoBulk d + 1
 end
def uptoSmall : (H : Type) → List (DataW H) → Bool := fun _ ds => decide (uptoBulkAll ds ≤ 1048576)
def OpenSpec.upto (s : _root_.Go.ChangeSpec) : _root_.Go.OpenSpec := { _root_.Go.OpenSpec.ofChange s with cond := some uptoSmall }

/-- 'burintop.TopCalls', WHERE WHAT IT READS IS OF BULK AT MOST 1048576: true; the input reads as it did. -/
def topCallsUptoRow : OpenClaim := { program := "ythifdcakhdckfaadoor", sum := "6da7148c9bb75d584ad1e9b6224162615d27bbd63da2e50e6e194df809c49df5", func := "burin/burintop.TopCalls", spec := "topCalls", inPlace := ["math/bits.Add64"], unfollowed := true, recurses := true, named := ["burin/kind.names", "burin/mach.kept", "burin/mach.given", "burin/mach.lost"], apart := false, laid := [("burin/kind.names", laid_burin_kind_names), ("burin/mach.given", laid_burin_mach_given), ("burin/mach.kept", laid_burin_mach_kept), ("burin/mach.lost", laid_burin_mach_lost)], narrowed := true }
def TopCallsUptoSaid : Prop := topCallsUptoRow.holds Tryd.pinned (OpenSpec.upto topCallsSpec)

/-- 'burinlaw03.MacroReads', WHERE WHAT IT READS IS OF BULK AT MOST 1048576: true; the input reads as it did. -/
def macroReadsUptoRow : OpenClaim := { program := "ythifdcakhdckfaadoor", sum := "6da7148c9bb75d584ad1e9b6224162615d27bbd63da2e50e6e194df809c49df5", func := "burin/burinlaw03.MacroReads", spec := "macroReads", inPlace := ["internal/bytealg.IndexByteString", "internal/bytealg.IndexString", "internal/abi.NoEscape", "internal/bytealg.MakeNoZero"], unfollowed := true, recurses := true, named := ["internal/bytealg.MaxLen", "burin/token.signs"], apart := false, laid := [("burin/token.signs", laid_burin_token_signs)], narrowed := true }
def MacroReadsUptoSaid : Prop := macroReadsUptoRow.holds Tryd.pinned (OpenSpec.upto macroReadsSpec)

/-- 'burinlaw03.MacroWords', WHERE WHAT IT READS IS OF BULK AT MOST 1048576: true; the input reads as it did. -/
def macroWordsUptoRow : OpenClaim := { program := "ythifdcakhdckfaadoor", sum := "6da7148c9bb75d584ad1e9b6224162615d27bbd63da2e50e6e194df809c49df5", func := "burin/burinlaw03.MacroWords", spec := "macroWords", inPlace := ["internal/bytealg.IndexByteString", "internal/bytealg.IndexString", "internal/abi.NoEscape", "internal/bytealg.MakeNoZero"], unfollowed := true, recurses := true, named := ["internal/bytealg.MaxLen", "burin/token.signs"], apart := false, laid := [("burin/token.signs", laid_burin_token_signs)], narrowed := true }
def MacroWordsUptoSaid : Prop := macroWordsUptoRow.holds Tryd.pinned (OpenSpec.upto macroWordsSpec)

/-- 'burinlaw03.MacroBack', WHERE WHAT IT READS IS OF BULK AT MOST 1048576: true; the input reads as it did. -/
def macroBackUptoRow : OpenClaim := { program := "ythifdcakhdckfaadoor", sum := "6da7148c9bb75d584ad1e9b6224162615d27bbd63da2e50e6e194df809c49df5", func := "burin/burinlaw03.MacroBack", spec := "macroBack", inPlace := ["internal/bytealg.IndexByteString", "internal/bytealg.IndexString", "internal/abi.NoEscape", "internal/bytealg.MakeNoZero"], unfollowed := true, recurses := true, named := ["internal/bytealg.MaxLen", "burin/token.signs"], apart := false, laid := [("burin/token.signs", laid_burin_token_signs)], narrowed := true }
def MacroBackUptoSaid : Prop := macroBackUptoRow.holds Tryd.pinned (OpenSpec.upto macroBackSpec)

/-- 'burinlaw03.MacroKeeps', WHERE WHAT IT READS IS OF BULK AT MOST 1048576: true; the input reads as it did. -/
def macroKeepsUptoRow : OpenClaim := { program := "ythifdcakhdckfaadoor", sum := "6da7148c9bb75d584ad1e9b6224162615d27bbd63da2e50e6e194df809c49df5", func := "burin/burinlaw03.MacroKeeps", spec := "macroKeeps", inPlace := ["internal/bytealg.IndexByteString", "internal/bytealg.IndexString", "internal/abi.NoEscape", "internal/bytealg.MakeNoZero"], unfollowed := true, recurses := true, named := ["internal/bytealg.MaxLen", "burin/token.signs"], apart := false, laid := [("burin/token.signs", laid_burin_token_signs)], narrowed := true }
def MacroKeepsUptoSaid : Prop := macroKeepsUptoRow.holds Tryd.pinned (OpenSpec.upto macroKeepsSpec)

/-- 'burinlaw19.MachMore', WHERE WHAT IT READS IS OF BULK AT MOST 1048576: true; the input reads as it did. -/
def machMoreUptoRow : OpenClaim := { program := "ythifdcakhdckfaadoor", sum := "6da7148c9bb75d584ad1e9b6224162615d27bbd63da2e50e6e194df809c49df5", func := "burin/burinlaw19.MachMore", spec := "machMore", inPlace := ["math/bits.Add64"], unfollowed := true, recurses := true, named := ["burin/kind.names", "burin/mach.kept", "burin/mach.given", "burin/mach.lost"], apart := false, laid := [("burin/kind.names", laid_burin_kind_names), ("burin/mach.given", laid_burin_mach_given), ("burin/mach.kept", laid_burin_mach_kept), ("burin/mach.lost", laid_burin_mach_lost)], narrowed := true }
def MachMoreUptoSaid : Prop := machMoreUptoRow.holds Tryd.pinned (OpenSpec.upto machMoreSpec)

/-- 'burinlaw18.AllocMeets', WHERE WHAT IT READS IS OF BULK AT MOST 1048576: true; the input reads as it did. -/
def allocMeetsUptoRow : OpenClaim := { program := "ythifdcakhdckfaadoor", sum := "6da7148c9bb75d584ad1e9b6224162615d27bbd63da2e50e6e194df809c49df5", func := "burin/burinlaw18.AllocMeets", spec := "allocMeets", unfollowed := true, recurses := true, named := ["burin/kind.names", "burin/arith.signs"], apart := false, laid := [("burin/kind.names", laid_burin_kind_names), ("burin/arith.signs", laid_burin_arith_signs)], narrowed := true }
def AllocMeetsUptoSaid : Prop := allocMeetsUptoRow.holds Tryd.pinned (OpenSpec.upto allocMeetsSpec)

/-- 'burinlaw18.AllocApart', WHERE WHAT IT READS IS OF BULK AT MOST 1048576: true; the input reads as it did. -/
def allocApartUptoRow : OpenClaim := { program := "ythifdcakhdckfaadoor", sum := "6da7148c9bb75d584ad1e9b6224162615d27bbd63da2e50e6e194df809c49df5", func := "burin/burinlaw18.AllocApart", spec := "allocApart", unfollowed := true, recurses := true, named := ["burin/kind.names", "burin/arith.signs"], apart := false, laid := [("burin/kind.names", laid_burin_kind_names), ("burin/arith.signs", laid_burin_arith_signs)], narrowed := true }
def AllocApartUptoSaid : Prop := allocApartUptoRow.holds Tryd.pinned (OpenSpec.upto allocApartSpec)

/-- 'burinlaw18.AllocRenames', WHERE WHAT IT READS IS OF BULK AT MOST 1048576: true; the input reads as it did. -/
def allocRenamesUptoRow : OpenClaim := { program := "ythifdcakhdckfaadoor", sum := "6da7148c9bb75d584ad1e9b6224162615d27bbd63da2e50e6e194df809c49df5", func := "burin/burinlaw18.AllocRenames", spec := "allocRenames", unfollowed := true, recurses := true, named := ["burin/kind.names", "burin/arith.signs"], apart := false, laid := [("burin/kind.names", laid_burin_kind_names), ("burin/arith.signs", laid_burin_arith_signs)], narrowed := true }
def AllocRenamesUptoSaid : Prop := allocRenamesUptoRow.holds Tryd.pinned (OpenSpec.upto allocRenamesSpec)

/-- 'burinlaw18.AllocMeans', WHERE WHAT IT READS IS OF BULK AT MOST 1048576: true; the input reads as it did. -/
def allocMeansUptoRow : OpenClaim := { program := "ythifdcakhdckfaadoor", sum := "6da7148c9bb75d584ad1e9b6224162615d27bbd63da2e50e6e194df809c49df5", func := "burin/burinlaw18.AllocMeans", spec := "allocMeans", unfollowed := true, recurses := true, named := ["burin/kind.names", "burin/arith.signs"], apart := false, laid := [("burin/kind.names", laid_burin_kind_names), ("burin/arith.signs", laid_burin_arith_signs)], narrowed := true }
def AllocMeansUptoSaid : Prop := allocMeansUptoRow.holds Tryd.pinned (OpenSpec.upto allocMeansSpec)

end Rows
end Go.Proofs.YthifdcakhdckfaaDoor

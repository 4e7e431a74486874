/-
  DERIVED. GIVEN WITH THE SEED: THE PROGRAM's TIES (one call each: nine closed facts by the kernel) AND EACH ROW's TIE, after the 31st guide's Derived/Test/Toyas{Tie, Card}.lean. No idea stands in it: it is a product of the set-up. Laid BY PROGRAM, IN A SANDBOX (cutbox-door.mjs). By AI agents, Wed Nov 11 2026. No macro, syntax, notation, axiom, sorry.
-/
import Derived.Test.YthifdcakhdckfaaDoorRows
import Derived.LaidByTextLater
import Derived.SevenTiedAt
import Derived.LaidSub
import Derived.LaidOnce
namespace Go.Proofs.YthifdcakhdckfaaDoor
open Go
set_option maxRecDepth 100000
theorem seatTie1 : Tryd.prog.laidByTextLater [("burin/kind.names", Rows.laid_burin_kind_names), ("burin/arith.signs", Rows.laid_burin_arith_signs), ("burin/mach.given", Rows.laid_burin_mach_given), ("burin/mach.kept", Rows.laid_burin_mach_kept), ("burin/mach.lost", Rows.laid_burin_mach_lost), ("burin/token.signs", Rows.laid_burin_token_signs)] [.data, .data, .data, .data, .data, .data] true :=
  Program.laidByTextLater_by_one 39 8 49 (by kernel_rfl) (by kernel_rfl) (by kernel_rfl) (by kernel_rfl) (by kernel_rfl) (by kernel_rfl) (fun _ _ => by kernel_rfl)
theorem noOwnUnsafe : Tryd.pinned.checked.prog.headLifts.contains "ownunsafe" = false := by kernel_rfl
theorem tie : Tryd.prog.laidByTextLater [("burin/kind.names", Rows.laid_burin_kind_names), ("burin/mach.given", Rows.laid_burin_mach_given), ("burin/mach.kept", Rows.laid_burin_mach_kept), ("burin/mach.lost", Rows.laid_burin_mach_lost)] [.data, .data, .data, .data] true :=
  Program.laidByTextLater.sub seatTie1 ["burin/kind.names", "burin/mach.given", "burin/mach.kept", "burin/mach.lost"] (by kernel_rfl) (by kernel_rfl)
theorem topCalls_row_tie : Rows.topCallsRow.laidByTextAt .later Tryd.pinned [.data, .data, .data, .data] true :=
  OpenClaim.laidByTextAt_later rfl rfl tie noOwnUnsafe
theorem machMore_row_tie : Rows.machMoreRow.laidByTextAt .later Tryd.pinned [.data, .data, .data, .data] true :=
  OpenClaim.laidByTextAt_later rfl rfl tie noOwnUnsafe
theorem tie2 : Tryd.prog.laidByTextLater [("burin/token.signs", Rows.laid_burin_token_signs)] [.data] true :=
  Program.laidByTextLater.sub seatTie1 ["burin/token.signs"] (by kernel_rfl) (by kernel_rfl)
theorem macroReads_row_tie : Rows.macroReadsRow.laidByTextAt .later Tryd.pinned [.data] true :=
  OpenClaim.laidByTextAt_later rfl rfl tie2 noOwnUnsafe
theorem macroWords_row_tie : Rows.macroWordsRow.laidByTextAt .later Tryd.pinned [.data] true :=
  OpenClaim.laidByTextAt_later rfl rfl tie2 noOwnUnsafe
theorem macroBack_row_tie : Rows.macroBackRow.laidByTextAt .later Tryd.pinned [.data] true :=
  OpenClaim.laidByTextAt_later rfl rfl tie2 noOwnUnsafe
theorem macroKeeps_row_tie : Rows.macroKeepsRow.laidByTextAt .later Tryd.pinned [.data] true :=
  OpenClaim.laidByTextAt_later rfl rfl tie2 noOwnUnsafe
theorem tie3 : Tryd.prog.laidByTextLater [("burin/kind.names", Rows.laid_burin_kind_names), ("burin/arith.signs", Rows.laid_burin_arith_signs)] [.data, .data] true :=
  Program.laidByTextLater.sub seatTie1 ["burin/kind.names", "burin/arith.signs"] (by kernel_rfl) (by kernel_rfl)
theorem allocMeets_row_tie : Rows.allocMeetsRow.laidByTextAt .later Tryd.pinned [.data, .data] true :=
  OpenClaim.laidByTextAt_later rfl rfl tie3 noOwnUnsafe
theorem allocApart_row_tie : Rows.allocApartRow.laidByTextAt .later Tryd.pinned [.data, .data] true :=
  OpenClaim.laidByTextAt_later rfl rfl tie3 noOwnUnsafe
theorem allocRenames_row_tie : Rows.allocRenamesRow.laidByTextAt .later Tryd.pinned [.data, .data] true :=
  OpenClaim.laidByTextAt_later rfl rfl tie3 noOwnUnsafe
theorem allocMeans_row_tie : Rows.allocMeansRow.laidByTextAt .later Tryd.pinned [.data, .data] true :=
  OpenClaim.laidByTextAt_later rfl rfl tie3 noOwnUnsafe
theorem topCallsUpto_row_tie : Rows.topCallsUptoRow.laidByTextAt .later Tryd.pinned [.data, .data, .data, .data] true :=
  OpenClaim.laidByTextAt_later rfl rfl tie noOwnUnsafe
theorem macroReadsUpto_row_tie : Rows.macroReadsUptoRow.laidByTextAt .later Tryd.pinned [.data] true :=
  OpenClaim.laidByTextAt_later rfl rfl tie2 noOwnUnsafe
theorem macroWordsUpto_row_tie : Rows.macroWordsUptoRow.laidByTextAt .later Tryd.pinned [.data] true :=
  OpenClaim.laidByTextAt_later rfl rfl tie2 noOwnUnsafe
theorem macroBackUpto_row_tie : Rows.macroBackUptoRow.laidByTextAt .later Tryd.pinned [.data] true :=
  OpenClaim.laidByTextAt_later rfl rfl tie2 noOwnUnsafe
theorem macroKeepsUpto_row_tie : Rows.macroKeepsUptoRow.laidByTextAt .later Tryd.pinned [.data] true :=
  OpenClaim.laidByTextAt_later rfl rfl tie2 noOwnUnsafe
theorem machMoreUpto_row_tie : Rows.machMoreUptoRow.laidByTextAt .later Tryd.pinned [.data, .data, .data, .data] true :=
  OpenClaim.laidByTextAt_later rfl rfl tie noOwnUnsafe
theorem allocMeetsUpto_row_tie : Rows.allocMeetsUptoRow.laidByTextAt .later Tryd.pinned [.data, .data] true :=
  OpenClaim.laidByTextAt_later rfl rfl tie3 noOwnUnsafe
theorem allocApartUpto_row_tie : Rows.allocApartUptoRow.laidByTextAt .later Tryd.pinned [.data, .data] true :=
  OpenClaim.laidByTextAt_later rfl rfl tie3 noOwnUnsafe
theorem allocRenamesUpto_row_tie : Rows.allocRenamesUptoRow.laidByTextAt .later Tryd.pinned [.data, .data] true :=
  OpenClaim.laidByTextAt_later rfl rfl tie3 noOwnUnsafe
theorem allocMeansUpto_row_tie : Rows.allocMeansUptoRow.laidByTextAt .later Tryd.pinned [.data, .data] true :=
  OpenClaim.laidByTextAt_later rfl rfl tie3 noOwnUnsafe
end Go.Proofs.YthifdcakhdckfaaDoor

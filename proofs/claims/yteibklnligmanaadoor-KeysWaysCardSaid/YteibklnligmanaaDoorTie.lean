/-
  DERIVED. GIVEN WITH THE SEED: THE PROGRAM's TIES (one call each: nine closed facts by the kernel) AND EACH ROW's TIE, after the 31st guide's Derived/Test/Toyas{Tie, Card}.lean. No idea stands in it: it is a product of the set-up. Laid BY PROGRAM, IN A SANDBOX (cutbox-door.mjs). By AI agents, Wed Nov 11 2026. No macro, syntax, notation, axiom, sorry.
-/
import Derived.Test.YteibklnligmanaaDoorRows
import Derived.LaidByTextLater
import Derived.SevenTiedAt
import Derived.LaidSub
import Derived.LaidOnce
namespace Go.Proofs.YteibklnligmanaaDoor
open Go
set_option maxRecDepth 100000
theorem seatTie1 : Tryd.prog.laidByTextLater [("cryptex/sha.ks", Rows.laid_cryptex_sha_ks), ("cryptex/sha.begin", Rows.laid_cryptex_sha_begin), ("cryptex/keys.may", Rows.laid_cryptex_keys_may)] [.data, .data, .mapped] true :=
  Program.laidByTextLater_by_one 46 8 65 (by kernel_rfl) (by kernel_rfl) (by kernel_rfl) (by kernel_rfl) (by kernel_rfl) (by kernel_rfl) (fun _ _ => by kernel_rfl)
theorem noOwnUnsafe : Tryd.pinned.checked.prog.headLifts.contains "ownunsafe" = false := by kernel_rfl
theorem tie : Tryd.prog.laidByTextLater [("cryptex/sha.ks", Rows.laid_cryptex_sha_ks), ("cryptex/sha.begin", Rows.laid_cryptex_sha_begin), ("cryptex/keys.may", Rows.laid_cryptex_keys_may)] [.data, .data, .mapped] true :=
  Program.laidByTextLater.sub seatTie1 ["cryptex/sha.ks", "cryptex/sha.begin", "cryptex/keys.may"] (by kernel_rfl) (by kernel_rfl)
theorem keysTells_row_tie : Rows.keysTellsRow.laidByTextAt .later Tryd.pinned [.data, .data, .mapped] true :=
  OpenClaim.laidByTextAt_later rfl rfl tie noOwnUnsafe
theorem keysWays_row_tie : Rows.keysWaysRow.laidByTextAt .later Tryd.pinned [.data, .data, .mapped] true :=
  OpenClaim.laidByTextAt_later rfl rfl tie noOwnUnsafe
theorem keysNonces_row_tie : Rows.keysNoncesRow.laidByTextAt .later Tryd.pinned [.data, .data, .mapped] true :=
  OpenClaim.laidByTextAt_later rfl rfl tie noOwnUnsafe
theorem keysLabels_row_tie : Rows.keysLabelsRow.laidByTextAt .later Tryd.pinned [.data, .data, .mapped] true :=
  OpenClaim.laidByTextAt_later rfl rfl tie noOwnUnsafe
theorem keysTellsUpto_row_tie : Rows.keysTellsUptoRow.laidByTextAt .later Tryd.pinned [.data, .data, .mapped] true :=
  OpenClaim.laidByTextAt_later rfl rfl tie noOwnUnsafe
theorem keysWaysUpto_row_tie : Rows.keysWaysUptoRow.laidByTextAt .later Tryd.pinned [.data, .data, .mapped] true :=
  OpenClaim.laidByTextAt_later rfl rfl tie noOwnUnsafe
theorem keysNoncesUpto_row_tie : Rows.keysNoncesUptoRow.laidByTextAt .later Tryd.pinned [.data, .data, .mapped] true :=
  OpenClaim.laidByTextAt_later rfl rfl tie noOwnUnsafe
theorem keysLabelsUpto_row_tie : Rows.keysLabelsUptoRow.laidByTextAt .later Tryd.pinned [.data, .data, .mapped] true :=
  OpenClaim.laidByTextAt_later rfl rfl tie noOwnUnsafe
end Go.Proofs.YteibklnligmanaaDoor

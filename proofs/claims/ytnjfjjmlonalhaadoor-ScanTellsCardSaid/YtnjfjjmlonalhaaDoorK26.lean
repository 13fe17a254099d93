/- small, reckoned. -/
import Derived.Test.YtnjfjjmlonalhaaDoorK21
import Derived.KernelRfl
namespace Go.Proofs.W.Q10
open Go Go.Proofs.V
set_option linter.unusedVariables false
set_option linter.unusedSimpArgs false
set_option maxRecDepth 100000
set_option maxHeartbeats 4000000
theorem small_ok : law10_small () = some true := by
  simp only [Q9.strings_Split, Q9.slices_Clone_Entry, Q9.bytealg_IndexByteString, Q9.bytealg_CountString, Q9.stringslite_IndexByte, Q9.strings_IndexByte, Q9.path_Name, Q9.path_Names, Q9.path_Right, Q9.clock_Right, Q9.scan_files, Q9.stringslite_HasPrefix, Q9.strings_HasPrefix, Q9.path_Under, Q9.tree_Right_1, Q9.slices_IndexFunc_File_tree_Right_1, Q9.slices_ContainsFunc_File_tree_Right_1, Q9.tree_Right, Q9.scan_Right, Q9.clock_clamp, Q9.clock_Of, Q9.clock_count, Q9.clock_Pair, Q9.clock_whole, Q9.clock_Tick, Q9.both_step, Q9.scan_step, Q9.scan_post, Q9.scan_early, Q9.scan_Scan, Q9.slices_Equal_Entry, Q9.scan_Same, Q9.scan_find_1, Q9.slices_IndexFunc_Entry_scan_find_1, Q9.scan_find, Q9.scan_Find, Q9.scan_Tree, Q9.scan_Copy, Q9.law09_Few, Q9.law04_Few, Q9.clock_Mine, Q9.ref01_Rows, Q9.slices_Equal_File, Q9.tree_Same, Q9.path_Sorted, Q9.clock_Join, Q9.clock_Order, bytealg_abigen_runtime_cmpstring, recon_value, recon_joined, recon_come, slices_Index_string, slices_Contains_string, path_Clash, recon_may_1, slices_IndexFunc_string_recon_may_1, slices_ContainsFunc_string_recon_may_1, recon_may, law10_has, bytealg_CompareString, strings_Compare, tree_place_1, slices_BinarySearchFunc_string_tree_place_1, tree_place, tree_Find, tree_Get, recon_Agree, slices_Index_File, slices_Contains_File, oneM, recon_Merge, recon_Settle, slices_Concat_Action, recon_Plan, law10_small, fixS_eq]
  kernel_rfl
end Go.Proofs.W.Q10

/- small, reckoned; few. -/
import Derived.Test.YtboeaelijjamoaaDoorK44
import Derived.KernelRfl
import Derived.Test.YtboeaelijjamoaaDoorK32
namespace Go.Proofs.W.Q11
open Go Go.Proofs.V Go.Proofs.W.Q9 Go.Proofs.W.Q10
set_option linter.unusedVariables false
set_option linter.unusedSimpArgs false
set_option maxRecDepth 100000
set_option maxHeartbeats 4000000
theorem h1 : tree_Drop [([97], [49])] [97] = some ([], 0) := by
  simp only [Q9.strings_Split, Q9.slices_Clone_Entry, Q9.bytealg_IndexByteString, Q9.bytealg_CountString, Q9.stringslite_IndexByte, Q9.strings_IndexByte, Q9.path_Name, Q9.path_Names, Q9.path_Right, Q9.clock_Right, Q9.scan_files, Q9.stringslite_HasPrefix, Q9.strings_HasPrefix, Q9.path_Under, Q9.tree_Right_1, Q9.slices_IndexFunc_File_tree_Right_1, Q9.slices_ContainsFunc_File_tree_Right_1, Q9.tree_Right, Q9.scan_Right, Q9.clock_clamp, Q9.clock_Of, Q9.clock_count, Q9.clock_Pair, Q9.clock_whole, Q9.clock_Tick, Q9.both_step, Q9.scan_step, Q9.scan_post, Q9.scan_early, Q9.scan_Scan, Q9.slices_Equal_Entry, Q9.scan_Same, Q9.scan_find_1, Q9.slices_IndexFunc_Entry_scan_find_1, Q9.scan_find, Q9.scan_Find, Q9.scan_Tree, Q9.scan_Copy, Q9.law09_Few, Q9.law04_Few, Q9.clock_Mine, Q9.ref01_Rows, Q9.slices_Equal_File, Q9.tree_Same, Q9.path_Sorted, Q9.clock_Join, Q9.clock_Order, Q10.bytealg_abigen_runtime_cmpstring, Q10.recon_value, Q10.recon_joined, Q10.recon_come, Q10.slices_Index_string, Q10.slices_Contains_string, Q10.path_Clash, Q10.recon_may_1, Q10.slices_IndexFunc_string_recon_may_1, Q10.slices_ContainsFunc_string_recon_may_1, Q10.recon_may, Q10.law10_has, Q10.bytealg_CompareString, Q10.strings_Compare, Q10.tree_place_1, Q10.slices_BinarySearchFunc_string_tree_place_1, Q10.tree_place, Q10.tree_Find, Q10.tree_Get, Q10.recon_Agree, Q10.slices_Index_File, Q10.slices_Contains_File, Q10.oneM, Q10.recon_Merge, Q10.recon_Settle, Q10.slices_Concat_Action, Q10.recon_Plan, tree_Size, tree_Put_1, slices_IndexFunc_File_tree_Put_1, slices_ContainsFunc_File_tree_Put_1, tree_Drop, fixS_eq]
  kernel_rfl
theorem h2 : tree_Put [] [97, 47, 98] [50, 50] = some ([([97, 47, 98], [50, 50])], 0) := by
  simp only [Q9.strings_Split, Q9.slices_Clone_Entry, Q9.bytealg_IndexByteString, Q9.bytealg_CountString, Q9.stringslite_IndexByte, Q9.strings_IndexByte, Q9.path_Name, Q9.path_Names, Q9.path_Right, Q9.clock_Right, Q9.scan_files, Q9.stringslite_HasPrefix, Q9.strings_HasPrefix, Q9.path_Under, Q9.tree_Right_1, Q9.slices_IndexFunc_File_tree_Right_1, Q9.slices_ContainsFunc_File_tree_Right_1, Q9.tree_Right, Q9.scan_Right, Q9.clock_clamp, Q9.clock_Of, Q9.clock_count, Q9.clock_Pair, Q9.clock_whole, Q9.clock_Tick, Q9.both_step, Q9.scan_step, Q9.scan_post, Q9.scan_early, Q9.scan_Scan, Q9.slices_Equal_Entry, Q9.scan_Same, Q9.scan_find_1, Q9.slices_IndexFunc_Entry_scan_find_1, Q9.scan_find, Q9.scan_Find, Q9.scan_Tree, Q9.scan_Copy, Q9.law09_Few, Q9.law04_Few, Q9.clock_Mine, Q9.ref01_Rows, Q9.slices_Equal_File, Q9.tree_Same, Q9.path_Sorted, Q9.clock_Join, Q9.clock_Order, Q10.bytealg_abigen_runtime_cmpstring, Q10.recon_value, Q10.recon_joined, Q10.recon_come, Q10.slices_Index_string, Q10.slices_Contains_string, Q10.path_Clash, Q10.recon_may_1, Q10.slices_IndexFunc_string_recon_may_1, Q10.slices_ContainsFunc_string_recon_may_1, Q10.recon_may, Q10.law10_has, Q10.bytealg_CompareString, Q10.strings_Compare, Q10.tree_place_1, Q10.slices_BinarySearchFunc_string_tree_place_1, Q10.tree_place, Q10.tree_Find, Q10.tree_Get, Q10.recon_Agree, Q10.slices_Index_File, Q10.slices_Contains_File, Q10.oneM, Q10.recon_Merge, Q10.recon_Settle, Q10.slices_Concat_Action, Q10.recon_Plan, tree_Size, tree_Put_1, slices_IndexFunc_File_tree_Put_1, slices_ContainsFunc_File_tree_Put_1, tree_Put, fixS_eq]
  kernel_rfl
theorem h3 : tree_Put [([97], [49])] [97, 47, 98] [50, 50] = some ([], 6) := by
  simp only [Q9.strings_Split, Q9.slices_Clone_Entry, Q9.bytealg_IndexByteString, Q9.bytealg_CountString, Q9.stringslite_IndexByte, Q9.strings_IndexByte, Q9.path_Name, Q9.path_Names, Q9.path_Right, Q9.clock_Right, Q9.scan_files, Q9.stringslite_HasPrefix, Q9.strings_HasPrefix, Q9.path_Under, Q9.tree_Right_1, Q9.slices_IndexFunc_File_tree_Right_1, Q9.slices_ContainsFunc_File_tree_Right_1, Q9.tree_Right, Q9.scan_Right, Q9.clock_clamp, Q9.clock_Of, Q9.clock_count, Q9.clock_Pair, Q9.clock_whole, Q9.clock_Tick, Q9.both_step, Q9.scan_step, Q9.scan_post, Q9.scan_early, Q9.scan_Scan, Q9.slices_Equal_Entry, Q9.scan_Same, Q9.scan_find_1, Q9.slices_IndexFunc_Entry_scan_find_1, Q9.scan_find, Q9.scan_Find, Q9.scan_Tree, Q9.scan_Copy, Q9.law09_Few, Q9.law04_Few, Q9.clock_Mine, Q9.ref01_Rows, Q9.slices_Equal_File, Q9.tree_Same, Q9.path_Sorted, Q9.clock_Join, Q9.clock_Order, Q10.bytealg_abigen_runtime_cmpstring, Q10.recon_value, Q10.recon_joined, Q10.recon_come, Q10.slices_Index_string, Q10.slices_Contains_string, Q10.path_Clash, Q10.recon_may_1, Q10.slices_IndexFunc_string_recon_may_1, Q10.slices_ContainsFunc_string_recon_may_1, Q10.recon_may, Q10.law10_has, Q10.bytealg_CompareString, Q10.strings_Compare, Q10.tree_place_1, Q10.slices_BinarySearchFunc_string_tree_place_1, Q10.tree_place, Q10.tree_Find, Q10.tree_Get, Q10.recon_Agree, Q10.slices_Index_File, Q10.slices_Contains_File, Q10.oneM, Q10.recon_Merge, Q10.recon_Settle, Q10.slices_Concat_Action, Q10.recon_Plan, tree_Size, tree_Put_1, slices_IndexFunc_File_tree_Put_1, slices_ContainsFunc_File_tree_Put_1, tree_Put, fixS_eq]
  kernel_rfl
theorem h4 : Q9.tree_Right [([97], [49])] = some true := by
  simp only [Q9.strings_Split, Q9.slices_Clone_Entry, Q9.bytealg_IndexByteString, Q9.bytealg_CountString, Q9.stringslite_IndexByte, Q9.strings_IndexByte, Q9.path_Name, Q9.path_Names, Q9.path_Right, Q9.clock_Right, Q9.scan_files, Q9.stringslite_HasPrefix, Q9.strings_HasPrefix, Q9.path_Under, Q9.tree_Right_1, Q9.slices_IndexFunc_File_tree_Right_1, Q9.slices_ContainsFunc_File_tree_Right_1, Q9.tree_Right, Q9.scan_Right, Q9.clock_clamp, Q9.clock_Of, Q9.clock_count, Q9.clock_Pair, Q9.clock_whole, Q9.clock_Tick, Q9.both_step, Q9.scan_step, Q9.scan_post, Q9.scan_early, Q9.scan_Scan, Q9.slices_Equal_Entry, Q9.scan_Same, Q9.scan_find_1, Q9.slices_IndexFunc_Entry_scan_find_1, Q9.scan_find, Q9.scan_Find, Q9.scan_Tree, Q9.scan_Copy, Q9.law09_Few, Q9.law04_Few, Q9.clock_Mine, Q9.ref01_Rows, Q9.slices_Equal_File, Q9.tree_Same, Q9.path_Sorted, Q9.clock_Join, Q9.clock_Order, Q10.bytealg_abigen_runtime_cmpstring, Q10.recon_value, Q10.recon_joined, Q10.recon_come, Q10.slices_Index_string, Q10.slices_Contains_string, Q10.path_Clash, Q10.recon_may_1, Q10.slices_IndexFunc_string_recon_may_1, Q10.slices_ContainsFunc_string_recon_may_1, Q10.recon_may, Q10.law10_has, Q10.bytealg_CompareString, Q10.strings_Compare, Q10.tree_place_1, Q10.slices_BinarySearchFunc_string_tree_place_1, Q10.tree_place, Q10.tree_Find, Q10.tree_Get, Q10.recon_Agree, Q10.slices_Index_File, Q10.slices_Contains_File, Q10.oneM, Q10.recon_Merge, Q10.recon_Settle, Q10.slices_Concat_Action, Q10.recon_Plan, tree_Size, tree_Put_1, slices_IndexFunc_File_tree_Put_1, slices_ContainsFunc_File_tree_Put_1, fixS_eq]
  kernel_rfl
theorem h5 : tree_Size [([97, 47, 98], [50, 50])] = some 2 := by
  simp only [Q9.strings_Split, Q9.slices_Clone_Entry, Q9.bytealg_IndexByteString, Q9.bytealg_CountString, Q9.stringslite_IndexByte, Q9.strings_IndexByte, Q9.path_Name, Q9.path_Names, Q9.path_Right, Q9.clock_Right, Q9.scan_files, Q9.stringslite_HasPrefix, Q9.strings_HasPrefix, Q9.path_Under, Q9.tree_Right_1, Q9.slices_IndexFunc_File_tree_Right_1, Q9.slices_ContainsFunc_File_tree_Right_1, Q9.tree_Right, Q9.scan_Right, Q9.clock_clamp, Q9.clock_Of, Q9.clock_count, Q9.clock_Pair, Q9.clock_whole, Q9.clock_Tick, Q9.both_step, Q9.scan_step, Q9.scan_post, Q9.scan_early, Q9.scan_Scan, Q9.slices_Equal_Entry, Q9.scan_Same, Q9.scan_find_1, Q9.slices_IndexFunc_Entry_scan_find_1, Q9.scan_find, Q9.scan_Find, Q9.scan_Tree, Q9.scan_Copy, Q9.law09_Few, Q9.law04_Few, Q9.clock_Mine, Q9.ref01_Rows, Q9.slices_Equal_File, Q9.tree_Same, Q9.path_Sorted, Q9.clock_Join, Q9.clock_Order, Q10.bytealg_abigen_runtime_cmpstring, Q10.recon_value, Q10.recon_joined, Q10.recon_come, Q10.slices_Index_string, Q10.slices_Contains_string, Q10.path_Clash, Q10.recon_may_1, Q10.slices_IndexFunc_string_recon_may_1, Q10.slices_ContainsFunc_string_recon_may_1, Q10.recon_may, Q10.law10_has, Q10.bytealg_CompareString, Q10.strings_Compare, Q10.tree_place_1, Q10.slices_BinarySearchFunc_string_tree_place_1, Q10.tree_place, Q10.tree_Find, Q10.tree_Get, Q10.recon_Agree, Q10.slices_Index_File, Q10.slices_Contains_File, Q10.oneM, Q10.recon_Merge, Q10.recon_Settle, Q10.slices_Concat_Action, Q10.recon_Plan, tree_Size, tree_Put_1, slices_IndexFunc_File_tree_Put_1, slices_ContainsFunc_File_tree_Put_1, fixS_eq]
  kernel_rfl
theorem h6 : Q10.tree_Get ([([97], [49])], [97]) = some ([49], true) := by
  simp only [Q9.strings_Split, Q9.slices_Clone_Entry, Q9.bytealg_IndexByteString, Q9.bytealg_CountString, Q9.stringslite_IndexByte, Q9.strings_IndexByte, Q9.path_Name, Q9.path_Names, Q9.path_Right, Q9.clock_Right, Q9.scan_files, Q9.stringslite_HasPrefix, Q9.strings_HasPrefix, Q9.path_Under, Q9.tree_Right_1, Q9.slices_IndexFunc_File_tree_Right_1, Q9.slices_ContainsFunc_File_tree_Right_1, Q9.tree_Right, Q9.scan_Right, Q9.clock_clamp, Q9.clock_Of, Q9.clock_count, Q9.clock_Pair, Q9.clock_whole, Q9.clock_Tick, Q9.both_step, Q9.scan_step, Q9.scan_post, Q9.scan_early, Q9.scan_Scan, Q9.slices_Equal_Entry, Q9.scan_Same, Q9.scan_find_1, Q9.slices_IndexFunc_Entry_scan_find_1, Q9.scan_find, Q9.scan_Find, Q9.scan_Tree, Q9.scan_Copy, Q9.law09_Few, Q9.law04_Few, Q9.clock_Mine, Q9.ref01_Rows, Q9.slices_Equal_File, Q9.tree_Same, Q9.path_Sorted, Q9.clock_Join, Q9.clock_Order, Q10.bytealg_abigen_runtime_cmpstring, Q10.recon_value, Q10.recon_joined, Q10.recon_come, Q10.slices_Index_string, Q10.slices_Contains_string, Q10.path_Clash, Q10.recon_may_1, Q10.slices_IndexFunc_string_recon_may_1, Q10.slices_ContainsFunc_string_recon_may_1, Q10.recon_may, Q10.law10_has, Q10.bytealg_CompareString, Q10.strings_Compare, Q10.tree_place_1, Q10.slices_BinarySearchFunc_string_tree_place_1, Q10.tree_place, Q10.tree_Find, Q10.tree_Get, Q10.recon_Agree, Q10.slices_Index_File, Q10.slices_Contains_File, Q10.oneM, Q10.recon_Merge, Q10.recon_Settle, Q10.slices_Concat_Action, Q10.recon_Plan, tree_Size, tree_Put_1, slices_IndexFunc_File_tree_Put_1, slices_ContainsFunc_File_tree_Put_1, fixS_eq]
  kernel_rfl
theorem h7 : Q10.tree_Get ([([97], [49])], [97, 47, 98]) = some ([], false) := by
  simp only [Q9.strings_Split, Q9.slices_Clone_Entry, Q9.bytealg_IndexByteString, Q9.bytealg_CountString, Q9.stringslite_IndexByte, Q9.strings_IndexByte, Q9.path_Name, Q9.path_Names, Q9.path_Right, Q9.clock_Right, Q9.scan_files, Q9.stringslite_HasPrefix, Q9.strings_HasPrefix, Q9.path_Under, Q9.tree_Right_1, Q9.slices_IndexFunc_File_tree_Right_1, Q9.slices_ContainsFunc_File_tree_Right_1, Q9.tree_Right, Q9.scan_Right, Q9.clock_clamp, Q9.clock_Of, Q9.clock_count, Q9.clock_Pair, Q9.clock_whole, Q9.clock_Tick, Q9.both_step, Q9.scan_step, Q9.scan_post, Q9.scan_early, Q9.scan_Scan, Q9.slices_Equal_Entry, Q9.scan_Same, Q9.scan_find_1, Q9.slices_IndexFunc_Entry_scan_find_1, Q9.scan_find, Q9.scan_Find, Q9.scan_Tree, Q9.scan_Copy, Q9.law09_Few, Q9.law04_Few, Q9.clock_Mine, Q9.ref01_Rows, Q9.slices_Equal_File, Q9.tree_Same, Q9.path_Sorted, Q9.clock_Join, Q9.clock_Order, Q10.bytealg_abigen_runtime_cmpstring, Q10.recon_value, Q10.recon_joined, Q10.recon_come, Q10.slices_Index_string, Q10.slices_Contains_string, Q10.path_Clash, Q10.recon_may_1, Q10.slices_IndexFunc_string_recon_may_1, Q10.slices_ContainsFunc_string_recon_may_1, Q10.recon_may, Q10.law10_has, Q10.bytealg_CompareString, Q10.strings_Compare, Q10.tree_place_1, Q10.slices_BinarySearchFunc_string_tree_place_1, Q10.tree_place, Q10.tree_Find, Q10.tree_Get, Q10.recon_Agree, Q10.slices_Index_File, Q10.slices_Contains_File, Q10.oneM, Q10.recon_Merge, Q10.recon_Settle, Q10.slices_Concat_Action, Q10.recon_Plan, tree_Size, tree_Put_1, slices_IndexFunc_File_tree_Put_1, slices_ContainsFunc_File_tree_Put_1, fixS_eq]
  kernel_rfl
def okAc (e : AcP) : Bool := decide (e.1.length ≤ 100) && decide (e.2.2.length ≤ 1000)
theorem wrap_succ63 {i : Nat} (h : i < 9223372036854775807) : IntKind.wrap .i64 ((i : Int) + 1) = ((i + 1 : Nat) : Int) := by
  rw [IntKind.wrap_i64]; omega
theorem few11_ok (a : List AcP) (hl : a.length ≤ 9223372036854775807) : law11_few a = some (decide (a.length ≤ 60) && a.all okAc) := by
  unfold law11_few
  rw [fixS_idx a.length (fun i => some (decide (a.length ≤ 60) && (a.drop i).all okAc)) (by omega)]
  · simp
  · intro again
    rw [if_neg (by simp)]
    simp
    omega
  · intro i hi again ha
    rw [if_pos (by simp; omega), ixL_nat hi, ixL_nat hi, wrap_succ63 (by omega), ha]
    rw [List.drop_eq_getElem_cons hi, List.all_cons]
    by_cases h1 : a[i].1.length ≤ 100
    · rw [if_neg (by simp; omega)]
      by_cases h2 : a[i].2.2.length ≤ 1000
      · rw [if_neg (by simp; omega)]
        simp [okAc, h1, h2]
      · rw [if_pos (by simp; omega)]
        simp [okAc, h2]
    · rw [if_pos (by simp; omega)]
      simp [okAc, h1]
/-- What undoes actions, ahead of Net. -/
def undoA (t : List Fi) (q : List UInt8) : AcP := (q, ((getT t q).isSome, (getT t q).getD []))
theorem undo_ok {t : List Fi} {l : List AcP} (hb : ∀ g ∈ t, g.1.length ≤ 1000000) (hR : TreeX t) (ho : okActs l = true) : act_Undo (t, l) = act_Net ((sortP (l.map (·.1))).map (undoA t)) := by
  have hl : l.length ≤ 1000 := by
    simp only [okActs, Bool.and_eq_true, decide_eq_true_eq] at ho
    exact ho.1
  have hs := sortP_len (l.map (·.1))
  rw [List.length_map] at hs
  unfold act_Undo
  dsimp only
  rw [treeX_back hb hR, Option.bind_some, if_neg (by simp)]
  unfold act_Paths
  rw [if_pos ho, Option.bind_some]
  generalize hps : sortP (l.map (·.1)) = ps at *
  refine Eq.trans (loop_run (ps.length) (fun i s => s = ((ps.take i).map (undoA t), (i : Int))) (act_Net (ps.map (undoA t))) (by omega) ?_ ?_ ?_) rfl
  · intro again s hs'
    subst hs'
    dsimp only
    rw [List.take_length]
    rw [if_neg (by simp)]
    cases act_Net (ps.map (undoA t)) <;> rfl
  · intro i hi again s hs' h
    subst hs'
    dsimp only
    rw [if_pos (by simp; omega), ixL_nat hi, get_ok hb hR, Option.bind_some, fits40 (by simp; omega), if_pos rfl, wrap_succ (by omega)]
    refine h _ ?_
    rw [List.take_succ_eq_append_getElem hi, List.map_append]
    rfl
  · rfl
theorem tb0 : ∀ g ∈ ([([97], [49])] : List Fi), g.1.length ≤ 1000000 := by intro g hg; simp at hg; subst hg; decide
theorem d1 : act_Do ([([97], [49])], ([([97], (false, [])), ([97, 47, 98], (true, [50, 50]))], 9)) = some ([([97, 47, 98], [50, 50])], 0) := by
  unfold act_Do
  rw [if_pos (by rfl), h4]
  simp only [Option.bind_some, Bool.not_true, Bool.false_eq_true, if_false, doAll, act1, h1, h2, h5, if_true]
  rfl
theorem d2 : act_Do ([([97], [49])], ([([97, 47, 98], (true, [50, 50]))], 9)) = some ([], 6) := by
  unfold act_Do
  rw [if_pos (by rfl), h4]
  simp only [Option.bind_some, Bool.not_true, Bool.false_eq_true, if_false, doAll, act1, h3, if_true]
  rfl
theorem d3 : act_Do ([([97], [49])], ([([97], (false, [])), ([97, 47, 98], (true, [50, 50]))], 1)) = some ([], 2) := by
  unfold act_Do
  rw [if_pos (by rfl), h4]
  simp only [Option.bind_some, Bool.not_true, Bool.false_eq_true, if_false, doAll, act1, h1, h2, h5, if_true]
  rfl
theorem d4 : act_Undo ([([97], [49])], [([97], (false, [])), ([97, 47, 98], (true, [50, 50]))]) = some [([97, 47, 98], (false, [])), ([97], (true, [49]))] := by
  rw [undo_ok tb0 (treeX_fwd tb0 h4) (by rfl)]
  unfold act_Net
  rw [if_pos (by rfl)]
  rfl
theorem d5 : act_Net [([122], (true, [])), ([98], (false, [])), ([122], (true, [49])), ([99], (false, []))] = some [([98], (false, [])), ([99], (false, [])), ([122], (true, [49]))] := by
  unfold act_Net
  rw [if_pos (by rfl)]
  rfl
theorem d6 : act_Paths [([98], (false, [])), ([99], (false, [])), ([122], (true, [49]))] = some [[98], [99], [122]] := by
  unfold act_Paths
  rw [if_pos (by rfl)]
  rfl
theorem small_ok : law11_small () = some true := by
  unfold law11_small
  rw [d1, Option.bind_some]
  show ((act_Do ([([97], [49])], ([([97, 47, 98], (true, [50, 50]))], 9))).bind fun r3 => _) = _
  rw [d2, Option.bind_some, d3, Option.bind_some, d4, Option.bind_some, d5, Option.bind_some, d6, Option.bind_some]
  rfl
end Go.Proofs.W.Q11
namespace Go.Proofs.W.Q11
open Go Go.Proofs.V Go.Proofs.W.Q9 Go.Proofs.W.Q10
set_option linter.unusedVariables false
set_option linter.unusedSimpArgs false
/-- What an action makes of a path. -/
def stepA (q : List UInt8) (o : Option (List UInt8)) (a : AcP) : Option (List UInt8) := if q = a.1 then (if a.2.1 = true then some a.2.2 else none) else o
def endT (t : List Fi) (l : List AcP) (q : List UInt8) : Option (List UInt8) := l.foldl (stepA q) (getT t q)
abbrev PB (t : List Fi) : Prop := ∀ g ∈ t, g.1.length ≤ 100000
theorem PB.big {t : List Fi} (h : PB t) : ∀ g ∈ t, g.1.length ≤ 1000000 := fun g hg => by have := h g hg; omega
theorem ok_PB {t t' : List Fi} {p : List UInt8} {o : Option (List UInt8)} (h : PB t) (hR : TreeX t) (hp : p.length ≤ 100000) (k : Ok t t' p o) : PB t' := by
  intro g hg
  have h1 := (getT_iff (treeX_asc k.x) (q := g.1) (d := g.2)).2 hg
  rw [k.g] at h1
  split at h1
  · rename_i e; rw [e]; exact hp
  · exact h _ ((getT_iff (treeX_asc hR)).1 h1)
theorem act1_ok {t : List Fi} (hb : PB t) (hR : TreeX t) (a : AcP) (ha : a.1.length ≤ 100000) : ∃ y, act1 t a = some y ∧ ((y.2 ≠ 0 ∧ y.1 = []) ∨ (y.2 = 0 ∧ path_Right a.1 = some true ∧ Ok t y.1 a.1 (if a.2.1 = true then some a.2.2 else none))) := by
  unfold act1
  split
  · obtain ⟨y, h1, h2, _⟩ := put_ok a.2.2 hb.big hR (by omega : a.1.length ≤ 1000000)
    exact ⟨y, h1, h2⟩
  · obtain ⟨y, h1, h2⟩ := drop_ok a.1 hb.big hR
    refine ⟨y, h1, ?_⟩
    rcases h2 with ⟨h2, h3, _⟩ | ⟨h2, h3, h4⟩
    · exact .inl ⟨h2, h3⟩
    · obtain ⟨d, hd⟩ := Option.isSome_iff_exists.1 h3
      exact .inr ⟨h2, hR.path _ ((getT_iff (treeX_asc hR)).1 hd), h4⟩
theorem doAll_ok : ∀ (l : List AcP) {t : List Fi}, PB t → TreeX t → (∀ a ∈ l, a.1.length ≤ 100000) → ∃ z, doAll t l = some z ∧ ((z.2 ≠ 0 ∧ z.1 = []) ∨ (z.2 = 0 ∧ TreeX z.1 ∧ PB z.1 ∧ (∀ a ∈ l, path_Right a.1 = some true) ∧ ∀ q, getT z.1 q = endT t l q))
  | [], t, hb, hR, hl => ⟨_, rfl, .inr ⟨rfl, hR, hb, (fun a ha => by cases ha), fun q => rfl⟩⟩
  | a :: l, t, hb, hR, hl => by
    obtain ⟨y, h1, h2⟩ := act1_ok hb hR a (hl a (by simp))
    rw [doAll, h1, Option.bind_some]
    rcases h2 with ⟨h2, h3⟩ | ⟨h2, h3, h4⟩
    · rw [if_neg h2]
      exact ⟨_, rfl, .inl ⟨h2, rfl⟩⟩
    · rw [if_pos h2]
      obtain ⟨z, k1, k2⟩ := doAll_ok l (ok_PB hb hR (hl a (by simp)) h4) h4.x (fun b hb => hl b (by simp [hb]))
      refine ⟨z, k1, ?_⟩
      rcases k2 with k2 | ⟨k2, k3, k4, k5, k6⟩
      · exact .inl k2
      · refine .inr ⟨k2, k3, k4, fun b hb => ?_, fun q => ?_⟩
        · rcases List.mem_cons.1 hb with rfl | hb
          · exact h3
          · exact k5 b hb
        · rw [k6]
          unfold endT
          rw [List.foldl_cons, h4.g]
          rfl
def sizeF (t : List Fi) : Int := (t.map fun f => (f.2.length : Int)).sum
theorem size_ok {t : List Fi} (h : TreeX t) : tree_Size t = some (sizeF t) := by
  have hl := h.len
  unfold tree_Size
  refine loop_run t.length (fun i s => s = (sizeF (t.take i), (i : Int))) _ (by omega) ?_ ?_ ?_
  · intro again s hs
    subst hs
    dsimp only
    rw [if_neg (by simp), List.take_length]
  · intro i hi again s hs k
    subst hs
    dsimp only
    rw [if_pos (by simp; omega), ixL_nat hi, wrap_succ (by omega)]
    refine k _ ?_
    have hX : ∀ j, 0 ≤ sizeF (t.take j) ∧ sizeF (t.take j) ≤ 9600 := fun j => by
      have key : ∀ l : List Fi, (∀ f ∈ l, f.2.length ≤ 600) → 0 ≤ sizeF l ∧ sizeF l ≤ 600 * l.length := by
        intro l
        induction l with
        | nil => intro _; simp [sizeF]
        | cons a l ih =>
          intro hl
          have h1 := ih fun f hf => hl f (by simp [hf])
          have h2 := hl a (by simp)
          have e : sizeF (a :: l) = (a.2.length : Int) + sizeF l := rfl
          rw [e, List.length_cons]
          omega
      have h1 := key (t.take j) fun f hf => h.data f (List.mem_of_mem_take hf)
      have h2 : (t.take j).length ≤ 16 := by rw [List.length_take]; omega
      omega
    have e : sizeF (t.take (i + 1)) = sizeF (t.take i) + (t[i].2.length : Int) := sum_take _ t hi
    have h1 := hX (i + 1)
    have h2 := hX i
    rw [← e, IntKind.wrap_i64]
    congr 1
    omega
  · rfl
/-- What Do tells. -/
theorem do_all {t : List Fi} {l : List AcP} (ho : okDo t l = true) (room : Int) :
    (tree_Right t = some false ∧ act_Do (t, (l, room)) = some ([], 1)) ∨
    (TreeX t ∧ ∃ z, doAll t l = some z ∧ ((z.2 ≠ 0 ∧ z.1 = [] ∧ act_Do (t, (l, room)) = some ([], z.2)) ∨
      (z.2 = 0 ∧ TreeX z.1 ∧ PB z.1 ∧ (∀ a ∈ l, path_Right a.1 = some true) ∧ (∀ q, getT z.1 q = endT t l q) ∧ act_Do (t, (l, room)) = some (if room < sizeF z.1 then ([], 2) else (z.1, 0))))) := by
  have hf := ho
  simp only [okDo, Bool.and_eq_true, decide_eq_true_eq, List.all_eq_true] at hf
  obtain ⟨⟨⟨h1, h2⟩, h3⟩, h4⟩ := hf
  have hb : PB t := fun g hg => (h3 g hg).1
  obtain ⟨r, hr⟩ := treeRight_ends t hb.big
  unfold act_Do
  rw [if_pos ho, hr]
  cases r with
  | false => exact .inl ⟨rfl, rfl⟩
  | true =>
    have hR := treeX_fwd hb.big hr
    obtain ⟨z, k1, k2⟩ := doAll_ok l hb hR (fun a ha => (h4 a ha).1)
    refine .inr ⟨hR, z, k1, ?_⟩
    dsimp only
    rw [Option.bind_some, if_neg (by simp), k1, Option.bind_some]
    rcases k2 with ⟨k2, k3⟩ | ⟨k2, k3, k4, k5, k6⟩
    · rw [if_neg k2]
      exact .inl ⟨k2, k3, rfl⟩
    · rw [if_pos k2, size_ok k3, Option.bind_some]
      refine .inr ⟨k2, k3, k4, k5, k6, ?_⟩
      split <;> rfl
theorem okDo_few {t : List Fi} {l : List AcP} (ht : (decide (t.length ≤ 40) && t.all okFi) = true) (hl : (decide (l.length ≤ 60) && l.all okAc) = true) : okDo t l = true := by
  simp only [Bool.and_eq_true, decide_eq_true_eq, List.all_eq_true, okFi, okAc] at ht hl
  simp only [okDo, Bool.and_eq_true, decide_eq_true_eq, List.all_eq_true]
  exact ⟨⟨⟨by omega, by omega⟩, fun g hg => by have := ht.2 g hg; omega⟩, fun a ha => by have := hl.2 a ha; omega⟩
end Go.Proofs.W.Q11
namespace Go.Proofs.W.Q11
open Go Go.Proofs.V Go.Proofs.W.Q9 Go.Proofs.W.Q10
set_option linter.unusedVariables false
set_option linter.unusedSimpArgs false
theorem room_ok (x : List Fi × (List AcP × (Int × Int))) (hx : x.2.1.length ≤ 9223372036854775807) (hr0 : -9223372036854775808 ≤ x.2.2.1) : law11_ActRoom x = some true := by
  obtain ⟨t, l, room, more⟩ := x
  unfold law11_ActRoom
  dsimp only at hx hr0 ⊢
  rw [small_ok, Option.bind_some, few4_ok, Option.bind_some, few11_ok l hx, Option.bind_some]
  cases hf : (decide (t.length ≤ 40) && t.all okFi) with
  | false => rfl
  | true =>
  rw [if_neg (by simp)]
  cases hg : (decide (l.length ≤ 60) && l.all okAc) with
  | false => rfl
  | true =>
  rw [if_neg (by simp)]
  by_cases q1 : decide (more < 0) = true
  · rw [if_pos q1]
  rw [if_neg q1]
  by_cases q2 : decide (room > 1099511627776) = true
  · rw [if_pos q2]
  rw [if_neg q2]
  by_cases q3 : decide (more > 1099511627776) = true
  · rw [if_pos q3]
  rw [if_neg q3]
  have q1 : 0 ≤ more := by simpa using q1
  have q2 : room ≤ 1099511627776 := by simpa using q2
  have q3 : more ≤ 1099511627776 := by simpa using q3
  have hw : IntKind.wrap .i64 (room + more) = room + more := by rw [IntKind.wrap_i64]; omega
  rw [hw]
  rcases do_all (okDo_few hf hg) room with ⟨hn, h⟩ | ⟨hX, z, hz, hd⟩
  · rcases do_all (okDo_few hf hg) (room + more) with ⟨_, h'⟩ | ⟨hX, _⟩
    · rw [h, h']; rfl
    · rw [treeX_back (few_treeB hf) hX] at hn; cases hn
  · rcases do_all (okDo_few hf hg) (room + more) with ⟨hn, h'⟩ | ⟨_, z', hz', hd'⟩
    · rw [treeX_back (few_treeB hf) hX] at hn; cases hn
    · rw [hz] at hz'
      cases hz'
      rcases hd with ⟨h1, h2, h3⟩ | ⟨h1, h2, h3, h4, h5, h6⟩
      · rcases hd' with ⟨_, _, h3'⟩ | ⟨h1', _⟩
        · rw [h3, h3', Option.bind_some, Option.bind_some, if_neg (by simpa using h1), if_pos rfl, if_pos (by simp), if_pos (by simp)]
        · exact absurd h1' h1
      · rcases hd' with ⟨h1', _⟩ | ⟨_, _, _, _, _, h6'⟩
        · exact absurd h1 h1'
        · rw [h6, h6', Option.bind_some, Option.bind_some]
          by_cases c1 : room < sizeF z.1
          · rw [if_pos c1]
            by_cases c2 : room + more < sizeF z.1
            · rw [if_pos c2]; rfl
            · rw [if_neg c2]
              dsimp only
              rw [if_neg (by decide), if_pos rfl, if_pos (by simp), if_neg (by decide), if_pos (by decide), if_pos (by decide), size_ok h2, Option.bind_some]
              congr 1
              simpa using c1
          · have c2 : ¬ room + more < sizeF z.1 := by omega
            rw [if_neg c1, if_neg c2]
            dsimp only
            have hl := h2.len
            rw [if_pos (by decide), if_pos rfl, if_pos (by decide), treeSame_refl _ (by omega), Option.bind_some, if_pos rfl, size_ok h2, Option.bind_some]
            congr 1
            simpa using c1
end Go.Proofs.W.Q11

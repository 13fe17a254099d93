/- small, reckoned; few. -/
import Derived.Test.YtboeaelijjamoaaDoorK44
import Derived.KernelRfl
import Derived.Test.YtboeaelijjamoaaDoorK32
namespace Go.Proofs.W.Q11
open Go Go.Proofs.V Go.Proofs.W.Q9 Go.Proofs.W.Q10
set_option linter.unusedVariables false
set_option linter.unusedSimpArgs false
set_option maxRecDepth 100000
set_option maxHeartbeats 4000000
theorem h1 : tree_Drop [([97], [49])] [97] = some ([], 0) := by
  simp only [Q9.strings_Split, Q9.slices_Clone_Entry, Q9.bytealg_IndexByteString, Q9.bytealg_CountString, Q9.stringslite_IndexByte, Q9.strings_IndexByte, Q9.path_Name, Q9.path_Names, Q9.path_Right, Q9.clock_Right, Q9.scan_files, Q9.stringslite_HasPrefix, Q9.strings_HasPrefix, Q9.path_Under, Q9.tree_Right_1, Q9.slices_IndexFunc_File_tree_Right_1, Q9.slices_ContainsFunc_File_tree_Right_1, Q9.tree_Right, Q9.scan_Right, Q9.clock_clamp, Q9.clock_Of, Q9.clock_count, Q9.clock_Pair, Q9.clock_whole, Q9.clock_Tick, Q9.both_step, Q9.scan_step, Q9.scan_post, Q9.scan_early, Q9.scan_Scan, Q9.slices_Equal_Entry, Q9.scan_Same, Q9.scan_find_1, Q9.slices_IndexFunc_Entry_scan_find_1, Q9.scan_find, Q9.scan_Find, Q9.scan_Tree, Q9.scan_Copy, Q9.law09_Few, Q9.law04_Few, Q9.clock_Mine, Q9.ref01_Rows, Q9.slices_Equal_File, Q9.tree_Same, Q9.path_Sorted, Q9.clock_Join, Q9.clock_Order, Q10.bytealg_abigen_runtime_cmpstring, Q10.recon_value, Q10.recon_joined, Q10.recon_come, Q10.slices_Index_string, Q10.slices_Contains_string, Q10.path_Clash, Q10.recon_may_1, Q10.slices_IndexFunc_string_recon_may_1, Q10.slices_ContainsFunc_string_recon_may_1, Q10.recon_may, Q10.law10_has, Q10.bytealg_CompareString, Q10.strings_Compare, Q10.tree_place_1, Q10.slices_BinarySearchFunc_string_tree_place_1, Q10.tree_place, Q10.tree_Find, Q10.tree_Get, Q10.recon_Agree, Q10.slices_Index_File, Q10.slices_Contains_File, Q10.oneM, Q10.recon_Merge, Q10.recon_Settle, Q10.slices_Concat_Action, Q10.recon_Plan, tree_Size, tree_Put_1, slices_IndexFunc_File_tree_Put_1, slices_ContainsFunc_File_tree_Put_1, tree_Drop, fixS_eq]
  kernel_rfl
theorem h2 : tree_Put [] [97, 47, 98] [50, 50] = some ([([97, 47, 98], [50, 50])], 0) := by
  simp only [Q9.strings_Split, Q9.slices_Clone_Entry, Q9.bytealg_IndexByteString, Q9.bytealg_CountString, Q9.stringslite_IndexByte, Q9.strings_IndexByte, Q9.path_Name, Q9.path_Names, Q9.path_Right, Q9.clock_Right, Q9.scan_files, Q9.stringslite_HasPrefix, Q9.strings_HasPrefix, Q9.path_Under, Q9.tree_Right_1, Q9.slices_IndexFunc_File_tree_Right_1, Q9.slices_ContainsFunc_File_tree_Right_1, Q9.tree_Right, Q9.scan_Right, Q9.clock_clamp, Q9.clock_Of, Q9.clock_count, Q9.clock_Pair, Q9.clock_whole, Q9.clock_Tick, Q9.both_step, Q9.scan_step, Q9.scan_post, Q9.scan_early, Q9.scan_Scan, Q9.slices_Equal_Entry, Q9.scan_Same, Q9.scan_find_1, Q9.slices_IndexFunc_Entry_scan_find_1, Q9.scan_find, Q9.scan_Find, Q9.scan_Tree, Q9.scan_Copy, Q9.law09_Few, Q9.law04_Few, Q9.clock_Mine, Q9.ref01_Rows, Q9.slices_Equal_File, Q9.tree_Same, Q9.path_Sorted, Q9.clock_Join, Q9.clock_Order, Q10.bytealg_abigen_runtime_cmpstring, Q10.recon_value, Q10.recon_joined, Q10.recon_come, Q10.slices_Index_string, Q10.slices_Contains_string, Q10.path_Clash, Q10.recon_may_1, Q10.slices_IndexFunc_string_recon_may_1, Q10.slices_ContainsFunc_string_recon_may_1, Q10.recon_may, Q10.law10_has, Q10.bytealg_CompareString, Q10.strings_Compare, Q10.tree_place_1, Q10.slices_BinarySearchFunc_string_tree_place_1, Q10.tree_place, Q10.tree_Find, Q10.tree_Get, Q10.recon_Agree, Q10.slices_Index_File, Q10.slices_Contains_File, Q10.oneM, Q10.recon_Merge, Q10.recon_Settle, Q10.slices_Concat_Action, Q10.recon_Plan, tree_Size, tree_Put_1, slices_IndexFunc_File_tree_Put_1, slices_ContainsFunc_File_tree_Put_1, tree_Put, fixS_eq]
  kernel_rfl
theorem h3 : tree_Put [([97], [49])] [97, 47, 98] [50, 50] = some ([], 6) := by
  simp only [Q9.strings_Split, Q9.slices_Clone_Entry, Q9.bytealg_IndexByteString, Q9.bytealg_CountString, Q9.stringslite_IndexByte, Q9.strings_IndexByte, Q9.path_Name, Q9.path_Names, Q9.path_Right, Q9.clock_Right, Q9.scan_files, Q9.stringslite_HasPrefix, Q9.strings_HasPrefix, Q9.path_Under, Q9.tree_Right_1, Q9.slices_IndexFunc_File_tree_Right_1, Q9.slices_ContainsFunc_File_tree_Right_1, Q9.tree_Right, Q9.scan_Right, Q9.clock_clamp, Q9.clock_Of, Q9.clock_count, Q9.clock_Pair, Q9.clock_whole, Q9.clock_Tick, Q9.both_step, Q9.scan_step, Q9.scan_post, Q9.scan_early, Q9.scan_Scan, Q9.slices_Equal_Entry, Q9.scan_Same, Q9.scan_find_1, Q9.slices_IndexFunc_Entry_scan_find_1, Q9.scan_find, Q9.scan_Find, Q9.scan_Tree, Q9.scan_Copy, Q9.law09_Few, Q9.law04_Few, Q9.clock_Mine, Q9.ref01_Rows, Q9.slices_Equal_File, Q9.tree_Same, Q9.path_Sorted, Q9.clock_Join, Q9.clock_Order, Q10.bytealg_abigen_runtime_cmpstring, Q10.recon_value, Q10.recon_joined, Q10.recon_come, Q10.slices_Index_string, Q10.slices_Contains_string, Q10.path_Clash, Q10.recon_may_1, Q10.slices_IndexFunc_string_recon_may_1, Q10.slices_ContainsFunc_string_recon_may_1, Q10.recon_may, Q10.law10_has, Q10.bytealg_CompareString, Q10.strings_Compare, Q10.tree_place_1, Q10.slices_BinarySearchFunc_string_tree_place_1, Q10.tree_place, Q10.tree_Find, Q10.tree_Get, Q10.recon_Agree, Q10.slices_Index_File, Q10.slices_Contains_File, Q10.oneM, Q10.recon_Merge, Q10.recon_Settle, Q10.slices_Concat_Action, Q10.recon_Plan, tree_Size, tree_Put_1, slices_IndexFunc_File_tree_Put_1, slices_ContainsFunc_File_tree_Put_1, tree_Put, fixS_eq]
  kernel_rfl
theorem h4 : Q9.tree_Right [([97], [49])] = some true := by
  simp only [Q9.strings_Split, Q9.slices_Clone_Entry, Q9.bytealg_IndexByteString, Q9.bytealg_CountString, Q9.stringslite_IndexByte, Q9.strings_IndexByte, Q9.path_Name, Q9.path_Names, Q9.path_Right, Q9.clock_Right, Q9.scan_files, Q9.stringslite_HasPrefix, Q9.strings_HasPrefix, Q9.path_Under, Q9.tree_Right_1, Q9.slices_IndexFunc_File_tree_Right_1, Q9.slices_ContainsFunc_File_tree_Right_1, Q9.tree_Right, Q9.scan_Right, Q9.clock_clamp, Q9.clock_Of, Q9.clock_count, Q9.clock_Pair, Q9.clock_whole, Q9.clock_Tick, Q9.both_step, Q9.scan_step, Q9.scan_post, Q9.scan_early, Q9.scan_Scan, Q9.slices_Equal_Entry, Q9.scan_Same, Q9.scan_find_1, Q9.slices_IndexFunc_Entry_scan_find_1, Q9.scan_find, Q9.scan_Find, Q9.scan_Tree, Q9.scan_Copy, Q9.law09_Few, Q9.law04_Few, Q9.clock_Mine, Q9.ref01_Rows, Q9.slices_Equal_File, Q9.tree_Same, Q9.path_Sorted, Q9.clock_Join, Q9.clock_Order, Q10.bytealg_abigen_runtime_cmpstring, Q10.recon_value, Q10.recon_joined, Q10.recon_come, Q10.slices_Index_string, Q10.slices_Contains_string, Q10.path_Clash, Q10.recon_may_1, Q10.slices_IndexFunc_string_recon_may_1, Q10.slices_ContainsFunc_string_recon_may_1, Q10.recon_may, Q10.law10_has, Q10.bytealg_CompareString, Q10.strings_Compare, Q10.tree_place_1, Q10.slices_BinarySearchFunc_string_tree_place_1, Q10.tree_place, Q10.tree_Find, Q10.tree_Get, Q10.recon_Agree, Q10.slices_Index_File, Q10.slices_Contains_File, Q10.oneM, Q10.recon_Merge, Q10.recon_Settle, Q10.slices_Concat_Action, Q10.recon_Plan, tree_Size, tree_Put_1, slices_IndexFunc_File_tree_Put_1, slices_ContainsFunc_File_tree_Put_1, fixS_eq]
  kernel_rfl
theorem h5 : tree_Size [([97, 47, 98], [50, 50])] = some 2 := by
  simp only [Q9.strings_Split, Q9.slices_Clone_Entry, Q9.bytealg_IndexByteString, Q9.bytealg_CountString, Q9.stringslite_IndexByte, Q9.strings_IndexByte, Q9.path_Name, Q9.path_Names, Q9.path_Right, Q9.clock_Right, Q9.scan_files, Q9.stringslite_HasPrefix, Q9.strings_HasPrefix, Q9.path_Under, Q9.tree_Right_1, Q9.slices_IndexFunc_File_tree_Right_1, Q9.slices_ContainsFunc_File_tree_Right_1, Q9.tree_Right, Q9.scan_Right, Q9.clock_clamp, Q9.clock_Of, Q9.clock_count, Q9.clock_Pair, Q9.clock_whole, Q9.clock_Tick, Q9.both_step, Q9.scan_step, Q9.scan_post, Q9.scan_early, Q9.scan_Scan, Q9.slices_Equal_Entry, Q9.scan_Same, Q9.scan_find_1, Q9.slices_IndexFunc_Entry_scan_find_1, Q9.scan_find, Q9.scan_Find, Q9.scan_Tree, Q9.scan_Copy, Q9.law09_Few, Q9.law04_Few, Q9.clock_Mine, Q9.ref01_Rows, Q9.slices_Equal_File, Q9.tree_Same, Q9.path_Sorted, Q9.clock_Join, Q9.clock_Order, Q10.bytealg_abigen_runtime_cmpstring, Q10.recon_value, Q10.recon_joined, Q10.recon_come, Q10.slices_Index_string, Q10.slices_Contains_string, Q10.path_Clash, Q10.recon_may_1, Q10.slices_IndexFunc_string_recon_may_1, Q10.slices_ContainsFunc_string_recon_may_1, Q10.recon_may, Q10.law10_has, Q10.bytealg_CompareString, Q10.strings_Compare, Q10.tree_place_1, Q10.slices_BinarySearchFunc_string_tree_place_1, Q10.tree_place, Q10.tree_Find, Q10.tree_Get, Q10.recon_Agree, Q10.slices_Index_File, Q10.slices_Contains_File, Q10.oneM, Q10.recon_Merge, Q10.recon_Settle, Q10.slices_Concat_Action, Q10.recon_Plan, tree_Size, tree_Put_1, slices_IndexFunc_File_tree_Put_1, slices_ContainsFunc_File_tree_Put_1, fixS_eq]
  kernel_rfl
theorem h6 : Q10.tree_Get ([([97], [49])], [97]) = some ([49], true) := by
  simp only [Q9.strings_Split, Q9.slices_Clone_Entry, Q9.bytealg_IndexByteString, Q9.bytealg_CountString, Q9.stringslite_IndexByte, Q9.strings_IndexByte, Q9.path_Name, Q9.path_Names, Q9.path_Right, Q9.clock_Right, Q9.scan_files, Q9.stringslite_HasPrefix, Q9.strings_HasPrefix, Q9.path_Under, Q9.tree_Right_1, Q9.slices_IndexFunc_File_tree_Right_1, Q9.slices_ContainsFunc_File_tree_Right_1, Q9.tree_Right, Q9.scan_Right, Q9.clock_clamp, Q9.clock_Of, Q9.clock_count, Q9.clock_Pair, Q9.clock_whole, Q9.clock_Tick, Q9.both_step, Q9.scan_step, Q9.scan_post, Q9.scan_early, Q9.scan_Scan, Q9.slices_Equal_Entry, Q9.scan_Same, Q9.scan_find_1, Q9.slices_IndexFunc_Entry_scan_find_1, Q9.scan_find, Q9.scan_Find, Q9.scan_Tree, Q9.scan_Copy, Q9.law09_Few, Q9.law04_Few, Q9.clock_Mine, Q9.ref01_Rows, Q9.slices_Equal_File, Q9.tree_Same, Q9.path_Sorted, Q9.clock_Join, Q9.clock_Order, Q10.bytealg_abigen_runtime_cmpstring, Q10.recon_value, Q10.recon_joined, Q10.recon_come, Q10.slices_Index_string, Q10.slices_Contains_string, Q10.path_Clash, Q10.recon_may_1, Q10.slices_IndexFunc_string_recon_may_1, Q10.slices_ContainsFunc_string_recon_may_1, Q10.recon_may, Q10.law10_has, Q10.bytealg_CompareString, Q10.strings_Compare, Q10.tree_place_1, Q10.slices_BinarySearchFunc_string_tree_place_1, Q10.tree_place, Q10.tree_Find, Q10.tree_Get, Q10.recon_Agree, Q10.slices_Index_File, Q10.slices_Contains_File, Q10.oneM, Q10.recon_Merge, Q10.recon_Settle, Q10.slices_Concat_Action, Q10.recon_Plan, tree_Size, tree_Put_1, slices_IndexFunc_File_tree_Put_1, slices_ContainsFunc_File_tree_Put_1, fixS_eq]
  kernel_rfl
theorem h7 : Q10.tree_Get ([([97], [49])], [97, 47, 98]) = some ([], false) := by
  simp only [Q9.strings_Split, Q9.slices_Clone_Entry, Q9.bytealg_IndexByteString, Q9.bytealg_CountString, Q9.stringslite_IndexByte, Q9.strings_IndexByte, Q9.path_Name, Q9.path_Names, Q9.path_Right, Q9.clock_Right, Q9.scan_files, Q9.stringslite_HasPrefix, Q9.strings_HasPrefix, Q9.path_Under, Q9.tree_Right_1, Q9.slices_IndexFunc_File_tree_Right_1, Q9.slices_ContainsFunc_File_tree_Right_1, Q9.tree_Right, Q9.scan_Right, Q9.clock_clamp, Q9.clock_Of, Q9.clock_count, Q9.clock_Pair, Q9.clock_whole, Q9.clock_Tick, Q9.both_step, Q9.scan_step, Q9.scan_post, Q9.scan_early, Q9.scan_Scan, Q9.slices_Equal_Entry, Q9.scan_Same, Q9.scan_find_1, Q9.slices_IndexFunc_Entry_scan_find_1, Q9.scan_find, Q9.scan_Find, Q9.scan_Tree, Q9.scan_Copy, Q9.law09_Few, Q9.law04_Few, Q9.clock_Mine, Q9.ref01_Rows, Q9.slices_Equal_File, Q9.tree_Same, Q9.path_Sorted, Q9.clock_Join, Q9.clock_Order, Q10.bytealg_abigen_runtime_cmpstring, Q10.recon_value, Q10.recon_joined, Q10.recon_come, Q10.slices_Index_string, Q10.slices_Contains_string, Q10.path_Clash, Q10.recon_may_1, Q10.slices_IndexFunc_string_recon_may_1, Q10.slices_ContainsFunc_string_recon_may_1, Q10.recon_may, Q10.law10_has, Q10.bytealg_CompareString, Q10.strings_Compare, Q10.tree_place_1, Q10.slices_BinarySearchFunc_string_tree_place_1, Q10.tree_place, Q10.tree_Find, Q10.tree_Get, Q10.recon_Agree, Q10.slices_Index_File, Q10.slices_Contains_File, Q10.oneM, Q10.recon_Merge, Q10.recon_Settle, Q10.slices_Concat_Action, Q10.recon_Plan, tree_Size, tree_Put_1, slices_IndexFunc_File_tree_Put_1, slices_ContainsFunc_File_tree_Put_1, fixS_eq]
  kernel_rfl
def okAc (e : AcP) : Bool := decide (e.1.length ≤ 100) && decide (e.2.2.length ≤ 1000)
theorem wrap_succ63 {i : Nat} (h : i < 9223372036854775807) : IntKind.wrap .i64 ((i : Int) + 1) = ((i + 1 : Nat) : Int) := by
  rw [IntKind.wrap_i64]; omega
theorem few11_ok (a : List AcP) (hl : a.length ≤ 9223372036854775807) : law11_few a = some (decide (a.length ≤ 60) && a.all okAc) := by
  unfold law11_few
  rw [fixS_idx a.length (fun i => some (decide (a.length ≤ 60) && (a.drop i).all okAc)) (by omega)]
  · simp
  · intro again
    rw [if_neg (by simp)]
    simp
    omega
  · intro i hi again ha
    rw [if_pos (by simp; omega), ixL_nat hi, ixL_nat hi, wrap_succ63 (by omega), ha]
    rw [List.drop_eq_getElem_cons hi, List.all_cons]
    by_cases h1 : a[i].1.length ≤ 100
    · rw [if_neg (by simp; omega)]
      by_cases h2 : a[i].2.2.length ≤ 1000
      · rw [if_neg (by simp; omega)]
        simp [okAc, h1, h2]
      · rw [if_pos (by simp; omega)]
        simp [okAc, h2]
    · rw [if_pos (by simp; omega)]
      simp [okAc, h1]
/-- What undoes actions, ahead of Net. -/
def undoA (t : List Fi) (q : List UInt8) : AcP := (q, ((getT t q).isSome, (getT t q).getD []))
theorem undo_ok {t : List Fi} {l : List AcP} (hb : ∀ g ∈ t, g.1.length ≤ 1000000) (hR : TreeX t) (ho : okActs l = true) : act_Undo (t, l) = act_Net ((sortP (l.map (·.1))).map (undoA t)) := by
  have hl : l.length ≤ 1000 := by
    simp only [okActs, Bool.and_eq_true, decide_eq_true_eq] at ho
    exact ho.1
  have hs := sortP_len (l.map (·.1))
  rw [List.length_map] at hs
  unfold act_Undo
  dsimp only
  rw [treeX_back hb hR, Option.bind_some, if_neg (by simp)]
  unfold act_Paths
  rw [if_pos ho, Option.bind_some]
  generalize hps : sortP (l.map (·.1)) = ps at *
  refine Eq.trans (loop_run (ps.length) (fun i s => s = ((ps.take i).map (undoA t), (i : Int))) (act_Net (ps.map (undoA t))) (by omega) ?_ ?_ ?_) rfl
  · intro again s hs'
    subst hs'
    dsimp only
    rw [List.take_length]
    rw [if_neg (by simp)]
    cases act_Net (ps.map (undoA t)) <;> rfl
  · intro i hi again s hs' h
    subst hs'
    dsimp only
    rw [if_pos (by simp; omega), ixL_nat hi, get_ok hb hR, Option.bind_some, fits40 (by simp; omega), if_pos rfl, wrap_succ (by omega)]
    refine h _ ?_
    rw [List.take_succ_eq_append_getElem hi, List.map_append]
    rfl
  · rfl
theorem tb0 : ∀ g ∈ ([([97], [49])] : List Fi), g.1.length ≤ 1000000 := by intro g hg; simp at hg; subst hg; decide
theorem d1 : act_Do ([([97], [49])], ([([97], (false, [])), ([97, 47, 98], (true, [50, 50]))], 9)) = some ([([97, 47, 98], [50, 50])], 0) := by
  unfold act_Do
  rw [if_pos (by rfl), h4]
  simp only [Option.bind_some, Bool.not_true, Bool.false_eq_true, if_false, doAll, act1, h1, h2, h5, if_true]
  rfl
theorem d2 : act_Do ([([97], [49])], ([([97, 47, 98], (true, [50, 50]))], 9)) = some ([], 6) := by
  unfold act_Do
  rw [if_pos (by rfl), h4]
  simp only [Option.bind_some, Bool.not_true, Bool.false_eq_true, if_false, doAll, act1, h3, if_true]
  rfl
theorem d3 : act_Do ([([97], [49])], ([([97], (false, [])), ([97, 47, 98], (true, [50, 50]))], 1)) = some ([], 2) := by
  unfold act_Do
  rw [if_pos (by rfl), h4]
  simp only [Option.bind_some, Bool.not_true, Bool.false_eq_true, if_false, doAll, act1, h1, h2, h5, if_true]
  rfl
theorem d4 : act_Undo ([([97], [49])], [([97], (false, [])), ([97, 47, 98], (true, [50, 50]))]) = some [([97, 47, 98], (false, [])), ([97], (true, [49]))] := by
  rw [undo_ok tb0 (treeX_fwd tb0 h4) (by rfl)]
  unfold act_Net
  rw [if_pos (by rfl)]
  rfl
theorem d5 : act_Net [([122], (true, [])), ([98], (false, [])), ([122], (true, [49])), ([99], (false, []))] = some [([98], (false, [])), ([99], (false, [])), ([122], (true, [49]))] := by
  unfold act_Net
  rw [if_pos (by rfl)]
  rfl
theorem d6 : act_Paths [([98], (false, [])), ([99], (false, [])), ([122], (true, [49]))] = some [[98], [99], [122]] := by
  unfold act_Paths
  rw [if_pos (by rfl)]
  rfl
theorem small_ok : law11_small () = some true := by
  unfold law11_small
  rw [d1, Option.bind_some]
  show ((act_Do ([([97], [49])], ([([97, 47, 98], (true, [50, 50]))], 9))).bind fun r3 => _) = _
  rw [d2, Option.bind_some, d3, Option.bind_some, d4, Option.bind_some, d5, Option.bind_some, d6, Option.bind_some]
  rfl
end Go.Proofs.W.Q11
namespace Go.Proofs.W.Q11
open Go Go.Proofs.V Go.Proofs.W.Q9 Go.Proofs.W.Q10
set_option linter.unusedVariables false
set_option linter.unusedSimpArgs false
/-- What an action makes of a path. -/
def stepA (q : List UInt8) (o : Option (List UInt8)) (a : AcP) : Option (List UInt8) := if q = a.1 then (if a.2.1 = true then some a.2.2 else none) else o
def endT (t : List Fi) (l : List AcP) (q : List UInt8) : Option (List UInt8) := l.foldl (stepA q) (getT t q)
abbrev PB (t : List Fi) : Prop := ∀ g ∈ t, g.1.length ≤ 100000
theorem PB.big {t : List Fi} (h : PB t) : ∀ g ∈ t, g.1.length ≤ 1000000 := fun g hg => by have := h g hg; omega
theorem ok_PB {t t' : List Fi} {p : List UInt8} {o : Option (List UInt8)} (h : PB t) (hR : TreeX t) (hp : p.length ≤ 100000) (k : Ok t t' p o) : PB t' := by
  intro g hg
  have h1 := (getT_iff (treeX_asc k.x) (q := g.1) (d := g.2)).2 hg
  rw [k.g] at h1
  split at h1
  · rename_i e; rw [e]; exact hp
  · exact h _ ((getT_iff (treeX_asc hR)).1 h1)
theorem act1_ok {t : List Fi} (hb : PB t) (hR : TreeX t) (a : AcP) (ha : a.1.length ≤ 100000) : ∃ y, act1 t a = some y ∧ ((y.2 ≠ 0 ∧ y.1 = []) ∨ (y.2 = 0 ∧ path_Right a.1 = some true ∧ Ok t y.1 a.1 (if a.2.1 = true then some a.2.2 else none))) := by
  unfold act1
  split
  · obtain ⟨y, h1, h2, _⟩ := put_ok a.2.2 hb.big hR (by omega : a.1.length ≤ 1000000)
    exact ⟨y, h1, h2⟩
  · obtain ⟨y, h1, h2⟩ := drop_ok a.1 hb.big hR
    refine ⟨y, h1, ?_⟩
    rcases h2 with ⟨h2, h3, _⟩ | ⟨h2, h3, h4⟩
    · exact .inl ⟨h2, h3⟩
    · obtain ⟨d, hd⟩ := Option.isSome_iff_exists.1 h3
      exact .inr ⟨h2, hR.path _ ((getT_iff (treeX_asc hR)).1 hd), h4⟩
theorem doAll_ok : ∀ (l : List AcP) {t : List Fi}, PB t → TreeX t → (∀ a ∈ l, a.1.length ≤ 100000) → ∃ z, doAll t l = some z ∧ ((z.2 ≠ 0 ∧ z.1 = []) ∨ (z.2 = 0 ∧ TreeX z.1 ∧ PB z.1 ∧ (∀ a ∈ l, path_Right a.1 = some true) ∧ ∀ q, getT z.1 q = endT t l q))
  | [], t, hb, hR, hl => ⟨_, rfl, .inr ⟨rfl, hR, hb, (fun a ha => by cases ha), fun q => rfl⟩⟩
  | a :: l, t, hb, hR, hl => by
    obtain ⟨y, h1, h2⟩ := act1_ok hb hR a (hl a (by simp))
    rw [doAll, h1, Option.bind_some]
    rcases h2 with ⟨h2, h3⟩ | ⟨h2, h3, h4⟩
    · rw [if_neg h2]
      exact ⟨_, rfl, .inl ⟨h2, rfl⟩⟩
    · rw [if_pos h2]
      obtain ⟨z, k1, k2⟩ := doAll_ok l (ok_PB hb hR (hl a (by simp)) h4) h4.x (fun b hb => hl b (by simp [hb]))
      refine ⟨z, k1, ?_⟩
      rcases k2 with k2 | ⟨k2, k3, k4, k5, k6⟩
      · exact .inl k2
      · refine .inr ⟨k2, k3, k4, fun b hb => ?_, fun q => ?_⟩
        · rcases List.mem_cons.1 hb with rfl | hb
          · exact h3
          · exact k5 b hb
        · rw [k6]
          unfold endT
          rw [List.foldl_cons, h4.g]
          rfl
theorem doAll_append : ∀ (a : List AcP) {b : List AcP} {t : List Fi}, doAll t (a ++ b) = (doAll t a).bind fun r => if r.2 = 0 then doAll r.1 b else some ([], r.2)
  | [], b, t => by simp [doAll]
  | x :: a, b, t => by
    rw [List.cons_append, doAll, doAll]
    cases h : act1 t x with
    | none => rfl
    | some r =>
      rw [Option.bind_some, Option.bind_some]
      by_cases h0 : r.2 = 0
      · rw [if_pos h0, if_pos h0, doAll_append a]
      · rw [if_neg h0, if_neg h0, Option.bind_some, if_neg h0]
def sizeF (t : List Fi) : Int := (t.map fun f => (f.2.length : Int)).sum
theorem size_bd {t : List Fi} (h : TreeX t) : 0 ≤ sizeF t ∧ sizeF t ≤ 9600 := by
  have key : ∀ l : List Fi, (∀ f ∈ l, f.2.length ≤ 600) → 0 ≤ sizeF l ∧ sizeF l ≤ 600 * l.length := by
    intro l
    induction l with
    | nil => intro _; simp [sizeF]
    | cons a l ih =>
      intro hl
      have h1 := ih fun f hf => hl f (by simp [hf])
      have h2 := hl a (by simp)
      have e : sizeF (a :: l) = (a.2.length : Int) + sizeF l := rfl
      rw [e, List.length_cons]
      omega
  have h1 := key t h.data
  have h2 := h.len
  omega
theorem size_ok {t : List Fi} (h : TreeX t) : tree_Size t = some (sizeF t) := by
  have hl := h.len
  unfold tree_Size
  refine loop_run t.length (fun i s => s = (sizeF (t.take i), (i : Int))) _ (by omega) ?_ ?_ ?_
  · intro again s hs
    subst hs
    dsimp only
    rw [if_neg (by simp), List.take_length]
  · intro i hi again s hs k
    subst hs
    dsimp only
    rw [if_pos (by simp; omega), ixL_nat hi, wrap_succ (by omega)]
    refine k _ ?_
    have hX : ∀ j, 0 ≤ sizeF (t.take j) ∧ sizeF (t.take j) ≤ 9600 := fun j => by
      have key : ∀ l : List Fi, (∀ f ∈ l, f.2.length ≤ 600) → 0 ≤ sizeF l ∧ sizeF l ≤ 600 * l.length := by
        intro l
        induction l with
        | nil => intro _; simp [sizeF]
        | cons a l ih =>
          intro hl
          have h1 := ih fun f hf => hl f (by simp [hf])
          have h2 := hl a (by simp)
          have e : sizeF (a :: l) = (a.2.length : Int) + sizeF l := rfl
          rw [e, List.length_cons]
          omega
      have h1 := key (t.take j) fun f hf => h.data f (List.mem_of_mem_take hf)
      have h2 : (t.take j).length ≤ 16 := by rw [List.length_take]; omega
      omega
    have e : sizeF (t.take (i + 1)) = sizeF (t.take i) + (t[i].2.length : Int) := sum_take _ t hi
    have h1 := hX (i + 1)
    have h2 := hX i
    rw [← e, IntKind.wrap_i64]
    congr 1
    omega
  · rfl
/-- What Do tells. -/
theorem do_all {t : List Fi} {l : List AcP} (ho : okDo t l = true) (room : Int) :
    (tree_Right t = some false ∧ act_Do (t, (l, room)) = some ([], 1)) ∨
    (TreeX t ∧ ∃ z, doAll t l = some z ∧ ((z.2 ≠ 0 ∧ z.1 = [] ∧ act_Do (t, (l, room)) = some ([], z.2)) ∨
      (z.2 = 0 ∧ TreeX z.1 ∧ PB z.1 ∧ (∀ a ∈ l, path_Right a.1 = some true) ∧ (∀ q, getT z.1 q = endT t l q) ∧ act_Do (t, (l, room)) = some (if room < sizeF z.1 then ([], 2) else (z.1, 0))))) := by
  have hf := ho
  simp only [okDo, Bool.and_eq_true, decide_eq_true_eq, List.all_eq_true] at hf
  obtain ⟨⟨⟨h1, h2⟩, h3⟩, h4⟩ := hf
  have hb : PB t := fun g hg => (h3 g hg).1
  obtain ⟨r, hr⟩ := treeRight_ends t hb.big
  unfold act_Do
  rw [if_pos ho, hr]
  cases r with
  | false => exact .inl ⟨rfl, rfl⟩
  | true =>
    have hR := treeX_fwd hb.big hr
    obtain ⟨z, k1, k2⟩ := doAll_ok l hb hR (fun a ha => (h4 a ha).1)
    refine .inr ⟨hR, z, k1, ?_⟩
    dsimp only
    rw [Option.bind_some, if_neg (by simp), k1, Option.bind_some]
    rcases k2 with ⟨k2, k3⟩ | ⟨k2, k3, k4, k5, k6⟩
    · rw [if_neg k2]
      exact .inl ⟨k2, k3, rfl⟩
    · rw [if_pos k2, size_ok k3, Option.bind_some]
      refine .inr ⟨k2, k3, k4, k5, k6, ?_⟩
      split <;> rfl
theorem okDo_few {t : List Fi} {l : List AcP} (ht : (decide (t.length ≤ 40) && t.all okFi) = true) (hl : (decide (l.length ≤ 60) && l.all okAc) = true) : okDo t l = true := by
  simp only [Bool.and_eq_true, decide_eq_true_eq, List.all_eq_true, okFi, okAc] at ht hl
  simp only [okDo, Bool.and_eq_true, decide_eq_true_eq, List.all_eq_true]
  exact ⟨⟨⟨by omega, by omega⟩, fun g hg => by have := ht.2 g hg; omega⟩, fun a ha => by have := hl.2 a ha; omega⟩
theorem okDo_X {t : List Fi} {l : List AcP} (hX : TreeX t) (hb : PB t) (hl : okActs l = true) : okDo t l = true := by
  simp only [okActs, okDo, Bool.and_eq_true, decide_eq_true_eq, List.all_eq_true] at *
  have := hX.len
  exact ⟨⟨⟨by omega, hl.1⟩, fun g hg => ⟨hb g hg, by have := hX.data g hg; omega⟩⟩, hl.2⟩
theorem okActs_few {l : List AcP} (hl : (decide (l.length ≤ 60) && l.all okAc) = true) : okActs l = true := by
  simp only [Bool.and_eq_true, decide_eq_true_eq, List.all_eq_true, okAc] at hl
  simp only [okActs, Bool.and_eq_true, decide_eq_true_eq, List.all_eq_true]
  exact ⟨by omega, fun a ha => by have := hl.2 a ha; omega⟩
end Go.Proofs.W.Q11
namespace Go.Proofs.W.Q11
open Go Go.Proofs.V Go.Proofs.W.Q9 Go.Proofs.W.Q10
set_option linter.unusedVariables false
set_option linter.unusedSimpArgs false
end Go.Proofs.W.Q11
namespace Go.Proofs.W.Q11
open Go Go.Proofs.V Go.Proofs.W.Q9 Go.Proofs.W.Q10
set_option linter.unusedVariables false
set_option linter.unusedSimpArgs false
theorem asc_nodup {α : Type} {f : α → List UInt8} {l : List α} (h : Asc f l) : (l.map f).Nodup := List.pairwise_map.2 (h.imp fun hab => less_ne hab)
theorem sortP_id {ps : List (List UInt8)} (h : Up ps) : sortP ps = ps := up_eq (sortP_up ps) h (sortP_mem ps)
theorem lastA_mem {l : List AcP} (h : (l.map (·.1)).Nodup) {a : AcP} (ha : a ∈ l) : lastA l a.1 = a := by
  unfold lastA
  cases hf : l.reverse.find? fun b => decide (b.1 = a.1) with
  | none =>
    have := List.find?_eq_none.1 hf a (List.mem_reverse.2 ha)
    simp at this
  | some b =>
    have h1 := List.mem_reverse.1 (List.mem_of_find?_eq_some hf)
    have h2 := List.find?_some hf
    have h2 : b.1 = a.1 := by simpa using h2
    rw [Option.getD_some]
    have h := List.pairwise_map.1 h
    obtain ⟨i, hi, rfl⟩ := List.mem_iff_getElem.1 h1
    obtain ⟨j, hj, rfl⟩ := List.mem_iff_getElem.1 ha
    rcases Nat.lt_trichotomy i j with k | k | k
    · exact absurd h2 (List.pairwise_iff_getElem.1 h i j hi hj k)
    · subst k; rfl
    · exact absurd h2.symm (List.pairwise_iff_getElem.1 h j i hj hi k)
/-- What an action says of its path. -/
def valA (a : AcP) : Option (List UInt8) := if a.2.1 = true then some a.2.2 else none
theorem fold_val {q : List UInt8} {v : Option (List UInt8)} : ∀ (l : List AcP) (o : Option (List UInt8)), (∀ a ∈ l, a.1 = q → valA a = v) → l.foldl (stepA q) o = if l.any (fun a => decide (a.1 = q)) = true then v else o
  | [], o, _ => rfl
  | a :: l, o, h => by
    rw [List.foldl_cons, fold_val l _ fun b hb => h b (by simp [hb]), List.any_cons]
    by_cases e : a.1 = q
    · have hv := h a (by simp) e
      have hs : stepA q o a = v := by
        unfold stepA
        rw [if_pos e.symm]
        exact hv
      rw [hs, decide_eq_true e, Bool.true_or, if_pos rfl]
      split <;> rfl
    · have hs : stepA q o a = o := by
        unfold stepA
        rw [if_neg fun k => e k.symm]
      rw [hs, decide_eq_false e, Bool.false_or]
theorem getT_some_mem {t : List Fi} (h : TreeX t) {q : List UInt8} (hs : (getT t q).isSome = true) : ∃ d, (q, d) ∈ t ∧ getT t q = some d := by
  obtain ⟨d, hd⟩ := Option.isSome_iff_exists.1 hs
  exact ⟨d, (getT_iff (treeX_asc h)).1 hd, hd⟩
theorem drops_ok : ∀ (D : List AcP) {t : List Fi}, PB t → TreeX t → (∀ a ∈ D, a.2.1 = false ∧ (getT t a.1).isSome = true) → (D.map (·.1)).Nodup → ∃ t1, doAll t D = some (t1, 0) ∧ TreeX t1 ∧ PB t1 ∧ ∀ q, getT t1 q = if q ∈ D.map (·.1) then none else getT t q
  | [], t, hb, hR, _, _ => ⟨t, rfl, hR, hb, fun q => by simp⟩
  | a :: D, t, hb, hR, hD, hn => by
    have hn := List.nodup_cons.1 hn
    have hn1 : a.1 ∉ D.map (·.1) := hn.1
    obtain ⟨e1, e2⟩ := hD a (by simp)
    obtain ⟨y, h1, h2⟩ := drop_ok a.1 hb.big hR
    rcases h2 with ⟨_, _, h3⟩ | ⟨h2, _, h4⟩
    · rw [h3] at e2; cases e2
    · obtain ⟨d, hd, _⟩ := getT_some_mem hR e2
      have hb' := ok_PB hb hR (hb _ hd) h4
      obtain ⟨t1, k1, k2, k3, k4⟩ := drops_ok D hb' h4.x (fun b hb2 => ⟨(hD b (by simp [hb2])).1, by
        rw [h4.g, if_neg (fun e => hn1 (by rw [← e]; exact List.mem_map.2 ⟨b, hb2, rfl⟩))]
        exact (hD b (by simp [hb2])).2⟩) hn.2
      refine ⟨t1, ?_, k2, k3, fun q => ?_⟩
      · rw [doAll]
        unfold act1
        rw [if_neg (by rw [e1]; simp), h1, Option.bind_some, if_pos h2]
        exact k1
      · rw [k4, h4.g, List.map_cons]
        by_cases m : q ∈ D.map (·.1)
        · rw [if_pos m, if_pos (List.mem_cons_of_mem _ m)]
        · rw [if_neg m]
          by_cases e : q = a.1
          · rw [if_pos e, if_pos (by rw [e]; exact List.mem_cons_self)]
          · rw [if_neg e, if_neg (fun h => (List.mem_cons.1 h).elim e m)]
theorem nodup_len : ∀ {a b : List (List UInt8)}, a.Nodup → (∀ x ∈ a, x ∈ b) → a.length ≤ b.length
  | [], _, _, _ => Nat.zero_le _
  | x :: a, b, hn, h => by
    have hn := List.nodup_cons.1 hn
    have hx := h x (by simp)
    have := nodup_len (a := a) (b := b.erase x) hn.2 fun y hy => (List.mem_erase_of_ne (fun e => hn.1 (by rw [← e]; exact hy))).2 (h y (by simp [hy]))
    rw [List.length_erase_of_mem hx] at this
    have hp := List.length_pos_of_mem hx
    rw [List.length_cons]
    omega
theorem sub_len {t u : List Fi} (ht : TreeX t) (hu : TreeX u) (h : ∀ q, (getT t q).isSome = true → (getT u q).isSome = true) {p : List UInt8} (hp : (getT u p).isSome = true) (hn : getT t p = none) : t.length < u.length := by
  have h1 : (p :: t.map (·.1)).Nodup := List.nodup_cons.2 ⟨(fun hm => by
    obtain ⟨f, hf, rfl⟩ := List.mem_map.1 hm
    rw [(getT_iff (treeX_asc ht) (q := f.1) (d := f.2)).2 hf] at hn
    cases hn), asc_nodup (treeX_asc ht)⟩
  have h2 : ∀ x ∈ p :: t.map (·.1), x ∈ u.map (·.1) := by
    intro x hx
    rcases List.mem_cons.1 hx with rfl | hx
    · obtain ⟨d, hd, _⟩ := getT_some_mem hu hp
      exact List.mem_map.2 ⟨_, hd, rfl⟩
    · obtain ⟨f, hf, rfl⟩ := List.mem_map.1 hx
      obtain ⟨d, hd, _⟩ := getT_some_mem hu (h f.1 (by rw [(getT_iff (treeX_asc ht) (q := f.1) (d := f.2)).2 hf]; rfl))
      exact List.mem_map.2 ⟨_, hd, rfl⟩
  have := nodup_len h1 h2
  simp at this
  omega
theorem puts_ok {u : List Fi} (hu : TreeX u) (hub : PB u) : ∀ (P : List AcP) {t : List Fi}, PB t → TreeX t → (∀ q, (getT t q).isSome = true → (getT u q).isSome = true) → (∀ a ∈ P, a.2.1 = true ∧ getT u a.1 = some a.2.2) → ∃ t2, doAll t P = some (t2, 0)
  | [], t, _, _, _, _ => ⟨t, rfl⟩
  | a :: P, t, hb, hR, hs, hP => by
    obtain ⟨e1, e2⟩ := hP a (by simp)
    have hm := (getT_iff (treeX_asc hu)).1 e2
    have hal : a.1.length ≤ 100000 := hub _ hm
    obtain ⟨y, h1, h2, h3⟩ := put_ok a.2.2 hb.big hR (by omega : a.1.length ≤ 1000000)
    have hul := hu.len
    have h0 : y.2 = 0 := by
      refine h3 (hu.path _ hm) (fun g hg => ?_) (hu.data _ hm) (fun hn => ?_)
      · obtain ⟨d, hd, _⟩ := getT_some_mem hu (hs g.1 (by rw [(getT_iff (treeX_asc hR) (q := g.1) (d := g.2)).2 hg]; rfl))
        have k1 := hu.no _ hd _ hm
        have k2 := hu.no _ hm _ hd
        unfold clashB
        rw [k1, k2]; rfl
      · have := sub_len hR hu hs (p := a.1) (by rw [e2]; rfl) hn
        omega
    rcases h2 with ⟨h2, _⟩ | ⟨_, _, h4⟩
    · exact absurd h0 h2
    · obtain ⟨t2, k⟩ := puts_ok hu hub P (ok_PB hb hR hal h4) h4.x (fun q hq => by
        rw [h4.g] at hq
        split at hq
        · rename_i e; rw [e, e2]; rfl
        · exact hs q hq) (fun b hb => hP b (by simp [hb]))
      refine ⟨t2, ?_⟩
      rw [doAll]
      unfold act1
      rw [if_pos e1, h1, Option.bind_some, if_pos h0]
      exact k
/-- What drops first, and puts then, and tells each path of the other tree, leads there. -/
theorem doAll_to {t u : List Fi} {D P : List AcP} (ht : TreeX t) (hb : PB t) (hu : TreeX u) (hub : PB u) (hD : ∀ a ∈ D, a.2.1 = false ∧ (getT t a.1).isSome = true) (hn : (D.map (·.1)).Nodup) (hP : ∀ a ∈ P, a.2.1 = true ∧ getT u a.1 = some a.2.2)
    (rest : ∀ q, (getT t q).isSome = true → q ∉ D.map (·.1) → (getT u q).isSome = true) (hl : ∀ a ∈ D ++ P, a.1.length ≤ 100000) (fin : ∀ q, endT t (D ++ P) q = getT u q) : doAll t (D ++ P) = some (u, 0) := by
  obtain ⟨t1, k1, k2, k3, k4⟩ := drops_ok D hb ht hD hn
  obtain ⟨t2, k5⟩ := puts_ok hu hub P k3 k2 (fun q hq => by
    rw [k4] at hq
    split at hq
    · cases hq
    · rename_i h; exact rest q hq h) hP
  have hall : doAll t (D ++ P) = some (t2, 0) := by rw [doAll_append, k1, Option.bind_some, if_pos rfl]; exact k5
  obtain ⟨z, h1, h2⟩ := doAll_ok (D ++ P) hb ht hl
  rw [hall] at h1
  cases h1
  rcases h2 with ⟨h, _⟩ | ⟨_, h2, _, _, h3⟩
  · exact absurd rfl h
  · rw [hall]
    exact congrArg (fun x => some (x, (0 : Int))) (tree_ext (treeX_asc h2) (treeX_asc hu) fun q => (h3 q).trans (fin q))
theorem do_to {t u : List Fi} {l : List AcP} (ht : TreeX t) (hb : PB t) (hu : TreeX u) (ho : okActs l = true) (h : doAll t l = some (u, 0)) : act_Do (t, (l, 1048576)) = some (u, 0) := by
  have hs := size_bd hu
  unfold act_Do
  rw [if_pos (okDo_X ht hb ho)]
  dsimp only
  rw [treeX_back hb.big ht, Option.bind_some, if_neg (by simp), h, Option.bind_some, if_pos rfl, size_ok hu, Option.bind_some, if_neg (by omega)]
theorem few_PB {t : List Fi} (h : (decide (t.length ≤ 40) && t.all okFi) = true) : PB t := by
  simp only [Bool.and_eq_true, decide_eq_true_eq, List.all_eq_true, okFi] at h
  exact fun g hg => by have := h.2 g hg; omega
/-- What Net makes of what undoes. -/
theorem net_undo {t : List Fi} {ps : List (List UInt8)} (h : Up ps) : netP (ps.map (undoA t)) = (ps.map (undoA t)).filter (fun a => !a.2.1) ++ (ps.map (undoA t)).filter (fun a => a.2.1) := by
  have hm : (ps.map (undoA t)).map (·.1) = ps := by
    rw [List.map_map]
    exact List.map_id ps
  have he : (sortP ((ps.map (undoA t)).map (·.1))).map (lastA (ps.map (undoA t))) = ps.map (undoA t) := by
    rw [hm, sortP_id h]
    refine List.map_congr_left fun q hq => ?_
    exact lastA_mem (a := undoA t q) (by rw [hm]; exact h.nodup) (List.mem_map.2 ⟨q, hq, rfl⟩)
  unfold netP
  rw [he]
theorem undoes_ok (x : List Fi × List AcP) (hx : x.2.length ≤ 9223372036854775807) : law11_ActUndoes x = some true := by
  obtain ⟨t, l⟩ := x
  unfold law11_ActUndoes
  dsimp only at hx ⊢
  rw [small_ok, Option.bind_some, few4_ok, Option.bind_some, few11_ok l hx, Option.bind_some]
  cases hf : (decide (t.length ≤ 40) && t.all okFi) with
  | false => rfl
  | true =>
  rw [if_neg (by simp)]
  cases hg : (decide (l.length ≤ 60) && l.all okAc) with
  | false => rfl
  | true =>
  rw [if_neg (by simp)]
  have hb := few_PB hf
  rcases do_all (okDo_few hf hg) 1048576 with ⟨_, h⟩ | ⟨hX, z, hz, ⟨h1, h2, h3⟩ | ⟨h1, h2, h3, h4, h5, h6⟩⟩
  · rw [h]; rfl
  · rw [h3, Option.bind_some, if_pos (by simpa using h1)]
  · rw [if_neg (by have := size_bd h2; omega)] at h6
    rw [h6, Option.bind_some]
    dsimp only
    rw [if_neg (by simp), undo_ok hb.big hX (okActs_few hg)]
    have hll : l.length ≤ 60 ∧ ∀ a ∈ l, a.1.length ≤ 100 := by
      simp only [Bool.and_eq_true, decide_eq_true_eq, List.all_eq_true, okAc] at hg
      exact ⟨hg.1, fun a ha => (hg.2 a ha).1⟩
    have hpl := sortP_len (l.map (·.1))
    rw [List.length_map] at hpl
    have hup := sortP_up (l.map (·.1))
    have hpm : ∀ q ∈ sortP (l.map (·.1)), ∃ a ∈ l, a.1 = q := fun q hq => by
      obtain ⟨a, ha, e⟩ := List.mem_map.1 ((sortP_mem _ q).1 hq)
      exact ⟨a, ha, e⟩
    have hqm : ∀ a ∈ l, a.1 ∈ sortP (l.map (·.1)) := fun a ha => (sortP_mem _ _).2 (List.mem_map.2 ⟨a, ha, rfl⟩)
    have hpaths : act_Paths l = some (sortP (l.map (·.1))) := by unfold act_Paths; rw [if_pos (okActs_few hg)]
    generalize sortP (l.map (·.1)) = ps at *
    have hua : okActs (ps.map (undoA t)) = true := by
      simp only [okActs, Bool.and_eq_true, decide_eq_true_eq, List.all_eq_true, List.length_map]
      refine ⟨by omega, fun a ha => ?_⟩
      obtain ⟨q, hq, rfl⟩ := List.mem_map.1 ha
      obtain ⟨b, hbm, rfl⟩ := hpm q hq
      have := hll.2 b hbm
      refine ⟨by show b.1.length ≤ _; omega, ?_⟩
      show ((getT t b.1).getD []).length ≤ _
      cases hg' : getT t b.1 with
      | none => simp
      | some d =>
        have h9 : d.length ≤ 600 := hX.data _ ((getT_iff (treeX_asc hX)).1 hg')
        rw [Option.getD_some]
        omega
    unfold act_Net
    rw [if_pos hua, Option.bind_some, net_undo hup]
    generalize hN : (ps.map (undoA t)).filter (fun a => !a.2.1) ++ (ps.map (undoA t)).filter (fun a => a.2.1) = N
    have hNl : N.length ≤ 120 := by
      rw [← hN, List.length_append]
      have k1 := List.length_filter_le (fun a : AcP => !a.2.1) (ps.map (undoA t))
      have k2 := List.length_filter_le (fun a : AcP => a.2.1) (ps.map (undoA t))
      rw [List.length_map] at k1 k2
      omega
    let keep : AcP → Bool := fun a => a.2.1 || (getT z.1 a.1).isSome
    refine loop_run N.length (fun i s => s = ((N.take i).filter keep, (i : Int))) _ (by omega) ?_ ?_ ?_
    · intro again s hs
      subst hs
      dsimp only
      rw [if_neg (by simp), List.take_length]
      -- what is done
      have hkeep : N.filter keep = ((ps.map (undoA t)).filter (fun a => !a.2.1)).filter keep ++ (ps.map (undoA t)).filter (fun a => a.2.1) := by
        rw [← hN, List.filter_append]
        congr 1
        refine List.filter_eq_self.2 fun a ha => ?_
        have := (List.mem_filter.1 ha).2
        show (a.2.1 || _) = true
        rw [this]; rfl
      have hall : ∀ a ∈ N.filter keep, ∃ q ∈ ps, a = undoA t q := by
        intro a ha
        have ha := (List.mem_filter.1 ha).1
        rw [← hN] at ha
        rcases List.mem_append.1 ha with h | h <;>
        · obtain ⟨q, hq, rfl⟩ := List.mem_map.1 (List.mem_filter.1 h).1
          exact ⟨q, hq, rfl⟩
      have hval : ∀ q, valA (undoA t q) = getT t q := by
        intro q
        unfold valA undoA
        cases getT t q <;> rfl
      have hlen : ∀ a ∈ N.filter keep, a.1.length ≤ 100000 := by
        intro a ha
        obtain ⟨q, hq, rfl⟩ := hall a ha
        obtain ⟨b, hb, rfl⟩ := hpm q hq
        have := hll.2 b hb
        show b.1.length ≤ _; omega
      have hdo : doAll z.1 (N.filter keep) = some (t, 0) := by
        rw [hkeep] at hall hlen ⊢
        refine doAll_to h2 h3 hX hb (fun a ha => ?_) ?_ (fun a ha => ?_) (fun q hq hn => ?_) hlen (fun q => ?_)
        · have k1 := List.mem_filter.1 ha
          have k2 := (List.mem_filter.1 k1.1).2
          have k2 : a.2.1 = false := by simpa using k2
          have k3 : (a.2.1 || (getT z.1 a.1).isSome) = true := k1.2
          rw [k2] at k3
          exact ⟨k2, by simpa using k3⟩
        · have hm : (ps.map (undoA t)).map (·.1) = ps := by
            rw [List.map_map]
            exact List.map_id ps
          have hnd := hup.nodup
          rw [← hm] at hnd
          exact List.Pairwise.sublist ((List.filter_sublist.trans List.filter_sublist).map (fun a : AcP => a.1)) hnd
        · have k1 := List.mem_filter.1 ha
          obtain ⟨q, hq, rfl⟩ := List.mem_map.1 k1.1
          have k2 : (getT t q).isSome = true := k1.2
          obtain ⟨d, hd⟩ := Option.isSome_iff_exists.1 k2
          refine ⟨k2, ?_⟩
          show getT t q = some ((getT t q).getD [])
          rw [hd]; rfl
        · cases hs : (getT t q).isSome with
          | true => rfl
          | false =>
            exfalso
            by_cases hqp : q ∈ ps
            · refine hn (List.mem_map.2 ⟨undoA t q, List.mem_filter.2 ⟨List.mem_filter.2 ⟨List.mem_map.2 ⟨q, hqp, rfl⟩, ?_⟩, ?_⟩, rfl⟩)
              · show (!(getT t q).isSome) = true
                rw [hs]; rfl
              · show ((getT t q).isSome || (getT z.1 q).isSome) = true
                rw [hq]; simp
            · rw [h5] at hq
              unfold endT at hq
              rw [fold_val (q := q) (v := none) l _ (fun a ha e => absurd (e ▸ hqm a ha) hqp)] at hq
              have : l.any (fun a => decide (a.1 = q)) = false := by
                rw [List.any_eq_false]
                intro a ha e
                simp at e
                exact hqp (e ▸ hqm a ha)
              rw [this, if_neg (by simp), hs] at hq
              cases hq
        · unfold endT
          rw [fold_val (v := getT t q) _ _ (fun a ha e => by
            obtain ⟨q', _, rfl⟩ := hall a ha
            have e : q' = q := e
            rw [hval, e])]
          split
          · rfl
          · rename_i hany
            have hno : ∀ a ∈ ((ps.map (undoA t)).filter (fun a => !a.2.1)).filter keep ++ (ps.map (undoA t)).filter (fun a => a.2.1), a.1 ≠ q := by
              intro a ha e
              exact hany (List.any_eq_true.2 ⟨a, ha, by simpa using e⟩)
            by_cases hqp : q ∈ ps
            · have hum : undoA t q ∈ ps.map (undoA t) := List.mem_map.2 ⟨q, hqp, rfl⟩
              cases hs : getT t q with
              | some d =>
                refine absurd rfl (hno (undoA t q) (List.mem_append.2 (.inr (List.mem_filter.2 ⟨hum, ?_⟩))))
                show (getT t q).isSome = true
                rw [hs]; rfl
              | none =>
                cases hz1 : getT z.1 q with
                | none => rfl
                | some d =>
                  refine absurd rfl (hno (undoA t q) (List.mem_append.2 (.inl (List.mem_filter.2 ⟨List.mem_filter.2 ⟨hum, ?_⟩, ?_⟩))))
                  · show (!(getT t q).isSome) = true
                    rw [hs]; rfl
                  · show ((getT t q).isSome || (getT z.1 q).isSome) = true
                    rw [hz1]; simp
            · rw [h5]
              unfold endT
              rw [fold_val (q := q) (v := none) l _ (fun a ha e => absurd (e ▸ hqm a ha) hqp)]
              have : l.any (fun a => decide (a.1 = q)) = false := by
                rw [List.any_eq_false]
                intro a ha e
                simp at e
                exact hqp (e ▸ hqm a ha)
              rw [this]
              rfl
      have hok : okActs (N.filter keep) = true := by
        simp only [okActs, Bool.and_eq_true, decide_eq_true_eq, List.all_eq_true] at hua ⊢
        refine ⟨by have := List.length_filter_le keep N; omega, fun a ha => ?_⟩
        obtain ⟨q, hq, rfl⟩ := hall a ha
        exact hua.2 _ (List.mem_map.2 ⟨q, hq, rfl⟩)
      have htl := hX.len
      rw [do_to h2 h3 hX hok hdo, Option.bind_some, if_pos rfl]
      dsimp only
      rw [if_pos (by simp), treeSame_refl _ (by omega), Option.bind_some, if_pos rfl, hpaths, Option.bind_some, sorted_ok (by omega) (fun q hq => ?_) hup, Option.bind_some]
      obtain ⟨a, ha, rfl⟩ := hpm q hq
      exact h4 a ha
    · intro i hi again s hs k
      subst hs
      dsimp only
      rw [if_pos (by simp; omega)]
      simp only [ixL_nat hi]
      rw [wrap_succ (by omega)]
      have hfl := List.length_filter_le keep (N.take i)
      have htk : (N.take i).length ≤ N.length := by rw [List.length_take]; omega
      have e : (N.take (i + 1)).filter keep = (N.take i).filter keep ++ (if keep N[i] = true then [N[i]] else []) := by
        rw [List.take_succ_eq_append_getElem hi, List.filter_append]
        congr 1
        cases h : keep N[i] <;> simp [h]
      rw [e] at k
      cases hp : N[i].2.1 with
      | true =>
        have hk : keep N[i] = true := by show (N[i].2.1 || _) = true; rw [hp]; rfl
        rw [hk, if_pos rfl] at k
        rw [if_pos rfl, fits40 (by simp; omega), if_pos rfl]
        refine k _ ?_
        rw [← hp]
      | false =>
        rw [if_neg (by simp)]
        rcases findT_cases h3.big h2 N[i].1 with ⟨k1, k2⟩ | ⟨j, hj, k1, k2, k3⟩
        · have hk : keep N[i] = false := by show (N[i].2.1 || (getT z.1 N[i].1).isSome) = false; rw [hp, k1]; rfl
          rw [hk, if_neg (by simp), List.append_nil] at k
          rw [k2, Option.bind_some, if_neg (by decide)]
          exact k _ rfl
        · have hk : keep N[i] = true := by show (N[i].2.1 || (getT z.1 N[i].1).isSome) = true; rw [k2]; simp
          rw [hk, if_pos rfl] at k
          rw [k3, Option.bind_some, if_pos (by simp), fits40 (by simp; omega), if_pos rfl]
          refine k _ ?_
          rw [← hp]
    · rfl
end Go.Proofs.W.Q11

/- small, reckoned; few. -/
import Derived.Test.YtboeaelijjamoaaGreatDoorK46
import Derived.KernelRfl
import Derived.Test.YtboeaelijjamoaaGreatDoorK32
import Derived.Test.YtboeaelijjamoaaGreatDoorK42
namespace Go.Proofs.W.Q11
open Go Go.Proofs.V Go.Proofs.W.Q9 Go.Proofs.W.Q10
set_option linter.unusedVariables false
set_option linter.unusedSimpArgs false
set_option maxRecDepth 100000
set_option maxHeartbeats 4000000
theorem h1 : tree_Drop [([97], [49])] [97] = some ([], 0) := by
  simp only [Q9.strings_Split, Q9.slices_Clone_Entry, Q9.bytealg_IndexByteString, Q9.bytealg_CountString, Q9.stringslite_IndexByte, Q9.strings_IndexByte, Q9.path_Name, Q9.path_Names, Q9.path_Right, Q9.clock_Right, Q9.scan_files, Q9.stringslite_HasPrefix, Q9.strings_HasPrefix, Q9.path_Under, Q9.tree_Right_1, Q9.slices_IndexFunc_File_tree_Right_1, Q9.slices_ContainsFunc_File_tree_Right_1, Q9.tree_Right, Q9.scan_Right, Q9.clock_clamp, Q9.clock_Of, Q9.clock_count, Q9.clock_Pair, Q9.clock_whole, Q9.clock_Tick, Q9.both_step, Q9.scan_step, Q9.scan_post, Q9.scan_early, Q9.scan_Scan, Q9.slices_Equal_Entry, Q9.scan_Same, Q9.scan_find_1, Q9.slices_IndexFunc_Entry_scan_find_1, Q9.scan_find, Q9.scan_Find, Q9.scan_Tree, Q9.scan_Copy, Q9.law09_Few, Q9.law04_Few, Q9.clock_Mine, Q9.ref01_Rows, Q9.slices_Equal_File, Q9.tree_Same, Q9.path_Sorted, Q9.clock_Join, Q9.clock_Order, Q10.bytealg_abigen_runtime_cmpstring, Q10.recon_value, Q10.recon_joined, Q10.recon_come, Q10.slices_Index_string, Q10.slices_Contains_string, Q10.path_Clash, Q10.recon_may_1, Q10.slices_IndexFunc_string_recon_may_1, Q10.slices_ContainsFunc_string_recon_may_1, Q10.recon_may, Q10.law10_has, Q10.bytealg_CompareString, Q10.strings_Compare, Q10.tree_place_1, Q10.slices_BinarySearchFunc_string_tree_place_1, Q10.tree_place, Q10.tree_Find, Q10.tree_Get, Q10.recon_Agree, Q10.slices_Index_File, Q10.slices_Contains_File, Q10.oneM, Q10.recon_Merge, Q10.recon_Settle, Q10.slices_Concat_Action, Q10.recon_Plan, tree_Size, tree_Put_1, slices_IndexFunc_File_tree_Put_1, slices_ContainsFunc_File_tree_Put_1, tree_Drop, fixS_eq]
  kernel_rfl
theorem h2 : tree_Put [] [97, 47, 98] [50, 50] = some ([([97, 47, 98], [50, 50])], 0) := by
  simp only [Q9.strings_Split, Q9.slices_Clone_Entry, Q9.bytealg_IndexByteString, Q9.bytealg_CountString, Q9.stringslite_IndexByte, Q9.strings_IndexByte, Q9.path_Name, Q9.path_Names, Q9.path_Right, Q9.clock_Right, Q9.scan_files, Q9.stringslite_HasPrefix, Q9.strings_HasPrefix, Q9.path_Under, Q9.tree_Right_1, Q9.slices_IndexFunc_File_tree_Right_1, Q9.slices_ContainsFunc_File_tree_Right_1, Q9.tree_Right, Q9.scan_Right, Q9.clock_clamp, Q9.clock_Of, Q9.clock_count, Q9.clock_Pair, Q9.clock_whole, Q9.clock_Tick, Q9.both_step, Q9.scan_step, Q9.scan_post, Q9.scan_early, Q9.scan_Scan, Q9.slices_Equal_Entry, Q9.scan_Same, Q9.scan_find_1, Q9.slices_IndexFunc_Entry_scan_find_1, Q9.scan_find, Q9.scan_Find, Q9.scan_Tree, Q9.scan_Copy, Q9.law09_Few, Q9.law04_Few, Q9.clock_Mine, Q9.ref01_Rows, Q9.slices_Equal_File, Q9.tree_Same, Q9.path_Sorted, Q9.clock_Join, Q9.clock_Order, Q10.bytealg_abigen_runtime_cmpstring, Q10.recon_value, Q10.recon_joined, Q10.recon_come, Q10.slices_Index_string, Q10.slices_Contains_string, Q10.path_Clash, Q10.recon_may_1, Q10.slices_IndexFunc_string_recon_may_1, Q10.slices_ContainsFunc_string_recon_may_1, Q10.recon_may, Q10.law10_has, Q10.bytealg_CompareString, Q10.strings_Compare, Q10.tree_place_1, Q10.slices_BinarySearchFunc_string_tree_place_1, Q10.tree_place, Q10.tree_Find, Q10.tree_Get, Q10.recon_Agree, Q10.slices_Index_File, Q10.slices_Contains_File, Q10.oneM, Q10.recon_Merge, Q10.recon_Settle, Q10.slices_Concat_Action, Q10.recon_Plan, tree_Size, tree_Put_1, slices_IndexFunc_File_tree_Put_1, slices_ContainsFunc_File_tree_Put_1, tree_Put, fixS_eq]
  kernel_rfl
theorem h3 : tree_Put [([97], [49])] [97, 47, 98] [50, 50] = some ([], 6) := by
  simp only [Q9.strings_Split, Q9.slices_Clone_Entry, Q9.bytealg_IndexByteString, Q9.bytealg_CountString, Q9.stringslite_IndexByte, Q9.strings_IndexByte, Q9.path_Name, Q9.path_Names, Q9.path_Right, Q9.clock_Right, Q9.scan_files, Q9.stringslite_HasPrefix, Q9.strings_HasPrefix, Q9.path_Under, Q9.tree_Right_1, Q9.slices_IndexFunc_File_tree_Right_1, Q9.slices_ContainsFunc_File_tree_Right_1, Q9.tree_Right, Q9.scan_Right, Q9.clock_clamp, Q9.clock_Of, Q9.clock_count, Q9.clock_Pair, Q9.clock_whole, Q9.clock_Tick, Q9.both_step, Q9.scan_step, Q9.scan_post, Q9.scan_early, Q9.scan_Scan, Q9.slices_Equal_Entry, Q9.scan_Same, Q9.scan_find_1, Q9.slices_IndexFunc_Entry_scan_find_1, Q9.scan_find, Q9.scan_Find, Q9.scan_Tree, Q9.scan_Copy, Q9.law09_Few, Q9.law04_Few, Q9.clock_Mine, Q9.ref01_Rows, Q9.slices_Equal_File, Q9.tree_Same, Q9.path_Sorted, Q9.clock_Join, Q9.clock_Order, Q10.bytealg_abigen_runtime_cmpstring, Q10.recon_value, Q10.recon_joined, Q10.recon_come, Q10.slices_Index_string, Q10.slices_Contains_string, Q10.path_Clash, Q10.recon_may_1, Q10.slices_IndexFunc_string_recon_may_1, Q10.slices_ContainsFunc_string_recon_may_1, Q10.recon_may, Q10.law10_has, Q10.bytealg_CompareString, Q10.strings_Compare, Q10.tree_place_1, Q10.slices_BinarySearchFunc_string_tree_place_1, Q10.tree_place, Q10.tree_Find, Q10.tree_Get, Q10.recon_Agree, Q10.slices_Index_File, Q10.slices_Contains_File, Q10.oneM, Q10.recon_Merge, Q10.recon_Settle, Q10.slices_Concat_Action, Q10.recon_Plan, tree_Size, tree_Put_1, slices_IndexFunc_File_tree_Put_1, slices_ContainsFunc_File_tree_Put_1, tree_Put, fixS_eq]
  kernel_rfl
theorem h4 : Q9.tree_Right [([97], [49])] = some true := by
  simp only [Q9.strings_Split, Q9.slices_Clone_Entry, Q9.bytealg_IndexByteString, Q9.bytealg_CountString, Q9.stringslite_IndexByte, Q9.strings_IndexByte, Q9.path_Name, Q9.path_Names, Q9.path_Right, Q9.clock_Right, Q9.scan_files, Q9.stringslite_HasPrefix, Q9.strings_HasPrefix, Q9.path_Under, Q9.tree_Right_1, Q9.slices_IndexFunc_File_tree_Right_1, Q9.slices_ContainsFunc_File_tree_Right_1, Q9.tree_Right, Q9.scan_Right, Q9.clock_clamp, Q9.clock_Of, Q9.clock_count, Q9.clock_Pair, Q9.clock_whole, Q9.clock_Tick, Q9.both_step, Q9.scan_step, Q9.scan_post, Q9.scan_early, Q9.scan_Scan, Q9.slices_Equal_Entry, Q9.scan_Same, Q9.scan_find_1, Q9.slices_IndexFunc_Entry_scan_find_1, Q9.scan_find, Q9.scan_Find, Q9.scan_Tree, Q9.scan_Copy, Q9.law09_Few, Q9.law04_Few, Q9.clock_Mine, Q9.ref01_Rows, Q9.slices_Equal_File, Q9.tree_Same, Q9.path_Sorted, Q9.clock_Join, Q9.clock_Order, Q10.bytealg_abigen_runtime_cmpstring, Q10.recon_value, Q10.recon_joined, Q10.recon_come, Q10.slices_Index_string, Q10.slices_Contains_string, Q10.path_Clash, Q10.recon_may_1, Q10.slices_IndexFunc_string_recon_may_1, Q10.slices_ContainsFunc_string_recon_may_1, Q10.recon_may, Q10.law10_has, Q10.bytealg_CompareString, Q10.strings_Compare, Q10.tree_place_1, Q10.slices_BinarySearchFunc_string_tree_place_1, Q10.tree_place, Q10.tree_Find, Q10.tree_Get, Q10.recon_Agree, Q10.slices_Index_File, Q10.slices_Contains_File, Q10.oneM, Q10.recon_Merge, Q10.recon_Settle, Q10.slices_Concat_Action, Q10.recon_Plan, tree_Size, tree_Put_1, slices_IndexFunc_File_tree_Put_1, slices_ContainsFunc_File_tree_Put_1, fixS_eq]
  kernel_rfl
theorem h5 : tree_Size [([97, 47, 98], [50, 50])] = some 2 := by
  simp only [Q9.strings_Split, Q9.slices_Clone_Entry, Q9.bytealg_IndexByteString, Q9.bytealg_CountString, Q9.stringslite_IndexByte, Q9.strings_IndexByte, Q9.path_Name, Q9.path_Names, Q9.path_Right, Q9.clock_Right, Q9.scan_files, Q9.stringslite_HasPrefix, Q9.strings_HasPrefix, Q9.path_Under, Q9.tree_Right_1, Q9.slices_IndexFunc_File_tree_Right_1, Q9.slices_ContainsFunc_File_tree_Right_1, Q9.tree_Right, Q9.scan_Right, Q9.clock_clamp, Q9.clock_Of, Q9.clock_count, Q9.clock_Pair, Q9.clock_whole, Q9.clock_Tick, Q9.both_step, Q9.scan_step, Q9.scan_post, Q9.scan_early, Q9.scan_Scan, Q9.slices_Equal_Entry, Q9.scan_Same, Q9.scan_find_1, Q9.slices_IndexFunc_Entry_scan_find_1, Q9.scan_find, Q9.scan_Find, Q9.scan_Tree, Q9.scan_Copy, Q9.law09_Few, Q9.law04_Few, Q9.clock_Mine, Q9.ref01_Rows, Q9.slices_Equal_File, Q9.tree_Same, Q9.path_Sorted, Q9.clock_Join, Q9.clock_Order, Q10.bytealg_abigen_runtime_cmpstring, Q10.recon_value, Q10.recon_joined, Q10.recon_come, Q10.slices_Index_string, Q10.slices_Contains_string, Q10.path_Clash, Q10.recon_may_1, Q10.slices_IndexFunc_string_recon_may_1, Q10.slices_ContainsFunc_string_recon_may_1, Q10.recon_may, Q10.law10_has, Q10.bytealg_CompareString, Q10.strings_Compare, Q10.tree_place_1, Q10.slices_BinarySearchFunc_string_tree_place_1, Q10.tree_place, Q10.tree_Find, Q10.tree_Get, Q10.recon_Agree, Q10.slices_Index_File, Q10.slices_Contains_File, Q10.oneM, Q10.recon_Merge, Q10.recon_Settle, Q10.slices_Concat_Action, Q10.recon_Plan, tree_Size, tree_Put_1, slices_IndexFunc_File_tree_Put_1, slices_ContainsFunc_File_tree_Put_1, fixS_eq]
  kernel_rfl
theorem h6 : Q10.tree_Get ([([97], [49])], [97]) = some ([49], true) := by
  simp only [Q9.strings_Split, Q9.slices_Clone_Entry, Q9.bytealg_IndexByteString, Q9.bytealg_CountString, Q9.stringslite_IndexByte, Q9.strings_IndexByte, Q9.path_Name, Q9.path_Names, Q9.path_Right, Q9.clock_Right, Q9.scan_files, Q9.stringslite_HasPrefix, Q9.strings_HasPrefix, Q9.path_Under, Q9.tree_Right_1, Q9.slices_IndexFunc_File_tree_Right_1, Q9.slices_ContainsFunc_File_tree_Right_1, Q9.tree_Right, Q9.scan_Right, Q9.clock_clamp, Q9.clock_Of, Q9.clock_count, Q9.clock_Pair, Q9.clock_whole, Q9.clock_Tick, Q9.both_step, Q9.scan_step, Q9.scan_post, Q9.scan_early, Q9.scan_Scan, Q9.slices_Equal_Entry, Q9.scan_Same, Q9.scan_find_1, Q9.slices_IndexFunc_Entry_scan_find_1, Q9.scan_find, Q9.scan_Find, Q9.scan_Tree, Q9.scan_Copy, Q9.law09_Few, Q9.law04_Few, Q9.clock_Mine, Q9.ref01_Rows, Q9.slices_Equal_File, Q9.tree_Same, Q9.path_Sorted, Q9.clock_Join, Q9.clock_Order, Q10.bytealg_abigen_runtime_cmpstring, Q10.recon_value, Q10.recon_joined, Q10.recon_come, Q10.slices_Index_string, Q10.slices_Contains_string, Q10.path_Clash, Q10.recon_may_1, Q10.slices_IndexFunc_string_recon_may_1, Q10.slices_ContainsFunc_string_recon_may_1, Q10.recon_may, Q10.law10_has, Q10.bytealg_CompareString, Q10.strings_Compare, Q10.tree_place_1, Q10.slices_BinarySearchFunc_string_tree_place_1, Q10.tree_place, Q10.tree_Find, Q10.tree_Get, Q10.recon_Agree, Q10.slices_Index_File, Q10.slices_Contains_File, Q10.oneM, Q10.recon_Merge, Q10.recon_Settle, Q10.slices_Concat_Action, Q10.recon_Plan, tree_Size, tree_Put_1, slices_IndexFunc_File_tree_Put_1, slices_ContainsFunc_File_tree_Put_1, fixS_eq]
  kernel_rfl
theorem h7 : Q10.tree_Get ([([97], [49])], [97, 47, 98]) = some ([], false) := by
  simp only [Q9.strings_Split, Q9.slices_Clone_Entry, Q9.bytealg_IndexByteString, Q9.bytealg_CountString, Q9.stringslite_IndexByte, Q9.strings_IndexByte, Q9.path_Name, Q9.path_Names, Q9.path_Right, Q9.clock_Right, Q9.scan_files, Q9.stringslite_HasPrefix, Q9.strings_HasPrefix, Q9.path_Under, Q9.tree_Right_1, Q9.slices_IndexFunc_File_tree_Right_1, Q9.slices_ContainsFunc_File_tree_Right_1, Q9.tree_Right, Q9.scan_Right, Q9.clock_clamp, Q9.clock_Of, Q9.clock_count, Q9.clock_Pair, Q9.clock_whole, Q9.clock_Tick, Q9.both_step, Q9.scan_step, Q9.scan_post, Q9.scan_early, Q9.scan_Scan, Q9.slices_Equal_Entry, Q9.scan_Same, Q9.scan_find_1, Q9.slices_IndexFunc_Entry_scan_find_1, Q9.scan_find, Q9.scan_Find, Q9.scan_Tree, Q9.scan_Copy, Q9.law09_Few, Q9.law04_Few, Q9.clock_Mine, Q9.ref01_Rows, Q9.slices_Equal_File, Q9.tree_Same, Q9.path_Sorted, Q9.clock_Join, Q9.clock_Order, Q10.bytealg_abigen_runtime_cmpstring, Q10.recon_value, Q10.recon_joined, Q10.recon_come, Q10.slices_Index_string, Q10.slices_Contains_string, Q10.path_Clash, Q10.recon_may_1, Q10.slices_IndexFunc_string_recon_may_1, Q10.slices_ContainsFunc_string_recon_may_1, Q10.recon_may, Q10.law10_has, Q10.bytealg_CompareString, Q10.strings_Compare, Q10.tree_place_1, Q10.slices_BinarySearchFunc_string_tree_place_1, Q10.tree_place, Q10.tree_Find, Q10.tree_Get, Q10.recon_Agree, Q10.slices_Index_File, Q10.slices_Contains_File, Q10.oneM, Q10.recon_Merge, Q10.recon_Settle, Q10.slices_Concat_Action, Q10.recon_Plan, tree_Size, tree_Put_1, slices_IndexFunc_File_tree_Put_1, slices_ContainsFunc_File_tree_Put_1, fixS_eq]
  kernel_rfl
def okAc (e : AcP) : Bool := decide (e.1.length ≤ 100) && decide (e.2.2.length ≤ 1000)
theorem wrap_succ63 {i : Nat} (h : i < 9223372036854775807) : IntKind.wrap .i64 ((i : Int) + 1) = ((i + 1 : Nat) : Int) := by
  rw [IntKind.wrap_i64]; omega
theorem few11_ok (a : List AcP) (hl : a.length ≤ 9223372036854775807) : law11_few a = some (decide (a.length ≤ 60) && a.all okAc) := by
  unfold law11_few
  rw [fixS_idx a.length (fun i => some (decide (a.length ≤ 60) && (a.drop i).all okAc)) (by omega)]
  · simp
  · intro again
    rw [if_neg (by simp)]
    simp
    omega
  · intro i hi again ha
    rw [if_pos (by simp; omega), ixL_nat hi, ixL_nat hi, wrap_succ63 (by omega), ha]
    rw [List.drop_eq_getElem_cons hi, List.all_cons]
    by_cases h1 : a[i].1.length ≤ 100
    · rw [if_neg (by simp; omega)]
      by_cases h2 : a[i].2.2.length ≤ 1000
      · rw [if_neg (by simp; omega)]
        simp [okAc, h1, h2]
      · rw [if_pos (by simp; omega)]
        simp [okAc, h2]
    · rw [if_pos (by simp; omega)]
      simp [okAc, h1]
/-- What undoes actions, ahead of Net. -/
def undoA (t : List Fi) (q : List UInt8) : AcP := (q, ((getT t q).isSome, (getT t q).getD []))
theorem undo_ok {t : List Fi} {l : List AcP} (hb : ∀ g ∈ t, g.1.length ≤ 1000000) (hR : TreeX t) (ho : okActs l = true) : act_Undo (t, l) = act_Net ((sortP (l.map (·.1))).map (undoA t)) := by
  have hl : l.length ≤ 1000 := by
    simp only [okActs, Bool.and_eq_true, decide_eq_true_eq] at ho
    exact ho.1
  have hs := sortP_len (l.map (·.1))
  rw [List.length_map] at hs
  unfold act_Undo
  dsimp only
  rw [treeX_back hb hR, Option.bind_some, if_neg (by simp)]
  unfold act_Paths
  rw [if_pos ho, Option.bind_some]
  generalize hps : sortP (l.map (·.1)) = ps at *
  refine Eq.trans (loop_run (ps.length) (fun i s => s = ((ps.take i).map (undoA t), (i : Int))) (act_Net (ps.map (undoA t))) (by omega) ?_ ?_ ?_) rfl
  · intro again s hs'
    subst hs'
    dsimp only
    rw [List.take_length]
    rw [if_neg (by simp)]
    cases act_Net (ps.map (undoA t)) <;> rfl
  · intro i hi again s hs' h
    subst hs'
    dsimp only
    rw [if_pos (by simp; omega), ixL_nat hi, get_ok hb hR, Option.bind_some, fits40 (by simp; omega), if_pos rfl, wrap_succ (by omega)]
    refine h _ ?_
    rw [List.take_succ_eq_append_getElem hi, List.map_append]
    rfl
  · rfl
theorem tb0 : ∀ g ∈ ([([97], [49])] : List Fi), g.1.length ≤ 1000000 := by intro g hg; simp at hg; subst hg; decide
theorem d1 : act_Do ([([97], [49])], ([([97], (false, [])), ([97, 47, 98], (true, [50, 50]))], 9)) = some ([([97, 47, 98], [50, 50])], 0) := by
  unfold act_Do
  rw [if_pos (by rfl), h4]
  simp only [Option.bind_some, Bool.not_true, Bool.false_eq_true, if_false, doAll, act1, h1, h2, h5, if_true]
  rfl
theorem d2 : act_Do ([([97], [49])], ([([97, 47, 98], (true, [50, 50]))], 9)) = some ([], 6) := by
  unfold act_Do
  rw [if_pos (by rfl), h4]
  simp only [Option.bind_some, Bool.not_true, Bool.false_eq_true, if_false, doAll, act1, h3, if_true]
  rfl
theorem d3 : act_Do ([([97], [49])], ([([97], (false, [])), ([97, 47, 98], (true, [50, 50]))], 1)) = some ([], 2) := by
  unfold act_Do
  rw [if_pos (by rfl), h4]
  simp only [Option.bind_some, Bool.not_true, Bool.false_eq_true, if_false, doAll, act1, h1, h2, h5, if_true]
  rfl
theorem d4 : act_Undo ([([97], [49])], [([97], (false, [])), ([97, 47, 98], (true, [50, 50]))]) = some [([97, 47, 98], (false, [])), ([97], (true, [49]))] := by
  rw [undo_ok tb0 (treeX_fwd tb0 h4) (by rfl)]
  unfold act_Net
  rw [if_pos (by rfl)]
  rfl
theorem d5 : act_Net [([122], (true, [])), ([98], (false, [])), ([122], (true, [49])), ([99], (false, []))] = some [([98], (false, [])), ([99], (false, [])), ([122], (true, [49]))] := by
  unfold act_Net
  rw [if_pos (by rfl)]
  rfl
theorem d6 : act_Paths [([98], (false, [])), ([99], (false, [])), ([122], (true, [49]))] = some [[98], [99], [122]] := by
  unfold act_Paths
  rw [if_pos (by rfl)]
  rfl
theorem small_ok : law11_small () = some true := by
  unfold law11_small
  rw [d1, Option.bind_some]
  show ((act_Do ([([97], [49])], ([([97, 47, 98], (true, [50, 50]))], 9))).bind fun r3 => _) = _
  rw [d2, Option.bind_some, d3, Option.bind_some, d4, Option.bind_some, d5, Option.bind_some, d6, Option.bind_some]
  rfl
end Go.Proofs.W.Q11
namespace Go.Proofs.W.Q11
open Go Go.Proofs.V Go.Proofs.W.Q9 Go.Proofs.W.Q10
set_option linter.unusedVariables false
set_option linter.unusedSimpArgs false
/-- What an action makes of a path. -/
def stepA (q : List UInt8) (o : Option (List UInt8)) (a : AcP) : Option (List UInt8) := if q = a.1 then (if a.2.1 = true then some a.2.2 else none) else o
def endT (t : List Fi) (l : List AcP) (q : List UInt8) : Option (List UInt8) := l.foldl (stepA q) (getT t q)
abbrev PB (t : List Fi) : Prop := ∀ g ∈ t, g.1.length ≤ 100000
theorem PB.big {t : List Fi} (h : PB t) : ∀ g ∈ t, g.1.length ≤ 1000000 := fun g hg => by have := h g hg; omega
theorem ok_PB {t t' : List Fi} {p : List UInt8} {o : Option (List UInt8)} (h : PB t) (hR : TreeX t) (hp : p.length ≤ 100000) (k : Ok t t' p o) : PB t' := by
  intro g hg
  have h1 := (getT_iff (treeX_asc k.x) (q := g.1) (d := g.2)).2 hg
  rw [k.g] at h1
  split at h1
  · rename_i e; rw [e]; exact hp
  · exact h _ ((getT_iff (treeX_asc hR)).1 h1)
theorem act1_ok {t : List Fi} (hb : PB t) (hR : TreeX t) (a : AcP) (ha : a.1.length ≤ 100000) : ∃ y, act1 t a = some y ∧ ((y.2 ≠ 0 ∧ y.1 = []) ∨ (y.2 = 0 ∧ path_Right a.1 = some true ∧ Ok t y.1 a.1 (if a.2.1 = true then some a.2.2 else none))) := by
  unfold act1
  split
  · obtain ⟨y, h1, h2, _⟩ := put_ok a.2.2 hb.big hR (by omega : a.1.length ≤ 1000000)
    exact ⟨y, h1, h2⟩
  · obtain ⟨y, h1, h2⟩ := drop_ok a.1 hb.big hR
    refine ⟨y, h1, ?_⟩
    rcases h2 with ⟨h2, h3, _⟩ | ⟨h2, h3, h4⟩
    · exact .inl ⟨h2, h3⟩
    · obtain ⟨d, hd⟩ := Option.isSome_iff_exists.1 h3
      exact .inr ⟨h2, hR.path _ ((getT_iff (treeX_asc hR)).1 hd), h4⟩
theorem doAll_ok : ∀ (l : List AcP) {t : List Fi}, PB t → TreeX t → (∀ a ∈ l, a.1.length ≤ 100000) → ∃ z, doAll t l = some z ∧ ((z.2 ≠ 0 ∧ z.1 = []) ∨ (z.2 = 0 ∧ TreeX z.1 ∧ PB z.1 ∧ (∀ a ∈ l, path_Right a.1 = some true) ∧ ∀ q, getT z.1 q = endT t l q))
  | [], t, hb, hR, hl => ⟨_, rfl, .inr ⟨rfl, hR, hb, (fun a ha => by cases ha), fun q => rfl⟩⟩
  | a :: l, t, hb, hR, hl => by
    obtain ⟨y, h1, h2⟩ := act1_ok hb hR a (hl a (by simp))
    rw [doAll, h1, Option.bind_some]
    rcases h2 with ⟨h2, h3⟩ | ⟨h2, h3, h4⟩
    · rw [if_neg h2]
      exact ⟨_, rfl, .inl ⟨h2, rfl⟩⟩
    · rw [if_pos h2]
      obtain ⟨z, k1, k2⟩ := doAll_ok l (ok_PB hb hR (hl a (by simp)) h4) h4.x (fun b hb => hl b (by simp [hb]))
      refine ⟨z, k1, ?_⟩
      rcases k2 with k2 | ⟨k2, k3, k4, k5, k6⟩
      · exact .inl k2
      · refine .inr ⟨k2, k3, k4, fun b hb => ?_, fun q => ?_⟩
        · rcases List.mem_cons.1 hb with rfl | hb
          · exact h3
          · exact k5 b hb
        · rw [k6]
          unfold endT
          rw [List.foldl_cons, h4.g]
          rfl
def sizeF (t : List Fi) : Int := (t.map fun f => (f.2.length : Int)).sum
theorem size_ok {t : List Fi} (h : TreeX t) : tree_Size t = some (sizeF t) := by
  have hl := h.len
  unfold tree_Size
  refine loop_run t.length (fun i s => s = (sizeF (t.take i), (i : Int))) _ (by omega) ?_ ?_ ?_
  · intro again s hs
    subst hs
    dsimp only
    rw [if_neg (by simp), List.take_length]
  · intro i hi again s hs k
    subst hs
    dsimp only
    rw [if_pos (by simp; omega), ixL_nat hi, wrap_succ (by omega)]
    refine k _ ?_
    have hX : ∀ j, 0 ≤ sizeF (t.take j) ∧ sizeF (t.take j) ≤ 9600 := fun j => by
      have key : ∀ l : List Fi, (∀ f ∈ l, f.2.length ≤ 600) → 0 ≤ sizeF l ∧ sizeF l ≤ 600 * l.length := by
        intro l
        induction l with
        | nil => intro _; simp [sizeF]
        | cons a l ih =>
          intro hl
          have h1 := ih fun f hf => hl f (by simp [hf])
          have h2 := hl a (by simp)
          have e : sizeF (a :: l) = (a.2.length : Int) + sizeF l := rfl
          rw [e, List.length_cons]
          omega
      have h1 := key (t.take j) fun f hf => h.data f (List.mem_of_mem_take hf)
      have h2 : (t.take j).length ≤ 16 := by rw [List.length_take]; omega
      omega
    have e : sizeF (t.take (i + 1)) = sizeF (t.take i) + (t[i].2.length : Int) := sum_take _ t hi
    have h1 := hX (i + 1)
    have h2 := hX i
    rw [← e, IntKind.wrap_i64]
    congr 1
    omega
  · rfl
/-- What Do tells. -/
theorem do_all {t : List Fi} {l : List AcP} (ho : okDo t l = true) (room : Int) :
    (tree_Right t = some false ∧ act_Do (t, (l, room)) = some ([], 1)) ∨
    (TreeX t ∧ ∃ z, doAll t l = some z ∧ ((z.2 ≠ 0 ∧ z.1 = [] ∧ act_Do (t, (l, room)) = some ([], z.2)) ∨
      (z.2 = 0 ∧ TreeX z.1 ∧ PB z.1 ∧ (∀ a ∈ l, path_Right a.1 = some true) ∧ (∀ q, getT z.1 q = endT t l q) ∧ act_Do (t, (l, room)) = some (if room < sizeF z.1 then ([], 2) else (z.1, 0))))) := by
  have hf := ho
  simp only [okDo, Bool.and_eq_true, decide_eq_true_eq, List.all_eq_true] at hf
  obtain ⟨⟨⟨h1, h2⟩, h3⟩, h4⟩ := hf
  have hb : PB t := fun g hg => (h3 g hg).1
  obtain ⟨r, hr⟩ := treeRight_ends t hb.big
  unfold act_Do
  rw [if_pos ho, hr]
  cases r with
  | false => exact .inl ⟨rfl, rfl⟩
  | true =>
    have hR := treeX_fwd hb.big hr
    obtain ⟨z, k1, k2⟩ := doAll_ok l hb hR (fun a ha => (h4 a ha).1)
    refine .inr ⟨hR, z, k1, ?_⟩
    dsimp only
    rw [Option.bind_some, if_neg (by simp), k1, Option.bind_some]
    rcases k2 with ⟨k2, k3⟩ | ⟨k2, k3, k4, k5, k6⟩
    · rw [if_neg k2]
      exact .inl ⟨k2, k3, rfl⟩
    · rw [if_pos k2, size_ok k3, Option.bind_some]
      refine .inr ⟨k2, k3, k4, k5, k6, ?_⟩
      split <;> rfl
theorem okDo_few {t : List Fi} {l : List AcP} (ht : (decide (t.length ≤ 40) && t.all okFi) = true) (hl : (decide (l.length ≤ 60) && l.all okAc) = true) : okDo t l = true := by
  simp only [Bool.and_eq_true, decide_eq_true_eq, List.all_eq_true, okFi, okAc] at ht hl
  simp only [okDo, Bool.and_eq_true, decide_eq_true_eq, List.all_eq_true]
  exact ⟨⟨⟨by omega, by omega⟩, fun g hg => by have := ht.2 g hg; omega⟩, fun a ha => by have := hl.2 a ha; omega⟩
theorem okActs_few {l : List AcP} (hl : (decide (l.length ≤ 60) && l.all okAc) = true) : okActs l = true := by
  simp only [Bool.and_eq_true, decide_eq_true_eq, List.all_eq_true, okAc] at hl
  simp only [okActs, Bool.and_eq_true, decide_eq_true_eq, List.all_eq_true]
  exact ⟨by omega, fun a ha => by have := hl.2 a ha; omega⟩
end Go.Proofs.W.Q11
namespace Go.Proofs.W.Q11
open Go Go.Proofs.V Go.Proofs.W.Q9 Go.Proofs.W.Q10
set_option linter.unusedVariables false
set_option linter.unusedSimpArgs false
end Go.Proofs.W.Q11
namespace Go.Proofs.W.Q11
open Go Go.Proofs.V Go.Proofs.W.Q9 Go.Proofs.W.Q10
set_option linter.unusedVariables false
set_option linter.unusedSimpArgs false
/-- What an action says of its path. -/
def valA (a : AcP) : Option (List UInt8) := if a.2.1 = true then some a.2.2 else none
theorem few_PB {t : List Fi} (h : (decide (t.length ≤ 40) && t.all okFi) = true) : PB t := by
  simp only [Bool.and_eq_true, decide_eq_true_eq, List.all_eq_true, okFi] at h
  exact fun g hg => by have := h.2 g hg; omega
end Go.Proofs.W.Q11
namespace Go.Proofs.W.Q11
open Go Go.Proofs.V Go.Proofs.W.Q9 Go.Proofs.W.Q10
set_option linter.unusedVariables false
set_option linter.unusedSimpArgs false
theorem fits32 {n : Nat} (h : n ≤ 600000000) : fitsB 32 (n : Int) = true := by
  unfold fitsB
  simp
  omega
theorem all_loopR {α R : Type} {l : List α} {p : α → Bool} {step : (Int → Option R) → Int → Option R} (K E : Option R) (hl : l.length < 1000000000) (hlast : ∀ again, step again (l.length : Int) = K) (hstep : ∀ i, (hi : i < l.length) → ∀ again, step again (i : Int) = if p l[i] = true then again ((i + 1 : Nat) : Int) else E) : fixS step fuel 0 = if l.all p = true then K else E := by
  have := fixS_idx (step := step) l.length (fun i => if (l.drop i).all p = true then K else E) (by omega) (fun again => by simp [hlast]) (fun i hi again ha => by
    rw [hstep i hi, List.drop_eq_getElem_cons hi, List.all_cons]
    cases hp : p l[i] with
    | true => rw [if_pos rfl, ha, Bool.true_and]
    | false => rw [if_neg (by simp), Bool.false_and, if_neg (by simp)])
  rw [this]
  simp
theorem tw_append {α : Type} (f : α → Bool) {B : List α} (hB : ∀ x ∈ B, f x = false) : ∀ {A : List α}, (∀ x ∈ A, f x = true) → (A ++ B).takeWhile f = A
  | [], _ => by
    cases B with
    | nil => rfl
    | cons b B => rw [List.nil_append, List.takeWhile_cons, hB b (by simp)]; rfl
  | a :: A, h => by
    rw [List.cons_append, List.takeWhile_cons, h a (by simp), if_pos rfl, tw_append f hB fun x hx => h x (by simp [hx])]
theorem find_at {t A C B : List Fi} {p : List UInt8} {is : Bool} (hl : t.length ≤ 1000) (h : t = A ++ C ++ B) (hA : ∀ x ∈ A, Les x.1 p) (hB : ∀ x ∈ B, Les p x.1) (hC : is = false ∧ C = [] ∨ is = true ∧ ∃ d0, C = [(p, d0)]) :
    ref04_find (t, p) = some (if is = true then (A.length : Int) else -1) := by
  have hidx : ref04_find (t, p) = some (idxP (fun f : Fi => f.1 == p) t 0) := by
    unfold ref04_find
    exact index_loop t (fun x3 : Fi => some (x3.1 == p)) (fun f => f.1 == p) (by omega) fun x hx => rfl
  rw [hidx]
  rcases hC with ⟨rfl, rfl⟩ | ⟨rfl, d0, rfl⟩
  · rw [if_neg (by simp), idxP_none]
    intro x hx
    rw [h] at hx
    simp at hx
    rcases hx with hx | hx
    · simpa using less_ne (hA x hx)
    · simpa using (less_ne (hB x hx)).symm
  · have hk : A.length < t.length := by rw [h]; simp
    have he : t[A.length] = (p, d0) := by
      subst h
      simp
    rw [if_pos rfl, idxP_at (fun f : Fi => f.1 == p) t 0 A.length hk (by rw [he]; simp) (fun j hj hjk => by
      have : t[j] ∈ A := by
        subst h
        rw [List.getElem_append_left (by simp; omega), List.getElem_append_left hjk]
        exact List.getElem_mem hjk
      simpa using less_ne (hA _ this))]
    simp
theorem refsize_ok (t : List Fi) : ref04_Size t = tree_Size t := rfl
theorem refdrop_ok {t : List Fi} (p : List UInt8) (hb : ∀ g ∈ t, g.1.length ≤ 1000000) : ref04_Drop (t, p) = tree_Drop t p := by
  obtain ⟨r, hr⟩ := treeRight_ends t hb
  unfold ref04_Drop tree_Drop
  dsimp only
  rw [reftree_ok hb, hr, Option.bind_some, Option.bind_some]
  cases r with
  | false => rfl
  | true =>
    have hR := treeX_fwd hb hr
    have hl := hR.len
    obtain ⟨A, C, B, is, hABC, hA, hB, hC, hpl⟩ := split_at (treeX_asc hR) (by omega) p
    rw [if_neg (by simp), if_neg (by simp), find_at (by omega) hABC hA hB hC, hpl, Option.bind_some, Option.bind_some]
    rcases hC with ⟨rfl, rfl⟩ | ⟨rfl, d0, rfl⟩
    · rfl
    · have hlen : t.length = A.length + 1 + B.length := by rw [hABC]; simp; omega
      have h1 : ∀ {R : Type} (f : List Fi → Option R), cutL t 0 (A.length : Int) f = f (t.take A.length) := fun f => by
        have := cutG_at (l := t) (a := 0) (b := A.length) (Nat.zero_le _) (by omega) f
        rw [List.drop_zero] at this
        exact this
      have h2 : ∀ {R : Type} (f : List Fi → Option R), cutL t ((A.length + 1 : Nat) : Int) (t.length : Int) f = f (t.drop (A.length + 1)) := fun f => by
        have := cutG_at (l := t) (a := A.length + 1) (b := t.length) (by omega) (Nat.le_refl _) f
        rw [List.take_length] at this
        exact this
      rw [if_pos rfl, if_neg (by simp), h1, List.nil_append, fits32 (by simp; omega), if_pos rfl, wrap_succ (by omega), h2, fits32 (by simp; omega), if_pos rfl, if_neg (by simp)]
      rfl
theorem refput_ok {t : List Fi} {p d : List UInt8} (hb : ∀ g ∈ t, g.1.length ≤ 1000000) (hp : p.length ≤ 1000000) : ref04_Put (t, (p, d)) = tree_Put t p d := by
  obtain ⟨r, hr⟩ := treeRight_ends t hb
  unfold ref04_Put ref04_PutW tree_Put
  dsimp only
  rw [reftree_ok hb, hr, Option.bind_some, Option.bind_some]
  cases r with
  | false => rfl
  | true =>
    have hR := treeX_fwd hb hr
    have hl := hR.len
    obtain ⟨A, C, B, is, hABC, hA, hB, hC, hpl⟩ := split_at (treeX_asc hR) (by omega) p
    rw [if_neg (by simp), if_neg (by simp), hpl, Option.bind_some, right_ok hp, refright_ok hp, Option.bind_some, Option.bind_some]
    cases hpb : pathB p with
    | false => rfl
    | true =>
      rw [if_neg (by simp), if_neg (by simp), contP_ok hb hp (by omega), Option.bind_some]
      rw [all_loopR (l := t) (p := fun g => !clashB g.1 p) _ (some ([], 6)) (by omega) (fun again => by rw [if_neg (by simp)]) (fun i hi again => by
        rw [if_pos (by simp; omega)]
        simp only [ixL_nat hi]
        have hg := hb _ (List.getElem_mem hi)
        rw [refunder_ok hp hg, refunder_ok hg hp, under_ok hp hg, under_ok hg hp, Option.bind_some, Option.bind_some, wrap_succ (by omega)]
        unfold clashB
        cases underB p t[i].1 <;> cases underB t[i].1 p <;> rfl)]
      have hany : (t.any fun g => clashB g.1 p) = !(t.all fun g => !clashB g.1 p) := by
        rw [List.not_all_eq_any_not]
        simp
      rw [hany]
      cases hall : (t.all fun g => !clashB g.1 p) with
      | false => rfl
      | true =>
        rw [if_pos rfl, if_neg (by simp), find_at (by omega) hABC hA hB hC, Option.bind_some]
        by_cases h6 : 600 < d.length
        · rw [if_pos (by simp; omega), if_pos (.inl h6)]
        · rw [if_neg (by simp; omega)]
          have hlen : t.length = A.length + C.length + B.length := by rw [hABC]; simp; omega
          rcases hC with ⟨rfl, rfl⟩ | ⟨rfl, d0, rfl⟩
          · simp only [Bool.false_eq_true, if_false]
            by_cases h16 : 16 ≤ t.length
            · rw [if_pos (by decide), if_pos (by simp; omega), if_pos (.inr ⟨trivial, h16⟩)]
            · rw [if_pos (by decide), if_neg (by simp; omega), List.nil_append, fits32 (by omega), if_pos rfl, if_neg (by decide), if_neg (by simp [h6, h16])]
              have htw : (t.takeWhile fun f => Op.bytesLess f.1 p) = A := by
                rw [hABC, List.append_nil]
                exact tw_append _ (fun x hx => less_asymm (hB x hx)) (fun x hx => hA x hx)
              rw [first_loop t (fun f => Op.bytesLess f.1 p) (fun i => cutL t 0 (i : Int) fun y14 => if (fitsB 32 (([] ++ y14).length : Int)) then
                            if (fitsB 32 ((([] ++ y14) ++ [(p, d)]).length : Int)) then
                              cutL t (i : Int) (t.length : Int) fun y15 =>
                              if (fitsB 32 (((([] ++ y14) ++ [(p, d)]) ++ y15).length : Int)) then
                                some (((([] ++ y14) ++ [(p, d)]) ++ y15), (0 : Int))
                              else none
                            else none
                          else none) (by omega) (fun again => by rw [if_neg (by simp)]) (fun i hi again => by
                rw [if_pos (by simp; omega), ixL_nat hi, wrap_succ (by omega)])]
              rw [htw]
              have h1 : ∀ {R : Type} (f : List Fi → Option R), cutL t 0 (A.length : Int) f = f (t.take A.length) := fun f => by
                have := cutG_at (l := t) (a := 0) (b := A.length) (Nat.zero_le _) (by omega) f
                rw [List.drop_zero] at this
                exact this
              have h2 : ∀ {R : Type} (f : List Fi → Option R), cutL t (A.length : Int) (t.length : Int) f = f (t.drop A.length) := fun f => by
                have := cutG_at (l := t) (a := A.length) (b := t.length) (by omega) (Nat.le_refl _) f
                rw [List.take_length] at this
                exact this
              rw [h1, List.nil_append, fits32 (by simp; omega), if_pos rfl, fits32 (by simp; omega), if_pos rfl, h2, fits32 (by simp; omega), if_pos rfl]
              rfl
          · have hk : A.length < t.length := by simp at hlen; omega
            have he : t[A.length] = (p, d0) := by
              subst hABC
              simp
            simp only [if_true]
            rw [if_neg (by simp), List.nil_append, fits32 (by omega), if_pos rfl, if_pos (by simp), ixL_nat hk, if_neg (by simp [h6])]
            unfold ref04_PutF
            dsimp only
            rw [find_at (by omega) hABC hA hB (.inr ⟨rfl, d0, rfl⟩)]
            simp only [if_true]
            have hcl := List.all_eq_true.1 hall
            rw [dif_pos ⟨⟨by rw [reftree_ok hb, hr], by rw [refright_ok hp, hpb], fun g hg => by
              have hgl := hb g hg
              have := hcl g hg
              unfold clashB at this
              rw [refunder_ok hp hgl, refunder_ok hgl hp, under_ok hp hgl, under_ok hgl hp]
              have this : underB g.1 p = false ∧ underB p g.1 = false := by simpa using this
              exact ⟨by rw [this.2], by rw [this.1]⟩⟩, by omega, by omega, by omega, hk⟩]
            simp only [Int.toNat_natCast, he]
theorem refpaths_ok {l : List AcP} (hl : l.length ≤ 1000) : ref11_Paths l = some (sortP (l.map (·.1))) := by
  unfold ref11_Paths
  refine loop_run l.length (fun i s => s = (sortP ((l.map (·.1)).take i), (i : Int))) _ (by omega) (fun again s hI => ?_) (fun i hi again s hI ha => ?_) rfl
  · subst hI
    dsimp only
    rw [if_neg (by simp), List.take_of_length_le (by simp)]
  · subst hI
    dsimp only
    have hps : i < (l.map (·.1)).length := by simpa using hi
    have hln := sortP_len ((l.map (·.1)).take i)
    have hln2 : ((l.map (·.1)).take i).length ≤ i := by rw [List.length_take]; omega
    have hst := sortP_take hps
    rw [if_pos (by simp; omega)]
    simp only [ixL_nat hi]
    have he : (l.map (·.1))[i] = l[i].1 := by simp
    rw [he] at hst
    exact (ins_loop (sortP ((l.map (·.1)).take i)) l[i].1 (by omega) (fun o => again (o, IntKind.wrap .i64 ((i : Int) + 1)))).trans (ha _ (by rw [hst, wrap_succ (by omega)]))
theorem lastA_fold (l : List AcP) (q : List UInt8) : lastA l q = l.foldl (fun o a => if a.1 = q then a else o) ([], (false, [])) := by
  unfold lastA
  have key : ∀ (l : List AcP) (o : AcP), (l.reverse.find? fun a => decide (a.1 = q)).getD o = l.foldl (fun o a => if a.1 = q then a else o) o := by
    intro l
    induction l with
    | nil => intro o; rfl
    | cons a l ih =>
      intro o
      rw [List.foldl_cons, ← ih, List.reverse_cons, List.find?_append]
      cases h : l.reverse.find? fun a => decide (a.1 = q) with
      | some b => rfl
      | none =>
        by_cases e : a.1 = q
        · simp [e]
        · simp [e]
  exact key l _
theorem refnet_ok {l : List AcP} (ho : okActs l = true) : ref11_Net l = act_Net l := by
  have hl : l.length ≤ 1000 := by
    simp only [okActs, Bool.and_eq_true, decide_eq_true_eq] at ho
    exact ho.1
  unfold ref11_Net act_Net
  rw [if_pos ho, refpaths_ok hl, Option.bind_some]
  unfold netP
  have hln := sortP_len (l.map (·.1))
  rw [List.length_map] at hln
  generalize sortP (l.map (·.1)) = ks at *
  have hf : ∀ (f : AcP → Bool) (i : Nat), (((ks.take i).map (lastA l)).filter f).length ≤ 1000 := fun f i => by
    have h1 := List.length_filter_le f ((ks.take i).map (lastA l))
    rw [List.length_map, List.length_take] at h1
    omega
  refine loop_run ks.length (fun i s => s = (((ks.take i).map (lastA l)).filter (fun a => !a.2.1), (((ks.take i).map (lastA l)).filter (fun a => a.2.1), (i : Int)))) _ (by omega) (fun again s hI => ?_) (fun i hi again s hI ha => ?_) rfl
  · subst hI
    dsimp only
    have h1 := hf (fun a => !a.2.1) ks.length
    have h2 := hf (fun a => a.2.1) ks.length
    rw [if_neg (by simp), fits40 (by rw [List.length_append]; omega), if_pos rfl, List.take_length]
  · subst hI
    dsimp only
    have h1 := hf (fun a => !a.2.1) i
    have h2 := hf (fun a => a.2.1) i
    have hD : ((ks.take (i + 1)).map (lastA l)).filter (fun a => !a.2.1) = ((ks.take i).map (lastA l)).filter (fun a => !a.2.1) ++ (if (lastA l ks[i]).2.1 = true then [] else [lastA l ks[i]]) := by
      rw [List.take_succ_eq_append_getElem hi, List.map_append, List.filter_append]
      congr 1
      cases h : (lastA l ks[i]).2.1 <;> simp [h]
    have hP : ((ks.take (i + 1)).map (lastA l)).filter (fun a => a.2.1) = ((ks.take i).map (lastA l)).filter (fun a => a.2.1) ++ (if (lastA l ks[i]).2.1 = true then [lastA l ks[i]] else []) := by
      rw [List.take_succ_eq_append_getElem hi, List.map_append, List.filter_append]
      congr 1
      cases h : (lastA l ks[i]).2.1 <;> simp [h]
    rw [if_pos (by simp; omega)]
    simp only [ixL_nat hi]
    generalize ((ks.take i).map (lastA l)).filter (fun a => !a.2.1) = X at *
    generalize ((ks.take i).map (lastA l)).filter (fun a => a.2.1) = Y at *
    refine loop_run l.length (fun j s => s = (X, (Y, (((l.take j).foldl (fun o a => if a.1 = ks[i] then a else o) ([], (false, []))).1, (((l.take j).foldl (fun o a => if a.1 = ks[i] then a else o) ([], (false, []))).2.1, (((l.take j).foldl (fun o a => if a.1 = ks[i] then a else o) ([], (false, []))).2.2, (j : Int))))))) _ (by omega) (fun again4 s hI => ?_) (fun j hj again4 s hI ha4 => ?_) rfl
    · subst hI
      dsimp only
      rw [if_neg (by simp), List.take_length, ← lastA_fold, wrap_succ (by omega)]
      cases hb : (lastA l ks[i]).2.1 with
      | true =>
        rw [hb, if_pos rfl, List.append_nil] at hD
        rw [hb, if_pos rfl] at hP
        rw [if_pos rfl, fits40 (by simp; omega), if_pos rfl]
        refine ha _ ?_
        rw [hD, hP, ← hb]
      | false =>
        rw [hb, if_neg (by simp)] at hD
        rw [hb, if_neg (by simp), List.append_nil] at hP
        rw [if_neg (by simp), fits40 (by simp; omega), if_pos rfl]
        refine ha _ ?_
        rw [hD, hP, ← hb]
    · subst hI
      dsimp only
      rw [if_pos (by simp; omega)]
      simp only [ixL_nat hj]
      rw [wrap_succ (by omega)]
      have e : (l.take (j + 1)).foldl (fun o a => if a.1 = ks[i] then a else o) (([], (false, [])) : AcP) = if l[j].1 = ks[i] then l[j] else (l.take j).foldl (fun o a => if a.1 = ks[i] then a else o) ([], (false, [])) := by
        rw [List.take_succ_eq_append_getElem hj, List.foldl_append]; rfl
      rw [e] at ha4
      by_cases hq : l[j].1 = ks[i]
      · rw [if_pos hq] at ha4
        rw [if_pos (by simpa using hq)]
        exact ha4 _ rfl
      · rw [if_neg hq] at ha4
        rw [if_neg (by simpa using hq)]
        exact ha4 _ rfl
theorem refundo_ok {t : List Fi} {l : List AcP} (hb : PB t) (ho : okActs l = true) : ref11_Undo (t, l) = act_Undo (t, l) := by
  have hl : l.length ≤ 1000 ∧ ∀ a ∈ l, a.1.length ≤ 100000 := by
    simp only [okActs, Bool.and_eq_true, decide_eq_true_eq, List.all_eq_true] at ho
    exact ⟨ho.1, fun a ha => (ho.2 a ha).1⟩
  obtain ⟨r, hr⟩ := treeRight_ends t hb.big
  cases r with
  | false =>
    unfold ref11_Undo act_Undo
    dsimp only
    rw [reftree_ok hb.big, hr]; rfl
  | true =>
    have hR := treeX_fwd hb.big hr
    rw [undo_ok hb.big hR ho]
    unfold ref11_Undo
    dsimp only
    rw [reftree_ok hb.big, hr, Option.bind_some, if_neg (by simp), refpaths_ok hl.1, Option.bind_some]
    have hs := sortP_len (l.map (·.1))
    rw [List.length_map] at hs
    have hpm : ∀ q ∈ sortP (l.map (·.1)), q.length ≤ 100000 := fun q hq => by
      obtain ⟨a, ha, rfl⟩ := List.mem_map.1 ((sortP_mem _ q).1 hq)
      exact hl.2 a ha
    generalize sortP (l.map (·.1)) = ps at *
    have hua : okActs (ps.map (undoA t)) = true := by
      simp only [okActs, Bool.and_eq_true, decide_eq_true_eq, List.all_eq_true, List.length_map]
      refine ⟨by omega, fun a ha => ?_⟩
      obtain ⟨q, hq, rfl⟩ := List.mem_map.1 ha
      refine ⟨hpm q hq, ?_⟩
      show ((getT t q).getD []).length ≤ _
      cases hg' : getT t q with
      | none => simp
      | some d =>
        have h9 : d.length ≤ 600 := hR.data _ ((getT_iff (treeX_asc hR)).1 hg')
        rw [Option.getD_some]
        omega
    rw [← refnet_ok hua]
    refine loop_run ps.length (fun i s => s = ((ps.take i).map (undoA t), (i : Int))) _ (by omega) ?_ ?_ rfl
    · intro again s hs'
      subst hs'
      dsimp only
      rw [List.take_length, if_neg (by simp)]
      cases ref11_Net (ps.map (undoA t)) <;> rfl
    · intro i hi again s hs' h
      subst hs'
      dsimp only
      rw [if_pos (by simp; omega)]
      simp only [ixL_nat hi]
      rw [refget_ok hb.big hR, Option.bind_some, fits40 (by simp; omega), if_pos rfl, wrap_succ (by omega)]
      refine h _ ?_
      rw [List.take_succ_eq_append_getElem hi, List.map_append]
      rfl
theorem refdo_ok {t : List Fi} {l : List AcP} (ho : okDo t l = true) (room : Int) : ref11_Do (t, (l, room)) = act_Do (t, (l, room)) := by
  have hf := ho
  simp only [okDo, Bool.and_eq_true, decide_eq_true_eq, List.all_eq_true] at hf
  obtain ⟨⟨⟨h1, h2⟩, h3⟩, h4⟩ := hf
  have hb : PB t := fun g hg => (h3 g hg).1
  obtain ⟨r, hr⟩ := treeRight_ends t hb.big
  unfold ref11_Do act_Do
  dsimp only
  rw [if_pos ho, reftree_ok hb.big, hr, Option.bind_some, Option.bind_some]
  cases r with
  | false => rfl
  | true =>
    rw [if_neg (by simp), if_neg (by simp)]
    have hR := treeX_fwd hb.big hr
    -- from any place on
    have key : ∀ (r : Option (List FiP × Int)), ((doAll t l).bind fun r => if r.2 = 0 then (tree_Size r.1).bind fun n => if room < n then some ([], (2 : Int)) else some (r.1, 0) else some ([], r.2)) = r →
        fixS (S := (List FiP × Int)) (R := (List FiP × Int)) (fun again2 s3 =>
      if decide (s3.2 < (l.length : Int)) then
        ixL l s3.2 fun x4 =>
        (ref04_Drop (s3.1, x4.1)).bind fun r5 =>
        ixL l s3.2 fun x6 =>
        if x6.2.1 then
          ixL l s3.2 fun x7 =>
          ixL l s3.2 fun x8 =>
          (ref04_Put (s3.1, (x7.1, x8.2.2))).bind fun r9 =>
          if (r9.2 != 0) then
            some ([], r9.2)
          else
            again2 (r9.1, (IntKind.wrap .i64 (s3.2 + 1)))
        else
          if (r5.2 != 0) then
            some ([], r5.2)
          else
            again2 (r5.1, (IntKind.wrap .i64 (s3.2 + 1)))
      else
        (ref04_Size s3.1).bind fun r10 =>
        if decide (r10 > room) then
          some ([], 2)
        else
          if (fitsB 32 (([] ++ s3.1).length : Int)) then
            some (([] ++ s3.1), 0)
          else none) fuel (t, 0) = r := by
      intro r hres
      refine loop_run l.length (fun i s => ∃ u, s = (u, (i : Int)) ∧ PB u ∧ TreeX u ∧ ((doAll u (l.drop i)).bind fun r => if r.2 = 0 then (tree_Size r.1).bind fun n => if room < n then some ([], (2 : Int)) else some (r.1, 0) else some ([], r.2)) = r) _ (by omega) ?_ ?_ ⟨t, rfl, hb, hR, by rw [List.drop_zero]; exact hres⟩
      · rintro again s ⟨u, rfl, hub, huX, hu⟩
        dsimp only
        have hul := huX.len
        rw [List.drop_length, doAll, Option.bind_some, if_pos rfl, size_ok huX, Option.bind_some] at hu
        rw [if_neg (by simp), refsize_ok, size_ok huX, Option.bind_some, List.nil_append, fits32 (by omega), ← hu]
        by_cases hc : room < sizeF u
        · rw [if_pos (by simpa using hc), if_pos hc]
        · rw [if_neg (by simpa using hc), if_neg hc, if_pos rfl]
      · rintro i hi again s ⟨u, rfl, hub, huX, hu⟩ h
        dsimp only
        rw [if_pos (by simp; omega)]
        simp only [ixL_nat hi]
        have hal := (h4 _ (List.getElem_mem hi)).1
        rw [List.drop_eq_getElem_cons hi, doAll] at hu
        obtain ⟨y, e1, e2⟩ := act1_ok hub huX l[i] hal
        rw [e1, Option.bind_some] at hu
        obtain ⟨y5, e5, _⟩ := drop_ok l[i].1 hub.big huX
        rw [refdrop_ok _ hub.big, e5, Option.bind_some, wrap_succ (by omega), refput_ok hub.big (by omega : l[i].1.length ≤ 1000000)]
        unfold act1 at e1
        have fin : ∀ k : Option (List FiP × Int), (y.2 = 0 → again (y.1, ((i + 1 : Nat) : Int)) = r) → (if (y.2 != 0) = true then some ([], y.2) else again (y.1, ((i + 1 : Nat) : Int))) = r := by
          intro _ hk
          by_cases h0 : y.2 = 0
          · rw [if_neg (by simpa using h0)]; exact hk h0
          · rw [if_pos (by simpa using h0)]
            rw [if_neg h0, Option.bind_some, if_neg h0] at hu
            exact hu
        have next : y.2 = 0 → again (y.1, ((i + 1 : Nat) : Int)) = r := by
          intro h0
          rcases e2 with ⟨e2, _⟩ | ⟨_, _, e3⟩
          · exact absurd h0 e2
          · rw [if_pos h0] at hu
            exact h _ ⟨y.1, rfl, ok_PB hub huX hal e3, e3.x, hu⟩
        cases hbb : l[i].2.1 with
        | true =>
          rw [hbb, if_pos rfl] at e1
          rw [if_pos rfl, e1, Option.bind_some]
          exact fin none next
        | false =>
          rw [hbb, if_neg (by simp), e5] at e1
          cases e1
          rw [if_neg (by simp)]
          exact fin none next
    exact key _ rfl
end Go.Proofs.W.Q11

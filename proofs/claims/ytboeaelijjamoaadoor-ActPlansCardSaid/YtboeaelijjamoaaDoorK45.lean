/- small, reckoned; few. -/
import Derived.Test.YtboeaelijjamoaaDoorK44
import Derived.KernelRfl
import Derived.Test.YtboeaelijjamoaaDoorK32
namespace Go.Proofs.W.Q11
open Go Go.Proofs.V Go.Proofs.W.Q9 Go.Proofs.W.Q10
set_option linter.unusedVariables false
set_option linter.unusedSimpArgs false
set_option maxRecDepth 100000
set_option maxHeartbeats 4000000
theorem h1 : tree_Drop [([97], [49])] [97] = some ([], 0) := by
  simp only [Q9.strings_Split, Q9.slices_Clone_Entry, Q9.bytealg_IndexByteString, Q9.bytealg_CountString, Q9.stringslite_IndexByte, Q9.strings_IndexByte, Q9.path_Name, Q9.path_Names, Q9.path_Right, Q9.clock_Right, Q9.scan_files, Q9.stringslite_HasPrefix, Q9.strings_HasPrefix, Q9.path_Under, Q9.tree_Right_1, Q9.slices_IndexFunc_File_tree_Right_1, Q9.slices_ContainsFunc_File_tree_Right_1, Q9.tree_Right, Q9.scan_Right, Q9.clock_clamp, Q9.clock_Of, Q9.clock_count, Q9.clock_Pair, Q9.clock_whole, Q9.clock_Tick, Q9.both_step, Q9.scan_step, Q9.scan_post, Q9.scan_early, Q9.scan_Scan, Q9.slices_Equal_Entry, Q9.scan_Same, Q9.scan_find_1, Q9.slices_IndexFunc_Entry_scan_find_1, Q9.scan_find, Q9.scan_Find, Q9.scan_Tree, Q9.scan_Copy, Q9.law09_Few, Q9.law04_Few, Q9.clock_Mine, Q9.ref01_Rows, Q9.slices_Equal_File, Q9.tree_Same, Q9.path_Sorted, Q9.clock_Join, Q9.clock_Order, Q10.bytealg_abigen_runtime_cmpstring, Q10.recon_value, Q10.recon_joined, Q10.recon_come, Q10.slices_Index_string, Q10.slices_Contains_string, Q10.path_Clash, Q10.recon_may_1, Q10.slices_IndexFunc_string_recon_may_1, Q10.slices_ContainsFunc_string_recon_may_1, Q10.recon_may, Q10.law10_has, Q10.bytealg_CompareString, Q10.strings_Compare, Q10.tree_place_1, Q10.slices_BinarySearchFunc_string_tree_place_1, Q10.tree_place, Q10.tree_Find, Q10.tree_Get, Q10.recon_Agree, Q10.slices_Index_File, Q10.slices_Contains_File, Q10.oneM, Q10.recon_Merge, Q10.recon_Settle, Q10.slices_Concat_Action, Q10.recon_Plan, tree_Size, tree_Put_1, slices_IndexFunc_File_tree_Put_1, slices_ContainsFunc_File_tree_Put_1, tree_Drop, fixS_eq]
  kernel_rfl
theorem h2 : tree_Put [] [97, 47, 98] [50, 50] = some ([([97, 47, 98], [50, 50])], 0) := by
  simp only [Q9.strings_Split, Q9.slices_Clone_Entry, Q9.bytealg_IndexByteString, Q9.bytealg_CountString, Q9.stringslite_IndexByte, Q9.strings_IndexByte, Q9.path_Name, Q9.path_Names, Q9.path_Right, Q9.clock_Right, Q9.scan_files, Q9.stringslite_HasPrefix, Q9.strings_HasPrefix, Q9.path_Under, Q9.tree_Right_1, Q9.slices_IndexFunc_File_tree_Right_1, Q9.slices_ContainsFunc_File_tree_Right_1, Q9.tree_Right, Q9.scan_Right, Q9.clock_clamp, Q9.clock_Of, Q9.clock_count, Q9.clock_Pair, Q9.clock_whole, Q9.clock_Tick, Q9.both_step, Q9.scan_step, Q9.scan_post, Q9.scan_early, Q9.scan_Scan, Q9.slices_Equal_Entry, Q9.scan_Same, Q9.scan_find_1, Q9.slices_IndexFunc_Entry_scan_find_1, Q9.scan_find, Q9.scan_Find, Q9.scan_Tree, Q9.scan_Copy, Q9.law09_Few, Q9.law04_Few, Q9.clock_Mine, Q9.ref01_Rows, Q9.slices_Equal_File, Q9.tree_Same, Q9.path_Sorted, Q9.clock_Join, Q9.clock_Order, Q10.bytealg_abigen_runtime_cmpstring, Q10.recon_value, Q10.recon_joined, Q10.recon_come, Q10.slices_Index_string, Q10.slices_Contains_string, Q10.path_Clash, Q10.recon_may_1, Q10.slices_IndexFunc_string_recon_may_1, Q10.slices_ContainsFunc_string_recon_may_1, Q10.recon_may, Q10.law10_has, Q10.bytealg_CompareString, Q10.strings_Compare, Q10.tree_place_1, Q10.slices_BinarySearchFunc_string_tree_place_1, Q10.tree_place, Q10.tree_Find, Q10.tree_Get, Q10.recon_Agree, Q10.slices_Index_File, Q10.slices_Contains_File, Q10.oneM, Q10.recon_Merge, Q10.recon_Settle, Q10.slices_Concat_Action, Q10.recon_Plan, tree_Size, tree_Put_1, slices_IndexFunc_File_tree_Put_1, slices_ContainsFunc_File_tree_Put_1, tree_Put, fixS_eq]
  kernel_rfl
theorem h3 : tree_Put [([97], [49])] [97, 47, 98] [50, 50] = some ([], 6) := by
  simp only [Q9.strings_Split, Q9.slices_Clone_Entry, Q9.bytealg_IndexByteString, Q9.bytealg_CountString, Q9.stringslite_IndexByte, Q9.strings_IndexByte, Q9.path_Name, Q9.path_Names, Q9.path_Right, Q9.clock_Right, Q9.scan_files, Q9.stringslite_HasPrefix, Q9.strings_HasPrefix, Q9.path_Under, Q9.tree_Right_1, Q9.slices_IndexFunc_File_tree_Right_1, Q9.slices_ContainsFunc_File_tree_Right_1, Q9.tree_Right, Q9.scan_Right, Q9.clock_clamp, Q9.clock_Of, Q9.clock_count, Q9.clock_Pair, Q9.clock_whole, Q9.clock_Tick, Q9.both_step, Q9.scan_step, Q9.scan_post, Q9.scan_early, Q9.scan_Scan, Q9.slices_Equal_Entry, Q9.scan_Same, Q9.scan_find_1, Q9.slices_IndexFunc_Entry_scan_find_1, Q9.scan_find, Q9.scan_Find, Q9.scan_Tree, Q9.scan_Copy, Q9.law09_Few, Q9.law04_Few, Q9.clock_Mine, Q9.ref01_Rows, Q9.slices_Equal_File, Q9.tree_Same, Q9.path_Sorted, Q9.clock_Join, Q9.clock_Order, Q10.bytealg_abigen_runtime_cmpstring, Q10.recon_value, Q10.recon_joined, Q10.recon_come, Q10.slices_Index_string, Q10.slices_Contains_string, Q10.path_Clash, Q10.recon_may_1, Q10.slices_IndexFunc_string_recon_may_1, Q10.slices_ContainsFunc_string_recon_may_1, Q10.recon_may, Q10.law10_has, Q10.bytealg_CompareString, Q10.strings_Compare, Q10.tree_place_1, Q10.slices_BinarySearchFunc_string_tree_place_1, Q10.tree_place, Q10.tree_Find, Q10.tree_Get, Q10.recon_Agree, Q10.slices_Index_File, Q10.slices_Contains_File, Q10.oneM, Q10.recon_Merge, Q10.recon_Settle, Q10.slices_Concat_Action, Q10.recon_Plan, tree_Size, tree_Put_1, slices_IndexFunc_File_tree_Put_1, slices_ContainsFunc_File_tree_Put_1, tree_Put, fixS_eq]
  kernel_rfl
theorem h4 : Q9.tree_Right [([97], [49])] = some true := by
  simp only [Q9.strings_Split, Q9.slices_Clone_Entry, Q9.bytealg_IndexByteString, Q9.bytealg_CountString, Q9.stringslite_IndexByte, Q9.strings_IndexByte, Q9.path_Name, Q9.path_Names, Q9.path_Right, Q9.clock_Right, Q9.scan_files, Q9.stringslite_HasPrefix, Q9.strings_HasPrefix, Q9.path_Under, Q9.tree_Right_1, Q9.slices_IndexFunc_File_tree_Right_1, Q9.slices_ContainsFunc_File_tree_Right_1, Q9.tree_Right, Q9.scan_Right, Q9.clock_clamp, Q9.clock_Of, Q9.clock_count, Q9.clock_Pair, Q9.clock_whole, Q9.clock_Tick, Q9.both_step, Q9.scan_step, Q9.scan_post, Q9.scan_early, Q9.scan_Scan, Q9.slices_Equal_Entry, Q9.scan_Same, Q9.scan_find_1, Q9.slices_IndexFunc_Entry_scan_find_1, Q9.scan_find, Q9.scan_Find, Q9.scan_Tree, Q9.scan_Copy, Q9.law09_Few, Q9.law04_Few, Q9.clock_Mine, Q9.ref01_Rows, Q9.slices_Equal_File, Q9.tree_Same, Q9.path_Sorted, Q9.clock_Join, Q9.clock_Order, Q10.bytealg_abigen_runtime_cmpstring, Q10.recon_value, Q10.recon_joined, Q10.recon_come, Q10.slices_Index_string, Q10.slices_Contains_string, Q10.path_Clash, Q10.recon_may_1, Q10.slices_IndexFunc_string_recon_may_1, Q10.slices_ContainsFunc_string_recon_may_1, Q10.recon_may, Q10.law10_has, Q10.bytealg_CompareString, Q10.strings_Compare, Q10.tree_place_1, Q10.slices_BinarySearchFunc_string_tree_place_1, Q10.tree_place, Q10.tree_Find, Q10.tree_Get, Q10.recon_Agree, Q10.slices_Index_File, Q10.slices_Contains_File, Q10.oneM, Q10.recon_Merge, Q10.recon_Settle, Q10.slices_Concat_Action, Q10.recon_Plan, tree_Size, tree_Put_1, slices_IndexFunc_File_tree_Put_1, slices_ContainsFunc_File_tree_Put_1, fixS_eq]
  kernel_rfl
theorem h5 : tree_Size [([97, 47, 98], [50, 50])] = some 2 := by
  simp only [Q9.strings_Split, Q9.slices_Clone_Entry, Q9.bytealg_IndexByteString, Q9.bytealg_CountString, Q9.stringslite_IndexByte, Q9.strings_IndexByte, Q9.path_Name, Q9.path_Names, Q9.path_Right, Q9.clock_Right, Q9.scan_files, Q9.stringslite_HasPrefix, Q9.strings_HasPrefix, Q9.path_Under, Q9.tree_Right_1, Q9.slices_IndexFunc_File_tree_Right_1, Q9.slices_ContainsFunc_File_tree_Right_1, Q9.tree_Right, Q9.scan_Right, Q9.clock_clamp, Q9.clock_Of, Q9.clock_count, Q9.clock_Pair, Q9.clock_whole, Q9.clock_Tick, Q9.both_step, Q9.scan_step, Q9.scan_post, Q9.scan_early, Q9.scan_Scan, Q9.slices_Equal_Entry, Q9.scan_Same, Q9.scan_find_1, Q9.slices_IndexFunc_Entry_scan_find_1, Q9.scan_find, Q9.scan_Find, Q9.scan_Tree, Q9.scan_Copy, Q9.law09_Few, Q9.law04_Few, Q9.clock_Mine, Q9.ref01_Rows, Q9.slices_Equal_File, Q9.tree_Same, Q9.path_Sorted, Q9.clock_Join, Q9.clock_Order, Q10.bytealg_abigen_runtime_cmpstring, Q10.recon_value, Q10.recon_joined, Q10.recon_come, Q10.slices_Index_string, Q10.slices_Contains_string, Q10.path_Clash, Q10.recon_may_1, Q10.slices_IndexFunc_string_recon_may_1, Q10.slices_ContainsFunc_string_recon_may_1, Q10.recon_may, Q10.law10_has, Q10.bytealg_CompareString, Q10.strings_Compare, Q10.tree_place_1, Q10.slices_BinarySearchFunc_string_tree_place_1, Q10.tree_place, Q10.tree_Find, Q10.tree_Get, Q10.recon_Agree, Q10.slices_Index_File, Q10.slices_Contains_File, Q10.oneM, Q10.recon_Merge, Q10.recon_Settle, Q10.slices_Concat_Action, Q10.recon_Plan, tree_Size, tree_Put_1, slices_IndexFunc_File_tree_Put_1, slices_ContainsFunc_File_tree_Put_1, fixS_eq]
  kernel_rfl
theorem h6 : Q10.tree_Get ([([97], [49])], [97]) = some ([49], true) := by
  simp only [Q9.strings_Split, Q9.slices_Clone_Entry, Q9.bytealg_IndexByteString, Q9.bytealg_CountString, Q9.stringslite_IndexByte, Q9.strings_IndexByte, Q9.path_Name, Q9.path_Names, Q9.path_Right, Q9.clock_Right, Q9.scan_files, Q9.stringslite_HasPrefix, Q9.strings_HasPrefix, Q9.path_Under, Q9.tree_Right_1, Q9.slices_IndexFunc_File_tree_Right_1, Q9.slices_ContainsFunc_File_tree_Right_1, Q9.tree_Right, Q9.scan_Right, Q9.clock_clamp, Q9.clock_Of, Q9.clock_count, Q9.clock_Pair, Q9.clock_whole, Q9.clock_Tick, Q9.both_step, Q9.scan_step, Q9.scan_post, Q9.scan_early, Q9.scan_Scan, Q9.slices_Equal_Entry, Q9.scan_Same, Q9.scan_find_1, Q9.slices_IndexFunc_Entry_scan_find_1, Q9.scan_find, Q9.scan_Find, Q9.scan_Tree, Q9.scan_Copy, Q9.law09_Few, Q9.law04_Few, Q9.clock_Mine, Q9.ref01_Rows, Q9.slices_Equal_File, Q9.tree_Same, Q9.path_Sorted, Q9.clock_Join, Q9.clock_Order, Q10.bytealg_abigen_runtime_cmpstring, Q10.recon_value, Q10.recon_joined, Q10.recon_come, Q10.slices_Index_string, Q10.slices_Contains_string, Q10.path_Clash, Q10.recon_may_1, Q10.slices_IndexFunc_string_recon_may_1, Q10.slices_ContainsFunc_string_recon_may_1, Q10.recon_may, Q10.law10_has, Q10.bytealg_CompareString, Q10.strings_Compare, Q10.tree_place_1, Q10.slices_BinarySearchFunc_string_tree_place_1, Q10.tree_place, Q10.tree_Find, Q10.tree_Get, Q10.recon_Agree, Q10.slices_Index_File, Q10.slices_Contains_File, Q10.oneM, Q10.recon_Merge, Q10.recon_Settle, Q10.slices_Concat_Action, Q10.recon_Plan, tree_Size, tree_Put_1, slices_IndexFunc_File_tree_Put_1, slices_ContainsFunc_File_tree_Put_1, fixS_eq]
  kernel_rfl
theorem h7 : Q10.tree_Get ([([97], [49])], [97, 47, 98]) = some ([], false) := by
  simp only [Q9.strings_Split, Q9.slices_Clone_Entry, Q9.bytealg_IndexByteString, Q9.bytealg_CountString, Q9.stringslite_IndexByte, Q9.strings_IndexByte, Q9.path_Name, Q9.path_Names, Q9.path_Right, Q9.clock_Right, Q9.scan_files, Q9.stringslite_HasPrefix, Q9.strings_HasPrefix, Q9.path_Under, Q9.tree_Right_1, Q9.slices_IndexFunc_File_tree_Right_1, Q9.slices_ContainsFunc_File_tree_Right_1, Q9.tree_Right, Q9.scan_Right, Q9.clock_clamp, Q9.clock_Of, Q9.clock_count, Q9.clock_Pair, Q9.clock_whole, Q9.clock_Tick, Q9.both_step, Q9.scan_step, Q9.scan_post, Q9.scan_early, Q9.scan_Scan, Q9.slices_Equal_Entry, Q9.scan_Same, Q9.scan_find_1, Q9.slices_IndexFunc_Entry_scan_find_1, Q9.scan_find, Q9.scan_Find, Q9.scan_Tree, Q9.scan_Copy, Q9.law09_Few, Q9.law04_Few, Q9.clock_Mine, Q9.ref01_Rows, Q9.slices_Equal_File, Q9.tree_Same, Q9.path_Sorted, Q9.clock_Join, Q9.clock_Order, Q10.bytealg_abigen_runtime_cmpstring, Q10.recon_value, Q10.recon_joined, Q10.recon_come, Q10.slices_Index_string, Q10.slices_Contains_string, Q10.path_Clash, Q10.recon_may_1, Q10.slices_IndexFunc_string_recon_may_1, Q10.slices_ContainsFunc_string_recon_may_1, Q10.recon_may, Q10.law10_has, Q10.bytealg_CompareString, Q10.strings_Compare, Q10.tree_place_1, Q10.slices_BinarySearchFunc_string_tree_place_1, Q10.tree_place, Q10.tree_Find, Q10.tree_Get, Q10.recon_Agree, Q10.slices_Index_File, Q10.slices_Contains_File, Q10.oneM, Q10.recon_Merge, Q10.recon_Settle, Q10.slices_Concat_Action, Q10.recon_Plan, tree_Size, tree_Put_1, slices_IndexFunc_File_tree_Put_1, slices_ContainsFunc_File_tree_Put_1, fixS_eq]
  kernel_rfl
/-- What undoes actions, ahead of Net. -/
def undoA (t : List Fi) (q : List UInt8) : AcP := (q, ((getT t q).isSome, (getT t q).getD []))
theorem undo_ok {t : List Fi} {l : List AcP} (hb : ∀ g ∈ t, g.1.length ≤ 1000000) (hR : TreeX t) (ho : okActs l = true) : act_Undo (t, l) = act_Net ((sortP (l.map (·.1))).map (undoA t)) := by
  have hl : l.length ≤ 1000 := by
    simp only [okActs, Bool.and_eq_true, decide_eq_true_eq] at ho
    exact ho.1
  have hs := sortP_len (l.map (·.1))
  rw [List.length_map] at hs
  unfold act_Undo
  dsimp only
  rw [treeX_back hb hR, Option.bind_some, if_neg (by simp)]
  unfold act_Paths
  rw [if_pos ho, Option.bind_some]
  generalize hps : sortP (l.map (·.1)) = ps at *
  refine Eq.trans (loop_run (ps.length) (fun i s => s = ((ps.take i).map (undoA t), (i : Int))) (act_Net (ps.map (undoA t))) (by omega) ?_ ?_ ?_) rfl
  · intro again s hs'
    subst hs'
    dsimp only
    rw [List.take_length]
    rw [if_neg (by simp)]
    cases act_Net (ps.map (undoA t)) <;> rfl
  · intro i hi again s hs' h
    subst hs'
    dsimp only
    rw [if_pos (by simp; omega), ixL_nat hi, get_ok hb hR, Option.bind_some, fits40 (by simp; omega), if_pos rfl, wrap_succ (by omega)]
    refine h _ ?_
    rw [List.take_succ_eq_append_getElem hi, List.map_append]
    rfl
  · rfl
theorem tb0 : ∀ g ∈ ([([97], [49])] : List Fi), g.1.length ≤ 1000000 := by intro g hg; simp at hg; subst hg; decide
theorem d1 : act_Do ([([97], [49])], ([([97], (false, [])), ([97, 47, 98], (true, [50, 50]))], 9)) = some ([([97, 47, 98], [50, 50])], 0) := by
  unfold act_Do
  rw [if_pos (by rfl), h4]
  simp only [Option.bind_some, Bool.not_true, Bool.false_eq_true, if_false, doAll, act1, h1, h2, h5, if_true]
  rfl
theorem d2 : act_Do ([([97], [49])], ([([97, 47, 98], (true, [50, 50]))], 9)) = some ([], 6) := by
  unfold act_Do
  rw [if_pos (by rfl), h4]
  simp only [Option.bind_some, Bool.not_true, Bool.false_eq_true, if_false, doAll, act1, h3, if_true]
  rfl
theorem d3 : act_Do ([([97], [49])], ([([97], (false, [])), ([97, 47, 98], (true, [50, 50]))], 1)) = some ([], 2) := by
  unfold act_Do
  rw [if_pos (by rfl), h4]
  simp only [Option.bind_some, Bool.not_true, Bool.false_eq_true, if_false, doAll, act1, h1, h2, h5, if_true]
  rfl
theorem d4 : act_Undo ([([97], [49])], [([97], (false, [])), ([97, 47, 98], (true, [50, 50]))]) = some [([97, 47, 98], (false, [])), ([97], (true, [49]))] := by
  rw [undo_ok tb0 (treeX_fwd tb0 h4) (by rfl)]
  unfold act_Net
  rw [if_pos (by rfl)]
  rfl
theorem d5 : act_Net [([122], (true, [])), ([98], (false, [])), ([122], (true, [49])), ([99], (false, []))] = some [([98], (false, [])), ([99], (false, [])), ([122], (true, [49]))] := by
  unfold act_Net
  rw [if_pos (by rfl)]
  rfl
theorem d6 : act_Paths [([98], (false, [])), ([99], (false, [])), ([122], (true, [49]))] = some [[98], [99], [122]] := by
  unfold act_Paths
  rw [if_pos (by rfl)]
  rfl
theorem small_ok : law11_small () = some true := by
  unfold law11_small
  rw [d1, Option.bind_some]
  show ((act_Do ([([97], [49])], ([([97, 47, 98], (true, [50, 50]))], 9))).bind fun r3 => _) = _
  rw [d2, Option.bind_some, d3, Option.bind_some, d4, Option.bind_some, d5, Option.bind_some, d6, Option.bind_some]
  rfl
end Go.Proofs.W.Q11
namespace Go.Proofs.W.Q11
open Go Go.Proofs.V Go.Proofs.W.Q9 Go.Proofs.W.Q10
set_option linter.unusedVariables false
set_option linter.unusedSimpArgs false
/-- What an action makes of a path. -/
def stepA (q : List UInt8) (o : Option (List UInt8)) (a : AcP) : Option (List UInt8) := if q = a.1 then (if a.2.1 = true then some a.2.2 else none) else o
def endT (t : List Fi) (l : List AcP) (q : List UInt8) : Option (List UInt8) := l.foldl (stepA q) (getT t q)
abbrev PB (t : List Fi) : Prop := ∀ g ∈ t, g.1.length ≤ 100000
theorem PB.big {t : List Fi} (h : PB t) : ∀ g ∈ t, g.1.length ≤ 1000000 := fun g hg => by have := h g hg; omega
theorem ok_PB {t t' : List Fi} {p : List UInt8} {o : Option (List UInt8)} (h : PB t) (hR : TreeX t) (hp : p.length ≤ 100000) (k : Ok t t' p o) : PB t' := by
  intro g hg
  have h1 := (getT_iff (treeX_asc k.x) (q := g.1) (d := g.2)).2 hg
  rw [k.g] at h1
  split at h1
  · rename_i e; rw [e]; exact hp
  · exact h _ ((getT_iff (treeX_asc hR)).1 h1)
theorem act1_ok {t : List Fi} (hb : PB t) (hR : TreeX t) (a : AcP) (ha : a.1.length ≤ 100000) : ∃ y, act1 t a = some y ∧ ((y.2 ≠ 0 ∧ y.1 = []) ∨ (y.2 = 0 ∧ path_Right a.1 = some true ∧ Ok t y.1 a.1 (if a.2.1 = true then some a.2.2 else none))) := by
  unfold act1
  split
  · obtain ⟨y, h1, h2, _⟩ := put_ok a.2.2 hb.big hR (by omega : a.1.length ≤ 1000000)
    exact ⟨y, h1, h2⟩
  · obtain ⟨y, h1, h2⟩ := drop_ok a.1 hb.big hR
    refine ⟨y, h1, ?_⟩
    rcases h2 with ⟨h2, h3, _⟩ | ⟨h2, h3, h4⟩
    · exact .inl ⟨h2, h3⟩
    · obtain ⟨d, hd⟩ := Option.isSome_iff_exists.1 h3
      exact .inr ⟨h2, hR.path _ ((getT_iff (treeX_asc hR)).1 hd), h4⟩
theorem doAll_ok : ∀ (l : List AcP) {t : List Fi}, PB t → TreeX t → (∀ a ∈ l, a.1.length ≤ 100000) → ∃ z, doAll t l = some z ∧ ((z.2 ≠ 0 ∧ z.1 = []) ∨ (z.2 = 0 ∧ TreeX z.1 ∧ PB z.1 ∧ (∀ a ∈ l, path_Right a.1 = some true) ∧ ∀ q, getT z.1 q = endT t l q))
  | [], t, hb, hR, hl => ⟨_, rfl, .inr ⟨rfl, hR, hb, (fun a ha => by cases ha), fun q => rfl⟩⟩
  | a :: l, t, hb, hR, hl => by
    obtain ⟨y, h1, h2⟩ := act1_ok hb hR a (hl a (by simp))
    rw [doAll, h1, Option.bind_some]
    rcases h2 with ⟨h2, h3⟩ | ⟨h2, h3, h4⟩
    · rw [if_neg h2]
      exact ⟨_, rfl, .inl ⟨h2, rfl⟩⟩
    · rw [if_pos h2]
      obtain ⟨z, k1, k2⟩ := doAll_ok l (ok_PB hb hR (hl a (by simp)) h4) h4.x (fun b hb => hl b (by simp [hb]))
      refine ⟨z, k1, ?_⟩
      rcases k2 with k2 | ⟨k2, k3, k4, k5, k6⟩
      · exact .inl k2
      · refine .inr ⟨k2, k3, k4, fun b hb => ?_, fun q => ?_⟩
        · rcases List.mem_cons.1 hb with rfl | hb
          · exact h3
          · exact k5 b hb
        · rw [k6]
          unfold endT
          rw [List.foldl_cons, h4.g]
          rfl
theorem doAll_append : ∀ (a : List AcP) {b : List AcP} {t : List Fi}, doAll t (a ++ b) = (doAll t a).bind fun r => if r.2 = 0 then doAll r.1 b else some ([], r.2)
  | [], b, t => by simp [doAll]
  | x :: a, b, t => by
    rw [List.cons_append, doAll, doAll]
    cases h : act1 t x with
    | none => rfl
    | some r =>
      rw [Option.bind_some, Option.bind_some]
      by_cases h0 : r.2 = 0
      · rw [if_pos h0, if_pos h0, doAll_append a]
      · rw [if_neg h0, if_neg h0, Option.bind_some, if_neg h0]
def sizeF (t : List Fi) : Int := (t.map fun f => (f.2.length : Int)).sum
theorem size_bd {t : List Fi} (h : TreeX t) : 0 ≤ sizeF t ∧ sizeF t ≤ 9600 := by
  have key : ∀ l : List Fi, (∀ f ∈ l, f.2.length ≤ 600) → 0 ≤ sizeF l ∧ sizeF l ≤ 600 * l.length := by
    intro l
    induction l with
    | nil => intro _; simp [sizeF]
    | cons a l ih =>
      intro hl
      have h1 := ih fun f hf => hl f (by simp [hf])
      have h2 := hl a (by simp)
      have e : sizeF (a :: l) = (a.2.length : Int) + sizeF l := rfl
      rw [e, List.length_cons]
      omega
  have h1 := key t h.data
  have h2 := h.len
  omega
theorem size_ok {t : List Fi} (h : TreeX t) : tree_Size t = some (sizeF t) := by
  have hl := h.len
  unfold tree_Size
  refine loop_run t.length (fun i s => s = (sizeF (t.take i), (i : Int))) _ (by omega) ?_ ?_ ?_
  · intro again s hs
    subst hs
    dsimp only
    rw [if_neg (by simp), List.take_length]
  · intro i hi again s hs k
    subst hs
    dsimp only
    rw [if_pos (by simp; omega), ixL_nat hi, wrap_succ (by omega)]
    refine k _ ?_
    have hX : ∀ j, 0 ≤ sizeF (t.take j) ∧ sizeF (t.take j) ≤ 9600 := fun j => by
      have key : ∀ l : List Fi, (∀ f ∈ l, f.2.length ≤ 600) → 0 ≤ sizeF l ∧ sizeF l ≤ 600 * l.length := by
        intro l
        induction l with
        | nil => intro _; simp [sizeF]
        | cons a l ih =>
          intro hl
          have h1 := ih fun f hf => hl f (by simp [hf])
          have h2 := hl a (by simp)
          have e : sizeF (a :: l) = (a.2.length : Int) + sizeF l := rfl
          rw [e, List.length_cons]
          omega
      have h1 := key (t.take j) fun f hf => h.data f (List.mem_of_mem_take hf)
      have h2 : (t.take j).length ≤ 16 := by rw [List.length_take]; omega
      omega
    have e : sizeF (t.take (i + 1)) = sizeF (t.take i) + (t[i].2.length : Int) := sum_take _ t hi
    have h1 := hX (i + 1)
    have h2 := hX i
    rw [← e, IntKind.wrap_i64]
    congr 1
    omega
  · rfl
theorem okDo_X {t : List Fi} {l : List AcP} (hX : TreeX t) (hb : PB t) (hl : okActs l = true) : okDo t l = true := by
  simp only [okActs, okDo, Bool.and_eq_true, decide_eq_true_eq, List.all_eq_true] at *
  have := hX.len
  exact ⟨⟨⟨by omega, hl.1⟩, fun g hg => ⟨hb g hg, by have := hX.data g hg; omega⟩⟩, hl.2⟩
end Go.Proofs.W.Q11
namespace Go.Proofs.W.Q11
open Go Go.Proofs.V Go.Proofs.W.Q9 Go.Proofs.W.Q10
set_option linter.unusedVariables false
set_option linter.unusedSimpArgs false
end Go.Proofs.W.Q11
namespace Go.Proofs.W.Q11
open Go Go.Proofs.V Go.Proofs.W.Q9 Go.Proofs.W.Q10
set_option linter.unusedVariables false
set_option linter.unusedSimpArgs false
theorem asc_same {α : Type} {f : α → List UInt8} : ∀ {a b : List α}, Asc f a → Asc f b → (∀ x, x ∈ a ↔ x ∈ b) → a = b
  | [], [], _, _, _ => rfl
  | [], y :: b, _, _, h => by have := (h y).2 (by simp); cases this
  | x :: a, [], _, _, h => by have := (h x).1 (by simp); cases this
  | x :: a, y :: b, ha, hb, h => by
    have hxy : x = y := by
      rcases List.mem_cons.1 ((h x).1 (by simp)) with e | e
      · exact e
      · rcases List.mem_cons.1 ((h y).2 (by simp)) with e' | e'
        · exact e'.symm
        · have h1 : Op.bytesLess (f y) (f x) = true := asc_head hb x e
          have h2 : Op.bytesLess (f x) (f y) = true := asc_head ha y e'
          rw [less_asymm h1] at h2; cases h2
    subst hxy
    rw [asc_same (asc_tail ha) (asc_tail hb) fun z => ?_]
    constructor
    · intro hz
      rcases List.mem_cons.1 ((h z).1 (List.mem_cons_of_mem _ hz)) with e | e
      · subst e; exact absurd rfl (less_ne (asc_head ha z hz))
      · exact e
    · intro hz
      rcases List.mem_cons.1 ((h z).2 (List.mem_cons_of_mem _ hz)) with e | e
      · subst e; exact absurd rfl (less_ne (asc_head hb z hz))
      · exact e
theorem asc_nodup {α : Type} {f : α → List UInt8} {l : List α} (h : Asc f l) : (l.map f).Nodup := List.pairwise_map.2 (h.imp fun hab => less_ne hab)
theorem lastA_mem {l : List AcP} (h : (l.map (·.1)).Nodup) {a : AcP} (ha : a ∈ l) : lastA l a.1 = a := by
  unfold lastA
  cases hf : l.reverse.find? fun b => decide (b.1 = a.1) with
  | none =>
    have := List.find?_eq_none.1 hf a (List.mem_reverse.2 ha)
    simp at this
  | some b =>
    have h1 := List.mem_reverse.1 (List.mem_of_find?_eq_some hf)
    have h2 := List.find?_some hf
    have h2 : b.1 = a.1 := by simpa using h2
    rw [Option.getD_some]
    have h := List.pairwise_map.1 h
    obtain ⟨i, hi, rfl⟩ := List.mem_iff_getElem.1 h1
    obtain ⟨j, hj, rfl⟩ := List.mem_iff_getElem.1 ha
    rcases Nat.lt_trichotomy i j with k | k | k
    · exact absurd h2 (List.pairwise_iff_getElem.1 h i j hi hj k)
    · subst k; rfl
    · exact absurd h2.symm (List.pairwise_iff_getElem.1 h j i hj hi k)
/-- What an action says of its path. -/
def valA (a : AcP) : Option (List UInt8) := if a.2.1 = true then some a.2.2 else none
theorem fold_val {q : List UInt8} {v : Option (List UInt8)} : ∀ (l : List AcP) (o : Option (List UInt8)), (∀ a ∈ l, a.1 = q → valA a = v) → l.foldl (stepA q) o = if l.any (fun a => decide (a.1 = q)) = true then v else o
  | [], o, _ => rfl
  | a :: l, o, h => by
    rw [List.foldl_cons, fold_val l _ fun b hb => h b (by simp [hb]), List.any_cons]
    by_cases e : a.1 = q
    · have hv := h a (by simp) e
      have hs : stepA q o a = v := by
        unfold stepA
        rw [if_pos e.symm]
        exact hv
      rw [hs, decide_eq_true e, Bool.true_or, if_pos rfl]
      split <;> rfl
    · have hs : stepA q o a = o := by
        unfold stepA
        rw [if_neg fun k => e k.symm]
      rw [hs, decide_eq_false e, Bool.false_or]
theorem getT_some_mem {t : List Fi} (h : TreeX t) {q : List UInt8} (hs : (getT t q).isSome = true) : ∃ d, (q, d) ∈ t ∧ getT t q = some d := by
  obtain ⟨d, hd⟩ := Option.isSome_iff_exists.1 hs
  exact ⟨d, (getT_iff (treeX_asc h)).1 hd, hd⟩
theorem drops_ok : ∀ (D : List AcP) {t : List Fi}, PB t → TreeX t → (∀ a ∈ D, a.2.1 = false ∧ (getT t a.1).isSome = true) → (D.map (·.1)).Nodup → ∃ t1, doAll t D = some (t1, 0) ∧ TreeX t1 ∧ PB t1 ∧ ∀ q, getT t1 q = if q ∈ D.map (·.1) then none else getT t q
  | [], t, hb, hR, _, _ => ⟨t, rfl, hR, hb, fun q => by simp⟩
  | a :: D, t, hb, hR, hD, hn => by
    have hn := List.nodup_cons.1 hn
    have hn1 : a.1 ∉ D.map (·.1) := hn.1
    obtain ⟨e1, e2⟩ := hD a (by simp)
    obtain ⟨y, h1, h2⟩ := drop_ok a.1 hb.big hR
    rcases h2 with ⟨_, _, h3⟩ | ⟨h2, _, h4⟩
    · rw [h3] at e2; cases e2
    · obtain ⟨d, hd, _⟩ := getT_some_mem hR e2
      have hb' := ok_PB hb hR (hb _ hd) h4
      obtain ⟨t1, k1, k2, k3, k4⟩ := drops_ok D hb' h4.x (fun b hb2 => ⟨(hD b (by simp [hb2])).1, by
        rw [h4.g, if_neg (fun e => hn1 (by rw [← e]; exact List.mem_map.2 ⟨b, hb2, rfl⟩))]
        exact (hD b (by simp [hb2])).2⟩) hn.2
      refine ⟨t1, ?_, k2, k3, fun q => ?_⟩
      · rw [doAll]
        unfold act1
        rw [if_neg (by rw [e1]; simp), h1, Option.bind_some, if_pos h2]
        exact k1
      · rw [k4, h4.g, List.map_cons]
        by_cases m : q ∈ D.map (·.1)
        · rw [if_pos m, if_pos (List.mem_cons_of_mem _ m)]
        · rw [if_neg m]
          by_cases e : q = a.1
          · rw [if_pos e, if_pos (by rw [e]; exact List.mem_cons_self)]
          · rw [if_neg e, if_neg (fun h => (List.mem_cons.1 h).elim e m)]
theorem nodup_len : ∀ {a b : List (List UInt8)}, a.Nodup → (∀ x ∈ a, x ∈ b) → a.length ≤ b.length
  | [], _, _, _ => Nat.zero_le _
  | x :: a, b, hn, h => by
    have hn := List.nodup_cons.1 hn
    have hx := h x (by simp)
    have := nodup_len (a := a) (b := b.erase x) hn.2 fun y hy => (List.mem_erase_of_ne (fun e => hn.1 (by rw [← e]; exact hy))).2 (h y (by simp [hy]))
    rw [List.length_erase_of_mem hx] at this
    have hp := List.length_pos_of_mem hx
    rw [List.length_cons]
    omega
theorem sub_len {t u : List Fi} (ht : TreeX t) (hu : TreeX u) (h : ∀ q, (getT t q).isSome = true → (getT u q).isSome = true) {p : List UInt8} (hp : (getT u p).isSome = true) (hn : getT t p = none) : t.length < u.length := by
  have h1 : (p :: t.map (·.1)).Nodup := List.nodup_cons.2 ⟨(fun hm => by
    obtain ⟨f, hf, rfl⟩ := List.mem_map.1 hm
    rw [(getT_iff (treeX_asc ht) (q := f.1) (d := f.2)).2 hf] at hn
    cases hn), asc_nodup (treeX_asc ht)⟩
  have h2 : ∀ x ∈ p :: t.map (·.1), x ∈ u.map (·.1) := by
    intro x hx
    rcases List.mem_cons.1 hx with rfl | hx
    · obtain ⟨d, hd, _⟩ := getT_some_mem hu hp
      exact List.mem_map.2 ⟨_, hd, rfl⟩
    · obtain ⟨f, hf, rfl⟩ := List.mem_map.1 hx
      obtain ⟨d, hd, _⟩ := getT_some_mem hu (h f.1 (by rw [(getT_iff (treeX_asc ht) (q := f.1) (d := f.2)).2 hf]; rfl))
      exact List.mem_map.2 ⟨_, hd, rfl⟩
  have := nodup_len h1 h2
  simp at this
  omega
theorem puts_ok {u : List Fi} (hu : TreeX u) (hub : PB u) : ∀ (P : List AcP) {t : List Fi}, PB t → TreeX t → (∀ q, (getT t q).isSome = true → (getT u q).isSome = true) → (∀ a ∈ P, a.2.1 = true ∧ getT u a.1 = some a.2.2) → ∃ t2, doAll t P = some (t2, 0)
  | [], t, _, _, _, _ => ⟨t, rfl⟩
  | a :: P, t, hb, hR, hs, hP => by
    obtain ⟨e1, e2⟩ := hP a (by simp)
    have hm := (getT_iff (treeX_asc hu)).1 e2
    have hal : a.1.length ≤ 100000 := hub _ hm
    obtain ⟨y, h1, h2, h3⟩ := put_ok a.2.2 hb.big hR (by omega : a.1.length ≤ 1000000)
    have hul := hu.len
    have h0 : y.2 = 0 := by
      refine h3 (hu.path _ hm) (fun g hg => ?_) (hu.data _ hm) (fun hn => ?_)
      · obtain ⟨d, hd, _⟩ := getT_some_mem hu (hs g.1 (by rw [(getT_iff (treeX_asc hR) (q := g.1) (d := g.2)).2 hg]; rfl))
        have k1 := hu.no _ hd _ hm
        have k2 := hu.no _ hm _ hd
        unfold clashB
        rw [k1, k2]; rfl
      · have := sub_len hR hu hs (p := a.1) (by rw [e2]; rfl) hn
        omega
    rcases h2 with ⟨h2, _⟩ | ⟨_, _, h4⟩
    · exact absurd h0 h2
    · obtain ⟨t2, k⟩ := puts_ok hu hub P (ok_PB hb hR hal h4) h4.x (fun q hq => by
        rw [h4.g] at hq
        split at hq
        · rename_i e; rw [e, e2]; rfl
        · exact hs q hq) (fun b hb => hP b (by simp [hb]))
      refine ⟨t2, ?_⟩
      rw [doAll]
      unfold act1
      rw [if_pos e1, h1, Option.bind_some, if_pos h0]
      exact k
/-- What drops first, and puts then, and tells each path of the other tree, leads there. -/
theorem doAll_to {t u : List Fi} {D P : List AcP} (ht : TreeX t) (hb : PB t) (hu : TreeX u) (hub : PB u) (hD : ∀ a ∈ D, a.2.1 = false ∧ (getT t a.1).isSome = true) (hn : (D.map (·.1)).Nodup) (hP : ∀ a ∈ P, a.2.1 = true ∧ getT u a.1 = some a.2.2)
    (rest : ∀ q, (getT t q).isSome = true → q ∉ D.map (·.1) → (getT u q).isSome = true) (hl : ∀ a ∈ D ++ P, a.1.length ≤ 100000) (fin : ∀ q, endT t (D ++ P) q = getT u q) : doAll t (D ++ P) = some (u, 0) := by
  obtain ⟨t1, k1, k2, k3, k4⟩ := drops_ok D hb ht hD hn
  obtain ⟨t2, k5⟩ := puts_ok hu hub P k3 k2 (fun q hq => by
    rw [k4] at hq
    split at hq
    · cases hq
    · rename_i h; exact rest q hq h) hP
  have hall : doAll t (D ++ P) = some (t2, 0) := by rw [doAll_append, k1, Option.bind_some, if_pos rfl]; exact k5
  obtain ⟨z, h1, h2⟩ := doAll_ok (D ++ P) hb ht hl
  rw [hall] at h1
  cases h1
  rcases h2 with ⟨h, _⟩ | ⟨_, h2, _, _, h3⟩
  · exact absurd rfl h
  · rw [hall]
    exact congrArg (fun x => some (x, (0 : Int))) (tree_ext (treeX_asc h2) (treeX_asc hu) fun q => (h3 q).trans (fin q))
theorem do_to {t u : List Fi} {l : List AcP} (ht : TreeX t) (hb : PB t) (hu : TreeX u) (ho : okActs l = true) (h : doAll t l = some (u, 0)) : act_Do (t, (l, 1048576)) = some (u, 0) := by
  have hs := size_bd hu
  unfold act_Do
  rw [if_pos (okDo_X ht hb ho)]
  dsimp only
  rw [treeX_back hb.big ht, Option.bind_some, if_neg (by simp), h, Option.bind_some, if_pos rfl, size_ok hu, Option.bind_some, if_neg (by omega)]
theorem few_PB {t : List Fi} (h : (decide (t.length ≤ 40) && t.all okFi) = true) : PB t := by
  simp only [Bool.and_eq_true, decide_eq_true_eq, List.all_eq_true, okFi] at h
  exact fun g hg => by have := h.2 g hg; omega
theorem mem_drops {t u : List Fi} {a : AcP} : a ∈ dropsP t u ↔ ∃ f ∈ t, getT u f.1 = none ∧ a = (f.1, (false, [])) := by
  unfold dropsP
  rw [List.mem_map]
  constructor
  · rintro ⟨f, hf, rfl⟩
    have := List.mem_filter.1 hf
    exact ⟨f, this.1, by simpa using this.2, rfl⟩
  · rintro ⟨f, hf, h, rfl⟩
    exact ⟨f, List.mem_filter.2 ⟨hf, by rw [h]; rfl⟩, rfl⟩
theorem mem_puts {t u : List Fi} (ht : AscF t) {a : AcP} : a ∈ putsP t u ↔ ∃ g ∈ u, getT t g.1 ≠ some g.2 ∧ a = (g.1, (true, g.2)) := by
  unfold putsP
  rw [List.mem_map]
  constructor
  · rintro ⟨g, hg, rfl⟩
    have := List.mem_filter.1 hg
    rw [any_get ht] at this
    exact ⟨g, this.1, by simpa using this.2, rfl⟩
  · rintro ⟨g, hg, h, rfl⟩
    exact ⟨g, List.mem_filter.2 ⟨hg, by rw [any_get ht]; simpa using h⟩, rfl⟩
/-- A plan, done. -/
theorem plan_does {t u : List Fi} (ht : TreeX t) (hb : PB t) (hu : TreeX u) (hub : PB u) : doAll t (dropsP t u ++ putsP t u) = some (u, 0) := by
  have at_ := treeX_asc ht
  have au_ := treeX_asc hu
  refine doAll_to ht hb hu hub (fun a ha => ?_) (asc_nodup (asc_drops at_)) (fun a ha => ?_) (fun q hq hn => ?_) (fun a ha => ?_) (fun q => ?_)
  · obtain ⟨f, hf, _, rfl⟩ := mem_drops.1 ha
    refine ⟨rfl, ?_⟩
    show (getT t f.1).isSome = true
    rw [(getT_iff at_ (q := f.1) (d := f.2)).2 hf]; rfl
  · obtain ⟨g, hg, _, rfl⟩ := (mem_puts at_).1 ha
    exact ⟨rfl, (getT_iff au_).2 hg⟩
  · cases h : getT u q with
    | some d => rfl
    | none =>
      obtain ⟨d, hd, _⟩ := getT_some_mem ht hq
      exact absurd (List.mem_map.2 ⟨_, mem_drops.2 ⟨(q, d), hd, h, rfl⟩, rfl⟩) hn
  · rcases List.mem_append.1 ha with ha | ha
    · obtain ⟨f, hf, _, rfl⟩ := mem_drops.1 ha
      exact hb f hf
    · obtain ⟨g, hg, _, rfl⟩ := (mem_puts at_).1 ha
      exact hub g hg
  · unfold endT
    rw [fold_val (q := q) (v := getT u q) _ _ (fun a ha e => by
      rcases List.mem_append.1 ha with ha | ha
      · obtain ⟨f, hf, h, rfl⟩ := mem_drops.1 ha
        rw [← e]
        exact h.symm
      · obtain ⟨g, hg, _, rfl⟩ := (mem_puts at_).1 ha
        rw [← e]
        exact ((getT_iff au_ (q := g.1) (d := g.2)).2 hg).symm)]
    split
    · rfl
    · rename_i hany
      have hno : ∀ a ∈ dropsP t u ++ putsP t u, a.1 ≠ q := fun a ha e => hany (List.any_eq_true.2 ⟨a, ha, by simpa using e⟩)
      cases h : getT u q with
      | none =>
        cases h2 : getT t q with
        | none => rfl
        | some d => exact absurd rfl (hno _ (List.mem_append.2 (.inl (mem_drops.2 ⟨(q, d), (getT_iff at_).1 h2, h, rfl⟩))))
      | some d =>
        by_cases h2 : getT t q = some d
        · exact h2
        · exact absurd rfl (hno _ (List.mem_append.2 (.inr ((mem_puts at_).2 ⟨(q, d), (getT_iff au_).1 h, h2, rfl⟩))))
theorem plan_paths {t u : List Fi} (ht : TreeX t) (hu : TreeX u) : ((dropsP t u ++ putsP t u).map (·.1)).Nodup := by
  have at_ := treeX_asc ht
  have au_ := treeX_asc hu
  rw [List.map_append]
  refine List.nodup_append.2 ⟨asc_nodup (asc_drops at_), asc_nodup (asc_puts au_), fun x hx y hy e => ?_⟩
  obtain ⟨a, ha, rfl⟩ := List.mem_map.1 hx
  obtain ⟨b, hb, rfl⟩ := List.mem_map.1 hy
  obtain ⟨f, hf, h, rfl⟩ := mem_drops.1 ha
  obtain ⟨g, hg, _, rfl⟩ := (mem_puts at_).1 hb
  have e : f.1 = g.1 := e
  rw [e, (getT_iff au_ (q := g.1) (d := g.2)).2 hg] at h
  cases h
theorem sortP_lenN {ps : List (List UInt8)} (h : ps.Nodup) : (sortP ps).length = ps.length :=
  Nat.le_antisymm (sortP_len ps) (nodup_len h fun x hx => (sortP_mem ps x).2 hx)
theorem net_plan {t u : List Fi} (ht : TreeX t) (hu : TreeX u) : netP (dropsP t u ++ putsP t u) = dropsP t u ++ putsP t u := by
  have at_ := treeX_asc ht
  have au_ := treeX_asc hu
  have hn := plan_paths ht hu
  generalize hA : dropsP t u ++ putsP t u = A at *
  have hlast : ∀ q ∈ sortP (A.map (·.1)), lastA A q ∈ A ∧ (lastA A q).1 = q := fun q hq => by
    obtain ⟨a, ha, rfl⟩ := List.mem_map.1 ((sortP_mem _ q).1 hq)
    rw [lastA_mem hn ha]
    exact ⟨ha, rfl⟩
  have hasc : Asc (fun a : AcP => a.1) ((sortP (A.map (·.1))).map (lastA A)) := by
    unfold Asc
    rw [List.pairwise_map]
    have hup : (sortP (A.map (·.1))).Pairwise (fun x y => Op.bytesLess x y = true) := sortP_up (A.map (fun a : AcP => a.1))
    refine hup.imp_of_mem fun {x y} hx hy h => ?_
    show Op.bytesLess (lastA A x).1 (lastA A y).1 = true
    rw [(hlast x hx).2, (hlast y hy).2]
    exact h
  have hmem : ∀ a, a ∈ (sortP (A.map (·.1))).map (lastA A) ↔ a ∈ A := fun a => by
    constructor
    · intro h
      obtain ⟨q, hq, rfl⟩ := List.mem_map.1 h
      exact (hlast q hq).1
    · intro h
      exact List.mem_map.2 ⟨a.1, (sortP_mem _ _).2 (List.mem_map.2 ⟨a, h, rfl⟩), lastA_mem hn h⟩
  have e1 : ((sortP (A.map (·.1))).map (lastA A)).filter (fun a => !a.2.1) = dropsP t u := by
    refine asc_same (f := fun a : AcP => a.1) (List.Pairwise.sublist List.filter_sublist hasc) (asc_drops at_) fun a => ?_
    rw [List.mem_filter, hmem, ← hA, List.mem_append]
    constructor
    · rintro ⟨h | h, k⟩
      · exact h
      · obtain ⟨g, _, _, rfl⟩ := (mem_puts at_).1 h
        cases k
    · intro h
      refine ⟨.inl h, ?_⟩
      obtain ⟨f, _, _, rfl⟩ := mem_drops.1 h
      rfl
  have e2 : ((sortP (A.map (·.1))).map (lastA A)).filter (fun a => a.2.1) = putsP t u := by
    refine asc_same (f := fun a : AcP => a.1) (List.Pairwise.sublist List.filter_sublist hasc) (asc_puts au_) fun a => ?_
    rw [List.mem_filter, hmem, ← hA, List.mem_append]
    constructor
    · rintro ⟨h | h, k⟩
      · obtain ⟨f, _, _, rfl⟩ := mem_drops.1 h
        cases k
      · exact h
    · intro h
      refine ⟨.inr h, ?_⟩
      obtain ⟨g, _, _, rfl⟩ := (mem_puts at_).1 h
      rfl
  unfold netP
  rw [e1, e2, hA]
theorem plan_self {u : List Fi} (hu : TreeX u) : dropsP u u ++ putsP u u = [] := by
  have au_ := treeX_asc hu
  rw [List.append_eq_nil_iff]
  constructor
  · refine List.eq_nil_iff_forall_not_mem.2 fun a ha => ?_
    obtain ⟨f, hf, h, _⟩ := mem_drops.1 ha
    rw [(getT_iff au_ (q := f.1) (d := f.2)).2 hf] at h
    cases h
  · refine List.eq_nil_iff_forall_not_mem.2 fun a ha => ?_
    obtain ⟨g, hg, h, _⟩ := (mem_puts au_).1 ha
    exact h ((getT_iff au_).2 hg)
theorem plans_ok (x : List Fi × List En) : law11_ActPlans x = some true := by
  obtain ⟨t, b⟩ := x
  unfold law11_ActPlans
  dsimp only
  rw [small_ok, Option.bind_some, few4_ok, Option.bind_some, few9_ok, Option.bind_some]
  cases hf : (decide (t.length ≤ 40) && t.all okFi) with
  | false => rfl
  | true =>
  rw [if_neg (by simp)]
  cases hg : (decide (b.length ≤ 60) && b.all okEn) with
  | false => rfl
  | true =>
  rw [if_neg (by simp)]
  have hb := few_PB hf
  have mb := (few_small hg).mid
  rcases plan_all hb.big mb with h | ⟨ht, rb, h⟩
  · rw [h]; rfl
  · have hub : PB (filesP b) := files_paths fun e he => by
      have := hg
      simp only [Bool.and_eq_true, decide_eq_true_eq, List.all_eq_true, okEn] at this
      have := this.2 e he
      omega
    have hu := treeX_fwd hub.big rb.tree
    have l1 := ht.len
    have l2 := hu.len
    have htree := tree_of rb
    have hplan2 := plan_ok hub.big mb hu rb
    rw [plan_self hu] at hplan2
    generalize hue : filesP b = u at *
    have hdl : (dropsP t u).length ≤ 16 := by unfold dropsP; rw [List.length_map]; have := List.length_filter_le (fun f : Fi => (getT u f.1).isNone) t; omega
    have hpl : (putsP t u).length ≤ 16 := by unfold putsP; rw [List.length_map]; have := List.length_filter_le (fun g : Fi => !t.any fun f => (g.1 == f.1) && (g.2 == f.2)) u; omega
    have hok : okActs (dropsP t u ++ putsP t u) = true := by
      simp only [okActs, Bool.and_eq_true, decide_eq_true_eq, List.all_eq_true, List.length_append]
      refine ⟨by omega, fun a ha => ?_⟩
      rcases List.mem_append.1 ha with ha | ha
      · obtain ⟨f, hf', _, rfl⟩ := mem_drops.1 ha
        exact ⟨hb f hf', by simp⟩
      · obtain ⟨g, hg', _, rfl⟩ := (mem_puts (treeX_asc ht)).1 ha
        have h9 : g.2.length ≤ 600 := hu.data g hg'
        exact ⟨hub g hg', by show g.2.length ≤ _; omega⟩
    rw [h, Option.bind_some]
    dsimp only
    rw [if_neg (by simp), do_to ht hb hu hok (plan_does ht hb hu hub), Option.bind_some]
    dsimp only
    rw [hplan2, Option.bind_some, if_pos rfl]
    dsimp only
    rw [if_pos (by decide), htree, Option.bind_some, treeSame_refl _ (by omega), Option.bind_some, if_pos rfl, if_pos (by decide), if_pos (by decide)]
    unfold act_Paths act_Net
    rw [if_pos hok, Option.bind_some, if_pos (by
      rw [sortP_lenN (plan_paths ht hu), List.length_map]
      simp), if_pos hok, Option.bind_some, net_plan ht hu, acts_refl _ (by rw [List.length_append]; omega), Option.bind_some]
end Go.Proofs.W.Q11

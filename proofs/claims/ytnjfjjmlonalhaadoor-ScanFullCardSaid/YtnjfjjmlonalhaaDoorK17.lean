/- The functions of chapter 09: their residual programs are sound; without Scan. -/
import Derived.Test.YtnjfjjmlonalhaaDoorK15
import Derived.Test.YtnjfjjmlonalhaaDoorK16
namespace Go.Proofs.W.Q9
open Go Go.Proofs Go.Proofs.V Go.Proofs.V.R9
set_option linter.unusedVariables false
set_option linter.unusedSimpArgs false
set_option maxRecDepth 100000
variable {z : Option (List AV → Option AV)}
theorem nilT {cfg : Cfg} : ∀ e ∈ ([] : List Ent), FSound cfg e := fun e h => by cases h
theorem consT {cfg : Cfg} {e : Ent} {l : List Ent} (h : FSound cfg e) (k : ∀ e ∈ l, FSound cfg e) : ∀ e' ∈ e :: l, FSound cfg e' := fun e' he => by
  rcases List.mem_cons.1 he with rfl | he
  · exact h
  · exact k e' he
theorem args2 {c1 c2 : CT} {x : Tc c1 × Tc c2} {xs : List AV} (h : ArgR [.c c1, .c c2] x xs) : ∃ a1 a2, xs = [a1, a2] ∧ WR Ono g0 (cellW c1 x.1) a1 ∧ WR Ono g0 (cellW c2 x.2) a2 := by
  obtain ⟨ws, hf, hw⟩ := h
  cases hf
  rcases xs with _ | ⟨a1, _ | ⟨a2, _ | ⟨_, _⟩⟩⟩ <;> first | exact hw.elim | exact hw.2.elim | exact hw.2.2.elim | skip
  exact ⟨a1, a2, rfl, hw.1, hw.2.1⟩
theorem s_bytealg_IndexByteString : FSound (cfgX z) ⟨⟨82, [.c .str, .c (.int .u8)], [.c (.int .i64)]⟩, bytealg_IndexByteString⟩ := by
  rintro ⟨s, c⟩ y hxy xs ha
  have hxy : bytealg_IndexByteString (s, c) = some y := hxy
  obtain ⟨a1, a2, rfl, h1, h2⟩ := args2 (c1 := .str) (c2 := .int .u8) ha
  cases h1
  cases h2
  unfold bytealg_IndexByteString at hxy
  split at hxy
  · cases hxy
    exact ⟨I64 _, rfl, [.int .i64 false _], [I64 _], rfl, rfl, ⟨.int _ _ _, fun e => by cases e⟩, trivial⟩
  · cases hxy
theorem s_bytealg_CountString : FSound (cfgX z) ⟨⟨80, [.c .str, .c (.int .u8)], [.c (.int .i64)]⟩, bytealg_CountString⟩ := by
  rintro ⟨s, c⟩ y hxy xs ha
  have hxy : bytealg_CountString (s, c) = some y := hxy
  obtain ⟨a1, a2, rfl, h1, h2⟩ := args2 (c1 := .str) (c2 := .int .u8) ha
  cases h1
  cases h2
  unfold bytealg_CountString at hxy
  split at hxy
  · cases hxy
    exact ⟨I64 _, rfl, [.int .i64 false _], [I64 _], rfl, rfl, ⟨.int _ _ _, fun e => by cases e⟩, trivial⟩
  · cases hxy
theorem rows_of : ∀ ws : List (List UInt8), All2 (rowR (.one .str)) ws (ws.map E.rowS)
  | [] => trivial
  | w :: ws => ⟨⟨_, rfl, rfl⟩, rows_of ws⟩
theorem s_strings_Split : FSound (cfgX z) ⟨⟨69, [.c .str, .c .str], [.c (.sl (.one .str))]⟩, strings_Split⟩ := by
  rintro ⟨s, c⟩ y hxy xs ha
  have hxy : strings_Split (s, c) = some y := hxy
  obtain ⟨a1, a2, rfl, h1, h2⟩ := args2 (c1 := .str) (c2 := .str) ha
  cases h1
  cases h2
  unfold strings_Split at hxy
  split at hxy
  · rename_i hc
    obtain ⟨hc, hl⟩ := hc
    have hc : c = [47] := hc
    subst hc
    cases hxy
    obtain ⟨ws, rfl, h⟩ := split69 (z := z) s hl
    exact ⟨_, h, [.sl (.one .str) (E.spl s) .no], [.slice ((E.spl s).map E.rowS) false .no], rfl, rfl, ⟨.sl _ _ _ _ _ _ ⟨rows_of _, fun e => by cases e⟩ rfl, fun e => by cases e⟩, trivial⟩
  · cases hxy
theorem s_slices_Clone_Entry : FSound (cfgX z) ⟨⟨39, [.c (.sl (.cons .str (.cons .bool (.cons .str (.cons (.int .i64) (.one (.int .i64)))))))], [.fr (.cons .str (.cons .bool (.cons .str (.cons (.int .i64) (.one (.int .i64))))))]⟩, slices_Clone_Entry⟩ := by
  intro x y hxy xs ha
  have hxy : slices_Clone_Entry x = some y := hxy
  obtain ⟨ws, hf, hw⟩ := ha
  cases hf
  rcases xs with _ | ⟨a, _ | ⟨b, xs⟩⟩ <;> first | exact hw.elim | exact hw.2.elim | skip
  obtain ⟨h1, _⟩ := hw
  cases h1 with
  | sl _ _ _ rows nl own h ho =>
    unfold slices_Clone_Entry at hxy
    split at hxy
    · rename_i hlen
      cases hxy
      have hall : ∀ r ∈ rows, r.length = 5 := fun r hr => by rw [rows_len h.1 r hr]; rfl
      have hev := clone39 (z := z) rows nl own hall (by rw [← h.1.len]; exact hlen) h.2
      refine ⟨cloneA rows nl, callQ_of rfl hev, [.sl reE x .no], [cloneA rows nl], rfl, rfl, ⟨?_, fun _ => ?_⟩, trivial⟩
      · unfold cloneA
        split
        · rename_i hn
          have e := h.2 hn
          subst e
          exact .sl _ _ _ _ _ _ ⟨h.1, fun _ => rfl⟩ rfl
        · split
          · rename_i he
            have e : rows = [] := by simpa using he
            subst e
            exact .sl _ _ _ _ _ _ ⟨h.1, fun _ => rfl⟩ rfl
          · exact .sl _ _ _ _ _ _ ⟨h.1, fun e => by cases e⟩ rfl
      · unfold cloneA
        split
        · exact ⟨_, _, _, rfl, .inl rfl⟩
        · split
          · exact ⟨_, _, _, rfl, .inl rfl⟩
          · exact ⟨_, _, _, rfl, .inr rfl⟩
    · cases hxy

theorem s_stringslite_IndexByte : FSound (cfgX z) ⟨⟨77, [.c .str, .c (.int .u8)], [.c (.int .i64)]⟩, stringslite_IndexByte⟩ :=
  w_sound (W := ⟨real, Tryd.prog, fun g => g == 31, dsOf (cfgX z), [⟨⟨82, [.c .str, .c (.int .u8)], [.c (.int .i64)]⟩, bytealg_IndexByteString⟩]⟩) (H := ⟨[], [], 8, []⟩) (a := [.c .str, .c (.int .u8)]) (rs := [.c (.int .i64)]) ⟨rfl, rfl, rfl, rfl, (consT s_bytealg_IndexByteString nilT)⟩ stringslite_IndexByte 80 Tryd.func77 rfl (by kernel_rfl) (by kernel_rfl) (by kernel_rfl) (by kernel_rfl) (by kernel_rfl) (by kernel_rfl) (fun t => by kernel_rfl) (fun x => by kernel_rfl)
theorem s_strings_IndexByte : FSound (cfgX z) ⟨⟨73, [.c .str, .c (.int .u8)], [.c (.int .i64)]⟩, strings_IndexByte⟩ :=
  w_sound (W := ⟨real, Tryd.prog, fun g => g == 31, dsOf (cfgX z), [⟨⟨77, [.c .str, .c (.int .u8)], [.c (.int .i64)]⟩, stringslite_IndexByte⟩]⟩) (H := ⟨[], [], 8, []⟩) (a := [.c .str, .c (.int .u8)]) (rs := [.c (.int .i64)]) ⟨rfl, rfl, rfl, rfl, (consT s_stringslite_IndexByte nilT)⟩ strings_IndexByte 80 Tryd.func73 rfl (by kernel_rfl) (by kernel_rfl) (by kernel_rfl) (by kernel_rfl) (by kernel_rfl) (by kernel_rfl) (fun t => by kernel_rfl) (fun x => by kernel_rfl)
theorem s_path_Name : FSound (cfgX z) ⟨⟨70, [.c .str], [.c .bool]⟩, path_Name⟩ :=
  w_sound (W := ⟨real, Tryd.prog, fun g => g == 31, dsOf (cfgX z), [⟨⟨73, [.c .str, .c (.int .u8)], [.c (.int .i64)]⟩, strings_IndexByte⟩]⟩) (H := ⟨[(2, [.val 9 (.c (.int .i64))], [0, 7, 8])], [], 51, []⟩) (a := [.c .str]) (rs := [.c .bool]) ⟨rfl, rfl, rfl, rfl, (consT s_strings_IndexByte nilT)⟩ path_Name 80 Tryd.func70 rfl (by kernel_rfl) (by kernel_rfl) (by kernel_rfl) (by kernel_rfl) (by kernel_rfl) (by kernel_rfl) (fun t => by kernel_rfl) (fun x => by kernel_rfl)
theorem s_path_Names : FSound (cfgX z) ⟨⟨61, [.c .str], [.c (.sl (.one .str))]⟩, path_Names⟩ :=
  w_sound (W := ⟨real, Tryd.prog, fun g => g == 31, dsOf (cfgX z), [⟨⟨69, [.c .str, .c .str], [.c (.sl (.one .str))]⟩, strings_Split⟩, ⟨⟨70, [.c .str], [.c .bool]⟩, path_Name⟩]⟩) (H := ⟨[(5, [.val 13 (.c (.int .i64))], [3, 11, 12])], [], 22, []⟩) (a := [.c .str]) (rs := [.c (.sl (.one .str))]) ⟨rfl, rfl, rfl, rfl, (consT s_strings_Split (consT s_path_Name nilT))⟩ path_Names 80 Tryd.func61 rfl (by kernel_rfl) (by kernel_rfl) (by kernel_rfl) (by kernel_rfl) (by kernel_rfl) (by kernel_rfl) (fun t => by kernel_rfl) (fun x => by kernel_rfl)
theorem s_path_Right : FSound (cfgX z) ⟨⟨40, [.c .str], [.c .bool]⟩, path_Right⟩ :=
  w_sound (W := ⟨real, Tryd.prog, fun g => g == 31, dsOf (cfgX z), [⟨⟨61, [.c .str], [.c (.sl (.one .str))]⟩, path_Names⟩]⟩) (H := ⟨[], [], 7, []⟩) (a := [.c .str]) (rs := [.c .bool]) ⟨rfl, rfl, rfl, rfl, (consT s_path_Names nilT)⟩ path_Right 80 Tryd.func40 rfl (by kernel_rfl) (by kernel_rfl) (by kernel_rfl) (by kernel_rfl) (by kernel_rfl) (by kernel_rfl) (fun t => by kernel_rfl) (fun x => by kernel_rfl)
theorem s_clock_Right : FSound (cfgX z) ⟨⟨41, [.agg [.c (.int .i64), .c (.int .i64)]], [.c .bool]⟩, clock_Right⟩ :=
  w_sound (W := ⟨real, Tryd.prog, fun g => g == 31, dsOf (cfgX z), []⟩) (H := ⟨[], [], 17, []⟩) (a := [.agg [.c (.int .i64), .c (.int .i64)]]) (rs := [.c .bool]) ⟨rfl, rfl, rfl, rfl, nilT⟩ clock_Right 80 Tryd.func41 rfl (by kernel_rfl) (by kernel_rfl) (by kernel_rfl) (by kernel_rfl) (by kernel_rfl) (by kernel_rfl) (fun t => by kernel_rfl) (fun x => by kernel_rfl)
theorem s_scan_files : FSound (cfgX z) ⟨⟨42, [.c (.sl (.cons .str (.cons .bool (.cons .str (.cons (.int .i64) (.one (.int .i64)))))))], [.fr (.cons .str (.one .str))]⟩, scan_files⟩ :=
  w_sound (W := ⟨real, Tryd.prog, fun g => g == 31, dsOf (cfgX z), []⟩) (H := ⟨[(3, [.val 3 (.fr (.cons .str (.one .str))), .val 8 (.c (.int .i64))], [6, 7])], [], 24, []⟩) (a := [.c (.sl (.cons .str (.cons .bool (.cons .str (.cons (.int .i64) (.one (.int .i64)))))))]) (rs := [.fr (.cons .str (.one .str))]) ⟨rfl, rfl, rfl, rfl, nilT⟩ scan_files 80 Tryd.func42 rfl (by kernel_rfl) (by kernel_rfl) (by kernel_rfl) (by kernel_rfl) (by kernel_rfl) (by kernel_rfl) (fun t => by kernel_rfl) (fun x => by kernel_rfl)
theorem s_stringslite_HasPrefix : FSound (cfgX z) ⟨⟨71, [.c .str, .c .str], [.c .bool]⟩, stringslite_HasPrefix⟩ :=
  w_sound (W := ⟨real, Tryd.prog, fun g => g == 31, dsOf (cfgX z), []⟩) (H := ⟨[], [], 18, []⟩) (a := [.c .str, .c .str]) (rs := [.c .bool]) ⟨rfl, rfl, rfl, rfl, nilT⟩ stringslite_HasPrefix 80 Tryd.func71 rfl (by kernel_rfl) (by kernel_rfl) (by kernel_rfl) (by kernel_rfl) (by kernel_rfl) (by kernel_rfl) (fun t => by kernel_rfl) (fun x => by kernel_rfl)
theorem s_strings_HasPrefix : FSound (cfgX z) ⟨⟨66, [.c .str, .c .str], [.c .bool]⟩, strings_HasPrefix⟩ :=
  w_sound (W := ⟨real, Tryd.prog, fun g => g == 31, dsOf (cfgX z), [⟨⟨71, [.c .str, .c .str], [.c .bool]⟩, stringslite_HasPrefix⟩]⟩) (H := ⟨[], [], 8, []⟩) (a := [.c .str, .c .str]) (rs := [.c .bool]) ⟨rfl, rfl, rfl, rfl, (consT s_stringslite_HasPrefix nilT)⟩ strings_HasPrefix 80 Tryd.func66 rfl (by kernel_rfl) (by kernel_rfl) (by kernel_rfl) (by kernel_rfl) (by kernel_rfl) (by kernel_rfl) (fun t => by kernel_rfl) (fun x => by kernel_rfl)
theorem s_path_Under : FSound (cfgX z) ⟨⟨50, [.c .str, .c .str], [.c .bool]⟩, path_Under⟩ :=
  w_sound (W := ⟨real, Tryd.prog, fun g => g == 31, dsOf (cfgX z), [⟨⟨40, [.c .str], [.c .bool]⟩, path_Right⟩, ⟨⟨66, [.c .str, .c .str], [.c .bool]⟩, strings_HasPrefix⟩]⟩) (H := ⟨[], [], 17, []⟩) (a := [.c .str, .c .str]) (rs := [.c .bool]) ⟨rfl, rfl, rfl, rfl, (consT s_path_Right (consT s_strings_HasPrefix nilT))⟩ path_Under 80 Tryd.func50 rfl (by kernel_rfl) (by kernel_rfl) (by kernel_rfl) (by kernel_rfl) (by kernel_rfl) (by kernel_rfl) (fun t => by kernel_rfl) (fun x => by kernel_rfl)
theorem s_tree_Right_1 : FSound (cfgX z) ⟨⟨49, [.agg [.c .str, .c .str], .ref [.c .str, .c .str] 0], [.c .bool]⟩, tree_Right_1⟩ :=
  w_sound (W := ⟨real, Tryd.prog, fun g => g == 31, dsOf (cfgX z), [⟨⟨50, [.c .str, .c .str], [.c .bool]⟩, path_Under⟩]⟩) (H := ⟨[], [], 9, []⟩) (a := [.agg [.c .str, .c .str], .ref [.c .str, .c .str] 0]) (rs := [.c .bool]) ⟨rfl, rfl, rfl, rfl, (consT s_path_Under nilT)⟩ tree_Right_1 80 Tryd.func49 rfl (by kernel_rfl) (by kernel_rfl) (by kernel_rfl) (by kernel_rfl) (by kernel_rfl) (by kernel_rfl) (fun t => by kernel_rfl) (fun x => by kernel_rfl)
theorem s_slices_IndexFunc_File_tree_Right_1 : FSound (cfgX z) ⟨⟨67, [.c (.sl (.cons .str (.one .str))), .fn 49 [] [.ref [.c .str, .c .str] 0]], [.c (.int .i64)]⟩, slices_IndexFunc_File_tree_Right_1⟩ :=
  w_sound (W := ⟨real, Tryd.prog, fun g => g == 31, dsOf (cfgX z), [⟨⟨49, [.agg [.c .str, .c .str], .ref [.c .str, .c .str] 0], [.c .bool]⟩, tree_Right_1⟩]⟩) (H := ⟨[(2, [.val 8 (.c (.int .i64))], [0, 1, 7])], [], 19, []⟩) (a := [.c (.sl (.cons .str (.one .str))), .fn 49 [] [.ref [.c .str, .c .str] 0]]) (rs := [.c (.int .i64)]) ⟨rfl, rfl, rfl, rfl, (consT s_tree_Right_1 nilT)⟩ slices_IndexFunc_File_tree_Right_1 80 Tryd.func67 rfl (by kernel_rfl) (by kernel_rfl) (by kernel_rfl) (by kernel_rfl) (by kernel_rfl) (by kernel_rfl) (fun t => by kernel_rfl) (fun x => by kernel_rfl)
theorem s_slices_ContainsFunc_File_tree_Right_1 : FSound (cfgX z) ⟨⟨51, [.c (.sl (.cons .str (.one .str))), .fn 49 [] [.ref [.c .str, .c .str] 0]], [.c .bool]⟩, slices_ContainsFunc_File_tree_Right_1⟩ :=
  w_sound (W := ⟨real, Tryd.prog, fun g => g == 31, dsOf (cfgX z), [⟨⟨67, [.c (.sl (.cons .str (.one .str))), .fn 49 [] [.ref [.c .str, .c .str] 0]], [.c (.int .i64)]⟩, slices_IndexFunc_File_tree_Right_1⟩]⟩) (H := ⟨[], [], 9, []⟩) (a := [.c (.sl (.cons .str (.one .str))), .fn 49 [] [.ref [.c .str, .c .str] 0]]) (rs := [.c .bool]) ⟨rfl, rfl, rfl, rfl, (consT s_slices_IndexFunc_File_tree_Right_1 nilT)⟩ slices_ContainsFunc_File_tree_Right_1 80 Tryd.func51 rfl (by kernel_rfl) (by kernel_rfl) (by kernel_rfl) (by kernel_rfl) (by kernel_rfl) (by kernel_rfl) (fun t => by kernel_rfl) (fun x => by kernel_rfl)
theorem s_tree_Right : FSound (cfgX z) ⟨⟨27, [.c (.sl (.cons .str (.one .str)))], [.c .bool]⟩, tree_Right⟩ :=
  w_sound (W := ⟨real, Tryd.prog, fun g => g == 31, dsOf (cfgX z), [⟨⟨40, [.c .str], [.c .bool]⟩, path_Right⟩, ⟨⟨51, [.c (.sl (.cons .str (.one .str))), .fn 49 [] [.ref [.c .str, .c .str] 0]], [.c .bool]⟩, slices_ContainsFunc_File_tree_Right_1⟩]⟩) (H := ⟨[(4, [.val 11 (.c (.int .i64))], [0, 9, 10])], [], 48, []⟩) (a := [.c (.sl (.cons .str (.one .str)))]) (rs := [.c .bool]) ⟨rfl, rfl, rfl, rfl, (consT s_path_Right (consT s_slices_ContainsFunc_File_tree_Right_1 nilT))⟩ tree_Right 80 Tryd.func27 rfl (by kernel_rfl) (by kernel_rfl) (by kernel_rfl) (by kernel_rfl) (by kernel_rfl) (by kernel_rfl) (fun t => by kernel_rfl) (fun x => by kernel_rfl)
theorem s_scan_Right : FSound (cfgX z) ⟨⟨17, [.c (.sl (.cons .str (.cons .bool (.cons .str (.cons (.int .i64) (.one (.int .i64)))))))], [.c .bool]⟩, scan_Right⟩ :=
  w_sound (W := ⟨real, Tryd.prog, fun g => g == 31, dsOf (cfgX z), [⟨⟨40, [.c .str], [.c .bool]⟩, path_Right⟩, ⟨⟨41, [.agg [.c (.int .i64), .c (.int .i64)]], [.c .bool]⟩, clock_Right⟩, ⟨⟨42, [.c (.sl (.cons .str (.cons .bool (.cons .str (.cons (.int .i64) (.one (.int .i64)))))))], [.fr (.cons .str (.one .str))]⟩, scan_files⟩, ⟨⟨27, [.c (.sl (.cons .str (.one .str)))], [.c .bool]⟩, tree_Right⟩]⟩) (H := ⟨[(2, [.val 7 (.c (.int .i64))], [0, 5, 6])], [], 62, []⟩) (a := [.c (.sl (.cons .str (.cons .bool (.cons .str (.cons (.int .i64) (.one (.int .i64)))))))]) (rs := [.c .bool]) ⟨rfl, rfl, rfl, rfl, (consT s_path_Right (consT s_clock_Right (consT s_scan_files (consT s_tree_Right nilT))))⟩ scan_Right 80 Tryd.func17 rfl (by kernel_rfl) (by kernel_rfl) (by kernel_rfl) (by kernel_rfl) (by kernel_rfl) (by kernel_rfl) (fun t => by kernel_rfl) (fun x => by kernel_rfl)
theorem s_clock_clamp : FSound (cfgX z) ⟨⟨48, [.c (.int .i64)], [.c (.flt .f64)]⟩, clock_clamp⟩ :=
  w_sound (W := ⟨real, Tryd.prog, fun g => g == 31, dsOf (cfgX z), []⟩) (H := ⟨[], [], 7, []⟩) (a := [.c (.int .i64)]) (rs := [.c (.flt .f64)]) ⟨rfl, rfl, rfl, rfl, nilT⟩ clock_clamp 80 Tryd.func48 rfl (by kernel_rfl) (by kernel_rfl) (by kernel_rfl) (by kernel_rfl) (by kernel_rfl) (by kernel_rfl) (fun t => by kernel_rfl) (fun x => by kernel_rfl)
theorem s_clock_Of : FSound (cfgX z) ⟨⟨26, [.agg [.c (.int .i64), .c (.int .i64)]], [.c (.cx .f64)]⟩, clock_Of⟩ :=
  w_sound (W := ⟨real, Tryd.prog, fun g => g == 31, dsOf (cfgX z), [⟨⟨48, [.c (.int .i64)], [.c (.flt .f64)]⟩, clock_clamp⟩]⟩) (H := ⟨[], [], 10, []⟩) (a := [.agg [.c (.int .i64), .c (.int .i64)]]) (rs := [.c (.cx .f64)]) ⟨rfl, rfl, rfl, rfl, (consT s_clock_clamp nilT)⟩ clock_Of 80 Tryd.func26 rfl (by kernel_rfl) (by kernel_rfl) (by kernel_rfl) (by kernel_rfl) (by kernel_rfl) (by kernel_rfl) (fun t => by kernel_rfl) (fun x => by kernel_rfl)
theorem s_clock_count : FSound (cfgX z) ⟨⟨56, [.c (.flt .f64)], [.c (.int .i64)]⟩, clock_count⟩ :=
  w_sound (W := ⟨real, Tryd.prog, fun g => g == 31, dsOf (cfgX z), []⟩) (H := ⟨[], [], 11, []⟩) (a := [.c (.flt .f64)]) (rs := [.c (.int .i64)]) ⟨rfl, rfl, rfl, rfl, nilT⟩ clock_count 80 Tryd.func56 rfl (by kernel_rfl) (by kernel_rfl) (by kernel_rfl) (by kernel_rfl) (by kernel_rfl) (by kernel_rfl) (fun t => by kernel_rfl) (fun x => by kernel_rfl)
theorem s_clock_Pair : FSound (cfgX z) ⟨⟨32, [.c (.cx .f64)], [.agg [.c (.int .i64), .c (.int .i64)]]⟩, clock_Pair⟩ :=
  w_sound (W := ⟨real, Tryd.prog, fun g => g == 31, dsOf (cfgX z), [⟨⟨56, [.c (.flt .f64)], [.c (.int .i64)]⟩, clock_count⟩]⟩) (H := ⟨[], [], 10, []⟩) (a := [.c (.cx .f64)]) (rs := [.agg [.c (.int .i64), .c (.int .i64)]]) ⟨rfl, rfl, rfl, rfl, (consT s_clock_count nilT)⟩ clock_Pair 80 Tryd.func32 rfl (by kernel_rfl) (by kernel_rfl) (by kernel_rfl) (by kernel_rfl) (by kernel_rfl) (by kernel_rfl) (fun t => by kernel_rfl) (fun x => by kernel_rfl)
theorem s_clock_whole : FSound (cfgX z) ⟨⟨53, [.c (.cx .f64)], [.c (.cx .f64)]⟩, clock_whole⟩ :=
  w_sound (W := ⟨real, Tryd.prog, fun g => g == 31, dsOf (cfgX z), [⟨⟨32, [.c (.cx .f64)], [.agg [.c (.int .i64), .c (.int .i64)]]⟩, clock_Pair⟩, ⟨⟨26, [.agg [.c (.int .i64), .c (.int .i64)]], [.c (.cx .f64)]⟩, clock_Of⟩]⟩) (H := ⟨[], [], 6, []⟩) (a := [.c (.cx .f64)]) (rs := [.c (.cx .f64)]) ⟨rfl, rfl, rfl, rfl, (consT s_clock_Pair (consT s_clock_Of nilT))⟩ clock_whole 80 Tryd.func53 rfl (by kernel_rfl) (by kernel_rfl) (by kernel_rfl) (by kernel_rfl) (by kernel_rfl) (by kernel_rfl) (fun t => by kernel_rfl) (fun x => by kernel_rfl)
theorem s_clock_Tick : FSound (cfgX z) ⟨⟨33, [.c (.cx .f64), .c (.int .i64)], [.c (.cx .f64)]⟩, clock_Tick⟩ :=
  w_sound (W := ⟨real, Tryd.prog, fun g => g == 31, dsOf (cfgX z), [⟨⟨53, [.c (.cx .f64)], [.c (.cx .f64)]⟩, clock_whole⟩]⟩) (H := ⟨[], [], 16, []⟩) (a := [.c (.cx .f64), .c (.int .i64)]) (rs := [.c (.cx .f64)]) ⟨rfl, rfl, rfl, rfl, (consT s_clock_whole nilT)⟩ clock_Tick 80 Tryd.func33 rfl (by kernel_rfl) (by kernel_rfl) (by kernel_rfl) (by kernel_rfl) (by kernel_rfl) (by kernel_rfl) (fun t => by kernel_rfl) (fun x => by kernel_rfl)
theorem s_slices_Equal_Entry : FSound (cfgX z) ⟨⟨47, [.c (.sl (.cons .str (.cons .bool (.cons .str (.cons (.int .i64) (.one (.int .i64))))))), .c (.sl (.cons .str (.cons .bool (.cons .str (.cons (.int .i64) (.one (.int .i64)))))))], [.c .bool]⟩, slices_Equal_Entry⟩ :=
  w_sound (W := ⟨real, Tryd.prog, fun g => g == 31, dsOf (cfgX z), []⟩) (H := ⟨[(4, [.val 13 (.c (.int .i64))], [0, 1, 12])], [], 26, []⟩) (a := [.c (.sl (.cons .str (.cons .bool (.cons .str (.cons (.int .i64) (.one (.int .i64))))))), .c (.sl (.cons .str (.cons .bool (.cons .str (.cons (.int .i64) (.one (.int .i64)))))))]) (rs := [.c .bool]) ⟨rfl, rfl, rfl, rfl, nilT⟩ slices_Equal_Entry 80 Tryd.func47 rfl (by kernel_rfl) (by kernel_rfl) (by kernel_rfl) (by kernel_rfl) (by kernel_rfl) (by kernel_rfl) (fun t => by kernel_rfl) (fun x => by kernel_rfl)
theorem s_scan_Same : FSound (cfgX z) ⟨⟨24, [.c (.sl (.cons .str (.cons .bool (.cons .str (.cons (.int .i64) (.one (.int .i64))))))), .c (.sl (.cons .str (.cons .bool (.cons .str (.cons (.int .i64) (.one (.int .i64)))))))], [.c .bool]⟩, scan_Same⟩ :=
  w_sound (W := ⟨real, Tryd.prog, fun g => g == 31, dsOf (cfgX z), [⟨⟨47, [.c (.sl (.cons .str (.cons .bool (.cons .str (.cons (.int .i64) (.one (.int .i64))))))), .c (.sl (.cons .str (.cons .bool (.cons .str (.cons (.int .i64) (.one (.int .i64)))))))], [.c .bool]⟩, slices_Equal_Entry⟩]⟩) (H := ⟨[], [], 8, []⟩) (a := [.c (.sl (.cons .str (.cons .bool (.cons .str (.cons (.int .i64) (.one (.int .i64))))))), .c (.sl (.cons .str (.cons .bool (.cons .str (.cons (.int .i64) (.one (.int .i64)))))))]) (rs := [.c .bool]) ⟨rfl, rfl, rfl, rfl, (consT s_slices_Equal_Entry nilT)⟩ scan_Same 80 Tryd.func24 rfl (by kernel_rfl) (by kernel_rfl) (by kernel_rfl) (by kernel_rfl) (by kernel_rfl) (by kernel_rfl) (fun t => by kernel_rfl) (fun x => by kernel_rfl)
theorem s_scan_find_1 : FSound (cfgX z) ⟨⟨65, [.agg [.c .str, .c .bool, .c .str, .c (.int .i64), .c (.int .i64)], .ref [.c .str] 0], [.c .bool]⟩, scan_find_1⟩ :=
  w_sound (W := ⟨real, Tryd.prog, fun g => g == 31, dsOf (cfgX z), []⟩) (H := ⟨[], [], 8, []⟩) (a := [.agg [.c .str, .c .bool, .c .str, .c (.int .i64), .c (.int .i64)], .ref [.c .str] 0]) (rs := [.c .bool]) ⟨rfl, rfl, rfl, rfl, nilT⟩ scan_find_1 80 Tryd.func65 rfl (by kernel_rfl) (by kernel_rfl) (by kernel_rfl) (by kernel_rfl) (by kernel_rfl) (by kernel_rfl) (fun t => by kernel_rfl) (fun x => by kernel_rfl)
theorem s_slices_IndexFunc_Entry_scan_find_1 : FSound (cfgX z) ⟨⟨64, [.c (.sl (.cons .str (.cons .bool (.cons .str (.cons (.int .i64) (.one (.int .i64))))))), .fn 65 [] [.ref [.c .str] 0]], [.c (.int .i64)]⟩, slices_IndexFunc_Entry_scan_find_1⟩ :=
  w_sound (W := ⟨real, Tryd.prog, fun g => g == 31, dsOf (cfgX z), [⟨⟨65, [.agg [.c .str, .c .bool, .c .str, .c (.int .i64), .c (.int .i64)], .ref [.c .str] 0], [.c .bool]⟩, scan_find_1⟩]⟩) (H := ⟨[(2, [.val 8 (.c (.int .i64))], [0, 1, 7])], [], 19, []⟩) (a := [.c (.sl (.cons .str (.cons .bool (.cons .str (.cons (.int .i64) (.one (.int .i64))))))), .fn 65 [] [.ref [.c .str] 0]]) (rs := [.c (.int .i64)]) ⟨rfl, rfl, rfl, rfl, (consT s_scan_find_1 nilT)⟩ slices_IndexFunc_Entry_scan_find_1 80 Tryd.func64 rfl (by kernel_rfl) (by kernel_rfl) (by kernel_rfl) (by kernel_rfl) (by kernel_rfl) (by kernel_rfl) (fun t => by kernel_rfl) (fun x => by kernel_rfl)
theorem s_scan_find : FSound (cfgX z) ⟨⟨46, [.c (.sl (.cons .str (.cons .bool (.cons .str (.cons (.int .i64) (.one (.int .i64))))))), .c .str], [.c (.int .i64)]⟩, scan_find⟩ :=
  w_sound (W := ⟨real, Tryd.prog, fun g => g == 31, dsOf (cfgX z), [⟨⟨64, [.c (.sl (.cons .str (.cons .bool (.cons .str (.cons (.int .i64) (.one (.int .i64))))))), .fn 65 [] [.ref [.c .str] 0]], [.c (.int .i64)]⟩, slices_IndexFunc_Entry_scan_find_1⟩]⟩) (H := ⟨[], [], 8, []⟩) (a := [.c (.sl (.cons .str (.cons .bool (.cons .str (.cons (.int .i64) (.one (.int .i64))))))), .c .str]) (rs := [.c (.int .i64)]) ⟨rfl, rfl, rfl, rfl, (consT s_slices_IndexFunc_Entry_scan_find_1 nilT)⟩ scan_find 80 Tryd.func46 rfl (by kernel_rfl) (by kernel_rfl) (by kernel_rfl) (by kernel_rfl) (by kernel_rfl) (by kernel_rfl) (fun t => by kernel_rfl) (fun x => by kernel_rfl)
theorem s_scan_Find : FSound (cfgX z) ⟨⟨19, [.c (.sl (.cons .str (.cons .bool (.cons .str (.cons (.int .i64) (.one (.int .i64))))))), .c .str], [.c (.int .i64)]⟩, scan_Find⟩ :=
  w_sound (W := ⟨real, Tryd.prog, fun g => g == 31, dsOf (cfgX z), [⟨⟨17, [.c (.sl (.cons .str (.cons .bool (.cons .str (.cons (.int .i64) (.one (.int .i64)))))))], [.c .bool]⟩, scan_Right⟩, ⟨⟨46, [.c (.sl (.cons .str (.cons .bool (.cons .str (.cons (.int .i64) (.one (.int .i64))))))), .c .str], [.c (.int .i64)]⟩, scan_find⟩]⟩) (H := ⟨[], [], 11, []⟩) (a := [.c (.sl (.cons .str (.cons .bool (.cons .str (.cons (.int .i64) (.one (.int .i64))))))), .c .str]) (rs := [.c (.int .i64)]) ⟨rfl, rfl, rfl, rfl, (consT s_scan_Right (consT s_scan_find nilT))⟩ scan_Find 80 Tryd.func19 rfl (by kernel_rfl) (by kernel_rfl) (by kernel_rfl) (by kernel_rfl) (by kernel_rfl) (by kernel_rfl) (fun t => by kernel_rfl) (fun x => by kernel_rfl)
theorem s_scan_Tree : FSound (cfgX z) ⟨⟨22, [.c (.sl (.cons .str (.cons .bool (.cons .str (.cons (.int .i64) (.one (.int .i64)))))))], [.fr (.cons .str (.one .str))]⟩, scan_Tree⟩ :=
  w_sound (W := ⟨real, Tryd.prog, fun g => g == 31, dsOf (cfgX z), [⟨⟨17, [.c (.sl (.cons .str (.cons .bool (.cons .str (.cons (.int .i64) (.one (.int .i64)))))))], [.c .bool]⟩, scan_Right⟩, ⟨⟨42, [.c (.sl (.cons .str (.cons .bool (.cons .str (.cons (.int .i64) (.one (.int .i64)))))))], [.fr (.cons .str (.one .str))]⟩, scan_files⟩]⟩) (H := ⟨[], [], 8, []⟩) (a := [.c (.sl (.cons .str (.cons .bool (.cons .str (.cons (.int .i64) (.one (.int .i64)))))))]) (rs := [.fr (.cons .str (.one .str))]) ⟨rfl, rfl, rfl, rfl, (consT s_scan_Right (consT s_scan_files nilT))⟩ scan_Tree 80 Tryd.func22 rfl (by kernel_rfl) (by kernel_rfl) (by kernel_rfl) (by kernel_rfl) (by kernel_rfl) (by kernel_rfl) (fun t => by kernel_rfl) (fun x => by kernel_rfl)
theorem s_scan_Copy : FSound (cfgX z) ⟨⟨14, [.c (.sl (.cons .str (.cons .bool (.cons .str (.cons (.int .i64) (.one (.int .i64)))))))], [.fr (.cons .str (.cons .bool (.cons .str (.cons (.int .i64) (.one (.int .i64))))))]⟩, scan_Copy⟩ :=
  w_sound (W := ⟨real, Tryd.prog, fun g => g == 31, dsOf (cfgX z), [⟨⟨39, [.c (.sl (.cons .str (.cons .bool (.cons .str (.cons (.int .i64) (.one (.int .i64)))))))], [.fr (.cons .str (.cons .bool (.cons .str (.cons (.int .i64) (.one (.int .i64))))))]⟩, slices_Clone_Entry⟩]⟩) (H := ⟨[], [], 5, []⟩) (a := [.c (.sl (.cons .str (.cons .bool (.cons .str (.cons (.int .i64) (.one (.int .i64)))))))]) (rs := [.fr (.cons .str (.cons .bool (.cons .str (.cons (.int .i64) (.one (.int .i64))))))]) ⟨rfl, rfl, rfl, rfl, (consT s_slices_Clone_Entry nilT)⟩ scan_Copy 80 Tryd.func14 rfl (by kernel_rfl) (by kernel_rfl) (by kernel_rfl) (by kernel_rfl) (by kernel_rfl) (by kernel_rfl) (fun t => by kernel_rfl) (fun x => by kernel_rfl)
theorem s_law09_Few : FSound (cfgX z) ⟨⟨10, [.c (.sl (.cons .str (.cons .bool (.cons .str (.cons (.int .i64) (.one (.int .i64)))))))], [.c .bool]⟩, law09_Few⟩ :=
  w_sound (W := ⟨real, Tryd.prog, fun g => g == 31, dsOf (cfgX z), []⟩) (H := ⟨[(4, [.val 3 (.c (.int .i64))], [0])], [], 29, []⟩) (a := [.c (.sl (.cons .str (.cons .bool (.cons .str (.cons (.int .i64) (.one (.int .i64)))))))]) (rs := [.c .bool]) ⟨rfl, rfl, rfl, rfl, nilT⟩ law09_Few 80 Tryd.func10 rfl (by kernel_rfl) (by kernel_rfl) (by kernel_rfl) (by kernel_rfl) (by kernel_rfl) (by kernel_rfl) (fun t => by kernel_rfl) (fun x => by kernel_rfl)
theorem s_law04_Few : FSound (cfgX z) ⟨⟨11, [.c (.sl (.cons .str (.one .str)))], [.c .bool]⟩, law04_Few⟩ :=
  w_sound (W := ⟨real, Tryd.prog, fun g => g == 31, dsOf (cfgX z), []⟩) (H := ⟨[(4, [.val 3 (.c (.int .i64))], [0])], [], 29, []⟩) (a := [.c (.sl (.cons .str (.one .str)))]) (rs := [.c .bool]) ⟨rfl, rfl, rfl, rfl, nilT⟩ law04_Few 80 Tryd.func11 rfl (by kernel_rfl) (by kernel_rfl) (by kernel_rfl) (by kernel_rfl) (by kernel_rfl) (by kernel_rfl) (fun t => by kernel_rfl) (fun x => by kernel_rfl)
theorem s_clock_Mine : FSound (cfgX z) ⟨⟨25, [.c (.cx .f64), .c (.int .i64)], [.c (.int .i64)]⟩, clock_Mine⟩ :=
  w_sound (W := ⟨real, Tryd.prog, fun g => g == 31, dsOf (cfgX z), [⟨⟨32, [.c (.cx .f64)], [.agg [.c (.int .i64), .c (.int .i64)]]⟩, clock_Pair⟩]⟩) (H := ⟨[], [], 15, []⟩) (a := [.c (.cx .f64), .c (.int .i64)]) (rs := [.c (.int .i64)]) ⟨rfl, rfl, rfl, rfl, (consT s_clock_Pair nilT)⟩ clock_Mine 80 Tryd.func25 rfl (by kernel_rfl) (by kernel_rfl) (by kernel_rfl) (by kernel_rfl) (by kernel_rfl) (by kernel_rfl) (fun t => by kernel_rfl) (fun x => by kernel_rfl)
theorem s_ref01_Rows : FSound (cfgX z) ⟨⟨16, [.c (.sl (.one .str)), .c (.sl (.one .str))], [.c .bool]⟩, ref01_Rows⟩ :=
  w_sound (W := ⟨real, Tryd.prog, fun g => g == 31, dsOf (cfgX z), []⟩) (H := ⟨[(4, [.val 5 (.c (.int .i64))], [0, 1])], [], 26, []⟩) (a := [.c (.sl (.one .str)), .c (.sl (.one .str))]) (rs := [.c .bool]) ⟨rfl, rfl, rfl, rfl, nilT⟩ ref01_Rows 80 Tryd.func16 rfl (by kernel_rfl) (by kernel_rfl) (by kernel_rfl) (by kernel_rfl) (by kernel_rfl) (by kernel_rfl) (fun t => by kernel_rfl) (fun x => by kernel_rfl)
theorem s_slices_Equal_File : FSound (cfgX z) ⟨⟨52, [.c (.sl (.cons .str (.one .str))), .c (.sl (.cons .str (.one .str)))], [.c .bool]⟩, slices_Equal_File⟩ :=
  w_sound (W := ⟨real, Tryd.prog, fun g => g == 31, dsOf (cfgX z), []⟩) (H := ⟨[(4, [.val 13 (.c (.int .i64))], [0, 1, 12])], [], 26, []⟩) (a := [.c (.sl (.cons .str (.one .str))), .c (.sl (.cons .str (.one .str)))]) (rs := [.c .bool]) ⟨rfl, rfl, rfl, rfl, nilT⟩ slices_Equal_File 80 Tryd.func52 rfl (by kernel_rfl) (by kernel_rfl) (by kernel_rfl) (by kernel_rfl) (by kernel_rfl) (by kernel_rfl) (fun t => by kernel_rfl) (fun x => by kernel_rfl)
theorem s_tree_Same : FSound (cfgX z) ⟨⟨28, [.c (.sl (.cons .str (.one .str))), .c (.sl (.cons .str (.one .str)))], [.c .bool]⟩, tree_Same⟩ :=
  w_sound (W := ⟨real, Tryd.prog, fun g => g == 31, dsOf (cfgX z), [⟨⟨52, [.c (.sl (.cons .str (.one .str))), .c (.sl (.cons .str (.one .str)))], [.c .bool]⟩, slices_Equal_File⟩]⟩) (H := ⟨[], [], 8, []⟩) (a := [.c (.sl (.cons .str (.one .str))), .c (.sl (.cons .str (.one .str)))]) (rs := [.c .bool]) ⟨rfl, rfl, rfl, rfl, (consT s_slices_Equal_File nilT)⟩ tree_Same 80 Tryd.func28 rfl (by kernel_rfl) (by kernel_rfl) (by kernel_rfl) (by kernel_rfl) (by kernel_rfl) (by kernel_rfl) (fun t => by kernel_rfl) (fun x => by kernel_rfl)
theorem s_path_Sorted : FSound (cfgX z) ⟨⟨29, [.c (.sl (.one .str))], [.c .bool]⟩, path_Sorted⟩ :=
  w_sound (W := ⟨real, Tryd.prog, fun g => g == 31, dsOf (cfgX z), [⟨⟨40, [.c .str], [.c .bool]⟩, path_Right⟩]⟩) (H := ⟨[(2, [.val 7 (.c (.int .i64))], [0, 5, 6])], [], 29, []⟩) (a := [.c (.sl (.one .str))]) (rs := [.c .bool]) ⟨rfl, rfl, rfl, rfl, (consT s_path_Right nilT)⟩ path_Sorted 80 Tryd.func29 rfl (by kernel_rfl) (by kernel_rfl) (by kernel_rfl) (by kernel_rfl) (by kernel_rfl) (by kernel_rfl) (fun t => by kernel_rfl) (fun x => by kernel_rfl)
theorem s_clock_Join : FSound (cfgX z) ⟨⟨54, [.c (.cx .f64), .c (.cx .f64)], [.c (.cx .f64)]⟩, clock_Join⟩ :=
  w_sound (W := ⟨real, Tryd.prog, fun g => g == 31, dsOf (cfgX z), [⟨⟨53, [.c (.cx .f64)], [.c (.cx .f64)]⟩, clock_whole⟩]⟩) (H := ⟨[], [], 20, []⟩) (a := [.c (.cx .f64), .c (.cx .f64)]) (rs := [.c (.cx .f64)]) ⟨rfl, rfl, rfl, rfl, (consT s_clock_whole nilT)⟩ clock_Join 80 Tryd.func54 rfl (by kernel_rfl) (by kernel_rfl) (by kernel_rfl) (by kernel_rfl) (by kernel_rfl) (by kernel_rfl) (fun t => by kernel_rfl) (fun x => by kernel_rfl)
theorem s_clock_Order : FSound (cfgX z) ⟨⟨30, [.c (.cx .f64), .c (.cx .f64)], [.c (.int .i64)]⟩, clock_Order⟩ :=
  w_sound (W := ⟨real, Tryd.prog, fun g => g == 31, dsOf (cfgX z), [⟨⟨53, [.c (.cx .f64)], [.c (.cx .f64)]⟩, clock_whole⟩, ⟨⟨54, [.c (.cx .f64), .c (.cx .f64)], [.c (.cx .f64)]⟩, clock_Join⟩]⟩) (H := ⟨[], [], 21, []⟩) (a := [.c (.cx .f64), .c (.cx .f64)]) (rs := [.c (.int .i64)]) ⟨rfl, rfl, rfl, rfl, (consT s_clock_whole (consT s_clock_Join nilT))⟩ clock_Order 80 Tryd.func30 rfl (by kernel_rfl) (by kernel_rfl) (by kernel_rfl) (by kernel_rfl) (by kernel_rfl) (by kernel_rfl) (fun t => by kernel_rfl) (fun x => by kernel_rfl)
end Go.Proofs.W.Q9
namespace Go.Proofs.W.Q9
open Go Go.Proofs Go.Proofs.V Go.Proofs.V.R9
set_option linter.unusedVariables false
set_option linter.unusedSimpArgs false
set_option maxRecDepth 100000
noncomputable def bodyOf (f : Go.Func) : Go.Code := f.body.getD .skip
noncomputable def ig9 : IG := match bodyOf Tryd.f55 with
  | .block i0 (.loop (.seq A (.block i1 (.seq B (.seq C (.seq (.region id ops _) (.cond (.tmp dn) _ _))))))) => match ops.toList with
    | [om, p1, p2, oy, on] => ⟨55, i0, i1, id, 92, dn, 89, 90, 91, A, B, C, ops, om, [p1, p2], oy, on⟩
    | _ => ⟨0, 0, 0, 0, 0, 0, 0, 0, 0, .skip, .skip, .skip, #[], default, [], default, default⟩
  | _ => ⟨0, 0, 0, 0, 0, 0, 0, 0, 0, .skip, .skip, .skip, #[], default, [], default, default⟩
noncomputable def rf9 : RF := match bodyOf Tryd.f12 with
  | .seq r0 (.seq c1 (.seq r3 (.seq r4 (.seq (.seq r5 (.block b0 (.rangeFunc (.tmp tg) _ assign body))) (.seq c15 (.seq r17 _)))))) => ⟨12, [r0, c1, r3, r4], r5, b0, tg, 55, 24, 25, assign, body, [c15, r17]⟩
  | _ => ⟨0, [], .skip, 0, 0, 0, 0, 0, .skip, .skip, []⟩
def h9 : List HE := [.box 5 [.c (.int .i64)], .box 6 [.c (.sl (.cons .str (.cons .bool (.cons .str (.cons (.int .i64) (.one (.int .i64)))))))], .box 7 [.c (.sl (.one .str))], .box 8 [.c (.int .i64)], .box 9 [.fr (.cons .str (.cons .bool (.cons .str (.cons (.int .i64) (.one (.int .i64))))))], .box 10 [.fr (.one .str)]]
def rg9 : RG := ⟨0, 1, 21, 22, h9⟩
noncomputable abbrev c0 : Cfg := cfgX none
theorem ext0 : ∀ g s xs r, c0.ext g = some s → s xs = some r → CSound c0.P g xs [] r [] := ext_ok (fun s xs r h => by cases h)
/-- The iterator. -/
theorem both_ok {cs0 cs1 : List AV} {xs : List (AV × AV)} (h : itIter (τ := tau9) both_step cs0 cs1 = some xs) : IterOk Tryd.prog 55 cs0 cs1 xs :=
  iter_typed (W := ⟨real, Tryd.prog, fun g => g == 31, dsOf c0, []⟩) (cfg := c0) (H := ⟨[], [], 94, []⟩) ⟨rfl, rfl, rfl, rfl, nilT⟩ mixed ext0 (fn := Tryd.f55) (g := ig9) (τ := tau9) (ty := 4) (tys := #[37, 37]) both_step 80 Tryd.func55 (by kernel_rfl) (by kernel_rfl) (by kernel_rfl) (fun t => by kernel_rfl) (by kernel_rfl) (by kernel_rfl) (by kernel_rfl) (by kernel_rfl) (by kernel_rfl) (by kernel_rfl) (by kernel_rfl)
    rfl rfl rfl rfl (fun l0 l1 => by kernel_rfl) h
/-- The call that makes the closure. -/
def R5G (F : St) (rows0 rows1 : List (List AV)) (nl0 nl1 : Bool) : Prop := ∃ F5 o0' o1', evC c0 rf9.r5 F = some (.normal, F5) ∧ F5.n = F.n ∧ F5.m = F.m ∧ F5.al = F.al ∧ F.c ≤ F5.c ∧ F5.H = [[.slice rows0 nl0 o0'], [.slice rows1 nl1 o1']] ∧ F5.ev (.tmp 23) = .fn (.func 55) [] [.hp 0 0, .hp 1 0] ∧
    (∀ i, i ≠ 21 → i ≠ 22 → i ≠ 23 → F5.t i = F.t i) ∧ (∃ o, F5.t 21 = .slice rows0 nl0 o) ∧ (∃ o, F5.t 22 = .slice rows1 nl1 o)
theorem r5_key {F : St} {rows0 rows1 : List (List AV)} {nl0 nl1 : Bool} (o0' o1' p0 p1 : V.Own) (h : (evN c0 60).1 rf9.r5 F = some (.normal, ⟨F.n, upd (upd (upd F.t 21 (.slice rows0 nl0 p0)) 22 (.slice rows1 nl1 p1)) 23 (.fn (.func 55) [] [.hp 0 0, .hp 1 0]), F.c + 192, fun n => F.al n || false, [[.slice rows0 nl0 o0'], [.slice rows1 nl1 o1']], F.m⟩)) : R5G F rows0 rows1 nl0 nl1 :=
  ⟨_, o0', o1', evC_some.2 ⟨60, h⟩, rfl, rfl, funext fun n => Bool.or_false _, Nat.le_add_right _ _, rfl, rfl, fun i h1 h2 h3 => by simp only [upd_apply, h1, h2, h3, if_false], ⟨p0, rfl⟩, ⟨p1, rfl⟩⟩
theorem r5_run (rows0 rows1 : List (List AV)) (nl0 nl1 : Bool) (o0 o1 : V.Own) (t : Nat → AV) (c : Nat) (al : Nat → Bool) (m : TypeId → Bool) : R5G ⟨58, updL [(0, .slice rows0 nl0 o0), (1, .slice rows1 nl1 o1)] t, c, al, [], m⟩ rows0 rows1 nl0 nl1 := by
  cases o0 with
  | no => cases o1 with
    | no => exact r5_key .no .no .no .no (by kernel_rfl)
    | full => exact r5_key .no .full .no .full (by kernel_rfl)
    | fresh => exact r5_key .no .no .no .fresh (by kernel_rfl)
    | id k => exact r5_key .no .no .no (.id k) (by kernel_rfl)
  | full => cases o1 with
    | no => exact r5_key .full .no .full .no (by kernel_rfl)
    | full => exact r5_key .full .full .full .full (by kernel_rfl)
    | fresh => exact r5_key .full .no .full .fresh (by kernel_rfl)
    | id k => exact r5_key .full .no .full (.id k) (by kernel_rfl)
  | fresh => cases o1 with
    | no => exact r5_key .no .no .fresh .no (by kernel_rfl)
    | full => exact r5_key .no .full .fresh .full (by kernel_rfl)
    | fresh => exact r5_key .no .no .fresh .fresh (by kernel_rfl)
    | id k => exact r5_key .no .no .fresh (.id k) (by kernel_rfl)
  | id j => cases o1 with
    | no => exact r5_key .no .no (.id j) .no (by kernel_rfl)
    | full => exact r5_key .no .full (.id j) .full (by kernel_rfl)
    | fresh => exact r5_key .no .no (.id j) .fresh (by kernel_rfl)
    | id k => exact r5_key .no .no (.id j) (.id k) (by kernel_rfl)
theorem tg9 : rf9.tg = 23 := by kernel_rfl
theorem gf9 : rf9.gf = 55 := by kernel_rfl
theorem f9 : rf9.f = 12 := by kernel_rfl
theorem updL2 (t : Nat → AV) {A B : AV} (h0 : t 0 = A) (h1 : t 1 = B) : updL [(0, A), (1, B)] t = t := by
  funext i
  simp only [updL]
  by_cases e0 : i = 0
  · subst e0; simp [upd_apply, h0]
  · by_cases e1 : i = 1
    · subst e1; simp [upd_apply, h1]
    · simp [upd_apply, e0, e1]
theorem r5_ok : R5Ok c0 58 rf9 rg9 := ⟨fun F rows0 rows1 nl0 nl1 o0 o1 hn hH ha hb => by
  obtain ⟨n, t, c, al, H, m⟩ := F
  have hn : n = 58 := hn
  have hH : H = [] := hH
  subst hn hH
  have e := updL2 t (show t 0 = _ from ha) (show t 1 = _ from hb)
  have := r5_run rows0 rows1 nl0 nl1 o0 o1 t c al m
  rw [e] at this
  rw [tg9, gf9]
  exact this⟩
noncomputable def scanExt : List AV → Option AV := rfRun c0 Tryd.f12 rf9 (itIter (τ := tau9) both_step)
noncomputable abbrev cfgS : Cfg := cfgX (some scanExt)
theorem scan_csound : ∀ s xs r, some scanExt = some s → s xs = some r → CSound Tryd.prog 12 xs [] r [] := by
  intro s xs r hs hr
  cases hs
  have h := rf_sound (cfg := c0) mixed ext0 (fn := Tryd.f12) (gfn := Tryd.f55) (R := rf9) (iter := itIter (τ := tau9) both_step) (by rw [f9]; exact Tryd.func12) (by kernel_rfl) (by kernel_rfl) (by rw [gf9]; exact Tryd.func55) (by kernel_rfl) (by kernel_rfl) (by kernel_rfl) (fun cs0 cs1 xs h => by rw [gf9]; exact both_ok h) hr
  rw [f9] at h
  exact h
theorem extS : ∀ g s xs r, cfgS.ext g = some s → s xs = some r → CSound cfgS.P g xs [] r [] := ext_ok scan_csound
theorem it_hit : ∀ (l0 : List (Tr tau9.q0)) (l1 : List (Tr tau9.q1)) xs rows0 rows1 nl0 nl1 o0 o1, itRun (τ := tau9) both_step l0 l1 = some xs → (All2 (rowR tau9.q0) l0 rows0 ∧ (nl0 = true → rows0 = [])) → (All2 (rowR tau9.q1) l1 rows1 ∧ (nl1 = true → rows1 = [])) → itIter (τ := tau9) both_step [.slice rows0 nl0 o0] [.slice rows1 nl1 o1] = some (xs.map (enc2 tau9.r1 tau9.r2)) := by
  intro l0 l1 xs rows0 rows1 nl0 nl1 o0 o1 h h0 h1
  have hc : ((!nl0 || rows0.isEmpty) && (!nl1 || rows1.isEmpty)) = true := by
    simp only [Bool.and_eq_true, Bool.or_eq_true, Bool.not_eq_true', List.isEmpty_iff]
    refine ⟨?_, ?_⟩
    · cases nl0 with
      | false => exact .inl rfl
      | true => exact .inr (h0.2 rfl)
    · cases nl1 with
      | false => exact .inl rfl
      | true => exact .inr (h1.2 rfl)
  simp only [itIter, hc, if_true, decL_of tau9.q0 rfl l0 rows0 h0.1, decL_of tau9.q1 rfl l1 rows1 h1.1, h, Option.map_some]
theorem s_scan_Scan : FSound cfgS ⟨⟨12, [.c (.sl (.cons .str (.cons .bool (.cons .str (.cons (.int .i64) (.one (.int .i64))))))), .c (.sl (.cons .str (.one .str))), .c (.int .i64)], [.c (.sl (.cons .str (.cons .bool (.cons .str (.cons (.int .i64) (.one (.int .i64))))))), .c (.sl (.one .str)), .c (.int .i64)]⟩, scan_Scan⟩ := by
  have h := rf_fsound (W := ⟨real, Tryd.prog, fun g => g == 31, dsOf c0, [⟨⟨17, [.c (.sl (.cons .str (.cons .bool (.cons .str (.cons (.int .i64) (.one (.int .i64)))))))], [.c .bool]⟩, scan_Right⟩, ⟨⟨27, [.c (.sl (.cons .str (.one .str)))], [.c .bool]⟩, tree_Right⟩, ⟨⟨26, [.agg [.c (.int .i64), .c (.int .i64)]], [.c (.cx .f64)]⟩, clock_Of⟩, ⟨⟨33, [.c (.cx .f64), .c (.int .i64)], [.c (.cx .f64)]⟩, clock_Tick⟩, ⟨⟨32, [.c (.cx .f64)], [.agg [.c (.int .i64), .c (.int .i64)]]⟩, clock_Pair⟩]⟩) (cfg0 := c0) (cfg := cfgS) (H := ⟨[], [], 58, []⟩)
    ⟨rfl, rfl, rfl, rfl, consT s_scan_Right (consT s_tree_Right (consT s_clock_Of (consT s_clock_Tick (consT s_clock_Pair nilT))))⟩ (fn := Tryd.f12) (R := rf9) (g := rg9) (τ := tau9) (IT := itRun (τ := tau9) both_step) (iter := itIter (τ := tau9) both_step)
    (a := [.c (.sl (.cons .str (.cons .bool (.cons .str (.cons (.int .i64) (.one (.int .i64))))))), .c (.sl (.cons .str (.one .str))), .c (.int .i64)]) (rs := [.c (.sl (.cons .str (.cons .bool (.cons .str (.cons (.int .i64) (.one (.int .i64))))))), .c (.sl (.one .str)), .c (.int .i64)])
    scan_Scan 80 (by rw [f9]; rfl) (by kernel_rfl) (by kernel_rfl) (fun t => by rw [f9]; rfl) (by kernel_rfl) rfl rfl r5_ok it_hit (fun x => by kernel_rfl)
  rw [f9] at h
  exact h
end Go.Proofs.W.Q9
namespace Go.Proofs.W.Q9
open Go Go.Proofs Go.Proofs.V Go.Proofs.V.R9
set_option linter.unusedVariables false
set_option linter.unusedSimpArgs false
set_option maxRecDepth 100000
theorem s_law09_small : FSound cfgS ⟨⟨9, [], [.c .bool]⟩, law09_small⟩ :=
  w_sound (W := ⟨real, Tryd.prog, fun g => g == 31, dsOf cfgS, [⟨⟨12, [.c (.sl (.cons .str (.cons .bool (.cons .str (.cons (.int .i64) (.one (.int .i64))))))), .c (.sl (.cons .str (.one .str))), .c (.int .i64)], [.c (.sl (.cons .str (.cons .bool (.cons .str (.cons (.int .i64) (.one (.int .i64))))))), .c (.sl (.one .str)), .c (.int .i64)]⟩, scan_Scan⟩, ⟨⟨24, [.c (.sl (.cons .str (.cons .bool (.cons .str (.cons (.int .i64) (.one (.int .i64))))))), .c (.sl (.cons .str (.cons .bool (.cons .str (.cons (.int .i64) (.one (.int .i64)))))))], [.c .bool]⟩, scan_Same⟩, ⟨⟨19, [.c (.sl (.cons .str (.cons .bool (.cons .str (.cons (.int .i64) (.one (.int .i64))))))), .c .str], [.c (.int .i64)]⟩, scan_Find⟩, ⟨⟨22, [.c (.sl (.cons .str (.cons .bool (.cons .str (.cons (.int .i64) (.one (.int .i64)))))))], [.fr (.cons .str (.one .str))]⟩, scan_Tree⟩, ⟨⟨17, [.c (.sl (.cons .str (.cons .bool (.cons .str (.cons (.int .i64) (.one (.int .i64)))))))], [.c .bool]⟩, scan_Right⟩, ⟨⟨14, [.c (.sl (.cons .str (.cons .bool (.cons .str (.cons (.int .i64) (.one (.int .i64)))))))], [.fr (.cons .str (.cons .bool (.cons .str (.cons (.int .i64) (.one (.int .i64))))))]⟩, scan_Copy⟩]⟩) (H := ⟨[], [], 114, []⟩) (a := []) (rs := [.c .bool]) ⟨rfl, rfl, rfl, rfl, (consT s_scan_Scan (consT s_scan_Same (consT s_scan_Find (consT s_scan_Tree (consT s_scan_Right (consT s_scan_Copy nilT))))))⟩ law09_small 80 Tryd.func9 rfl (by kernel_rfl) (by kernel_rfl) (by kernel_rfl) (by kernel_rfl) (by kernel_rfl) (by kernel_rfl) (fun t => by kernel_rfl) (fun x => by kernel_rfl)
theorem s_law09_ScanBack : FSound cfgS ⟨⟨4, [.c (.sl (.cons .str (.cons .bool (.cons .str (.cons (.int .i64) (.one (.int .i64))))))), .c (.int .i64)], [.c .bool]⟩, law09_ScanBack⟩ :=
  w_sound (W := ⟨real, Tryd.prog, fun g => g == 31, dsOf cfgS, [⟨⟨9, [], [.c .bool]⟩, law09_small⟩, ⟨⟨10, [.c (.sl (.cons .str (.cons .bool (.cons .str (.cons (.int .i64) (.one (.int .i64)))))))], [.c .bool]⟩, law09_Few⟩, ⟨⟨17, [.c (.sl (.cons .str (.cons .bool (.cons .str (.cons (.int .i64) (.one (.int .i64)))))))], [.c .bool]⟩, scan_Right⟩, ⟨⟨22, [.c (.sl (.cons .str (.cons .bool (.cons .str (.cons (.int .i64) (.one (.int .i64)))))))], [.fr (.cons .str (.one .str))]⟩, scan_Tree⟩, ⟨⟨12, [.c (.sl (.cons .str (.cons .bool (.cons .str (.cons (.int .i64) (.one (.int .i64))))))), .c (.sl (.cons .str (.one .str))), .c (.int .i64)], [.c (.sl (.cons .str (.cons .bool (.cons .str (.cons (.int .i64) (.one (.int .i64))))))), .c (.sl (.one .str)), .c (.int .i64)]⟩, scan_Scan⟩, ⟨⟨24, [.c (.sl (.cons .str (.cons .bool (.cons .str (.cons (.int .i64) (.one (.int .i64))))))), .c (.sl (.cons .str (.cons .bool (.cons .str (.cons (.int .i64) (.one (.int .i64)))))))], [.c .bool]⟩, scan_Same⟩]⟩) (H := ⟨[], [], 45, []⟩) (a := [.c (.sl (.cons .str (.cons .bool (.cons .str (.cons (.int .i64) (.one (.int .i64))))))), .c (.int .i64)]) (rs := [.c .bool]) ⟨rfl, rfl, rfl, rfl, (consT s_law09_small (consT s_law09_Few (consT s_scan_Right (consT s_scan_Tree (consT s_scan_Scan (consT s_scan_Same nilT))))))⟩ law09_ScanBack 80 Tryd.func4 rfl (by kernel_rfl) (by kernel_rfl) (by kernel_rfl) (by kernel_rfl) (by kernel_rfl) (by kernel_rfl) (fun t => by kernel_rfl) (fun x => by kernel_rfl)
theorem s_law09_ScanFull : FSound cfgS ⟨⟨5, [.c (.int .i64), .c (.int .i64)], [.c .bool]⟩, law09_ScanFull⟩ :=
  w_sound (W := ⟨real, Tryd.prog, fun g => g == 31, dsOf cfgS, [⟨⟨9, [], [.c .bool]⟩, law09_small⟩, ⟨⟨12, [.c (.sl (.cons .str (.cons .bool (.cons .str (.cons (.int .i64) (.one (.int .i64))))))), .c (.sl (.cons .str (.one .str))), .c (.int .i64)], [.c (.sl (.cons .str (.cons .bool (.cons .str (.cons (.int .i64) (.one (.int .i64))))))), .c (.sl (.one .str)), .c (.int .i64)]⟩, scan_Scan⟩, ⟨⟨17, [.c (.sl (.cons .str (.cons .bool (.cons .str (.cons (.int .i64) (.one (.int .i64)))))))], [.c .bool]⟩, scan_Right⟩]⟩) (H := ⟨[(6, [.val 6 (.fr (.cons .str (.cons .bool (.cons .str (.cons (.int .i64) (.one (.int .i64))))))), .val 7 (.c (.int .i64))], [0, 1, 5]), (11, [.val 6 (.fr (.cons .str (.cons .bool (.cons .str (.cons (.int .i64) (.one (.int .i64))))))), .val 8 (.fr (.cons .str (.one .str))), .val 9 (.c (.int .i64))], [0, 1, 5]), (16, [.val 6 (.fr (.cons .str (.cons .bool (.cons .str (.cons (.int .i64) (.one (.int .i64))))))), .val 8 (.fr (.cons .str (.one .str))), .val 10 (.fr (.cons .str (.cons .bool (.cons .str (.cons (.int .i64) (.one (.int .i64))))))), .val 11 (.c (.int .i64))], [0, 1, 5]), (19, [.val 6 (.fr (.cons .str (.cons .bool (.cons .str (.cons (.int .i64) (.one (.int .i64))))))), .val 8 (.fr (.cons .str (.one .str))), .val 10 (.fr (.cons .str (.cons .bool (.cons .str (.cons (.int .i64) (.one (.int .i64))))))), .val 12 (.c (.int .i64))], [0, 1, 5, 11])], [], 137, []⟩) (a := [.c (.int .i64), .c (.int .i64)]) (rs := [.c .bool]) ⟨rfl, rfl, rfl, rfl, (consT s_law09_small (consT s_scan_Scan (consT s_scan_Right nilT)))⟩ law09_ScanFull 80 Tryd.func5 rfl (by kernel_rfl) (by kernel_rfl) (by kernel_rfl) (by kernel_rfl) (by kernel_rfl) (by kernel_rfl) (fun t => by kernel_rfl) (fun x => by kernel_rfl)
theorem s_law09_ScanTwo : FSound cfgS ⟨⟨6, [.c (.sl (.cons .str (.cons .bool (.cons .str (.cons (.int .i64) (.one (.int .i64))))))), .c (.sl (.cons .str (.one .str))), .c (.int .i64)], [.c .bool]⟩, law09_ScanTwo⟩ :=
  w_sound (W := ⟨real, Tryd.prog, fun g => g == 31, dsOf cfgS, [⟨⟨9, [], [.c .bool]⟩, law09_small⟩, ⟨⟨10, [.c (.sl (.cons .str (.cons .bool (.cons .str (.cons (.int .i64) (.one (.int .i64)))))))], [.c .bool]⟩, law09_Few⟩, ⟨⟨11, [.c (.sl (.cons .str (.one .str)))], [.c .bool]⟩, law04_Few⟩, ⟨⟨12, [.c (.sl (.cons .str (.cons .bool (.cons .str (.cons (.int .i64) (.one (.int .i64))))))), .c (.sl (.cons .str (.one .str))), .c (.int .i64)], [.c (.sl (.cons .str (.cons .bool (.cons .str (.cons (.int .i64) (.one (.int .i64))))))), .c (.sl (.one .str)), .c (.int .i64)]⟩, scan_Scan⟩, ⟨⟨26, [.agg [.c (.int .i64), .c (.int .i64)]], [.c (.cx .f64)]⟩, clock_Of⟩, ⟨⟨25, [.c (.cx .f64), .c (.int .i64)], [.c (.int .i64)]⟩, clock_Mine⟩]⟩) (H := ⟨[(12, [.val 13 (.c (.int .i64)), .val 14 (.c (.int .i64)), .val 15 (.c (.int .i64))], [0, 2, 7, 10, 11]), (17, [.val 13 (.c (.int .i64)), .val 14 (.c (.int .i64)), .val 16 (.c (.int .i64))], [0, 2, 7, 11])], [], 105, []⟩) (a := [.c (.sl (.cons .str (.cons .bool (.cons .str (.cons (.int .i64) (.one (.int .i64))))))), .c (.sl (.cons .str (.one .str))), .c (.int .i64)]) (rs := [.c .bool]) ⟨rfl, rfl, rfl, rfl, (consT s_law09_small (consT s_law09_Few (consT s_law04_Few (consT s_scan_Scan (consT s_clock_Of (consT s_clock_Mine nilT))))))⟩ law09_ScanTwo 80 Tryd.func6 rfl (by kernel_rfl) (by kernel_rfl) (by kernel_rfl) (by kernel_rfl) (by kernel_rfl) (by kernel_rfl) (fun t => by kernel_rfl) (fun x => by kernel_rfl)
theorem s_law09_ScanGone : FSound cfgS ⟨⟨7, [.c (.sl (.cons .str (.one .str))), .c (.int .i64)], [.c .bool]⟩, law09_ScanGone⟩ :=
  w_sound (W := ⟨real, Tryd.prog, fun g => g == 31, dsOf cfgS, [⟨⟨9, [], [.c .bool]⟩, law09_small⟩, ⟨⟨11, [.c (.sl (.cons .str (.one .str)))], [.c .bool]⟩, law04_Few⟩, ⟨⟨27, [.c (.sl (.cons .str (.one .str)))], [.c .bool]⟩, tree_Right⟩, ⟨⟨12, [.c (.sl (.cons .str (.cons .bool (.cons .str (.cons (.int .i64) (.one (.int .i64))))))), .c (.sl (.cons .str (.one .str))), .c (.int .i64)], [.c (.sl (.cons .str (.cons .bool (.cons .str (.cons (.int .i64) (.one (.int .i64))))))), .c (.sl (.one .str)), .c (.int .i64)]⟩, scan_Scan⟩, ⟨⟨22, [.c (.sl (.cons .str (.cons .bool (.cons .str (.cons (.int .i64) (.one (.int .i64)))))))], [.fr (.cons .str (.one .str))]⟩, scan_Tree⟩, ⟨⟨26, [.agg [.c (.int .i64), .c (.int .i64)]], [.c (.cx .f64)]⟩, clock_Of⟩, ⟨⟨25, [.c (.cx .f64), .c (.int .i64)], [.c (.int .i64)]⟩, clock_Mine⟩, ⟨⟨16, [.c (.sl (.one .str)), .c (.sl (.one .str))], [.c .bool]⟩, ref01_Rows⟩, ⟨⟨28, [.c (.sl (.cons .str (.one .str))), .c (.sl (.cons .str (.one .str)))], [.c .bool]⟩, tree_Same⟩]⟩) (H := ⟨[(11, [.val 16 (.c (.int .i64))], [0, 1, 5, 7, 8, 10, 11, 13, 14])], [], 158, []⟩) (a := [.c (.sl (.cons .str (.one .str))), .c (.int .i64)]) (rs := [.c .bool]) ⟨rfl, rfl, rfl, rfl, (consT s_law09_small (consT s_law04_Few (consT s_tree_Right (consT s_scan_Scan (consT s_scan_Tree (consT s_clock_Of (consT s_clock_Mine (consT s_ref01_Rows (consT s_tree_Same nilT)))))))))⟩ law09_ScanGone 80 Tryd.func7 rfl (by kernel_rfl) (by kernel_rfl) (by kernel_rfl) (by kernel_rfl) (by kernel_rfl) (by kernel_rfl) (fun t => by kernel_rfl) (fun x => by kernel_rfl)
theorem s_law09_ScanKeeps : FSound cfgS ⟨⟨8, [.c (.sl (.cons .str (.cons .bool (.cons .str (.cons (.int .i64) (.one (.int .i64))))))), .c (.sl (.cons .str (.one .str))), .c (.int .i64), .c (.int .i64)], [.c .bool]⟩, law09_ScanKeeps⟩ :=
  w_sound (W := ⟨real, Tryd.prog, fun g => g == 31, dsOf cfgS, [⟨⟨9, [], [.c .bool]⟩, law09_small⟩, ⟨⟨10, [.c (.sl (.cons .str (.cons .bool (.cons .str (.cons (.int .i64) (.one (.int .i64)))))))], [.c .bool]⟩, law09_Few⟩, ⟨⟨11, [.c (.sl (.cons .str (.one .str)))], [.c .bool]⟩, law04_Few⟩, ⟨⟨12, [.c (.sl (.cons .str (.cons .bool (.cons .str (.cons (.int .i64) (.one (.int .i64))))))), .c (.sl (.cons .str (.one .str))), .c (.int .i64)], [.c (.sl (.cons .str (.cons .bool (.cons .str (.cons (.int .i64) (.one (.int .i64))))))), .c (.sl (.one .str)), .c (.int .i64)]⟩, scan_Scan⟩, ⟨⟨17, [.c (.sl (.cons .str (.cons .bool (.cons .str (.cons (.int .i64) (.one (.int .i64)))))))], [.c .bool]⟩, scan_Right⟩, ⟨⟨22, [.c (.sl (.cons .str (.cons .bool (.cons .str (.cons (.int .i64) (.one (.int .i64)))))))], [.fr (.cons .str (.one .str))]⟩, scan_Tree⟩, ⟨⟨28, [.c (.sl (.cons .str (.one .str))), .c (.sl (.cons .str (.one .str)))], [.c .bool]⟩, tree_Same⟩, ⟨⟨24, [.c (.sl (.cons .str (.cons .bool (.cons .str (.cons (.int .i64) (.one (.int .i64))))))), .c (.sl (.cons .str (.cons .bool (.cons .str (.cons (.int .i64) (.one (.int .i64)))))))], [.c .bool]⟩, scan_Same⟩, ⟨⟨29, [.c (.sl (.one .str))], [.c .bool]⟩, path_Sorted⟩, ⟨⟨19, [.c (.sl (.cons .str (.cons .bool (.cons .str (.cons (.int .i64) (.one (.int .i64))))))), .c .str], [.c (.int .i64)]⟩, scan_Find⟩, ⟨⟨26, [.agg [.c (.int .i64), .c (.int .i64)]], [.c (.cx .f64)]⟩, clock_Of⟩, ⟨⟨30, [.c (.cx .f64), .c (.cx .f64)], [.c (.int .i64)]⟩, clock_Order⟩]⟩) (H := ⟨[(13, [.val 18 (.c (.int .i64))], [0, 9, 12, 13]), (17, [.val 19 (.c .bool), .val 20 (.c (.int .i64))], [0, 9, 12, 13, 18])], [], 204, []⟩) (a := [.c (.sl (.cons .str (.cons .bool (.cons .str (.cons (.int .i64) (.one (.int .i64))))))), .c (.sl (.cons .str (.one .str))), .c (.int .i64), .c (.int .i64)]) (rs := [.c .bool]) ⟨rfl, rfl, rfl, rfl, (consT s_law09_small (consT s_law09_Few (consT s_law04_Few (consT s_scan_Scan (consT s_scan_Right (consT s_scan_Tree (consT s_tree_Same (consT s_scan_Same (consT s_path_Sorted (consT s_scan_Find (consT s_clock_Of (consT s_clock_Order nilT))))))))))))⟩ law09_ScanKeeps 80 Tryd.func8 rfl (by kernel_rfl) (by kernel_rfl) (by kernel_rfl) (by kernel_rfl) (by kernel_rfl) (by kernel_rfl) (fun t => by kernel_rfl) (fun x => by kernel_rfl)
end Go.Proofs.W.Q9

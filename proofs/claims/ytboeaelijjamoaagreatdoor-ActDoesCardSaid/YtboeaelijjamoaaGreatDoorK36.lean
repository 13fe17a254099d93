/- What the walks of chapter 11 are told by those whom they call; slices.Clone, slices.Delete of one file, walked. -/
import Derived.Test.YtboeaelijjamoaaGreatDoorK22
import Derived.Test.YtboeaelijjamoaaGreatDoorK35
import Derived.Test.YtboeaelijjamoaaGreatDoorK19
namespace Go.Proofs.V.R11
open Go Go.Proofs Go.RowKit Go.Lib Go.Proofs.V Go.Proofs.W Go.Proofs.W.C Go.Proofs.V.U11
set_option linter.unusedVariables false
set_option linter.unusedSimpArgs false
set_option maxRecDepth 100000
noncomputable abbrev c0 : Cfg := cfgZ (fun _ => none)
theorem ok0 : Ok c0 := ⟨mixed, ext_ok (fun g s xs r h => by cases h)⟩
abbrev reF : RT := .cons .str (.one .str)
theorem bool_of {w : World} {v : Value} {b : Bool} (h : CR .bool b w v) : v = .bool b := h
theorem right_calls {w : World} {v : Value} {t : List Fi} {r : Bool} (hs : SlR reF w v t) (hr : Q9.tree_Right t = some r) : Calls Tryz.prog 18 #[v] w fun e w' => e = .returned (.bool r) ∧ Below w.heap.size w w' :=
  (calls1 (vs := [v]) ok0 rfl (Q11.s_tree_Right (z := fun _ => none)) hr (args1 (c := .sl reF) rfl hs) Tryz.func18 rfl (by kernel_rfl)).mono fun e w' ⟨u, h1, h2, h3⟩ => ⟨by rw [h1, bool_of h3], h2⟩
theorem pathRight_calls {w : World} {p : List UInt8} {r : Bool} (hr : Q9.path_Right p = some r) : Calls Tryz.prog 35 #[.string ⟨⟨p⟩⟩] w fun e w' => e = .returned (.bool r) ∧ Below w.heap.size w w' :=
  (calls1 (vs := [.string ⟨⟨p⟩⟩]) ok0 rfl (Q11.s_path_Right (z := fun _ => none)) hr (args1 (c := .str) rfl rfl) Tryz.func35 rfl (by kernel_rfl)).mono fun e w' ⟨u, h1, h2, h3⟩ => ⟨by rw [h1, bool_of h3], h2⟩
theorem size_calls {w : World} {v : Value} {t : List Fi} {r : Int} (hs : SlR reF w v t) (hr : Q11.tree_Size t = some r) : Calls Tryz.prog 22 #[v] w fun e w' => e = .returned (.int .i64 r) ∧ Below w.heap.size w w' :=
  (calls1 (vs := [v]) ok0 rfl (Q11.s_tree_Size (z := fun _ => none)) hr (args1 (c := .sl reF) rfl hs) Tryz.func22 rfl (by kernel_rfl)).mono fun e w' ⟨u, h1, h2, h3⟩ => ⟨by rw [h1, show u = .int .i64 r from h3], h2⟩
theorem place_calls {w : World} {v : Value} {t : List Fi} {p : List UInt8} {r : Int × Bool} (hs : SlR reF w v t) (hr : Q10.tree_place (t, p) = some r) : Calls Tryz.prog 51 #[v, .string ⟨⟨p⟩⟩] w fun e w' => e = .returned (.tuple #[.int .i64 r.1, .bool r.2]) ∧ Below w.heap.size w w' :=
  (calls2 (vs := [v, .string ⟨⟨p⟩⟩]) ok0 rfl rfl (Q11.s_tree_place (z := fun _ => none)) hr (args2 (c1 := .sl reF) (c2 := .str) rfl rfl hs rfl) Tryz.func51 rfl (by kernel_rfl)).mono fun e w' ⟨u1, u2, h1, h2, h3, h4⟩ => ⟨by rw [h1, show u1 = .int .i64 r.1 from h3, show u2 = .bool r.2 from h4], h2⟩
/-- The closure that asks whether a path clashes: its captured path lies in a box. -/
theorem clash_calls {w : World} {v : Value} {t : List Fi} {p : List UInt8} {b : Nat} {r : Bool} (hs : SlR reF w v t) (hb : w.cell? ⟨b, 0, none⟩ = some (.string ⟨⟨p⟩⟩)) (hr : Q11.slices_ContainsFunc_File_tree_Put_1 (t, p) = some r) :
    Calls Tryz.prog 36 #[v, .func (.func 53) #[] #[.pointer (some ⟨b, 0, none⟩)]] w fun e w' => e = .returned (.bool r) ∧ Below w.heap.size w w' := by
  obtain ⟨a, h1, h2, h3⟩ := cr_arg (c := .sl reF) rfl hs
  refine (calls1 (vs := [v, .func (.func 53) #[] #[.pointer (some ⟨b, 0, none⟩)]]) ok0 rfl (Q11.s_slices_ContainsFunc_File_tree_Put_1 (z := fun _ => none)) hr ⟨[a, .fn (.func 53) [] [.ref [.at (.string ⟨⟨p⟩⟩)] 0]], ⟨[cellW (.sl reF) t, .fn 53 [] [.ref [.str false p] 0]], rfl, h1, ?_, trivial⟩, fun y hy => ?_, rfl, fun j y v hy hv => ?_⟩ Tryz.func36 rfl (by kernel_rfl)).mono fun e w' ⟨u, h1, h2, h3⟩ => ⟨by rw [h1, bool_of h3], h2⟩
  · refine .fn _ _ _ _ _ rfl rfl (fun j x a hx ha => by cases j <;> simp at hx) (fun j x a hx ha => ?_)
    match j with
    | 0 =>
      cases hx; cases ha
      refine .ref _ _ _ rfl fun j x a hx ha => ?_
      match j with
      | 0 => cases hx; cases ha; exact .str _ _
      | j + 1 => simp at hx
    | j + 1 => simp at hx
  · simp at hy
    rcases hy with rfl | rfl
    · exact h2
    · rintro n ⟨y, hy, rows', nl', rfl⟩
      simp [parts] at hy
  · match j with
    | 0 => cases hy; cases hv; exact h3
    | 1 =>
      cases hy; cases hv
      refine .fn _ _ _ [] [.pointer (some ⟨b, 0, none⟩)] rfl rfl (fun j x v hx hv => by simp at hx) (fun j x v hx hv => ?_)
      match j with
      | 0 =>
        cases hx; cases hv
        refine .ref [.at (.string ⟨⟨p⟩⟩)] 0 b 0 (fun _ => .string ⟨⟨p⟩⟩) (fun x hx => by simp at hx; subst hx; rfl) (fun j x hx => ?_) (fun j x hx => ?_)
        · match j with
          | 0 => exact hb
          | j + 1 => simp at hx
        · match j with
          | 0 => cases hx; exact .at _
          | j + 1 => simp at hx
      | j + 1 => simp at hx
    | j + 2 => simp at hy
end Go.Proofs.V.R11

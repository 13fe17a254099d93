/- For every state, number and string carpetbaglaw17.StateCut returns true, and its arguments read behind the call as before. Conditions: those of the given row. -/
import Derived.Test.YtdgihbbekacgcaaDoorCards
import Derived.Test.YtdgihbbekacgcaaDoorTie
import Derived.Test.YtdgihbbekacgcaaDoorT30
import Derived.WalkKit
import Derived.ProofKit
import Derived.OpenShut
import Derived.Carry
import Derived.Deep.DeepHandedRow
import Derived.ChangeMaps5
import Derived.Lib.LaidTab
namespace Go.Proofs.YtdgihbbekacgcaaDoor.fnStateCut
open Go.ChangeShapes Go.WideShapes Go.ChangeAt Go.RowKit
open Go Go.Proofs.V
set_option linter.unusedVariables false
set_option linter.unusedSimpArgs false

theorem own : ownKnob Tryd.prog.godebug = Option.none := by kernel_rfl
theorem mixed : cfg17.P.follows .mixedOrders = true := by kernel_rfl
theorem exts : ∀ g s xs r, cfg17.ext g = some s → s xs = some r → CSound cfg17.P g xs [] r [] := by
  intro g s xs r hg hs
  have hg : ext17 g = some s := hg
  unfold ext17 at hg
  split at hg
  · rename_i h; subst h
    cases hg
    exact extCount_sound (P := Tryd.prog) Tryd.func90 (by kernel_rfl) (by kernel_rfl) (by kernel_rfl) (by kernel_rfl) hs
  · split at hg
    · rename_i h; subst h
      cases hg
      exact extIndex_sound (P := Tryd.prog) Tryd.func92 (by kernel_rfl) (by kernel_rfl) (by kernel_rfl) (by kernel_rfl) hs
    · cases hg

theorem walk (s : Wire.Stt) (z : Nl) (hz : SemZ s z) (n : Int) (b : Wire.BS) (v0 : Value) (W : World) (h0 : R1 (cellsOfW W) noE (.agg (cellsSt s z)) v0) : Calls Tryd.prog 5 #[v0, .int .i64 n, .string ⟨⟨b⟩⟩] W fun e w' => e = .returned (.bool true) ∧ Below W.heap.size W w' :=
  calls_of_evK (cfg := cfg17) mixed exts Tryd.func5 rfl (by kernel_rfl) (cut5 s z hz n b) (W := W) (S := cellsOfW W) (mem_cells W) (vs := [v0, .int .i64 n, .string ⟨⟨b⟩⟩]) (fun x hx => by
    simp only [List.mem_cons, List.not_mem_nil, or_false] at hx
    rcases hx with rfl | rfl | rfl
    · exact noId_st s hz.ok
    · exact nid_at _
    · exact nid_at _) rfl (fun j x v hx hv => by
    match j with
    | 0 => cases hx; cases hv; exact h0
    | 1 => cases hx; cases hv; exact .at _
    | 2 => cases hx; cases hv; exact .at _
    | j + 3 => cases hx)
theorem laidOut : laidOutB Tryd.prog = true := by kernel_rfl
theorem rec30 : Tryd.prog.readableRec 30 = true := by kernel_rfl
theorem rec9 : Tryd.prog.readableRec 9 = true := by kernel_rfl
theorem row9 : 9 < Tryd.prog.types.size := of_decide_eq_true (by kernel_rfl)
theorem rec3 : Tryd.prog.readableRec 3 = true := by kernel_rfl
theorem row3 : 3 < Tryd.prog.types.size := of_decide_eq_true (by kernel_rfl)
theorem row30 : 30 < Tryd.prog.types.size := of_decide_eq_true (by kernel_rfl)

set_option maxRecDepth 100000 in
theorem contract (H : Type) (enc : TypeId × Value → H) (W : World) (base : Nat) (args : Array Value) (ds gs : List (DataW H)) (before : List MemPlace)
    (hval : ∀ (j : Nat) t v, Tryd.f5.params[j]? = some t → args[j]? = some v → Value.okWide Tryd.prog W .any base t v)
    (hW : DataW.Whole enc Tryd.prog Tryd.f5.params.toList Rows.stateCutSpec.vars false W args.toList ds gs before) :
    Calls Tryd.prog 5 args W fun e W' => ∃ v, e = .returned v ∧ Rows.stateCutSpec.post enc Tryd.prog Tryd.f5 false true false false W args v W' := by
  have hW' := hW
  obtain ⟨p, q, hA0, hV, rfl, hfz, hnd⟩ := hW
  have hA : DataW.TrodAll enc Tryd.prog W 0 (fun _ => true) true Tryd.f5.params.toList args.toList ds p := hA0
  rw [Tryd.params5] at hA hval
  obtain ⟨v0, vs0, d0, ds0, p0, q0, hargs, rfl, rfl, h0, r0⟩ := trodAll_cons hA
  obtain ⟨v1, vs1, d1, ds1, p1, q1, rfl, rfl, rfl, h1, r1⟩ := trodAll_cons r0
  obtain ⟨v2, vs2, d2, ds2, p2, q2, rfl, rfl, rfl, h2, r2⟩ := trodAll_cons r1
  obtain ⟨rfl, rfl, rfl⟩ := trodAll_nil r2
  obtain rfl : args = #[v0, v1, v2] := by
    obtain ⟨l⟩ := args
    simpa using hargs
  obtain ⟨rfl, rfl⟩ := trodVars_none hV
  clear hA0
  obtain ⟨s, z, hz', k0⟩ := open_st (hval 0 30 v0 rfl rfl) h0
  obtain ⟨n, rfl⟩ : ∃ n : Int, v1 = .int .i64 n := by
    obtain ⟨n, hn, _⟩ := open_int Tryd.underlying3 (hval 1 3 v1 rfl rfl) h1
    exact ⟨n, hn⟩
  obtain ⟨bs, rfl⟩ : ∃ bs : Wire.BS, v2 = .string ⟨⟨bs⟩⟩ := by
    obtain ⟨x, hx, _⟩ := Go.ChangeMaps.open_string Tryd.underlying9 (hval 2 9 v2 rfl rfl) h2
    exact ⟨x.data.toList, hx⟩
  have hlt := hW'.lt
  refine (walk s z hz' n bs v0 W k0).mono fun e W' ⟨he, hg⟩ => ?_
  subst he
  refine ⟨_, rfl, post_of_below (pa := p0 ++ (p1 ++ (p2 ++ []))) (pv := []) hW' (fun _ _ _ => trodAll_cons_mk (shut_bool Tryd.underlying4 _) trodAll_mk0) (fun sp hsp => ?_) (fun _ _ => rfl) (by simp)
    hg (ok_one (by kernel_rfl) rfl (okWide_bool_mk Tryd.underlying4 _))⟩
  exact trodAll_cons_mk (WideElems.Trod_stays laidOut rec30 row30 h0 (fun x hx => hg.same (hlt x (by simp [hx]))) (fun x hx => hsp x (by simp [hx])))
    (trodAll_cons_mk (WideElems.Trod_stays laidOut rec3 row3 h1 (fun x hx => hg.same (hlt x (by simp [hx]))) (fun x hx => hsp x (by simp [hx])))
      (trodAll_cons_mk (WideElems.Trod_stays laidOut rec9 row9 h2 (fun x hx => hg.same (hlt x (by simp [hx]))) (fun x hx => hsp x (by simp [hx]))) trodAll_mk0))

def zeroSt : Value := .agg #[.int .i64 0, .slice none 0 0, .slice none 0 0, .int .i64 0, .int .i64 0, .int .i64 0, .int .i64 0, .slice none 0 0, .slice none 0 0, .bool false, .int .i64 0, .int .i64 0, .int .i64 0, .int .i64 0, .slice none 0 0, .slice none 0 0, .slice none 0 0, .bool false]
def zeroD {H : Type} : DataW H := .agg [.lit (.int .i64 0), .nil, .nil, .agg [.lit (.int .i64 0), .lit (.int .i64 0), .lit (.int .i64 0), .lit (.int .i64 0)], .nil, .nil, .lit (.bool false), .agg [.lit (.int .i64 0), .lit (.int .i64 0), .lit (.int .i64 0), .lit (.int .i64 0)], .nil, .nil, .nil, .lit (.bool false)]
noncomputable def laidWorld (os : Os) : World :=
  { World.holding Tryd.prog os ⟨#[], #[], []⟩ with heap := ((World.holding Tryd.prog os ⟨#[], #[], []⟩).heap.modify 2 (laidObj (flatD 4 (Rows.laid_unicode_utf8_acceptRanges (H := Unit))))).modify 1 (laidObj (flatD 4 Rows.laid_unicode_utf8_first)) }
set_option maxRecDepth 100000 in
theorem laid_met (os : Os) : laidMet Tryd.prog Rows.stateCutRow.laid ((laidWorld os).forCall (fun _ _ => 0) ⟨#[], #[zeroSt, .int .i64 0, .string ⟨⟨[]⟩⟩], []⟩).memory :=
  laidMet_of_run' 8 (by kernel_rfl) (by kernel_rfl)
theorem reads (os : Os) {H : Type} (enc : TypeId × Value → H) : ∃ places, DataW.whole enc Tryd.prog ((laidWorld os).forCall (fun _ _ => 0) ⟨#[], #[zeroSt, .int .i64 0, .string ⟨⟨[]⟩⟩], []⟩).memory Tryd.f5.params.toList Rows.stateCutSpec.vars false #[zeroSt, .int .i64 0, .string ⟨⟨[]⟩⟩].toList 8 = some ([zeroD, .lit (.int .i64 0), .lit (.string [])], [], places) :=
  ⟨[], by kernel_rfl⟩

set_option maxRecDepth 100000 in
theorem lifted (os : Os) (started : os.Started) (H : Type) (enc : TypeId × Value → H) (F : Stop.Interp) :
    ReturnsInHanded {} Tryd.checked os 5 .any ((OpenSpec.ofChange Rows.stateCutSpec).preRow enc Tryd.prog Tryd.f5 Rows.stateCutRow.domain false Rows.stateCutRow.laid) (((OpenSpec.ofChange Rows.stateCutSpec).at F).post enc Tryd.prog Tryd.f5 false true false false) := by
  obtain ⟨places, hx⟩ := reads os enc
  refine returnsInHanded_of_row (C := Tryd.checked) (s := OpenSpec.ofChange Rows.stateCutSpec) own started (by kernel_rfl) Tryd.func5
    (witness_row_at (enc := enc) (C := Tryd.checked) false (laidWorld os) #[zeroSt, .int .i64 0, .string ⟨⟨[]⟩⟩] rfl (by kernel_rfl) (by kernel_rfl) (by kernel_rfl)
      (OpenSpec.preRow_of_cond 8 hx (by kernel_rfl) (fun k hk => by cases hk) (by kernel_rfl) (laid_met os))) ?_
  intro W base args ds gs before hval hW _ _ _ hL _ _
  exact contract H enc W base args ds gs before hval hW

theorem said : Rows.StateCutSaid :=
  OpenClaim.holds_of_cond 5 Tryd.f5 rfl rfl rfl rfl rfl rfl rfl ⟨rfl, rfl, rfl, rfl, rfl⟩ rfl rfl rfl rfl rfl (by kernel_rfl) Tryd.func5 (by kernel_rfl)
    (of_decide_eq_true (by kernel_rfl)) (by unfold Func.isWrapper; first | (rw [if_pos (by decide +kernel)]; kernel_rfl) | (rw [if_neg (by decide +kernel)]; exact ⟨rfl, rfl⟩))
    (fun os started H enc _ F => by rw [OpenClaim.pre_eq_preRow]; exact lifted os started H enc F)

theorem plain (f : FuncId) (fn : Func) (hf : Tryd.pinned.checked.prog.funcNamed "carpetbag/carpetbaglaw17.StateCut" = some f) (hfn : Tryd.pinned.checked.prog.funcs[f]? = some fn) :
    false = Tryd.pinned.checked.prog.looks [] ∧ ∀ (j : Nat) t, fn.params[j]? = some t → Tryd.pinned.checked.prog.wantsStandIn t = false := by
  obtain rfl : f = 5 := Option.some.inj ((show Tryd.prog.funcNamed "carpetbag/carpetbaglaw17.StateCut" = some 5 by kernel_rfl).symm.trans hf) |>.symm
  obtain rfl : fn = Tryd.f5 := (Option.some.inj (Tryd.func5.symm.trans hfn)).symm
  refine ⟨by kernel_rfl, fun j t ht => ?_⟩
  rw [Tryd.params5] at ht
  have ht' : t = 30 ∨ t = 3 ∨ t = 9 := by simpa using Array.mem_of_getElem? ht
  rcases ht' with rfl | rfl | rfl
  · exact (show Tryd.prog.wantsStandIn 30 = false by kernel_rfl)
  · exact (show Tryd.prog.wantsStandIn 3 = false by kernel_rfl)
  · exact (show Tryd.prog.wantsStandIn 9 = false by kernel_rfl)

theorem card : Rows.StateCutCardSaid :=
  Claim7.holds_tied_plain_at .later [] _ _ _ _ said (fun _ h => by cases h) (by kernel_rfl) (fun _ h => by cases h) stateCut_row_tie rfl ⟨rfl, rfl⟩ (by kernel_rfl) rfl plain (by kernel_rfl)
end Go.Proofs.YtdgihbbekacgcaaDoor.fnStateCut

/- For every two archives, tree, path, side and author carpetbaglaw10.ReconPlans returns true, and its arguments read behind the call as before. Conditions: those of the given row. -/
import Derived.Test.YtckammfgogiplaaGreatDoorCards
import Derived.Test.YtckammfgogiplaaGreatDoorTie
import Derived.Test.YtckammfgogiplaaGreatDoorK35
import Derived.Test.YtckammfgogiplaaGreatDoorK49
import Derived.WalkKit
import Derived.ProofKit
import Derived.OpenShut
import Derived.Carry
import Derived.Deep.DeepHandedRow
import Derived.Lib.LaidTab
import Derived.ChangeMaps5
namespace Go.Proofs.YtckammfgogiplaaGreatDoor.fnReconPlans
open Go.ChangeShapes Go.WideShapes Go.ChangeAt Go.RowKit
open Go Go.Proofs.V Go.Proofs.V.A10
set_option linter.unusedVariables false
set_option linter.unusedSimpArgs false
theorem own : ownKnob Tryz.prog.godebug = Option.none := by kernel_rfl
theorem walk (a0 : List Go.Proofs.W.Q9.En) (l0 : Bool) (n0 : a0 = [] ∨ l0 = false) (v0 : Value) (a1 : List Go.Proofs.W.Q9.En) (l1 : Bool) (n1 : a1 = [] ∨ l1 = false) (v1 : Value) (a2 : List Go.Proofs.W.Q9.Fi) (l2 : Bool) (n2 : a2 = [] ∨ l2 = false) (v2 : Value) (a3 : List UInt8) (a4 : Bool) (a5 : Int) (w0 : World) (h0 : R1 (cellsOfW w0) noE (.slice (a0.map (Go.Proofs.W.encR reE)) l0 .no) v0) (h1 : R1 (cellsOfW w0) noE (.slice (a1.map (Go.Proofs.W.encR reE)) l1 .no) v1) (h2 : R1 (cellsOfW w0) noE (.slice (a2.map (Go.Proofs.W.encR rfF)) l2 .no) v2) : Calls Tryz.prog 4 #[v0, v1, v2, .string ⟨⟨a3⟩⟩, .bool a4, .int .i64 a5] w0 fun e w' => e = .returned (.bool true) ∧ Below w0.heap.size w0 w' :=
  Go.Proofs.W.Q10.plans_calls (Go.Proofs.W.Q10.sl_of_R1 h0 (Go.Proofs.W.Q10.dec_enc a0)) (Go.Proofs.W.Q10.sl_of_R1 h1 (Go.Proofs.W.Q10.dec_enc a1)) (Go.Proofs.W.Q10.slR_open n2 h2)
theorem laidOut : laidOutB Tryz.prog = true := by kernel_rfl
theorem rec3 : Tryz.prog.readableRec 3 = true := by kernel_rfl
theorem row3 : 3 < Tryz.prog.types.size := of_decide_eq_true (by kernel_rfl)
theorem rec4 : Tryz.prog.readableRec 4 = true := by kernel_rfl
theorem row4 : 4 < Tryz.prog.types.size := of_decide_eq_true (by kernel_rfl)
theorem rec9 : Tryz.prog.readableRec 9 = true := by kernel_rfl
theorem row9 : 9 < Tryz.prog.types.size := of_decide_eq_true (by kernel_rfl)
theorem rec22 : Tryz.prog.readableRec 22 = true := by kernel_rfl
theorem row22 : 22 < Tryz.prog.types.size := of_decide_eq_true (by kernel_rfl)
theorem rec36 : Tryz.prog.readableRec 36 = true := by kernel_rfl
theorem row36 : 36 < Tryz.prog.types.size := of_decide_eq_true (by kernel_rfl)

set_option maxRecDepth 100000 in
theorem contract (H : Type) (enc : TypeId × Value → H) (W : World) (base : Nat) (args : Array Value) (ds gs : List (DataW H)) (before : List MemPlace)
    (hval : ∀ (j : Nat) t v, Tryz.f4.params[j]? = some t → args[j]? = some v → Value.okWide Tryz.prog W .any base t v)
    (hW : DataW.Whole enc Tryz.prog Tryz.f4.params.toList Rows.reconPlansSpec.vars false W args.toList ds gs before) :
    Calls Tryz.prog 4 args W fun e W' => ∃ v, e = .returned v ∧ Rows.reconPlansSpec.post enc Tryz.prog Tryz.f4 false true false false W args v W' := by
  have hW' := hW
  obtain ⟨p, q, hA0, hV, rfl, hfz, hnd⟩ := hW
  have hA : DataW.TrodAll enc Tryz.prog W 0 (fun _ => true) true Tryz.f4.params.toList args.toList ds p := hA0
  rw [Tryz.params4] at hA hval
  obtain ⟨v0, vs0, d0, ds0, p0, q0, hargs, rfl, rfl, h0, r0⟩ := trodAll_cons hA
  obtain ⟨v1, vs1, d1, ds1, p1, q1, rfl, rfl, rfl, h1, r1⟩ := trodAll_cons r0
  obtain ⟨v2, vs2, d2, ds2, p2, q2, rfl, rfl, rfl, h2, r2⟩ := trodAll_cons r1
  obtain ⟨v3, vs3, d3, ds3, p3, q3, rfl, rfl, rfl, h3, r3⟩ := trodAll_cons r2
  obtain ⟨v4, vs4, d4, ds4, p4, q4, rfl, rfl, rfl, h4, r4⟩ := trodAll_cons r3
  obtain ⟨v5, vs5, d5, ds5, p5, q5, rfl, rfl, rfl, h5, r5⟩ := trodAll_cons r4
  obtain ⟨rfl, rfl, rfl⟩ := trodAll_nil r5
  obtain rfl : args = #[v0, v1, v2, v3, v4, v5] := by
    obtain ⟨l⟩ := args
    simpa using hargs
  obtain ⟨rfl, rfl⟩ := trodVars_none hV
  clear hA0
  obtain ⟨a0, l0, n0, k0⟩ := open_ar (hval 0 22 v0 rfl rfl) h0
  obtain ⟨a1, l1, n1, k1⟩ := open_ar (hval 1 22 v1 rfl rfl) h1
  obtain ⟨a2, l2, n2, k2⟩ := open_tr (hval 2 36 v2 rfl rfl) h2
  obtain ⟨⟨⟨a3⟩⟩, rfl, _⟩ := Go.ChangeMaps.open_string Tryz.underlying9 (hval 3 9 v3 rfl rfl) h3
  obtain ⟨a4, rfl, _⟩ := open_bool Tryz.underlying4 (hval 4 4 v4 rfl rfl) h4
  obtain ⟨a5, rfl, _⟩ := open_int Tryz.underlying3 (hval 5 3 v5 rfl rfl) h5
  have hlt := hW'.lt
  refine (walk a0 l0 n0 v0 a1 l1 n1 v1 a2 l2 n2 v2 a3 a4 a5 W k0 k1 k2).mono fun e W' ⟨he, hg⟩ => ?_
  subst he
  refine ⟨_, rfl, post_of_below (pa := p0 ++ (p1 ++ (p2 ++ (p3 ++ (p4 ++ (p5 ++ ([]))))))) (pv := []) hW' (fun _ _ _ => trodAll_cons_mk (shut_bool Tryz.underlying4 _) trodAll_mk0) (fun sp hsp => ?_) (fun _ _ => rfl) (by simp)
    hg (ok_one (by kernel_rfl) rfl (okWide_bool_mk Tryz.underlying4 _))⟩
  exact trodAll_cons_mk (WideElems.Trod_stays laidOut rec22 row22 h0 (fun x hx => hg.same (hlt x (by simp [hx]))) (fun x hx => hsp x (by simp [hx])))
    (trodAll_cons_mk (WideElems.Trod_stays laidOut rec22 row22 h1 (fun x hx => hg.same (hlt x (by simp [hx]))) (fun x hx => hsp x (by simp [hx])))
    (trodAll_cons_mk (WideElems.Trod_stays laidOut rec36 row36 h2 (fun x hx => hg.same (hlt x (by simp [hx]))) (fun x hx => hsp x (by simp [hx])))
    (trodAll_cons_mk (WideElems.Trod_stays laidOut rec9 row9 h3 (fun x hx => hg.same (hlt x (by simp [hx]))) (fun x hx => hsp x (by simp [hx])))
    (trodAll_cons_mk (WideElems.Trod_stays laidOut rec4 row4 h4 (fun x hx => hg.same (hlt x (by simp [hx]))) (fun x hx => hsp x (by simp [hx])))
    (trodAll_cons_mk (WideElems.Trod_stays laidOut rec3 row3 h5 (fun x hx => hg.same (hlt x (by simp [hx]))) (fun x hx => hsp x (by simp [hx])))
    trodAll_mk0)))))

noncomputable def laidWorld (os : Os) : World :=
  { World.holding Tryz.prog os ⟨#[], #[], []⟩ with heap := ((World.holding Tryz.prog os ⟨#[], #[], []⟩).heap.modify 2 (laidObj (flatD 4 (Rows.laid_unicode_utf8_acceptRanges (H := Unit))))).modify 1 (laidObj (flatD 4 Rows.laid_unicode_utf8_first)) }
set_option maxRecDepth 100000 in
theorem laid_met (os : Os) : laidMet Tryz.prog Rows.reconPlansRow.laid ((laidWorld os).forCall (fun _ _ => 0) ⟨#[], #[.slice none 0 0, .slice none 0 0, .slice none 0 0, .string ⟨#[]⟩, .bool false, .int .i64 0], []⟩).memory :=
  laidMet_of_run' 8 (by kernel_rfl) (by kernel_rfl)
theorem reads (os : Os) {H : Type} (enc : TypeId × Value → H) : ∃ places, DataW.whole enc Tryz.prog ((laidWorld os).forCall (fun _ _ => 0) ⟨#[], #[.slice none 0 0, .slice none 0 0, .slice none 0 0, .string ⟨#[]⟩, .bool false, .int .i64 0], []⟩).memory Tryz.f4.params.toList Rows.reconPlansSpec.vars false #[.slice none 0 0, .slice none 0 0, .slice none 0 0, .string ⟨#[]⟩, .bool false, .int .i64 0].toList 8 = some ([.nil, .nil, .nil, .lit (.string []), .lit (.bool false), .lit (.int .i64 0)], [], places) :=
  ⟨[], by kernel_rfl⟩

set_option maxRecDepth 100000 in
theorem lifted (os : Os) (started : os.Started) (H : Type) (enc : TypeId × Value → H) (F : Stop.Interp) :
    ReturnsInHanded {} Tryz.checked os 4 .any ((OpenSpec.ofChange Rows.reconPlansSpec).preRow enc Tryz.prog Tryz.f4 Rows.reconPlansRow.domain false Rows.reconPlansRow.laid) (((OpenSpec.ofChange Rows.reconPlansSpec).at F).post enc Tryz.prog Tryz.f4 false true false false) := by
  obtain ⟨places, hx⟩ := reads os enc
  refine returnsInHanded_of_row (C := Tryz.checked) (s := OpenSpec.ofChange Rows.reconPlansSpec) own started (by kernel_rfl) Tryz.func4
    (witness_row_at (enc := enc) (C := Tryz.checked) false (laidWorld os) #[.slice none 0 0, .slice none 0 0, .slice none 0 0, .string ⟨#[]⟩, .bool false, .int .i64 0] rfl (by kernel_rfl) (by kernel_rfl) (by kernel_rfl)
      (OpenSpec.preRow_of_cond 8 hx (by kernel_rfl) (fun k hk => by cases hk) (by kernel_rfl) (laid_met os))) ?_
  intro W base args ds gs before hval hW _ _ _ hL _ _
  exact contract H enc W base args ds gs before hval hW

theorem said : Rows.ReconPlansSaid :=
  OpenClaim.holds_of_cond 4 Tryz.f4 rfl rfl rfl rfl rfl rfl rfl ⟨rfl, rfl, rfl, rfl, rfl⟩ rfl rfl rfl rfl rfl (by kernel_rfl) Tryz.func4 (by kernel_rfl)
    (of_decide_eq_true (by kernel_rfl)) (by unfold Func.isWrapper; first | (rw [if_pos (by decide +kernel)]; kernel_rfl) | (rw [if_neg (by decide +kernel)]; exact ⟨rfl, rfl⟩))
    (fun os started H enc _ F => by rw [OpenClaim.pre_eq_preRow]; exact lifted os started H enc F)

theorem plain (f : FuncId) (fn : Func) (hf : Tryz.pinned.checked.prog.funcNamed "carpetbag/carpetbaglaw10.ReconPlans" = some f) (hfn : Tryz.pinned.checked.prog.funcs[f]? = some fn) :
    false = Tryz.pinned.checked.prog.looks [] ∧ ∀ (j : Nat) t, fn.params[j]? = some t → Tryz.pinned.checked.prog.wantsStandIn t = false := by
  obtain rfl : f = 4 := Option.some.inj ((show Tryz.prog.funcNamed "carpetbag/carpetbaglaw10.ReconPlans" = some 4 by kernel_rfl).symm.trans hf) |>.symm
  obtain rfl : fn = Tryz.f4 := (Option.some.inj (Tryz.func4.symm.trans hfn)).symm
  refine ⟨by kernel_rfl, fun j t ht => ?_⟩
  rw [Tryz.params4] at ht
  have hall : #[22, 22, 36, 9, 4, 3].all (fun t => Tryz.prog.wantsStandIn t == false) = true := by kernel_rfl
  have hm := Array.mem_of_getElem? ht
  have := Array.all_eq_true'.1 hall t hm
  exact beq_iff_eq.1 this

theorem card : Rows.ReconPlansCardSaid :=
  Claim7.holds_tied_plain_at .later [] _ _ _ _ said (fun _ h => by cases h) (by kernel_rfl) (fun _ h => by cases h) reconPlans_row_tie rfl ⟨rfl, rfl⟩ (by kernel_rfl) rfl plain (by kernel_rfl)
end Go.Proofs.YtckammfgogiplaaGreatDoor.fnReconPlans

/- For every tree and all actions carpetbaglaw11.ActUndoes returns true, and its arguments read behind the call as before. Conditions: those of the given row. -/
import Derived.Test.YtboeaelijjamoaaDoorCards
import Derived.Test.YtboeaelijjamoaaDoorTie
import Derived.Test.YtboeaelijjamoaaDoorK43
import Derived.Test.YtboeaelijjamoaaDoorK45
import Derived.WalkKit
import Derived.ProofKit
import Derived.OpenShut
import Derived.Carry
import Derived.Deep.DeepHandedRow
import Derived.Lib.LaidTab
namespace Go.Proofs.YtboeaelijjamoaaDoor.fnActUndoes
open Go.ChangeShapes Go.WideShapes Go.ChangeAt Go.RowKit
open Go Go.Proofs.V Go.Proofs.V.R11
set_option linter.unusedVariables false
set_option linter.unusedSimpArgs false
theorem own : ownKnob Tryd.prog.godebug = Option.none := by kernel_rfl
set_option maxRecDepth 100000 in
theorem walk (a0 : List Fi) (m0 : a0.length ≤ maxLen) (v0 : Value) (a1 : List Ac) (m1 : a1.length ≤ maxLen) (v1 : Value) (w0 : World) (h0 : Go.Proofs.W.C.CR (.sl reF) a0 w0 v0) (h1 : Go.Proofs.W.C.CR (.sl reA) a1 w0 v1) : Calls Tryd.prog 6 #[v0, v1] w0 fun e w' => e = .returned (.bool true) ∧ Below w0.heap.size w0 w' := by
  have e1 : Go.Proofs.W.Q11.law11_ActUndoes (a0, a1) = some true := Go.Proofs.W.Q11.undoes_ok (a0, a1) (le_max m1)
  have e2 : Go.Proofs.W.C.Args [.c (.sl reF), .c (.sl reA)] (a0, a1) w0 [v0, v1] := Go.Proofs.W.C.args2 (c1 := .sl reF) (c2 := .sl reA) rfl rfl h0 h1
  have e3 := Go.Proofs.W.Q11.s_law11_ActUndoes Go.Proofs.W.Q11.zS_ok
  have e4 := Go.Proofs.W.C.calls1 (cfg := Go.Proofs.V.U11.cfgZ Go.Proofs.W.Q11.zS) (n := 6) (F := Go.Proofs.W.Q11.law11_ActUndoes) Go.Proofs.W.Q11.okS (d := .bool) rfl e3 (y := true) e1 e2 (fn := Tryd.f6) Tryd.func6 rfl (by kernel_rfl)
  exact e4.mono fun e w' ⟨v, h1, h2, h3⟩ => ⟨by rw [h1, show v = .bool true from h3], h2⟩
theorem laidOut : laidOutB Tryd.prog = true := by kernel_rfl
theorem rec22 : Tryd.prog.readableRec 22 = true := by kernel_rfl
theorem row22 : 22 < Tryd.prog.types.size := of_decide_eq_true (by kernel_rfl)
theorem rec23 : Tryd.prog.readableRec 23 = true := by kernel_rfl
theorem row23 : 23 < Tryd.prog.types.size := of_decide_eq_true (by kernel_rfl)

set_option maxRecDepth 100000 in
theorem contract (H : Type) (enc : TypeId × Value → H) (W : World) (base : Nat) (args : Array Value) (ds gs : List (DataW H)) (before : List MemPlace)
    (hval : ∀ (j : Nat) t v, Tryd.f6.params[j]? = some t → args[j]? = some v → Value.okWide Tryd.prog W .any base t v)
    (hW : DataW.Whole enc Tryd.prog Tryd.f6.params.toList Rows.actUndoesSpec.vars false W args.toList ds gs before) :
    Calls Tryd.prog 6 args W fun e W' => ∃ v, e = .returned v ∧ Rows.actUndoesSpec.post enc Tryd.prog Tryd.f6 false true false false W args v W' := by
  have hW' := hW
  obtain ⟨p, q, hA0, hV, rfl, hfz, hnd⟩ := hW
  have hA : DataW.TrodAll enc Tryd.prog W 0 (fun _ => true) true Tryd.f6.params.toList args.toList ds p := hA0
  rw [Tryd.params6] at hA hval
  obtain ⟨v0, vs0, d0, ds0, p0, q0, hargs, rfl, rfl, h0, r0⟩ := trodAll_cons hA
  obtain ⟨v1, vs1, d1, ds1, p1, q1, rfl, rfl, rfl, h1, r1⟩ := trodAll_cons r0
  obtain ⟨rfl, rfl, rfl⟩ := trodAll_nil r1
  obtain rfl : args = #[v0, v1] := by
    obtain ⟨l⟩ := args
    simpa using hargs
  obtain ⟨rfl, rfl⟩ := trodVars_none hV
  clear hA0
  obtain ⟨a0, m0, k0⟩ := open22 (hval 0 22 v0 rfl rfl) h0
  obtain ⟨a1, m1, k1⟩ := open23 (hval 1 23 v1 rfl rfl) h1
  have hlt := hW'.lt
  refine (walk a0 m0 v0 a1 m1 v1 W k0 k1).mono fun e W' ⟨he, hg⟩ => ?_
  subst he
  refine ⟨_, rfl, post_of_below (pa := p0 ++ (p1 ++ ([]))) (pv := []) hW' (fun _ _ _ => trodAll_cons_mk (shut_bool Tryd.underlying4 _) trodAll_mk0) (fun sp hsp => ?_) (fun _ _ => rfl) (by simp)
    hg (ok_one (by kernel_rfl) rfl (okWide_bool_mk Tryd.underlying4 _))⟩
  exact trodAll_cons_mk (WideElems.Trod_stays laidOut rec22 row22 h0 (fun x hx => hg.same (hlt x (by simp [hx]))) (fun x hx => hsp x (by simp [hx])))
    (trodAll_cons_mk (WideElems.Trod_stays laidOut rec23 row23 h1 (fun x hx => hg.same (hlt x (by simp [hx]))) (fun x hx => hsp x (by simp [hx])))
    trodAll_mk0)

noncomputable def laidWorld (os : Os) : World :=
  { World.holding Tryd.prog os ⟨#[], #[], []⟩ with heap := ((World.holding Tryd.prog os ⟨#[], #[], []⟩).heap.modify 2 (laidObj (flatD 4 (Rows.laid_unicode_utf8_acceptRanges (H := Unit))))).modify 1 (laidObj (flatD 4 Rows.laid_unicode_utf8_first)) }
set_option maxRecDepth 100000 in
theorem laid_met (os : Os) : laidMet Tryd.prog Rows.actUndoesRow.laid ((laidWorld os).forCall (fun _ _ => 0) ⟨#[], #[.slice none 0 0, .slice none 0 0], []⟩).memory :=
  laidMet_of_run' 8 (by kernel_rfl) (by kernel_rfl)
theorem reads (os : Os) {H : Type} (enc : TypeId × Value → H) : ∃ places, DataW.whole enc Tryd.prog ((laidWorld os).forCall (fun _ _ => 0) ⟨#[], #[.slice none 0 0, .slice none 0 0], []⟩).memory Tryd.f6.params.toList Rows.actUndoesSpec.vars false #[.slice none 0 0, .slice none 0 0].toList 8 = some ([.nil, .nil], [], places) :=
  ⟨[], by kernel_rfl⟩

set_option maxRecDepth 100000 in
theorem lifted (os : Os) (started : os.Started) (H : Type) (enc : TypeId × Value → H) (F : Stop.Interp) :
    ReturnsInHanded {} Tryd.checked os 6 .any ((OpenSpec.ofChange Rows.actUndoesSpec).preRow enc Tryd.prog Tryd.f6 Rows.actUndoesRow.domain false Rows.actUndoesRow.laid) (((OpenSpec.ofChange Rows.actUndoesSpec).at F).post enc Tryd.prog Tryd.f6 false true false false) := by
  obtain ⟨places, hx⟩ := reads os enc
  refine returnsInHanded_of_row (C := Tryd.checked) (s := OpenSpec.ofChange Rows.actUndoesSpec) own started (by kernel_rfl) Tryd.func6
    (witness_row_at (enc := enc) (C := Tryd.checked) false (laidWorld os) #[.slice none 0 0, .slice none 0 0] rfl (by kernel_rfl) (by kernel_rfl) (by kernel_rfl)
      (OpenSpec.preRow_of_cond 8 hx (by kernel_rfl) (fun k hk => by cases hk) (by kernel_rfl) (laid_met os))) ?_
  intro W base args ds gs before hval hW _ _ _ hL _ _
  exact contract H enc W base args ds gs before hval hW

theorem said : Rows.ActUndoesSaid :=
  OpenClaim.holds_of_cond 6 Tryd.f6 rfl rfl rfl rfl rfl rfl rfl ⟨rfl, rfl, rfl, rfl, rfl⟩ rfl rfl rfl rfl rfl (by kernel_rfl) Tryd.func6 (by kernel_rfl)
    (of_decide_eq_true (by kernel_rfl)) (by unfold Func.isWrapper; first | (rw [if_pos (by decide +kernel)]; kernel_rfl) | (rw [if_neg (by decide +kernel)]; exact ⟨rfl, rfl⟩))
    (fun os started H enc _ F => by rw [OpenClaim.pre_eq_preRow]; exact lifted os started H enc F)

theorem plain (f : FuncId) (fn : Func) (hf : Tryd.pinned.checked.prog.funcNamed "carpetbag/carpetbaglaw11.ActUndoes" = some f) (hfn : Tryd.pinned.checked.prog.funcs[f]? = some fn) :
    false = Tryd.pinned.checked.prog.looks [] ∧ ∀ (j : Nat) t, fn.params[j]? = some t → Tryd.pinned.checked.prog.wantsStandIn t = false := by
  obtain rfl : f = 6 := Option.some.inj ((show Tryd.prog.funcNamed "carpetbag/carpetbaglaw11.ActUndoes" = some 6 by kernel_rfl).symm.trans hf) |>.symm
  obtain rfl : fn = Tryd.f6 := (Option.some.inj (Tryd.func6.symm.trans hfn)).symm
  refine ⟨by kernel_rfl, fun j t ht => ?_⟩
  rw [Tryd.params6] at ht
  have hall : #[22, 23].all (fun t => Tryd.prog.wantsStandIn t == false) = true := by kernel_rfl
  have hm := Array.mem_of_getElem? ht
  have := Array.all_eq_true'.1 hall t hm
  exact beq_iff_eq.1 this

theorem card : Rows.ActUndoesCardSaid :=
  Claim7.holds_tied_plain_at .later [] _ _ _ _ said (fun _ h => by cases h) (by kernel_rfl) (fun _ h => by cases h) actUndoes_row_tie rfl ⟨rfl, rfl⟩ (by kernel_rfl) rfl plain (by kernel_rfl)
end Go.Proofs.YtboeaelijjamoaaDoor.fnActUndoes

/- For every archive, every tree, every author and every path carpetbaglaw09.ScanTells returns true, and its arguments read behind the call as before. Conditions: those of the given row. -/
import Derived.Test.YtnjfjjmlonalhaaDoorCards
import Derived.Test.YtnjfjjmlonalhaaDoorTie
import Derived.Test.YtnjfjjmlonalhaaDoorK39
import Derived.Test.YtnjfjjmlonalhaaDoorK40
import Derived.WalkKit
import Derived.ProofKit
import Derived.OpenShut
import Derived.Carry
import Derived.Deep.DeepHandedRow
import Derived.Lib.LaidTab
import Derived.ChangeMaps5
namespace Go.Proofs.YtnjfjjmlonalhaaDoor.fnScanTells
open Go.ChangeShapes Go.WideShapes Go.ChangeAt Go.RowKit
open Go Go.Proofs.V Go.Proofs.V.R9 Go.Proofs.V.T9
set_option linter.unusedVariables false
set_option linter.unusedSimpArgs false
theorem own : ownKnob Tryd.prog.godebug = Option.none := by kernel_rfl
set_option maxRecDepth 100000 in
theorem walk (a0 : List En) (v0 : Value) (a1 : List Fi) (v1 : Value) (a2 : Int) (a3 : List UInt8) (w0 : World) (h0 : Go.Proofs.W.C.CR (.sl tE) a0 w0 v0) (h1 : Go.Proofs.W.C.CR (.sl tF) a1 w0 v1) : Calls Tryd.prog 3 #[v0, v1, .int .i64 a2, .string ⟨⟨a3⟩⟩] w0 fun e w' => e = .returned (.bool true) ∧ Below w0.heap.size w0 w' :=
  tells_calls h0 h1
theorem laidOut : laidOutB Tryd.prog = true := by kernel_rfl
theorem rec3 : Tryd.prog.readableRec 3 = true := by kernel_rfl
theorem row3 : 3 < Tryd.prog.types.size := of_decide_eq_true (by kernel_rfl)
theorem rec9 : Tryd.prog.readableRec 9 = true := by kernel_rfl
theorem row9 : 9 < Tryd.prog.types.size := of_decide_eq_true (by kernel_rfl)
theorem rec22 : Tryd.prog.readableRec 22 = true := by kernel_rfl
theorem row22 : 22 < Tryd.prog.types.size := of_decide_eq_true (by kernel_rfl)
theorem rec23 : Tryd.prog.readableRec 23 = true := by kernel_rfl
theorem row23 : 23 < Tryd.prog.types.size := of_decide_eq_true (by kernel_rfl)

set_option maxRecDepth 100000 in
theorem contract (H : Type) (enc : TypeId × Value → H) (W : World) (base : Nat) (args : Array Value) (ds gs : List (DataW H)) (before : List MemPlace)
    (hval : ∀ (j : Nat) t v, Tryd.f3.params[j]? = some t → args[j]? = some v → Value.okWide Tryd.prog W .any base t v)
    (hW : DataW.Whole enc Tryd.prog Tryd.f3.params.toList Rows.scanTellsSpec.vars false W args.toList ds gs before) :
    Calls Tryd.prog 3 args W fun e W' => ∃ v, e = .returned v ∧ Rows.scanTellsSpec.post enc Tryd.prog Tryd.f3 false true false false W args v W' := by
  have hW' := hW
  obtain ⟨p, q, hA0, hV, rfl, hfz, hnd⟩ := hW
  have hA : DataW.TrodAll enc Tryd.prog W 0 (fun _ => true) true Tryd.f3.params.toList args.toList ds p := hA0
  rw [Tryd.params3] at hA hval
  obtain ⟨v0, vs0, d0, ds0, p0, q0, hargs, rfl, rfl, h0, r0⟩ := trodAll_cons hA
  obtain ⟨v1, vs1, d1, ds1, p1, q1, rfl, rfl, rfl, h1, r1⟩ := trodAll_cons r0
  obtain ⟨v2, vs2, d2, ds2, p2, q2, rfl, rfl, rfl, h2, r2⟩ := trodAll_cons r1
  obtain ⟨v3, vs3, d3, ds3, p3, q3, rfl, rfl, rfl, h3, r3⟩ := trodAll_cons r2
  obtain ⟨rfl, rfl, rfl⟩ := trodAll_nil r3
  obtain rfl : args = #[v0, v1, v2, v3] := by
    obtain ⟨l⟩ := args
    simpa using hargs
  obtain ⟨rfl, rfl⟩ := trodVars_none hV
  clear hA0
  obtain ⟨a0, l0, n0, k0⟩ := open_ar (hval 0 22 v0 rfl rfl) h0
  have k0 : Go.Proofs.W.C.CR (.sl tE) a0 W v0 := ⟨l0, fun e => (n0.resolve_right (by rw [e]; simp)), k0⟩
  obtain ⟨a1, l1, n1, k1⟩ := open_tr (hval 1 23 v1 rfl rfl) h1
  have k1 : Go.Proofs.W.C.CR (.sl tF) a1 W v1 := ⟨l1, fun e => (n1.resolve_right (by rw [e]; simp)), k1⟩
  obtain ⟨a2, rfl, _, _, y2⟩ := open_int Tryd.underlying3 (hval 2 3 v2 rfl rfl) h2
  obtain ⟨⟨⟨a3⟩⟩, rfl, _⟩ := Go.ChangeMaps.open_string Tryd.underlying9 (hval 3 9 v3 rfl rfl) h3
  have hlt := hW'.lt
  refine (walk a0 v0 a1 v1 a2 a3 W k0 k1).mono fun e W' ⟨he, hg⟩ => ?_
  subst he
  refine ⟨_, rfl, post_of_below (pa := p0 ++ (p1 ++ (p2 ++ (p3 ++ ([]))))) (pv := []) hW' (fun _ _ _ => trodAll_cons_mk (shut_bool Tryd.underlying4 _) trodAll_mk0) (fun sp hsp => ?_) (fun _ _ => rfl) (by simp)
    hg (ok_one (by kernel_rfl) rfl (okWide_bool_mk Tryd.underlying4 _))⟩
  exact trodAll_cons_mk (WideElems.Trod_stays laidOut rec22 row22 h0 (fun x hx => hg.same (hlt x (by simp [hx]))) (fun x hx => hsp x (by simp [hx])))
    (trodAll_cons_mk (WideElems.Trod_stays laidOut rec23 row23 h1 (fun x hx => hg.same (hlt x (by simp [hx]))) (fun x hx => hsp x (by simp [hx])))
    (trodAll_cons_mk (WideElems.Trod_stays laidOut rec3 row3 h2 (fun x hx => hg.same (hlt x (by simp [hx]))) (fun x hx => hsp x (by simp [hx])))
    (trodAll_cons_mk (WideElems.Trod_stays laidOut rec9 row9 h3 (fun x hx => hg.same (hlt x (by simp [hx]))) (fun x hx => hsp x (by simp [hx])))
    trodAll_mk0)))

noncomputable def laidWorld (os : Os) : World :=
  { World.holding Tryd.prog os ⟨#[], #[], []⟩ with heap := ((World.holding Tryd.prog os ⟨#[], #[], []⟩).heap.modify 2 (laidObj (flatD 4 (Rows.laid_unicode_utf8_acceptRanges (H := Unit))))).modify 1 (laidObj (flatD 4 Rows.laid_unicode_utf8_first)) }
set_option maxRecDepth 100000 in
theorem laid_met (os : Os) : laidMet Tryd.prog Rows.scanTellsRow.laid ((laidWorld os).forCall (fun _ _ => 0) ⟨#[], #[.slice none 0 0, .slice none 0 0, .int .i64 0, .string ⟨#[]⟩], []⟩).memory :=
  laidMet_of_run' 8 (by kernel_rfl) (by kernel_rfl)
theorem reads (os : Os) {H : Type} (enc : TypeId × Value → H) : ∃ places, DataW.whole enc Tryd.prog ((laidWorld os).forCall (fun _ _ => 0) ⟨#[], #[.slice none 0 0, .slice none 0 0, .int .i64 0, .string ⟨#[]⟩], []⟩).memory Tryd.f3.params.toList Rows.scanTellsSpec.vars false #[.slice none 0 0, .slice none 0 0, .int .i64 0, .string ⟨#[]⟩].toList 8 = some ([.nil, .nil, .lit (.int .i64 0), .lit (.string [])], [], places) :=
  ⟨[], by kernel_rfl⟩

set_option maxRecDepth 100000 in
theorem lifted (os : Os) (started : os.Started) (H : Type) (enc : TypeId × Value → H) (F : Stop.Interp) :
    ReturnsInHanded {} Tryd.checked os 3 .any ((OpenSpec.ofChange Rows.scanTellsSpec).preRow enc Tryd.prog Tryd.f3 Rows.scanTellsRow.domain false Rows.scanTellsRow.laid) (((OpenSpec.ofChange Rows.scanTellsSpec).at F).post enc Tryd.prog Tryd.f3 false true false false) := by
  obtain ⟨places, hx⟩ := reads os enc
  refine returnsInHanded_of_row (C := Tryd.checked) (s := OpenSpec.ofChange Rows.scanTellsSpec) own started (by kernel_rfl) Tryd.func3
    (witness_row_at (enc := enc) (C := Tryd.checked) false (laidWorld os) #[.slice none 0 0, .slice none 0 0, .int .i64 0, .string ⟨#[]⟩] rfl (by kernel_rfl) (by kernel_rfl) (by kernel_rfl)
      (OpenSpec.preRow_of_cond 8 hx (by kernel_rfl) (fun k hk => by cases hk) (by kernel_rfl) (laid_met os))) ?_
  intro W base args ds gs before hval hW _ _ _ hL _ _
  exact contract H enc W base args ds gs before hval hW

theorem said : Rows.ScanTellsSaid :=
  OpenClaim.holds_of_cond 3 Tryd.f3 rfl rfl rfl rfl rfl rfl rfl ⟨rfl, rfl, rfl, rfl, rfl⟩ rfl rfl rfl rfl rfl (by kernel_rfl) Tryd.func3 (by kernel_rfl)
    (of_decide_eq_true (by kernel_rfl)) (by unfold Func.isWrapper; first | (rw [if_pos (by decide +kernel)]; kernel_rfl) | (rw [if_neg (by decide +kernel)]; exact ⟨rfl, rfl⟩))
    (fun os started H enc _ F => by rw [OpenClaim.pre_eq_preRow]; exact lifted os started H enc F)

theorem plain (f : FuncId) (fn : Func) (hf : Tryd.pinned.checked.prog.funcNamed "carpetbag/carpetbaglaw09.ScanTells" = some f) (hfn : Tryd.pinned.checked.prog.funcs[f]? = some fn) :
    false = Tryd.pinned.checked.prog.looks [] ∧ ∀ (j : Nat) t, fn.params[j]? = some t → Tryd.pinned.checked.prog.wantsStandIn t = false := by
  obtain rfl : f = 3 := Option.some.inj ((show Tryd.prog.funcNamed "carpetbag/carpetbaglaw09.ScanTells" = some 3 by kernel_rfl).symm.trans hf) |>.symm
  obtain rfl : fn = Tryd.f3 := (Option.some.inj (Tryd.func3.symm.trans hfn)).symm
  refine ⟨by kernel_rfl, fun j t ht => ?_⟩
  rw [Tryd.params3] at ht
  have hall : #[22, 23, 3, 9].all (fun t => Tryd.prog.wantsStandIn t == false) = true := by kernel_rfl
  have hm := Array.mem_of_getElem? ht
  have := Array.all_eq_true'.1 hall t hm
  exact beq_iff_eq.1 this

theorem card : Rows.ScanTellsCardSaid :=
  Claim7.holds_tied_plain_at .later [] _ _ _ _ said (fun _ h => by cases h) (by kernel_rfl) (fun _ h => by cases h) scanTells_row_tie rfl ⟨rfl, rfl⟩ (by kernel_rfl) rfl plain (by kernel_rfl)
end Go.Proofs.YtnjfjjmlonalhaaDoor.fnScanTells

/- carpetbaglaw17.StateNew, evaluated: true, for every author. -/
import Derived.Test.YtdgihbbekacgcaaDoorS1
namespace Go.Proofs.V
open Go Go.Proofs
set_option linter.unusedVariables false
set_option linter.unusedSimpArgs false
theorem cfg17_P : cfg17.P = Tryd.prog := rfl
def bit (n : Int) : Int := IntKind.i64.wrap ((BitVec.ofInt 64 n &&& BitVec.ofInt 64 1).toNat)
theorem bit01 (n : Int) : bit n = 0 ∨ bit n = 1 := by
  unfold bit
  have h : (BitVec.ofInt 64 n &&& BitVec.ofInt 64 1).toNat = (BitVec.ofInt 64 n).toNat % 2 := by
    rw [BitVec.toNat_and]
    have : (BitVec.ofInt 64 1).toNat = 1 := by decide
    rw [this, Nat.and_one_is_mod]
  rw [h]
  rcases Nat.mod_two_eq_zero_or_one (BitVec.ofInt 64 n).toNat with h | h <;> rw [h]
  · exact .inl (by decide)
  · exact .inr (by decide)
theorem bin_and (P : Program) (xt : TypeId) (ox oy : Operand) (n : Int) : binA P .and xt ox oy (I64 n) (I64 1) = some (I64 (bit n)) := by
  simp [binA, AV.val, val1, eqGuard, binOp, pr, absV]
  exact ⟨_, rfl, rfl⟩
theorem nilEq_at (P : Program) (op : BinOp) (xt : TypeId) (u : Value) (b : AV) : nilEq P op xt (.at u) b = none := by
  unfold nilEq; cases tel P xt <;> cases op <;> rfl
theorem ow_all {cfg : Cfg} (k : Nat) {draw : Bool} {ds : List Nat} {all : Array Oper} {l : List Oper} {lab : Nat} {F : St} {Q : St → Prop} (hs : (opsRun cfg (evN cfg k).2 draw ds all l lab F).isSome = true)
    (h : Q ((opsRun cfg (evN cfg k).2 draw ds all l lab F).get hs)) : Ow cfg draw ds all l lab F Q :=
  ⟨_, opsRun_at k (F' := (opsRun cfg (evN cfg k).2 draw ds all l lab F).get hs) (by simp), h⟩
theorem ow_and {cfg : Cfg} {draw : Bool} {ds : List Nat} {all : Array Oper} {rest : List Oper} {lab d : Nat} {xt yt type : TypeId} {x : Operand} {pos : String} {after : Array Edge} {g : Option (Nat × Bool)} {F : St} {Q : St → Prop} {n : Int} {b : Int}
    (hb : bit n = b) (hg : guardA all { dst := some d, op := .binOp .and xt x (.const (.int .i64 1)) yt, type, pos, after, guard := g } F = some true) (hx : F.ev x = I64 n) (hd : Nat.blt d F.n = true)
    (h : Ow cfg draw ds all rest (lab + 64) { F with t := upd F.t d (I64 b) } Q) : Ow cfg draw ds all ({ dst := some d, op := .binOp .and xt x (.const (.int .i64 1)) yt, type, pos, after, guard := g } :: rest) lab F Q := by
  refine ow_cons (w := true) hg (fun _ => ⟨_, ?_, h⟩) (fun h => by cases h)
  have hd' : d < F.n := by simpa using hd
  simp only [opRun, allocH, opRunV, quiet, hx]
  rw [show F.ev (.const (.int .i64 1)) = I64 1 from rfl, nilEq_at, bin_and, hb]
  simp only [Option.bind_some, St.put, hd', if_true]

abbrev nilS : AV := .slice [] true .full
def st17 (b : Int) : AV := .agg [I64 b, nilS, nilS, I64 0, I64 0, I64 0, I64 0, nilS, nilS, BO false, I64 0, I64 0, I64 0, I64 0, nilS, nilS, nilS, BO false]
set_option maxRecDepth 100000 in
theorem new17 (n b : Int) (hb : bit n = b) : evK cfg17 13 [I64 n] [] = some (st17 b, []) := by
  refine evK_of Tryd.func13 rfl (of_decide_eq_true (by kernel_rfl)) (by kernel_rfl) (by kernel_rfl) rfl ?_
  unfold Tryd.f13
  dsimp only
  refine aw_seq (aw_region (ow_all 10 (by kernel_rfl) ?_))
  dsimp only [Then]
  refine aw_seq (aw_region ?_)
  refine ow_run (l := [_]) 10 (by kernel_rfl) ?_
  refine ow_and hb (by kernel_rfl) (by kernel_rfl) (by kernel_rfl) ?_
  refine ow_all 10 (by kernel_rfl) ?_
  dsimp only [Then]
  refine aw_ret ?_
  exact ⟨.inr rfl, [st17 b], by kernel_rfl, by kernel_rfl, by kernel_rfl, by kernel_rfl⟩

set_option maxRecDepth 100000 in
set_option maxHeartbeats 400000 in
theorem main17 (n : Int) : evK cfg17 6 [I64 n] [] = some (BO true, []) := by
  have key : ∀ b, bit n = b → (b = 0 ∨ b = 1) → evK cfg17 6 [I64 n] [] = some (BO true, []) := by
    intro b hb hb01
    have hnew : callQ cfg17 (evK cfg17) 13 [I64 n] = some (st17 b) := callQ_of (by kernel_rfl) (new17 n b hb)
    have hsm : callQ cfg17 (evK cfg17) 7 [] = some (BO true) := callQ_at 300 small17
    refine evK_of Tryd.func6 rfl (of_decide_eq_true (by kernel_rfl)) (by kernel_rfl) (by kernel_rfl) rfl ?_
    unfold Tryd.f6
    dsimp only
    refine aw_seq (aw_region' ?_)
    refine ow_quiet rfl rfl (of_decide_eq_true (by kernel_rfl)) ?_
    refine ow_nil ?_
    dsimp only [Then]
    refine aw_seq (aw_region' ?_)
    refine ow_call rfl rfl rfl (by kernel_rfl) rfl hsm (by decide) (of_decide_eq_true (by kernel_rfl)) ?_
    refine ow_all 10 (by kernel_rfl) ?_
    dsimp only [Then]
    refine aw_seq (aw_region ?_)
    refine ow_run (l := [_]) 10 (by kernel_rfl) ?_
    refine ow_call («as» := [I64 n]) rfl (by kernel_rfl) rfl (by kernel_rfl) (by kernel_rfl) hnew (of_decide_eq_true (by kernel_rfl)) (of_decide_eq_true (by kernel_rfl)) ?_
    refine ow_all 10 (by kernel_rfl) ?_
    dsimp only [Then]
    refine aw_seq (aw_region (ow_all 10 (by kernel_rfl) ?_))
    dsimp only [Then]
    refine aw_seq (aw_region (ow_all 10 (by kernel_rfl) ?_))
    dsimp only [Then]
    refine aw_seq (aw_region ?_)
    rcases hb01 with rfl | rfl
    · refine ow_run (l := [_, _, _, _, _, _, _, _, _]) 200 (by kernel_rfl) ?_
      refine ow_and hb (by kernel_rfl) (by kernel_rfl) (by kernel_rfl) ?_
      refine ow_all 200 (by kernel_rfl) ?_
      dsimp only [Then]
      refine aw_ret ?_
      exact ⟨.inr rfl, [BO true], by kernel_rfl, by kernel_rfl, by kernel_rfl, by kernel_rfl⟩
    · refine ow_run (l := [_, _, _, _, _, _, _, _, _]) 200 (by kernel_rfl) ?_
      refine ow_and hb (by kernel_rfl) (by kernel_rfl) (by kernel_rfl) ?_
      refine ow_all 200 (by kernel_rfl) ?_
      dsimp only [Then]
      refine aw_ret ?_
      exact ⟨.inr rfl, [BO true], by kernel_rfl, by kernel_rfl, by kernel_rfl, by kernel_rfl⟩
  exact key (bit n) rfl (bit01 n)
end Go.Proofs.V

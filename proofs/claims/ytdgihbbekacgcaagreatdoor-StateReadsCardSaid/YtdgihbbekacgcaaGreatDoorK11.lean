/- Structs, compared. -/
import Derived.Test.YtdgihbbekacgcaaGreatDoorK10
import Derived.Laws.StructEq
namespace Go.Proofs.V
open Go Go.RowKit
set_option linter.unusedVariables false
set_option linter.unusedSimpArgs false
theorem pr_bind {P : Program} {α β : Type} (s : Sem α) (f : α → Sem β) : pr P (s >>= f) = (pr P s).bind fun a => pr P (f a) := by
  induction s with
  | pure a => rfl
  | program k ih => exact ih P
  | _ => rfl
theorem pr_pure {P : Program} {α : Type} (a : α) : pr P (Pure.pure a : Sem α) = some a := rfl
theorem pr_ite {P : Program} {α : Type} (c : Prop) [Decidable c] (s t : Sem α) : pr P (if c then s else t) = if c then pr P s else pr P t := by split <;> rfl
theorem pr_program {P : Program} : pr P program = some P := rfl
theorem pr_underlying {P : Program} {t : TypeId} {u : TypeDesc} (h : P.underlying t = some u) : pr P (underlying t) = some u := by
  simp only [underlying, pr_bind, pr_program, Option.bind_some, h]
  rfl
theorem pr_equalIn_struct {P : Program} (d : Nat) (t : TypeId) (xs ys : Array Value) (ht : P.underlying t = some (.struct (P.fieldsOf t))) (hp : P.stoodInHeld t = false) :
    pr P (Op.equalIn (d + 1) t (.agg xs) (.agg ys)) = pr P (Op.eqFields d xs ys (P.fieldsOf t).toList) := by
  simp only [Op.equalIn, pr_bind, pr_underlying ht, Option.bind_some, pr_program, hp, Bool.false_eq_true, if_false]
  rw [← Array.forIn_toList]
  generalize (P.fieldsOf t).toList = fs
  clear ht
  induction fs with
  | nil => rfl
  | cons f fs ih =>
    simp only [List.forIn_cons, Op.eqFields, pr_bind, pr_ite]
    split
    · cases pr P (part f.type xs f.offset) with
      | none => rfl
      | some a =>
        simp only [Option.bind_some]
        cases pr P (part f.type ys f.offset) with
        | none => rfl
        | some b =>
          simp only [Option.bind_some]
          cases pr P (Op.equalIn d f.type a b) with
          | none => rfl
          | some r =>
            cases r
            · simp only [Option.bind_some, Bool.not_false, if_true, pr_pure]
            · simp only [Option.bind_some, Bool.not_true, Bool.false_eq_true, if_false, pr_pure]
              exact ih
    · simp only [pr_pure, Option.bind_some]
      exact ih
theorem pr_eqFields_cons {P : Program} {d : Nat} {xs ys : Array Value} {f : Field} {fs : List Field} {a b : Value} {r r' : Bool} (hn : (f.name == "_") = false) (ha : pr P (part f.type xs f.offset) = some a) (hb : pr P (part f.type ys f.offset) = some b) (hr : pr P (Op.equalIn d f.type a b) = some r) (h : pr P (Op.eqFields d xs ys fs) = some r') : pr P (Op.eqFields d xs ys (f :: fs)) = some (r && r') := by
  have hn' : f.name ≠ "_" := by simpa using hn
  simp only [Op.eqFields, hn', ne_eq, not_false_eq_true, if_true, pr_bind, ha, hb, hr, Option.bind_some, pr_ite, pr_pure, h]
  cases r <;> rfl
theorem pr_eqFields_nil {P : Program} {d : Nat} {xs ys : Array Value} : pr P (Op.eqFields d xs ys []) = some true := rfl
/-- A struct's comparison, out of its fields'. -/
theorem bin_struct {P : Program} {t : TypeId} {ox oy : Operand} {cs es : List AV} {us vs : List Value} {r : Bool} (hu : vals cs = some us) (hv : vals es = some vs) (ht : P.underlying t = some (.struct (P.fieldsOf t))) (hp : P.stoodInHeld t = false) (hm : P.eqGuardType P.depth t = false) (h : pr P (Op.eqFields 9999 us.toArray vs.toArray (P.fieldsOf t).toList) = some r) :
    binA P .neq t ox oy (.agg cs) (.agg es) = some (.at (.bool !r)) ∧ binA P .eql t ox oy (.agg cs) (.agg es) = some (.at (.bool r)) := by
  have he : pr P (Op.equal t (.agg us.toArray) (.agg vs.toArray)) = some r := by
    rw [← h, ← pr_equalIn_struct 9999 t _ _ ht hp]
    rfl
  have hg : ∀ op, pr P (eqGuard op t ox oy (.agg us.toArray) (.agg vs.toArray)) = some () := by
    intro op
    cases op <;> simp [eqGuard, pr_bind, pr_program, pr_ite, pr_pure, hm]
  constructor
  · simp only [binA, AV.val, hu, hv, Option.map_some, pr_bind, hg, Option.bind_some]
    simp only [binOp, pr_bind, he, Option.bind_some, pr_pure, Option.map_some]
    rfl
  · simp only [binA, AV.val, hu, hv, Option.map_some, pr_bind, hg, Option.bind_some]
    simp only [binOp, pr_bind, he, Option.bind_some, pr_pure, Option.map_some]
    rfl
section
variable {cfg : Cfg} {F : St} {Q : St → Prop} {draw : Bool} {ds : List Nat} {all : Array Oper} {rest : List Oper} {lab : Nat} {type : TypeId} {pos : String} {after : Array Edge} {g : Option (Nat × Bool)} {d : Nat}
end
end Go.Proofs.V
namespace Go.Proofs.V
open Go Go.RowKit
set_option linter.unusedVariables false
end Go.Proofs.V
namespace Go.Proofs.V
open Go Go.RowKit
set_option linter.unusedVariables false
def isB : AV → Bool
  | .at (.bool _) => true
  | _ => false
theorem Ow.mono {cfg : Cfg} {F : St} {Q Q' : St → Prop} {draw : Bool} {ds : List Nat} {all : Array Oper} {rest : List Oper} {lab : Nat} (h : Ow cfg draw ds all rest lab F Q) (hq : ∀ F, Q F → Q' F) : Ow cfg draw ds all rest lab F Q' := let ⟨F', e, q⟩ := h; ⟨F', e, hq _ q⟩
section
variable {cfg : Cfg} {F : St} {Q : X → St → Prop} {b : Code} {id : Nat} {ops : Array Oper} {draw : Bool}
end
end Go.Proofs.V
namespace Go.Proofs.V
open Go Go.RowKit
set_option linter.unusedVariables false
end Go.Proofs.V
namespace Go.Proofs.V
open Go Go.RowKit
set_option linter.unusedVariables false
set_option linter.unusedSimpArgs false
section
variable {cfg : Cfg} {F : St} {Q : St → Prop} {draw : Bool} {ds : List Nat} {all : Array Oper} {rest : List Oper} {lab : Nat} {type : TypeId} {pos : String} {after : Array Edge} {g : Option (Nat × Bool)} {d : Nat}
theorem ow_mk {t e : TypeId} {x y : Operand} {z : List AV} {n sz by_ : Nat} (hn : n ≠ 0) (h1 : n ≤ 35184372088832) (h2 : n * by_ ≤ 35184372088832) (hm : F.m t = true) (hx : F.ev x = .at (.int .i64 (n : Int))) (hy : F.ev y = .at (.int .i64 (n : Int))) (he : tel cfg.P t = some e) (hz : tzero cfg.P e = some z) (hs : tsz cfg.P e = some sz) (hb : tby cfg.P e = some by_) (hzl : z.length = sz) (hsz : (sz == 0) = false)
    (hg : guardA all { dst := some d, op := .makeSlice t x y, type, pos, after, guard := g } F = some true) (hd : Nat.blt d F.n = true)
    (h : Ow cfg false ds all rest (lab + 64) { F with t := upd F.t d (.hs F.H.length 0 n n sz), H := F.H ++ [(List.replicate n z).flatten] } Q) : Ow cfg false ds all ({ dst := some d, op := .makeSlice t x y, type, pos, after, guard := g } :: rest) lab F Q := by
  have hd' : d < F.n := by simpa using hd
  have hsz' : sz ≠ 0 := by simpa using hsz
  have hq : quiet cfg.P F [] 0 (.makeSlice t x y) = some (.slice (List.replicate n z) false .full) := by
    simp only [quiet, he, hx, hy, intOfA, hz, hs, hb]
    rw [if_pos ⟨trivial, by omega, by omega, by rw [Int.toNat_natCast]; exact h2, hzl, hsz'⟩, Int.toNat_natCast]
  refine ow_cons (w := true) hg (fun _ => ⟨_, ?_, h⟩) (fun h => by cases h)
  have hne : ¬ (List.replicate n z).length = 0 := by rw [List.length_replicate]; exact hn
  simp only [opRun, allocH, hm, if_true, hq, he, Option.bind_some, hs, hne, if_false, Bool.false_eq_true, List.length_replicate, St.put, hd', hn]
theorem ow_hat {ty e : TypeId} {x i : Operand} {l off len cap sz : Nat} {n : Int} (h0 : 0 ≤ n) (h1 : n < len) (hx : F.ev x = .hs l off len cap sz) (hi : F.ev i = .at (.int .i64 n)) (he : tel cfg.P ty = some e) (hz : tsz cfg.P e = some sz)
    (hg : guardA all { dst := some d, op := .indexAddr ty x i, type, pos, after, guard := g } F = some true) (hd : Nat.blt d F.n = true)
    (h : Ow cfg draw ds all rest (lab + 64) { F with t := upd F.t d (.hp l (off + n.toNat * sz)) } Q) : Ow cfg draw ds all ({ dst := some d, op := .indexAddr ty x i, type, pos, after, guard := g } :: rest) lab F Q := by
  refine ow_val rfl hg rfl ?_ hd h
  simp only [quiet, hx, hi, indexAddrA, intOfA, he]
  rw [if_pos ⟨h0, h1, hz⟩]
theorem ow_hst {ty : TypeId} {p x : Operand} {l off : Nat} {row : List AV} {v : AV} (ho : off + v.cells.length ≤ row.length) (hp : F.ev p = .hp l off) (hr : F.H[l]? = some row) (hx : F.ev x = v) (hs : v.storable = true) (hn : tsz cfg.P ty = some v.cells.length)
    (hg : guardA all { dst := none, op := .store ty p x, type, pos, after, guard := g } F = some true)
    (h : Ow cfg draw ds all rest (lab + 64) { F with H := F.H.set l (splice row off (v.cells.map strip1)) } Q) (hbx : stBoxOk draw ds F p = true := by rfl) : Ow cfg draw ds all ({ dst := none, op := .store ty p x, type, pos, after, guard := g } :: rest) lab F Q := by
  subst hx
  refine ow_cons (w := true) hg (fun _ => ⟨_, ?_, h⟩) (fun h => by cases h)
  simp only [opRun, allocH, opRunV, hn]
  rw [if_pos ⟨⟨hs, by trivial⟩, hbx⟩, hp]
  simp only [St.write, hr, ho, if_true, Option.bind_some, St.put]
theorem ow_hsl {ty e : TypeId} {x : Operand} {lo hi : Option Operand} {loc off len cap sz : Nat} {l u : Int} (h0 : 0 ≤ l) (h1 : l ≤ u) (h2 : u ≤ len) (h3 : len ≤ cap) (h4 : l < cap) (hx : F.ev x = .hs loc off len cap sz) (hlo : bnd 0 (lo.map F.ev) = some l) (hhi : bnd (len : Int) (hi.map F.ev) = some u) (he : tel cfg.P ty = some e) (hz : tsz cfg.P e = some sz)
    (hg : guardA all { dst := some d, op := .slice ty x lo hi none, type, pos, after, guard := g } F = some true) (hd : Nat.blt d F.n = true)
    (h : Ow cfg draw ds all rest (lab + 64) { F with t := upd F.t d (.hs loc (off + l.toNat * sz) (u.toNat - l.toNat) (cap - l.toNat) sz) } Q) : Ow cfg draw ds all ({ dst := some d, op := .slice ty x lo hi none, type, pos, after, guard := g } :: rest) lab F Q := by
  refine ow_val rfl hg rfl ?_ hd h
  simp only [quiet, hx, sliceA, Option.map_none, he, hlo, hhi]
  rw [if_pos ⟨hz, h0, h1, h2, h3, h4⟩]
end
/-- 'evK_ofZ', of the result a property. -/
theorem evK_ofZE {cfg : Cfg} {f : Nat} {args : List AV} {fn : Func} {c : Code} {P : AV → Prop} (hf : cfg.P.funcs[f]? = some fn) (hb : fn.body = some c) (hl : args.length ≤ fn.ntmps) (hok : codeOk c = true) (hname : (fn.name == "runtime.NumGoroutine") = false) (hfz : cfg.frz f = true)
    (h : Aw cfg c { n := fn.ntmps, t := argAt args, c := 0, al := fun _ => false, H := [], m := cfg.heap f } (fun x F => (x = .normal ∨ x = .ret) ∧ ∃ vs ws, resultsA cfg.P F fn.results.toList = some vs ∧ freezeA F.H vs = some ws ∧ (ws.all AV.free && ws.all (nohp 9)) = true ∧ P (leaveR (fun _ => false) (packA ws)))) :
    ∃ r, evK cfg f args [] = some (r, []) ∧ P r := by
  obtain ⟨x, F, e, hx, vs, ws, h1, h2, h3, h4⟩ := h
  exact ⟨_, evK_ofZ hf hb hl hok hname hfz ⟨x, F, e, hx, vs, ws, h1, h2, h3, rfl⟩, h4⟩
end Go.Proofs.V
namespace Go.Proofs.V
open Go Go.RowKit
set_option linter.unusedVariables false
theorem is_atH {n : Nat} {H H' : List (List AV)} {m : TypeId → Bool} {l l' : List (Nat × AV)} {F : St} (hl : l' = l) (hH : H' = H) (h : (F.n, F.H, F.m, l'.map fun p => F.t p.1) = (n, H', m, l'.map fun p => p.2)) : Is n H m l F := by
  subst hl; subst hH; exact is_of h
theorem aw_absE {cfg : Cfg} {b : Code} {F : St} {Q : X → St → Prop} (n : Nat) (H H' : List (List AV)) (m : TypeId → Bool) (l l' : List (Nat × AV)) (hl : l' = l) (hH : H' = H) (h : (F.n, F.H, F.m, l'.map fun p => F.t p.1) = (n, H', m, l'.map fun p => p.2)) (k : ∀ t c al, Aw cfg b ⟨n, updL l t, c, al, H, m⟩ Q) : Aw cfg b F Q := by
  obtain ⟨t, c, al, rfl⟩ := is_atH hl hH h
  exact k t c al
/-- A loop in a block that is left in one way, with what is known then. -/
theorem aw_sforJ {cfg : Cfg} {F : St} {Q : X → St → Prop} {b body : Code} {id : Nat} (N : Nat) (I : Nat → St → Prop) (J : St → Prop) (h0 : I 0 F) (round : ∀ i F, i < N → I i F → Aw cfg body F (Then (I (i + 1)) (fun x F => x = .exit id ∧ J F))) (last : ∀ F, I N F → Aw cfg body F (Then (fun _ => False) (fun x F => x = .exit id ∧ J F))) (k : ∀ F, J F → Aw cfg b F Q) : Aw cfg (.seq (.block id (.loop body)) b) F Q := by
  refine aw_seq (aw_block ((aw_for N I h0 round last).mono fun x F h => ?_))
  obtain ⟨rfl, hJ⟩ := h
  simp only [InBlock, if_true, Then]
  exact k F hJ
end Go.Proofs.V
namespace Go.Proofs.V
open Go Go.RowKit
set_option linter.unusedVariables false
theorem freshE {al al' : Nat → Bool} {o : Own} (e : al = al') (h : Fresh al' o) : Fresh al o := by subst e; exact h
/-- Nothing but these slots matters any more, of which one is a variable of the frame's own. -/
theorem aw_absB {cfg : Cfg} {b : Code} {F : St} {Q : X → St → Prop} (n : Nat) (H : List (List AV)) (m : TypeId → Bool) (s : Nat) (row : List AV) (l : List (Nat × AV)) (hb : F.t s = .box (boxGen (F.t s)) row) (h : (F.n, F.H, F.m, l.map fun p => F.t p.1) = (n, H, m, l.map fun p => p.2)) (k : ∀ t c al g, Aw cfg b ⟨n, upd (updL l t) s (.box g row), c, al, H, m⟩ Q) : Aw cfg b F Q := by
  simp only [Prod.mk.injEq] at h
  obtain ⟨rfl, rfl, rfl, h⟩ := h
  have := k F.t F.c F.al (boxGen (F.t s))
  rw [updL_eta l F.t h, upd_eta hb] at this
  exact this
end Go.Proofs.V
namespace Go.Proofs.V
open Go Go.RowKit
set_option linter.unusedVariables false
/-- A call that turns nothing, of arguments without addresses of the heap. -/
theorem ow_callN {cfg : Cfg} {F : St} {Q : St → Prop} {ds : List Nat} {all : Array Oper} {rest : List Oper} {lab : Nat} {type : TypeId} {pos : String} {after : Array Edge} {g : Option (Nat × Bool)} {d : Nat} {f : Operand} {args : Array Operand} {ts : Array TypeId} {k : Nat} {first captured xs : List AV} {r : AV} (hN : (xs.map strip).all (nohp 9) = true) (hr : callQ cfg (evK cfg) k (xs.map strip) = some r) (hg : guardA all { dst := some d, op := .call { callee := .value f, args, argTypes := ts }, type, pos, after, guard := g } F = some true) (hf : F.ev f = .fn (.func k) first captured)
    (has : first ++ evs F args.toList ++ captured = xs) (ha : xs.all AV.free = true) (he : cfg.eff k = false) (h64 : Nat.ble (sizeR r) 64 = true) (hd : Nat.blt d F.n = true)
    (h : Ow cfg false ds all rest (lab + 64) { F with t := upd F.t d (adoptR lab r), al := markR lab F.al r } Q) : Ow cfg false ds all ({ dst := some d, op := .call { callee := .value f, args, argTypes := ts }, type, pos, after, guard := g } :: rest) lab F Q :=
  ow_callG hg hf has ha he (by rw [hN, Bool.or_true]) hr h64 hd h
end Go.Proofs.V
namespace Go.Proofs.V
open Go Go.RowKit
set_option linter.unusedVariables false
set_option linter.unusedSimpArgs false
/-- A piece of code, by the kernel. -/
theorem aw_kc {cfg : Cfg} {c : Code} {F : St} {Q : X → St → Prop} (k : Nat) (hs : ((evN cfg k).1 c F).isSome = true) (x : X) (hx : (((evN cfg k).1 c F).get hs).1 = x) (h : Q x (((evN cfg k).1 c F).get hs).2) : Aw cfg c F Q := by
  subst hx
  exact ⟨(((evN cfg k).1 c F).get hs).1, (((evN cfg k).1 c F).get hs).2, evC_some.2 ⟨k, (Option.some_get hs).symm⟩, h⟩
theorem aw_skc {cfg : Cfg} {c b : Code} {F : St} {Q : X → St → Prop} (k : Nat) (hs : ((evN cfg k).1 c F).isSome = true) (hx : (((evN cfg k).1 c F).get hs).1 = .normal) (h : Aw cfg b (((evN cfg k).1 c F).get hs).2 Q) : Aw cfg (.seq c b) F Q :=
  aw_seq (aw_kc k hs .normal hx h)
/-- The mark of what a call hands back. -/
def adO (lab : Nat) : Own → Own
  | .fresh => .id lab
  | x => x
def finO : Own → Own
  | .fresh => .no
  | x => x
theorem adopt_sl (lab : Nat) (rows : List (List AV)) (nl : Bool) (o : Own) : adoptR lab (.slice rows nl o) = .slice rows nl (adO lab o) := by
  cases o <;> rfl
theorem strip1_ad {o : Own} (h : o = .full ∨ o = .fresh) (lab : Nat) (rows : List (List AV)) (nl : Bool) : strip1 (.slice rows nl (adO lab o)) = .slice rows nl (finO o) := by
  rcases h with rfl | rfl <;> rfl
/-- A call that turns the heap; its result, in the taker's hands. -/
theorem ow_callEv {cfg : Cfg} {F : St} {Q : St → Prop} {ds : List Nat} {all : Array Oper} {rest : List Oper} {lab : Nat} {type : TypeId} {pos : String} {after : Array Edge} {g : Option (Nat × Bool)} {d : Nat} {f : Operand} {args : Array Operand} {ts : Array TypeId} {k : Nat} {first captured xs : List AV} {r v : AV} {H0 H1 : List (List AV)} (hr : evK cfg k (xs.map strip) H0 = some (r, H1)) (hv : adoptR lab r = v) (hH : F.H = H0) (hg : guardA all { dst := some d, op := .call { callee := .value f, args, argTypes := ts }, type, pos, after, guard := g } F = some true) (hf : F.ev f = .fn (.func k) first captured)
    (has : first ++ evs F args.toList ++ captured = xs) (ha : xs.all AV.free = true) (he : cfg.eff k = true) (h64 : Nat.ble (sizeR r) 64 = true) (hd : Nat.blt d F.n = true)
    (h : Ow cfg false ds all rest (lab + 64) { F with t := upd F.t d v, al := markR lab F.al r, H := H1 } Q) : Ow cfg false ds all ({ dst := some d, op := .call { callee := .value f, args, argTypes := ts }, type, pos, after, guard := g } :: rest) lab F Q := by
  subst hv
  exact ow_callE0 hr hH hg hf has ha he h64 hd h
end Go.Proofs.V
namespace Go.Proofs.V
open Go Go.RowKit
set_option linter.unusedVariables false
/-- A state with a row that is nil, or one's own. -/
def IsG (n : Nat) (H : List (List AV)) (m : TypeId → Bool) (j : Nat) (rows : List (List AV)) (l : List (Nat × AV)) (F : St) : Prop := ∃ t c al o nl, F = ⟨n, upd (updL l t) j (.slice rows nl o), c, al, H, m⟩ ∧ ((rows = [] ∧ o = .full ∧ nl = true) ∨ ∃ k, o = .id k ∧ al k = true ∧ nl = false)
theorem isG_nil {n : Nat} {H : List (List AV)} {m : TypeId → Bool} {j : Nat} {rows : List (List AV)} {l : List (Nat × AV)} {F : St} (h : (F.n, F.H, F.m, F.t j, l.map fun p => F.t p.1) = (n, H, m, .slice [] true .full, l.map fun p => p.2)) (hr : [] = rows) : IsG n H m j rows l F := by
  obtain ⟨t, c, al, o, nl, h1, _⟩ := isF_of (rows := rows) (o := .full) (nl := true) h hr fresh_full
  subst hr
  simp only [Prod.mk.injEq] at h
  obtain ⟨rfl, rfl, rfl, h0, h⟩ := h
  exact ⟨F.t, F.c, F.al, .full, true, by rw [updL_eta l F.t h, upd_eta h0], .inl ⟨rfl, rfl, rfl⟩⟩
theorem isG_id {n : Nat} {H : List (List AV)} {m : TypeId → Bool} {j k : Nat} {al' : Nat → Bool} {rows rows' : List (List AV)} {l l' : List (Nat × AV)} {F : St} (hl : l' = l) (h : (F.n, F.H, F.m, F.t j, l'.map fun p => F.t p.1) = (n, H, m, .slice rows' false (.id k), l'.map fun p => p.2)) (hr : rows' = rows) (he : F.al = al') (hk : al' k = true) : IsG n H m j rows l F := by
  subst hl
  subst hr
  simp only [Prod.mk.injEq] at h
  obtain ⟨rfl, rfl, rfl, h0, h⟩ := h
  exact ⟨F.t, F.c, F.al, .id k, false, by rw [updL_eta l' F.t h, upd_eta h0], .inr ⟨k, rfl, by rw [he]; exact hk, rfl⟩⟩
theorem freshG {al : Nat → Bool} {o : Own} {nl : Bool} {rows : List (List AV)} (h : (rows = [] ∧ o = .full ∧ nl = true) ∨ ∃ k, o = .id k ∧ al k = true ∧ nl = false) : Fresh al o := by
  rcases h with ⟨_, h, _⟩ | ⟨k, h, hk, _⟩
  · exact .inl h
  · exact .inr ⟨k, h, hk⟩
/-- A row as it is handed back: nil, or of new memory. -/
def RO {α : Type} (xs : List α) (nl : Bool) (o : Own) : Prop := (xs = [] ∧ nl = true ∧ o = .full) ∨ (nl = false ∧ o = .fresh)
end Go.Proofs.V

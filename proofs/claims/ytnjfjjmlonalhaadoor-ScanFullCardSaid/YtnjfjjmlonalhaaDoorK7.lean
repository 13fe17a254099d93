/- Within a region: nothing but these slots matters any more. -/
import Derived.Test.YtnjfjjmlonalhaaDoorK6
namespace Go.Proofs.V
open Go Go.RowKit
set_option linter.unusedVariables false
theorem ow_abs {cfg : Cfg} {F : St} {Q : St → Prop} {draw : Bool} {ds : List Nat} {all : Array Oper} {rest : List Oper} {lab : Nat} (n : Nat) (H : List (List AV)) (m : TypeId → Bool) (l : List (Nat × AV)) (h : (F.n, F.H, F.m, l.map fun p => F.t p.1) = (n, H, m, l.map fun p => p.2)) (k : ∀ t c al, Ow cfg draw ds all rest lab ⟨n, updL l t, c, al, H, m⟩ Q) : Ow cfg draw ds all rest lab F Q := by
  obtain ⟨t, c, al, rfl⟩ := is_of h
  exact k t c al
end Go.Proofs.V
namespace Go.Proofs.V
open Go Go.RowKit
set_option linter.unusedVariables false
def isB : AV → Bool
  | .at (.bool _) => true
  | _ => false
def theB : AV → Bool
  | .at (.bool b) => b
  | _ => false
theorem isB_eq {x : AV} (h : isB x = true) : x = .at (.bool (theB x)) := by
  unfold isB at h
  split at h
  · rfl
  · cases h
theorem Ow.mono {cfg : Cfg} {F : St} {Q Q' : St → Prop} {draw : Bool} {ds : List Nat} {all : Array Oper} {rest : List Oper} {lab : Nat} (h : Ow cfg draw ds all rest lab F Q) (hq : ∀ F, Q F → Q' F) : Ow cfg draw ds all rest lab F Q' := let ⟨F', e, q⟩ := h; ⟨F', e, hq _ q⟩
section
variable {cfg : Cfg} {F : St} {Q : X → St → Prop} {b : Code} {id : Nat} {ops : Array Oper} {draw : Bool}
/-- A region, and what follows, with what is known between. -/
theorem aw_mid (I : St → Prop) (h : Ow cfg draw (dsOf cfg ops draw) ops ops.toList F.c F (fun F' => I { F' with c := F.c + 64 * ops.size })) (k : ∀ F, I F → Aw cfg b F Q) : Aw cfg (.seq (.region id ops draw) b) F Q :=
  aw_sr (h.mono fun F' h => k _ h)
/-- A branch on a truth value of which nothing is known. -/
theorem aw_condX {c : Operand} {p q : Code} (hc : isB (F.ev c) = true) (h1 : Aw cfg p F Q) (h2 : Aw cfg q F Q) : Aw cfg (.cond c p q) F Q :=
  aw_cond (isB_eq hc) (fun _ => h1) (fun _ => h2)
theorem aw_scX {c : Operand} {p q : Code} (hc : isB (F.ev c) = true) (h1 : Aw cfg (.seq p b) F Q) (h2 : Aw cfg (.seq q b) F Q) : Aw cfg (.seq (.cond c p q) b) F Q :=
  aw_sc _ (isB_eq hc) (fun _ => h1) (fun _ => h2)
end
/-- A state known at some slots, and a truth value at one more. -/
def IsB (n : Nat) (H : List (List AV)) (m : TypeId → Bool) (j : Nat) (p : Bool → Prop) (l : List (Nat × AV)) (F : St) : Prop := ∃ v, p v ∧ Is n H m ((j, .at (.bool v)) :: l) F
theorem isB_of {n : Nat} {H : List (List AV)} {m : TypeId → Bool} {j : Nat} {p : Bool → Prop} {l : List (Nat × AV)} {F : St} (v : Bool) (hv : p v) (h : (F.n, F.H, F.m, F.t j, l.map fun p => F.t p.1) = (n, H, m, .at (.bool v), l.map fun p => p.2)) : IsB n H m j p l F := by
  simp only [Prod.mk.injEq] at h
  obtain ⟨h1, h2, h3, h0, h⟩ := h
  exact ⟨v, hv, is_of (by simp only [List.map_cons, h1, h2, h3, h0, h])⟩
/-- The same, whatever truth value it is. -/
theorem isBX_of {n : Nat} {H : List (List AV)} {m : TypeId → Bool} {j : Nat} {l : List (Nat × AV)} {F : St} (hb : isB (F.t j) = true) (h : (F.n, F.H, F.m, l.map fun p => F.t p.1) = (n, H, m, l.map fun p => p.2)) : IsB n H m j (fun _ => True) l F := by
  simp only [Prod.mk.injEq] at h
  obtain ⟨h1, h2, h3, h⟩ := h
  exact ⟨theB (F.t j), trivial, is_of (by simp only [List.map_cons, h1, h2, h3, h, ← isB_eq hb])⟩
end Go.Proofs.V
namespace Go.Proofs.V
open Go Go.RowKit
set_option linter.unusedVariables false
/-- A test of which nothing is known. -/
theorem ow_any {cfg : Cfg} {F : St} {Q : St → Prop} {draw : Bool} {ds : List Nat} {all : Array Oper} {rest : List Oper} {lab : Nat} {type : TypeId} {pos : String} {after : Array Edge} {g : Option (Nat × Bool)} {d : Nat} {op : Op} (hq : (match quiet cfg.P F ds lab op with | some x => isB x | none => false) = true) (hc : Op.calm op = true) (hg : guardA all { dst := some d, op, type, pos, after, guard := g } F = some true) (hA : (allocH cfg.P F op).isNone = true) (hd : Nat.blt d F.n = true)
    (h : ∀ w : Bool, Ow cfg draw ds all rest (lab + 64) { F with t := upd F.t d (.at (.bool w)) } Q) : Ow cfg draw ds all ({ dst := some d, op, type, pos, after, guard := g } :: rest) lab F Q := by
  cases hv : quiet cfg.P F ds lab op with
  | none => rw [hv] at hq; cases hq
  | some x =>
    rw [hv] at hq
    exact ow_val hc hg hA (hv.trans (congrArg some (isB_eq hq))) hd (h _)
end Go.Proofs.V
namespace Go.Proofs.V
open Go Go.RowKit
set_option linter.unusedVariables false
set_option linter.unusedSimpArgs false
section
variable {cfg : Cfg} {F : St} {Q : St → Prop} {draw : Bool} {ds : List Nat} {all : Array Oper} {rest : List Oper} {lab : Nat} {type : TypeId} {pos : String} {after : Array Edge} {g : Option (Nat × Bool)} {d : Nat}
theorem ow_mk {t e : TypeId} {x y : Operand} {z : List AV} {n sz by_ : Nat} (hn : n ≠ 0) (h1 : n ≤ 35184372088832) (h2 : n * by_ ≤ 35184372088832) (hm : F.m t = true) (hx : F.ev x = .at (.int .i64 (n : Int))) (hy : F.ev y = .at (.int .i64 (n : Int))) (he : tel cfg.P t = some e) (hz : tzero cfg.P e = some z) (hs : tsz cfg.P e = some sz) (hb : tby cfg.P e = some by_) (hzl : z.length = sz) (hsz : (sz == 0) = false)
    (hg : guardA all { dst := some d, op := .makeSlice t x y, type, pos, after, guard := g } F = some true) (hd : Nat.blt d F.n = true)
    (h : Ow cfg false ds all rest (lab + 64) { F with t := upd F.t d (.hs F.H.length 0 n n sz), H := F.H ++ [(List.replicate n z).flatten] } Q) : Ow cfg false ds all ({ dst := some d, op := .makeSlice t x y, type, pos, after, guard := g } :: rest) lab F Q := by
  have hd' : d < F.n := by simpa using hd
  have hsz' : sz ≠ 0 := by simpa using hsz
  have hq : quiet cfg.P F [] 0 (.makeSlice t x y) = some (.slice (List.replicate n z) false .full) := by
    simp only [quiet, he, hx, hy, intOfA, hz, hs, hb]
    rw [if_pos ⟨trivial, by omega, by omega, by rw [Int.toNat_natCast]; exact h2, hzl, hsz'⟩, Int.toNat_natCast]
  refine ow_cons (w := true) hg (fun _ => ⟨_, ?_, h⟩) (fun h => by cases h)
  have hne : ¬ (List.replicate n z).length = 0 := by rw [List.length_replicate]; exact hn
  simp only [opRun, allocH, hm, if_true, hq, he, Option.bind_some, hs, hne, if_false, Bool.false_eq_true, List.length_replicate, St.put, hd', hn]
theorem ow_hat {ty e : TypeId} {x i : Operand} {l off len cap sz : Nat} {n : Int} (h0 : 0 ≤ n) (h1 : n < len) (hx : F.ev x = .hs l off len cap sz) (hi : F.ev i = .at (.int .i64 n)) (he : tel cfg.P ty = some e) (hz : tsz cfg.P e = some sz)
    (hg : guardA all { dst := some d, op := .indexAddr ty x i, type, pos, after, guard := g } F = some true) (hd : Nat.blt d F.n = true)
    (h : Ow cfg draw ds all rest (lab + 64) { F with t := upd F.t d (.hp l (off + n.toNat * sz)) } Q) : Ow cfg draw ds all ({ dst := some d, op := .indexAddr ty x i, type, pos, after, guard := g } :: rest) lab F Q := by
  refine ow_val rfl hg rfl ?_ hd h
  simp only [quiet, hx, hi, indexAddrA, intOfA, he]
  rw [if_pos ⟨h0, h1, hz⟩]
theorem ow_hst {ty : TypeId} {p x : Operand} {l off : Nat} {row : List AV} {v : AV} (ho : off + v.cells.length ≤ row.length) (hp : F.ev p = .hp l off) (hr : F.H[l]? = some row) (hx : F.ev x = v) (hs : v.storable = true) (hn : tsz cfg.P ty = some v.cells.length)
    (hg : guardA all { dst := none, op := .store ty p x, type, pos, after, guard := g } F = some true)
    (h : Ow cfg draw ds all rest (lab + 64) { F with H := F.H.set l (splice row off (v.cells.map strip1)) } Q) (hbx : stBoxOk draw ds F p = true := by rfl) : Ow cfg draw ds all ({ dst := none, op := .store ty p x, type, pos, after, guard := g } :: rest) lab F Q := by
  subst hx
  refine ow_cons (w := true) hg (fun _ => ⟨_, ?_, h⟩) (fun h => by cases h)
  simp only [opRun, allocH, opRunV, hn]
  rw [if_pos ⟨⟨hs, by trivial⟩, hbx⟩, hp]
  simp only [St.write, hr, ho, if_true, Option.bind_some, St.put]
theorem ow_hsl {ty e : TypeId} {x : Operand} {lo hi : Option Operand} {loc off len cap sz : Nat} {l u : Int} (h0 : 0 ≤ l) (h1 : l ≤ u) (h2 : u ≤ len) (h3 : len ≤ cap) (h4 : l < cap) (hx : F.ev x = .hs loc off len cap sz) (hlo : bnd 0 (lo.map F.ev) = some l) (hhi : bnd (len : Int) (hi.map F.ev) = some u) (he : tel cfg.P ty = some e) (hz : tsz cfg.P e = some sz)
    (hg : guardA all { dst := some d, op := .slice ty x lo hi none, type, pos, after, guard := g } F = some true) (hd : Nat.blt d F.n = true)
    (h : Ow cfg draw ds all rest (lab + 64) { F with t := upd F.t d (.hs loc (off + l.toNat * sz) (u.toNat - l.toNat) (cap - l.toNat) sz) } Q) : Ow cfg draw ds all ({ dst := some d, op := .slice ty x lo hi none, type, pos, after, guard := g } :: rest) lab F Q := by
  refine ow_val rfl hg rfl ?_ hd h
  simp only [quiet, hx, sliceA, Option.map_none, he, hlo, hhi]
  rw [if_pos ⟨hz, h0, h1, h2, h3, h4⟩]
end
/-- 'evK_ofZ', of the result a property. -/
theorem evK_ofZE {cfg : Cfg} {f : Nat} {args : List AV} {fn : Func} {c : Code} {P : AV → Prop} (hf : cfg.P.funcs[f]? = some fn) (hb : fn.body = some c) (hl : args.length ≤ fn.ntmps) (hok : codeOk c = true) (hname : (fn.name == "runtime.NumGoroutine") = false) (hfz : cfg.frz f = true)
    (h : Aw cfg c { n := fn.ntmps, t := argAt args, c := 0, al := fun _ => false, H := [], m := cfg.heap f } (fun x F => (x = .normal ∨ x = .ret) ∧ ∃ vs ws, resultsA cfg.P F fn.results.toList = some vs ∧ freezeA F.H vs = some ws ∧ (ws.all AV.free && ws.all (nohp 9)) = true ∧ P (leaveR (fun _ => false) (packA ws)))) :
    ∃ r, evK cfg f args [] = some (r, []) ∧ P r := by
  obtain ⟨x, F, e, hx, vs, ws, h1, h2, h3, h4⟩ := h
  exact ⟨_, evK_ofZ hf hb hl hok hname hfz ⟨x, F, e, hx, vs, ws, h1, h2, h3, rfl⟩, h4⟩
end Go.Proofs.V
namespace Go.Proofs.V
open Go Go.RowKit
set_option linter.unusedVariables false
theorem is_atH {n : Nat} {H H' : List (List AV)} {m : TypeId → Bool} {l l' : List (Nat × AV)} {F : St} (hl : l' = l) (hH : H' = H) (h : (F.n, F.H, F.m, l'.map fun p => F.t p.1) = (n, H', m, l'.map fun p => p.2)) : Is n H m l F := by
  subst hl; subst hH; exact is_of h
theorem aw_absE {cfg : Cfg} {b : Code} {F : St} {Q : X → St → Prop} (n : Nat) (H H' : List (List AV)) (m : TypeId → Bool) (l l' : List (Nat × AV)) (hl : l' = l) (hH : H' = H) (h : (F.n, F.H, F.m, l'.map fun p => F.t p.1) = (n, H', m, l'.map fun p => p.2)) (k : ∀ t c al, Aw cfg b ⟨n, updL l t, c, al, H, m⟩ Q) : Aw cfg b F Q := by
  obtain ⟨t, c, al, rfl⟩ := is_atH hl hH h
  exact k t c al
/-- A loop in a block that is left in one way, with what is known then. -/
theorem aw_sforJ {cfg : Cfg} {F : St} {Q : X → St → Prop} {b body : Code} {id : Nat} (N : Nat) (I : Nat → St → Prop) (J : St → Prop) (h0 : I 0 F) (round : ∀ i F, i < N → I i F → Aw cfg body F (Then (I (i + 1)) (fun x F => x = .exit id ∧ J F))) (last : ∀ F, I N F → Aw cfg body F (Then (fun _ => False) (fun x F => x = .exit id ∧ J F))) (k : ∀ F, J F → Aw cfg b F Q) : Aw cfg (.seq (.block id (.loop body)) b) F Q := by
  refine aw_seq (aw_block ((aw_for N I h0 round last).mono fun x F h => ?_))
  obtain ⟨rfl, hJ⟩ := h
  simp only [InBlock, if_true, Then]
  exact k F hJ
end Go.Proofs.V
namespace Go.Proofs.V
open Go Go.RowKit
set_option linter.unusedVariables false
theorem isF_at {n : Nat} {H : List (List AV)} {m : TypeId → Bool} {j : Nat} {rows rows' : List (List AV)} {o : Own} {nl : Bool} {l l' : List (Nat × AV)} {F : St} (hl : l' = l) (h : (F.n, F.H, F.m, F.t j, l'.map fun p => F.t p.1) = (n, H, m, .slice rows' nl o, l'.map fun p => p.2)) (hr : rows' = rows) (ho : Fresh F.al o) : IsF n H m j rows l F := by
  subst hl; exact isF_of h hr ho
theorem freshE {al al' : Nat → Bool} {o : Own} (e : al = al') (h : Fresh al' o) : Fresh al o := by subst e; exact h
theorem freshE_id {al al' : Nat → Bool} {k : Nat} (e : al = al') (h : al' k = true) : Fresh al (.id k) := by subst e; exact fresh_id h
/-- Nothing but these slots matters any more, of which one is a variable of the frame's own. -/
theorem aw_absB {cfg : Cfg} {b : Code} {F : St} {Q : X → St → Prop} (n : Nat) (H : List (List AV)) (m : TypeId → Bool) (s : Nat) (row : List AV) (l : List (Nat × AV)) (hb : F.t s = .box (boxGen (F.t s)) row) (h : (F.n, F.H, F.m, l.map fun p => F.t p.1) = (n, H, m, l.map fun p => p.2)) (k : ∀ t c al g, Aw cfg b ⟨n, upd (updL l t) s (.box g row), c, al, H, m⟩ Q) : Aw cfg b F Q := by
  simp only [Prod.mk.injEq] at h
  obtain ⟨rfl, rfl, rfl, h⟩ := h
  have := k F.t F.c F.al (boxGen (F.t s))
  rw [updL_eta l F.t h, upd_eta hb] at this
  exact this
theorem ow_absB {cfg : Cfg} {F : St} {Q : St → Prop} {draw : Bool} {ds : List Nat} {all : Array Oper} {rest : List Oper} {lab : Nat} (n : Nat) (H : List (List AV)) (m : TypeId → Bool) (s : Nat) (row : List AV) (l : List (Nat × AV)) (hb : F.t s = .box (boxGen (F.t s)) row) (h : (F.n, F.H, F.m, l.map fun p => F.t p.1) = (n, H, m, l.map fun p => p.2)) (k : ∀ t c al g, Ow cfg draw ds all rest lab ⟨n, upd (updL l t) s (.box g row), c, al, H, m⟩ Q) : Ow cfg draw ds all rest lab F Q := by
  simp only [Prod.mk.injEq] at h
  obtain ⟨rfl, rfl, rfl, h⟩ := h
  have := k F.t F.c F.al (boxGen (F.t s))
  rw [updL_eta l F.t h, upd_eta hb] at this
  exact this
/-- A call of which the arguments without their marks are told. -/
theorem ow_callA {cfg : Cfg} {F : St} {Q : St → Prop} {ds : List Nat} {all : Array Oper} {rest : List Oper} {lab : Nat} {type : TypeId} {pos : String} {after : Array Edge} {g : Option (Nat × Bool)} {d : Nat} {f : Operand} {args : Array Operand} {ts : Array TypeId} {k : Nat} {first captured xs : List AV} {r : AV} (hg : guardA all { dst := some d, op := .call { callee := .value f, args, argTypes := ts }, type, pos, after, guard := g } F = some true) (hf : F.ev f = .fn (.func k) first captured)
    (has : (first ++ evs F args.toList ++ captured).map strip = xs) (ha : (first ++ evs F args.toList ++ captured).all AV.free = true) (he : cfg.eff k = false) (hH : F.H.isEmpty = true) (hr : callQ cfg (evK cfg) k xs = some r) (h64 : Nat.ble (sizeR r) 64 = true) (hd : Nat.blt d F.n = true)
    (h : Ow cfg false ds all rest (lab + 64) { F with t := upd F.t d (adoptR lab r), al := markR lab F.al r } Q) : Ow cfg false ds all ({ dst := some d, op := .call { callee := .value f, args, argTypes := ts }, type, pos, after, guard := g } :: rest) lab F Q := by
  subst has
  exact ow_callG hg hf rfl ha he (by rw [hH]; rfl) hr h64 hd h
end Go.Proofs.V
namespace Go.Proofs.V
open Go Go.RowKit
set_option linter.unusedVariables false
/-- A call that turns nothing, of arguments without addresses of the heap. -/
theorem ow_callN {cfg : Cfg} {F : St} {Q : St → Prop} {ds : List Nat} {all : Array Oper} {rest : List Oper} {lab : Nat} {type : TypeId} {pos : String} {after : Array Edge} {g : Option (Nat × Bool)} {d : Nat} {f : Operand} {args : Array Operand} {ts : Array TypeId} {k : Nat} {first captured xs : List AV} {r : AV} (hN : (xs.map strip).all (nohp 9) = true) (hr : callQ cfg (evK cfg) k (xs.map strip) = some r) (hg : guardA all { dst := some d, op := .call { callee := .value f, args, argTypes := ts }, type, pos, after, guard := g } F = some true) (hf : F.ev f = .fn (.func k) first captured)
    (has : first ++ evs F args.toList ++ captured = xs) (ha : xs.all AV.free = true) (he : cfg.eff k = false) (h64 : Nat.ble (sizeR r) 64 = true) (hd : Nat.blt d F.n = true)
    (h : Ow cfg false ds all rest (lab + 64) { F with t := upd F.t d (adoptR lab r), al := markR lab F.al r } Q) : Ow cfg false ds all ({ dst := some d, op := .call { callee := .value f, args, argTypes := ts }, type, pos, after, guard := g } :: rest) lab F Q :=
  ow_callG hg hf has ha he (by rw [hN, Bool.or_true]) hr h64 hd h
end Go.Proofs.V
namespace Go.Proofs.V
open Go Go.RowKit
set_option linter.unusedVariables false
set_option linter.unusedSimpArgs false
/-- A piece of code, by the kernel. -/
theorem aw_kc {cfg : Cfg} {c : Code} {F : St} {Q : X → St → Prop} (k : Nat) (hs : ((evN cfg k).1 c F).isSome = true) (x : X) (hx : (((evN cfg k).1 c F).get hs).1 = x) (h : Q x (((evN cfg k).1 c F).get hs).2) : Aw cfg c F Q := by
  subst hx
  exact ⟨(((evN cfg k).1 c F).get hs).1, (((evN cfg k).1 c F).get hs).2, evC_some.2 ⟨k, (Option.some_get hs).symm⟩, h⟩
theorem aw_skc {cfg : Cfg} {c b : Code} {F : St} {Q : X → St → Prop} (k : Nat) (hs : ((evN cfg k).1 c F).isSome = true) (hx : (((evN cfg k).1 c F).get hs).1 = .normal) (h : Aw cfg b (((evN cfg k).1 c F).get hs).2 Q) : Aw cfg (.seq c b) F Q :=
  aw_seq (aw_kc k hs .normal hx h)
/-- The mark of what a call hands back. -/
def adO (lab : Nat) : Own → Own
  | .fresh => .id lab
  | x => x
def finO : Own → Own
  | .fresh => .no
  | x => x
theorem adopt_sl (lab : Nat) (rows : List (List AV)) (nl : Bool) (o : Own) : adoptR lab (.slice rows nl o) = .slice rows nl (adO lab o) := by
  cases o <;> rfl
theorem strip1_ad {o : Own} (h : o = .full ∨ o = .fresh) (lab : Nat) (rows : List (List AV)) (nl : Bool) : strip1 (.slice rows nl (adO lab o)) = .slice rows nl (finO o) := by
  rcases h with rfl | rfl <;> rfl
/-- A call that turns the heap; its result, in the taker's hands. -/
theorem ow_callEv {cfg : Cfg} {F : St} {Q : St → Prop} {ds : List Nat} {all : Array Oper} {rest : List Oper} {lab : Nat} {type : TypeId} {pos : String} {after : Array Edge} {g : Option (Nat × Bool)} {d : Nat} {f : Operand} {args : Array Operand} {ts : Array TypeId} {k : Nat} {first captured xs : List AV} {r v : AV} {H0 H1 : List (List AV)} (hr : evK cfg k (xs.map strip) H0 = some (r, H1)) (hv : adoptR lab r = v) (hH : F.H = H0) (hg : guardA all { dst := some d, op := .call { callee := .value f, args, argTypes := ts }, type, pos, after, guard := g } F = some true) (hf : F.ev f = .fn (.func k) first captured)
    (has : first ++ evs F args.toList ++ captured = xs) (ha : xs.all AV.free = true) (he : cfg.eff k = true) (h64 : Nat.ble (sizeR r) 64 = true) (hd : Nat.blt d F.n = true)
    (h : Ow cfg false ds all rest (lab + 64) { F with t := upd F.t d v, al := markR lab F.al r, H := H1 } Q) : Ow cfg false ds all ({ dst := some d, op := .call { callee := .value f, args, argTypes := ts }, type, pos, after, guard := g } :: rest) lab F Q := by
  subst hv
  exact ow_callE0 hr hH hg hf has ha he h64 hd h
end Go.Proofs.V
namespace Go.Proofs.V
open Go Go.RowKit
set_option linter.unusedVariables false
/-- A state with a row that is nil, or one's own. -/
def IsG (n : Nat) (H : List (List AV)) (m : TypeId → Bool) (j : Nat) (rows : List (List AV)) (l : List (Nat × AV)) (F : St) : Prop := ∃ t c al o nl, F = ⟨n, upd (updL l t) j (.slice rows nl o), c, al, H, m⟩ ∧ ((rows = [] ∧ o = .full ∧ nl = true) ∨ ∃ k, o = .id k ∧ al k = true ∧ nl = false)
theorem isG_nil {n : Nat} {H : List (List AV)} {m : TypeId → Bool} {j : Nat} {rows : List (List AV)} {l : List (Nat × AV)} {F : St} (h : (F.n, F.H, F.m, F.t j, l.map fun p => F.t p.1) = (n, H, m, .slice [] true .full, l.map fun p => p.2)) (hr : [] = rows) : IsG n H m j rows l F := by
  obtain ⟨t, c, al, o, nl, h1, _⟩ := isF_of (rows := rows) (o := .full) (nl := true) h hr fresh_full
  subst hr
  simp only [Prod.mk.injEq] at h
  obtain ⟨rfl, rfl, rfl, h0, h⟩ := h
  exact ⟨F.t, F.c, F.al, .full, true, by rw [updL_eta l F.t h, upd_eta h0], .inl ⟨rfl, rfl, rfl⟩⟩
theorem isG_id {n : Nat} {H : List (List AV)} {m : TypeId → Bool} {j k : Nat} {al' : Nat → Bool} {rows rows' : List (List AV)} {l l' : List (Nat × AV)} {F : St} (hl : l' = l) (h : (F.n, F.H, F.m, F.t j, l'.map fun p => F.t p.1) = (n, H, m, .slice rows' false (.id k), l'.map fun p => p.2)) (hr : rows' = rows) (he : F.al = al') (hk : al' k = true) : IsG n H m j rows l F := by
  subst hl
  subst hr
  simp only [Prod.mk.injEq] at h
  obtain ⟨rfl, rfl, rfl, h0, h⟩ := h
  exact ⟨F.t, F.c, F.al, .id k, false, by rw [updL_eta l' F.t h, upd_eta h0], .inr ⟨k, rfl, by rw [he]; exact hk, rfl⟩⟩
theorem freshG {al : Nat → Bool} {o : Own} {nl : Bool} {rows : List (List AV)} (h : (rows = [] ∧ o = .full ∧ nl = true) ∨ ∃ k, o = .id k ∧ al k = true ∧ nl = false) : Fresh al o := by
  rcases h with ⟨_, h, _⟩ | ⟨k, h, hk, _⟩
  · exact .inl h
  · exact .inr ⟨k, h, hk⟩
/-- A row as it is handed back: nil, or of new memory. -/
def RO {α : Type} (xs : List α) (nl : Bool) (o : Own) : Prop := (xs = [] ∧ nl = true ∧ o = .full) ∨ (nl = false ∧ o = .fresh)
end Go.Proofs.V

/- Steps, shorter: regions, branches, loops by rounds; states that are known at some slots. -/
import Derived.Test.YtdgihbbekacgcaaGreatDoorK9
import Derived.IntWalk
namespace Go.Proofs.V
open Go Go.RowKit
set_option linter.unusedVariables false
set_option linter.unusedSimpArgs false
/-- Slots that are known. -/
def updL : List (Nat × AV) → (Nat → AV) → Nat → AV
  | [], t => t
  | (i, v) :: r, t => upd (updL r t) i v
theorem updL_eta : ∀ (l : List (Nat × AV)) (t : Nat → AV), l.map (fun p => t p.1) = l.map (fun p => p.2) → updL l t = t
  | [], _, _ => rfl
  | (i, v) :: r, t, h => by
    simp only [List.map_cons, List.cons.injEq] at h
    simp only [updL]
    rw [updL_eta r t h.2]
    exact upd_eta h.1
/-- A state that is known at some slots. -/
def Is (n : Nat) (H : List (List AV)) (m : TypeId → Bool) (l : List (Nat × AV)) (F : St) : Prop := ∃ t c al, F = ⟨n, updL l t, c, al, H, m⟩
theorem is_of {n : Nat} {H : List (List AV)} {m : TypeId → Bool} {l : List (Nat × AV)} {F : St} (h : (F.n, F.H, F.m, l.map fun p => F.t p.1) = (n, H, m, l.map fun p => p.2)) : Is n H m l F := by
  simp only [Prod.mk.injEq] at h
  obtain ⟨rfl, rfl, rfl, h⟩ := h
  exact ⟨F.t, F.c, F.al, by rw [updL_eta l F.t h]⟩
theorem wrapI {x : Int} (h0 : -9223372036854775808 ≤ x) (h1 : x < 9223372036854775808) : IntKind.i64.wrap x = x := IntWalk.i64_in x ⟨h0, by omega⟩
theorem succ64 {i : Nat} (h : i < 4611686018427387904) : IntKind.i64.wrap ((i : Int) + 1) = ((i + 1 : Nat) : Int) := by
  rw [wrapI (by omega) (by omega)]
  omega

section
variable {cfg : Cfg} {F : St} {Q : X → St → Prop} {b : Code} {id : Nat} {ops : Array Oper} {draw : Bool}
/-- A region, and what follows. -/
theorem aw_sr (h : Ow cfg draw (dsOf cfg ops draw) ops ops.toList F.c F (fun F' => Aw cfg b { F' with c := F.c + 64 * ops.size } Q)) : Aw cfg (.seq (.region id ops draw) b) F Q :=
  aw_seq (aw_region h)
/-- A region that the kernel carries out. -/
theorem aw_sk (k : Nat) (hs : (opsRun cfg (evN cfg k).2 draw (dsOf cfg ops draw) ops ops.toList F.c F).isSome = true)
    (h : Aw cfg b { (opsRun cfg (evN cfg k).2 draw (dsOf cfg ops draw) ops ops.toList F.c F).get hs with c := F.c + 64 * ops.size } Q) : Aw cfg (.seq (.region id ops draw) b) F Q :=
  aw_sr (ow_all k hs h)
theorem aw_rk (k : Nat) (hs : (opsRun cfg (evN cfg k).2 draw (dsOf cfg ops draw) ops ops.toList F.c F).isSome = true)
    (h : Q .normal { (opsRun cfg (evN cfg k).2 draw (dsOf cfg ops draw) ops ops.toList F.c F).get hs with c := F.c + 64 * ops.size }) : Aw cfg (.region id ops draw) F Q :=
  aw_region (ow_all k hs h)
theorem aw_sskip (h : Aw cfg b F Q) : Aw cfg (.seq .skip b) F Q := aw_seq (aw_skip h)
theorem aw_sexit {c : Code} {i : Nat} (h : Q (.exit i) F) : Aw cfg (.seq (.exit i) c) F Q := aw_seq (aw_exit h)
theorem aw_assoc {a c d : Code} (h : Aw cfg (.seq a (.seq c d)) F Q) : Aw cfg (.seq (.seq a c) d) F Q := by
  obtain ⟨x, F', e, q⟩ := h
  refine ⟨x, F', ?_, q⟩
  rw [← e]
  simp only [evC_seq]
  cases evC cfg a F with
  | none => rfl
  | some r =>
    obtain ⟨x, F1⟩ := r
    cases x <;> rfl
/-- A branch, and what follows. -/
theorem aw_sc {c : Operand} {p q : Code} (t : Bool) (hc : F.ev c = .at (.bool t)) (h1 : t = true → Aw cfg (.seq p b) F Q) (h2 : t = false → Aw cfg (.seq q b) F Q) : Aw cfg (.seq (.cond c p q) b) F Q := by
  refine aw_seq (aw_cond hc (fun h => ?_) (fun h => ?_))
  · obtain ⟨x, F', e, r⟩ := h1 h
    rw [evC_seq] at e
    cases ha : evC cfg p F with
    | none => rw [ha] at e; cases e
    | some y =>
      obtain ⟨z, F1⟩ := y
      refine ⟨z, F1, ha, ?_⟩
      rw [ha] at e
      cases z with
      | normal => exact ⟨x, F', e, r⟩
      | _ => cases e; exact r
  · obtain ⟨x, F', e, r⟩ := h2 h
    rw [evC_seq] at e
    cases ha : evC cfg q F with
    | none => rw [ha] at e; cases e
    | some y =>
      obtain ⟨z, F1⟩ := y
      refine ⟨z, F1, ha, ?_⟩
      rw [ha] at e
      cases z with
      | normal => exact ⟨x, F', e, r⟩
      | _ => cases e; exact r
/-- A loop of so many rounds. -/
theorem aw_for {body : Code} (N : Nat) (I : Nat → St → Prop) (h0 : I 0 F) (round : ∀ i F, i < N → I i F → Aw cfg body F (Then (I (i + 1)) Q)) (last : ∀ F, I N F → Aw cfg body F (Then (fun _ => False) Q)) : Aw cfg (.loop body) F Q := by
  have key : ∀ k i F, i + k = N → I i F → Aw cfg (.loop body) F Q := by
    intro k
    induction k with
    | zero =>
      intro i F hi hI
      obtain rfl : i = N := by omega
      refine aw_loop1 ((last F hI).mono fun x F' h => ?_)
      cases x with
      | normal => exact h.elim
      | _ => exact h
    | succ k ih =>
      intro i F hi hI
      refine aw_loop1 ((round i F (by omega) hI).mono fun x F' h => ?_)
      cases x with
      | normal => exact ih (i + 1) F' (by omega) h
      | _ => exact h
  exact key N 0 F (by omega) h0
end
section
variable {cfg : Cfg} {F : St} {Q : St → Prop} {draw : Bool} {ds : List Nat} {all : Array Oper} {rest l : List Oper} {lab : Nat} {type : TypeId} {pos : String} {after : Array Edge} {g : Option (Nat × Bool)} {d : Nat}
/-- The first j operations, by the kernel. -/
theorem ow_k (j k : Nat) (hs : (opsRun cfg (evN cfg k).2 draw ds all (l.take j) lab F).isSome = true)
    (h : Ow cfg draw ds all (l.drop j) (lab + 64 * (l.take j).length) ((opsRun cfg (evN cfg k).2 draw ds all (l.take j) lab F).get hs) Q) : Ow cfg draw ds all l lab F Q := by
  have := ow_run (l := l.take j) (rest := l.drop j) k hs h
  rwa [List.take_append_drop] at this
/-- A truth value that is known to be this one. -/
theorem ow_is {op : Op} {x w : Bool} (hx : x = w) (hq : quiet cfg.P F ds lab op = some (.at (.bool x))) (hc : Op.calm op = true) (hg : guardA all { dst := some d, op, type, pos, after, guard := g } F = some true) (hA : (allocH cfg.P F op).isNone = true) (hd : Nat.blt d F.n = true)
    (h : Ow cfg draw ds all rest (lab + 64) { F with t := upd F.t d (.at (.bool w)) } Q) : Ow cfg draw ds all ({ dst := some d, op, type, pos, after, guard := g } :: rest) lab F Q := by
  subst hx
  exact ow_val hc hg hA hq hd h
end
end Go.Proofs.V
namespace Go.Proofs.V
open Go Go.RowKit
set_option linter.unusedVariables false
set_option linter.unusedSimpArgs false
/-- A mark that may be appended to. -/
def Fresh (al : Nat → Bool) (own : Own) : Prop := own = .full ∨ ∃ k, own = .id k ∧ al k = true
theorem leave_id {al : Nat → Bool} {rows : List (List AV)} {nl : Bool} {k : Nat} (h : al k = true) : leaveR al (.slice rows nl (.id k)) = .slice rows nl .fresh := by
  simp [leaveR, leave1, h]
section
variable {cfg : Cfg} {F : St} {Q : St → Prop} {draw : Bool} {ds : List Nat} {all : Array Oper} {rest : List Oper} {lab : Nat} {type : TypeId} {pos : String} {after : Array Edge} {g : Option (Nat × Bool)} {d : Nat}
end
end Go.Proofs.V
namespace Go.Proofs.V
open Go Go.RowKit
set_option linter.unusedVariables false
/-- A state that is known at some slots, and at one of them has a row of its own. -/
def IsF (n : Nat) (H : List (List AV)) (m : TypeId → Bool) (j : Nat) (rows : List (List AV)) (l : List (Nat × AV)) (F : St) : Prop := ∃ t c al o nl, F = ⟨n, upd (updL l t) j (.slice rows nl o), c, al, H, m⟩ ∧ Fresh al o
end Go.Proofs.V
namespace Go.Proofs.V
open Go Go.RowKit
set_option linter.unusedVariables false
end Go.Proofs.V
namespace Go.Proofs.V
open Go Go.RowKit
set_option linter.unusedVariables false
set_option linter.unusedSimpArgs false
theorem append_none {P : Program} {F : St} {lab : Nat} {t e : TypeId} {sz by_ : Nat} {x : AV} {xt : Option TypeId} {rows : List (List AV)} {z : List AV} {own : Own} (hf : Fresh F.al own) (he : tel P t = some e) (hs : tsz P e = some sz) (hb : tby P e = some by_) (hx : srcRows P F xt x = some []) (h1 : ∀ r ∈ rows, r.length = sz) (hpos : 0 < sz) (hlen : rows.length * by_ ≤ 35184372088832) (hby : 0 < by_)
    (hz : tzero P e = some z) (hzl : z.length = sz) {nl : Bool} : appendA P F lab t (.slice rows nl own) x xt = some (.slice rows nl own, F.al) := by
  have hlen' : rows.length ≤ 4611686018427387904 := by
    have := Nat.le_mul_of_pos_right rows.length hby
    omega
  unfold appendA
  simp only [he, hs, hb, hx, hz]
  have h1' : (rows.all fun r => r.length == sz) = true := List.all_eq_true.2 fun r hr => by simp [h1 r hr]
  rcases hf with rfl | ⟨k, rfl, hk⟩ <;> simp_all
section
variable {cfg : Cfg} {F : St} {Q : St → Prop} {draw : Bool} {ds : List Nat} {all : Array Oper} {rest : List Oper} {lab : Nat} {type : TypeId} {pos : String} {after : Array Edge} {g : Option (Nat × Bool)} {d : Nat}
/-- A part of a string. -/
theorem ow_substr {ty : TypeId} {x : Operand} {lo hi : Option Operand} {bs : List UInt8} {l u : Int} (h0 : 0 ≤ l) (h1 : l ≤ u) (h2 : u ≤ bs.length) (hx : F.ev x = ST bs) (hlo : bnd 0 (lo.map F.ev) = some l) (hhi : bnd (bs.length : Int) (hi.map F.ev) = some u) (hs : isStr cfg.P ty = true)
    (hg : guardA all { dst := some d, op := .slice ty x lo hi none, type, pos, after, guard := g } F = some true) (hd : Nat.blt d F.n = true)
    (h : Ow cfg draw ds all rest (lab + 64) { F with t := upd F.t d (ST ((bs.drop l.toNat).take (u.toNat - l.toNat))) } Q) : Ow cfg draw ds all ({ dst := some d, op := .slice ty x lo hi none, type, pos, after, guard := g } :: rest) lab F Q := by
  refine ow_val rfl hg rfl ?_ hd h
  have e : (⟨⟨bs⟩⟩ : ByteArray).size = bs.length := rfl
  simp only [quiet, hx, sliceA, Option.map_none, hs, hlo, e, hhi]
  rw [if_pos ⟨h0, h1, h2⟩]
end
end Go.Proofs.V
namespace Go.Proofs.V
open Go Go.RowKit
theorem leave_at {al al' : Nat → Bool} {rows : List (List AV)} {nl : Bool} {k : Nat} (e : al = al') (h : al' k = true) : leaveR al (.slice rows nl (.id k)) = .slice rows nl .fresh := by
  subst e; exact leave_id h
end Go.Proofs.V
namespace Go.Proofs.V
open Go Go.RowKit
end Go.Proofs.V
namespace Go.Proofs.V
open Go Go.RowKit
set_option linter.unusedVariables false
end Go.Proofs.V
namespace Go.Proofs.V
open Go Go.RowKit
set_option linter.unusedVariables false
set_option linter.unusedSimpArgs false
/-- A call, out of its body; of the result a property is told. -/
theorem evK_ofE {cfg : Cfg} {f : Nat} {args : List AV} {H : List (List AV)} {fn : Func} {c : Code} {P : AV → List (List AV) → Prop} (hf : cfg.P.funcs[f]? = some fn) (hb : fn.body = some c) (hl : args.length ≤ fn.ntmps) (hok : codeOk c = true) (hname : (fn.name == "runtime.NumGoroutine") = false) (hfz : cfg.frz f = false)
    (h : Aw cfg c { n := fn.ntmps, t := argAt args, c := 0, al := fun _ => false, H := H, m := cfg.heap f } (fun x F => (x = .normal ∨ x = .ret) ∧ ∃ vs, resultsA cfg.P F fn.results.toList = some vs ∧ vs.all AV.free = true ∧ P (leaveR F.al (packA vs)) F.H)) :
    ∃ r H', evK cfg f args H = some (r, H') ∧ P r H' := by
  obtain ⟨x, F, e, hx, vs, h1, h2, h3⟩ := h
  exact ⟨_, _, evK_of hf hb hl hok hname hfz ⟨x, F, e, hx, vs, h1, h2, rfl, rfl⟩, h3⟩
end Go.Proofs.V
namespace Go.Proofs.V
open Go Go.RowKit
set_option linter.unusedVariables false
set_option linter.unusedSimpArgs false
section
variable {cfg : Cfg} {F : St} {Q : St → Prop} {draw : Bool} {ds : List Nat} {all : Array Oper} {rest : List Oper} {lab : Nat} {type : TypeId} {pos : String} {after : Array Edge} {g : Option (Nat × Bool)} {d : Nat}
end
theorem is_at {n : Nat} {H : List (List AV)} {m : TypeId → Bool} {l l' : List (Nat × AV)} {F : St} (hl : l' = l) (h : (F.n, F.H, F.m, l'.map fun p => F.t p.1) = (n, H, m, l'.map fun p => p.2)) : Is n H m l F := by
  subst hl; exact is_of h
end Go.Proofs.V
namespace Go.Proofs.V
open Go Go.RowKit
set_option linter.unusedVariables false
section
variable {cfg : Cfg} {F : St} {Q : St → Prop} {draw : Bool} {ds : List Nat} {all : Array Oper} {rest : List Oper} {lab : Nat} {type : TypeId} {pos : String} {after : Array Edge} {g : Option (Nat × Bool)} {d : Nat}
theorem ow_stre {ty : TypeId} {x : Operand} {lo hi : Option Operand} {bs : List UInt8} {l u : Int} (bs' : List UInt8) (hr : (bs.drop l.toNat).take (u.toNat - l.toNat) = bs') (h0 : 0 ≤ l) (h1 : l ≤ u) (h2 : u ≤ bs.length) (hx : F.ev x = ST bs) (hlo : bnd 0 (lo.map F.ev) = some l) (hhi : bnd (bs.length : Int) (hi.map F.ev) = some u) (hs : isStr cfg.P ty = true)
    (hg : guardA all { dst := some d, op := .slice ty x lo hi none, type, pos, after, guard := g } F = some true) (hd : Nat.blt d F.n = true)
    (h : Ow cfg draw ds all rest (lab + 64) { F with t := upd F.t d (ST bs') } Q) : Ow cfg draw ds all ({ dst := some d, op := .slice ty x lo hi none, type, pos, after, guard := g } :: rest) lab F Q := by
  subst hr
  exact ow_substr h0 h1 h2 hx hlo hhi hs hg hd h
end
end Go.Proofs.V
namespace Go.Proofs.V
open Go Go.RowKit
set_option linter.unusedVariables false
end Go.Proofs.V
namespace Go.Proofs.V
open Go Go.RowKit
set_option linter.unusedVariables false
set_option linter.unusedSimpArgs false
end Go.Proofs.V

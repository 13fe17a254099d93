/- Steps, shorter: regions, branches, loops by rounds; states that are known at some slots. -/
import Derived.Test.YtdgihbbekacgcaaGreatDoorK9
import Derived.IntWalk
namespace Go.Proofs.V
open Go Go.RowKit
set_option linter.unusedVariables false
set_option linter.unusedSimpArgs false
/-- Slots that are known. -/
def updL : List (Nat × AV) → (Nat → AV) → Nat → AV
  | [], t => t
  | (i, v) :: r, t => upd (updL r t) i v
theorem updL_eta : ∀ (l : List (Nat × AV)) (t : Nat → AV), l.map (fun p => t p.1) = l.map (fun p => p.2) → updL l t = t
  | [], _, _ => rfl
  | (i, v) :: r, t, h => by
    simp only [List.map_cons, List.cons.injEq] at h
    simp only [updL]
    rw [updL_eta r t h.2]
    exact upd_eta h.1
/-- A state that is known at some slots. -/
def Is (n : Nat) (H : List (List AV)) (m : TypeId → Bool) (l : List (Nat × AV)) (F : St) : Prop := ∃ t c al, F = ⟨n, updL l t, c, al, H, m⟩
theorem is_of {n : Nat} {H : List (List AV)} {m : TypeId → Bool} {l : List (Nat × AV)} {F : St} (h : (F.n, F.H, F.m, l.map fun p => F.t p.1) = (n, H, m, l.map fun p => p.2)) : Is n H m l F := by
  simp only [Prod.mk.injEq] at h
  obtain ⟨rfl, rfl, rfl, h⟩ := h
  exact ⟨F.t, F.c, F.al, by rw [updL_eta l F.t h]⟩
theorem wrapI {x : Int} (h0 : -9223372036854775808 ≤ x) (h1 : x < 9223372036854775808) : IntKind.i64.wrap x = x := IntWalk.i64_in x ⟨h0, by omega⟩
theorem succ64 {i : Nat} (h : i < 4611686018427387904) : IntKind.i64.wrap ((i : Int) + 1) = ((i + 1 : Nat) : Int) := by
  rw [wrapI (by omega) (by omega)]
  omega

section
variable {cfg : Cfg} {F : St} {Q : X → St → Prop} {b : Code} {id : Nat} {ops : Array Oper} {draw : Bool}
/-- A region, and what follows. -/
theorem aw_sr (h : Ow cfg draw (dsOf cfg ops draw) ops ops.toList F.c F (fun F' => Aw cfg b { F' with c := F.c + 64 * ops.size } Q)) : Aw cfg (.seq (.region id ops draw) b) F Q :=
  aw_seq (aw_region h)
/-- A region that the kernel carries out. -/
theorem aw_sk (k : Nat) (hs : (opsRun cfg (evN cfg k).2 draw (dsOf cfg ops draw) ops ops.toList F.c F).isSome = true)
    (h : Aw cfg b { (opsRun cfg (evN cfg k).2 draw (dsOf cfg ops draw) ops ops.toList F.c F).get hs with c := F.c + 64 * ops.size } Q) : Aw cfg (.seq (.region id ops draw) b) F Q :=
  aw_sr (ow_all k hs h)
theorem aw_rk (k : Nat) (hs : (opsRun cfg (evN cfg k).2 draw (dsOf cfg ops draw) ops ops.toList F.c F).isSome = true)
    (h : Q .normal { (opsRun cfg (evN cfg k).2 draw (dsOf cfg ops draw) ops ops.toList F.c F).get hs with c := F.c + 64 * ops.size }) : Aw cfg (.region id ops draw) F Q :=
  aw_region (ow_all k hs h)
theorem aw_sskip (h : Aw cfg b F Q) : Aw cfg (.seq .skip b) F Q := aw_seq (aw_skip h)
theorem aw_sret {c : Code} (h : Q .ret F) : Aw cfg (.seq .ret c) F Q := aw_seq (aw_ret h)
theorem aw_sexit {c : Code} {i : Nat} (h : Q (.exit i) F) : Aw cfg (.seq (.exit i) c) F Q := aw_seq (aw_exit h)
theorem aw_assoc {a c d : Code} (h : Aw cfg (.seq a (.seq c d)) F Q) : Aw cfg (.seq (.seq a c) d) F Q := by
  obtain ⟨x, F', e, q⟩ := h
  refine ⟨x, F', ?_, q⟩
  rw [← e]
  simp only [evC_seq]
  cases evC cfg a F with
  | none => rfl
  | some r =>
    obtain ⟨x, F1⟩ := r
    cases x <;> rfl
/-- A branch, and what follows. -/
theorem aw_sc {c : Operand} {p q : Code} (t : Bool) (hc : F.ev c = .at (.bool t)) (h1 : t = true → Aw cfg (.seq p b) F Q) (h2 : t = false → Aw cfg (.seq q b) F Q) : Aw cfg (.seq (.cond c p q) b) F Q := by
  refine aw_seq (aw_cond hc (fun h => ?_) (fun h => ?_))
  · obtain ⟨x, F', e, r⟩ := h1 h
    rw [evC_seq] at e
    cases ha : evC cfg p F with
    | none => rw [ha] at e; cases e
    | some y =>
      obtain ⟨z, F1⟩ := y
      refine ⟨z, F1, ha, ?_⟩
      rw [ha] at e
      cases z with
      | normal => exact ⟨x, F', e, r⟩
      | _ => cases e; exact r
  · obtain ⟨x, F', e, r⟩ := h2 h
    rw [evC_seq] at e
    cases ha : evC cfg q F with
    | none => rw [ha] at e; cases e
    | some y =>
      obtain ⟨z, F1⟩ := y
      refine ⟨z, F1, ha, ?_⟩
      rw [ha] at e
      cases z with
      | normal => exact ⟨x, F', e, r⟩
      | _ => cases e; exact r
/-- A loop of so many rounds. -/
theorem aw_for {body : Code} (N : Nat) (I : Nat → St → Prop) (h0 : I 0 F) (round : ∀ i F, i < N → I i F → Aw cfg body F (Then (I (i + 1)) Q)) (last : ∀ F, I N F → Aw cfg body F (Then (fun _ => False) Q)) : Aw cfg (.loop body) F Q := by
  have key : ∀ k i F, i + k = N → I i F → Aw cfg (.loop body) F Q := by
    intro k
    induction k with
    | zero =>
      intro i F hi hI
      obtain rfl : i = N := by omega
      refine aw_loop1 ((last F hI).mono fun x F' h => ?_)
      cases x with
      | normal => exact h.elim
      | _ => exact h
    | succ k ih =>
      intro i F hi hI
      refine aw_loop1 ((round i F (by omega) hI).mono fun x F' h => ?_)
      cases x with
      | normal => exact ih (i + 1) F' (by omega) h
      | _ => exact h
  exact key N 0 F (by omega) h0
/-- A loop in a block, and what follows: the loop is left by its block's exit. -/
theorem aw_sfor {body : Code} (N : Nat) (I : Nat → St → Prop) (h0 : I 0 F) (round : ∀ i F, i < N → I i F → Aw cfg body F (Then (I (i + 1)) (InBlock id (Then (fun F => Aw cfg b F Q) Q)))) (last : ∀ F, I N F → Aw cfg body F (Then (fun _ => False) (InBlock id (Then (fun F => Aw cfg b F Q) Q)))) : Aw cfg (.seq (.block id (.loop body)) b) F Q :=
  aw_seq (aw_block (aw_for N I h0 round last))
end
section
variable {cfg : Cfg} {F : St} {Q : St → Prop} {draw : Bool} {ds : List Nat} {all : Array Oper} {rest l : List Oper} {lab : Nat} {type : TypeId} {pos : String} {after : Array Edge} {g : Option (Nat × Bool)} {d : Nat}
/-- The first j operations, by the kernel. -/
theorem ow_k (j k : Nat) (hs : (opsRun cfg (evN cfg k).2 draw ds all (l.take j) lab F).isSome = true)
    (h : Ow cfg draw ds all (l.drop j) (lab + 64 * (l.take j).length) ((opsRun cfg (evN cfg k).2 draw ds all (l.take j) lab F).get hs) Q) : Ow cfg draw ds all l lab F Q := by
  have := ow_run (l := l.take j) (rest := l.drop j) k hs h
  rwa [List.take_append_drop] at this
/-- A truth value that is known to be this one. -/
theorem ow_is {op : Op} {x w : Bool} (hx : x = w) (hq : quiet cfg.P F ds lab op = some (.at (.bool x))) (hc : Op.calm op = true) (hg : guardA all { dst := some d, op, type, pos, after, guard := g } F = some true) (hA : (allocH cfg.P F op).isNone = true) (hd : Nat.blt d F.n = true)
    (h : Ow cfg draw ds all rest (lab + 64) { F with t := upd F.t d (.at (.bool w)) } Q) : Ow cfg draw ds all ({ dst := some d, op, type, pos, after, guard := g } :: rest) lab F Q := by
  subst hx
  exact ow_val hc hg hA hq hd h
/-- An address in a slice. -/
theorem ow_at {ty e : TypeId} {x i : Operand} {rows : List (List AV)} {nl : Bool} {own : Own} {row : List AV} {n : Int} (hr : rows[n.toNat]? = some row) (hn : 0 ≤ n) (hx : F.ev x = .slice rows nl own) (hi : F.ev i = .at (.int .i64 n)) (he : tel cfg.P ty = some e) (hz : tsz cfg.P e = some row.length) (hg : guardA all { dst := some d, op := .indexAddr ty x i, type, pos, after, guard := g } F = some true) (hd : Nat.blt d F.n = true)
    (h : Ow cfg draw ds all rest (lab + 64) { F with t := upd F.t d (.ref row 0) } Q) : Ow cfg draw ds all ({ dst := some d, op := .indexAddr ty x i, type, pos, after, guard := g } :: rest) lab F Q := by
  refine ow_val rfl hg rfl ?_ hd h
  simp only [quiet, hx, hi, indexAddrA, intOfA, he, hn, if_true, hr, hz]
end
end Go.Proofs.V
namespace Go.Proofs.V
open Go Go.RowKit
set_option linter.unusedVariables false
set_option linter.unusedSimpArgs false
/-- A mark that may be appended to. -/
def Fresh (al : Nat → Bool) (own : Own) : Prop := own = .full ∨ ∃ k, own = .id k ∧ al k = true
theorem append_own {P : Program} {F : St} {lab : Nat} {t e : TypeId} {sz by_ : Nat} {x : AV} {xt : Option TypeId} {rows ys : List (List AV)} {z : List AV} {own : Own} (hf : Fresh F.al own) (he : tel P t = some e) (hs : tsz P e = some sz) (hb : tby P e = some by_) (hx : srcRows P F xt x = some ys) (h1 : ∀ r ∈ rows, r.length = sz) (h2 : ∀ r ∈ ys, r.length = sz) (hpos : 0 < sz) (hlen : (rows.length + ys.length) * by_ ≤ 35184372088832) (hby : 0 < by_)
    (hz : tzero P e = some z) (hzl : z.length = sz) (hne : ys ≠ []) {nl : Bool} : ∃ al', appendA P F lab t (.slice rows nl own) x xt = some (.slice (rows ++ ys) false (.id lab), al') ∧ al' lab = true := by
  have hlen' : rows.length + ys.length ≤ 4611686018427387904 := by
    have := Nat.le_mul_of_pos_right (rows.length + ys.length) hby
    omega
  rcases hf with rfl | ⟨k, rfl, hk⟩
  · exact ⟨_, append_full he hs hb hx h1 h2 hpos hlen hlen' hby hz hzl hne, by simp [upd]⟩
  · exact ⟨_, append_id he hs hb hx h1 h2 hpos hlen hlen' hby hz hzl hne hk, by simp [upd]⟩
theorem leave_id {al : Nat → Bool} {rows : List (List AV)} {nl : Bool} {k : Nat} (h : al k = true) : leaveR al (.slice rows nl (.id k)) = .slice rows nl .fresh := by
  simp [leaveR, leave1, h]
section
variable {cfg : Cfg} {F : St} {Q : St → Prop} {draw : Bool} {ds : List Nat} {all : Array Oper} {rest : List Oper} {lab : Nat} {type : TypeId} {pos : String} {after : Array Edge} {g : Option (Nat × Bool)} {d : Nat}
/-- An append to a row that is one's own. -/
theorem ow_app {s x : Operand} {ty e : TypeId} {ts : Array TypeId} {X : AV} [NotHs X] {sz by_ : Nat} {rows ys : List (List AV)} {z : List AV} {own : Own} {nl : Bool} (hf : Fresh F.al own) (hne : ys ≠ []) (h1 : ∀ r ∈ rows, r.length = sz) (h2 : ∀ r ∈ ys, r.length = sz) (hlen : (rows.length + ys.length) * by_ ≤ 35184372088832)
    (hs : F.ev s = .slice rows nl own) (hx : F.ev x = X) (hsx : srcRows cfg.P F ts[1]? X = some ys) (ht : ts[0]? = some ty) (he : tel cfg.P ty = some e) (hsz : tsz cfg.P e = some sz) (hb : tby cfg.P e = some by_) (hz : tzero cfg.P e = some z) (hzl : z.length = sz) (hpos : Nat.blt 0 sz = true) (hby : Nat.blt 0 by_ = true)
    (hg : guardA all { dst := some d, op := .call { callee := .builtin .append, args := #[s, x], argTypes := ts }, type, pos, after, guard := g } F = some true) (hd : Nat.blt d F.n = true)
    (h : ∀ al' : Nat → Bool, al' lab = true → Ow cfg draw ds all rest (lab + 64) { F with t := upd F.t d (.slice (rows ++ ys) false (.id lab)), al := al' } Q) : Ow cfg draw ds all ({ dst := some d, op := .call { callee := .builtin .append, args := #[s, x], argTypes := ts }, type, pos, after, guard := g } :: rest) lab F Q := by
  have hpos' : 0 < sz := by simpa using hpos
  have hby' : 0 < by_ := by simpa using hby
  obtain ⟨al', hv, hal⟩ := append_own (P := cfg.P) (F := F) (lab := lab) (t := ty) (x := X) (xt := ts[1]?) (nl := nl) hf he hsz hb hsx h1 h2 hpos' hlen hby' hz hzl hne
  exact ow_appendG ht hg hs hx hv hd (h al' hal)
end
end Go.Proofs.V
namespace Go.Proofs.V
open Go Go.RowKit
set_option linter.unusedVariables false
/-- A state that is known at some slots, and at one of them has a row of its own. -/
def IsF (n : Nat) (H : List (List AV)) (m : TypeId → Bool) (j : Nat) (rows : List (List AV)) (l : List (Nat × AV)) (F : St) : Prop := ∃ t c al o nl, F = ⟨n, upd (updL l t) j (.slice rows nl o), c, al, H, m⟩ ∧ Fresh al o
theorem isF_of {n : Nat} {H : List (List AV)} {m : TypeId → Bool} {j : Nat} {rows rows' : List (List AV)} {o : Own} {nl : Bool} {l : List (Nat × AV)} {F : St} (h : (F.n, F.H, F.m, F.t j, l.map fun p => F.t p.1) = (n, H, m, .slice rows' nl o, l.map fun p => p.2)) (hr : rows' = rows) (ho : Fresh F.al o) : IsF n H m j rows l F := by
  simp only [Prod.mk.injEq] at h
  obtain ⟨rfl, rfl, rfl, h0, h⟩ := h
  subst hr
  exact ⟨F.t, F.c, F.al, o, nl, by rw [updL_eta l F.t h, upd_eta h0], ho⟩
theorem fresh_full {al : Nat → Bool} : Fresh al .full := .inl rfl
end Go.Proofs.V
namespace Go.Proofs.V
open Go Go.RowKit
set_option linter.unusedVariables false
end Go.Proofs.V
namespace Go.Proofs.V
open Go Go.RowKit
set_option linter.unusedVariables false
set_option linter.unusedSimpArgs false
theorem append_none {P : Program} {F : St} {lab : Nat} {t e : TypeId} {sz by_ : Nat} {x : AV} {xt : Option TypeId} {rows : List (List AV)} {z : List AV} {own : Own} (hf : Fresh F.al own) (he : tel P t = some e) (hs : tsz P e = some sz) (hb : tby P e = some by_) (hx : srcRows P F xt x = some []) (h1 : ∀ r ∈ rows, r.length = sz) (hpos : 0 < sz) (hlen : rows.length * by_ ≤ 35184372088832) (hby : 0 < by_)
    (hz : tzero P e = some z) (hzl : z.length = sz) {nl : Bool} : appendA P F lab t (.slice rows nl own) x xt = some (.slice rows nl own, F.al) := by
  have hlen' : rows.length ≤ 4611686018427387904 := by
    have := Nat.le_mul_of_pos_right rows.length hby
    omega
  unfold appendA
  simp only [he, hs, hb, hx, hz]
  have h1' : (rows.all fun r => r.length == sz) = true := List.all_eq_true.2 fun r hr => by simp [h1 r hr]
  rcases hf with rfl | ⟨k, rfl, hk⟩ <;> simp_all
section
variable {cfg : Cfg} {F : St} {Q : St → Prop} {draw : Bool} {ds : List Nat} {all : Array Oper} {rest : List Oper} {lab : Nat} {type : TypeId} {pos : String} {after : Array Edge} {g : Option (Nat × Bool)} {d : Nat}
/-- A part of a string. -/
theorem ow_substr {ty : TypeId} {x : Operand} {lo hi : Option Operand} {bs : List UInt8} {l u : Int} (h0 : 0 ≤ l) (h1 : l ≤ u) (h2 : u ≤ bs.length) (hx : F.ev x = ST bs) (hlo : bnd 0 (lo.map F.ev) = some l) (hhi : bnd (bs.length : Int) (hi.map F.ev) = some u) (hs : isStr cfg.P ty = true)
    (hg : guardA all { dst := some d, op := .slice ty x lo hi none, type, pos, after, guard := g } F = some true) (hd : Nat.blt d F.n = true)
    (h : Ow cfg draw ds all rest (lab + 64) { F with t := upd F.t d (ST ((bs.drop l.toNat).take (u.toNat - l.toNat))) } Q) : Ow cfg draw ds all ({ dst := some d, op := .slice ty x lo hi none, type, pos, after, guard := g } :: rest) lab F Q := by
  refine ow_val rfl hg rfl ?_ hd h
  have e : (⟨⟨bs⟩⟩ : ByteArray).size = bs.length := rfl
  simp only [quiet, hx, sliceA, Option.map_none, hs, hlo, e, hhi]
  rw [if_pos ⟨h0, h1, h2⟩]
/-- A part of a slice. -/
theorem ow_sub {ty el : TypeId} {x : Operand} {lo hi : Option Operand} {rows : List (List AV)} {nl : Bool} {own : Own} {sz : Nat} {l u : Int} (h0 : 0 ≤ l) (h1 : l ≤ u) (h2 : u ≤ rows.length) (hall : ∀ r ∈ rows, r.length = sz) (hx : F.ev x = .slice rows nl own) (hlo : bnd 0 (lo.map F.ev) = some l) (hhi : bnd (rows.length : Int) (hi.map F.ev) = some u) (he : tel cfg.P ty = some el) (hz : tsz cfg.P el = some sz)
    (hg : guardA all { dst := some d, op := .slice ty x lo hi none, type, pos, after, guard := g } F = some true) (hd : Nat.blt d F.n = true)
    (h : Ow cfg draw ds all rest (lab + 64) { F with t := upd F.t d (.slice ((rows.take u.toNat).drop l.toNat) nl .no) } Q) : Ow cfg draw ds all ({ dst := some d, op := .slice ty x lo hi none, type, pos, after, guard := g } :: rest) lab F Q := by
  refine ow_val rfl hg rfl ?_ hd h
  have ha : (rows.all fun r => r.length == sz) = true := List.all_eq_true.2 fun r hr => by simp [hall r hr]
  simp only [quiet, hx, sliceA, Option.map_none, he, hlo, hhi, hz]
  rw [if_pos ⟨h0, h1, h2, ha⟩]
end
end Go.Proofs.V
namespace Go.Proofs.V
open Go Go.RowKit
theorem leave_at {al al' : Nat → Bool} {rows : List (List AV)} {nl : Bool} {k : Nat} (e : al = al') (h : al' k = true) : leaveR al (.slice rows nl (.id k)) = .slice rows nl .fresh := by
  subst e; exact leave_id h
end Go.Proofs.V
namespace Go.Proofs.V
open Go Go.RowKit
end Go.Proofs.V
namespace Go.Proofs.V
open Go Go.RowKit
set_option linter.unusedVariables false
end Go.Proofs.V
namespace Go.Proofs.V
open Go Go.RowKit
set_option linter.unusedVariables false
set_option linter.unusedSimpArgs false
/-- A call, out of its body; of the result a property is told. -/
theorem evK_ofE {cfg : Cfg} {f : Nat} {args : List AV} {H : List (List AV)} {fn : Func} {c : Code} {P : AV → List (List AV) → Prop} (hf : cfg.P.funcs[f]? = some fn) (hb : fn.body = some c) (hl : args.length ≤ fn.ntmps) (hok : codeOk c = true) (hname : (fn.name == "runtime.NumGoroutine") = false) (hfz : cfg.frz f = false)
    (h : Aw cfg c { n := fn.ntmps, t := argAt args, c := 0, al := fun _ => false, H := H, m := cfg.heap f } (fun x F => (x = .normal ∨ x = .ret) ∧ ∃ vs, resultsA cfg.P F fn.results.toList = some vs ∧ vs.all AV.free = true ∧ P (leaveR F.al (packA vs)) F.H)) :
    ∃ r H', evK cfg f args H = some (r, H') ∧ P r H' := by
  obtain ⟨x, F, e, hx, vs, h1, h2, h3⟩ := h
  exact ⟨_, _, evK_of hf hb hl hok hname hfz ⟨x, F, e, hx, vs, h1, h2, rfl, rfl⟩, h3⟩
end Go.Proofs.V
namespace Go.Proofs.V
open Go Go.RowKit
set_option linter.unusedVariables false
set_option linter.unusedSimpArgs false
def boxGen : AV → Nat
  | .box g _ => g
  | _ => 0
section
variable {cfg : Cfg} {F : St} {Q : St → Prop} {draw : Bool} {ds : List Nat} {all : Array Oper} {rest : List Oper} {lab : Nat} {type : TypeId} {pos : String} {after : Array Edge} {g : Option (Nat × Bool)} {d : Nat}
theorem dsL_not {ds : List Nat} {p : Operand} {s : Nat} (h : ds.contains s = false) : (dsL ds p).contains s = false := by
  unfold dsL
  split
  · split
    · simp only [List.contains_eq_mem, List.mem_filter, decide_eq_false_iff_not] at h ⊢
      exact fun hc => h hc.1
    · exact h
  · exact h
/-- A load out of a variable of the frame's own, whose mark is no numeral. -/
theorem ow_ld (s off : Nat) (row : List AV) (v : AV) {ty : TypeId} {p : Operand} (hp : F.ev p = .fp (boxGen (F.t s)) s off) (hb : F.t s = .box (boxGen (F.t s)) row) (hds : ds.contains s = false) (hv : ((tsz cfg.P ty).bind fun n => (tagg cfg.P ty).bind fun a => partA a n row off) = some v)
    (hg : guardA all { dst := some d, op := .load ty p, type, pos, after, guard := g } F = some true) (hd : Nat.blt d F.n = true)
    (h : Ow cfg draw ds all rest (lab + 64) { F with t := upd F.t d v } Q) : Ow cfg draw ds all ({ dst := some d, op := .load ty p, type, pos, after, guard := g } :: rest) lab F Q := by
  refine ow_val rfl hg rfl ?_ hd h
  obtain ⟨n, hn, h2⟩ := Option.bind_eq_some_iff.1 hv
  obtain ⟨a, ha, h3⟩ := Option.bind_eq_some_iff.1 h2
  simp only [quiet, hp, St.look, dsL_not (p := p) hds, Bool.false_eq_true, if_false, hn, ha]
  rw [hb]
  simp only [boxGen, if_true, h3, Option.map_some, keep]
/-- A store into one. -/
theorem ow_st (s off : Nat) (row : List AV) (v : AV) {ty : TypeId} {p x : Operand} (hp : F.ev p = .fp (boxGen (F.t s)) s off) (hb : F.t s = .box (boxGen (F.t s)) row) (hx : F.ev x = v) (hs : v.storable = true) (hn : tsz cfg.P ty = some v.cells.length) (ho : Nat.ble (off + v.cells.length) row.length = true)
    (hg : guardA all { dst := none, op := .store ty p x, type, pos, after, guard := g } F = some true)
    (h : Ow cfg draw ds all rest (lab + 64) { F with t := upd F.t s (.box (boxGen (F.t s)) (splice row off v.cells)) } Q) (hbx : stBoxOk draw ds F p = true := by rfl) : Ow cfg draw ds all ({ dst := none, op := .store ty p x, type, pos, after, guard := g } :: rest) lab F Q := by
  have ho' : off + v.cells.length ≤ row.length := by simpa using ho
  subst hx
  refine ow_cons (w := true) hg (fun _ => ⟨_, ?_, h⟩) (fun h => by cases h)
  simp only [opRun, allocH, opRunV, hn]
  rw [if_pos ⟨⟨hs, by trivial⟩, hbx⟩, hp]
  simp only [St.write]
  generalize boxGen (F.t s) = gen at hb
  rw [hb]
  simp only [true_and, ho', if_true, Option.bind_some, St.put]
end
theorem is_at {n : Nat} {H : List (List AV)} {m : TypeId → Bool} {l l' : List (Nat × AV)} {F : St} (hl : l' = l) (h : (F.n, F.H, F.m, l'.map fun p => F.t p.1) = (n, H, m, l'.map fun p => p.2)) : Is n H m l F := by
  subst hl; exact is_of h
end Go.Proofs.V
namespace Go.Proofs.V
open Go Go.RowKit
set_option linter.unusedVariables false
section
variable {cfg : Cfg} {F : St} {Q : St → Prop} {draw : Bool} {ds : List Nat} {all : Array Oper} {rest : List Oper} {lab : Nat} {type : TypeId} {pos : String} {after : Array Edge} {g : Option (Nat × Bool)} {d : Nat}
/-- The same as 'ow_sub' and 'ow_substr', the part's value told beside. -/
theorem ow_sube {ty el : TypeId} {x : Operand} {lo hi : Option Operand} {rows : List (List AV)} {nl : Bool} {own : Own} {sz : Nat} {l u : Int} (rows' : List (List AV)) (hr : (rows.take u.toNat).drop l.toNat = rows') (h0 : 0 ≤ l) (h1 : l ≤ u) (h2 : u ≤ rows.length) (hall : ∀ r ∈ rows, r.length = sz) (hx : F.ev x = .slice rows nl own) (hlo : bnd 0 (lo.map F.ev) = some l) (hhi : bnd (rows.length : Int) (hi.map F.ev) = some u) (he : tel cfg.P ty = some el) (hz : tsz cfg.P el = some sz)
    (hg : guardA all { dst := some d, op := .slice ty x lo hi none, type, pos, after, guard := g } F = some true) (hd : Nat.blt d F.n = true)
    (h : Ow cfg draw ds all rest (lab + 64) { F with t := upd F.t d (.slice rows' nl .no) } Q) : Ow cfg draw ds all ({ dst := some d, op := .slice ty x lo hi none, type, pos, after, guard := g } :: rest) lab F Q := by
  subst hr
  exact ow_sub h0 h1 h2 hall hx hlo hhi he hz hg hd h
theorem ow_stre {ty : TypeId} {x : Operand} {lo hi : Option Operand} {bs : List UInt8} {l u : Int} (bs' : List UInt8) (hr : (bs.drop l.toNat).take (u.toNat - l.toNat) = bs') (h0 : 0 ≤ l) (h1 : l ≤ u) (h2 : u ≤ bs.length) (hx : F.ev x = ST bs) (hlo : bnd 0 (lo.map F.ev) = some l) (hhi : bnd (bs.length : Int) (hi.map F.ev) = some u) (hs : isStr cfg.P ty = true)
    (hg : guardA all { dst := some d, op := .slice ty x lo hi none, type, pos, after, guard := g } F = some true) (hd : Nat.blt d F.n = true)
    (h : Ow cfg draw ds all rest (lab + 64) { F with t := upd F.t d (ST bs') } Q) : Ow cfg draw ds all ({ dst := some d, op := .slice ty x lo hi none, type, pos, after, guard := g } :: rest) lab F Q := by
  subst hr
  exact ow_substr h0 h1 h2 hx hlo hhi hs hg hd h
end
end Go.Proofs.V
namespace Go.Proofs.V
open Go Go.RowKit
set_option linter.unusedVariables false
/-- Nothing but these slots matters any more. -/
theorem aw_abs {cfg : Cfg} {b : Code} {F : St} {Q : X → St → Prop} (n : Nat) (H : List (List AV)) (m : TypeId → Bool) (l : List (Nat × AV)) (h : (F.n, F.H, F.m, l.map fun p => F.t p.1) = (n, H, m, l.map fun p => p.2)) (k : ∀ t c al, Aw cfg b ⟨n, updL l t, c, al, H, m⟩ Q) : Aw cfg b F Q := by
  obtain ⟨t, c, al, rfl⟩ := is_of h
  exact k t c al
end Go.Proofs.V
namespace Go.Proofs.V
open Go Go.RowKit
set_option linter.unusedVariables false
set_option linter.unusedSimpArgs false
/-- The same, in a region of one order. -/
theorem ow_callE0 {cfg : Cfg} {F : St} {Q : St → Prop} {ds : List Nat} {all : Array Oper} {rest : List Oper} {lab : Nat} {type : TypeId} {pos : String} {after : Array Edge} {g : Option (Nat × Bool)} {d : Nat} {f : Operand} {args : Array Operand} {ts : Array TypeId} {k : Nat} {first captured xs : List AV} {r : AV} {H0 H1 : List (List AV)} (hr : evK cfg k (xs.map strip) H0 = some (r, H1)) (hH : F.H = H0) (hg : guardA all { dst := some d, op := .call { callee := .value f, args, argTypes := ts }, type, pos, after, guard := g } F = some true) (hf : F.ev f = .fn (.func k) first captured)
    (has : first ++ evs F args.toList ++ captured = xs) (ha : xs.all AV.free = true) (he : cfg.eff k = true) (h64 : Nat.ble (sizeR r) 64 = true) (hd : Nat.blt d F.n = true)
    (h : Ow cfg false ds all rest (lab + 64) { F with t := upd F.t d (adoptR lab r), al := markR lab F.al r, H := H1 } Q) : Ow cfg false ds all ({ dst := some d, op := .call { callee := .value f, args, argTypes := ts }, type, pos, after, guard := g } :: rest) lab F Q := by
  subst hH
  exact ow_callEG hg hf has ha he hr h64 hd h
end Go.Proofs.V

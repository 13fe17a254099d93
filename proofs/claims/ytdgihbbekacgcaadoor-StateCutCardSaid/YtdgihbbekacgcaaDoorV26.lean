/- Steps, shorter: regions, branches, loops by rounds; states that are known at some slots. -/
import Derived.Test.YtdgihbbekacgcaaDoorV23
import Derived.IntWalk
import Derived.Laws.StructEq
namespace Go.Proofs.V
open Go Go.RowKit
set_option linter.unusedVariables false
set_option linter.unusedSimpArgs false

/-- Slots that are known. -/
def updL : List (Nat × AV) → (Nat → AV) → Nat → AV
  | [], t => t
  | (i, v) :: r, t => upd (updL r t) i v
theorem updL_eta : ∀ (l : List (Nat × AV)) (t : Nat → AV), l.map (fun p => t p.1) = l.map (fun p => p.2) → updL l t = t
  | [], _, _ => rfl
  | (i, v) :: r, t, h => by
    simp only [List.map_cons, List.cons.injEq] at h
    simp only [updL]
    rw [updL_eta r t h.2]
    exact upd_eta h.1
/-- A state that is known at some slots. -/
def Is (n : Nat) (H : List (List AV)) (m : TypeId → Bool) (l : List (Nat × AV)) (F : St) : Prop := ∃ t c al, F = ⟨n, updL l t, c, al, H, m⟩
/-- The same; a mark is alive. -/
def IsO (n : Nat) (H : List (List AV)) (m : TypeId → Bool) (k : Nat) (l : List (Nat × AV)) (F : St) : Prop := ∃ t c al, F = ⟨n, updL l t, c, al, H, m⟩ ∧ al k = true
theorem is_of {n : Nat} {H : List (List AV)} {m : TypeId → Bool} {l : List (Nat × AV)} {F : St} (h : (F.n, F.H, F.m, l.map fun p => F.t p.1) = (n, H, m, l.map fun p => p.2)) : Is n H m l F := by
  simp only [Prod.mk.injEq] at h
  obtain ⟨rfl, rfl, rfl, h⟩ := h
  exact ⟨F.t, F.c, F.al, by rw [updL_eta l F.t h]⟩
theorem isO_of {n : Nat} {H : List (List AV)} {m : TypeId → Bool} {k : Nat} {l : List (Nat × AV)} {F : St} (h : (F.n, F.H, F.m, l.map fun p => F.t p.1) = (n, H, m, l.map fun p => p.2)) (hk : F.al k = true) : IsO n H m k l F := by
  simp only [Prod.mk.injEq] at h
  obtain ⟨rfl, rfl, rfl, h⟩ := h
  exact ⟨F.t, F.c, F.al, by rw [updL_eta l F.t h], hk⟩

/-! Numbers that are in range. -/
theorem wrapI {x : Int} (h0 : -9223372036854775808 ≤ x) (h1 : x < 9223372036854775808) : IntKind.i64.wrap x = x := IntWalk.i64_in x ⟨h0, by omega⟩
theorem wrapB {x : Int} (h0 : 0 ≤ x) (h1 : x < 256) : IntKind.u8.wrap x = x := IntWalk.u8_in x ⟨h0, by omega⟩
theorem succ64 {i : Nat} (h : i < 4611686018427387904) : IntKind.i64.wrap ((i : Int) + 1) = ((i + 1 : Nat) : Int) := by
  rw [wrapI (by omega) (by omega)]
  omega

section
variable {cfg : Cfg} {F : St} {Q : X → St → Prop} {b : Code} {id : Nat} {ops : Array Oper} {draw : Bool}
/-- A region, and what follows. -/
theorem aw_sr (h : Ow cfg draw (if draw then ops.toList.filterMap (·.dst) else []) ops ops.toList F.c F (fun F' => Aw cfg b { F' with c := F.c + 64 * ops.size } Q)) : Aw cfg (.seq (.region id ops draw) b) F Q :=
  aw_seq (aw_region h)
/-- A region that the kernel carries out. -/
theorem aw_sk (k : Nat) (hs : (opsRun cfg (evN cfg k).2 draw (if draw then ops.toList.filterMap (·.dst) else []) ops ops.toList F.c F).isSome = true)
    (h : Aw cfg b { (opsRun cfg (evN cfg k).2 draw (if draw then ops.toList.filterMap (·.dst) else []) ops ops.toList F.c F).get hs with c := F.c + 64 * ops.size } Q) : Aw cfg (.seq (.region id ops draw) b) F Q :=
  aw_sr (ow_all k hs h)
theorem aw_rk (k : Nat) (hs : (opsRun cfg (evN cfg k).2 draw (if draw then ops.toList.filterMap (·.dst) else []) ops ops.toList F.c F).isSome = true)
    (h : Q .normal { (opsRun cfg (evN cfg k).2 draw (if draw then ops.toList.filterMap (·.dst) else []) ops ops.toList F.c F).get hs with c := F.c + 64 * ops.size }) : Aw cfg (.region id ops draw) F Q :=
  aw_region (ow_all k hs h)
theorem aw_sskip (h : Aw cfg b F Q) : Aw cfg (.seq .skip b) F Q := aw_seq (aw_skip h)
theorem aw_sret {c : Code} (h : Q .ret F) : Aw cfg (.seq .ret c) F Q := aw_seq (aw_ret h)
theorem aw_sexit {c : Code} {i : Nat} (h : Q (.exit i) F) : Aw cfg (.seq (.exit i) c) F Q := aw_seq (aw_exit h)
theorem aw_assoc {a c d : Code} (h : Aw cfg (.seq a (.seq c d)) F Q) : Aw cfg (.seq (.seq a c) d) F Q := by
  obtain ⟨x, F', e, q⟩ := h
  refine ⟨x, F', ?_, q⟩
  rw [← e]
  simp only [evC_seq]
  cases evC cfg a F with
  | none => rfl
  | some r =>
    obtain ⟨x, F1⟩ := r
    cases x <;> rfl
/-- A branch, and what follows. -/
theorem aw_sc {c : Operand} {p q : Code} (t : Bool) (hc : F.ev c = .at (.bool t)) (h1 : t = true → Aw cfg (.seq p b) F Q) (h2 : t = false → Aw cfg (.seq q b) F Q) : Aw cfg (.seq (.cond c p q) b) F Q := by
  refine aw_seq (aw_cond hc (fun h => ?_) (fun h => ?_))
  · obtain ⟨x, F', e, r⟩ := h1 h
    rw [evC_seq] at e
    cases ha : evC cfg p F with
    | none => rw [ha] at e; cases e
    | some y =>
      obtain ⟨z, F1⟩ := y
      refine ⟨z, F1, ha, ?_⟩
      rw [ha] at e
      cases z with
      | normal => exact ⟨x, F', e, r⟩
      | _ => cases e; exact r
  · obtain ⟨x, F', e, r⟩ := h2 h
    rw [evC_seq] at e
    cases ha : evC cfg q F with
    | none => rw [ha] at e; cases e
    | some y =>
      obtain ⟨z, F1⟩ := y
      refine ⟨z, F1, ha, ?_⟩
      rw [ha] at e
      cases z with
      | normal => exact ⟨x, F', e, r⟩
      | _ => cases e; exact r
/-- A loop of so many rounds. -/
theorem aw_for {body : Code} (N : Nat) (I : Nat → St → Prop) (h0 : I 0 F) (round : ∀ i F, i < N → I i F → Aw cfg body F (Then (I (i + 1)) Q)) (last : ∀ F, I N F → Aw cfg body F (Then (fun _ => False) Q)) : Aw cfg (.loop body) F Q := by
  have key : ∀ k i F, i + k = N → I i F → Aw cfg (.loop body) F Q := by
    intro k
    induction k with
    | zero =>
      intro i F hi hI
      obtain rfl : i = N := by omega
      refine aw_loop1 ((last F hI).mono fun x F' h => ?_)
      cases x with
      | normal => exact h.elim
      | _ => exact h
    | succ k ih =>
      intro i F hi hI
      refine aw_loop1 ((round i F (by omega) hI).mono fun x F' h => ?_)
      cases x with
      | normal => exact ih (i + 1) F' (by omega) h
      | _ => exact h
  exact key N 0 F (by omega) h0
/-- A loop in a block, and what follows: the loop is left by its block's exit. -/
theorem aw_sfor {body : Code} (N : Nat) (I : Nat → St → Prop) (h0 : I 0 F) (round : ∀ i F, i < N → I i F → Aw cfg body F (Then (I (i + 1)) (InBlock id (Then (fun F => Aw cfg b F Q) Q)))) (last : ∀ F, I N F → Aw cfg body F (Then (fun _ => False) (InBlock id (Then (fun F => Aw cfg b F Q) Q)))) : Aw cfg (.seq (.block id (.loop body)) b) F Q :=
  aw_seq (aw_block (aw_for N I h0 round last))
end

section
variable {cfg : Cfg} {F : St} {Q : St → Prop} {draw : Bool} {ds : List Nat} {all : Array Oper} {rest l : List Oper} {lab : Nat} {type : TypeId} {pos : String} {after : Array Edge} {g : Option (Nat × Bool)} {d : Nat}
/-- The first j operations, by the kernel. -/
theorem ow_k (j k : Nat) (hs : (opsRun cfg (evN cfg k).2 draw ds all (l.take j) lab F).isSome = true)
    (h : Ow cfg draw ds all (l.drop j) (lab + 64 * (l.take j).length) ((opsRun cfg (evN cfg k).2 draw ds all (l.take j) lab F).get hs) Q) : Ow cfg draw ds all l lab F Q := by
  have := ow_run (l := l.take j) (rest := l.drop j) k hs h
  rwa [List.take_append_drop] at this
/-- A truth value that is known to be this one. -/
theorem ow_is {op : Op} {x w : Bool} (hx : x = w) (hq : quiet cfg.P F ds lab op = some (.at (.bool x))) (hc : Op.calm op = true) (hg : guardA all { dst := some d, op, type, pos, after, guard := g } F = some true) (hA : (allocH cfg.P F op).isNone = true) (hd : Nat.blt d F.n = true)
    (h : Ow cfg draw ds all rest (lab + 64) { F with t := upd F.t d (.at (.bool w)) } Q) : Ow cfg draw ds all ({ dst := some d, op, type, pos, after, guard := g } :: rest) lab F Q := by
  subst hx
  exact ow_val hc hg hA hq hd h
/-- An address in a slice. -/
theorem ow_at {ty e : TypeId} {x i : Operand} {rows : List (List AV)} {nl : Bool} {own : Own} {row : List AV} {n : Int} (hr : rows[n.toNat]? = some row) (hn : 0 ≤ n) (hx : F.ev x = .slice rows nl own) (hi : F.ev i = .at (.int .i64 n)) (he : tel cfg.P ty = some e) (hz : tsz cfg.P e = some row.length) (hg : guardA all { dst := some d, op := .indexAddr ty x i, type, pos, after, guard := g } F = some true) (hd : Nat.blt d F.n = true)
    (h : Ow cfg draw ds all rest (lab + 64) { F with t := upd F.t d (.ref row 0) } Q) : Ow cfg draw ds all ({ dst := some d, op := .indexAddr ty x i, type, pos, after, guard := g } :: rest) lab F Q := by
  refine ow_val rfl hg rfl ?_ hd h
  simp only [quiet, hx, hi, indexAddrA, intOfA, he, hn, if_true, hr, hz]
end
end Go.Proofs.V
namespace Go.Proofs.V
open Go Go.RowKit
set_option linter.unusedVariables false
set_option linter.unusedSimpArgs false
/-- A mark that may be appended to. -/
def Fresh (al : Nat → Bool) (own : Own) : Prop := own = .full ∨ ∃ k, own = .id k ∧ al k = true
theorem append_own {P : Program} {F : St} {lab : Nat} {t e : TypeId} {sz by_ : Nat} {x : AV} {xt : Option TypeId} {rows ys : List (List AV)} {z : List AV} {own : Own} (hf : Fresh F.al own) (he : tel P t = some e) (hs : tsz P e = some sz) (hb : tby P e = some by_) (hx : srcRows P F xt x = some ys) (h1 : ∀ r ∈ rows, r.length = sz) (h2 : ∀ r ∈ ys, r.length = sz) (hpos : 0 < sz) (hlen : (rows.length + ys.length) * by_ ≤ 35184372088832) (hby : 0 < by_)
    (hz : tzero P e = some z) (hzl : z.length = sz) (hne : ys ≠ []) {nl : Bool} : ∃ al', appendA P F lab t (.slice rows nl own) x xt = some (.slice (rows ++ ys) false (.id lab), al') ∧ al' lab = true := by
  have hlen' : rows.length + ys.length ≤ 4611686018427387904 := by
    have := Nat.le_mul_of_pos_right (rows.length + ys.length) hby
    omega
  rcases hf with rfl | ⟨k, rfl, hk⟩
  · exact ⟨_, append_full he hs hb hx h1 h2 hpos hlen hlen' hby hz hzl hne, by simp [upd]⟩
  · exact ⟨_, append_id he hs hb hx h1 h2 hpos hlen hlen' hby hz hzl hne hk, by simp [upd]⟩
theorem leave_id {al : Nat → Bool} {rows : List (List AV)} {nl : Bool} {k : Nat} (h : al k = true) : leaveR al (.slice rows nl (.id k)) = .slice rows nl .fresh := by
  simp [leaveR, leave1, h]
theorem mark_self {al : Nat → Bool} {rows : List (List AV)} {nl : Bool} {lab : Nat} : markR lab al (.slice rows nl .fresh) lab = true := by
  simp [markR, freshR]
section
variable {cfg : Cfg} {F : St} {Q : St → Prop} {draw : Bool} {ds : List Nat} {all : Array Oper} {rest : List Oper} {lab : Nat} {type : TypeId} {pos : String} {after : Array Edge} {g : Option (Nat × Bool)} {d : Nat}
/-- An append to a row that is one's own. -/
theorem ow_app {s x : Operand} {ty e : TypeId} {ts : Array TypeId} {X : AV} {sz by_ : Nat} {rows ys : List (List AV)} {z : List AV} {own : Own} {nl : Bool} (hf : Fresh F.al own) (hne : ys ≠ []) (h1 : ∀ r ∈ rows, r.length = sz) (h2 : ∀ r ∈ ys, r.length = sz) (hlen : (rows.length + ys.length) * by_ ≤ 35184372088832)
    (hs : F.ev s = .slice rows nl own) (hx : F.ev x = X) (hsx : srcRows cfg.P F ts[1]? X = some ys) (ht : ts[0]? = some ty) (he : tel cfg.P ty = some e) (hsz : tsz cfg.P e = some sz) (hb : tby cfg.P e = some by_) (hz : tzero cfg.P e = some z) (hzl : z.length = sz) (hpos : Nat.blt 0 sz = true) (hby : Nat.blt 0 by_ = true)
    (hg : guardA all { dst := some d, op := .call { callee := .builtin .append, args := #[s, x], argTypes := ts }, type, pos, after, guard := g } F = some true) (hd : Nat.blt d F.n = true)
    (h : ∀ al' : Nat → Bool, al' lab = true → Ow cfg draw ds all rest (lab + 64) { F with t := upd F.t d (.slice (rows ++ ys) false (.id lab)), al := al' } Q) : Ow cfg draw ds all ({ dst := some d, op := .call { callee := .builtin .append, args := #[s, x], argTypes := ts }, type, pos, after, guard := g } :: rest) lab F Q := by
  have hpos' : 0 < sz := by simpa using hpos
  have hby' : 0 < by_ := by simpa using hby
  obtain ⟨al', hv, hal⟩ := append_own (P := cfg.P) (F := F) (lab := lab) (t := ty) (x := X) (xt := ts[1]?) (nl := nl) hf he hsz hb hsx h1 h2 hpos' hlen hby' hz hzl hne
  exact ow_appendG ht hg hs hx hv hd (h al' hal)
end
end Go.Proofs.V
namespace Go.Proofs.V
open Go Go.RowKit
set_option linter.unusedVariables false
/-- A state that is known at some slots, and at one of them has a row of its own. -/
def IsF (n : Nat) (H : List (List AV)) (m : TypeId → Bool) (j : Nat) (rows : List (List AV)) (l : List (Nat × AV)) (F : St) : Prop := ∃ t c al o nl, F = ⟨n, upd (updL l t) j (.slice rows nl o), c, al, H, m⟩ ∧ Fresh al o
theorem isF_of {n : Nat} {H : List (List AV)} {m : TypeId → Bool} {j : Nat} {rows rows' : List (List AV)} {o : Own} {nl : Bool} {l : List (Nat × AV)} {F : St} (h : (F.n, F.H, F.m, F.t j, l.map fun p => F.t p.1) = (n, H, m, .slice rows' nl o, l.map fun p => p.2)) (hr : rows' = rows) (ho : Fresh F.al o) : IsF n H m j rows l F := by
  simp only [Prod.mk.injEq] at h
  obtain ⟨rfl, rfl, rfl, h0, h⟩ := h
  subst hr
  exact ⟨F.t, F.c, F.al, o, nl, by rw [updL_eta l F.t h, upd_eta h0], ho⟩
theorem fresh_id {al : Nat → Bool} {k : Nat} (h : al k = true) : Fresh al (.id k) := .inr ⟨k, rfl, h⟩
theorem fresh_full {al : Nat → Bool} : Fresh al .full := .inl rfl
end Go.Proofs.V
namespace Go.Proofs.V
open Go Go.RowKit
set_option linter.unusedVariables false
/-- The same, with a row that is marked. -/
def IsD (n : Nat) (H : List (List AV)) (m : TypeId → Bool) (j : Nat) (rows : List (List AV)) (l : List (Nat × AV)) (F : St) : Prop := ∃ t c al k, F = ⟨n, upd (updL l t) j (.slice rows false (.id k)), c, al, H, m⟩ ∧ al k = true
theorem isD_of {n : Nat} {H : List (List AV)} {m : TypeId → Bool} {j k : Nat} {rows rows' : List (List AV)} {l : List (Nat × AV)} {F : St} (h : (F.n, F.H, F.m, F.t j, l.map fun p => F.t p.1) = (n, H, m, .slice rows' false (.id k), l.map fun p => p.2)) (hr : rows' = rows) (ho : F.al k = true) : IsD n H m j rows l F := by
  simp only [Prod.mk.injEq] at h
  obtain ⟨rfl, rfl, rfl, h0, h⟩ := h
  subst hr
  exact ⟨F.t, F.c, F.al, k, by rw [updL_eta l F.t h, upd_eta h0], ho⟩
end Go.Proofs.V
namespace Go.Proofs.V
open Go Go.RowKit
set_option linter.unusedVariables false
set_option linter.unusedSimpArgs false
theorem append_none {P : Program} {F : St} {lab : Nat} {t e : TypeId} {sz by_ : Nat} {x : AV} {xt : Option TypeId} {rows : List (List AV)} {z : List AV} {own : Own} (hf : Fresh F.al own) (he : tel P t = some e) (hs : tsz P e = some sz) (hb : tby P e = some by_) (hx : srcRows P F xt x = some []) (h1 : ∀ r ∈ rows, r.length = sz) (hpos : 0 < sz) (hlen : rows.length * by_ ≤ 35184372088832) (hby : 0 < by_)
    (hz : tzero P e = some z) (hzl : z.length = sz) {nl : Bool} : appendA P F lab t (.slice rows nl own) x xt = some (.slice rows nl own, F.al) := by
  have hlen' : rows.length ≤ 4611686018427387904 := by
    have := Nat.le_mul_of_pos_right rows.length hby
    omega
  unfold appendA
  simp only [he, hs, hb, hx, hz]
  have h1' : (rows.all fun r => r.length == sz) = true := List.all_eq_true.2 fun r hr => by simp [h1 r hr]
  rcases hf with rfl | ⟨k, rfl, hk⟩ <;> simp_all
section
variable {cfg : Cfg} {F : St} {Q : St → Prop} {draw : Bool} {ds : List Nat} {all : Array Oper} {rest : List Oper} {lab : Nat} {type : TypeId} {pos : String} {after : Array Edge} {g : Option (Nat × Bool)} {d : Nat}
theorem ow_app0 {s x : Operand} {ty e : TypeId} {ts : Array TypeId} {X : AV} {sz by_ : Nat} {rows : List (List AV)} {z : List AV} {own : Own} {nl : Bool} (hf : Fresh F.al own) (h1 : ∀ r ∈ rows, r.length = sz) (hlen : rows.length * by_ ≤ 35184372088832)
    (hs : F.ev s = .slice rows nl own) (hx : F.ev x = X) (hsx : srcRows cfg.P F ts[1]? X = some []) (ht : ts[0]? = some ty) (he : tel cfg.P ty = some e) (hsz : tsz cfg.P e = some sz) (hb : tby cfg.P e = some by_) (hz : tzero cfg.P e = some z) (hzl : z.length = sz) (hpos : Nat.blt 0 sz = true) (hby : Nat.blt 0 by_ = true)
    (hg : guardA all { dst := some d, op := .call { callee := .builtin .append, args := #[s, x], argTypes := ts }, type, pos, after, guard := g } F = some true) (hd : Nat.blt d F.n = true)
    (h : Ow cfg draw ds all rest (lab + 64) { F with t := upd F.t d (.slice rows nl own) } Q) : Ow cfg draw ds all ({ dst := some d, op := .call { callee := .builtin .append, args := #[s, x], argTypes := ts }, type, pos, after, guard := g } :: rest) lab F Q := by
  have hpos' : 0 < sz := by simpa using hpos
  have hby' : 0 < by_ := by simpa using hby
  exact ow_appendG ht hg hs hx (append_none hf he hsz hb hsx h1 hpos' hlen hby' hz hzl) hd h
/-- A part of a string. -/
theorem ow_substr {ty : TypeId} {x : Operand} {lo hi : Option Operand} {bs : List UInt8} {l u : Int} (h0 : 0 ≤ l) (h1 : l ≤ u) (h2 : u ≤ bs.length) (hx : F.ev x = ST bs) (hlo : bnd 0 (lo.map F.ev) = some l) (hhi : bnd (bs.length : Int) (hi.map F.ev) = some u) (hs : isStr cfg.P ty = true)
    (hg : guardA all { dst := some d, op := .slice ty x lo hi none, type, pos, after, guard := g } F = some true) (hd : Nat.blt d F.n = true)
    (h : Ow cfg draw ds all rest (lab + 64) { F with t := upd F.t d (ST ((bs.drop l.toNat).take (u.toNat - l.toNat))) } Q) : Ow cfg draw ds all ({ dst := some d, op := .slice ty x lo hi none, type, pos, after, guard := g } :: rest) lab F Q := by
  refine ow_val rfl hg rfl ?_ hd h
  have e : (⟨⟨bs⟩⟩ : ByteArray).size = bs.length := rfl
  simp only [quiet, hx, sliceA, Option.map_none, hs, hlo, e, hhi]
  rw [if_pos ⟨h0, h1, h2⟩]
/-- A part of a slice. -/
theorem ow_sub {ty el : TypeId} {x : Operand} {lo hi : Option Operand} {rows : List (List AV)} {nl : Bool} {own : Own} {sz : Nat} {l u : Int} (h0 : 0 ≤ l) (h1 : l ≤ u) (h2 : u ≤ rows.length) (hall : ∀ r ∈ rows, r.length = sz) (hx : F.ev x = .slice rows nl own) (hlo : bnd 0 (lo.map F.ev) = some l) (hhi : bnd (rows.length : Int) (hi.map F.ev) = some u) (he : tel cfg.P ty = some el) (hz : tsz cfg.P el = some sz)
    (hg : guardA all { dst := some d, op := .slice ty x lo hi none, type, pos, after, guard := g } F = some true) (hd : Nat.blt d F.n = true)
    (h : Ow cfg draw ds all rest (lab + 64) { F with t := upd F.t d (.slice ((rows.take u.toNat).drop l.toNat) nl .no) } Q) : Ow cfg draw ds all ({ dst := some d, op := .slice ty x lo hi none, type, pos, after, guard := g } :: rest) lab F Q := by
  refine ow_val rfl hg rfl ?_ hd h
  have ha : (rows.all fun r => r.length == sz) = true := List.all_eq_true.2 fun r hr => by simp [hall r hr]
  simp only [quiet, hx, sliceA, Option.map_none, he, hlo, hhi, hz]
  rw [if_pos ⟨h0, h1, h2, ha⟩]
end
end Go.Proofs.V
namespace Go.Proofs.V
open Go Go.RowKit
theorem leave_at {al al' : Nat → Bool} {rows : List (List AV)} {nl : Bool} {k : Nat} (e : al = al') (h : al' k = true) : leaveR al (.slice rows nl (.id k)) = .slice rows nl .fresh := by
  subst e; exact leave_id h
end Go.Proofs.V
namespace Go.Proofs.V
open Go Go.RowKit
theorem leave_eq {al al' : Nat → Bool} {rows rows' : List (List AV)} {nl : Bool} {k : Nat} (e : al = al') (h : al' k = true) (hr : rows = rows') : leaveR al (.slice rows nl (.id k)) = .slice rows' nl .fresh := by
  subst e; subst hr; exact leave_id h
end Go.Proofs.V
namespace Go.Proofs.V
open Go Go.RowKit
set_option linter.unusedVariables false
theorem isD_mark {n : Nat} {H : List (List AV)} {m : TypeId → Bool} {j k : Nat} {al : Nat → Bool} {rows rows' : List (List AV)} {l : List (Nat × AV)} {F : St} (h : (F.n, F.H, F.m, F.t j, l.map fun p => F.t p.1) = (n, H, m, .slice rows' false (.id k), l.map fun p => p.2)) (hr : rows' = rows) (ho : F.al = markR k al (.slice rows' false .fresh)) : IsD n H m j rows l F :=
  isD_of h hr (by rw [ho]; exact mark_self)
end Go.Proofs.V
namespace Go.Proofs.V
open Go Go.RowKit
set_option linter.unusedVariables false
set_option linter.unusedSimpArgs false
/-- A call, out of its body; of the result a property is told. -/
theorem evK_ofE {cfg : Cfg} {f : Nat} {args : List AV} {H : List (List AV)} {fn : Func} {c : Code} {P : AV → List (List AV) → Prop} (hf : cfg.P.funcs[f]? = some fn) (hb : fn.body = some c) (hl : args.length ≤ fn.ntmps) (hok : codeOk c = true) (hname : (fn.name == "runtime.NumGoroutine") = false) (hfz : cfg.frz f = false)
    (h : Aw cfg c { n := fn.ntmps, t := argAt args, c := 0, al := fun _ => false, H := H, m := cfg.heap f } (fun x F => (x = .normal ∨ x = .ret) ∧ ∃ vs, resultsA cfg.P F fn.results.toList = some vs ∧ vs.all AV.free = true ∧ P (leaveR F.al (packA vs)) F.H)) :
    ∃ r H', evK cfg f args H = some (r, H') ∧ P r H' := by
  obtain ⟨x, F, e, hx, vs, h1, h2, h3⟩ := h
  exact ⟨_, _, evK_of hf hb hl hok hname hfz ⟨x, F, e, hx, vs, h1, h2, rfl, rfl⟩, h3⟩
/-- Handed back: nobody's, or the taker's. -/
def NF (o : Own) : Prop := o = .no ∨ o = .fresh
/-- Within a frame. -/
def NI (o : Own) : Prop := o = .no ∨ ∃ k, o = .id k
def IsN (n : Nat) (H : List (List AV)) (m : TypeId → Bool) (j : Nat) (rows : List (List AV)) (l : List (Nat × AV)) (F : St) : Prop := ∃ t c al o, F = ⟨n, upd (updL l t) j (.slice rows false o), c, al, H, m⟩ ∧ NI o
theorem isN_of {n : Nat} {H : List (List AV)} {m : TypeId → Bool} {j : Nat} {o : Own} {rows rows' : List (List AV)} {l : List (Nat × AV)} {F : St} (h : (F.n, F.H, F.m, F.t j, l.map fun p => F.t p.1) = (n, H, m, .slice rows' false o, l.map fun p => p.2)) (hr : rows' = rows) (ho : NI o) : IsN n H m j rows l F := by
  simp only [Prod.mk.injEq] at h
  obtain ⟨rfl, rfl, rfl, h0, h⟩ := h
  subst hr
  exact ⟨F.t, F.c, F.al, o, by rw [updL_eta l F.t h, upd_eta h0], ho⟩
theorem strip_ni {o : Own} (h : NI o) {rows : List (List AV)} : strip (.slice rows false o) = .slice rows false .no := by
  rcases h with rfl | ⟨k, rfl⟩ <;> rfl
theorem strip_nf {o : Own} (h : NF o) {rows : List (List AV)} : strip (.slice rows false o) = .slice rows false .no := by
  rcases h with rfl | rfl <;> rfl
theorem leave_ni {o : Own} (h : NI o) {rows : List (List AV)} {al : Nat → Bool} : ∃ o', NF o' ∧ leaveR al (.slice rows false o) = .slice rows false o' := by
  rcases h with rfl | ⟨k, rfl⟩
  · exact ⟨.no, .inl rfl, rfl⟩
  · cases hk : al k with
    | true => exact ⟨.fresh, .inr rfl, leave_id hk⟩
    | false => exact ⟨.no, .inl rfl, by simp [leaveR, leave1, hk]⟩
end Go.Proofs.V
namespace Go.Proofs.V
open Go Go.RowKit
set_option linter.unusedVariables false
set_option linter.unusedSimpArgs false
def boxGen : AV → Nat
  | .box g _ => g
  | _ => 0
section
variable {cfg : Cfg} {F : St} {Q : St → Prop} {draw : Bool} {ds : List Nat} {all : Array Oper} {rest : List Oper} {lab : Nat} {type : TypeId} {pos : String} {after : Array Edge} {g : Option (Nat × Bool)} {d : Nat}
/-- A load out of a variable of the frame's own, whose mark is no numeral. -/
theorem ow_ld (s off : Nat) (row : List AV) (v : AV) {ty : TypeId} {p : Operand} (hp : F.ev p = .fp (boxGen (F.t s)) s off) (hb : F.t s = .box (boxGen (F.t s)) row) (hds : ds.contains s = false) (hv : ((tsz cfg.P ty).bind fun n => (tagg cfg.P ty).bind fun a => partA a n row off) = some v)
    (hg : guardA all { dst := some d, op := .load ty p, type, pos, after, guard := g } F = some true) (hd : Nat.blt d F.n = true)
    (h : Ow cfg draw ds all rest (lab + 64) { F with t := upd F.t d v } Q) : Ow cfg draw ds all ({ dst := some d, op := .load ty p, type, pos, after, guard := g } :: rest) lab F Q := by
  refine ow_val rfl hg rfl ?_ hd h
  obtain ⟨n, hn, h2⟩ := Option.bind_eq_some_iff.1 hv
  obtain ⟨a, ha, h3⟩ := Option.bind_eq_some_iff.1 h2
  simp only [quiet, hp, St.look, hds, Bool.false_eq_true, if_false, hn, ha]
  rw [hb]
  simp only [boxGen, if_true, h3, Option.map_some, keep]
/-- A store into one. -/
theorem ow_st (s off : Nat) (row : List AV) (v : AV) {ty : TypeId} {p x : Operand} (hp : F.ev p = .fp (boxGen (F.t s)) s off) (hb : F.t s = .box (boxGen (F.t s)) row) (hx : F.ev x = v) (hs : v.storable = true) (hn : tsz cfg.P ty = some v.cells.length) (ho : Nat.ble (off + v.cells.length) row.length = true)
    (hg : guardA all { dst := none, op := .store ty p x, type, pos, after, guard := g } F = some true)
    (h : Ow cfg draw ds all rest (lab + 64) { F with t := upd F.t s (.box (boxGen (F.t s)) (splice row off v.cells)) } Q) : Ow cfg draw ds all ({ dst := none, op := .store ty p x, type, pos, after, guard := g } :: rest) lab F Q := by
  have ho' : off + v.cells.length ≤ row.length := by simpa using ho
  subst hx
  refine ow_cons (w := true) hg (fun _ => ⟨_, ?_, h⟩) (fun h => by cases h)
  simp only [opRun, allocH, opRunV, hn]
  rw [if_pos ⟨hs, by trivial⟩, hp]
  simp only [St.write]
  generalize boxGen (F.t s) = gen at hb
  rw [hb]
  simp only [true_and, ho', if_true, Option.bind_some, St.put]
end
/-- The same as 'isN_of', where a slot stands otherwise. -/
theorem isN_at {n : Nat} {H : List (List AV)} {m : TypeId → Bool} {j : Nat} {o : Own} {rows rows' : List (List AV)} {l l' : List (Nat × AV)} {F : St} (hl : l' = l) (h : (F.n, F.H, F.m, F.t j, l'.map fun p => F.t p.1) = (n, H, m, .slice rows' false o, l'.map fun p => p.2)) (hr : rows' = rows) (ho : NI o) : IsN n H m j rows l F := by
  subst hl; exact isN_of h hr ho
theorem is_at {n : Nat} {H : List (List AV)} {m : TypeId → Bool} {l l' : List (Nat × AV)} {F : St} (hl : l' = l) (h : (F.n, F.H, F.m, l'.map fun p => F.t p.1) = (n, H, m, l'.map fun p => p.2)) : Is n H m l F := by
  subst hl; exact is_of h
end Go.Proofs.V
namespace Go.Proofs.V
open Go Go.RowKit
set_option linter.unusedVariables false
section
variable {cfg : Cfg} {F : St} {Q : St → Prop} {draw : Bool} {ds : List Nat} {all : Array Oper} {rest : List Oper} {lab : Nat} {type : TypeId} {pos : String} {after : Array Edge} {g : Option (Nat × Bool)} {d : Nat}
/-- The same as 'ow_sub' and 'ow_substr', the part's value told beside. -/
theorem ow_sube {ty el : TypeId} {x : Operand} {lo hi : Option Operand} {rows : List (List AV)} {nl : Bool} {own : Own} {sz : Nat} {l u : Int} (rows' : List (List AV)) (hr : (rows.take u.toNat).drop l.toNat = rows') (h0 : 0 ≤ l) (h1 : l ≤ u) (h2 : u ≤ rows.length) (hall : ∀ r ∈ rows, r.length = sz) (hx : F.ev x = .slice rows nl own) (hlo : bnd 0 (lo.map F.ev) = some l) (hhi : bnd (rows.length : Int) (hi.map F.ev) = some u) (he : tel cfg.P ty = some el) (hz : tsz cfg.P el = some sz)
    (hg : guardA all { dst := some d, op := .slice ty x lo hi none, type, pos, after, guard := g } F = some true) (hd : Nat.blt d F.n = true)
    (h : Ow cfg draw ds all rest (lab + 64) { F with t := upd F.t d (.slice rows' nl .no) } Q) : Ow cfg draw ds all ({ dst := some d, op := .slice ty x lo hi none, type, pos, after, guard := g } :: rest) lab F Q := by
  subst hr
  exact ow_sub h0 h1 h2 hall hx hlo hhi he hz hg hd h
theorem ow_stre {ty : TypeId} {x : Operand} {lo hi : Option Operand} {bs : List UInt8} {l u : Int} (bs' : List UInt8) (hr : (bs.drop l.toNat).take (u.toNat - l.toNat) = bs') (h0 : 0 ≤ l) (h1 : l ≤ u) (h2 : u ≤ bs.length) (hx : F.ev x = ST bs) (hlo : bnd 0 (lo.map F.ev) = some l) (hhi : bnd (bs.length : Int) (hi.map F.ev) = some u) (hs : isStr cfg.P ty = true)
    (hg : guardA all { dst := some d, op := .slice ty x lo hi none, type, pos, after, guard := g } F = some true) (hd : Nat.blt d F.n = true)
    (h : Ow cfg draw ds all rest (lab + 64) { F with t := upd F.t d (ST bs') } Q) : Ow cfg draw ds all ({ dst := some d, op := .slice ty x lo hi none, type, pos, after, guard := g } :: rest) lab F Q := by
  subst hr
  exact ow_substr h0 h1 h2 hx hlo hhi hs hg hd h
end
end Go.Proofs.V
namespace Go.Proofs.V
open Go Go.RowKit
set_option linter.unusedVariables false
/-- Nothing but these slots matters any more. -/
theorem aw_abs {cfg : Cfg} {b : Code} {F : St} {Q : X → St → Prop} (n : Nat) (H : List (List AV)) (m : TypeId → Bool) (l : List (Nat × AV)) (h : (F.n, F.H, F.m, l.map fun p => F.t p.1) = (n, H, m, l.map fun p => p.2)) (k : ∀ t c al, Aw cfg b ⟨n, updL l t, c, al, H, m⟩ Q) : Aw cfg b F Q := by
  obtain ⟨t, c, al, rfl⟩ := is_of h
  exact k t c al
end Go.Proofs.V
namespace Go.Proofs.V
open Go Go.RowKit
set_option linter.unusedVariables false
set_option linter.unusedSimpArgs false
/-- A call that might turn the heap, where there is none, in a region that draws. -/
theorem ow_callDE {cfg : Cfg} {F : St} {Q : St → Prop} {ds : List Nat} {all : Array Oper} {rest : List Oper} {lab : Nat} {type : TypeId} {pos : String} {after : Array Edge} {g : Option (Nat × Bool)} {d : Nat} {f : Operand} {args : Array Operand} {ts : Array TypeId} {k : Nat} {first captured xs : List AV} {r v : AV} (hr : evK cfg k (xs.map strip) [] = some (r, [])) (hv : strip r = v) (hH : F.H = []) (hg : guardA all { dst := some d, op := .call { callee := .value f, args, argTypes := ts }, type, pos, after, guard := g } F = some true) (hf : F.ev f = .fn (.func k) first captured)
    (has : first ++ evs F args.toList ++ captured = xs) (ha : xs.all AV.free = true) (he : cfg.eff k = true) (hd : Nat.blt d F.n = true)
    (h : Ow cfg true ds all rest (lab + 64) { F with t := upd F.t d v } Q) : Ow cfg true ds all ({ dst := some d, op := .call { callee := .value f, args, argTypes := ts }, type, pos, after, guard := g } :: rest) lab F Q := by
  subst hv
  have hd' : d < F.n := by simpa using hd
  subst has
  exact ow_cons (w := true) hg (fun _ => ⟨_, by simp only [opRun, allocH, opRunV, hf, target, ha, he, hH, hr, if_true, Option.bind_some, sameH, sameL, St.put, hd'], h⟩) (fun h => by cases h)
/-- The same, in a region of one order. -/
theorem ow_callE0 {cfg : Cfg} {F : St} {Q : St → Prop} {ds : List Nat} {all : Array Oper} {rest : List Oper} {lab : Nat} {type : TypeId} {pos : String} {after : Array Edge} {g : Option (Nat × Bool)} {d : Nat} {f : Operand} {args : Array Operand} {ts : Array TypeId} {k : Nat} {first captured xs : List AV} {r : AV} {H0 H1 : List (List AV)} (hr : evK cfg k (xs.map strip) H0 = some (r, H1)) (hH : F.H = H0) (hg : guardA all { dst := some d, op := .call { callee := .value f, args, argTypes := ts }, type, pos, after, guard := g } F = some true) (hf : F.ev f = .fn (.func k) first captured)
    (has : first ++ evs F args.toList ++ captured = xs) (ha : xs.all AV.free = true) (he : cfg.eff k = true) (h64 : Nat.ble (sizeR r) 64 = true) (hd : Nat.blt d F.n = true)
    (h : Ow cfg false ds all rest (lab + 64) { F with t := upd F.t d (adoptR lab r), al := markR lab F.al r, H := H1 } Q) : Ow cfg false ds all ({ dst := some d, op := .call { callee := .value f, args, argTypes := ts }, type, pos, after, guard := g } :: rest) lab F Q := by
  subst hH
  exact ow_callEG hg hf has ha he hr h64 hd h
end Go.Proofs.V
namespace Go.Proofs.V
open Go Go.RowKit
set_option linter.unusedVariables false
set_option linter.unusedSimpArgs false
theorem pr_bind {P : Program} {α β : Type} (s : Sem α) (f : α → Sem β) : pr P (s >>= f) = (pr P s).bind fun a => pr P (f a) := by
  induction s with
  | pure a => rfl
  | program k ih => exact ih P
  | _ => rfl
theorem pr_pure {P : Program} {α : Type} (a : α) : pr P (Pure.pure a : Sem α) = some a := rfl
theorem pr_ite {P : Program} {α : Type} (c : Prop) [Decidable c] (s t : Sem α) : pr P (if c then s else t) = if c then pr P s else pr P t := by split <;> rfl
theorem pr_program {P : Program} : pr P program = some P := rfl
theorem pr_underlying {P : Program} {t : TypeId} {u : TypeDesc} (h : P.underlying t = some u) : pr P (underlying t) = some u := by
  simp only [underlying, pr_bind, pr_program, Option.bind_some, h]
  rfl
theorem pr_equalIn_struct {P : Program} (d : Nat) (t : TypeId) (xs ys : Array Value) (ht : P.underlying t = some (.struct (P.fieldsOf t))) (hp : P.stoodInHeld t = false) :
    pr P (Op.equalIn (d + 1) t (.agg xs) (.agg ys)) = pr P (Op.eqFields d xs ys (P.fieldsOf t).toList) := by
  simp only [Op.equalIn, pr_bind, pr_underlying ht, Option.bind_some, pr_program, hp, Bool.false_eq_true, if_false]
  rw [← Array.forIn_toList]
  generalize (P.fieldsOf t).toList = fs
  clear ht
  induction fs with
  | nil => rfl
  | cons f fs ih =>
    simp only [List.forIn_cons, Op.eqFields, pr_bind, pr_ite]
    split
    · cases pr P (part f.type xs f.offset) with
      | none => rfl
      | some a =>
        simp only [Option.bind_some]
        cases pr P (part f.type ys f.offset) with
        | none => rfl
        | some b =>
          simp only [Option.bind_some]
          cases pr P (Op.equalIn d f.type a b) with
          | none => rfl
          | some r =>
            cases r
            · simp only [Option.bind_some, Bool.not_false, if_true, pr_pure]
            · simp only [Option.bind_some, Bool.not_true, Bool.false_eq_true, if_false, pr_pure]
              exact ih
    · simp only [pr_pure, Option.bind_some]
      exact ih
theorem pr_eqFields_cons {P : Program} {d : Nat} {xs ys : Array Value} {f : Field} {fs : List Field} {a b : Value} {r r' : Bool} (hn : (f.name == "_") = false) (ha : pr P (part f.type xs f.offset) = some a) (hb : pr P (part f.type ys f.offset) = some b) (hr : pr P (Op.equalIn d f.type a b) = some r) (h : pr P (Op.eqFields d xs ys fs) = some r') : pr P (Op.eqFields d xs ys (f :: fs)) = some (r && r') := by
  have hn' : f.name ≠ "_" := by simpa using hn
  simp only [Op.eqFields, hn', ne_eq, not_false_eq_true, if_true, pr_bind, ha, hb, hr, Option.bind_some, pr_ite, pr_pure, h]
  cases r <;> rfl
theorem pr_eqFields_nil {P : Program} {d : Nat} {xs ys : Array Value} : pr P (Op.eqFields d xs ys []) = some true := rfl
/-- A struct's comparison, out of its fields'. -/
theorem bin_struct {P : Program} {t : TypeId} {ox oy : Operand} {cs es : List AV} {us vs : List Value} {r : Bool} (hu : vals cs = some us) (hv : vals es = some vs) (ht : P.underlying t = some (.struct (P.fieldsOf t))) (hp : P.stoodInHeld t = false) (hm : P.eqGuardType P.depth t = false) (h : pr P (Op.eqFields 9999 us.toArray vs.toArray (P.fieldsOf t).toList) = some r) :
    binA P .neq t ox oy (.agg cs) (.agg es) = some (.at (.bool !r)) ∧ binA P .eql t ox oy (.agg cs) (.agg es) = some (.at (.bool r)) := by
  have he : pr P (Op.equal t (.agg us.toArray) (.agg vs.toArray)) = some r := by
    rw [← h, ← pr_equalIn_struct 9999 t _ _ ht hp]
    rfl
  have hg : ∀ op, pr P (eqGuard op t ox oy (.agg us.toArray) (.agg vs.toArray)) = some () := by
    intro op
    cases op <;> simp [eqGuard, pr_bind, pr_program, pr_ite, pr_pure, hm]
  constructor
  · simp only [binA, AV.val, hu, hv, Option.map_some, pr_bind, hg, Option.bind_some]
    simp only [binOp, pr_bind, he, Option.bind_some, pr_pure, Option.map_some]
    rfl
  · simp only [binA, AV.val, hu, hv, Option.map_some, pr_bind, hg, Option.bind_some]
    simp only [binOp, pr_bind, he, Option.bind_some, pr_pure, Option.map_some]
    rfl
section
variable {cfg : Cfg} {F : St} {Q : St → Prop} {draw : Bool} {ds : List Nat} {all : Array Oper} {rest : List Oper} {lab : Nat} {type : TypeId} {pos : String} {after : Array Edge} {g : Option (Nat × Bool)} {d : Nat}
theorem ow_cmp {op : BinOp} {xt yt : TypeId} {x y : Operand} {r : Bool} {cs es : List AV} (hr : ∀ ox oy, binA cfg.P op xt ox oy (.agg cs) (.agg es) = some (.at (.bool r))) (hx : F.ev x = .agg cs) (hy : F.ev y = .agg es)
    (hg : guardA all { dst := some d, op := .binOp op xt x y yt, type, pos, after, guard := g } F = some true) (hd : Nat.blt d F.n = true)
    (h : Ow cfg draw ds all rest (lab + 64) { F with t := upd F.t d (.at (.bool r)) } Q) : Ow cfg draw ds all ({ dst := some d, op := .binOp op xt x y yt, type, pos, after, guard := g } :: rest) lab F Q := by
  refine ow_val rfl hg rfl ?_ hd h
  have hn : nilEq cfg.P op xt (.agg cs) (.agg es) = none := by
    unfold nilEq; cases tel cfg.P xt <;> cases op <;> rfl
  simp only [quiet, hx, hy, hn, hr]
end
end Go.Proofs.V
namespace Go.Proofs.V
open Go Go.RowKit
set_option linter.unusedVariables false
theorem ow_abs {cfg : Cfg} {F : St} {Q : St → Prop} {draw : Bool} {ds : List Nat} {all : Array Oper} {rest : List Oper} {lab : Nat} (n : Nat) (H : List (List AV)) (m : TypeId → Bool) (l : List (Nat × AV)) (h : (F.n, F.H, F.m, l.map fun p => F.t p.1) = (n, H, m, l.map fun p => p.2)) (k : ∀ t c al, Ow cfg draw ds all rest lab ⟨n, updL l t, c, al, H, m⟩ Q) : Ow cfg draw ds all rest lab F Q := by
  obtain ⟨t, c, al, rfl⟩ := is_of h
  exact k t c al
end Go.Proofs.V
namespace Go.Proofs.V
open Go Go.RowKit
set_option linter.unusedVariables false
def isB : AV → Bool
  | .at (.bool _) => true
  | _ => false
def theB : AV → Bool
  | .at (.bool b) => b
  | _ => false
theorem isB_eq {x : AV} (h : isB x = true) : x = .at (.bool (theB x)) := by
  unfold isB at h
  split at h
  · rfl
  · cases h
theorem Ow.mono {cfg : Cfg} {F : St} {Q Q' : St → Prop} {draw : Bool} {ds : List Nat} {all : Array Oper} {rest : List Oper} {lab : Nat} (h : Ow cfg draw ds all rest lab F Q) (hq : ∀ F, Q F → Q' F) : Ow cfg draw ds all rest lab F Q' := let ⟨F', e, q⟩ := h; ⟨F', e, hq _ q⟩
section
variable {cfg : Cfg} {F : St} {Q : X → St → Prop} {b : Code} {id : Nat} {ops : Array Oper} {draw : Bool}
/-- A region, and what follows, with what is known between. -/
theorem aw_mid (I : St → Prop) (h : Ow cfg draw (if draw then ops.toList.filterMap (·.dst) else []) ops ops.toList F.c F (fun F' => I { F' with c := F.c + 64 * ops.size })) (k : ∀ F, I F → Aw cfg b F Q) : Aw cfg (.seq (.region id ops draw) b) F Q :=
  aw_sr (h.mono fun F' h => k _ h)
/-- A branch on a truth value of which nothing is known. -/
theorem aw_condX {c : Operand} {p q : Code} (hc : isB (F.ev c) = true) (h1 : Aw cfg p F Q) (h2 : Aw cfg q F Q) : Aw cfg (.cond c p q) F Q :=
  aw_cond (isB_eq hc) (fun _ => h1) (fun _ => h2)
theorem aw_scX {c : Operand} {p q : Code} (hc : isB (F.ev c) = true) (h1 : Aw cfg (.seq p b) F Q) (h2 : Aw cfg (.seq q b) F Q) : Aw cfg (.seq (.cond c p q) b) F Q :=
  aw_sc _ (isB_eq hc) (fun _ => h1) (fun _ => h2)
end
/-- A state known at some slots, and a truth value at one more. -/
def IsB (n : Nat) (H : List (List AV)) (m : TypeId → Bool) (j : Nat) (p : Bool → Prop) (l : List (Nat × AV)) (F : St) : Prop := ∃ v, p v ∧ Is n H m ((j, .at (.bool v)) :: l) F
theorem isB_of {n : Nat} {H : List (List AV)} {m : TypeId → Bool} {j : Nat} {p : Bool → Prop} {l : List (Nat × AV)} {F : St} (v : Bool) (hv : p v) (h : (F.n, F.H, F.m, F.t j, l.map fun p => F.t p.1) = (n, H, m, .at (.bool v), l.map fun p => p.2)) : IsB n H m j p l F := by
  simp only [Prod.mk.injEq] at h
  obtain ⟨h1, h2, h3, h0, h⟩ := h
  exact ⟨v, hv, is_of (by simp only [List.map_cons, h1, h2, h3, h0, h])⟩
/-- The same, whatever truth value it is. -/
theorem isBX_of {n : Nat} {H : List (List AV)} {m : TypeId → Bool} {j : Nat} {l : List (Nat × AV)} {F : St} (hb : isB (F.t j) = true) (h : (F.n, F.H, F.m, l.map fun p => F.t p.1) = (n, H, m, l.map fun p => p.2)) : IsB n H m j (fun _ => True) l F := by
  simp only [Prod.mk.injEq] at h
  obtain ⟨h1, h2, h3, h⟩ := h
  exact ⟨theB (F.t j), trivial, is_of (by simp only [List.map_cons, h1, h2, h3, h, ← isB_eq hb])⟩
end Go.Proofs.V
namespace Go.Proofs.V
open Go Go.RowKit
set_option linter.unusedVariables false
/-- A test of which nothing is known. -/
theorem ow_any {cfg : Cfg} {F : St} {Q : St → Prop} {draw : Bool} {ds : List Nat} {all : Array Oper} {rest : List Oper} {lab : Nat} {type : TypeId} {pos : String} {after : Array Edge} {g : Option (Nat × Bool)} {d : Nat} {op : Op} (hq : (match quiet cfg.P F ds lab op with | some x => isB x | none => false) = true) (hc : Op.calm op = true) (hg : guardA all { dst := some d, op, type, pos, after, guard := g } F = some true) (hA : (allocH cfg.P F op).isNone = true) (hd : Nat.blt d F.n = true)
    (h : ∀ w : Bool, Ow cfg draw ds all rest (lab + 64) { F with t := upd F.t d (.at (.bool w)) } Q) : Ow cfg draw ds all ({ dst := some d, op, type, pos, after, guard := g } :: rest) lab F Q := by
  cases hv : quiet cfg.P F ds lab op with
  | none => rw [hv] at hq; cases hq
  | some x =>
    rw [hv] at hq
    exact ow_val hc hg hA (hv.trans (congrArg some (isB_eq hq))) hd (h _)
end Go.Proofs.V
namespace Go.Proofs.V
open Go Go.RowKit
set_option linter.unusedVariables false
set_option linter.unusedSimpArgs false
section
variable {cfg : Cfg} {F : St} {Q : St → Prop} {draw : Bool} {ds : List Nat} {all : Array Oper} {rest : List Oper} {lab : Nat} {type : TypeId} {pos : String} {after : Array Edge} {g : Option (Nat × Bool)} {d : Nat}
theorem ow_mk {t e : TypeId} {x y : Operand} {z : List AV} {n sz by_ : Nat} (hn : n ≠ 0) (h1 : n ≤ 35184372088832) (h2 : n * by_ ≤ 35184372088832) (hm : F.m t = true) (hx : F.ev x = .at (.int .i64 (n : Int))) (hy : F.ev y = .at (.int .i64 (n : Int))) (he : tel cfg.P t = some e) (hz : tzero cfg.P e = some z) (hs : tsz cfg.P e = some sz) (hb : tby cfg.P e = some by_) (hzl : z.length = sz) (hsz : (sz == 0) = false)
    (hg : guardA all { dst := some d, op := .makeSlice t x y, type, pos, after, guard := g } F = some true) (hd : Nat.blt d F.n = true)
    (h : Ow cfg false ds all rest (lab + 64) { F with t := upd F.t d (.hs F.H.length 0 n n sz), H := F.H ++ [(List.replicate n z).flatten] } Q) : Ow cfg false ds all ({ dst := some d, op := .makeSlice t x y, type, pos, after, guard := g } :: rest) lab F Q := by
  have hd' : d < F.n := by simpa using hd
  have hsz' : sz ≠ 0 := by simpa using hsz
  have hq : quiet cfg.P F [] 0 (.makeSlice t x y) = some (.slice (List.replicate n z) false .full) := by
    simp only [quiet, he, hx, hy, intOfA, hz, hs, hb]
    rw [if_pos ⟨trivial, by omega, by omega, by rw [Int.toNat_natCast]; exact h2, hzl, hsz'⟩, Int.toNat_natCast]
  refine ow_cons (w := true) hg (fun _ => ⟨_, ?_, h⟩) (fun h => by cases h)
  have hne : ¬ (List.replicate n z).length = 0 := by rw [List.length_replicate]; exact hn
  simp only [opRun, allocH, hm, if_true, hq, he, Option.bind_some, hs, hne, if_false, Bool.false_eq_true, List.length_replicate, St.put, hd', hn]
theorem ow_hat {ty e : TypeId} {x i : Operand} {l off len cap sz : Nat} {n : Int} (h0 : 0 ≤ n) (h1 : n < len) (hx : F.ev x = .hs l off len cap sz) (hi : F.ev i = .at (.int .i64 n)) (he : tel cfg.P ty = some e) (hz : tsz cfg.P e = some sz)
    (hg : guardA all { dst := some d, op := .indexAddr ty x i, type, pos, after, guard := g } F = some true) (hd : Nat.blt d F.n = true)
    (h : Ow cfg draw ds all rest (lab + 64) { F with t := upd F.t d (.hp l (off + n.toNat * sz)) } Q) : Ow cfg draw ds all ({ dst := some d, op := .indexAddr ty x i, type, pos, after, guard := g } :: rest) lab F Q := by
  refine ow_val rfl hg rfl ?_ hd h
  simp only [quiet, hx, hi, indexAddrA, intOfA, he]
  rw [if_pos ⟨h0, h1, hz⟩]
theorem ow_hst {ty : TypeId} {p x : Operand} {l off : Nat} {row : List AV} {v : AV} (ho : off + v.cells.length ≤ row.length) (hp : F.ev p = .hp l off) (hr : F.H[l]? = some row) (hx : F.ev x = v) (hs : v.storable = true) (hn : tsz cfg.P ty = some v.cells.length)
    (hg : guardA all { dst := none, op := .store ty p x, type, pos, after, guard := g } F = some true)
    (h : Ow cfg draw ds all rest (lab + 64) { F with H := F.H.set l (splice row off (v.cells.map strip1)) } Q) : Ow cfg draw ds all ({ dst := none, op := .store ty p x, type, pos, after, guard := g } :: rest) lab F Q := by
  subst hx
  refine ow_cons (w := true) hg (fun _ => ⟨_, ?_, h⟩) (fun h => by cases h)
  simp only [opRun, allocH, opRunV, hn]
  rw [if_pos ⟨hs, by trivial⟩, hp]
  simp only [St.write, hr, ho, if_true, Option.bind_some, St.put]
theorem ow_hsl {ty e : TypeId} {x : Operand} {lo hi : Option Operand} {loc off len cap sz : Nat} {l u : Int} (h0 : 0 ≤ l) (h1 : l ≤ u) (h2 : u ≤ len) (h3 : len ≤ cap) (h4 : l < cap) (hx : F.ev x = .hs loc off len cap sz) (hlo : bnd 0 (lo.map F.ev) = some l) (hhi : bnd (len : Int) (hi.map F.ev) = some u) (he : tel cfg.P ty = some e) (hz : tsz cfg.P e = some sz)
    (hg : guardA all { dst := some d, op := .slice ty x lo hi none, type, pos, after, guard := g } F = some true) (hd : Nat.blt d F.n = true)
    (h : Ow cfg draw ds all rest (lab + 64) { F with t := upd F.t d (.hs loc (off + l.toNat * sz) (u.toNat - l.toNat) (cap - l.toNat) sz) } Q) : Ow cfg draw ds all ({ dst := some d, op := .slice ty x lo hi none, type, pos, after, guard := g } :: rest) lab F Q := by
  refine ow_val rfl hg rfl ?_ hd h
  simp only [quiet, hx, sliceA, Option.map_none, he, hlo, hhi]
  rw [if_pos ⟨hz, h0, h1, h2, h3, h4⟩]
end
/-- 'evK_ofZ', of the result a property. -/
theorem evK_ofZE {cfg : Cfg} {f : Nat} {args : List AV} {fn : Func} {c : Code} {P : AV → Prop} (hf : cfg.P.funcs[f]? = some fn) (hb : fn.body = some c) (hl : args.length ≤ fn.ntmps) (hok : codeOk c = true) (hname : (fn.name == "runtime.NumGoroutine") = false) (hfz : cfg.frz f = true)
    (h : Aw cfg c { n := fn.ntmps, t := argAt args, c := 0, al := fun _ => false, H := [], m := cfg.heap f } (fun x F => (x = .normal ∨ x = .ret) ∧ ∃ vs ws, resultsA cfg.P F fn.results.toList = some vs ∧ freezeA F.H vs = some ws ∧ (ws.all AV.free && ws.all (nohp 9)) = true ∧ P (leaveR (fun _ => false) (packA ws)))) :
    ∃ r, evK cfg f args [] = some (r, []) ∧ P r := by
  obtain ⟨x, F, e, hx, vs, ws, h1, h2, h3, h4⟩ := h
  exact ⟨_, evK_ofZ hf hb hl hok hname hfz ⟨x, F, e, hx, vs, ws, h1, h2, h3, rfl⟩, h4⟩
end Go.Proofs.V
namespace Go.Proofs.V
open Go Go.RowKit
set_option linter.unusedVariables false
theorem is_atH {n : Nat} {H H' : List (List AV)} {m : TypeId → Bool} {l l' : List (Nat × AV)} {F : St} (hl : l' = l) (hH : H' = H) (h : (F.n, F.H, F.m, l'.map fun p => F.t p.1) = (n, H', m, l'.map fun p => p.2)) : Is n H m l F := by
  subst hl; subst hH; exact is_of h
theorem aw_absE {cfg : Cfg} {b : Code} {F : St} {Q : X → St → Prop} (n : Nat) (H H' : List (List AV)) (m : TypeId → Bool) (l l' : List (Nat × AV)) (hl : l' = l) (hH : H' = H) (h : (F.n, F.H, F.m, l'.map fun p => F.t p.1) = (n, H', m, l'.map fun p => p.2)) (k : ∀ t c al, Aw cfg b ⟨n, updL l t, c, al, H, m⟩ Q) : Aw cfg b F Q := by
  obtain ⟨t, c, al, rfl⟩ := is_atH hl hH h
  exact k t c al
/-- A loop in a block that is left in one way, with what is known then. -/
theorem aw_sforJ {cfg : Cfg} {F : St} {Q : X → St → Prop} {b body : Code} {id : Nat} (N : Nat) (I : Nat → St → Prop) (J : St → Prop) (h0 : I 0 F) (round : ∀ i F, i < N → I i F → Aw cfg body F (Then (I (i + 1)) (fun x F => x = .exit id ∧ J F))) (last : ∀ F, I N F → Aw cfg body F (Then (fun _ => False) (fun x F => x = .exit id ∧ J F))) (k : ∀ F, J F → Aw cfg b F Q) : Aw cfg (.seq (.block id (.loop body)) b) F Q := by
  refine aw_seq (aw_block ((aw_for N I h0 round last).mono fun x F h => ?_))
  obtain ⟨rfl, hJ⟩ := h
  simp only [InBlock, if_true, Then]
  exact k F hJ
end Go.Proofs.V
namespace Go.Proofs.V
open Go Go.RowKit
set_option linter.unusedVariables false
theorem isF_at {n : Nat} {H : List (List AV)} {m : TypeId → Bool} {j : Nat} {rows rows' : List (List AV)} {o : Own} {nl : Bool} {l l' : List (Nat × AV)} {F : St} (hl : l' = l) (h : (F.n, F.H, F.m, F.t j, l'.map fun p => F.t p.1) = (n, H, m, .slice rows' nl o, l'.map fun p => p.2)) (hr : rows' = rows) (ho : Fresh F.al o) : IsF n H m j rows l F := by
  subst hl; exact isF_of h hr ho
theorem freshE {al al' : Nat → Bool} {o : Own} (e : al = al') (h : Fresh al' o) : Fresh al o := by subst e; exact h
theorem freshE_id {al al' : Nat → Bool} {k : Nat} (e : al = al') (h : al' k = true) : Fresh al (.id k) := by subst e; exact fresh_id h
/-- Nothing but these slots matters any more, of which one is a variable of the frame's own. -/
theorem aw_absB {cfg : Cfg} {b : Code} {F : St} {Q : X → St → Prop} (n : Nat) (H : List (List AV)) (m : TypeId → Bool) (s : Nat) (row : List AV) (l : List (Nat × AV)) (hb : F.t s = .box (boxGen (F.t s)) row) (h : (F.n, F.H, F.m, l.map fun p => F.t p.1) = (n, H, m, l.map fun p => p.2)) (k : ∀ t c al g, Aw cfg b ⟨n, upd (updL l t) s (.box g row), c, al, H, m⟩ Q) : Aw cfg b F Q := by
  simp only [Prod.mk.injEq] at h
  obtain ⟨rfl, rfl, rfl, h⟩ := h
  have := k F.t F.c F.al (boxGen (F.t s))
  rw [updL_eta l F.t h, upd_eta hb] at this
  exact this
theorem ow_absB {cfg : Cfg} {F : St} {Q : St → Prop} {draw : Bool} {ds : List Nat} {all : Array Oper} {rest : List Oper} {lab : Nat} (n : Nat) (H : List (List AV)) (m : TypeId → Bool) (s : Nat) (row : List AV) (l : List (Nat × AV)) (hb : F.t s = .box (boxGen (F.t s)) row) (h : (F.n, F.H, F.m, l.map fun p => F.t p.1) = (n, H, m, l.map fun p => p.2)) (k : ∀ t c al g, Ow cfg draw ds all rest lab ⟨n, upd (updL l t) s (.box g row), c, al, H, m⟩ Q) : Ow cfg draw ds all rest lab F Q := by
  simp only [Prod.mk.injEq] at h
  obtain ⟨rfl, rfl, rfl, h⟩ := h
  have := k F.t F.c F.al (boxGen (F.t s))
  rw [updL_eta l F.t h, upd_eta hb] at this
  exact this
/-- A call of which the arguments without their marks are told. -/
theorem ow_callA {cfg : Cfg} {F : St} {Q : St → Prop} {ds : List Nat} {all : Array Oper} {rest : List Oper} {lab : Nat} {type : TypeId} {pos : String} {after : Array Edge} {g : Option (Nat × Bool)} {d : Nat} {f : Operand} {args : Array Operand} {ts : Array TypeId} {k : Nat} {first captured xs : List AV} {r : AV} (hg : guardA all { dst := some d, op := .call { callee := .value f, args, argTypes := ts }, type, pos, after, guard := g } F = some true) (hf : F.ev f = .fn (.func k) first captured)
    (has : (first ++ evs F args.toList ++ captured).map strip = xs) (ha : (first ++ evs F args.toList ++ captured).all AV.free = true) (he : cfg.eff k = false) (hH : F.H.isEmpty = true) (hr : callQ cfg (evK cfg) k xs = some r) (h64 : Nat.ble (sizeR r) 64 = true) (hd : Nat.blt d F.n = true)
    (h : Ow cfg false ds all rest (lab + 64) { F with t := upd F.t d (adoptR lab r), al := markR lab F.al r } Q) : Ow cfg false ds all ({ dst := some d, op := .call { callee := .value f, args, argTypes := ts }, type, pos, after, guard := g } :: rest) lab F Q := by
  subst has
  exact ow_callG hg hf rfl ha he (by rw [hH]; rfl) hr h64 hd h
end Go.Proofs.V
namespace Go.Proofs.V
open Go Go.RowKit
set_option linter.unusedVariables false
/-- A call that turns nothing, of arguments without addresses of the heap. -/
theorem ow_callN {cfg : Cfg} {F : St} {Q : St → Prop} {ds : List Nat} {all : Array Oper} {rest : List Oper} {lab : Nat} {type : TypeId} {pos : String} {after : Array Edge} {g : Option (Nat × Bool)} {d : Nat} {f : Operand} {args : Array Operand} {ts : Array TypeId} {k : Nat} {first captured xs : List AV} {r : AV} (hN : (xs.map strip).all (nohp 9) = true) (hr : callQ cfg (evK cfg) k (xs.map strip) = some r) (hg : guardA all { dst := some d, op := .call { callee := .value f, args, argTypes := ts }, type, pos, after, guard := g } F = some true) (hf : F.ev f = .fn (.func k) first captured)
    (has : first ++ evs F args.toList ++ captured = xs) (ha : xs.all AV.free = true) (he : cfg.eff k = false) (h64 : Nat.ble (sizeR r) 64 = true) (hd : Nat.blt d F.n = true)
    (h : Ow cfg false ds all rest (lab + 64) { F with t := upd F.t d (adoptR lab r), al := markR lab F.al r } Q) : Ow cfg false ds all ({ dst := some d, op := .call { callee := .value f, args, argTypes := ts }, type, pos, after, guard := g } :: rest) lab F Q :=
  ow_callG hg hf has ha he (by rw [hN, Bool.or_true]) hr h64 hd h
end Go.Proofs.V
namespace Go.Proofs.V
open Go Go.RowKit
set_option linter.unusedVariables false
set_option linter.unusedSimpArgs false
/-- A piece of code, by the kernel. -/
theorem aw_kc {cfg : Cfg} {c : Code} {F : St} {Q : X → St → Prop} (k : Nat) (hs : ((evN cfg k).1 c F).isSome = true) (x : X) (hx : (((evN cfg k).1 c F).get hs).1 = x) (h : Q x (((evN cfg k).1 c F).get hs).2) : Aw cfg c F Q := by
  subst hx
  exact ⟨(((evN cfg k).1 c F).get hs).1, (((evN cfg k).1 c F).get hs).2, evC_some.2 ⟨k, (Option.some_get hs).symm⟩, h⟩
theorem aw_skc {cfg : Cfg} {c b : Code} {F : St} {Q : X → St → Prop} (k : Nat) (hs : ((evN cfg k).1 c F).isSome = true) (hx : (((evN cfg k).1 c F).get hs).1 = .normal) (h : Aw cfg b (((evN cfg k).1 c F).get hs).2 Q) : Aw cfg (.seq c b) F Q :=
  aw_seq (aw_kc k hs .normal hx h)
/-- The mark of what a call hands back. -/
def adO (lab : Nat) : Own → Own
  | .fresh => .id lab
  | x => x
def finO : Own → Own
  | .fresh => .no
  | x => x
theorem adopt_sl (lab : Nat) (rows : List (List AV)) (nl : Bool) (o : Own) : adoptR lab (.slice rows nl o) = .slice rows nl (adO lab o) := by
  cases o <;> rfl
theorem strip1_ad {o : Own} (h : o = .full ∨ o = .fresh) (lab : Nat) (rows : List (List AV)) (nl : Bool) : strip1 (.slice rows nl (adO lab o)) = .slice rows nl (finO o) := by
  rcases h with rfl | rfl <;> rfl
/-- A call that turns the heap; its result, in the taker's hands. -/
theorem ow_callEv {cfg : Cfg} {F : St} {Q : St → Prop} {ds : List Nat} {all : Array Oper} {rest : List Oper} {lab : Nat} {type : TypeId} {pos : String} {after : Array Edge} {g : Option (Nat × Bool)} {d : Nat} {f : Operand} {args : Array Operand} {ts : Array TypeId} {k : Nat} {first captured xs : List AV} {r v : AV} {H0 H1 : List (List AV)} (hr : evK cfg k (xs.map strip) H0 = some (r, H1)) (hv : adoptR lab r = v) (hH : F.H = H0) (hg : guardA all { dst := some d, op := .call { callee := .value f, args, argTypes := ts }, type, pos, after, guard := g } F = some true) (hf : F.ev f = .fn (.func k) first captured)
    (has : first ++ evs F args.toList ++ captured = xs) (ha : xs.all AV.free = true) (he : cfg.eff k = true) (h64 : Nat.ble (sizeR r) 64 = true) (hd : Nat.blt d F.n = true)
    (h : Ow cfg false ds all rest (lab + 64) { F with t := upd F.t d v, al := markR lab F.al r, H := H1 } Q) : Ow cfg false ds all ({ dst := some d, op := .call { callee := .value f, args, argTypes := ts }, type, pos, after, guard := g } :: rest) lab F Q := by
  subst hv
  exact ow_callE0 hr hH hg hf has ha he h64 hd h
end Go.Proofs.V
namespace Go.Proofs.V
open Go Go.RowKit
set_option linter.unusedVariables false
/-- A state with a row that is nil, or one's own. -/
def IsG (n : Nat) (H : List (List AV)) (m : TypeId → Bool) (j : Nat) (rows : List (List AV)) (l : List (Nat × AV)) (F : St) : Prop := ∃ t c al o nl, F = ⟨n, upd (updL l t) j (.slice rows nl o), c, al, H, m⟩ ∧ ((rows = [] ∧ o = .full ∧ nl = true) ∨ ∃ k, o = .id k ∧ al k = true ∧ nl = false)
theorem isG_nil {n : Nat} {H : List (List AV)} {m : TypeId → Bool} {j : Nat} {rows : List (List AV)} {l : List (Nat × AV)} {F : St} (h : (F.n, F.H, F.m, F.t j, l.map fun p => F.t p.1) = (n, H, m, .slice [] true .full, l.map fun p => p.2)) (hr : [] = rows) : IsG n H m j rows l F := by
  obtain ⟨t, c, al, o, nl, h1, _⟩ := isF_of (rows := rows) (o := .full) (nl := true) h hr fresh_full
  subst hr
  simp only [Prod.mk.injEq] at h
  obtain ⟨rfl, rfl, rfl, h0, h⟩ := h
  exact ⟨F.t, F.c, F.al, .full, true, by rw [updL_eta l F.t h, upd_eta h0], .inl ⟨rfl, rfl, rfl⟩⟩
theorem isG_id {n : Nat} {H : List (List AV)} {m : TypeId → Bool} {j k : Nat} {al' : Nat → Bool} {rows rows' : List (List AV)} {l l' : List (Nat × AV)} {F : St} (hl : l' = l) (h : (F.n, F.H, F.m, F.t j, l'.map fun p => F.t p.1) = (n, H, m, .slice rows' false (.id k), l'.map fun p => p.2)) (hr : rows' = rows) (he : F.al = al') (hk : al' k = true) : IsG n H m j rows l F := by
  subst hl
  subst hr
  simp only [Prod.mk.injEq] at h
  obtain ⟨rfl, rfl, rfl, h0, h⟩ := h
  exact ⟨F.t, F.c, F.al, .id k, false, by rw [updL_eta l' F.t h, upd_eta h0], .inr ⟨k, rfl, by rw [he]; exact hk, rfl⟩⟩
theorem freshG {al : Nat → Bool} {o : Own} {nl : Bool} {rows : List (List AV)} (h : (rows = [] ∧ o = .full ∧ nl = true) ∨ ∃ k, o = .id k ∧ al k = true ∧ nl = false) : Fresh al o := by
  rcases h with ⟨_, h, _⟩ | ⟨k, h, hk, _⟩
  · exact .inl h
  · exact .inr ⟨k, h, hk⟩
/-- A row as it is handed back: nil, or of new memory. -/
def RO {α : Type} (xs : List α) (nl : Bool) (o : Own) : Prop := (xs = [] ∧ nl = true ∧ o = .full) ∨ (nl = false ∧ o = .fresh)
end Go.Proofs.V

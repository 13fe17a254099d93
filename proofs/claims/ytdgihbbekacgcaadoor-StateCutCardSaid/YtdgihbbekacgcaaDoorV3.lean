/- Steps through code: what the evaluator comes to, as a goal with what follows behind it. -/
import Derived.Test.YtdgihbbekacgcaaDoorV2
namespace Go.Proofs.V
open Go
set_option linter.unusedVariables false
set_option linter.unusedSimpArgs false

/-- The code comes to an end of which Q holds. -/
def Aw (cfg : Cfg) (c : Code) (F : St) (Q : X → St → Prop) : Prop := ∃ x F', evC cfg c F = some (x, F') ∧ Q x F'
def Ow (cfg : Cfg) (draw : Bool) (ds : List Nat) (all : Array Oper) (l : List Oper) (lab : Nat) (F : St) (Q : St → Prop) : Prop := ∃ F', opsRun cfg (evK cfg) draw ds all l lab F = some F' ∧ Q F'
/-- What follows a piece of code. -/
def Then (K : St → Prop) (Q : X → St → Prop) : X → St → Prop
  | .normal, F => K F
  | x, F => Q x F
def InBlock (id : Nat) (Q : X → St → Prop) : X → St → Prop
  | .exit i, F => if i = id then Q .normal F else Q (.exit i) F
  | x, F => Q x F

section
variable {cfg : Cfg} {F : St} {Q : X → St → Prop}
theorem Aw.mono {c : Code} {Q' : X → St → Prop} (h : Aw cfg c F Q) (hq : ∀ x F, Q x F → Q' x F) : Aw cfg c F Q' := let ⟨x, F', e, q⟩ := h; ⟨x, F', e, hq _ _ q⟩
theorem aw_skip (h : Q .normal F) : Aw cfg .skip F Q := ⟨_, _, evC_skip, h⟩
theorem aw_label {l : Nat} (h : Q .normal F) : Aw cfg (.label l) F Q := ⟨_, _, evC_label, h⟩
theorem aw_exit {id : Nat} (h : Q (.exit id) F) : Aw cfg (.exit id) F Q := ⟨_, _, evC_exit, h⟩
theorem aw_goto {l : Nat} (h : Q (.goto l) F) : Aw cfg (.goto l) F Q := ⟨_, _, evC_goto, h⟩
theorem aw_ret (h : Q .ret F) : Aw cfg .ret F Q := ⟨_, _, evC_ret, h⟩
theorem aw_seq {a b : Code} (h : Aw cfg a F (Then (fun F => Aw cfg b F Q) Q)) : Aw cfg (.seq a b) F Q := by
  obtain ⟨x, F1, e, q⟩ := h
  cases x with
  | normal => obtain ⟨x, F2, e2, q2⟩ := q; exact ⟨x, F2, by rw [evC_seq, e]; exact e2, q2⟩
  | exit i => exact ⟨_, F1, by rw [evC_seq, e]; rfl, q⟩
  | goto i => exact ⟨_, F1, by rw [evC_seq, e]; rfl, q⟩
  | ret => exact ⟨_, F1, by rw [evC_seq, e]; rfl, q⟩
theorem aw_cond {c : Operand} {a b : Code} {t : Bool} (hc : F.ev c = .at (.bool t)) (h1 : t = true → Aw cfg a F Q) (h2 : t = false → Aw cfg b F Q) : Aw cfg (.cond c a b) F Q := by
  cases t with
  | true => obtain ⟨x, F', e, q⟩ := h1 rfl; exact ⟨x, F', by rw [evC_cond, hc]; exact e, q⟩
  | false => obtain ⟨x, F', e, q⟩ := h2 rfl; exact ⟨x, F', by rw [evC_cond, hc]; exact e, q⟩
theorem aw_block {id : Nat} {b : Code} (h : Aw cfg b F (InBlock id Q)) : Aw cfg (.block id b) F Q := by
  obtain ⟨x, F1, e, q⟩ := h
  cases x with
  | exit i =>
    by_cases hi : i = id
    · exact ⟨.normal, F1, by rw [evC_block, e]; simp [hi], by simpa [InBlock, hi] using q⟩
    · exact ⟨.exit i, F1, by rw [evC_block, e]; simp [hi], by simpa [InBlock, hi] using q⟩
  | normal => exact ⟨_, F1, by rw [evC_block, e]; rfl, q⟩
  | goto i => exact ⟨_, F1, by rw [evC_block, e]; rfl, q⟩
  | ret => exact ⟨_, F1, by rw [evC_block, e]; rfl, q⟩
theorem aw_region {id : Nat} {ops : Array Oper} {draw : Bool} (h : Ow cfg draw (if draw then ops.toList.filterMap (·.dst) else []) ops ops.toList F.c F (fun F' => Q .normal { F' with c := F.c + 64 * ops.size })) : Aw cfg (.region id ops draw) F Q := by
  obtain ⟨F', e, q⟩ := h
  exact ⟨.normal, _, by rw [evC_region, regionRun, e]; rfl, q⟩
/-- A loop, by an induction of one's own: one round first. -/
theorem aw_loop1 {b : Code} (h : Aw cfg b F (Then (fun F => Aw cfg (.loop b) F Q) Q)) : Aw cfg (.loop b) F Q := by
  obtain ⟨x, F1, e, q⟩ := h
  cases x with
  | normal => obtain ⟨x, F2, e2, q2⟩ := q; exact ⟨x, F2, by rw [evC_loop, e]; exact e2, q2⟩
  | exit i => exact ⟨_, F1, by rw [evC_loop, e]; rfl, q⟩
  | goto i => exact ⟨_, F1, by rw [evC_loop, e]; rfl, q⟩
  | ret => exact ⟨_, F1, by rw [evC_loop, e]; rfl, q⟩
/-- A loop by a relation and a measure. -/
theorem aw_loop {b : Code} (I : St → Prop) (μ : St → Nat) (h0 : I F) (round : ∀ F, I F → Aw cfg b F (Then (fun F' => I F' ∧ μ F' < μ F) Q)) : Aw cfg (.loop b) F Q := by
  have key : ∀ m F, μ F = m → I F → Aw cfg (.loop b) F Q := by
    intro m
    induction m using Nat.strongRecOn with
    | _ m ih =>
      intro F hm hI
      refine aw_loop1 ((round F hI).mono fun x F' h => ?_)
      cases x with
      | normal => exact ih _ (hm ▸ h.2) F' rfl h.1
      | exit i => exact h
      | goto i => exact h
      | ret => exact h
  exact key _ F rfl h0
theorem aw_scope {b : Code} (h : Aw cfg b F (fun x F' => match x with
    | .goto l => ∃ rest, findLabel b l = some rest ∧ Aw cfg rest F' (fun x F' => match x with
      | .goto _ => False
      | x => Q x F')
    | x => Q x F')) : Aw cfg (.scope b) F Q := by
  obtain ⟨x, F1, e, q⟩ := h
  cases x with
  | goto l =>
    obtain ⟨rest, hf, x, F2, e2, q2⟩ := q
    cases x with
    | goto i => exact q2.elim
    | normal => exact ⟨_, F2, by rw [evC_scope, e]; simp only [Option.bind_some, hf, e2], q2⟩
    | exit i => exact ⟨_, F2, by rw [evC_scope, e]; simp only [Option.bind_some, hf, e2], q2⟩
    | ret => exact ⟨_, F2, by rw [evC_scope, e]; simp only [Option.bind_some, hf, e2], q2⟩
  | normal => exact ⟨_, F1, by rw [evC_scope, e]; rfl, q⟩
  | exit i => exact ⟨_, F1, by rw [evC_scope, e]; rfl, q⟩
  | ret => exact ⟨_, F1, by rw [evC_scope, e]; rfl, q⟩
end

section
variable {cfg : Cfg} {F : St} {Q : St → Prop} {draw : Bool} {ds : List Nat} {all : Array Oper} {rest : List Oper} {lab : Nat}
theorem ow_nil (h : Q F) : Ow cfg draw ds all [] lab F Q := ⟨F, rfl, h⟩
theorem ow_cons {o : Oper} {w : Bool} (hg : guardA all o F = some w)
    (h1 : w = true → ∃ F', opRun cfg (evK cfg) draw ds lab o F = some F' ∧ Ow cfg draw ds all rest (lab + 64) F' Q)
    (h2 : w = false → ∃ F', F.put o.dst und = some F' ∧ Ow cfg draw ds all rest (lab + 64) F' Q) : Ow cfg draw ds all (o :: rest) lab F Q := by
  cases w with
  | true =>
    obtain ⟨F1, e1, F2, e2, q⟩ := h1 rfl
    exact ⟨F2, by unfold opsRun; rw [hg]; simp only [Option.bind_some, if_true, e1]; exact e2, q⟩
  | false =>
    obtain ⟨F1, e1, F2, e2, q⟩ := h2 rfl
    exact ⟨F2, by unfold opsRun; rw [hg]; simp only [Option.bind_some, Bool.false_eq_true, if_false, e1]; exact e2, q⟩
end

/-- The operations that 'quiet' reckons. -/
def Op.calm : Op → Bool
  | .store .. | .call _ | .makeFunc .. => false
  | _ => true

section
variable {cfg : Cfg} {Q : St → Prop} {draw : Bool} {ds : List Nat} {all : Array Oper} {rest : List Oper} {lab : Nat}
  {op : Op} {type : TypeId} {pos : String} {after : Array Edge} {d : Nat} {n : Nat} {t : Nat → AV} {c : Nat} {al : Nat → Bool} {H : List (List AV)} {m : TypeId → Bool}
/-- A quiet operation without a guard. -/
theorem ow_quiet {v : AV} (hc : Op.calm op = true) (hq : quiet cfg.P ⟨n, t, c, al, H, m⟩ ds lab op = some v) (hd : d < n)
    (h : Ow cfg draw ds all rest (lab + 64) ⟨n, upd t d v, c, al, H, m⟩ Q) (hA : allocH cfg.P ⟨n, t, c, al, H, m⟩ op = none := by rfl) : Ow cfg draw ds all ({ dst := some d, op, type, pos, after, guard := none } :: rest) lab ⟨n, t, c, al, H, m⟩ Q := by
  refine ow_cons (w := true) rfl (fun _ => ⟨_, ?_, h⟩) (fun h => by cases h)
  simp only [opRun, hA]
  cases op <;> first | (cases hc; done) | (simp only [opRunV, hq, Option.bind_some, St.put, hd, if_true])
/-- What is laid on the heap. -/
theorem ow_alloc {v : AV} {cs : List AV} (hA : allocH cfg.P ⟨n, t, c, al, H, m⟩ op = some (cs, v)) (hd : d < n)
    (h : Ow cfg false ds all rest (lab + 64) ⟨n, upd t d v, c, al, H ++ [cs], m⟩ Q) : Ow cfg false ds all ({ dst := some d, op, type, pos, after, guard := none } :: rest) lab ⟨n, t, c, al, H, m⟩ Q := by
  refine ow_cons (w := true) rfl (fun _ => ⟨_, ?_, h⟩) (fun h => by cases h)
  simp only [opRun, hA, Bool.false_eq_true, if_false, St.put, hd, if_true]
/-- An operation with a guard: the guard is asked first. -/
theorem ow_guard {dst : Option Nat} {j : Nat} {want w : Bool} (hg : guardA all { dst, op, type, pos, after, guard := some (j, want) } ⟨n, t, c, al, H, m⟩ = some w)
    (h1 : w = true → Ow cfg draw ds all ({ dst, op, type, pos, after, guard := none } :: rest) lab ⟨n, t, c, al, H, m⟩ Q)
    (h2 : w = false → ∃ F', St.put ⟨n, t, c, al, H, m⟩ dst und = some F' ∧ Ow cfg draw ds all rest (lab + 64) F' Q) : Ow cfg draw ds all ({ dst, op, type, pos, after, guard := some (j, want) } :: rest) lab ⟨n, t, c, al, H, m⟩ Q := by
  refine ow_cons hg (fun hw => ?_) h2
  obtain ⟨F', e, q⟩ := h1 hw
  unfold opsRun at e
  simp only [guardA, Option.bind_some, if_true] at e
  obtain ⟨F1, e1, e2⟩ := Option.bind_eq_some_iff.1 e
  exact ⟨F1, by simpa only [opRun, allocH, opRunV] using e1, F', e2, q⟩
theorem ow_skip (hd : d < n) (h : Ow cfg draw ds all rest (lab + 64) ⟨n, upd t d und, c, al, H, m⟩ Q) : ∃ F', St.put ⟨n, t, c, al, H, m⟩ (some d) und = some F' ∧ Ow cfg draw ds all rest (lab + 64) F' Q :=
  ⟨_, by simp only [St.put, hd, if_true], h⟩
theorem ow_skip0 (h : Ow cfg draw ds all rest (lab + 64) ⟨n, t, c, al, H, m⟩ Q) : ∃ F', St.put ⟨n, t, c, al, H, m⟩ none und = some F' ∧ Ow cfg draw ds all rest (lab + 64) F' Q :=
  ⟨_, rfl, h⟩
/-- A store into a variable of the frame's own. -/
theorem ow_store {ty : TypeId} {p x : Operand} {k : Nat} {v : AV} {g s off : Nat} {row : List AV} (hn : tsz cfg.P ty = some k) (hx : St.ev ⟨n, t, c, al, H, m⟩ x = v) (hs : v.storable = true) (hl : v.cells.length = k)
    (hp : St.ev ⟨n, t, c, al, H, m⟩ p = .fp g s off) (hb : t s = .box g row) (ho : off + k ≤ row.length)
    (h : Ow cfg draw ds all rest (lab + 64) ⟨n, upd t s (.box g (splice row off v.cells)), c, al, H, m⟩ Q) : Ow cfg draw ds all ({ dst := none, op := .store ty p x, type, pos, after, guard := none } :: rest) lab ⟨n, t, c, al, H, m⟩ Q := by
  subst hx
  subst hl
  refine ow_cons (w := true) rfl (fun _ => ⟨_, ?_, h⟩) (fun h => by cases h)
  simp only [opRun, allocH, opRunV, hn]
  rw [if_pos ⟨hs, by trivial⟩, hp]
  simp only [St.write, hb, true_and, ho, if_true, Option.bind_some, St.put]
theorem ow_storeH {ty : TypeId} {p x : Operand} {k : Nat} {v : AV} {l off : Nat} {row : List AV} (hn : tsz cfg.P ty = some k) (hx : St.ev ⟨n, t, c, al, H, m⟩ x = v) (hs : v.storable = true) (hl : v.cells.length = k)
    (hp : St.ev ⟨n, t, c, al, H, m⟩ p = .hp l off) (hb : H[l]? = some row) (ho : off + k ≤ row.length)
    (h : Ow cfg draw ds all rest (lab + 64) ⟨n, t, c, al, H.set l (splice row off (v.cells.map strip1)), m⟩ Q) : Ow cfg draw ds all ({ dst := none, op := .store ty p x, type, pos, after, guard := none } :: rest) lab ⟨n, t, c, al, H, m⟩ Q := by
  subst hx
  subst hl
  refine ow_cons (w := true) rfl (fun _ => ⟨_, ?_, h⟩) (fun h => by cases h)
  simp only [opRun, allocH, opRunV, hn]
  rw [if_pos ⟨hs, by trivial⟩, hp]
  simp only [St.write, hb, true_and, ho, if_true, Option.bind_some, St.put]
theorem ow_builtin {b : Builtin} {args : Array Operand} {ts : Array TypeId} {v : AV} (hb : b ≠ .append)
    (hv : builtinA cfg.P b ts type (args.map isConstOp) (evs ⟨n, t, c, al, H, m⟩ args.toList) = some v) (hd : d < n)
    (h : Ow cfg draw ds all rest (lab + 64) ⟨n, upd t d v, c, al, H, m⟩ Q) : Ow cfg draw ds all ({ dst := some d, op := .call { callee := .builtin b, args, argTypes := ts }, type, pos, after, guard := none } :: rest) lab ⟨n, t, c, al, H, m⟩ Q :=
  ow_cons (w := true) rfl (fun _ => ⟨⟨n, upd t d v, c, al, H, m⟩, by
    cases b <;> first | exact absurd rfl hb | simp only [opRun, allocH, opRunV, hv, Option.bind_some, St.put, hd, if_true], h⟩) (fun h => by cases h)
theorem ow_append {s x : Operand} {ty : TypeId} {ts : Array TypeId} {v : AV} {al' : Nat → Bool} (ht : ts[0]? = some ty)
    (hv : appendA cfg.P ⟨n, t, c, al, H, m⟩ lab ty (St.ev ⟨n, t, c, al, H, m⟩ s) (St.ev ⟨n, t, c, al, H, m⟩ x) ts[1]? = some (v, al')) (hd : d < n)
    (h : Ow cfg draw ds all rest (lab + 64) ⟨n, upd t d v, c, al', H, m⟩ Q) : Ow cfg draw ds all ({ dst := some d, op := .call { callee := .builtin .append, args := #[s, x], argTypes := ts }, type, pos, after, guard := none } :: rest) lab ⟨n, t, c, al, H, m⟩ Q :=
  ow_cons (w := true) rfl (fun _ => ⟨_, by simp only [opRun, allocH, opRunV, ht, hv, Option.bind_some, St.putAl, St.put, hd, if_true], h⟩) (fun h => by cases h)
/-- A call that turns nothing. -/
theorem ow_call {f : Operand} {args : Array Operand} {ts : Array TypeId} {g : Nat} {first captured : List AV} {as : List AV} {r : AV} (hf : St.ev ⟨n, t, c, al, H, m⟩ f = .fn (.func g) first captured)
    (has : first ++ evs ⟨n, t, c, al, H, m⟩ args.toList ++ captured = as) (ha : as.all AV.free = true) (he : cfg.eff g = false) (hH : (H.isEmpty || (as.map strip).all (nohp 9)) = true) (hr : callQ cfg (evK cfg) g (as.map strip) = some r) (h64 : sizeR r ≤ 64) (hd : d < n)
    (h : Ow cfg false ds all rest (lab + 64) ⟨n, upd t d (adoptR lab r), c, markR lab al r, H, m⟩ Q) : Ow cfg false ds all ({ dst := some d, op := .call { callee := .value f, args, argTypes := ts }, type, pos, after, guard := none } :: rest) lab ⟨n, t, c, al, H, m⟩ Q := by
  subst has
  exact ow_cons (w := true) rfl (fun _ => ⟨_, by simp only [opRun, allocH, opRunV, hf, target, ha, he, hr, hH, h64, if_true, Bool.false_eq_true, if_false, Option.bind_some, St.putAl, St.put, hd], h⟩) (fun h => by cases h)
theorem ow_callD {f : Operand} {args : Array Operand} {ts : Array TypeId} {g : Nat} {first captured : List AV} {as : List AV} {r : AV} (hf : St.ev ⟨n, t, c, al, H, m⟩ f = .fn (.func g) first captured)
    (has : first ++ evs ⟨n, t, c, al, H, m⟩ args.toList ++ captured = as) (ha : as.all AV.free = true) (he : cfg.eff g = false) (hH : (H.isEmpty || (as.map strip).all (nohp 9)) = true) (hr : callQ cfg (evK cfg) g (as.map strip) = some r) (hd : d < n)
    (h : Ow cfg true ds all rest (lab + 64) ⟨n, upd t d (strip r), c, al, H, m⟩ Q) : Ow cfg true ds all ({ dst := some d, op := .call { callee := .value f, args, argTypes := ts }, type, pos, after, guard := none } :: rest) lab ⟨n, t, c, al, H, m⟩ Q := by
  subst has
  exact ow_cons (w := true) rfl (fun _ => ⟨_, by simp only [opRun, allocH, opRunV, hf, target, ha, he, hr, hH, if_true, Bool.false_eq_true, if_false, Option.bind_some, St.put, hd], h⟩) (fun h => by cases h)
/-- A call that turns the heap. -/
theorem ow_callE {f : Operand} {args : Array Operand} {ts : Array TypeId} {g : Nat} {first captured : List AV} {as : List AV} {r : AV} {H' : List (List AV)} (hf : St.ev ⟨n, t, c, al, H, m⟩ f = .fn (.func g) first captured)
    (has : first ++ evs ⟨n, t, c, al, H, m⟩ args.toList ++ captured = as) (ha : as.all AV.free = true) (he : cfg.eff g = true) (hr : evK cfg g (as.map strip) H = some (r, H')) (h64 : sizeR r ≤ 64) (hd : d < n)
    (h : Ow cfg false ds all rest (lab + 64) ⟨n, upd t d (adoptR lab r), c, markR lab al r, H', m⟩ Q) : Ow cfg false ds all ({ dst := some d, op := .call { callee := .value f, args, argTypes := ts }, type, pos, after, guard := none } :: rest) lab ⟨n, t, c, al, H, m⟩ Q := by
  subst has
  exact ow_cons (w := true) rfl (fun _ => ⟨_, by simp only [opRun, allocH, opRunV, hf, target, ha, he, hr, h64, if_true, Bool.false_eq_true, if_false, Option.bind_some, St.putAl, St.put, hd], h⟩) (fun h => by cases h)
end

theorem aw_region' {cfg : Cfg} {n : Nat} {t : Nat → AV} {c : Nat} {al : Nat → Bool} {H : List (List AV)} {m : TypeId → Bool} {Q : X → St → Prop} {id : Nat} {ops : Array Oper} {draw : Bool} (h : Ow cfg draw (if draw then ops.toList.filterMap (·.dst) else []) ops ops.toList c ⟨n, t, c, al, H, m⟩ (fun F' => Q .normal ⟨F'.n, F'.t, c + 64 * ops.size, F'.al, F'.H, F'.m⟩)) : Aw cfg (.region id ops draw) ⟨n, t, c, al, H, m⟩ Q := aw_region h

/-- A call, out of its body. -/
theorem evK_of {cfg : Cfg} {f : Nat} {args : List AV} {H : List (List AV)} {fn : Func} {c : Code} {r : AV} {H' : List (List AV)} (hf : cfg.P.funcs[f]? = some fn) (hb : fn.body = some c) (hl : args.length ≤ fn.ntmps) (hok : codeOk c = true) (hname : (fn.name == "runtime.NumGoroutine") = false) (hfz : cfg.frz f = false)
    (h : Aw cfg c { n := fn.ntmps, t := argAt args, c := 0, al := fun _ => false, H := H, m := cfg.heap f } (fun x F => (x = .normal ∨ x = .ret) ∧ ∃ vs, resultsA cfg.P F fn.results.toList = some vs ∧ vs.all AV.free = true ∧ leaveR F.al (packA vs) = r ∧ F.H = H')) :
    evK cfg f args H = some (r, H') := by
  obtain ⟨x, F, e, hx, vs, h1, h2, h3, h4⟩ := h
  rw [evK_eq]
  unfold callStep
  simp only [hf, hb]
  rw [if_pos ⟨hl, hok, hname⟩]
  simp only [e, Option.bind_some]
  rcases hx with rfl | rfl <;> simp only [h1, Option.bind_some, hfz, Bool.false_eq_true, if_false, h2, if_true, h3, h4]
/-- The same, of a function whose heap dies with it. -/
theorem evK_ofZ {cfg : Cfg} {f : Nat} {args : List AV} {fn : Func} {c : Code} {r : AV} (hf : cfg.P.funcs[f]? = some fn) (hb : fn.body = some c) (hl : args.length ≤ fn.ntmps) (hok : codeOk c = true) (hname : (fn.name == "runtime.NumGoroutine") = false) (hfz : cfg.frz f = true)
    (h : Aw cfg c { n := fn.ntmps, t := argAt args, c := 0, al := fun _ => false, H := [], m := cfg.heap f } (fun x F => (x = .normal ∨ x = .ret) ∧ ∃ vs ws, resultsA cfg.P F fn.results.toList = some vs ∧ freezeA F.H vs = some ws ∧ (ws.all AV.free && ws.all (nohp 9)) = true ∧ leaveR (fun _ => false) (packA ws) = r)) :
    evK cfg f args [] = some (r, []) := by
  obtain ⟨x, F, e, hx, vs, ws, h1, h2, h3, h4⟩ := h
  rw [evK_eq]
  unfold callStep
  simp only [hf, hb]
  rw [if_pos ⟨hl, hok, hname⟩]
  simp only [e, Option.bind_some]
  rcases hx with rfl | rfl <;> simp only [h1, Option.bind_some, hfz, if_true, h2, h3, h4, List.isEmpty_nil]
theorem callQ_of {cfg : Cfg} {f : Nat} {args : List AV} {r : AV} (he : cfg.ext f = none) (h : evK cfg f args [] = some (r, [])) : callQ cfg (evK cfg) f args = some r := by
  unfold callQ
  simp only [he, h]
  rfl

/-- How values of integers stand. -/
abbrev I64 (n : Int) : AV := .at (.int .i64 n)
abbrev BO (b : Bool) : AV := .at (.bool b)
abbrev ST (s : List UInt8) : AV := .at (.string ⟨⟨s⟩⟩)
end Go.Proofs.V

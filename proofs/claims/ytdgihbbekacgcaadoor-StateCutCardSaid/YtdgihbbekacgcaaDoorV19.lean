/- Regions that draw their order: the lexical run tells of every order. -/
import Derived.Test.YtdgihbbekacgcaaDoorV18
namespace Go.Proofs.V
open Go Go.RowKit
set_option linter.unusedVariables false
set_option linter.unusedSimpArgs false

/-- What an operation reads is the same. -/
structure Agree (ops : Array Oper) (ds : List Nat) (o : Oper) (F F' : St) : Prop where
  n : F'.n = F.n
  H : F'.H = F.H
  look : ∀ t ∈ o.looksAt ops, F'.t t = F.t t
  rest : ∀ t, ds.contains t = false → F'.t t = F.t t
  m : F'.m = F.m

section
variable {ops : Array Oper} {ds : List Nat} {o : Oper} {F F' : St} {P : Program} {lab : Nat}

theorem Agree.ev (h : Agree ops ds o F F') {x : Operand} (hx : x ∈ o.op.operands) : F'.ev x = F.ev x := by
  cases x with
  | tmp t =>
    have : F'.t t = F.t t := h.look t (List.mem_append_left _ (List.mem_filterMap.2 ⟨.tmp t, by simpa using hx, rfl⟩))
    simp only [St.ev, St.tmp, this]
  | _ => rfl
theorem Agree.lookAt (h : Agree ops ds o F F') (y : AV) : F'.look ds y = F.look ds y := by
  cases y <;> simp only [St.look, h.H]
  rename_i g t off
  by_cases hc : ds.contains t = true
  · simp only [hc, if_true]
  · have : ds.contains t = false := by simpa using hc
    simp only [this, h.rest t this]
theorem Agree.evs (h : Agree ops ds o F F') : ∀ {l : List Operand}, (∀ x ∈ l, x ∈ o.op.operands) → evs F' l = evs F l
  | [], _ => rfl
  | x :: l, hl => by simp only [V.evs, h.ev (hl x (by simp)), h.evs (l := l) fun y hy => hl y (by simp [hy])]
theorem Agree.optMap (h : Agree ops ds o F F') {x : Option Operand} (hl : ∀ y, x = some y → y ∈ o.op.operands) : x.map F'.ev = x.map F.ev := by
  cases x with
  | none => rfl
  | some y => simp only [Option.map_some, h.ev (hl y rfl)]
theorem Agree.mapParts (h : Agree ops ds o F F') {l : List (Nat × Operand)} (hl : ∀ p ∈ l, p.2 ∈ o.op.operands) : l.map (fun p => (p.1, F'.ev p.2)) = l.map (fun p => (p.1, F.ev p.2)) :=
  List.map_congr_left fun p hp => by rw [h.ev (hl p hp)]

theorem Agree.quiet (h : Agree ops ds o F F') : quiet P F' ds lab o.op = quiet P F ds lab o.op := by
  have hev := fun x hx => h.ev (x := x) hx
  have hlk := h.lookAt
  generalize ho : o.op = op at hev ⊢
  cases op <;> simp only [V.quiet]
  case move x => rw [hev x (by simp [Op.operands])]
  case assign x => rw [hev x (by simp [Op.operands])]
  case pick c a b => rw [hev a (by simp [Op.operands]), hev b (by simp [Op.operands]), hev c (by simp [Op.operands])]
  case box e x => rw [hev x (by simp [Op.operands])]
  case build t parts => rw [h.mapParts (l := parts.toList) (fun p hp => by rw [ho]; simp only [Op.operands]; simp; exact ⟨p.1, by simpa using hp⟩)]
  case buildSlice t len parts => rw [h.mapParts (l := parts.toList) (fun p hp => by rw [ho]; simp only [Op.operands]; simp; exact ⟨p.1, by simpa using hp⟩)]
  case makeSlice t x y => rw [hev x (by simp [Op.operands]), hev y (by simp [Op.operands])]
  case load t p => rw [hev p (by simp [Op.operands]), hlk]
  case nilCheck x => rw [hev x (by simp [Op.operands])]
  case binOp op xt x y z => rw [hev x (by simp [Op.operands]), hev y (by simp [Op.operands])]
  case unOp op t x => rw [hev x (by simp [Op.operands])]
  case convert s d x => rw [hev x (by simp [Op.operands])]
  case slice t x lo hi mx =>
    rw [hev x (by simp [Op.operands]), h.optMap (x := lo) (fun y hy => by rw [ho]; subst hy; simp [Op.operands]), h.optMap (x := hi) (fun y hy => by rw [ho]; subst hy; simp [Op.operands]), h.optMap (x := mx) (fun y hy => by rw [ho]; subst hy; simp [Op.operands])]
  case fieldAddr t x i => rw [hev x (by simp [Op.operands])]
  case field t x i => rw [hev x (by simp [Op.operands])]
  case indexAddr t x i => rw [hev x (by simp [Op.operands]), hev i (by simp [Op.operands])]
  case index t x i => rw [hev x (by simp [Op.operands]), hev i (by simp [Op.operands])]
  case extract x i => rw [hev x (by simp [Op.operands])]

theorem Agree.guard (h : Agree ops ds o F F') : guardA ops o F' = guardA ops o F := by
  unfold guardA
  split
  · rfl
  · rename_i j want hg
    split
    · rfl
    · rename_i d hd
      have : F'.t d = F.t d := h.look d (List.mem_append_right _ (by simp [hg, hd]))
      rw [this, h.n]

/-- The value of an operation that turns its own slot alone. -/
def val0 (cfg : Cfg) (K : KF) (ds : List Nat) (lab : Nat) (o : Oper) (F : St) : Option AV :=
  if (allocH cfg.P F o.op).isSome then none else
  match o.op with
  | .store .. => none
  | .makeFunc .. => none
  | .call c => match c.callee with
    | .builtin .append => none
    | .builtin b => builtinA cfg.P b c.argTypes o.type (c.args.map isConstOp) (evs F c.args.toList)
    | .value f => match target (F.ev f) with
      | some (g, first, captured) =>
        if (first ++ evs F c.args.toList ++ captured).all AV.free then
          if cfg.eff g then (K g ((first ++ evs F c.args.toList ++ captured).map strip) F.H).bind fun (r, H) => if sameH H F.H then some (strip r) else none
          else if F.H.isEmpty || ((first ++ evs F c.args.toList ++ captured).map strip).all (nohp 9) then (callQ cfg K g ((first ++ evs F c.args.toList ++ captured).map strip)).map strip else none
        else none
      | none => none
    | .invoke .. => none
  | op => quiet cfg.P F ds lab op
theorem opRun0 {cfg : Cfg} {K : KF} (hk : kindOf o.op = 0) : opRun cfg K true ds lab o F = (val0 cfg K ds lab o F).bind fun v => F.put o.dst v := by
  unfold opRun val0
  cases ha : allocH cfg.P F o.op with
  | some p => simp
  | none =>
  simp only [Option.isSome_none, Bool.false_eq_true, if_false]
  unfold opRunV
  generalize ho : o.op = op at hk ⊢
  cases op with
  | store t p x => simp [kindOf] at hk
  | makeFunc f a b => simp [kindOf] at hk
  | call c =>
    obtain ⟨callee, args, ts⟩ := c
    cases callee with
    | builtin b =>
      cases b <;> first | (simp [kindOf] at hk; done) | rfl
    | value f =>
      simp only []
      generalize target (F.ev f) = T
      cases T with
      | none => rfl
      | some p =>
        obtain ⟨g, first, captured⟩ := p
        simp only []
        by_cases h1 : (first ++ evs F args.toList ++ captured).all AV.free = true
        · rw [if_pos h1, if_pos h1]
          by_cases h2 : cfg.eff g = true
          · rw [if_pos h2, if_pos h2]
            cases hk : K g (List.map strip (first ++ evs F args.toList ++ captured)) F.H with
            | none => rfl
            | some p =>
              obtain ⟨r, H⟩ := p
              simp only [if_true, Option.bind_some]
              by_cases h4 : sameH H F.H = true
              · rw [if_pos h4, if_pos h4]; rfl
              · rw [if_neg h4, if_neg h4]; rfl
          · rw [if_neg h2, if_neg h2]
            by_cases h3 : (F.H.isEmpty || ((first ++ evs F args.toList ++ captured).map strip).all (nohp 9)) = true
            · rw [if_pos h3, if_pos h3]
              cases callQ cfg K g (List.map strip (first ++ evs F args.toList ++ captured)) <;> rfl
            · rw [if_neg h3, if_neg h3]; rfl
        · rw [if_neg h1, if_neg h1]; rfl
    | invoke a b => rfl
  | _ => rfl
theorem Agree.allocH (h : Agree ops ds o F F') : V.allocH P F' o.op = V.allocH P F o.op := by
  have hq := h.quiet (P := P) (lab := 0)
  have hev := fun x hx => h.ev (x := x) hx
  generalize ho : o.op = op at hq hev ⊢
  cases op <;> simp only [V.allocH]
  case alloc e => rw [h.m, h.H]
  case box e x => rw [h.m, h.H, hev x (by simp [Op.operands])]
  case buildSlice t len ps =>
    have hq' : V.quiet P F' [] 0 (.buildSlice t len ps) = V.quiet P F [] 0 (.buildSlice t len ps) := hq
    rw [h.m, h.H, hq']
  case makeSlice t x y =>
    have hq' : V.quiet P F' [] 0 (.makeSlice t x y) = V.quiet P F [] 0 (.makeSlice t x y) := hq
    rw [h.m, h.H, hq']
theorem Agree.val0 {cfg : Cfg} {K : KF} (h : Agree ops ds o F F') : val0 cfg K ds lab o F' = val0 cfg K ds lab o F := by
  have hq := h.quiet (P := cfg.P) (lab := lab)
  have hevs := fun l hl => h.evs (l := l) hl
  have hev := fun x hx => h.ev (x := x) hx
  unfold V.val0
  rw [h.allocH]
  by_cases hA : (V.allocH cfg.P F o.op).isSome = true
  · rw [if_pos hA, if_pos hA]
  rw [if_neg hA, if_neg hA]
  clear hA
  generalize ho : o.op = op at hq hevs hev ⊢
  cases op with
  | store t p x => rfl
  | makeFunc f a b => rfl
  | call c =>
    obtain ⟨callee, args, ts⟩ := c
    have h1 : V.evs F' args.toList = V.evs F args.toList := hevs _ (fun x hx => by
      simp only [Op.operands, Call.operands]
      cases callee <;> simp_all)
    cases callee with
    | builtin b => cases b <;> simp only [h1]
    | value f =>
      have h2 : F'.ev f = F.ev f := hev _ (by simp [Op.operands, Call.operands])
      simp only [h1, h2, h.H]
    | invoke a b => rfl
  | _ => exact hq

/-- An append's value and marks. -/
def val1' (cfg : Cfg) (lab : Nat) (o : Oper) (F : St) : Option (AV × (Nat → Bool)) :=
  match o.op with
  | .call c => match c.callee with
    | .builtin .append => match c.args.toList, c.argTypes[0]? with
      | [s, x], some t => appendA cfg.P F lab t (F.ev s) (F.ev x) c.argTypes[1]?
      | _, _ => none
    | _ => none
  | _ => none
theorem opRun1 {cfg : Cfg} {K : KF} {draw : Bool} (hk : kindOf o.op = 1) : opRun cfg K draw ds lab o F = (val1' cfg lab o F).bind fun r => F.putAl o.dst r.1 r.2 := by
  have ha : allocH cfg.P F o.op = none := by
    generalize o.op = op at hk ⊢
    cases op <;> first | rfl | (simp [kindOf] at hk)
  unfold opRun
  rw [ha]
  unfold opRunV val1'
  generalize ho : o.op = op at hk ⊢
  cases op with
  | call c =>
    obtain ⟨callee, args, ts⟩ := c
    cases callee with
    | builtin b =>
      cases b <;> first | (simp [kindOf] at hk; done) | skip
      simp only []
      generalize args.toList = l
      generalize ts[0]? = q
      rcases l with _ | ⟨s, _ | ⟨x, _ | ⟨y, l⟩⟩⟩ <;> cases q <;> rfl
    | value f => simp [kindOf] at hk
    | invoke a b => simp [kindOf] at hk
  | _ => simp [kindOf] at hk
theorem appendA_al {P : Program} {F F' : St} (h : F'.al = F.al) (hH : F'.H = F.H) {lab : Nat} {t : TypeId} {s x : AV} {xt : Option TypeId} : appendA P F' lab t s x xt = appendA P F lab t s x xt := by
  have e : srcRows P F' xt x = srcRows P F xt x := by unfold srcRows; rw [hH]
  unfold appendA
  rw [h, e]
theorem Agree.val1 {cfg : Cfg} (h : Agree ops ds o F F') (hal : F'.al = F.al) : val1' cfg lab o F' = val1' cfg lab o F := by
  have hev := fun x hx => h.ev (x := x) hx
  unfold val1'
  generalize ho : o.op = op at hev ⊢
  cases op with
  | call c =>
    obtain ⟨callee, args, ts⟩ := c
    cases callee with
    | builtin b =>
      cases b <;> first | rfl | skip
      simp only []
      split
      · rename_i s x t hargs ht
        rw [hev s (by simp only [Op.operands, Call.operands]; rw [← Array.toArray_toList (xs := args), hargs]; simp), hev x (by simp only [Op.operands, Call.operands]; rw [← Array.toArray_toList (xs := args), hargs]; simp), appendA_al hal h.H]
      · rfl
    | value f => rfl
    | invoke a b => rfl
  | _ => rfl
end
end Go.Proofs.V

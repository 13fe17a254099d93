/- Operations, and regions: what is left of them. -/
import Derived.Test.YtdgihbbekacgcaaGreatDoorK13
namespace Go.Proofs.W
open Go Go.Proofs.V
set_option linter.unusedVariables false
set_option linter.unusedSimpArgs false
def wput {R : Type} (ws : WS) (d : Option Nat) (w : WV) (k : WS → Option R) : Option R :=
  match ws.put d w with
  | some ws' => k ws'
  | none => none
def isBx : WV → Bool
  | .box .. => true
  | _ => false
def wBoxOk (draw : Bool) (ds : List Nat) (ws : WS) (p : Operand) : Bool := !draw || match p with
  | .tmp q => !ds.contains (q + LB) || isBx (ws.t q)
  | _ => true
def wop {R : Type} (W : WC) (draw : Bool) (ds : List Nat) (o : Oper) (ws : WS) (k : WS → Option R) : Option R :=
  match o.op with
  | .alloc e => if ws.m.contains e then none else match tzero W.P e with
    | some cs => wput { ws with ng := ws.ng + 1 } o.dst (.box ws.ng (cs.map ofA1)) k
    | none => none
  | .box e x => if ws.m.contains e then none else if wstor (ws.ev x) then wput { ws with ng := ws.ng + 1 } o.dst (.box ws.ng ((wcells (ws.ev x)).map wstrip1)) k else none
  | .store t q x => match tsz W.P t with
    | some n => if wstor (ws.ev x) && (wcells (ws.ev x)).length == n && wBoxOk draw ds ws q then match wwrite ws (ws.ev q) (wcells (ws.ev x)) with
        | some ws1 => wput ws1 o.dst und k
        | none => none
      else none
    | none => none
  | .makeFunc f first captured => match f with
    | .func g => match wfreeze ws first.toList with
      | some (fs, w1) => match wfreeze w1 captured.toList with
        | some (cs, w2) => wput w2 o.dst (.fn g fs cs) k
        | none => none
      | none => none
    | _ => none
  | .call c => match c.callee with
    | .builtin .append => match c.args.toList with
      | [s, x] => wappend W ws o.dst (ws.ev s) (ws.ev x) c.argTypes k
      | _ => none
    | .builtin b => wbuiltin W b c.argTypes o.type (c.args.map isConstOp) (wevs ws c.args.toList) fun w => wput ws o.dst w k
    | .value f => wcall W draw ds ws o.dst (ws.ev f) (wevs ws c.args.toList) k
    | .invoke .. => none
  | .buildSlice t len parts => if ws.m.contains t then none else wq W.p W.P ws ds (.buildSlice t len parts) fun w => wput ws o.dst w k
  | .makeSlice t x y => if ws.m.contains t then none else wq W.p W.P ws ds (.makeSlice t x y) fun w => wput ws o.dst w k
  | op => wq W.p W.P ws ds op fun w => wput ws o.dst w k
/-- Is an operation wanted? -/
def wguard {R : Type} (p : Prims) (ops : Array Oper) (o : Oper) (ws : WS) (k : Bool → WS → Option R) : Option R :=
  match o.guard with
  | none => k true ws
  | some (j, want) => match (ops[j]?).bind (·.dst) with
    | none => k false ws
    | some d => if d < ws.n then match ws.t d with
        | .bool true b => k (b == want) ws
        | .bool false b => p.ite b (k (true == want) { ws with t := upd ws.t d (.bool true true) }) (k (false == want) { ws with t := upd ws.t d (.bool true false) })
        | .tup [] => k false ws
        | _ => none
      else none
def wops {R : Type} (W : WC) (draw : Bool) (ds : List Nat) (all : Array Oper) : List Oper → WS → (WS → Option R) → Option R
  | [], ws, k => k ws
  | o :: rest, ws, k => wguard W.p all o ws fun w ws1 => if w then wop W draw ds o ws1 fun ws2 => wops W draw ds all rest ws2 k else wput ws1 o.dst und fun ws2 => wops W draw ds all rest ws2 k
/-- What is known of the setting. -/
structure WOk (W : WC) (cfg : Cfg) : Prop where
  p : W.p = real
  P : cfg.P = W.P
  eff : cfg.eff = W.eff
  ds : W.ds = dsOf cfg
  tab : ∀ e ∈ W.tab, FSound cfg e
section
variable {ws : WS} {F : St} {B : Nat} {W : WC} {cfg : Cfg} {R : Type} {r : R}
theorem wput_sound {θ : Nat → Option (Option Nat)} {γ : Nat → Option Nat} (hr : Rl θ γ ws F B) {d : Option Nat} {w : WV} {v : AV} (hw : WR (ownR ws.al F.al θ) γ w v) {k : WS → Option R} (h : wput ws d w k = some r) {B' : Nat} (hB : B ≤ B') : ∃ ws' F', F.put d v = some F' ∧ k ws' = some r ∧ StR ws' F' B' ∧ F'.c = F.c := by
  unfold wput at h
  split at h
  · rename_i ws' hp
    obtain ⟨F', h1, h2, h3, _⟩ := put_R hr hw hp
    exact ⟨ws', F', h1, h, ⟨_, _, h2.grow hB⟩, h3⟩
  · cases h
theorem wop_sound (hW : WOk W cfg) {draw : Bool} {ds : List Nat} {lab : Nat} {o : Oper} {k : WS → Option R} (hr : StR ws F lab) (h : wop W draw ds o ws k = some r) : ∃ ws' F', opRun cfg (evK cfg) draw ds lab o F = some F' ∧ k ws' = some r ∧ StR ws' F' (lab + 64) ∧ F'.c = F.c := by
  obtain ⟨θ, γ, hr⟩ := hr
  have hok := ownR_ok ws.al F.al θ
  have hfull := ownR_full ws.al F.al θ
  have hP := hW.P
  obtain ⟨dst, op, type, pos, after, guard⟩ := o
  -- a quiet operation
  have quietly : ∀ {op : Op}, allocH cfg.P F op = none → (∀ F', opRun cfg (evK cfg) draw ds lab ⟨dst, op, type, pos, after, guard⟩ F = some F' ↔ ((quiet cfg.P F ds lab op).bind fun v => F.put dst v) = some F') → wq W.p W.P ws ds op (fun w => wput ws dst w k) = some r → ∃ ws' F', opRun cfg (evK cfg) draw ds lab ⟨dst, op, type, pos, after, guard⟩ F = some F' ∧ k ws' = some r ∧ StR ws' F' (lab + 64) ∧ F'.c = F.c := by
    intro op hA hrun h
    rw [hW.p] at h
    obtain ⟨w, v, h1, h2, h3, _⟩ := wq_sound hr (lab := lab) h
    obtain ⟨ws', F', q1, q2, q3, q4⟩ := wput_sound hr h3 h1 (by omega : lab ≤ lab + 64)
    exact ⟨ws', F', (hrun F').2 (by rw [hP, h2]; exact q1), q2, q3, q4⟩
  cases op <;> simp only [wop] at h
  case alloc e =>
    split at h
    · cases h
    · rename_i hm
      have hm' : F.m e = false := by rw [hr.m]; simpa using hm
      split at h
      · rename_i cs hz
        obtain ⟨ws', F', q1, q2, q3, q4⟩ := wput_sound (hr.gen lab) (wr_box (g' := lab) (upd_same _ _ _) (ofA1s_R cs)) h (by omega : lab ≤ lab + 64)
        exact ⟨ws', F', by simp only [opRun, allocH, hm', Bool.false_eq_true, if_false, opRunV, quiet, hP, hz, Option.map_some, Option.bind_some]; exact q1, q2, q3, q4⟩
      · cases h
  case box e x =>
    split at h
    · cases h
    · rename_i hm
      have hm' : F.m e = false := by rw [hr.m]; simpa using hm
      split at h
      · rename_i hs
        obtain ⟨hc, hst⟩ := wcells_R (ev_R hr x) hs
        have hc' := WRL.map (f := wstrip1) (g := strip1) (fun w a h => strip1_same hok hfull h) hc
        have hg := hr.gen lab
        have hc2 : WRL (ownR ws.al F.al θ) (upd γ ws.ng (some lab)) ((wcells (ws.ev x)).map wstrip1) ((F.ev x).cells.map strip1) := by
          have := WRL.map (f := id) (g := id) (O' := ownR ws.al F.al θ) (γ' := upd γ ws.ng (some lab)) (fun w a h => h.imp (fun _ _ h => h) (fun g y hgy => by
            rw [upd_apply]; split
            · rename_i e; subst e; rw [hr.g _ (Nat.le_refl _)] at hgy; cases hgy
            · exact hgy)) hc'
          simpa using this
        obtain ⟨ws', F', q1, q2, q3, q4⟩ := wput_sound hg (wr_box (g' := lab) (upd_same _ _ _) hc2) h (by omega : lab ≤ lab + 64)
        exact ⟨ws', F', by simp only [opRun, allocH, hm', Bool.false_and, Bool.false_eq_true, if_false, opRunV, quiet, hst, if_true, Option.bind_some]; exact q1, q2, q3, q4⟩
      · cases h
  case store t q x =>
    split at h
    · rename_i n hn
      split at h
      · rename_i hc
        simp only [Bool.and_eq_true, beq_iff_eq] at hc
        split at h
        · rename_i ws1 hw
          obtain ⟨hcs, hst⟩ := wcells_R (ev_R hr x) hc.1.1
          obtain ⟨F1, p1, p2, p3, p4⟩ := wwrite_R hr (ev_R hr q) hcs hw
          obtain ⟨ws', F', q1, q2, q3, q4⟩ := wput_sound p2 (wr_tup (cs := []) (as := []) trivial : WR _ _ und V.und) h (by omega : lab ≤ lab + 64)
          refine ⟨ws', F', ?_, q2, q3, q4.trans p3⟩
          simp only [opRun, allocH, opRunV, hP, hn]
          have hbx : stBoxOk draw ds F q = true := by
            have hb := hc.2
            unfold wBoxOk at hb
            unfold stBoxOk
            cases draw with
            | false => rfl
            | true =>
              simp only [Bool.not_true, Bool.false_or] at hb ⊢
              cases q with
              | tmp i =>
                simp only [Bool.or_eq_true] at hb ⊢
                rcases hb with hb | hb
                · exact .inl hb
                · right
                  have w1 := hr.t i
                  cases hwt : ws.t i <;> rw [hwt] at hb <;> first | (cases hb; done) | skip
                  rw [hwt] at w1
                  cases hF : F.t i <;> rw [hF] at w1 <;> first | rfl | cases w1
              | _ => rfl
          rw [if_pos ⟨⟨hst, by rw [← hcs.len]; exact hc.1.2⟩, hbx⟩, p1]
          exact q1
        · cases h
      · cases h
    · cases h
  case makeFunc f first captured =>
    split at h
    · rename_i g
      split at h
      · rename_i fs w1 hf1
        split at h
        · rename_i cs w2 hf2
          obtain ⟨ys, F1, a1, a2, a3, a4, a5, a6⟩ := wfreeze_R _ hr hf1
          obtain ⟨zs, F2, b1, b2, b3, b4, b5, b6⟩ := wfreeze_R _ a3 hf2
          rw [← b5, ← b6] at a2
          obtain ⟨ws', F', q1, q2, q3, q4⟩ := wput_sound b3 (wr_fn a2 b2) h (by omega : lab ≤ lab + 64)
          refine ⟨ws', F', ?_, q2, q3, q4.trans (b4.trans a4)⟩
          simp only [opRun, allocH, opRunV, a1, b1]
          exact q1
        · cases h
      · cases h
    · cases h
  case call c =>
    obtain ⟨callee, args, ts⟩ := c
    have hargs := evs_R hr args.toList
    cases callee with
    | invoke rv m => simp at h
    | builtin b =>
      by_cases hb : b = .append
      · subst hb
        simp only at h
        split at h
        · rename_i s x hsx
          obtain ⟨t, v, al', F', ws', p1, p2, p3, p4, p5, p6⟩ := wappend_sound (cfg := cfg) (draw := draw) (ds := ds) hW.p hP hr (Nat.le_refl _) (ev_R hr s) (ev_R hr x) h
          exact ⟨ws', F', by simp only [opRun, allocH, opRunV, hsx, p1, p2, Option.bind_some]; exact p3, p4, p5, p6⟩
        · cases h
      · have h' : wbuiltin W b ts type (args.map isConstOp) (wevs ws args.toList) (fun w => wput ws dst w k) = some r := by
          cases b <;> first | exact absurd rfl hb | exact h
        obtain ⟨w, v, h1, h2, h3⟩ := wbuiltin_sound hW.p hargs h'
        obtain ⟨ws', F', q1, q2, q3, q4⟩ := wput_sound hr h3 h1 (by omega : lab ≤ lab + 64)
        refine ⟨ws', F', ?_, q2, q3, q4⟩
        have : opRun cfg (evK cfg) draw ds lab ⟨dst, .call ⟨.builtin b, args, ts⟩, type, pos, after, guard⟩ F = (builtinA cfg.P b ts type (args.map isConstOp) (evs F args.toList)).bind fun v => F.put dst v := by
          cases b <;> first | exact absurd rfl hb | rfl
        rw [this, hP, h2]
        exact q1
    | value f =>
      simp only at h
      unfold wcall at h
      have hf := ev_R hr f
      split at h
      · rename_i g first captured hwf
        rw [hwf] at hf
        split at h
        · rename_i hc
          simp only [Bool.and_eq_true, Bool.not_eq_true'] at hc
          obtain ⟨⟨hfree, heff⟩, hblind⟩ := hc
          rw [hW.p] at h
          obtain ⟨e, x, y, e1, e2, e3, e4, e5⟩ := wtab_sound _ h
          cases hF : F.ev f <;> rw [hF] at hf <;> cases hf
          rename_i f1 c1 hl1 hl2 q1 q2
          have hall : WRL (ownR ws.al F.al θ) γ (first ++ wevs ws args.toList ++ captured) (f1 ++ evs F args.toList ++ c1) := ((wrl_of hl1 hl2).append hargs).append (wrl_of q1 q2)
          have hfr : (f1 ++ evs F args.toList ++ c1).all AV.free = true := by
            refine List.all_eq_true.2 fun a ha => ?_
            obtain ⟨w, hw, hwr⟩ := All2.mem hall a ha
            exact wfree_R hwr (List.all_eq_true.1 hfree w hw)
          obtain ⟨rv, r1, r2⟩ := hW.tab e e1 x y e4 _ (argR_strip (e3 _ _ _ hall))
          rw [e2] at r1
          obtain ⟨ws', k1, hs, F', p1, p2, p3⟩ := wcallK_sound hr (Nat.le_refl _) r2 e5
          have he : cfg.eff g = false := by rw [hW.eff]; exact heff
          refine ⟨ws', F', ?_, k1, p2, p3⟩
          simp only [opRun, allocH, opRunV, hF, target, hfr, he, hr.H, List.isEmpty_nil, Bool.and_true, hblind, Bool.not_false, Bool.true_or, r1, if_true, Bool.false_eq_true, if_false, Option.bind_some, hs]
          exact p1
        · cases h
      · cases h
  case buildSlice t len parts =>
    split at h
    · cases h
    · rename_i hm
      have hm' : F.m t = false := by rw [hr.m]; simpa using hm
      exact quietly (by simp only [allocH, hm', Bool.false_eq_true, if_false]) (fun F' => by simp only [opRun, allocH, hm', Bool.false_eq_true, if_false, opRunV]) h
  case makeSlice t x y =>
    split at h
    · cases h
    · rename_i hm
      have hm' : F.m t = false := by rw [hr.m]; simpa using hm
      exact quietly (by simp only [allocH, hm', Bool.false_eq_true, if_false]) (fun F' => by simp only [opRun, allocH, hm', Bool.false_eq_true, if_false, opRunV]) h
  all_goals exact quietly rfl (fun F' => by simp only [opRun, allocH, opRunV]) h
theorem wops_sound (hW : WOk W cfg) {draw : Bool} {ds : List Nat} {all : Array Oper} {Q : St → Prop} {k : WS → Option R} : ∀ (l : List Oper) {ws : WS} {F : St} {lab : Nat}, StR ws F lab → wops W draw ds all l ws k = some r →
    (∀ ws' F', StR ws' F' (lab + 64 * l.length) → F'.c = F.c → k ws' = some r → Q F') → Ow cfg draw ds all l lab F Q
  | [], ws, F, lab, hr, h, hQ => ow_nil (hQ ws F hr rfl h)
  | o :: rest, ws, F, lab, hr, h, hQ => by
    have run : ∀ {ws1 : WS}, StR ws1 F lab → guardA all o F = some true → wop W draw ds o ws1 (fun ws2 => wops W draw ds all rest ws2 k) = some r → Ow cfg draw ds all (o :: rest) lab F Q := by
      intro ws1 h1 hg hop
      obtain ⟨ws', F', q1, q2, q3, q4⟩ := wop_sound hW h1 hop
      refine ow_cons (w := true) hg (fun _ => ⟨F', q1, wops_sound hW rest q3 q2 fun ws'' F'' a b c => hQ ws'' F'' ?_ (b.trans q4) c⟩) (fun e => by cases e)
      have : lab + 64 * (o :: rest).length = lab + 64 + 64 * rest.length := by simp only [List.length_cons]; omega
      rw [this]; exact a
    have skip : ∀ {ws1 : WS}, StR ws1 F lab → guardA all o F = some false → wput ws1 o.dst und (fun ws2 => wops W draw ds all rest ws2 k) = some r → Ow cfg draw ds all (o :: rest) lab F Q := by
      intro ws1 h1 hg hop
      obtain ⟨θ, γ, h1⟩ := h1
      obtain ⟨ws', F', q1, q2, q3, q4⟩ := wput_sound h1 (wr_tup (cs := []) (as := []) trivial : WR _ _ und V.und) hop (by omega : lab ≤ lab + 64)
      refine ow_cons (w := false) hg (fun e => by cases e) (fun _ => ⟨F', q1, wops_sound hW rest q3 q2 fun ws'' F'' a b c => hQ ws'' F'' ?_ (b.trans q4) c⟩)
      have : lab + 64 * (o :: rest).length = lab + 64 + 64 * rest.length := by simp only [List.length_cons]; omega
      rw [this]; exact a
    have go : ∀ {ws1 : WS} (w : Bool), StR ws1 F lab → guardA all o F = some w → (if w then wop W draw ds o ws1 (fun ws2 => wops W draw ds all rest ws2 k) else wput ws1 o.dst und (fun ws2 => wops W draw ds all rest ws2 k)) = some r → Ow cfg draw ds all (o :: rest) lab F Q := by
      intro ws1 w h1 hg hh
      cases w with
      | true => exact run h1 hg hh
      | false => exact skip h1 hg hh
    simp only [wops] at h
    unfold wguard at h
    split at h
    · rename_i hg
      exact go true hr (by simp only [guardA, hg]) h
    · rename_i j want hg
      split at h
      · rename_i hj
        exact go false hr (by simp only [guardA, hg, hj]) h
      · rename_i d hj
        split at h
        · rename_i hd
          have hr' := hr
          obtain ⟨θ, γ, hrl⟩ := hr
          have hd' : d < F.n := by rw [hrl.n]; exact hd
          have ht := hrl.t d
          split at h
          · rename_i b hb
            rw [hb] at ht
            cases hF : F.t d <;> rw [hF] at ht <;> cases ht
            exact go (b == want) hr' (by simp only [guardA, hg, hj, hd', if_true, hF]) h
          · rename_i b hb
            rw [hb] at ht
            cases hF : F.t d <;> rw [hF] at ht <;> cases ht
            have ref : ∀ b', b' = b → StR { ws with t := upd ws.t d (.bool true b') } F lab := by
              rintro b' rfl
              refine ⟨θ, γ, hrl.n, hrl.H, hrl.m, fun i => ?_, hrl.b, hrl.i, hrl.f, hrl.g⟩
              simp only [upd_apply]
              split
              · rename_i e; subst e; rw [hF]; exact .bool _ _
              · exact hrl.t i
            rw [hW.p] at h
            cases b with
            | true =>
              simp only [real, if_true] at h
              exact go (true == want) (ref true rfl) (by simp only [guardA, hg, hj, hd', if_true, hF]) h
            | false =>
              simp only [real, Bool.false_eq_true, if_false] at h
              exact go (false == want) (ref false rfl) (by simp only [guardA, hg, hj, hd', if_true, hF]) h
          · rename_i hb
            rw [hb] at ht
            cases hF : F.t d <;> rw [hF] at ht <;> cases ht
            rename_i hl hh
            have : ‹List AV› = [] := by
              cases ‹List AV› with
              | nil => rfl
              | cons => simp at hl
            subst this
            exact go false hr' (by simp only [guardA, hg, hj, hd', if_true, hF]) h
          · cases h
        · cases h
end
end Go.Proofs.W
namespace Go.Proofs.W
open Go Go.Proofs.V
set_option linter.unusedVariables false
set_option linter.unusedSimpArgs false
inductive HE where
  | val (slot : Nat) (sv : SV)
  | box (slot : Nat) (cells : List SV)
  | fp (slot tgt off : Nat)
def hdyn : List HE → List CT
  | [] => []
  | .val _ sv :: h => dyn sv ++ hdyn h
  | .box _ l :: h => dynL l ++ hdyn h
  | .fp .. :: h => hdyn h
def hflat (ws : WS) : List HE → Option (List WV)
  | [] => some []
  | .val s sv :: h => match flat sv (ws.t s), hflat ws h with
    | some a, some b => some (a ++ b)
    | _, _ => none
  | .box s l :: h => match ws.t s with
    | .box _ cs => match flatL l cs, hflat ws h with
      | some a, some b => some (a ++ b)
      | _, _ => none
    | _ => none
  | .fp s t off :: h => match ws.t s, ws.t t with
    | .fp g t' off', .box g' _ => if t = t' ∧ off = off' ∧ g = g' then hflat ws h else none
    | _, _ => none
def ownOf (ws : WS) : WV → Option (Option Nat)
  | .sl _ _ (.mine c) => if ws.al c then some (some c) else none
  | .sl _ l .full => match l with
    | [] => some none
    | _ :: _ => none
  | .nil => some none
  | _ => none
def hclB (ws : WS) : Nat → List SV → List WV → Option (List (Nat × Option Nat))
  | κ, .fr _ :: svs, w :: us => match ownOf ws w, hclB ws (κ + 1) svs us with
    | some o, some l => some ((κ, o) :: l)
    | _, _ => none
  | κ, _ :: svs, _ :: us => hclB ws (κ + 1) svs us
  | _, _, _ => some []
def hcl (ws : WS) : List HE → Option (List (Nat × Option Nat))
  | [] => some []
  | .val s (.fr _) :: h => match ownOf ws (ws.t s), hcl ws h with
    | some o, some l => some ((s, o) :: l)
    | _, _ => none
  | .val _ _ :: h => hcl ws h
  | .box s l :: h => match ws.t s with
    | .box _ cs => match hclB ws (100000 + 64 * s) l cs, hcl ws h with
      | some a, some b => some (a ++ b)
      | _, _ => none
    | _ => none
  | .fp .. :: h => hcl ws h
def hcanB : Nat → List SV → List Nat
  | κ, .fr _ :: svs => κ :: hcanB (κ + 1) svs
  | κ, _ :: svs => hcanB (κ + 1) svs
  | _, [] => []
def hcan : List HE → List Nat
  | [] => []
  | .val s (.fr _) :: h => s :: hcan h
  | .val _ _ :: h => hcan h
  | .box s l :: h => hcanB (100000 + 64 * s) l ++ hcan h
  | .fp .. :: h => hcan h
def hbox : List HE → List Nat
  | [] => []
  | .box s _ :: h => s :: hbox h
  | _ :: h => hbox h
def hfp : List HE → List Nat
  | [] => []
  | .fp _ t _ :: h => t :: hfp h
  | _ :: h => hfp h
def mark1 (s : Nat) : SV → WV → WV
  | .fr _, .sl r l _ => .sl r l (.mine s)
  | _, w => w
def hfill : List HE → List WV → Option (List (Nat × WV) × List WV)
  | [], ls => some ([], ls)
  | .val s sv :: h, ls => match fill sv ls with
    | some (w, ls') => (hfill h ls').map fun r => ((s, mark1 s sv w) :: r.1, r.2)
    | none => none
  | .box s l :: h, ls => match fillL l ls with
    | some (us, ls') => if us.length = l.length then (hfill h ls').map fun r => ((s, .box s (markW (100000 + 64 * s) l us)) :: r.1, r.2) else none
    | none => none
  | .fp s t off :: h, ls => (hfill h ls).map fun r => ((s, .fp t t off) :: r.1, r.2)
def lookT : List (Nat × WV) → Nat → WV
  | [], _ => .top
  | (s, w) :: l, i => if i = s then w else lookT l i
def nodupN : List Nat → Bool
  | [] => true
  | x :: l => !(l.contains x) && nodupN l
def ncOf (n : Nat) : Nat := 200000 + 64 * n
def hunpack (n : Nat) (m : List TypeId) (h : List HE) (x : Tl (hdyn h)) : Option WS :=
  match hfill h (unpackL (hdyn h) x) with
  | some (l, []) => some { n := n, t := lookT l, al := fun c => (hcan h).contains c, nc := ncOf n, ng := n, m := m }
  | _ => none
def hpack (n : Nat) (m : List TypeId) (ws : WS) (h : List HE) : Option (Tl (hdyn h)) :=
  match hflat ws h, hcl ws h with
  | some ls, some cl => if ws.n = n ∧ ws.m = m ∧ nodupN (cl.map (·.1)) ∧ nodupN (cl.filterMap (·.2)) ∧ (cl.map (·.1)) = hcan h ∧ (hbox h).all (fun s => decide (s < n)) ∧ (hcan h).all (fun c => decide (c < ncOf n)) ∧ (hfp h).all (fun t => (hbox h).contains t) then packL (hdyn h) ls else none
  | _, _ => none

section
variable {θ : Nat → Option (Option Nat)} {γ : Nat → Option Nat} {ws : WS} {F : St} {B : Nat}
theorem ownOf_R (hr : Rl θ γ ws F B) {w : WV} {a : AV} {oc : Option Nat} (h : ownOf ws w = some oc) (hw : WR (ownR ws.al F.al θ) γ w a) : ∃ rows nl own, a = .slice rows nl own ∧ ((own = .full ∧ rows = []) ∨ ∃ c i, oc = some c ∧ ws.al c = true ∧ θ c = some (some i) ∧ own = .id i ∧ F.al i = true) := by
  unfold ownOf at h
  split at h
  · split at h
    · rename_i c hc
      cases h
      cases hw
      rename_i ho hm0
      obtain ⟨i, hi, ho⟩ := ho
      rcases ho hc with h1 | ⟨i', rfl, h1, h2⟩
      · exact ⟨_, _, _, rfl, .inl ⟨h1, hm0 _ rfl h1⟩⟩
      · exact ⟨_, _, _, rfl, .inr ⟨c, i', rfl, hc, hi, h1, h2⟩⟩
    · cases h
  · cases hw
    rename_i hr0 ho hm0
    split at h
    · exact ⟨_, _, _, rfl, .inl ⟨ho, List.eq_nil_of_length_eq_zero hr0.1.len.symm⟩⟩
    · cases h
  · cases hw; exact ⟨_, _, _, rfl, .inl ⟨rfl, rfl⟩⟩
  · cases h
theorem nodupN_find {A : Type} : ∀ (l : List (Nat × A)), nodupN (l.map (·.1)) = true → ∀ p ∈ l, l.find? (fun q => q.1 == p.1) = some p
  | [], _, p, h => by simp at h
  | q :: l, hn, p, h => by
    simp only [List.map_cons, nodupN, Bool.and_eq_true, Bool.not_eq_true'] at hn
    rcases List.mem_cons.1 h with rfl | h
    · simp
    · have hne : (q.1 == p.1) = false := by
        rw [beq_eq_false_iff_ne]
        intro e
        have : (l.map (·.1)).contains q.1 = true := by
          rw [List.contains_iff_mem, e]
          exact List.mem_map.2 ⟨p, h, rfl⟩
        rw [this] at hn; cases hn.1
      rw [List.find?_cons_of_neg (by simp [hne])]
      exact nodupN_find l hn.2 p h
theorem nodupN_some : ∀ (l : List (Nat × Option Nat)), nodupN (l.filterMap (·.2)) = true → nodupN (l.map (·.1)) = true → ∀ p ∈ l, ∀ q ∈ l, ∀ c, p.2 = some c → q.2 = some c → p.1 = q.1
  | [], _, _, p, hp, _, _, _, _, _ => by simp at hp
  | x :: l, hn, hm, p, hp, q, hq, c, h1, h2 => by
    simp only [List.map_cons, nodupN, Bool.and_eq_true] at hm
    have tl : nodupN (l.filterMap (·.2)) = true := by
      obtain ⟨a, o⟩ := x
      cases o with
      | none => exact hn
      | some c => simp only [List.filterMap_cons, nodupN, Bool.and_eq_true] at hn; exact hn.2
    have no : ∀ y ∈ l, ∀ c, x.2 = some c → y.2 = some c → False := by
      intro y hy c hx hyc
      obtain ⟨a, o⟩ := x
      simp only at hx
      subst hx
      simp only [List.filterMap_cons, nodupN, Bool.and_eq_true, Bool.not_eq_true'] at hn
      have : (l.filterMap (·.2)).contains c = true := by
        rw [List.contains_iff_mem, List.mem_filterMap]
        exact ⟨y, hy, hyc⟩
      rw [this] at hn; cases hn.1
    rcases List.mem_cons.1 hp with hp1 | hp1 <;> rcases List.mem_cons.1 hq with hq1 | hq1
    · rw [hp1, hq1]
    · subst hp1; exact (no q hq1 c h1 h2).elim
    · subst hq1; exact (no p hp1 c h2 h1).elim
    · exact nodupN_some l tl hm.2 p hp1 q hq1 c h1 h2

/-- Marks on cells. -/
theorem markW_R {O' : WO → Own → Prop} {γ' : Nat → Option Nat} (hno : ∀ o, O' .no o) (hr : Rl θ γ ws F B) {cl : List (Nat × Option Nat)}
    (hO : ∀ κ oc, (κ, oc) ∈ cl → ∀ own, (own = .full ∨ ∃ c i, oc = some c ∧ ws.al c = true ∧ θ c = some (some i) ∧ own = .id i ∧ F.al i = true) → O' (.mine κ) own) :
    ∀ (svs : List SV) (cs us : List WV) (as : List AV) (κ : Nat) (l : List (Nat × Option Nat)), hclB ws κ svs cs = some l → (∀ p ∈ l, p ∈ cl) → WRL (ownR ws.al F.al θ) γ cs as → WRL Ono g0 us as → us.length = svs.length → WRL O' γ' (markW κ svs us) as
  | [], cs, us, as, κ, l, _, _, _, hu, hl => by
    have : us = [] := by cases us <;> simp_all
    subst this
    cases as with
    | nil => exact trivial
    | cons => exact hu.elim
  | sv :: svs, [], us, as, κ, l, h, hm, hc, hu, hl => by
    cases as with
    | cons => exact hc.elim
    | nil => cases us with
      | nil => simp at hl
      | cons => exact hu.elim
  | sv :: svs, c :: cs, [], as, κ, l, h, hm, hc, hu, hl => by simp at hl
  | sv :: svs, c :: cs, u :: us, [], κ, l, h, hm, hc, hu, hl => hc.elim
  | sv :: svs, c :: cs, u :: us, a :: as, κ, l, h, hm, hc, hu, hl => by
    have plain : WR O' γ' u a := ono_imp hno hu.1
    have hl' : us.length = svs.length := by simpa using hl
    cases sv with
    | fr r =>
      simp only [hclB] at h
      split at h
      · rename_i o l' h1 h2
        cases h
        have tl := markW_R (γ' := γ') hno hr hO svs cs us as (κ + 1) l' h2 (fun p hp => hm p (List.mem_cons_of_mem _ hp)) hc.2 hu.2 hl'
        obtain ⟨rows, nl, own, ha, hown⟩ := ownOf_R hr h1 hc.1
        cases u with
        | sl r' l o' =>
          refine ⟨?_, tl⟩
          have h3 := hu.1
          rw [ha] at h3 ⊢
          cases h3
          rename_i hrows _ _
          exact .sl _ _ _ _ _ _ hrows (hO κ o (hm _ (List.mem_cons_self ..)) own (hown.imp And.left id)) (fun _ _ e => by rcases hown with h | ⟨_, _, _, _, _, h, _⟩; exact h.2; rw [h] at e; cases e)
        | _ => exact ⟨plain, tl⟩
      · cases h
    | _ =>
      simp only [hclB] at h
      exact ⟨plain, markW_R hno hr hO svs cs us as (κ + 1) l h hm hc.2 hu.2 hl'⟩
theorem fillL_len : ∀ (l : List SV) (ws : List WV) (us rest : List WV), fillL l ws = some (us, rest) → us.length = l.length
  | [], ws, us, rest, h => by simp only [fillL, Option.some.injEq, Prod.mk.injEq] at h; simp [← h.1]
  | v :: l, ws, us, rest, h => by
    simp only [fillL] at h
    split at h
    · rename_i w ws' hw
      simp only [Option.map_eq_some_iff] at h
      obtain ⟨⟨u, rs⟩, h1, h2⟩ := h
      cases h2
      simp [fillL_len l _ _ _ h1]
    · cases h
theorem hfill_R {O' : WO → Own → Prop} {γ' : Nat → Option Nat} (hno : ∀ o, O' .no o) (hr : Rl θ γ ws F B) {cl : List (Nat × Option Nat)} {BS : List Nat}
    (hO : ∀ κ oc, (κ, oc) ∈ cl → ∀ own, (own = .full ∨ ∃ c i, oc = some c ∧ ws.al c = true ∧ θ c = some (some i) ∧ own = .id i ∧ F.al i = true) → O' (.mine κ) own)
    (hγ : ∀ s ∈ BS, ∀ g cs, ws.t s = .box g cs → γ' s = γ g) :
    ∀ (h : List HE) (ls : List WV) (l : List (Nat × Option Nat)), hflat ws h = some ls → hcl ws h = some l → (∀ p ∈ l, p ∈ cl) → (∀ s ∈ hbox h, s ∈ BS) → (∀ s ∈ hfp h, s ∈ BS) → ∀ (ls' rest : List WV), All2 (LR (ownR ws.al F.al θ) Ono γ g0) ls ls' →
      ∃ r, hfill h (ls' ++ rest) = some (r, rest) ∧ ∀ p ∈ r, WR O' γ' p.2 (F.t p.1)
  | [], ls, l, hf, hc, hm, hb, hp, ls', rest, ha => by
    cases hf
    cases ls' with
    | nil => exact ⟨[], rfl, fun p hp => by simp at hp⟩
    | cons => exact ha.elim
  | .val s sv :: h, ls, l, hf, hc, hm, hb, hp, ls', rest, ha => by
    simp only [hflat] at hf
    split at hf
    · rename_i a b h1 h2
      cases hf
      obtain ⟨m1, m2, rfl, k1, k2⟩ := All2.split ha
      obtain ⟨w', q1, q2⟩ := flat_fill sv _ a h1 m1 (m2 ++ rest) k1
      have hw' := q2 _ (hr.t s)
      have fin : ∀ {l' : List (Nat × Option Nat)}, hcl ws h = some l' → (∀ p ∈ l', p ∈ cl) → WR O' γ' (mark1 s sv w') (F.t s) → ∃ r, hfill (.val s sv :: h) ((m1 ++ m2) ++ rest) = some (r, rest) ∧ ∀ p ∈ r, WR O' γ' p.2 (F.t p.1) := by
        intro l' hl' hm' hw
        obtain ⟨r, r1, r2⟩ := hfill_R hno hr hO hγ h b l' h2 hl' hm' hb hp m2 rest k2
        refine ⟨(s, mark1 s sv w') :: r, by simp only [hfill, List.append_assoc, q1, r1, Option.map_some], fun p hp => ?_⟩
        rcases List.mem_cons.1 hp with rfl | hp
        · exact hw
        · exact r2 p hp
      cases sv with
      | fr rt =>
        simp only [hcl] at hc
        split at hc
        · rename_i o l' c1 c2
          cases hc
          obtain ⟨rows, nl, own, hF, hown⟩ := ownOf_R hr c1 (hr.t s)
          refine fin c2 (fun p hp => hm p (List.mem_cons_of_mem _ hp)) ?_
          cases w' with
          | sl r' l o' =>
            rw [hF] at hw' ⊢
            cases hw'
            rename_i hrows _ _
            exact .sl _ _ _ _ _ _ hrows (hO s o (hm _ (List.mem_cons_self ..)) own (hown.imp And.left id)) (fun _ _ e => by rcases hown with h | ⟨_, _, _, _, _, h, _⟩; exact h.2; rw [h] at e; cases e)
          | _ => exact ono_imp hno hw'
        · cases hc
      | _ =>
        simp only [hcl] at hc
        exact fin hc hm (ono_imp hno hw')
    · cases hf
  | .box s l0 :: h, ls, l, hf, hc, hm, hb, hp, ls', rest, ha => by
    simp only [hflat] at hf
    simp only [hcl] at hc
    split at hf
    · rename_i g cs hs
      split at hf
      · rename_i a b h1 h2
        cases hf
        rw [hs] at hc
        simp only at hc
        split at hc
        · rename_i la lb c1 c2
          cases hc
          obtain ⟨m1, m2, rfl, k1, k2⟩ := All2.split ha
          obtain ⟨us, q1, q2⟩ := flatL_fill l0 _ a h1 m1 (m2 ++ rest) k1
          have hlen := fillL_len _ _ _ _ q1
          have ht := hr.t s
          rw [hs] at ht
          obtain ⟨r, r1, r2⟩ := hfill_R hno hr hO hγ h b lb h2 c2 (fun p hp => hm p (List.mem_append_right _ hp)) (fun t ht => hb t (List.mem_cons_of_mem _ ht)) hp m2 rest k2
          refine ⟨(s, .box s (markW (100000 + 64 * s) l0 us)) :: r, by simp only [hfill, List.append_assoc, q1, hlen, if_true, r1, Option.map_some], fun p hp => ?_⟩
          rcases List.mem_cons.1 hp with rfl | hp
          · cases hF : F.t s <;> rw [hF] at ht <;> cases ht
            rename_i g3 as hg3 hl3 h3
            simp only [hF]
            have hcs := wrl_of (O := ownR ws.al F.al θ) (γ := γ) hl3 h3
            exact wr_box (by rw [hγ s (hb s (List.mem_cons_self ..)) g cs hs]; exact hg3) (markW_R hno hr hO l0 cs us as (100000 + 64 * s) la c1 (fun p hp => hm p (List.mem_append_left _ hp)) hcs (q2 as hcs) hlen)
          · exact r2 p hp
        · cases hc
      · cases hf
    · cases hf
  | .fp s t off :: h, ls, l, hf, hc, hm, hb, hp, ls', rest, ha => by
    simp only [hflat] at hf
    simp only [hcl] at hc
    split at hf
    · rename_i g t' off' g' cs hs ht
      split at hf
      · rename_i hcond
        obtain ⟨rfl, rfl, rfl⟩ := hcond
        obtain ⟨r, r1, r2⟩ := hfill_R hno hr hO hγ h ls l hf hc hm hb (fun t ht => hp t (List.mem_cons_of_mem _ ht)) ls' rest ha
        refine ⟨(s, .fp t t off) :: r, by simp only [hfill, r1, Option.map_some], fun p hp' => ?_⟩
        rcases List.mem_cons.1 hp' with rfl | hp'
        · have h1 := hr.t s
          rw [hs] at h1
          cases hF : F.t s <;> rw [hF] at h1 <;> cases h1
          rename_i g3 hg3
          simp only [hF]
          exact .fp _ _ _ _ (by rw [hγ t (hp t (List.mem_cons_self ..)) g cs ht]; exact hg3)
        · exact r2 p hp'
      · cases hf
    · cases hf
theorem lookT_R {O' : WO → Own → Prop} {γ' : Nat → Option Nat} {F : St} : ∀ (r : List (Nat × WV)), (∀ p ∈ r, WR O' γ' p.2 (F.t p.1)) → ∀ i, WR O' γ' (lookT r i) (F.t i)
  | [], _, i => .top _
  | (s, w) :: r, h, i => by
    simp only [lookT]
    split
    · rename_i e; subst e; exact h (i, w) (List.mem_cons_self ..)
    · exact lookT_R r (fun p hp => h p (List.mem_cons_of_mem _ hp)) i
theorem hrepack {n : Nat} {m : List TypeId} (hr : StR ws F B) {h : List HE} {x : Tl (hdyn h)} (hx : hpack n m ws h = some x) : ∃ ws', hunpack n m h x = some ws' ∧ StR ws' F B := by
  obtain ⟨θ, γ, hr⟩ := hr
  unfold hpack at hx
  split at hx
  · rename_i ls cl hf hc
    split at hx
    · rename_i hcond
      obtain ⟨rfl, rfl, d1, d2, d3, d4, d5, d6⟩ := hcond
      let θ' : Nat → Option (Option Nat) := fun κ => (cl.find? (fun q => q.1 == κ)).map fun p => p.2.bind fun c => (θ c).bind id
      let γ' : Nat → Option Nat := fun s => if (hbox h).contains s then (match ws.t s with | .box g _ => γ g | _ => none) else none
      have hθ : ∀ κ oc, (κ, oc) ∈ cl → θ' κ = some (oc.bind fun c => (θ c).bind id) := by
        intro κ oc hm
        simp only [θ']
        rw [nodupN_find cl d1 (κ, oc) hm]
        rfl
      have hmem : ∀ κ, (hcan h).contains κ = true → ∃ oc, (κ, oc) ∈ cl := by
        intro κ hκ
        rw [← d3, List.contains_iff_mem] at hκ
        obtain ⟨⟨κ', oc⟩, h1, rfl⟩ := List.mem_map.1 hκ
        exact ⟨oc, h1⟩
      have hals : ∀ p ∈ cl, (hcan h).contains p.1 = true := by
        intro p hp
        rw [← d3, List.contains_iff_mem]
        exact List.mem_map.2 ⟨p, hp, rfl⟩
      -- who bears an old class, and which id that is
      have hold : ∀ p ∈ cl, ∀ c, p.2 = some c → ws.al c = true := by
        have hB : ∀ (svs : List SV) (cs : List WV) (κ : Nat) (l : List (Nat × Option Nat)), hclB ws κ svs cs = some l → ∀ p ∈ l, ∀ c, p.2 = some c → ws.al c = true := by
          intro svs
          induction svs with
          | nil => intro cs κ l h p hp; cases cs <;> (simp only [hclB] at h; cases h; simp at hp)
          | cons sv svs ih =>
            intro cs κ l h p hp c hc
            cases cs with
            | nil => cases sv <;> (simp only [hclB] at h; cases h; simp at hp)
            | cons w cs =>
              cases sv with
              | fr r =>
                simp only [hclB] at h
                split at h
                · rename_i o l' h1 h2
                  cases h
                  rcases List.mem_cons.1 hp with rfl | hp
                  · simp only at hc
                    subst hc
                    unfold ownOf at h1
                    split at h1 <;> first | (cases h1; done) | (split at h1 <;> first | (cases h1; done) | (rename_i hal; cases h1; exact hal))
                  · exact ih cs _ l' h2 p hp c hc
                · cases h
              | _ => simp only [hclB] at h; exact ih cs _ l h p hp c hc
        have gen : ∀ (h : List HE) (l : List (Nat × Option Nat)), hcl ws h = some l → ∀ p ∈ l, ∀ c, p.2 = some c → ws.al c = true := by
          intro h
          induction h with
          | nil => intro l h p hp; cases h; simp at hp
          | cons e h ih =>
            intro l hl p hp c hc
            cases e with
            | val s sv =>
              cases sv with
              | fr r =>
                simp only [hcl] at hl
                split at hl
                · rename_i o l' h1 h2
                  cases hl
                  rcases List.mem_cons.1 hp with rfl | hp
                  · simp only at hc
                    subst hc
                    unfold ownOf at h1
                    split at h1 <;> first | (cases h1; done) | (split at h1 <;> first | (cases h1; done) | (rename_i hal; cases h1; exact hal))
                  · exact ih l' h2 p hp c hc
                · cases hl
              | _ => simp only [hcl] at hl; exact ih l hl p hp c hc
            | box s l0 =>
              simp only [hcl] at hl
              split at hl
              · split at hl
                · rename_i a b h1 h2
                  cases hl
                  rcases List.mem_append.1 hp with hp | hp
                  · exact hB _ _ _ _ h1 p hp c hc
                  · exact ih b h2 p hp c hc
                · cases hl
              · cases hl
            | fp s t off => simp only [hcl] at hl; exact ih l hl p hp c hc
        exact gen h cl hc
      have key : ∀ κ i, (hcan h).contains κ = true → θ' κ = some (some i) → ∃ c, (κ, some c) ∈ cl ∧ ws.al c = true ∧ θ c = some (some i) := by
        intro κ i hκ hi
        obtain ⟨oc, hm⟩ := hmem κ hκ
        rw [hθ κ oc hm] at hi
        cases oc with
        | none => cases hi
        | some c =>
          simp only [Option.bind_some, Option.some.injEq] at hi
          obtain ⟨q, hq, hq'⟩ := Option.bind_eq_some_iff.1 hi
          simp only [id] at hq'
          subst hq'
          exact ⟨c, hm, hold _ hm c rfl, hq⟩
      have hO' : ∀ κ oc, (κ, oc) ∈ cl → ∀ own, (own = .full ∨ ∃ c i, oc = some c ∧ ws.al c = true ∧ θ c = some (some i) ∧ own = .id i ∧ F.al i = true) → ownR (fun c => (hcan h).contains c) F.al θ' (.mine κ) own := by
        intro κ oc hm own ho
        refine ⟨_, hθ κ oc hm, fun _ => ?_⟩
        rcases ho with h1 | ⟨c, i, rfl, _, h3, h4, h5⟩
        · exact .inl h1
        · exact .inr ⟨i, by simp [h3], h4, h5⟩
      obtain ⟨r, r1, r2⟩ := hfill_R (O' := ownR (fun c => (hcan h).contains c) F.al θ') (γ' := γ') (BS := hbox h) (fun _ => trivial) hr hO' (fun s hs g cs hg => by
          simp only [γ']
          rw [if_pos (by rw [List.contains_iff_mem]; exact hs), hg]) h ls cl hf hc (fun p hp => hp) (fun s hs => hs) (fun s hs => by
          have := List.all_eq_true.1 d6 s hs
          rwa [List.contains_iff_mem] at this) _ [] (packL_LR _ _ _ hx)
      rw [List.append_nil] at r1
      refine ⟨{ n := ws.n, t := lookT r, al := fun c => (hcan h).contains c, nc := ncOf ws.n, ng := ws.n, m := ws.m }, by simp only [hunpack, r1], θ', γ', hr.n, hr.H, hr.m, lookT_R r r2, ?_, ?_, ?_, ?_⟩
      · intro κ i hκ hi
        obtain ⟨c, _, h2, h3⟩ := key κ i hκ hi
        exact hr.b c i h2 h3
      · intro κ κ' i hκ hκ' hi hi'
        obtain ⟨c, h1, h2, h3⟩ := key κ i hκ hi
        obtain ⟨c', h1', h2', h3'⟩ := key κ' i hκ' hi'
        have := hr.i c c' i h2 h2' h3 h3'
        subst this
        exact nodupN_some cl d2 d1 _ h1 _ h1' c rfl rfl
      · intro κ hκ
        simp only [θ']
        cases hfd : cl.find? (fun q => q.1 == κ) with
        | none => rfl
        | some p =>
          have hp := List.mem_of_find?_eq_some hfd
          have he := List.find?_some hfd
          simp only [beq_iff_eq] at he
          have h5 := List.all_eq_true.1 d5 p.1 (by have := hals p hp; rwa [List.contains_iff_mem] at this)
          have h5' := of_decide_eq_true h5
          rw [he] at h5'
          have hκ : ncOf ws.n ≤ κ := hκ
          omega
      · intro g hg
        have hg : ws.n ≤ g := hg
        simp only [γ']
        split
        · rename_i hb
          have := of_decide_eq_true (List.all_eq_true.1 d4 g (by rwa [List.contains_iff_mem] at hb))
          omega
        · rfl
    · cases hx
  · cases hx
end
end Go.Proofs.W
namespace Go.Proofs.W
open Go Go.Proofs.V
set_option linter.unusedVariables false
set_option linter.unusedSimpArgs false
def dstsOps : List Oper → List Nat
  | [] => []
  | o :: l => match o.dst with
    | some d => d :: dstsOps l
    | none => dstsOps l
def dsts : Code → List Nat
  | .seq a b => dsts a ++ dsts b
  | .cond _ a b => dsts a ++ dsts b
  | .block _ b => dsts b
  | .loop b => dsts b
  | .region _ ops _ => dstsOps ops.toList
  | .scope b => dsts b
  | _ => []
def NB (F : St) (i : Nat) : Prop := ∀ g cs, F.t i ≠ .box g cs
/-- Slots that stay. -/
def Stay (ds : List Nat) (F F' : St) : Prop := ∀ i, ds.contains i = false → NB F i → F'.t i = F.t i
theorem Stay.refl (ds : List Nat) (F : St) : Stay ds F F := fun _ _ _ => rfl
theorem Stay.trans {ds : List Nat} {F G K : St} (h : Stay ds F G) (k : Stay ds G K) : Stay ds F K := fun i hi hb => by
  have h1 := h i hi hb
  rw [k i hi (by unfold NB; rw [h1]; exact hb), h1]
theorem Stay.mono {ds ds' : List Nat} {F G : St} (h : Stay ds F G) (hs : ∀ i, ds'.contains i = false → ds.contains i = false) : Stay ds' F G := fun i hi hb => h i (hs i hi) hb
theorem put_stay {F F' : St} {d : Option Nat} {v : AV} (h : F.put d v = some F') : Stay d.toList F F' := by
  intro i hi hb
  cases d with
  | none => cases h; rfl
  | some d =>
    simp only [St.put] at h
    split at h
    · cases h
      have : i ≠ d := by rintro rfl; simp at hi
      simp only [upd_ne _ _ _ _ this]
    · cases h
theorem write_stay {F F' : St} {p : AV} {cs : List AV} (h : F.write p cs = some F') : Stay [] F F' := by
  intro i hi hb
  unfold St.write at h
  split at h
  · rename_i g t off
    split at h
    · rename_i g' row hF
      split at h
      · cases h
        have : i ≠ t := by rintro rfl; exact hb _ _ hF
        simp only [upd_ne _ _ _ _ this]
      · cases h
    · cases h
  · split at h
    · split at h
      · cases h; rfl
      · cases h
    · cases h
  · cases h
theorem freeze_stay : ∀ (l : List Operand) {F F' : St} {xs : List AV}, freezeL F l = some (xs, F') → Stay [] F F'
  | [], F, F', xs, h => by cases h; exact .refl _ _
  | o :: l, F, F', xs, h => by
    have other : ∀ {y : AV}, (freezeL F l).map (fun r => (y :: r.1, r.2)) = some (xs, F') → Stay [] F F' := by
      intro y h
      simp only [Option.map_eq_some_iff] at h
      obtain ⟨⟨ys, F2⟩, h1, h2⟩ := h
      cases h2
      exact freeze_stay l h1
    cases o with
    | tmp t =>
      simp only [freezeL] at h
      split at h
      · rename_i g cs hF
        simp only [Option.map_eq_some_iff] at h
        obtain ⟨⟨ys, F2⟩, h1, h2⟩ := h
        cases h2
        have h3 := freeze_stay l h1
        intro i hi hb
        have hne : i ≠ t := by rintro rfl; exact hb _ _ hF
        have h4 := h3 i hi (by intro g' cs'; simp only [upd_ne _ _ _ _ hne]; exact hb g' cs')
        rw [h4]
        simp only [upd_ne _ _ _ _ hne]
      · split at h
        · exact other h
        · cases h
    | const v =>
      simp only [freezeL] at h
      split at h
      · exact other h
      · cases h
    | global v =>
      simp only [freezeL] at h
      split at h
      · exact other h
      · cases h
    | func v =>
      simp only [freezeL] at h
      split at h
      · exact other h
      · cases h
section
variable {cfg : Cfg}
theorem nil_stay {d : Option Nat} {F F' : St} (h : Stay [] F F') : Stay d.toList F F' := h.mono fun i _ => rfl
theorem op_stay {K : KF} {draw : Bool} {ds : List Nat} {lab : Nat} {o : Oper} {F F' : St} (h : opRun cfg K draw ds lab o F = some F') : Stay o.dst.toList F F' := by
  have pt : ∀ {G F' : St} {v : AV}, G.put o.dst v = some F' → G.t = F.t → Stay o.dst.toList F F' := by
    intro G F' v h hG i hi hb
    rw [put_stay h i hi (by unfold NB; rw [hG]; exact hb), hG]
  unfold opRun at h
  split at h
  · split at h
    · cases h
    · exact pt h rfl
  · unfold opRunV at h
    split at h
    · split at h
      · split at h
        · obtain ⟨F1, h1, h2⟩ := Option.bind_eq_some_iff.1 h
          exact (nil_stay (write_stay h1)).trans (put_stay h2)
        · cases h
      · cases h
    · split at h
      · rename_i fs F1 h1
        split at h
        · rename_i cs F2 h2
          exact ((nil_stay (freeze_stay _ h1)).trans (nil_stay (freeze_stay _ h2))).trans (put_stay h)
        · cases h
      · cases h
    · rename_i c hc
      split at h
      · split at h
        · obtain ⟨⟨v, al⟩, h1, h2⟩ := Option.bind_eq_some_iff.1 h
          exact pt (G := { F with al := al }) h2 rfl
        · cases h
      · obtain ⟨v, h1, h2⟩ := Option.bind_eq_some_iff.1 h
        exact pt h2 rfl
      · split at h
        · rename_i g first captured ht
          dsimp only at h
          split at h
          · split at h
            · split at h
              · obtain ⟨⟨r, H⟩, h1, h2⟩ := Option.bind_eq_some_iff.1 h
                unfold drawE at h2
                split at h2
                · split at h2
                  · exact pt h2 rfl
                  · cases h2
                · split at h2
                  · exact pt h2 rfl
                  · cases h2
              · obtain ⟨⟨r, H⟩, h1, h2⟩ := Option.bind_eq_some_iff.1 h
                dsimp only at h2
                split at h2
                · exact pt (G := { F with al := markR lab F.al r, H := H }) h2 rfl
                · cases h2
            · split at h
              · obtain ⟨r, h1, h2⟩ := Option.bind_eq_some_iff.1 h
                split at h2
                · exact pt (G := { F with al := markR lab F.al r }) h2 rfl
                · cases h2
              · cases h
          · cases h
        · cases h
      · cases h
    · obtain ⟨v, h1, h2⟩ := Option.bind_eq_some_iff.1 h
      exact pt h2 rfl
theorem contains_app {i : Nat} {a b : List Nat} (h : (a ++ b).contains i = false) : a.contains i = false ∧ b.contains i = false := by
  simp only [List.contains_eq_mem, List.mem_append, decide_eq_false_iff_not, not_or] at h ⊢
  exact h
theorem ops_stay {K : KF} {draw : Bool} {ds : List Nat} {all : Array Oper} : ∀ (l : List Oper) {lab : Nat} {F F' : St}, opsRun cfg K draw ds all l lab F = some F' → Stay (dstsOps l) F F'
  | [], lab, F, F', h => by cases h; exact .refl _ _
  | o :: l, lab, F, F', h => by
    unfold opsRun at h
    obtain ⟨w, h1, h2⟩ := Option.bind_eq_some_iff.1 h
    obtain ⟨F1, h3, h4⟩ := Option.bind_eq_some_iff.1 h2
    have hst := ops_stay l h4
    have h5 : Stay o.dst.toList F F1 := by
      cases w with
      | true => exact op_stay h3
      | false => exact put_stay h3
    refine Stay.trans (h5.mono fun i hi => ?_) (hst.mono fun i hi => ?_)
    · unfold dstsOps at hi
      split at hi
      · rename_i d hd
        rw [hd]
        simp only [List.contains_eq_mem, List.mem_cons, decide_eq_false_iff_not, not_or] at hi
        simp [hi.1]
      · rename_i hd; rw [hd]; rfl
    · unfold dstsOps at hi
      split at hi
      · simp only [List.contains_eq_mem, List.mem_cons, decide_eq_false_iff_not, not_or] at hi ⊢
        exact hi.2
      · exact hi
theorem dsts_label : ∀ (c : Code) {l : Nat} {rest : Code}, findLabel c l = some rest → ∀ i, (dsts c).contains i = false → (dsts rest).contains i = false
  | .seq a b, l, rest, hf, i, hi => by
    have hi' := contains_app hi
    simp only [findLabel] at hf
    split at hf
    · rename_i r hr
      cases hf
      have := dsts_label a hr i hi'.1
      simp only [dsts, List.contains_eq_mem, List.mem_append, decide_eq_false_iff_not, not_or] at *
      exact ⟨this, hi'.2⟩
    · exact dsts_label b hf i hi'.2
  | .label l', l, rest, hf, i, hi => by
    simp only [findLabel] at hf
    split at hf
    · cases hf; rfl
    · cases hf
  | .skip, l, rest, hf, _, _ => by simp [findLabel] at hf
  | .cond .., l, rest, hf, _, _ => by simp [findLabel] at hf
  | .block .., l, rest, hf, _, _ => by simp [findLabel] at hf
  | .loop _, l, rest, hf, _, _ => by simp [findLabel] at hf
  | .exit _, l, rest, hf, _, _ => by simp [findLabel] at hf
  | .goto _, l, rest, hf, _, _ => by simp [findLabel] at hf
  | .ret, l, rest, hf, _, _ => by simp [findLabel] at hf
  | .region .., l, rest, hf, _, _ => by simp [findLabel] at hf
  | .scope _, l, rest, hf, _, _ => by simp [findLabel] at hf
  | .rangeFunc .., l, rest, hf, _, _ => by simp [findLabel] at hf
  | .refuse .., l, rest, hf, _, _ => by simp [findLabel] at hf
theorem evN_stay : ∀ (n : Nat) (c : Code) {F F' : St} {x : X}, (evN cfg n).1 c F = some (x, F') → Stay (dsts c) F F'
  | 0, c, F, F', x, h => by cases h
  | n + 1, c, F, F', x, h0 => by
    have IH := fun c {F F' : St} {x : X} => evN_stay n c (F := F) (F' := F') (x := x)
    have h : codeStep cfg (evN cfg n).1 (evN cfg n).2 n c F = some (x, F') := h0
    clear h0
    cases c <;> simp only [codeStep] at h <;> first | (cases h; done) | skip
    case skip => cases h; exact .refl _ _
    case label l => cases h; exact .refl _ _
    case exit l => cases h; exact .refl _ _
    case goto l => cases h; exact .refl _ _
    case ret => cases h; exact .refl _ _
    case seq a b =>
      obtain ⟨⟨y, F1⟩, h1, h2⟩ := Option.bind_eq_some_iff.1 h
      have e1 := (IH a h1).mono (ds' := dsts a ++ dsts b) fun i hi => (contains_app hi).1
      cases y with
      | normal => exact e1.trans ((IH b h2).mono fun i hi => (contains_app hi).2)
      | exit i => cases h2; exact e1
      | goto i => cases h2; exact e1
      | ret => cases h2; exact e1
    case cond o a b =>
      split at h
      · rename_i t ht
        cases t with
        | true => exact (IH a h).mono fun i hi => (contains_app hi).1
        | false => exact (IH b h).mono fun i hi => (contains_app hi).2
      · cases h
    case block id b =>
      simp only [Option.map_eq_some_iff] at h
      obtain ⟨⟨y, F1⟩, h1, h2⟩ := h
      have e1 := IH b h1
      split at h2 <;> (cases h2; exact e1)
    case loop b =>
      have key : ∀ (m : Nat) {F F' : St} {x : X}, loopRun ((evN cfg n).1 b) m F = some (x, F') → Stay (dsts b) F F' := by
        intro m
        induction m with
        | zero => intro F F' x h; cases h
        | succ m ih =>
          intro F F' x h
          simp only [loopRun] at h
          obtain ⟨⟨y, F1⟩, h1, h2⟩ := Option.bind_eq_some_iff.1 h
          have e1 := IH b h1
          cases y with
          | normal => exact e1.trans (ih h2)
          | exit i => cases h2; exact e1
          | goto i => cases h2; exact e1
          | ret => cases h2; exact e1
      exact key n h
    case region id ops draw =>
      simp only [regionRun, Option.map_eq_some_iff] at h
      obtain ⟨F1, h1, h2⟩ := h
      cases h2
      have := ops_stay _ h1
      exact fun i hi hb => this i hi hb
    case scope b =>
      obtain ⟨⟨y, F1⟩, h1, h2⟩ := Option.bind_eq_some_iff.1 h
      have e1 := IH b h1
      cases y with
      | goto l =>
        simp only at h2
        split at h2
        · rename_i rest hrest
          obtain ⟨⟨z, F2⟩, h3, h4⟩ := Option.bind_eq_some_iff.1 h2
          have e2 := (IH rest h3).mono (dsts_label b hrest)
          cases z with
          | goto i => cases h4
          | normal => cases h4; exact e1.trans e2
          | exit i => cases h4; exact e1.trans e2
          | ret => cases h4; exact e1.trans e2
        · cases h2
      | normal => cases h2; exact e1
      | exit i => cases h2; exact e1
      | ret => cases h2; exact e1
theorem aw_stay {c : Code} {F : St} {Q : X → St → Prop} (h : Aw cfg c F fun x F' => Stay (dsts c) F F' → Q x F') : Aw cfg c F Q := by
  obtain ⟨x, F', e, q⟩ := h
  obtain ⟨n, hn⟩ := evC_some.1 e
  exact ⟨x, F', e, q (evN_stay n c hn)⟩
end
mutual
/-- A value without marks and generations, if it is one. -/
def clean : WV → Option WV
  | .int k st n => some (.int k st n)
  | .bool st b => some (.bool st b)
  | .str st s => some (.str st s)
  | .flt k st n => some (.flt k st n)
  | .cx k st a b => some (.cx k st a b)
  | .sl r l _ => some (.sl r l .no)
  | .nil => some .nil
  | .agg cs => (cleanL cs).map .agg
  | .tup cs => (cleanL cs).map .tup
  | .ref cs off => (cleanL cs).map fun l => .ref l off
  | .fn f a b => match cleanL a, cleanL b with
    | some x, some y => some (.fn f x y)
    | _, _ => none
  | .fp .. => none
  | .box .. => none
  | .top => none
def cleanL : List WV → Option (List WV)
  | [] => some []
  | w :: ws => match clean w, cleanL ws with
    | some x, some y => some (x :: y)
    | _, _ => none
end
section
variable {O : WO → Own → Prop} {γ : Nat → Option Nat}
mutual
theorem clean_R : ∀ (w w' : WV) (a : AV), clean w = some w' → WR O γ w a → WR Ono g0 w' a
  | .int k st n, w', a, h, hw => by simp only [clean, Option.some.injEq] at h; subst h; cases hw; exact .int _ _ _
  | .bool st n, w', a, h, hw => by simp only [clean, Option.some.injEq] at h; subst h; cases hw; exact .bool _ _
  | .str st n, w', a, h, hw => by simp only [clean, Option.some.injEq] at h; subst h; cases hw; exact .str _ _
  | .flt k st n, w', a, h, hw => by simp only [clean, Option.some.injEq] at h; subst h; cases hw; exact .flt _ _ _
  | .cx k st a b, w', _, h, hw => by simp only [clean, Option.some.injEq] at h; subst h; cases hw; exact .cx _ _ _ _
  | .sl r l o, w', a, h, hw => by
    simp only [clean, Option.some.injEq] at h; subst h; cases hw
    exact .sl _ _ _ _ _ _ (by assumption) rfl (fun _ e => by cases e)
  | .nil, w', a, h, hw => by simp only [clean, Option.some.injEq] at h; subst h; cases hw; exact .nil
  | .agg cs, w', a, h, hw => by
    simp only [clean, Option.map_eq_some_iff] at h
    obtain ⟨l, h1, rfl⟩ := h
    cases hw
    exact wr_agg (cleanL_R cs l _ h1 (wrl_of (by assumption) (by assumption)))
  | .tup cs, w', a, h, hw => by
    simp only [clean, Option.map_eq_some_iff] at h
    obtain ⟨l, h1, rfl⟩ := h
    cases hw
    exact wr_tup (cleanL_R cs l _ h1 (wrl_of (by assumption) (by assumption)))
  | .ref cs off, w', a, h, hw => by
    simp only [clean, Option.map_eq_some_iff] at h
    obtain ⟨l, h1, rfl⟩ := h
    cases hw
    exact wr_ref (cleanL_R cs l _ h1 (wrl_of (by assumption) (by assumption)))
  | .fn f c1 c2, w', a, h, hw => by
    simp only [clean] at h
    split at h
    · rename_i x y h1 h2
      cases h
      cases hw with
      | fn _ _ _ a1 a2 l1 l2 q1 q2 => exact wr_fn (cleanL_R c1 x _ h1 (wrl_of l1 q1)) (cleanL_R c2 y _ h2 (wrl_of l2 q2))
    · cases h
  | .fp .., w', a, h, hw => by simp [clean] at h
  | .box .., w', a, h, hw => by simp [clean] at h
  | .top, w', a, h, hw => by simp [clean] at h
theorem cleanL_R : ∀ (cs l : List WV) (as : List AV), cleanL cs = some l → WRL O γ cs as → WRL Ono g0 l as
  | [], l, as, h, hw => by
    simp only [cleanL, Option.some.injEq] at h; subst h
    cases as with
    | nil => trivial
    | cons => exact hw.elim
  | w :: cs, l, as, h, hw => by
    simp only [cleanL] at h
    split at h
    · rename_i x y h1 h2
      cases h
      cases as with
      | nil => exact hw.elim
      | cons a as => exact ⟨clean_R w x a h1 hw.1, cleanL_R cs y as h2 hw.2⟩
    · cases h
end
end
end Go.Proofs.W
namespace Go.Proofs.W
open Go Go.Proofs.V
set_option linter.unusedVariables false
set_option linter.unusedSimpArgs false
def firstId : Code → Nat
  | .region id _ _ => id
  | .seq a b => match a with
    | .skip | .label _ => firstId b
    | _ => firstId a
  | .cond _ a b => match a with
    | .skip | .ret | .exit _ | .goto _ => firstId b
    | _ => firstId a
  | .block _ b => firstId b
  | .loop b => firstId b
  | .scope b => firstId b
  | _ => 999999
abbrev Hints := List (Nat × List HE × List Nat)
/-- Values that stay. -/
def keepL (ws : WS) : List Nat → Option (List (Nat × WV))
  | [] => some []
  | i :: l => match clean (ws.t i), keepL ws l with
    | some w, some r => some ((i, w) :: r)
    | _, _ => none
def lookK : List (Nat × WV) → WS → WS
  | l, ws => { ws with t := fun i => lookT2 l (ws.t i) i }
where lookT2 : List (Nat × WV) → WV → Nat → WV
  | [], d, _ => d
  | (s, w) :: l, d, i => if i = s then w else lookT2 l d i
def hint : Hints → Nat → Option (List HE × List Nat)
  | [], _ => none
  | (i, h) :: l, j => if i = j then some h else hint l j
/-- A condition that is known from here on. -/
def refine1 (ws : WS) (c : Operand) (b : Bool) : WS :=
  match c with
  | .tmp t => { ws with t := upd ws.t t (.bool true b) }
  | _ => ws
structure Hs where
  loop : Hints
  join : Hints
  n : Nat
  m : List TypeId
def wcode {R : Type} (W : WC) (H : Hs) : Nat → Code → WS → (X → WS → Option R) → Option R
  | 0, _, _, _ => none
  | f + 1, c, ws, k =>
    match c with
    | .skip => k .normal ws
    | .label _ => k .normal ws
    | .exit id => k (.exit id) ws
    | .goto l => k (.goto l) ws
    | .ret => k .ret ws
    | .seq a b => match hint H.join (firstId b) with
      | some (h, ks) => match keepL ws ks with
        | some kept => if ks.all (fun i => !(dsts a).contains i) then W.p.join (fun s : Tl (hdyn h) => match hunpack H.n H.m h s with
            | some ws1 => wcode W H f b (lookK kept ws1) k
            | none => none) fun j => wcode W H f a ws fun x ws' => match x with
            | .normal => match hpack H.n H.m ws' h with
              | some s => j s
              | none => none
            | x => k x ws'
          else none
        | none => none
      | none => wcode W H f a ws fun x ws' => match x with
        | .normal => wcode W H f b ws' k
        | x => k x ws'
    | .cond c a b => match ws.ev c with
      | .bool true t => if t then wcode W H f a ws k else wcode W H f b ws k
      | .bool false t => W.p.ite t (wcode W H f a (refine1 ws c true) k) (wcode W H f b (refine1 ws c false) k)
      | _ => none
    | .block id b => wcode W H f b ws fun x ws' => if x = .exit id then k .normal ws' else k x ws'
    | .loop b => match hint H.loop (firstId b) with
      | some (h, ks) => match hpack H.n H.m ws h, keepL ws ks with
        | some x, some kept => if ks.all (fun i => !(dsts b).contains i) then W.p.loop (fun (again : Tl (hdyn h) → Option R) (s : Tl (hdyn h)) => match hunpack H.n H.m h s with
            | some ws1 => wcode W H f b (lookK kept ws1) fun x ws2 => match x with
              | .normal => match hpack H.n H.m ws2 h with
                | some s' => again s'
                | none => none
              | x => k x ws2
            | none => none) x
          else none
        | _, _ => none
      | none => wcode W H f b ws fun x ws' => match x with
        | .normal => wcode W H f (.loop b) ws' k
        | x => k x ws'
    | .region _ ops draw => wops W draw (W.ds ops draw) ops ops.toList ws (k .normal)
    | .scope b => wcode W H f b ws fun x ws' => match x with
      | .goto l => match findLabel b l with
        | some rest => wcode W H f rest ws' fun y ws2 => match y with
          | .goto _ => none
          | y => k y ws2
        | none => none
      | x => k x ws'
    | _ => none

section
variable {W : WC} {cfg : Cfg} {R : Type} {r : R} {H : Hs}
theorem refine1_R {ws : WS} {F : St} {B : Nat} (hr : StR ws F B) {c : Operand} {t : Bool} (hc : F.ev c = .at (.bool t)) (hw : ws.ev c = .bool false t) : StR (refine1 ws c t) F B := by
  obtain ⟨θ, γ, hr⟩ := hr
  cases c with
  | tmp i =>
    refine ⟨θ, γ, hr.n, hr.H, hr.m, fun j => ?_, hr.b, hr.i, hr.f, hr.g⟩
    simp only [refine1, upd_apply]
    split
    · rename_i e
      subst e
      have hw' : ws.t j = .bool false t := by
        have : ws.tmp j = .bool false t := hw
        unfold WS.tmp at this
        split at this
        · cases this
        · exact this
      have := hr.t j
      rw [hw'] at this
      cases hF : F.t j <;> rw [hF] at this <;> cases this
      exact .bool _ _
    · exact hr.t j
  | _ => exact ⟨θ, γ, hr⟩
theorem clean_top {w w' : WV} (h : clean w = some w') : w' ≠ .top := by
  rintro rfl
  cases w <;> simp only [clean, reduceCtorEq, Option.some.injEq, Option.map_eq_some_iff] at h
  all_goals first
    | (obtain ⟨l, _, e⟩ := h; cases e; done)
    | (split at h <;> cases h; done)
/-- What is kept still stands there. -/
def Kept (l : List (Nat × WV)) (F : St) : Prop := ∀ p ∈ l, WR Ono g0 p.2 (F.t p.1)
theorem keepL_R {ws : WS} {F : St} {B : Nat} (hr : StR ws F B) : ∀ {ks : List Nat} {l : List (Nat × WV)}, keepL ws ks = some l → (∀ p ∈ l, p.2 ≠ .top) ∧ Kept l F ∧ l.map (·.1) = ks
  | [], l, h => by cases h; exact ⟨(fun p hp => by simp at hp), (fun p hp => by simp at hp), rfl⟩
  | i :: ks, l, h => by
    simp only [keepL] at h
    split at h
    · rename_i w r h1 h2
      cases h
      obtain ⟨a0, a1, a2⟩ := keepL_R hr h2
      obtain ⟨θ, γ, hrl⟩ := hr
      refine ⟨fun p hp => ?_, fun p hp => ?_, by simp [a2]⟩
      · rcases List.mem_cons.1 hp with rfl | hp
        · exact clean_top h1
        · exact a0 p hp
      rcases List.mem_cons.1 hp with rfl | hp
      · exact clean_R _ _ _ h1 (hrl.t i)
      · exact a1 p hp
    · cases h
theorem kept_stay {l : List (Nat × WV)} {ks : List Nat} {F F' : St} {c : Code} (hnt : ∀ p ∈ l, p.2 ≠ .top) (h : Kept l F) (hl : l.map (·.1) = ks) (hk : ks.all (fun i => !(dsts c).contains i) = true) (hs : Stay (dsts c) F F') : Kept l F' := by
  rintro ⟨s, w⟩ hp
  have hw : WR Ono g0 w (F.t s) := h (s, w) hp
  have hi : (dsts c).contains s = false := by
    have : s ∈ ks := by rw [← hl]; exact List.mem_map.2 ⟨(s, w), hp, rfl⟩
    simpa using List.all_eq_true.1 hk s this
  have hnt' : w ≠ .top := hnt (s, w) hp
  have hnb : NB F s := by
    intro g cs hF
    rw [hF] at hw
    cases hw with
    | box g g' hg => cases hg
    | top => exact hnt' rfl
  show WR Ono g0 w (F'.t s)
  rw [hs s hi hnb]
  exact hw
theorem lookK_R {l : List (Nat × WV)} {ws : WS} {F : St} {B : Nat} (hr : StR ws F B) (hk : Kept l F) : StR (lookK l ws) F B := by
  obtain ⟨θ, γ, hr⟩ := hr
  refine ⟨θ, γ, hr.n, hr.H, hr.m, fun i => ?_, hr.b, hr.i, hr.f, hr.g⟩
  show WR _ γ (lookK.lookT2 l (ws.t i) i) (F.t i)
  have : ∀ (l : List (Nat × WV)), (∀ p ∈ l, WR Ono g0 p.2 (F.t p.1)) → WR (ownR ws.al F.al θ) γ (lookK.lookT2 l (ws.t i) i) (F.t i) := by
    intro l
    induction l with
    | nil => intro _; exact hr.t i
    | cons q l ih =>
      intro h
      obtain ⟨s, w⟩ := q
      simp only [lookK.lookT2]
      split
      · rename_i e; subst e; exact ono_imp (fun _ => trivial) (h (i, w) (List.mem_cons_self ..))
      · exact ih fun p hp => h p (List.mem_cons_of_mem _ hp)
  exact this l hk
theorem wcode_sound (hW : WOk W cfg) : ∀ (f : Nat) (c : Code) {ws : WS} {F : St} {k : X → WS → Option R} {Q : X → St → Prop}, StR ws F F.c → wcode W H f c ws k = some r → (∀ x ws' F', StR ws' F' F'.c → k x ws' = some r → Q x F') → Aw cfg c F Q
  | 0, c, ws, F, k, Q, hr, h, hQ => by simp [wcode] at h
  | f + 1, c, ws, F, k, Q, hr, h, hQ => by
    have IH := fun c {ws : WS} {F : St} {k : X → WS → Option R} {Q : X → St → Prop} => wcode_sound hW f c (ws := ws) (F := F) (k := k) (Q := Q)
    cases c <;> simp only [wcode] at h
    case skip => exact aw_skip (hQ _ _ _ hr h)
    case label l => exact aw_label (hQ _ _ _ hr h)
    case exit id => exact aw_exit (hQ _ _ _ hr h)
    case goto l => exact aw_goto (hQ _ _ _ hr h)
    case ret => exact aw_ret (hQ _ _ _ hr h)
    case seq a b =>
      split at h
      · rename_i hh ks hj
        split at h
        · rename_i kept hkept
          split at h
          · rename_i hks
            obtain ⟨kt, kp, kl⟩ := keepL_R hr hkept
            rw [hW.p] at h
            simp only [real] at h
            refine aw_seq (aw_stay (IH a hr h fun x ws' F' h1 h2 hst => ?_))
            cases x with
            | normal =>
              simp only at h2
              split at h2
              · rename_i s hs
                obtain ⟨ws1, p1, p2⟩ := hrepack h1 hs
                rw [p1] at h2
                exact IH b (lookK_R p2 (kept_stay kt kp kl hks hst)) h2 hQ
              · cases h2
            | exit i => exact hQ _ _ _ h1 h2
            | goto i => exact hQ _ _ _ h1 h2
            | ret => exact hQ _ _ _ h1 h2
          · cases h
        · cases h
      · refine aw_seq (IH a hr h fun x ws' F' h1 h2 => ?_)
        cases x with
        | normal => exact IH b h1 h2 hQ
        | exit i => exact hQ _ _ _ h1 h2
        | goto i => exact hQ _ _ _ h1 h2
        | ret => exact hQ _ _ _ h1 h2
    case cond c a b =>
      have hr' := hr
      obtain ⟨θ, γ, hrl⟩ := hr
      have hc := ev_R hrl c
      split at h
      · rename_i t ht
        rw [ht] at hc
        cases hF : F.ev c <;> rw [hF] at hc <;> cases hc
        refine aw_cond hF (fun e => ?_) (fun e => ?_)
        · subst e; exact IH a hr' h hQ
        · subst e; exact IH b hr' h hQ
      · rename_i t ht
        rw [ht] at hc
        cases hF : F.ev c <;> rw [hF] at hc <;> cases hc
        rw [hW.p] at h
        refine aw_cond hF (fun e => ?_) (fun e => ?_)
        · subst e; exact IH a (refine1_R hr' hF ht) h hQ
        · subst e; exact IH b (refine1_R hr' hF ht) h hQ
      · cases h
    case block id b =>
      refine aw_block (IH b hr h fun x ws' F' h1 h2 => ?_)
      cases x with
      | exit i =>
        by_cases hi : i = id
        · subst hi
          simp only [if_true] at h2
          simp only [InBlock, if_true]
          exact hQ _ _ _ h1 h2
        · rw [if_neg (by intro e; cases e; exact hi rfl)] at h2
          simp only [InBlock, hi, if_false]
          exact hQ _ _ _ h1 h2
      | normal => exact hQ _ _ _ h1 h2
      | goto i => exact hQ _ _ _ h1 h2
      | ret => exact hQ _ _ _ h1 h2
    case loop b =>
      split at h
      · rename_i hh ks hj
        split at h
        · rename_i x kept hx hkept
          split at h
          · rename_i hks
            obtain ⟨kt, kp, kl⟩ := keepL_R hr hkept
            rw [hW.p] at h
            simp only [real, fixS_eq] at h
            have key : ∀ (n : Nat) (s : Tl (hdyn hh)) {ws : WS} {F : St}, hunpack H.n H.m hh s = some ws → StR ws F F.c → Kept kept F → fixN (fun (again : Tl (hdyn hh) → Option R) (s : Tl (hdyn hh)) => match hunpack H.n H.m hh s with
              | some ws1 => wcode W H f b (lookK kept ws1) fun x ws2 => match x with
                | .normal => match hpack H.n H.m ws2 hh with
                  | some s' => again s'
                  | none => none
                | x => k x ws2
              | none => none) n s = some r → Aw cfg (.loop b) F Q := by
              intro n
              induction n with
              | zero => intro s ws F _ _ _ h; cases h
              | succ n ih =>
                intro s ws F hs hr hkp h
                simp only [fixN, hs] at h
                refine aw_loop1 (aw_stay (IH b (lookK_R hr hkp) h fun x ws' F' h1 h2 hst => ?_))
                cases x with
                | normal =>
                  simp only at h2
                  split at h2
                  · rename_i s' hs'
                    obtain ⟨ws1, p1, p2⟩ := hrepack h1 hs'
                    exact ih s' p1 p2 (kept_stay kt hkp kl hks hst) h2
                  · cases h2
                | exit i => exact hQ _ _ _ h1 h2
                | goto i => exact hQ _ _ _ h1 h2
                | ret => exact hQ _ _ _ h1 h2
            obtain ⟨ws1, p1, p2⟩ := hrepack hr hx
            exact key _ x p1 p2 kp h
          · cases h
        · cases h
      · refine aw_loop1 (IH b hr h fun x ws' F' h1 h2 => ?_)
        cases x with
        | normal => exact IH (.loop b) h1 h2 hQ
        | exit i => exact hQ _ _ _ h1 h2
        | goto i => exact hQ _ _ _ h1 h2
        | ret => exact hQ _ _ _ h1 h2
    case region id ops draw =>
      refine aw_region ?_
      rw [hW.ds] at h
      refine wops_sound hW ops.toList hr h fun ws' F' h1 h2 h3 => hQ _ ws' _ ?_ h3
      obtain ⟨θ, γ, h1⟩ := h1
      refine ⟨θ, γ, h1.n, h1.H, h1.m, h1.t, ?_, h1.i, h1.f, h1.g⟩
      intro c i q1 q2
      have := h1.b c i q1 q2
      simp only [Array.length_toList] at this
      exact this
    case scope b =>
      refine aw_scope (IH b hr h fun x ws' F' h1 h2 => ?_)
      cases x with
      | goto l =>
        simp only at h2
        split at h2
        · rename_i rest hrest
          refine ⟨rest, hrest, IH rest h1 h2 fun y ws2 F2 h3 h4 => ?_⟩
          cases y with
          | goto l => cases h4
          | normal => exact hQ _ _ _ h3 h4
          | exit i => exact hQ _ _ _ h3 h4
          | ret => exact hQ _ _ _ h3 h4
        · cases h2
      | normal => exact hQ _ _ _ h1 h2
      | exit i => exact hQ _ _ _ h1 h2
      | ret => exact hQ _ _ _ h1 h2
    case rangeFunc => cases h
    case refuse => cases h
end
end Go.Proofs.W
namespace Go.Proofs.W
open Go Go.Proofs.V
set_option linter.unusedVariables false
set_option linter.unusedSimpArgs false
def wresult (P : Program) (ws : WS) : ResultVar → Option WV
  | .tmp t => if t < ws.n then some (ws.tmp t) else none
  | .cell a t => match wlook ws [] (ws.tmp a), tsz P t, tagg P t with
    | some (row, off), some n, some g => if a < ws.n then match wpart g n row off with
        | some w => some (match ws.tmp a with
          | .fp .. => w
          | _ => wstrip w)
        | none => none
      else none
    | _, _, _ => none
def wresults (P : Program) (ws : WS) : List ResultVar → Option (List WV)
  | [] => some []
  | r :: rs => match wresult P ws r, wresults P ws rs with
    | some w, some l => some (w :: l)
    | _, _ => none
def noSl : WV → Bool
  | .sl .. | .top => false
  | _ => true
/-- The classes of what a function hands over. -/
def wleave (ws : WS) : List SV → List WV → Option (List Nat)
  | [], [] => some []
  | .fr _ :: svs, w :: us => match ownOf ws w, wleave ws svs us with
    | some (some c), some l => some (c :: l)
    | some none, some l => some l
    | _, _ => none
  | _ :: svs, w :: us => if noSl w then wleave ws svs us else if svs.any isFr then none else if svs.length = us.length then some [] else none
  | _, _ => none
def wret (W : WC) (ws : WS) (res : List ResultVar) (rs : List SV) : Option (Tl (dynL rs)) :=
  match wresults W.P ws res with
  | some us => match wleave ws rs us, flatL rs us with
    | some l, some ls => if nodupN l && us.all wfree then packL (dynL rs) ls else none
    | _, _ => none
  | none => none
def wfun (W : WC) (H : Hs) (fu : Nat) (body : Code) (res : List ResultVar) (a rs : List SV) (x : Tl (dynL a)) : Option (Tl (dynL rs)) :=
  match fillL a (unpackL (dynL a) x) with
  | some (us, []) => wcode W H fu body { n := H.n, t := fun i => us.getD i und, al := fun _ => false, nc := 0, ng := 0, m := H.m } fun x ws => match x with
    | .normal => wret W ws res rs
    | .ret => wret W ws res rs
    | _ => none
  | _ => none
section
variable {θ : Nat → Option (Option Nat)} {γ : Nat → Option Nat} {ws : WS} {F : St} {B : Nat} {P : Program}
theorem wresult_R (hr : Rl θ γ ws F B) {v : ResultVar} {w : WV} (h : wresult P ws v = some w) : ∃ a, resultA P F v = some a ∧ WR (ownR ws.al F.al θ) γ w a := by
  have hok := ownR_ok ws.al F.al θ
  have hfull := ownR_full ws.al F.al θ
  cases v with
  | tmp t =>
    simp only [wresult] at h
    split at h
    · rename_i ht
      cases h
      exact ⟨_, by simp only [resultA, hr.n, ht, if_true], tmp_R hr t⟩
    · cases h
  | cell a t =>
    simp only [wresult] at h
    split at h
    · rename_i row off n g h1 h2 h3
      split at h
      · rename_i ha
        split at h
        · rename_i w' hw
          cases h
          have hq := tmp_R hr a
          obtain ⟨row', q1, q2⟩ := wlook_R hr hq h1
          obtain ⟨v, q3, q4⟩ := wpart_R q2 hw
          refine ⟨keep (F.tmp a) v, by simp only [resultA, q1, h2, h3, hr.n, ha, if_true, q3, Option.map_some], ?_⟩
          revert h1 hq
          cases ws.tmp a <;> intro h1 hq <;> first | (cases h1; done) | skip
          · cases hF : F.tmp a <;> rw [hF] at hq <;> cases hq
            exact strip_same hok hfull q4
          · cases hF : F.tmp a <;> rw [hF] at hq <;> cases hq
            exact q4
        · cases h
      · cases h
    · cases h
theorem wresults_R (hr : Rl θ γ ws F B) : ∀ {vs : List ResultVar} {us : List WV}, wresults P ws vs = some us → ∃ as, resultsA P F vs = some as ∧ WRL (ownR ws.al F.al θ) γ us as
  | [], us, h => by cases h; exact ⟨[], rfl, trivial⟩
  | v :: vs, us, h => by
    simp only [wresults] at h
    split at h
    · rename_i w l h1 h2
      cases h
      obtain ⟨a, q1, q2⟩ := wresult_R hr h1
      obtain ⟨as, q3, q4⟩ := wresults_R hr h2
      exact ⟨a :: as, by simp only [resultsA, q1, q3, Option.bind_some, Option.map_some], q2, q4⟩
    · cases h
theorem leave1_noSl {w : WV} {a : AV} {O : WO → Own → Prop} (hw : WR O γ w a) (hn : noSl w = true) (al : Nat → Bool) : (leave1 al a).2 = al := by
  cases hw <;> first | (cases hn; done) | rfl
theorem leave_any : ∀ (svs : List SV) (ws' : List WV) (vs : List AV) (al : Nat → Bool), svs.any isFr = false → vs.length = svs.length → WRL Ono g0 ws' vs → PartsR svs ws' (leaveL al vs)
  | [], [], [], _, _, _, _ => trivial
  | [], _ :: _, [], _, _, _, h => h.elim
  | sv :: svs, w :: ws', v :: vs, al, hn, hl, h => by
    simp only [List.any_cons, Bool.or_eq_false_iff] at hn
    exact ⟨⟨ono_leave1 al h.1, fun e => by rw [hn.1] at e; cases e⟩, leave_any svs ws' vs _ hn.2 (by simpa using hl) h.2⟩
  | sv :: svs, [], v :: vs, al, hn, hl, h => h.elim
theorem leave_parts (hr : Rl θ γ ws F B) : ∀ (svs : List SV) (us ws' : List WV) (vs : List AV) (al : Nat → Bool) (l : List Nat), wleave ws svs us = some l → nodupN l = true → (∀ c ∈ l, ∀ i, θ c = some (some i) → F.al i = true → al i = true) → WRL (ownR ws.al F.al θ) γ us vs → WRL Ono g0 ws' vs → PartsR svs ws' (leaveL al vs)
  | [], [], [], [], al, l, h, hn, ha, hu, hw => trivial
  | [], [], w :: ws', [], al, l, h, hn, ha, hu, hw => hw.elim
  | [], [], _, _ :: _, al, l, h, hn, ha, hu, hw => hu.elim
  | [], u :: us, _, _, al, l, h, _, _, _, _ => by simp [wleave] at h
  | sv :: svs, [], _, _, al, l, h, _, _, _, _ => by cases sv <;> simp [wleave] at h
  | sv :: svs, u :: us, _, [], al, l, h, hn, ha, hu, hw => hu.elim
  | sv :: svs, u :: us, [], v :: vs, al, l, h, hn, ha, hu, hw => hw.elim
  | sv :: svs, u :: us, w :: ws', v :: vs, al, l, h, hn, ha, hu, hw => by
    have other : isFr sv = false → (if noSl u then wleave ws svs us else if svs.any isFr then none else if svs.length = us.length then some [] else none) = some l → PartsR (sv :: svs) (w :: ws') (leaveL al (v :: vs)) := by
      intro hfr h
      split at h
      · rename_i hns
        refine ⟨⟨ono_leave1 al hw.1, fun e => by rw [hfr] at e; cases e⟩, ?_⟩
        rw [leave1_noSl hu.1 hns al]
        exact leave_parts hr svs us ws' vs al l h hn ha hu.2 hw.2
      · split at h
        · cases h
        · rename_i hany
          refine ⟨⟨ono_leave1 al hw.1, fun e => by rw [hfr] at e; cases e⟩, ?_⟩
          split at h
          · rename_i hl
            exact leave_any svs ws' vs _ (by simpa using hany) (by rw [hl, ← hu.2.len]) hw.2
          · cases h
    cases sv with
    | fr r =>
      simp only [wleave] at h
      split at h
      · rename_i c l' h1 h2
        cases h
        simp only [nodupN, Bool.and_eq_true, Bool.not_eq_true'] at hn
        obtain ⟨rows, nl, own, hv, hown⟩ := ownOf_R hr h1 hu.1
        subst hv
        rcases hown with ⟨rfl, rfl⟩ | ⟨c', i, e, h3, h4, rfl, h5⟩
        · exact ⟨⟨ono_leave1 al hw.1, fun _ => ⟨[], nl, .full, rfl, .inl ⟨rfl, rfl⟩⟩⟩, leave_parts hr svs us ws' vs al l' h2 hn.2 (fun c hc => ha c (List.mem_cons_of_mem _ hc)) hu.2 hw.2⟩
        · cases e
          have hal : al i = true := ha c (List.mem_cons_self ..) i h4 h5
          have hcl : ∀ c' ∈ l', ws.al c' = true := by
            have : ∀ (svs : List SV) (us : List WV) (l : List Nat), wleave ws svs us = some l → ∀ c ∈ l, ws.al c = true := by
              intro svs
              induction svs with
              | nil => intro us l h c hc; cases us <;> simp [wleave] at h; subst h; simp at hc
              | cons sv svs ih =>
                intro us l h c hc
                cases us with
                | nil => cases sv <;> simp [wleave] at h
                | cons u us =>
                  have oth : (if noSl u then wleave ws svs us else if svs.any isFr then none else if svs.length = us.length then some [] else none) = some l → ws.al c = true := by
                    intro h
                    split at h
                    · exact ih us l h c hc
                    · split at h
                      · cases h
                      · split at h
                        · cases h; simp at hc
                        · cases h
                  cases sv with
                  | fr r =>
                    simp only [wleave] at h
                    split at h
                    · rename_i c0 l0 k1 k2
                      cases h
                      rcases List.mem_cons.1 hc with rfl | hc
                      · unfold ownOf at k1
                        split at k1 <;> first | (cases k1; done) | (split at k1 <;> first | (cases k1; done) | (rename_i q; cases k1; exact q))
                      · exact ih us _ k2 c hc
                    · rename_i l0 k1 k2
                      cases h
                      exact ih us _ k2 c hc
                    · cases h
                  | _ => exact oth h
            exact this svs us l' h2
          have e1 : leave1 al (.slice rows nl (.id i)) = (.slice rows nl .fresh, upd al i false) := by simp only [leave1, hal, if_true]
          refine ⟨⟨ono_leave1 al hw.1, fun _ => ⟨rows, nl, .fresh, by rw [e1], .inr rfl⟩⟩, ?_⟩
          rw [e1]
          refine leave_parts hr svs us ws' vs _ l' h2 hn.2 (fun c' hc' i' hi' hF' => ?_) hu.2 hw.2
          show upd al i false i' = true
          rw [upd_apply]
          split
          · rename_i e
            subst e
            have := hr.i c c' i' h3 (hcl c' hc') h4 hi'
            subst this
            have : l'.contains c = true := by rw [List.contains_iff_mem]; exact hc'
            rw [this] at hn
            cases hn.1
          · exact ha c' (List.mem_cons_of_mem _ hc') i' hi' hF'
      · rename_i l' h1 h2
        cases h
        obtain ⟨rows, nl, own, hv, hown⟩ := ownOf_R hr h1 hu.1
        subst hv
        rcases hown with ⟨rfl, rfl⟩ | ⟨c', i, e, h3, h4, rfl, h5⟩
        · exact ⟨⟨ono_leave1 al hw.1, fun _ => ⟨[], nl, .full, rfl, .inl ⟨rfl, rfl⟩⟩⟩, leave_parts hr svs us ws' vs al l h2 hn ha hu.2 hw.2⟩
        · cases e
      · cases h
    | _ => exact other rfl h
theorem unw {w : WV} {v : AV} {al : Nat → Bool} (h : WR Ono g0 w v) : WR Ono g0 w (leaveR al v) := by
  cases h with
  | agg cs as hl h => exact wr_agg (ono_leaveL al (wrl_of hl h))
  | tup cs as hl h => exact wr_tup (ono_leaveL al (wrl_of hl h))
  | sl r l o rows nl own h ho => exact ono_leave1 al (.sl _ _ _ _ _ _ h ho (hmN ho))
  | nil => exact .nil
  | top => exact .top _
  | int => exact .int _ _ _
  | bool => exact .bool _ _
  | str => exact .str _ _
  | flt => exact .flt _ _ _
  | cx => exact .cx _ _ _ _
  | ref cs as off hl h => exact .ref _ _ _ hl h
  | fp g g' s off hgg => exact .fp _ _ _ _ hgg
  | box g g' hgg cs as hl h => exact .box _ _ hgg _ _ hl h
  | fn f c1 c2 a1 a2 h1 h2 h3 h4 => exact .fn _ _ _ _ _ h1 h2 h3 h4
theorem wret_R {W : WC} (hr : Rl θ γ ws F B) {res : List ResultVar} {rs : List SV} {y : Tl (dynL rs)} (h : wret W ws res rs = some y) : ∃ vs, resultsA W.P F res = some vs ∧ vs.all AV.free = true ∧ ResR rs y (leaveR F.al (packA vs)) := by
  unfold wret at h
  split at h
  · rename_i us hus
    split at h
    · rename_i l ls hl hls
      split at h
      · rename_i hc
        simp only [Bool.and_eq_true] at hc
        obtain ⟨vs, h1, h2⟩ := wresults_R hr hus
        refine ⟨vs, h1, ?_, ?_⟩
        · refine List.all_eq_true.2 fun a ha => ?_
          obtain ⟨w, hw, hwr⟩ := All2.mem h2 a ha
          exact wfree_R hwr (List.all_eq_true.1 hc.2 w hw)
        · have h3 : All2 (LR (ownR ws.al F.al θ) Ono γ g0) ls (unpackL (dynL rs) y) := packL_LR _ _ _ h
          obtain ⟨ws', h4, h5⟩ := flatL_fill rs us ls hls _ [] h3
          rw [List.append_nil] at h4
          have h6 := h5 vs h2
          have h7 := leave_parts hr rs us ws' vs F.al l hl hc.1 (fun _ _ _ _ h => h) h2 h6
          by_cases hone : ∃ v, vs = [v]
          · obtain ⟨v, rfl⟩ := hone
            refine ⟨ws', [leaveR F.al v], h4, rfl, ?_⟩
            have hlen := partsR_len h7
            cases rs with
            | nil => simp [leaveL] at hlen
            | cons sv rs =>
              cases rs with
              | cons => simp [leaveL] at hlen
              | nil =>
                cases ws' with
                | nil => exact h6.elim
                | cons w ws' =>
                  cases ws' with
                  | cons => exact h6.2.elim
                  | nil =>
                    refine ⟨⟨unw h6.1, fun e => ?_⟩, trivial⟩
                    obtain ⟨rows, nl, o, e1, e2⟩ := h7.1.2 e
                    refine ⟨rows, nl, o, ?_, e2⟩
                    rw [← e1]
                    cases v with
                    | agg cs => exact absurd e1 (by simp [leave1])
                    | tup cs => exact absurd e1 (by simp [leave1])
                    | _ => rfl
          · have e : packA vs = .tup vs := by
              match vs, hone with
              | [], _ => rfl
              | [v], h => exact absurd ⟨v, rfl⟩ h
              | _ :: _ :: _, _ => rfl
            have e2 : packA (leaveL F.al vs) = .tup (leaveL F.al vs) := by
              match vs, hone with
              | [], _ => rfl
              | [v], h => exact absurd ⟨v, rfl⟩ h
              | a :: b :: l, _ => rfl
            exact ⟨ws', leaveL F.al vs, h4, by rw [e, e2]; rfl, h7⟩
      · cases h
    · cases h
  · cases h
end
theorem getD_R {us : List WV} {as : List AV} (h : WRL Ono g0 us as) (i : Nat) {O : WO → Own → Prop} {γ : Nat → Option Nat} (hO : ∀ o, O .no o) : WR O γ (us.getD i und) (argAt as i) := by
  unfold argAt
  cases hu : us[i]? with
  | none =>
    have : as[i]? = none := by
      rw [List.getElem?_eq_none_iff] at hu ⊢
      rw [← h.len]; exact hu
    rw [List.getD_eq_getElem?_getD, List.getD_eq_getElem?_getD, hu, this]
    exact wr_tup trivial
  | some w =>
    obtain ⟨a, ha, hr⟩ := All2.get h hu
    rw [List.getD_eq_getElem?_getD, List.getD_eq_getElem?_getD, hu, ha]
    exact ono_imp hO hr
/-- A function's contract, out of its residual program. -/
theorem w_sound {W : WC} {cfg : Cfg} {H : Hs} (hW : WOk W cfg) {g : Nat} {fn : Func} {c : Code} {a rs : List SV} (Fn : Tl (dynL a) → Option (Tl (dynL rs))) (fu : Nat)
    (hf : cfg.P.funcs[g]? = some fn) (hb : fn.body = some c) (hn : H.n = fn.ntmps) (hl : Nat.ble a.length fn.ntmps = true) (hok : codeOk c = true) (hname : (fn.name == "runtime.NumGoroutine") = false) (hfz : cfg.frz g = false) (hext : cfg.ext g = none)
    (hm : ∀ t, cfg.heap g t = H.m.contains t) (hF : ∀ x, Fn x = wfun W H fu c fn.results.toList a rs x) : FSound cfg ⟨⟨g, a, rs⟩, Fn⟩ := by
  intro x y hxy as ha
  have hxy : Fn x = some y := hxy
  rw [hF] at hxy
  obtain ⟨us, hfill, hus⟩ := ha
  have hfill : fillL a (unpackL (dynL a) x) = some (us, []) := hfill
  unfold wfun at hxy
  rw [hfill] at hxy
  simp only at hxy
  have hlen : as.length ≤ fn.ntmps := by
    rw [← hus.len, fillL_len _ _ _ _ hfill]
    simpa using hl
  have hr0 : StR { n := H.n, t := fun i => us.getD i und, al := fun _ => false, nc := 0, ng := 0, m := H.m } ⟨fn.ntmps, argAt as, 0, fun _ => false, [], cfg.heap g⟩ 0 :=
    ⟨fun _ => none, fun _ => none, hn.symm, rfl, hm, fun i => getD_R hus i (fun _ => trivial), fun c i h => (by cases h), fun c c' i h => (by cases h), fun _ _ => rfl, fun _ _ => rfl⟩
  obtain ⟨rv, H', h1, h2, h3⟩ := evK_ofE (cfg := cfg) (f := g) (args := as) (H := []) (P := fun rv H' => ResR rs y rv ∧ H' = []) hf hb hlen hok hname hfz
    (wcode_sound hW fu c (Q := fun x F => (x = .normal ∨ x = .ret) ∧ ∃ vs, resultsA cfg.P F fn.results.toList = some vs ∧ vs.all AV.free = true ∧ ResR rs y (leaveR F.al (packA vs)) ∧ F.H = []) hr0 hxy fun x ws F' h1 h2 => by
      obtain ⟨θ, γ, h1⟩ := h1
      have fin : wret W ws fn.results.toList rs = some y → ∃ vs, resultsA cfg.P F' fn.results.toList = some vs ∧ vs.all AV.free = true ∧ ResR rs y (leaveR F'.al (packA vs)) ∧ F'.H = [] := by
        intro h
        obtain ⟨vs, q1, q2, q3⟩ := wret_R h1 h
        exact ⟨vs, by rw [hW.P]; exact q1, q2, q3, h1.H⟩
      cases x with
      | normal => exact ⟨.inl rfl, fin h2⟩
      | ret => exact ⟨.inr rfl, fin h2⟩
      | exit i => cases h2
      | goto i => cases h2)
  subst h3
  exact ⟨rv, callQ_of hext h1, h2⟩
end Go.Proofs.W
namespace Go.Proofs.W
def toBL (s : List UInt8) : List Int := s.map fun b => (b.toNat : Int)
def fitsB (by_ : Nat) (n : Int) : Bool := decide (n.toNat * by_ ≤ 35184372088832) && decide (n ≤ 4611686018427387904)
end Go.Proofs.W

/- A function that ranges over an iterator, typed. -/
import Derived.Test.YtnjfjjmlonalhaaDoorK18
namespace Go.Proofs.W
open Go Go.Proofs.V
set_option linter.unusedVariables false
set_option linter.unusedSimpArgs false
def wseq {R : Type} (W : WC) (H : Hs) (fu : Nat) : List Code → WS → (WS → Option R) → (X → WS → Option R) → Option R
  | [], ws, k, kx => k ws
  | c :: cs, ws, k, kx => wcode W H fu c ws fun x ws' => match x with
    | .normal => wseq W H fu cs ws' k kx
    | x => kx x ws'
theorem wseq_sound {W : WC} {cfg : Cfg} {R : Type} {r : R} {H : Hs} (hW : WOk W cfg) {fu : Nat} {α : Type} {K : St → Option α} {Kx : X → St → Option α} {k : WS → Option R} {kx : X → WS → Option R} {P : α → Prop} : ∀ (pre : List Code) {ws : WS} {F : St}, StR ws F F.c → wseq W H fu pre ws k kx = some r →
    (∀ ws' F', StR ws' F' F'.c → k ws' = some r → ∃ v, K F' = some v ∧ P v) → (∀ x ws' F', x ≠ .normal → StR ws' F' F'.c → kx x ws' = some r → ∃ v, Kx x F' = some v ∧ P v) → ∃ v, seqRun cfg pre F K Kx = some v ∧ P v
  | [], ws, F, hr, h, h1, h2 => h1 ws F hr h
  | c :: cs, ws, F, hr, h, h1, h2 => by
    have key : Aw cfg c F fun x F' => ∃ v, (if x = .normal then seqRun cfg cs F' K Kx else Kx x F') = some v ∧ P v := by
      refine wcode_sound hW fu c hr h fun x ws' F' q1 q2 => ?_
      cases x with
      | normal =>
        simp only [if_true]
        exact wseq_sound hW cs q1 q2 h1 h2
      | exit i => simp only [reduceCtorEq, if_false]; exact h2 _ _ _ (by intro e; cases e) q1 q2
      | goto i => simp only [reduceCtorEq, if_false]; exact h2 _ _ _ (by intro e; cases e) q1 q2
      | ret => simp only [reduceCtorEq, if_false]; exact h2 _ _ _ (by intro e; cases e) q1 q2
    obtain ⟨x, F', e, v, hv, hp⟩ := key
    exact ⟨v, by rw [seqRun, e]; exact hv, hp⟩
def onRetW {R : Type} (k : WS → Option R) : X → WS → Option R
  | .ret, ws => k ws
  | _, _ => none
structure RT4 where
  q0 : RT
  q1 : RT
  r1 : RT
  r2 : RT
structure RG where
  sa : Nat
  sb : Nat
  d1 : Nat
  d2 : Nat
  h : List HE
/-- What is left of it. -/
def wrf (W : WC) (H : Hs) (fu : Nat) (R : RF) (g : RG) (τ : RT4) (IT : List (Tr τ.q0) → List (Tr τ.q1) → Option (List (Tr τ.r1 × Tr τ.r2))) (res : List ResultVar) (a rs : List SV) (x : Tl (dynL a)) : Option (Tl (dynL rs)) :=
  match fillL a (unpackL (dynL a) x) with
  | some (us, []) => wseq W H fu R.pre { n := H.n, t := fun i => us.getD i und, al := fun _ => false, nc := 0, ng := 0, m := H.m } (fun ws4 =>
      match flat (.c (.sl τ.q0)) (ws4.t g.sa), flat (.c (.sl τ.q1)) (ws4.t g.sb), hpack H.n H.m ws4 g.h with
      | some [wa], some [wb], some s => match unc (.sl τ.q0) wa, unc (.sl τ.q1) wb with
        | some l0, some l1 => if (List.range H.n).all (fun i => known (ws4.t i)) = true then
            (IT l0 l1).bind fun xs => wrange W H fu R.assign R.body R.p1 R.p2 τ.r1 τ.r2 g.h xs s (fun s => match hunpack H.n H.m g.h s with
              | some ws6 => wseq W H fu R.post ws6 (fun ws => wret W ws res rs) (onRetW fun ws => wret W ws res rs)
              | none => none) (fun s => match hunpack H.n H.m g.h s with
              | some ws6 => wret W ws6 res rs
              | none => none)
          else none
        | _, _ => none
      | _, _, _ => none) (onRetW fun ws => wret W ws res rs)
  | _ => none
/-- The call that makes the closure. -/
structure R5Ok (cfg : Cfg) (N : Nat) (R : RF) (g : RG) : Prop where
  run : ∀ (F : St) (rows0 rows1 : List (List AV)) (nl0 nl1 : Bool) (o0 o1 : V.Own), F.n = N → F.H = [] → F.t g.sa = .slice rows0 nl0 o0 → F.t g.sb = .slice rows1 nl1 o1 → ∃ F5 o0' o1', evC cfg R.r5 F = some (.normal, F5) ∧ F5.n = F.n ∧ F5.m = F.m ∧ F5.al = F.al ∧ F.c ≤ F5.c ∧ F5.H = [[.slice rows0 nl0 o0'], [.slice rows1 nl1 o1']] ∧ F5.ev (.tmp R.tg) = .fn (.func R.gf) [] [.hp 0 0, .hp 1 0] ∧
    (∀ i, i ≠ g.d1 → i ≠ g.d2 → i ≠ R.tg → F5.t i = F.t i) ∧ (∃ o, F5.t g.d1 = .slice rows0 nl0 o) ∧ (∃ o, F5.t g.d2 = .slice rows1 nl1 o)
def rgOk (H : Hs) (R : RF) (g : RG) : Bool := rangeOk g.h R.assign R.body R.p1 R.p2 && (hbox g.h).all (fun i => decide (i < H.n) && i != g.d1 && i != g.d2 && i != R.tg) && decide (R.tg < H.n) && decide (g.d1 < H.n) && decide (g.d2 < H.n) && decide (R.p1 < H.n) && decide (R.p2 < H.n)
theorem rf_fsound {W : WC} {cfg0 cfg : Cfg} {H : Hs} (hW : WOk W cfg0) {fn : Func} {R : RF} {g : RG} {τ : RT4} {IT : List (Tr τ.q0) → List (Tr τ.q1) → Option (List (Tr τ.r1 × Tr τ.r2))} {iter : List AV → List AV → Option (List (AV × AV))} {a rs : List SV} (Fn : Tl (dynL a) → Option (Tl (dynL rs))) (fu : Nat)
    (hext : cfg.ext R.f = some (rfRun cfg0 fn R iter)) (hn : H.n = fn.ntmps) (hl : Nat.ble a.length fn.ntmps = true) (hm : ∀ t, cfg0.heap R.f t = H.m.contains t) (hok : rgOk H R g = true) (hf1 : flatRT τ.r1 = true) (hf2 : flatRT τ.r2 = true)
    (h5 : R5Ok cfg0 H.n R g) (hit : ∀ l0 l1 xs rows0 rows1 nl0 nl1 o0 o1, IT l0 l1 = some xs → (All2 (rowR τ.q0) l0 rows0 ∧ (nl0 = true → rows0 = [])) → (All2 (rowR τ.q1) l1 rows1 ∧ (nl1 = true → rows1 = [])) → iter [.slice rows0 nl0 o0] [.slice rows1 nl1 o1] = some (xs.map (enc2 τ.r1 τ.r2)))
    (hF : ∀ x, Fn x = wrf W H fu R g τ IT fn.results.toList a rs x) : FSound cfg ⟨⟨R.f, a, rs⟩, Fn⟩ := by
  intro x y hxy as ha
  have hxy : Fn x = some y := hxy
  rw [hF] at hxy
  obtain ⟨us, hfill, hus⟩ := ha
  have hfill : fillL a (unpackL (dynL a) x) = some (us, []) := hfill
  unfold wrf at hxy
  rw [hfill] at hxy
  simp only at hxy
  have hlen : as.length ≤ fn.ntmps := by
    rw [← hus.len, fillL_len _ _ _ _ hfill]
    simpa using hl
  simp only [rgOk, Bool.and_eq_true, decide_eq_true_eq, List.all_eq_true, bne_iff_ne, ne_eq] at hok
  obtain ⟨⟨⟨⟨⟨⟨k1, k2⟩, k3⟩, k4⟩, k5⟩, k6⟩, k7⟩ := hok
  have hr0 : StR { n := H.n, t := fun i => us.getD i und, al := fun _ => false, nc := 0, ng := 0, m := H.m } ⟨fn.ntmps, argAt as, 0, fun _ => false, [], cfg0.heap R.f⟩ 0 :=
    ⟨fun _ => none, fun _ => none, hn.symm, rfl, hm, fun i => getD_R hus i (fun _ => trivial), fun c i h => (by cases h), fun c c' i h => (by cases h), fun _ _ => rfl, fun _ _ => rfl⟩
  have fin : ∀ {ws : WS} {F : St}, StR ws F F.c → wret W ws fn.results.toList rs = some y → ∃ v, finA cfg0 fn F = some v ∧ ResR rs y v := by
    rintro ws F ⟨θ, γ, hr⟩ hw
    obtain ⟨vs, q1, q2, q3⟩ := wret_R hr hw
    refine ⟨_, ?_, q3⟩
    unfold finA
    rw [hW.P, q1]
    simp only [Option.bind_some, q2, hr.H]
    rfl
  have finx : ∀ {x : X} {ws : WS} {F : St}, StR ws F F.c → onRetW (fun ws => wret W ws fn.results.toList rs) x ws = some y → ∃ v, onRet (finA cfg0 fn) x F = some v ∧ ResR rs y v := by
    intro x ws F hr hw
    cases x <;> simp only [onRetW] at hw <;> first | (cases hw; done) | skip
    exact fin hr hw
  suffices h : ∃ v, rfRun cfg0 fn R iter as = some v ∧ ResR rs y v by
    obtain ⟨v, h1, h2⟩ := h
    exact ⟨v, by unfold callQ; rw [hext]; exact h1, h2⟩
  unfold rfRun
  rw [if_pos hlen]
  refine wseq_sound hW R.pre hr0 hxy (fun ws4 F4 r4 q4 => ?_) fun x ws' F' hne hr hw => finx hr hw
  split at q4
  · rename_i wa wb s e1 e2 e3
    split at q4
    · rename_i l0 l1 u0 u1
      split at q4
      · rename_i hkn
        obtain ⟨xs, hxs, q4⟩ := Option.bind_eq_some_iff.1 q4
        obtain ⟨ws', p1, p2⟩ := hrepack r4 e3
        obtain ⟨θ, γ, rl⟩ := r4
        have hn4 : F4.n = H.n := by obtain ⟨θ', γ', r'⟩ := p2; rw [r'.n]; exact (hunpack_nm p1).1
        have hwn : ws4.n = H.n := by rw [← rl.n, hn4]
        simp only [flat] at e1 e2
        cases e1
        cases e2
        obtain ⟨rows0, nl0, o0, a0, b0⟩ := unc_R (.sl τ.q0) _ l0 _ u0 (rl.t g.sa)
        obtain ⟨rows1, nl1, o1, a1, b1⟩ := unc_R (.sl τ.q1) _ l1 _ u1 (rl.t g.sb)
        obtain ⟨F5, o0', o1', v1, v2, v3, v4, v5, v6, v7, v8, ⟨oo0, v9⟩, ⟨oo1, v10⟩⟩ := h5.run F4 rows0 rows1 nl0 nl1 o0 o1 hn4 rl.H a0 a1
        rw [v1]
        simp only [Option.bind_some, if_true]
        unfold rangedRun
        rw [v6]
        simp only
        have n0 : ∀ {o : V.Own}, NoHp (.slice rows0 nl0 o) := fun {o} => noHp_slice (rows_noHp _ _ _ b0.1)
        have n1 : ∀ {o : V.Own}, NoHp (.slice rows1 nl1 o) := fun {o} => noHp_slice (rows_noHp _ _ _ b1.1)
        rw [if_pos ⟨v7, by intro x hx; simp at hx; subst hx; exact n0, by intro x hx; simp at hx; subst hx; exact n1, by omega, by omega, by omega, (fun i hi hne => by
          by_cases i1 : i = g.d1
          · subst i1; rw [v9]; exact n0
          · by_cases i2 : i = g.d2
            · subst i2; rw [v10]; exact n1
            · rw [v8 i i1 i2 hne]
              exact known_B (List.all_eq_true.1 hkn i (List.mem_range.2 (by omega))) (rl.t i))⟩]
        · rw [hit l0 l1 xs rows0 rows1 nl0 nl1 o0' o1' hxs b0 b1]
          simp only [Option.bind_some]
          have hr5 : StR ws' (F5.sansH R.tg R.gf) (F5.sansH R.tg R.gf).c := by
            obtain ⟨θ', γ', r'⟩ := p2
            refine ⟨θ', γ', v2.trans r'.n, rfl, fun t => by show F5.m t = _; rw [v3]; exact r'.m t, fun i => ?_, fun c i h1 h2 => Nat.lt_of_lt_of_le (r'.b c i h1 h2) v5, r'.i, r'.f, r'.g⟩
            show WR (ownR ws'.al F5.al θ') γ' (ws'.t i) (if i < F5.n then upd F5.t R.tg (clo R.gf) i else V.und)
            simp only [rangeOk, Bool.and_eq_true] at k1
            rcases hunpack_box k1.1 p1 i with ⟨e, _⟩ | ⟨hi, gg, cs, e⟩
            · rw [e]; exact .top _
            · obtain ⟨⟨⟨z1, z2⟩, z3⟩, z4⟩ := k2 i hi
              rw [if_pos (by omega), upd_ne _ _ _ _ z4, v8 i z2 z3 z4, v4]
              exact r'.t i
          obtain ⟨x6, F6, c1, s6, ws6, c2, c3, c4⟩ := wrange_sound hW k1 hf1 hf2 xs p1 hr5 q4
          rw [c1]
          simp only [Option.bind_some]
          rcases c4 with ⟨rfl, c4⟩ | ⟨rfl, c4⟩
          · rw [if_pos (.inl rfl)]
            rw [c2] at c4
            exact wseq_sound hW R.post c3 c4 (fun ws7 F7 r7 q7 => fin r7 q7) fun x ws' F' hne hr hw => finx hr hw
          · rw [if_neg (by rintro (e | e) <;> cases e)]
            rw [c2] at c4
            exact fin c3 c4
      · cases q4
    · cases q4
  · cases q4
end Go.Proofs.W
namespace Go.Proofs.W
open Go Go.Proofs.V
set_option linter.unusedVariables false
set_option linter.unusedSimpArgs false
abbrev ItR (τ : RT4) : Type := Option (Tr τ.r1 × Tr τ.r2 × List (Tr τ.q0) × List (Tr τ.q1))
/-- The parts of an iterator. -/
structure IG where
  gf : Nat
  i0 : Nat
  i1 : Nat
  id : Nat
  dy : Nat
  dn : Nat
  tf : Nat
  x1 : Nat
  x2 : Nat
  A : Code
  B : Code
  C : Code
  ops : Array Oper
  om : Oper
  pre : List Oper
  oy : Oper
  on : Oper
def itW (H : Hs) (τ : RT4) (l0 : List (Tr τ.q0)) (l1 : List (Tr τ.q1)) : WS :=
  { n := H.n, t := fun i => if i = 1 then .box 1 [.sl τ.q0 l0 .no] else if i = 2 then .box 2 [.sl τ.q1 l1 .no] else .top, al := fun _ => false, nc := 0, ng := 3, m := H.m }
def itPack (τ : RT4) (n x1 x2 : Nat) (ws : WS) : Option (ItR τ) :=
  if ws.n = n then match ws.t 1, ws.t 2, ws.tmp x1, ws.tmp x2 with
  | .box _ [w0], .box _ [w1], .agg c1, .agg c2 => match unc (.sl τ.q0) w0, unc (.sl τ.q1) w1, unrow τ.r1 c1, unrow τ.r2 c2 with
    | some l0, some l1, some e1, some e2 => some (some (e1, e2, l0, l1))
    | _, _, _, _ => none
  | _, _, _, _ => none
  else none
/-- One round of it. -/
def witer (W : WC) (H : Hs) (fu : Nat) (g : IG) (τ : RT4) (l0 : List (Tr τ.q0)) (l1 : List (Tr τ.q1)) : Option (ItR τ) :=
  wcode W H fu g.A (itW H τ l0 l1) fun x ws => match x with
    | .exit i => if i = g.i0 ∧ ws.n = H.n ∧ isBx (ws.t 1) = true ∧ isBx (ws.t 2) = true then some none else none
    | .normal => wcode W H fu g.B ws fun x ws => match x with
      | .normal => wcode W H fu g.C ws fun x ws => match x with
        | .normal => wops W false [] g.ops (g.om :: g.pre) ws fun ws => itPack τ H.n g.x1 g.x2 ws
        | _ => none
      | _ => none
    | _ => none
def itAll {τ : RT4} (step : List (Tr τ.q0) → List (Tr τ.q1) → Option (ItR τ)) : Nat → List (Tr τ.q0) → List (Tr τ.q1) → Option (List (Tr τ.r1 × Tr τ.r2))
  | 0, _, _ => none
  | n + 1, l0, l1 => (step l0 l1).bind fun q => match q with
    | none => some []
    | some (e1, e2, l0', l1') => (itAll step n l0' l1').map fun r => (e1, e2) :: r
def itRun {τ : RT4} (step : List (Tr τ.q0) → List (Tr τ.q1) → Option (ItR τ)) (l0 : List (Tr τ.q0)) (l1 : List (Tr τ.q1)) : Option (List (Tr τ.r1 × Tr τ.r2)) := itAll step (l0.length + l1.length + 1) l0 l1
/-- What it hands over, out of its two cells. -/
def itIter {τ : RT4} (step : List (Tr τ.q0) → List (Tr τ.q1) → Option (ItR τ)) : List AV → List AV → Option (List (AV × AV))
  | [.slice rows0 nl0 _], [.slice rows1 nl1 _] => if ((!nl0 || rows0.isEmpty) && (!nl1 || rows1.isEmpty)) = true then match decL τ.q0 rows0, decL τ.q1 rows1 with
    | some l0, some l1 => (itRun step l0 l1).map fun xs => xs.map (enc2 τ.r1 τ.r2)
    | _, _ => none
    else none
  | _, _ => none
theorem decL_R (r : RT) (hf : flatRT r = true) : ∀ (rows : List (List AV)) (l : List (Tr r)), decL r rows = some l → All2 (rowR r) l rows
  | [], l, h => by cases h; trivial
  | row :: rows, l, h => by
    simp only [decL, Option.bind_eq_some_iff, Option.map_eq_some_iff] at h
    obtain ⟨x, h1, y, h2, rfl⟩ := h
    exact ⟨dec_R r row x hf h1, decL_R r hf rows y h2⟩
theorem encR_at : ∀ (r : RT) (x : Tr r), ∀ y ∈ encR r x, ∃ v, y = .at v
  | .one c, x, y, hy => by
    simp only [encR, List.mem_singleton] at hy
    subst hy
    cases c <;> exact ⟨_, rfl⟩
  | .cons c r, x, y, hy => by
    simp only [encR, List.mem_cons] at hy
    rcases hy with rfl | hy
    · cases c <;> exact ⟨_, rfl⟩
    · exact encR_at r x.2 y hy
theorem encR_noId (r : RT) (x : Tr r) : NoId (.agg (encR r x)) := by
  rintro n ⟨y, hy, rows, nl, rfl⟩
  obtain ⟨v, hv⟩ := encR_at r x _ hy
  cases hv
theorem move_run {cfg : Cfg} {K : KF} {ds : List Nat} {lab : Nat} {o : Oper} {F F' : St} {j d l : Nat} (ho : o.op = .move (.tmp j)) (hd : o.dst = some d) (hF : F.t j = .fn (.yield l) [] []) (h : opRun cfg K false ds lab o F = some F') : F'.t d = .fn (.yield l) [] [] := by
  have hev : F.ev (.tmp j) = .fn (.yield l) [] [] := by
    show F.tmp j = _
    unfold St.tmp
    rw [hF]
  have hev' : F.tmp j = .fn (.yield l) [] [] := hev
  unfold opRun at h
  rw [ho] at h
  simp only [allocH] at h
  unfold opRunV at h
  rw [ho, hd] at h
  simp only [quiet, hev, hev', Option.bind_some] at h
  simp only [St.put] at h
  split at h
  · cases h
    simp only [upd_apply, if_true]
  · cases h
def igBody (g : IG) : Code := .block g.i0 (.loop (.seq g.A (.block g.i1 (.seq g.B (.seq g.C (.seq (.region g.id g.ops false) (.cond (.tmp g.dn) .ret .skip)))))))
/-- What can be told of its text. -/
def igOk (g : IG) (n : Nat) : Bool :=
  codeOk g.A && codeOk g.B && codeOk g.C && g.pre.all (fun o => o.dst.isSome || isStore o.op) && g.om.dst.isSome && g.oy.guard.isNone && g.on.guard.isNone && g.om.guard.isNone && decide (3 ≤ n) && decide (3 ≤ g.dy) && decide (g.dy < n) && decide (3 ≤ g.dn) && decide (g.dn < n) && decide (g.om.dst = some g.tf) && decide (g.tf < n) && decide (g.x1 < n) && decide (g.x2 < n) &&
  [0, 1, 2].all (fun i => !(dsts g.A).contains i && !(dsts g.B).contains i && !(dsts g.C).contains i && !(dstsOps (g.om :: g.pre)).contains i) && !(dstsOps g.pre).contains g.tf
theorem itW_R {H : Hs} {τ : RT4} {l0 : List (Tr τ.q0)} {l1 : List (Tr τ.q1)} {rows0 rows1 : List (List AV)} {nl0 nl1 : Bool} {o0 o1 : V.Own} {n l : Nat} {m : TypeId → Bool} {v : Nat → Value} (hn : H.n = n) (hm : ∀ t, m t = H.m.contains t) (h0 : All2 (rowR τ.q0) l0 rows0 ∧ (nl0 = true → rows0 = [])) (h1 : All2 (rowR τ.q1) l1 rows1 ∧ (nl1 = true → rows1 = [])) :
    StR (itW H τ l0 l1) (itF n m l [.slice rows0 nl0 o0] [.slice rows1 nl1 o1] v) (itF n m l [.slice rows0 nl0 o0] [.slice rows1 nl1 o1] v).c := by
  refine ⟨fun _ => none, fun g => if g = 1 then some 0 else if g = 2 then some 1 else none, hn.symm, rfl, hm, fun i => ?_, fun c i h => (by cases h), fun c c' i h => (by cases h), fun _ _ => rfl, fun g hg => ?_⟩
  · simp only [itW, itF]
    by_cases e1 : i = 1
    · subst e1
      simp only [if_true, Nat.one_ne_zero, if_false]
      exact .box 1 0 (by simp) _ _ rfl fun j x a hx ha => by
        match j, hx, ha with
        | 0, hx, ha => cases hx; cases ha; exact .sl _ _ _ _ _ _ h0 trivial (fun _ e => by cases e)
        | j + 1, hx, ha => simp at hx
    · by_cases e2 : i = 2
      · subst e2
        show WR _ _ (.box 2 [.sl τ.q1 l1 .no]) (.box 1 [.slice rows1 nl1 o1])
        exact .box 2 1 (by simp) _ _ rfl fun j x a hx ha => by
          match j, hx, ha with
          | 0, hx, ha => cases hx; cases ha; exact .sl _ _ _ _ _ _ h1 trivial (fun _ e => by cases e)
          | j + 1, hx, ha => simp at hx
      · simp only [e1, e2, if_false]
        exact .top _
  · have : 3 ≤ g := hg
    show (if g = 1 then some 0 else if g = 2 then some 1 else none) = none
    rw [if_neg (by omega), if_neg (by omega)]
theorem iter_typed {W : WC} {cfg : Cfg} {H : Hs} (hW : WOk W cfg) (hmix : cfg.P.follows .mixedOrders = true) (hx : ∀ g s as r, cfg.ext g = some s → s as = some r → CSound cfg.P g as [] r []) {fn : Func} {g : IG} {τ : RT4} (step : List (Tr τ.q0) → List (Tr τ.q1) → Option (ItR τ)) (fu : Nat)
    (hf : cfg.P.funcs[g.gf]? = some fn) (hb : fn.body = some (igBody g)) (hres : fn.results = #[]) (hn : H.n = fn.ntmps) (hm : ∀ t, cfg.heap g.gf t = H.m.contains t) (hops : g.ops.toList = (g.om :: g.pre) ++ [g.oy, g.on]) (hok : igOk g fn.ntmps = true)
    {ty : TypeId} {tys : Array TypeId} (hom : g.om.op = .move (.tmp 0)) (hoy : g.oy.op = .call { callee := .value (.tmp g.tf), args := #[.tmp g.x1, .tmp g.x2], argTypes := tys }) (doy : g.oy.dst = some g.dy) (hon : g.on.op = .unOp .not ty (.tmp g.dy)) (don : g.on.dst = some g.dn)
    (f0 : flatRT τ.q0 = true) (f1 : flatRT τ.q1 = true) (f2 : flatRT τ.r1 = true) (f3 : flatRT τ.r2 = true) (hstep : ∀ l0 l1, step l0 l1 = witer W H fu g τ l0 l1) {cs0 cs1 : List AV} {xsA : List (AV × AV)} (hit : itIter step cs0 cs1 = some xsA) : IterOk cfg.P g.gf cs0 cs1 xsA := by
  simp only [igOk, Bool.and_eq_true, decide_eq_true_eq, List.all_eq_true, Bool.not_eq_true'] at hok
  obtain ⟨⟨⟨⟨⟨⟨⟨⟨⟨⟨⟨⟨⟨⟨⟨⟨⟨⟨c1, c2⟩, c3⟩, c4⟩, c5⟩, c6⟩, c7⟩, c8⟩, c9⟩, c10⟩, c11⟩, c12⟩, c13⟩, c14⟩, c15⟩, c16⟩, c17⟩, c18⟩, c19⟩ := hok
  have hst : ∀ i, i < 3 → (dsts g.A).contains i = false ∧ (dsts g.B).contains i = false ∧ (dsts g.C).contains i = false ∧ (dstsOps (g.om :: g.pre)).contains i = false := by
    intro i hi
    have : i ∈ [0, 1, 2] := by
      match i, hi with
      | 0, _ => simp
      | 1, _ => simp
      | 2, _ => simp
    obtain ⟨⟨⟨q1, q2⟩, q3⟩, q4⟩ := c18 i this
    exact ⟨q1, q2, q3, q4⟩
  -- the two cells
  obtain ⟨rows0, nl0, o0, rows1, nl1, o1, l0, l1, xs, rfl, rfl, d0, d1, hxs, rfl⟩ : ∃ rows0 nl0 o0 rows1 nl1 o1 l0 l1 xs, cs0 = [.slice rows0 nl0 o0] ∧ cs1 = [.slice rows1 nl1 o1] ∧ (All2 (rowR τ.q0) l0 rows0 ∧ (nl0 = true → rows0 = [])) ∧ (All2 (rowR τ.q1) l1 rows1 ∧ (nl1 = true → rows1 = [])) ∧ itRun step l0 l1 = some xs ∧ xsA = xs.map (enc2 τ.r1 τ.r2) := by
    unfold itIter at hit
    split at hit
    · rename_i rows0 nl0 o0 rows1 nl1 o1
      split at hit
      rotate_left
      · cases hit
      rename_i hnl
      simp only [Bool.and_eq_true, Bool.or_eq_true, Bool.not_eq_true', List.isEmpty_iff] at hnl
      split at hit
      · rename_i l0 l1 e0 e1
        simp only [Option.map_eq_some_iff] at hit
        obtain ⟨xs, h1, rfl⟩ := hit
        exact ⟨_, _, _, _, _, _, l0, l1, xs, rfl, rfl, ⟨decL_R _ f0 _ _ e0, fun e => hnl.1.resolve_left (by rw [e]; intro h; cases h)⟩, ⟨decL_R _ f1 _ _ e1, fun e => hnl.2.resolve_left (by rw [e]; intro h; cases h)⟩, h1, rfl⟩
      · cases hit
    · cases hit
  let T : Nat → List AV → List AV → Prop := fun k c0 c1 => ∃ rows0 nl0 o0 rows1 nl1 o1 l0 l1 m, c0 = [.slice rows0 nl0 o0] ∧ c1 = [.slice rows1 nl1 o1] ∧ (All2 (rowR τ.q0) l0 rows0 ∧ (nl0 = true → rows0 = [])) ∧ (All2 (rowR τ.q1) l1 rows1 ∧ (nl1 = true → rows1 = [])) ∧ itAll step m l0 l1 = some (xs.drop k)
  have strip_sl : ∀ (rows : List (List AV)) (nl : Bool) (o : V.Own), ∃ o', strip1 (.slice rows nl o) = .slice rows nl o' := by
    intro rows nl o
    cases o <;> exact ⟨_, rfl⟩
  have hT0 : T 0 ([AV.slice rows0 nl0 o0].map strip1) ([AV.slice rows1 nl1 o1].map strip1) := by
    obtain ⟨o0', e0⟩ := strip_sl rows0 nl0 o0
    obtain ⟨o1', e1⟩ := strip_sl rows1 nl1 o1
    exact ⟨rows0, nl0, o0', rows1, nl1, o1', l0, l1, _, by simp [e0], by simp [e1], d0, d1, by rw [List.drop_zero]; exact hxs⟩
  have f_t0 : ∀ {l : Nat} {c0 c1 : List AV} {v : Nat → Value}, (itF fn.ntmps (cfg.heap g.gf) l c0 c1 v).t 0 = .fn (.yield l) [] [] := rfl
  have f_t1 : ∀ {l : Nat} {c0 c1 : List AV} {v : Nat → Value}, (itF fn.ntmps (cfg.heap g.gf) l c0 c1 v).t 1 = .box 0 c0 := rfl
  have f_t2 : ∀ {l : Nat} {c0 c1 : List AV} {v : Nat → Value}, (itF fn.ntmps (cfg.heap g.gf) l c0 c1 v).t 2 = .box 1 c1 := rfl
  -- where the slots are
  have outs : ∀ {F F' : St} {l g0 g1 : Nat} {k0 k1 : List AV} {ds : List Nat} {ws : WS} {B : Nat}, StayG ds F F' → (∀ i, i < 3 → ds.contains i = false) → F.t 0 = .fn (.yield l) [] [] → F.t 1 = .box g0 k0 → F.t 2 = .box g1 k1 → ws.n = H.n → isBx (ws.t 1) = true → isBx (ws.t 2) = true → StR ws F' B → F'.n = fn.ntmps ∧ F'.H = [] ∧ F'.t 0 = .fn (.yield l) [] [] ∧ (∃ k0', F'.t 1 = .box g0 k0') ∧ ∃ k1', F'.t 2 = .box g1 k1' := by
    rintro F F' l g0 g1 k0 k1 ds ws B hs hd q0 q1 q2 hwn b1 b2 ⟨θ, γ, hr⟩
    have w1 := hr.t 1
    have w2 := hr.t 2
    have nb : ∀ {w : WV} {a : AV}, isBx w = true → WR (ownR ws.al F'.al θ) γ w a → ∃ g cs, a = .box g cs := by
      intro w a hb hw
      cases hw <;> first | (cases hb; done) | exact ⟨_, _, rfl⟩
    obtain ⟨x1, y1, e1⟩ := nb b1 w1
    obtain ⟨x2, y2, e2⟩ := nb b2 w2
    refine ⟨by rw [hr.n, hwn, hn], hr.H, ?_, ?_, ?_⟩
    · rw [(hs 0 (hd 0 (by omega))).1 (by unfold NB; rw [q0]; intro g cs e; cases e), q0]
    · rcases (hs 1 (hd 1 (by omega))).2 _ _ q1 with hn | hc
      · exact absurd e1 (hn _ _)
      · exact hc
    · rcases (hs 2 (hd 2 (by omega))).2 _ _ q2 with hn | hc
      · exact absurd e2 (hn _ _)
      · exact hc
  have hlen : (xs.map (enc2 τ.r1 τ.r2)).length = xs.length := by simp
  have app : ∀ {a b : List Nat} {i : Nat}, a.contains i = false → b.contains i = false → (a ++ b).contains i = false := by
    intro a b i h1 h2
    simp only [List.contains_eq_mem, List.mem_append, decide_eq_false_iff_not, not_or] at h1 h2 ⊢
    exact ⟨h1, h2⟩
  refine iter_ok hmix hx hf hb c9 hres c1 c2 c3 hops (fun o ho => ?_) (by simpa using c6) (by simpa using c7) hoy doy hon don c10 c11 c12 c13 T hT0 ?_ ?_
  · rcases List.mem_cons.1 ho with rfl | ho
    · exact .inl c5
    · have := c4 o ho
      simp only [Bool.or_eq_true] at this
      exact this
  · -- the last
    rintro k0 k1 l v ⟨rows0, nl0, o0, rows1, nl1, o1, l0, l1, m, rfl, rfl, d0, d1, hall⟩
    rw [hlen, List.drop_length] at hall
    cases m with
    | zero => cases hall
    | succ m =>
      rw [itAll] at hall
      obtain ⟨q, hq, hall⟩ := Option.bind_eq_some_iff.1 hall
      cases q with
      | some p => obtain ⟨z1, z2, z3, z4⟩ := p; simp only [Option.map_eq_some_iff] at hall; obtain ⟨r, _, h⟩ := hall; cases h
      | none =>
        rw [hstep] at hq
        refine aw_stayG (wcode_sound hW fu g.A (itW_R hn hm d0 d1) hq fun x ws F q1 q2 q3 => ?_)
        cases x with
        | exit i =>
          simp only at q2
          split at q2
          · rename_i hc
            obtain ⟨rfl, w1, w2, w3⟩ := hc
            obtain ⟨r1, r2, r3, ⟨k0', r4⟩, k1', r5⟩ := outs q3 (fun i hi => (hst i hi).1) rfl rfl rfl w1 w2 w3 q1
            exact ⟨rfl, k0', k1', r1, r2, r3, r4, r5⟩
          · cases q2
        | normal =>
          exfalso
          have : Aw cfg g.B F fun _ _ => False := by
            refine wcode_sound hW fu g.B q1 q2 fun x ws F q1 q2 => ?_
            cases x <;> simp only at q2 <;> first | (cases q2; done) | skip
            have : Aw cfg g.C F fun _ _ => False := by
              refine wcode_sound hW fu g.C q1 q2 fun x ws F q1 q2 => ?_
              cases x <;> simp only at q2 <;> first | (cases q2; done) | skip
              have : Ow cfg false [] g.ops (g.om :: g.pre) F.c F fun _ => False := by
                refine wops_sound hW _ q1 q2 fun ws F q1 _ q2 => ?_
                unfold itPack at q2
                repeat' split at q2
                all_goals cases q2
              obtain ⟨_, _, h⟩ := this
              exact h
            obtain ⟨_, _, _, h⟩ := this
            exact h
          obtain ⟨_, _, _, h⟩ := this
          exact h
        | goto i => cases q2
        | ret => cases q2
  · -- one more
    rintro k e1 e2 k0 k1 l v hxk ⟨rows0, nl0, o0, rows1, nl1, o1, l0, l1, m, rfl, rfl, d0, d1, hall⟩
    rw [List.getElem?_map] at hxk
    simp only [Option.map_eq_some_iff] at hxk
    obtain ⟨⟨y1, y2⟩, hxk, he⟩ := hxk
    cases he
    have hlt : k < xs.length := (List.getElem?_eq_some_iff.1 hxk).1
    have hdr : xs.drop k = (y1, y2) :: xs.drop (k + 1) := by
      rw [List.drop_eq_getElem_cons hlt]
      congr 1
      exact (List.getElem?_eq_some_iff.1 hxk).2
    rw [hdr] at hall
    cases m with
    | zero => cases hall
    | succ m =>
      rw [itAll] at hall
      obtain ⟨q, hq, hall⟩ := Option.bind_eq_some_iff.1 hall
      cases q with
      | none => cases hall
      | some p =>
        obtain ⟨z1, z2, l0', l1'⟩ := p
        simp only [Option.map_eq_some_iff] at hall
        obtain ⟨r, hr, h⟩ := hall
        cases h
        rw [hstep] at hq
        refine aw_stayG (wcode_sound hW fu g.A (itW_R hn hm d0 d1) hq fun x wsA FA q1 q2 q3 => ?_)
        cases x with
        | exit i => simp only at q2; split at q2 <;> cases q2
        | goto i => cases q2
        | ret => cases q2
        | normal =>
        refine ⟨rfl, aw_stayG (wcode_sound hW fu g.B q1 q2 fun x wsB FB q4 q5 q6 => ?_)⟩
        cases x <;> simp only at q5 <;> first | (cases q5; done) | skip
        refine ⟨rfl, aw_stayG (wcode_sound hW fu g.C q4 q5 fun x wsC FC q7 q8 q9 => ?_)⟩
        cases x <;> simp only at q8 <;> first | (cases q8; done) | skip
        refine ⟨rfl, ?_⟩
        obtain ⟨F4, hrun, ws4, hr4, hp4⟩ : Ow cfg false [] g.ops (g.om :: g.pre) FC.c FC fun F4 => ∃ ws4, StR ws4 F4 (FC.c + 64 * (g.om :: g.pre).length) ∧ itPack τ H.n g.x1 g.x2 ws4 = some (some (y1, y2, l0', l1')) := wops_sound hW _ q7 q8 fun ws F a _ b => ⟨ws, a, b⟩
        refine ⟨F4, hrun, ?_⟩
        have sO := ops_stayG _ hrun
        have sAll : StayG (dsts g.A ++ (dsts g.B ++ (dsts g.C ++ dstsOps (g.om :: g.pre)))) (itF fn.ntmps (cfg.heap g.gf) l [.slice rows0 nl0 o0] [.slice rows1 nl1 o1] v) F4 :=
          (q3.mono fun i hi => (contains_app hi).1).trans ((q6.mono fun i hi => (contains_app (contains_app hi).2).1).trans ((q9.mono fun i hi => (contains_app (contains_app (contains_app hi).2).2).1).trans (sO.mono fun i hi => (contains_app (contains_app (contains_app hi).2).2).2)))
        have hd : ∀ i, i < 3 → (dsts g.A ++ (dsts g.B ++ (dsts g.C ++ dstsOps (g.om :: g.pre)))).contains i = false := fun i hi => by
          obtain ⟨s1, s2, s3, s4⟩ := hst i hi
          exact app s1 (app s2 (app s3 s4))
        -- what has been packed
        unfold itPack at hp4
        split at hp4
        · rename_i hwn
          split at hp4
          · rename_i g0 w0 g1 w1 a1 a2 m1 m2 m3 m4
            split at hp4
            · rename_i u0 u1 u2 u3 b0 b1 b2 b3
              cases hp4
              obtain ⟨r1, r2, r3, ⟨k0', r4⟩, k1', r5⟩ := outs sAll hd rfl rfl rfl hwn (by rw [m1]; rfl) (by rw [m2]; rfl) hr4
              obtain ⟨θ, γ, rl⟩ := hr4
              have t1 := rl.t 1
              have t2 := rl.t 2
              rw [m1, r4] at t1
              rw [m2, r5] at t2
              have one : ∀ {γ' : Nat → Option Nat} {O : WO → V.Own → Prop} {g g' : Nat} {w : WV} {cs : List AV}, WR O γ' (.box g [w]) (.box g' cs) → ∃ a, cs = [a] ∧ WR O γ' w a := by
                intro γ' O g g' w cs hw
                cases hw with
                | box _ _ _ _ _ hl h =>
                  rcases cs with _ | ⟨a, _ | ⟨b, cs⟩⟩ <;> simp at hl
                  exact ⟨a, rfl, h 0 w a rfl rfl⟩
              obtain ⟨a0, rfl, t1'⟩ := one t1
              obtain ⟨a1', rfl, t2'⟩ := one t2
              obtain ⟨rows0', nl0', o0', rfl, d0'⟩ := unc_R (.sl τ.q0) _ _ _ b0 t1'
              obtain ⟨rows1', nl1', o1', rfl, d1'⟩ := unc_R (.sl τ.q1) _ _ _ b1 t2'
              have ev1 := tmp_R rl g.x1
              have ev2 := tmp_R rl g.x2
              rw [m3] at ev1
              rw [m4] at ev2
              have aggs : ∀ {γ' : Nat → Option Nat} {O : WO → V.Own → Prop} {cs : List WV} {a : AV}, WR O γ' (.agg cs) a → ∃ as, a = .agg as ∧ WRL O γ' cs as := by
                intro γ' O cs a hw
                cases hw with
                | agg _ as hl h => exact ⟨as, rfl, wrl_of hl h⟩
              obtain ⟨as1, ev1, v1⟩ := aggs ev1
              obtain ⟨as2, ev2, v2⟩ := aggs ev2
              have en1 := encR_R _ _ _ f2 (unrow_R _ _ _ _ b2 v1)
              have en2 := encR_R _ _ _ f3 (unrow_R _ _ _ _ b3 v2)
              subst en1 en2
              obtain ⟨o0'', e0⟩ := strip_sl rows0' nl0' o0'
              obtain ⟨o1'', e1⟩ := strip_sl rows1' nl1' o1'
              refine ⟨?_, ev1, ev2, rfl, rfl, encR_noId _ _, encR_noId _ _, _, _, ⟨r1, r2, r3, r4, r5⟩, rows0', nl0', o0'', rows1', nl1', o1'', _, _, m, by simp [e0], by simp [e1], d0', d1', hr⟩
              -- yield itself
              rw [opsRun] at hrun
              obtain ⟨w, hg, hrun2⟩ := Option.bind_eq_some_iff.1 hrun
              obtain ⟨F3, h3, hrun3⟩ := Option.bind_eq_some_iff.1 hrun2
              have hgn : g.om.guard = none := by simpa using c8
              have hw : w = true := by
                unfold guardA at hg
                rw [hgn] at hg
                exact (Option.some.inj hg).symm
              subst hw
              have t0 : FC.t 0 = .fn (.yield l) [] [] := by
                have s3 := (q3.mono (ds' := dsts g.A ++ (dsts g.B ++ dsts g.C)) fun i hi => (contains_app hi).1).trans ((q6.mono fun i hi => (contains_app (contains_app hi).2).1).trans (q9.mono fun i hi => (contains_app (contains_app hi).2).2))
                obtain ⟨s1, s2, s3', s4⟩ := hst 0 (by omega)
                exact (s3 0 (app s1 (app s2 s3'))).1 (by intro g cs e; cases e)
              have tt := move_run hom c14 t0 h3
              have sp := ops_stayG _ hrun3 g.tf c19
              have : F4.t g.tf = .fn (.yield l) [] [] := by rw [sp.1 (by unfold NB; rw [tt]; intro g cs e; cases e), tt]
              show F4.tmp g.tf = _
              unfold St.tmp
              rw [this]
            · cases hp4
          · cases hp4
        · cases hp4
end Go.Proofs.W

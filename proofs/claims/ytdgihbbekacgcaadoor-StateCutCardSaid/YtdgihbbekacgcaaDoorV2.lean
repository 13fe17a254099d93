/- The evaluator's limit, and its equations. -/
import Derived.Test.YtdgihbbekacgcaaDoorV1
namespace Go.Proofs.V
open Go
set_option linter.unusedVariables false
set_option linter.unusedSimpArgs false

noncomputable def lim {α : Type} (g : Nat → Option α) : Option α :=
  @dite _ (∃ n x, g n = some x) (Classical.propDecidable _) (fun h => g (Classical.choose h)) (fun _ => none)

def Mono {α : Type} (g : Nat → Option α) : Prop := ∀ n x, g n = some x → g (n + 1) = some x
theorem Mono.le {α : Type} {g : Nat → Option α} (h : Mono g) {n m : Nat} (hnm : n ≤ m) {x : α} (hx : g n = some x) : g m = some x := by
  induction hnm with
  | refl => exact hx
  | step _ ih => exact h _ _ ih
theorem Mono.one {α : Type} {g : Nat → Option α} (h : Mono g) {n m : Nat} {x y : α} (hx : g n = some x) (hy : g m = some y) : x = y := by
  rcases Nat.le_total n m with hle | hle
  · have := h.le hle hx; rw [this] at hy; exact Option.some.inj hy
  · have := h.le hle hy; rw [this] at hx; exact (Option.some.inj hx).symm
theorem lim_some {α : Type} {g : Nat → Option α} (h : Mono g) {x : α} : lim g = some x ↔ ∃ n, g n = some x := by
  constructor
  · intro hx
    unfold lim at hx
    split at hx
    · exact ⟨_, hx⟩
    · cases hx
  · rintro ⟨n, hn⟩
    have hex : ∃ n x, g n = some x := ⟨n, x, hn⟩
    unfold lim
    rw [dif_pos hex]
    obtain ⟨y, hy⟩ := Classical.choose_spec hex
    rw [hy, h.one hy hn]

def LeC (e e' : CF) : Prop := ∀ c F r, e c F = some r → e' c F = some r
def LeK (K K' : KF) : Prop := ∀ f a H r, K f a H = some r → K' f a H = some r

theorem bind_mono {α β : Type} {a a' : Option α} {f f' : α → Option β} (ha : ∀ x, a = some x → a' = some x) (hf : ∀ x y, a = some x → f x = some y → f' x = some y) {y : β} (h : a.bind f = some y) : a'.bind f' = some y := by
  obtain ⟨x, hx, hy⟩ := Option.bind_eq_some_iff.1 h
  rw [ha x hx]
  exact hf x y hx hy

theorem callQ_mono {cfg : Cfg} {K K' : KF} (hK : LeK K K') {f : Nat} {a : List AV} {r : AV} (h : callQ cfg K f a = some r) : callQ cfg K' f a = some r := by
  unfold callQ at *
  split at h
  · rename_i s hs; exact h
  · rename_i hs
    split at h
    · rename_i r' H' hr
      rw [hK _ _ _ _ hr]
      exact h
    · cases h

theorem opRunV_mono {cfg : Cfg} {K K' : KF} (hK : LeK K K') {draw : Bool} {ds : List Nat} {lab : Nat} {o : Oper} {F F' : St} (h : opRunV cfg K draw ds lab o F = some F') : opRunV cfg K' draw ds lab o F = some F' := by
  unfold opRunV at *
  split at h
  · exact h
  · exact h
  · rename_i c hc
    (try dsimp only at h ⊢)
    split at h
    · exact h
    · exact h
    · rename_i f hf
      (try dsimp only at h ⊢)
      split at h
      · rename_i g first captured ht
        (try dsimp only at h ⊢)
        split at h
        · rename_i ha
          rw [if_pos ha]
          split at h
          · rename_i he
            rw [if_pos he]
            split at h
            · rename_i hd
              rw [if_pos hd]
              exact bind_mono (fun x hx => hK _ _ _ _ hx) (fun x y _ hy => hy) h
            · rename_i hd
              rw [if_neg hd]
              exact bind_mono (fun x hx => hK _ _ _ _ hx) (fun x y _ hy => hy) h
          · rename_i he
            rw [if_neg he]
            split at h
            · rename_i hH
              rw [if_pos hH]
              exact bind_mono (fun x hx => callQ_mono hK hx) (fun x y _ hy => hy) h
            · cases h
        · cases h
      · cases h
    · cases h
  · exact h

theorem opRun_mono {cfg : Cfg} {K K' : KF} (hK : LeK K K') {draw : Bool} {ds : List Nat} {lab : Nat} {o : Oper} {F F' : St} (h : opRun cfg K draw ds lab o F = some F') : opRun cfg K' draw ds lab o F = some F' := by
  unfold opRun at *
  cases ha : allocH cfg.P F o.op with
  | some p => simp only [ha] at h ⊢; exact h
  | none => simp only [ha] at h ⊢; exact opRunV_mono hK h

theorem opsRun_mono {cfg : Cfg} {K K' : KF} (hK : LeK K K') {draw : Bool} {ds : List Nat} {all : Array Oper} : ∀ (l : List Oper) (lab : Nat) (F F' : St), opsRun cfg K draw ds all l lab F = some F' → opsRun cfg K' draw ds all l lab F = some F'
  | [], _, _, _, h => h
  | o :: rest, lab, F, F', h => by
    unfold opsRun at *
    refine bind_mono (fun x hx => hx) (fun w y _ hy => ?_) h
    refine bind_mono (fun x hx => ?_) (fun F1 y _ hy => opsRun_mono hK rest _ _ _ hy) hy
    cases w
    · exact hx
    · exact opRun_mono hK hx

theorem loopRun_mono {g g' : St → Option (X × St)} (hg : ∀ F r, g F = some r → g' F = some r) : ∀ (m m' : Nat) (F : St) (r : X × St), m ≤ m' → loopRun g m F = some r → loopRun g' m' F = some r
  | 0, _, _, _, _, h => by simp [loopRun] at h
  | m + 1, 0, _, _, hm, _ => by omega
  | m + 1, m' + 1, F, r, hm, h => by
    unfold loopRun at *
    refine bind_mono (fun x hx => hg _ _ hx) (fun x y _ hy => ?_) h
    split at hy
    · exact loopRun_mono hg m m' _ _ (by omega) hy
    · exact hy

theorem codeStep_mono {cfg : Cfg} {e e' : CF} {K K' : KF} (he : LeC e e') (hK : LeK K K') {m m' : Nat} (hm : m ≤ m') : LeC (codeStep cfg e K m) (codeStep cfg e' K' m') := by
  intro c F r h
  cases c with
  | skip => exact h
  | label l => exact h
  | seq a b =>
    refine bind_mono (fun x hx => he _ _ _ hx) (fun x y _ hy => ?_) h
    split at hy
    · exact he _ _ _ hy
    · exact hy
  | cond c a b =>
    simp only [codeStep] at h ⊢
    split at h
    · rename_i t ht
      cases t
      · exact he _ _ _ h
      · exact he _ _ _ h
    · cases h
  | block id b =>
    simp only [codeStep, Option.map_eq_some_iff] at h ⊢
    obtain ⟨x, hx, hr⟩ := h
    exact ⟨x, he _ _ _ hx, hr⟩
  | loop b => exact loopRun_mono (fun F r h => he _ _ _ h) m m' F r hm h
  | exit id => exact h
  | goto l => exact h
  | ret => exact h
  | region id ops draw =>
    simp only [codeStep, regionRun, Option.map_eq_some_iff] at h ⊢
    obtain ⟨x, hx, hr⟩ := h
    exact ⟨x, opsRun_mono hK _ _ _ _ hx, hr⟩
  | scope b =>
    refine bind_mono (fun x hx => he _ _ _ hx) (fun x y _ hy => ?_) h
    split at hy
    · split at hy
      · refine bind_mono (fun x hx => he _ _ _ hx) (fun x y _ hy => hy) hy
      · cases hy
    · exact hy
  | rangeFunc f p a b => simp [codeStep] at h
  | refuse w => simp [codeStep] at h

theorem callStep_mono {cfg : Cfg} {e e' : CF} (he : LeC e e') : LeK (callStep cfg e) (callStep cfg e') := by
  intro f a H r h
  unfold callStep at *
  split at h
  · cases h
  · split at h
    · cases h
    · split at h
      · rename_i hl
        rw [if_pos hl]
        exact bind_mono (fun x hx => he _ _ _ hx) (fun x y _ hy => hy) h
      · cases h

theorem evN_mono (cfg : Cfg) : ∀ n, LeC (evN cfg n).1 (evN cfg (n + 1)).1 ∧ LeK (evN cfg n).2 (evN cfg (n + 1)).2
  | 0 => by constructor <;> (intro a b c; intros; rename_i h; cases h)
  | n + 1 => ⟨codeStep_mono (evN_mono cfg n).1 (evN_mono cfg n).2 (Nat.le_succ n), callStep_mono (evN_mono cfg n).1⟩
theorem evN_monoC (cfg : Cfg) (c : Code) (F : St) : Mono fun n => (evN cfg n).1 c F := fun n x h => (evN_mono cfg n).1 _ _ _ h
theorem evN_monoK (cfg : Cfg) (f : Nat) (a : List AV) (H : List (List AV)) : Mono fun n => (evN cfg n).2 f a H := fun n x h => (evN_mono cfg n).2 _ _ _ _ h

noncomputable def evC (cfg : Cfg) : CF := fun c F => lim fun n => (evN cfg n).1 c F
noncomputable def evK (cfg : Cfg) : KF := fun f a H => lim fun n => (evN cfg n).2 f a H
theorem evC_some {cfg : Cfg} {c : Code} {F : St} {r : X × St} : evC cfg c F = some r ↔ ∃ n, (evN cfg n).1 c F = some r := lim_some (evN_monoC cfg c F)
theorem evK_some {cfg : Cfg} {f : Nat} {a : List AV} {H : List (List AV)} {r : AV × List (List AV)} : evK cfg f a H = some r ↔ ∃ n, (evN cfg n).2 f a H = some r := lim_some (evN_monoK cfg f a H)
theorem evN_leC (cfg : Cfg) (n : Nat) : LeC (evN cfg n).1 (evC cfg) := fun _ _ _ h => evC_some.2 ⟨n, h⟩
theorem evN_leK (cfg : Cfg) (n : Nat) : LeK (evN cfg n).2 (evK cfg) := fun _ _ _ _ h => evK_some.2 ⟨n, h⟩

/-- What the limit does at something finite it does at some stage. -/
def Cont (cfg : Cfg) {β : Type} (Φ : CF → KF → Option β) : Prop := ∀ y, Φ (evC cfg) (evK cfg) = some y → ∃ n, Φ (evN cfg n).1 (evN cfg n).2 = some y
def Mon {β : Type} (Φ : CF → KF → Option β) : Prop := ∀ e e' K K', LeC e e' → LeK K K' → ∀ y, Φ e K = some y → Φ e' K' = some y
theorem evN_up (cfg : Cfg) {n m : Nat} (h : n ≤ m) : LeC (evN cfg n).1 (evN cfg m).1 ∧ LeK (evN cfg n).2 (evN cfg m).2 :=
  ⟨fun c F r hr => (evN_monoC cfg c F).le h hr, fun f a H r hr => (evN_monoK cfg f a H).le h hr⟩
theorem Cont.bind {cfg : Cfg} {α β : Type} {Φ : CF → KF → Option α} {Ψ : α → CF → KF → Option β} (hM : Mon Φ) (hΨM : ∀ x, Mon (Ψ x)) (hΦ : Cont cfg Φ) (hΨ : ∀ x, Cont cfg (Ψ x)) :
    Cont cfg fun e K => (Φ e K).bind fun x => Ψ x e K := by
  intro y h
  obtain ⟨x, hx, hy⟩ := Option.bind_eq_some_iff.1 h
  obtain ⟨n, hn⟩ := hΦ x hx
  obtain ⟨m, hm⟩ := hΨ x y hy
  have h1 := evN_up cfg (Nat.le_max_left n m)
  have h2 := evN_up cfg (Nat.le_max_right n m)
  exact ⟨max n m, Option.bind_eq_some_iff.2 ⟨x, hM _ _ _ _ h1.1 h1.2 _ hn, hΨM x _ _ _ _ h2.1 h2.2 _ hm⟩⟩
theorem Cont.const {cfg : Cfg} {β : Type} (b : Option β) : Cont cfg fun _ _ => b := fun y h => ⟨0, h⟩
theorem Cont.e {cfg : Cfg} (c : Code) (F : St) : Cont cfg fun e _ => e c F := fun y h => evC_some.1 h
theorem Cont.K {cfg : Cfg} (f : Nat) (a : List AV) (H : List (List AV)) : Cont cfg fun _ K => K f a H := fun y h => evK_some.1 h

theorem Cont.callQ {cfg : Cfg} (f : Nat) (a : List AV) : Cont cfg fun _ K => callQ cfg K f a := by
  intro y h
  simp only [V.callQ] at h ⊢
  split at h
  · exact ⟨0, h⟩
  · split at h
    · rename_i r H hr
      obtain ⟨n, hn⟩ := evK_some.1 hr
      exact ⟨n, by rw [hn]; exact h⟩
    · cases h

theorem Cont.opRunV {cfg : Cfg} (draw : Bool) (ds : List Nat) (lab : Nat) (o : Oper) (F : St) : Cont cfg fun _ K => opRunV cfg K draw ds lab o F := by
  intro y h
  unfold V.opRunV at h ⊢
  split at h
  · exact ⟨0, h⟩
  · exact ⟨0, h⟩
  · rename_i c hc
    (try dsimp only at h ⊢)
    split at h
    · exact ⟨0, h⟩
    · exact ⟨0, h⟩
    · rename_i f hf
      (try dsimp only at h ⊢)
      split at h
      · rename_i g first captured ht
        (try dsimp only at h ⊢)
        split at h
        · rename_i ha
          simp only [ha, if_true]
          split at h
          · rename_i he
            simp only [he, if_true]
            split at h
            · rename_i hd
              obtain ⟨x, hx, hy⟩ := Option.bind_eq_some_iff.1 h
              obtain ⟨n, hn⟩ := evK_some.1 hx
              exact ⟨n, by simp only [hd, if_true, hn, Option.bind_some]; exact hy⟩
            · rename_i hd
              obtain ⟨x, hx, hy⟩ := Option.bind_eq_some_iff.1 h
              obtain ⟨n, hn⟩ := evK_some.1 hx
              exact ⟨n, by simp only [hd, hn, Option.bind_some]; exact hy⟩
          · rename_i he
            simp only [he]
            split at h
            · rename_i hH
              simp only [hH, if_true]
              obtain ⟨x, hx, hy⟩ := Option.bind_eq_some_iff.1 h
              obtain ⟨n, hn⟩ := Cont.callQ g _ x hx
              exact ⟨n, by simp only [hn, Option.bind_some]; exact hy⟩
            · cases h
        · cases h
      · cases h
    · cases h
  · exact ⟨0, h⟩

theorem Cont.opRun {cfg : Cfg} (draw : Bool) (ds : List Nat) (lab : Nat) (o : Oper) (F : St) : Cont cfg fun _ K => opRun cfg K draw ds lab o F := by
  intro y h
  unfold V.opRun at h ⊢
  cases ha : allocH cfg.P F o.op with
  | some p => simp only [ha] at h ⊢; exact ⟨0, h⟩
  | none => simp only [ha] at h ⊢; exact Cont.opRunV draw ds lab o F y h

theorem Cont.opsRun {cfg : Cfg} (draw : Bool) (ds : List Nat) (all : Array Oper) : ∀ (l : List Oper) (lab : Nat) (F : St), Cont cfg fun _ K => opsRun cfg K draw ds all l lab F
  | [], _, F => Cont.const (some F)
  | o :: rest, lab, F => by
    unfold V.opsRun
    refine Cont.bind (fun _ _ _ _ _ _ y h => h) (fun w => ?_) (Cont.const _) (fun w => ?_)
    · intro e e' K K' he hK y h
      refine bind_mono (fun x hx => ?_) (fun F1 y _ hy => opsRun_mono hK rest _ _ _ hy) h
      cases w
      · exact hx
      · exact opRun_mono hK hx
    · refine Cont.bind ?_ (fun F1 e e' K K' he hK y h => opsRun_mono hK rest _ _ _ h) ?_ (fun F1 => Cont.opsRun draw ds all rest _ F1)
      · intro e e' K K' he hK y h
        cases w
        · exact h
        · exact opRun_mono hK h
      · cases w
        · exact Cont.const _
        · exact Cont.opRun draw ds lab o F

/-- The equations of code. -/
theorem evC_of {cfg : Cfg} {c : Code} {F : St} (Φ : CF → KF → Option (X × St)) (hs : ∀ e K m, codeStep cfg e K m c F = Φ e K) (hM : Mon Φ) (hC : Cont cfg Φ) : evC cfg c F = Φ (evC cfg) (evK cfg) := by
  apply Option.ext
  intro r
  constructor
  · intro h
    obtain ⟨n, hn⟩ := evC_some.1 h
    cases n with
    | zero => cases hn
    | succ n =>
      have : codeStep cfg (evN cfg n).1 (evN cfg n).2 n c F = some r := hn
      rw [hs] at this
      exact hM _ _ _ _ (evN_leC cfg n) (evN_leK cfg n) _ this
  · intro h
    obtain ⟨n, hn⟩ := hC r h
    refine evC_some.2 ⟨n + 1, ?_⟩
    show codeStep cfg (evN cfg n).1 (evN cfg n).2 n c F = some r
    rw [hs]; exact hn

theorem evC_skip {cfg : Cfg} {F : St} : evC cfg .skip F = some (.normal, F) := evC_of (fun _ _ => some (.normal, F)) (fun _ _ _ => rfl) (fun _ _ _ _ _ _ _ h => h) (Cont.const _)
theorem evC_label {cfg : Cfg} {l : Nat} {F : St} : evC cfg (.label l) F = some (.normal, F) := evC_of (fun _ _ => some (.normal, F)) (fun _ _ _ => rfl) (fun _ _ _ _ _ _ _ h => h) (Cont.const _)
theorem evC_exit {cfg : Cfg} {id : Nat} {F : St} : evC cfg (.exit id) F = some (.exit id, F) := evC_of (fun _ _ => some (.exit id, F)) (fun _ _ _ => rfl) (fun _ _ _ _ _ _ _ h => h) (Cont.const _)
theorem evC_goto {cfg : Cfg} {l : Nat} {F : St} : evC cfg (.goto l) F = some (.goto l, F) := evC_of (fun _ _ => some (.goto l, F)) (fun _ _ _ => rfl) (fun _ _ _ _ _ _ _ h => h) (Cont.const _)
theorem evC_ret {cfg : Cfg} {F : St} : evC cfg .ret F = some (.ret, F) := evC_of (fun _ _ => some (.ret, F)) (fun _ _ _ => rfl) (fun _ _ _ _ _ _ _ h => h) (Cont.const _)
theorem evC_seq {cfg : Cfg} {a b : Code} {F : St} : evC cfg (.seq a b) F = (evC cfg a F).bind fun r => match r.1 with
    | .normal => evC cfg b r.2
    | x => some (x, r.2) := by
  refine evC_of (fun e _ => (e a F).bind fun r => match r.1 with
    | .normal => e b r.2
    | x => some (x, r.2)) (fun _ _ _ => rfl) (fun e e' K K' he hK y h => ?_) ?_
  · refine bind_mono (fun x hx => he _ _ _ hx) (fun x y _ hy => ?_) h
    split at hy
    · exact he _ _ _ hy
    · exact hy
  · refine Cont.bind (Ψ := fun r e _ => match r.1 with
      | .normal => e b r.2
      | x => some (x, r.2)) (fun e e' K K' he hK y h => he _ _ _ h) (fun x e e' K K' he hK y h => ?_) (Cont.e a F) (fun x => ?_)
    · (try dsimp only at h ⊢)
      split at h
      · exact he _ _ _ h
      · exact h
    · intro y h
      (try dsimp only at h ⊢)
      split at h
      · exact evC_some.1 h
      · exact ⟨0, h⟩
theorem evC_cond {cfg : Cfg} {c : Operand} {a b : Code} {F : St} : evC cfg (.cond c a b) F = match F.ev c with
    | .at (.bool t) => if t then evC cfg a F else evC cfg b F
    | _ => none := by
  refine evC_of (fun e _ => match F.ev c with
    | .at (.bool t) => if t then e a F else e b F
    | _ => none) (fun _ _ _ => rfl) (fun e e' K K' he hK y h => ?_) ?_
  · (try dsimp only at h ⊢)
    split at h
    · rename_i t ht; cases t <;> exact he _ _ _ h
    · cases h
  · intro y h
    (try dsimp only at h ⊢)
    split at h
    · rename_i t ht; cases t <;> exact evC_some.1 h
    · cases h
theorem evC_block {cfg : Cfg} {id : Nat} {b : Code} {F : St} : evC cfg (.block id b) F = (evC cfg b F).map fun r => if r.1 = .exit id then (.normal, r.2) else r := by
  refine evC_of (cfg := cfg) (c := .block id b) (F := F) (fun e _ => (e b F).map fun r => if r.1 = .exit id then (.normal, r.2) else r) (fun _ _ _ => rfl) (fun e e' K K' he hK y h => ?_) ?_
  · simp only [Option.map_eq_some_iff] at h ⊢
    obtain ⟨x, hx, hr⟩ := h
    exact ⟨x, he _ _ _ hx, hr⟩
  · intro y h
    simp only [Option.map_eq_some_iff] at h ⊢
    obtain ⟨x, hx, hr⟩ := h
    obtain ⟨n, hn⟩ := evC_some.1 hx
    exact ⟨n, x, hn, hr⟩
theorem evC_region {cfg : Cfg} {id : Nat} {ops : Array Oper} {draw : Bool} {F : St} : evC cfg (.region id ops draw) F = regionRun cfg (evK cfg) ops draw F := by
  refine evC_of (fun _ K => regionRun cfg K ops draw F) (fun _ _ _ => rfl) (fun e e' K K' he hK y h => ?_) ?_
  · simp only [regionRun, Option.map_eq_some_iff] at h ⊢
    obtain ⟨x, hx, hr⟩ := h
    exact ⟨x, opsRun_mono hK _ _ _ _ hx, hr⟩
  · intro y h
    simp only [regionRun, Option.map_eq_some_iff] at h ⊢
    obtain ⟨x, hx, hr⟩ := h
    obtain ⟨n, hn⟩ := Cont.opsRun _ _ _ _ _ _ x hx
    exact ⟨n, x, hn, hr⟩
theorem evC_scope {cfg : Cfg} {b : Code} {F : St} : evC cfg (.scope b) F = (evC cfg b F).bind fun r => match r.1 with
    | .goto l => match findLabel b l with
      | some rest => (evC cfg rest r.2).bind fun r' => match r'.1 with
        | .goto _ => none
        | x => some (x, r'.2)
      | none => none
    | x => some (x, r.2) := by
  refine evC_of (fun e _ => (e b F).bind fun r => match r.1 with
    | .goto l => match findLabel b l with
      | some rest => (e rest r.2).bind fun r' => match r'.1 with
        | .goto _ => none
        | x => some (x, r'.2)
      | none => none
    | x => some (x, r.2)) (fun _ _ _ => rfl) (fun e e' K K' he hK y h => ?_) ?_
  · refine bind_mono (fun x hx => he _ _ _ hx) (fun x y _ hy => ?_) h
    split at hy
    · split at hy
      · exact bind_mono (fun x hx => he _ _ _ hx) (fun x y _ hy => hy) hy
      · cases hy
    · exact hy
  · refine Cont.bind (Ψ := fun r e _ => match r.1 with
      | .goto l => match findLabel b l with
        | some rest => (e rest r.2).bind fun r' => match r'.1 with
          | .goto _ => none
          | x => some (x, r'.2)
        | none => none
      | x => some (x, r.2)) (fun e e' K K' he hK y h => he _ _ _ h) (fun x e e' K K' he hK y h => ?_) (Cont.e b F) (fun x => ?_)
    · (try dsimp only at h ⊢)
      split at h
      · split at h
        · exact bind_mono (fun x hx => he _ _ _ hx) (fun x y _ hy => hy) h
        · cases h
      · exact h
    · intro y h
      (try dsimp only at h ⊢)
      split at h
      · split at h
        · obtain ⟨z, hz, hy⟩ := Option.bind_eq_some_iff.1 h
          obtain ⟨n, hn⟩ := evC_some.1 hz
          exact ⟨n, Option.bind_eq_some_iff.2 ⟨z, hn, hy⟩⟩
        · cases h
      · exact ⟨0, h⟩

theorem evC_loop {cfg : Cfg} {b : Code} {F : St} : evC cfg (.loop b) F = (evC cfg b F).bind fun r => match r.1 with
    | .normal => evC cfg (.loop b) r.2
    | x => some (x, r.2) := by
  apply Option.ext
  intro r
  constructor
  · intro h
    obtain ⟨n, hn⟩ := evC_some.1 h
    cases n with
    | zero => cases hn
    | succ n =>
      have h1 : loopRun ((evN cfg n).1 b) n F = some r := hn
      cases n with
      | zero => cases h1
      | succ m =>
        unfold loopRun at h1
        refine bind_mono (fun x hx => evC_some.2 ⟨_, hx⟩) (fun x y _ hy => ?_) h1
        rcases x with ⟨x1, F1⟩
        cases x1 with
        | normal =>
          refine evC_some.2 ⟨m + 2, ?_⟩
          show loopRun ((evN cfg (m + 1)).1 b) (m + 1) _ = _
          exact loopRun_mono (fun _ _ h => h) m (m + 1) _ _ (Nat.le_succ m) hy
        | _ => exact hy
  · intro h
    obtain ⟨x, hx, hy⟩ := Option.bind_eq_some_iff.1 h
    obtain ⟨n, hn⟩ := evC_some.1 hx
    obtain ⟨x1, F1⟩ := x
    cases x1 with
    | normal =>
      (try dsimp only at hy)
      obtain ⟨m, hm⟩ := evC_some.1 hy
      cases m with
      | zero => cases hm
      | succ m =>
        have h1 : loopRun ((evN cfg m).1 b) m F1 = some r := hm
        refine evC_some.2 ⟨max n m + 1 + 1, ?_⟩
        show loopRun ((evN cfg (max n m + 1)).1 b) (max n m + 1) F = some r
        unfold loopRun
        refine Option.bind_eq_some_iff.2 ⟨(.normal, F1), (evN_up cfg (show n ≤ max n m + 1 by omega)).1 _ _ _ hn, ?_⟩
        exact loopRun_mono (fun F r h => (evN_up cfg (show m ≤ max n m + 1 by omega)).1 _ _ _ h) m (max n m) _ _ (by omega) h1
    | _ =>
      (try dsimp only at hy)
      refine evC_some.2 ⟨n + 1 + 1, ?_⟩
      show loopRun ((evN cfg (n + 1)).1 b) (n + 1) F = some r
      unfold loopRun
      exact Option.bind_eq_some_iff.2 ⟨_, (evN_up cfg (show n ≤ n + 1 by omega)).1 _ _ _ hn, hy⟩

theorem evK_eq {cfg : Cfg} {f : Nat} {a : List AV} {H : List (List AV)} : evK cfg f a H = callStep cfg (evC cfg) f a H := by
  apply Option.ext
  intro r
  constructor
  · intro h
    obtain ⟨n, hn⟩ := evK_some.1 h
    cases n with
    | zero => cases hn
    | succ n =>
      have h1 : callStep cfg (evN cfg n).1 f a H = some r := hn
      exact callStep_mono (evN_leC cfg n) _ _ _ _ h1
  · intro h
    have : ∃ n, callStep cfg (evN cfg n).1 f a H = some r := by
      unfold callStep at h ⊢
      split at h
      · cases h
      · split at h
        · cases h
        · split at h
          · rename_i hl
            obtain ⟨x, hx, hy⟩ := Option.bind_eq_some_iff.1 h
            obtain ⟨n, hn⟩ := evC_some.1 hx
            exact ⟨n, by rw [if_pos hl]; simp only [hn, Option.bind_some]; exact hy⟩
          · cases h
    obtain ⟨n, hn⟩ := this
    exact evK_some.2 ⟨n + 1, hn⟩
end Go.Proofs.V

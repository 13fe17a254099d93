/- A range over a function, in a frame of the evaluator. -/
import Derived.Test.YtdgihbbekacgcaaGreatDoorK16
import Derived.Test.YtdgihbbekacgcaaGreatDoorK17
import Derived.Test.YtdgihbbekacgcaaGreatDoorK15
namespace Go.Proofs.V
open Go Go.RowKit
set_option linter.unusedVariables false
set_option linter.unusedSimpArgs false
section
variable {E0 : Nat → Prop} {w0 : Ent} {Z : Nat → Prop} {G : Gh} {F : St} {a : Act} {w : World}
theorem Inv.noE (h : Inv E0 w0 Z G F a w) (hH : F.H = []) : G.E = noE := by
  funext l
  cases hl : G.E l with
  | none => rfl
  | some b => have := h.rel.2.2.2.2 l b hl; rw [hH] at this; simp at this
/-- Nothing of the heap's objects is in it. -/
def NoHp (x : AV) : Prop := ∀ (S : Addr → Option Value) (E E' : Nat → Option Nat) (v : Value), R1 S E x v → R1 S E' x v
end
def X.code : X → Code
  | .normal => .skip
  | .exit i => .exit i
  | .goto l => .goto l
  | .ret => .ret
/-- The frame's beginning, with the block for deferred calls beside it. -/
def Ent.with (w0 : Ent) (D : Nat) (dfr : List Deferred) : Ent := { w0 with pro := fun b => if b = D then some (.deferred (some []), true) else none, dfr := { target := .collected D, args := #[] } :: dfr }
end Go.Proofs.V
namespace Go.Proofs.V
open Go Go.RowKit
set_option linter.unusedVariables false
set_option linter.unusedSimpArgs false
end Go.Proofs.V
namespace Go.Proofs.V
open Go Go.RowKit
set_option linter.unusedVariables false
set_option linter.unusedSimpArgs false
def itB (b0 b1 : Nat) : Nat → Option Nat := fun g => if g = 0 then some b0 else if g = 1 then some b1 else none
def itW (w : World) (S : Addr → Option Value) (b0 b1 : Nat) : Ent := { toWorld := w, S0 := S, Em := noE, Bm := itB b0 b1, Ew := fun b => b = b0 ∨ b = b1, dfr := [] }
/-- What is known at the head. -/
structure ItH (n l b0 b1 : Nat) (S : Addr → Option Value) (φ : Nat → Rw) (cs0 cs1 : List AV) (a : Act) (w : World) : Prop where
  mem : Mem S w
  n3 : 3 ≤ n
  sz : a.tmps.size = n
  df : a.defers = []
  t0 : a.tmps.getD 0 Go.undef = .func (.yield l) #[] #[]
  t1 : a.tmps.getD 1 Go.undef = .pointer (some ⟨b0, 0, none⟩)
  t2 : a.tmps.getD 2 Go.undef = .pointer (some ⟨b1, 0, none⟩)
  h0 : ∃ vs, Holds1 ⟨S, fun _ => none, noE, fun _ => none, φ⟩ w b0 cs0 vs
  h1 : ∃ vs, Holds1 ⟨S, fun _ => none, noE, fun _ => none, φ⟩ w b1 cs1 vs
  i0 : ∀ x ∈ cs0, ∀ rows nl n, x ≠ .slice rows nl (.id n)
  i1 : ∀ x ∈ cs1, ∀ rows nl n, x ≠ .slice rows nl (.id n)
/-- What a stretch of the iterator leaves. -/
theorem ItH.out {n l b0 b1 : Nat} {S : Addr → Option Value} {w w' : World} {Z : Nat → Prop} {G : Gh} {F : St} {a' : Act} {cs0 cs1 : List AV} (hi : Inv (fun b => b = b0 ∨ b = b1) (itW w S b0 b1) Z G F a' w') (hn : 3 ≤ n) (hFn : F.n = n) (hH : F.H = []) (h0 : F.t 0 = .fn (.yield l) [] []) (h1 : F.t 1 = .box 0 cs0) (h2 : F.t 2 = .box 1 cs1) :
    ItH n l b0 b1 G.S G.ρ (cs0.map strip1) (cs1.map strip1) a' w' ∧ Bel (fun b => b = b0 ∨ b = b1) w w' ∧ (∀ ad v, S ad = some v → G.S ad = some v) ∧ (∀ ad : Addr, S ad = none → ad.block < w.heap.size → G.S ad = none) ∧ G.E = noE := by
  have hE := hi.noE hH
  have hold : ∀ {i g b : Nat} {cs : List AV}, F.t i = .box g cs → itB b0 b1 g = some b → a'.tmps.getD i Go.undef = .pointer (some ⟨b, 0, none⟩) ∧ (∃ vs, Holds1 ⟨G.S, fun _ => none, noE, fun _ => none, G.ρ⟩ w' b (cs.map strip1) vs) ∧ ∀ ad : Addr, ad.block = b → G.S ad = none := by
    intro i g b cs ht hb
    have hB : G.B g = some b := hi.bm g b hb
    obtain ⟨b', vs, q1, q2, q3, ⟨q4, q5, q6, q7, q8⟩, q9⟩ := hi.box i g cs ht
    rw [hB] at q1
    cases q1
    have hs := hi.slot i
    rw [ht] at hs
    obtain ⟨b', r1, r2⟩ := hs
    rw [hB] at r1
    cases r1
    refine ⟨r2, ⟨vs, q4, by simpa using q5, fun x hx => ?_, fun j x v hx hv => ?_, q8⟩, q8⟩
    · obtain ⟨y, hy, rfl⟩ := List.mem_map.1 hx
      rw [plain_strip1]; exact q6 y hy
    · rw [List.getElem?_map] at hx
      simp only [Option.map_eq_some_iff] at hx
      obtain ⟨y, hy, rfl⟩ := hx
      have := strip1_R1 (q7 j y v hy hv)
      rw [hE] at this
      exact this
  obtain ⟨x1, x2, x3⟩ := hold h1 (show itB b0 b1 0 = some b0 by simp [itB])
  obtain ⟨y1, y2, y3⟩ := hold h2 (show itB b0 b1 1 = some b1 by simp [itB])
  have hs0 := hi.slot 0
  rw [h0] at hs0
  have noid : ∀ (cs : List AV), ∀ x ∈ cs.map strip1, ∀ rows nl n, x ≠ .slice rows nl (.id n) := by
    intro cs x hx rows nl n
    obtain ⟨y, _, rfl⟩ := List.mem_map.1 hx
    exact noId_strip1 y rows nl n
  refine ⟨⟨hi.mem, hn, by rw [hi.nsz, hFn], hi.df, ?_, x1, y1, x2, y2, noid _, noid _⟩, hi.bel, hi.rel.1, fun ad hs hl => ?_, hE⟩
  · have hs0 : R1 G.S G.E (.fn (.yield l) [] []) (a'.tmps.getD 0 Go.undef) := hs0
    generalize a'.tmps.getD 0 Go.undef = v at hs0
    cases hs0 with
    | fn _ _ _ fs cs hf hc =>
      have e1 := List.eq_nil_of_length_eq_zero hf
      have e2 := List.eq_nil_of_length_eq_zero hc
      subst e1 e2
      rfl
  · by_cases he : ad.block = b0 ∨ ad.block = b1
    · rcases he with he | he
      · exact x3 ad he
      · exact y3 ad he
    · exact hi.rel.2.1 ad hs hl he
end Go.Proofs.V
namespace Go.Proofs.V
open Go Go.RowKit
set_option linter.unusedVariables false
set_option linter.unusedSimpArgs false
section
variable {E0 : Nat → Prop} {w0 : Ent}
end
end Go.Proofs.V
namespace Go.Proofs.V
open Go Go.RowKit
set_option linter.unusedVariables false
set_option linter.unusedSimpArgs false
end Go.Proofs.V
namespace Go.Proofs.V
open Go Go.RowKit
set_option linter.unusedVariables false
set_option linter.unusedSimpArgs false
end Go.Proofs.V
namespace Go.Proofs.W
open Go Go.Proofs.V
set_option linter.unusedVariables false
set_option linter.unusedSimpArgs false
theorem noHp_at (v : Value) : NoHp (.at v) := fun S E E' u h => by cases h; exact .at _
theorem noHp_slice {rows : List (List AV)} {nl : Bool} {own : V.Own} (h : ∀ r ∈ rows, ∀ x ∈ r, NoHp x) : NoHp (.slice rows nl own) := fun S E E' u hr => by
  cases hr with
  | nil => exact .nil _
  | slice _ _ b off cap sz val hlen hsz hfull hpl h1 h2 =>
    refine .slice rows own b off cap sz val hlen hsz hfull hpl h1 fun i j x hx => ?_
    have := h2 i j x hx
    unfold cellAt at hx
    obtain ⟨r, e1, e2⟩ := Option.bind_eq_some_iff.1 hx
    exact h r (List.mem_of_getElem? e1) x (List.mem_of_getElem? e2) _ _ _ _ this
mutual
theorem cell_noHp : ∀ (c : CT) (x : Tc c) (a : AV), cellR c x a → NoHp a
  | .int k, x, a, h => by simp only [cellR] at h; subst h; exact noHp_at _
  | .bool, x, a, h => by simp only [cellR] at h; subst h; exact noHp_at _
  | .str, x, a, h => by simp only [cellR] at h; subst h; exact noHp_at _
  | .flt k, x, a, h => by simp only [cellR] at h; subst h; exact noHp_at _
  | .cx k, x, a, h => by simp only [cellR] at h; subst h; exact noHp_at _
  | .sl r, l, a, h => by
    simp only [cellR] at h
    obtain ⟨rows, nl, own, rfl, h⟩ := h
    exact noHp_slice fun row hrow a ha => by
      obtain ⟨x, hx, hw⟩ := All2.mem h.1 row hrow
      exact row_noHp r x row hw a ha
theorem row_noHp : ∀ (r : RT) (x : Tr r) (row : List AV), rowR r x row → ∀ a ∈ row, NoHp a
  | .one c, x, row, h, a, ha => by
    simp only [rowR] at h
    obtain ⟨b, rfl, h⟩ := h
    simp at ha; subst ha
    exact cell_noHp c x _ h
  | .cons c r, x, row, h, a, ha => by
    simp only [rowR] at h
    obtain ⟨b, rest, rfl, h1, h2⟩ := h
    rcases List.mem_cons.1 ha with rfl | ha
    · exact cell_noHp c x.1 _ h1
    · exact row_noHp r x.2 rest h2 a ha
end
theorem rows_noHp (r : RT) (l : List (Tr r)) (rows : List (List AV)) (h : All2 (rowR r) l rows) : ∀ row ∈ rows, ∀ a ∈ row, NoHp a := fun row hr a ha => by
  obtain ⟨x, hx, hw⟩ := All2.mem h row hr
  exact row_noHp r x row hw a ha
mutual
/-- Nothing unknown in it. -/
def known : WV → Bool
  | .agg cs => knownL cs
  | .tup cs => knownL cs
  | .ref cs _ => knownL cs
  | .box _ cs => knownL cs
  | .fn _ a b => knownL a && knownL b
  | .top => false
  | _ => true
def knownL : List WV → Bool
  | [] => true
  | w :: ws => known w && knownL ws
end
theorem noHp_agg {as : List AV} (h : ∀ a ∈ as, NoHp a) : NoHp (.agg as) := fun S E E' u hr => by
  cases hr with
  | agg _ vs hl hpl h2 => exact .agg _ _ hl hpl fun j x v hx hv => h x (List.mem_of_getElem? hx) _ _ _ _ (h2 j x v hx hv)
theorem noHp_tup {as : List AV} (h : ∀ a ∈ as, NoHp a) : NoHp (.tup as) := fun S E E' u hr => by
  cases hr with
  | tup _ vs hl h2 => exact .tup _ _ hl fun j x v hx hv => h x (List.mem_of_getElem? hx) _ _ _ _ (h2 j x v hx hv)
theorem noHp_ref {as : List AV} {off : Nat} (h : ∀ a ∈ as, NoHp a) : NoHp (.ref as off) := fun S E E' u hr => by
  cases hr with
  | ref _ _ b o val hpl h1 h2 => exact .ref _ _ b o val hpl h1 fun j x hx => h x (List.mem_of_getElem? hx) _ _ _ _ (h2 j x hx)
theorem noHp_fn {f : Nat} {a b : List AV} (h1 : ∀ x ∈ a, NoHp x) (h2 : ∀ x ∈ b, NoHp x) : NoHp (.fn (.func f) a b) := fun S E E' u hr => by
  cases hr with
  | fn _ _ _ fs cs hf hc q1 q2 => exact .fn _ _ _ fs cs hf hc (fun j x v hx hv => h1 x (List.mem_of_getElem? hx) _ _ _ _ (q1 j x v hx hv)) (fun j x v hx hv => h2 x (List.mem_of_getElem? hx) _ _ _ _ (q2 j x v hx hv))
theorem R1_nobox {S : Addr → Option Value} {E : Nat → Option Nat} {g : Nat} {cs : List AV} {v : Value} : ¬ R1 S E (.box g cs) v := by intro h; cases h
section
variable {O : WO → V.Own → Prop} {γ : Nat → Option Nat}
mutual
theorem known_R : ∀ (w : WV) (a : AV), known w = true → WR O γ w a → NoHp a ∨ (∃ g cs, a = .box g cs ∧ ∀ x ∈ cs, NoHp x) ∨ ∃ g s off, a = .fp g s off
  | .int .., a, _, h => by cases h; exact .inl (noHp_at _)
  | .bool .., a, _, h => by cases h; exact .inl (noHp_at _)
  | .str .., a, _, h => by cases h; exact .inl (noHp_at _)
  | .flt .., a, _, h => by cases h; exact .inl (noHp_at _)
  | .cx .., a, _, h => by cases h; exact .inl (noHp_at _)
  | .sl r l o, a, _, h => by
    cases h with
    | sl _ _ _ rows nl own h ho => exact .inl (noHp_slice fun row hrow => rows_noHp r l rows h.1 row hrow)
  | .nil, a, _, h => by cases h; exact .inl (noHp_slice fun r hr => by simp at hr)
  | .agg cs, a, hk, h => by
    simp only [known] at hk
    cases h with
    | agg _ as hl h => exact .inl (noHp_agg (knownL_R cs as hk (wrl_of hl h)))
  | .tup cs, a, hk, h => by
    simp only [known] at hk
    cases h with
    | tup _ as hl h => exact .inl (noHp_tup (knownL_R cs as hk (wrl_of hl h)))
  | .ref cs off, a, hk, h => by
    simp only [known] at hk
    cases h with
    | ref _ as _ hl h => exact .inl (noHp_ref (knownL_R cs as hk (wrl_of hl h)))
  | .fp .., a, _, h => by cases h; exact .inr (.inr ⟨_, _, _, rfl⟩)
  | .box g cs, a, hk, h => by
    simp only [known] at hk
    cases h with
    | box _ g' _ _ as hl h => exact .inr (.inl ⟨_, _, rfl, knownL_R cs as hk (wrl_of hl h)⟩)
  | .fn f c1 c2, a, hk, h => by
    simp only [known, Bool.and_eq_true] at hk
    cases h with
    | fn _ _ _ a1 a2 l1 l2 q1 q2 => exact .inl (noHp_fn (knownL_R c1 a1 hk.1 (wrl_of l1 q1)) (knownL_R c2 a2 hk.2 (wrl_of l2 q2)))
  | .top, a, hk, _ => by simp [known] at hk
theorem knownL_R : ∀ (ws : List WV) (as : List AV), knownL ws = true → WRL O γ ws as → ∀ a ∈ as, NoHp a
  | [], [], _, _, a, ha => by simp at ha
  | w :: ws, b :: as, hk, h, a, ha => by
    simp only [knownL, Bool.and_eq_true] at hk
    rcases List.mem_cons.1 ha with rfl | ha
    · rcases known_R w _ hk.1 h.1 with q | ⟨g, cs, rfl, _⟩ | ⟨g, s, off, rfl⟩
      · exact q
      · exact fun S E E' u hr => (R1_nobox hr).elim
      · exact fun S E E' u hr => by cases hr
    · exact knownL_R ws as hk.2 h.2 a ha
end
end
mutual
def encC : (c : CT) → Tc c → AV
  | .int k, n => .at (.int k n)
  | .bool, b => .at (.bool b)
  | .str, s => .at (.string ⟨⟨s⟩⟩)
  | .flt k, n => .at (.float k n)
  | .cx k, z => .at (.complex k z.1 z.2)
  | .sl _, _ => .at Go.undef
def encR : (r : RT) → Tr r → List AV
  | .one c, x => [encC c x]
  | .cons c r, x => encC c x.1 :: encR r x.2
end
/-- No slices in it. -/
def flatRT : RT → Bool
  | .one c => match c with
    | .sl _ => false
    | _ => true
  | .cons c r => (match c with
    | .sl _ => false
    | _ => true) && flatRT r
theorem encR_R : ∀ (r : RT) (x : Tr r) (row : List AV), flatRT r = true → rowR r x row → row = encR r x
  | .one c, x, row, hf, h => by
    simp only [rowR] at h
    obtain ⟨a, rfl, h⟩ := h
    cases c <;> simp only [flatRT] at hf <;> first | (cases hf; done) | (simp only [cellR] at h; simp only [encR, encC, h])
  | .cons c r, x, row, hf, h => by
    simp only [rowR] at h
    obtain ⟨a, rest, rfl, h1, h2⟩ := h
    simp only [flatRT, Bool.and_eq_true] at hf
    rw [encR_R r x.2 rest hf.2 h2]
    cases c <;> simp only at hf <;> first | (cases hf.1; done) | (simp only [cellR] at h1; simp only [encR, encC, h1])
theorem encR_row : ∀ (r : RT) (x : Tr r), flatRT r = true → rowR r x (encR r x)
  | .one c, x, hf => by
    cases c <;> simp only [flatRT] at hf <;> first | (cases hf; done) | (simp only [rowR, encR, encC, cellR]; exact ⟨_, rfl, rfl⟩)
  | .cons c r, x, hf => by
    simp only [flatRT, Bool.and_eq_true] at hf
    have := encR_row r x.2 hf.2
    cases c <;> simp only at hf <;> first | (cases hf.1; done) | (simp only [rowR, encR, encC, cellR]; exact ⟨_, _, rfl, rfl, this⟩)
def decC : (c : CT) → AV → Option (Tc c)
  | .int k, .at (.int k' n) => if k = k' then some n else none
  | .bool, .at (.bool b) => some b
  | .str, .at (.string s) => some s.data.toList
  | .flt k, .at (.float k' n) => if k = k' then some n else none
  | .cx k, .at (.complex k' a b) => if k = k' then some (a, b) else none
  | _, _ => none
def decR : (r : RT) → List AV → Option (Tr r)
  | .one c, [a] => decC c a
  | .cons c r, a :: as => (decC c a).bind fun x => (decR r as).map fun y => (x, y)
  | _, _ => none
def decL (r : RT) : List (List AV) → Option (List (Tr r))
  | [] => some []
  | a :: l => (decR r a).bind fun x => (decL r l).map fun y => x :: y
end Go.Proofs.W
namespace Go.Proofs.W
open Go Go.Proofs.V
set_option linter.unusedVariables false
set_option linter.unusedSimpArgs false
def rangeP {A S R : Type} (step : A → S → (S → Option R) → (S → Option R) → Option R) : List A → S → (S → Option R) → (S → Option R) → Option R
  | [], s, k, _ => k s
  | x :: xs, s, k, kr => step x s (fun s' => rangeP step xs s' k kr) kr
end Go.Proofs.W
namespace Go.Proofs.W
open Go Go.Proofs.V
set_option linter.unusedVariables false
set_option linter.unusedSimpArgs false
structure RT4 where
  q0 : RT
  q1 : RT
  r1 : RT
  r2 : RT
end Go.Proofs.W
namespace Go.Proofs.W
open Go Go.Proofs.V
set_option linter.unusedVariables false
set_option linter.unusedSimpArgs false
def itW (H : Hs) (τ : RT4) (l0 : List (Tr τ.q0)) (l1 : List (Tr τ.q1)) : WS :=
  { n := H.n, t := fun i => if i = 1 then .box 1 [.sl τ.q0 l0 .no] else if i = 2 then .box 2 [.sl τ.q1 l1 .no] else .top, al := fun _ => false, nc := 0, ng := 3, m := H.m }
theorem encR_at : ∀ (r : RT) (x : Tr r), ∀ y ∈ encR r x, ∃ v, y = .at v
  | .one c, x, y, hy => by
    simp only [encR, List.mem_singleton] at hy
    subst hy
    cases c <;> exact ⟨_, rfl⟩
  | .cons c r, x, y, hy => by
    simp only [encR, List.mem_cons] at hy
    rcases hy with rfl | hy
    · cases c <;> exact ⟨_, rfl⟩
    · exact encR_at r x.2 y hy
end Go.Proofs.W

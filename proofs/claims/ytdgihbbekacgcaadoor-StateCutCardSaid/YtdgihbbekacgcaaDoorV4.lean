/- Values without memory against values in a world; what holds of a frame while it runs. -/
import Derived.Test.YtdgihbbekacgcaaDoorV3
namespace Go.Proofs.V
open Go Go.RowKit
set_option linter.unusedVariables false
set_option linter.unusedSimpArgs false

def cellAt (rows : List (List AV)) (i j : Nat) : Option AV := (rows[i]?).bind fun r => r[j]?

/-- An abstract value stands for a value; 'S': cells that nobody writes any more; 'E': where the heap's objects lie. -/
inductive R1 (S : Addr → Option Value) (E : Nat → Option Nat) : AV → Value → Prop
  | at (v : Value) : R1 S E (.at v) v
  | nil (own : Own) : R1 S E (.slice [] true own) (.slice none 0 0)
  | slice (rows : List (List AV)) (own : Own) (b off cap sz : Nat) (val : Nat → Nat → Value) (hlen : rows.length ≤ cap) (hsz : ∀ r ∈ rows, r.length = sz) (hfull : own = .full → cap = rows.length)
      (hpl : ∀ i j x, cellAt rows i j = some x → x.plain = true)
      (hS : ∀ i j x, cellAt rows i j = some x → S ⟨b, off + (i * sz + j), none⟩ = some (val i j)) (hR : ∀ i j x, cellAt rows i j = some x → R1 S E x (val i j)) :
      R1 S E (.slice rows false own) (.slice (some ⟨b, off, none⟩) rows.length cap)
  | ref (row : List AV) (off b o : Nat) (val : Nat → Value) (hpl : ∀ x ∈ row, AV.plain x = true) (hS : ∀ (j : Nat) (x : AV), row[j]? = some x → S ⟨b, o + j, none⟩ = some (val j)) (hR : ∀ (j : Nat) (x : AV), row[j]? = some x → R1 S E x (val j)) :
      R1 S E (.ref row off) (.pointer (some ⟨b, o + off, none⟩))
  | hp (l off b : Nat) (h : E l = some b) : R1 S E (.hp l off) (.pointer (some ⟨b, off, none⟩))
  | fn (f : Fn) (first captured : List AV) (fs cs : List Value) (hf : fs.length = first.length) (hc : cs.length = captured.length)
      (h1 : ∀ (j : Nat) (x : AV) (v : Value), first[j]? = some x → fs[j]? = some v → R1 S E x v) (h2 : ∀ (j : Nat) (x : AV) (v : Value), captured[j]? = some x → cs[j]? = some v → R1 S E x v) : R1 S E (.fn f first captured) (.func f fs.toArray cs.toArray)
  | agg (cs : List AV) (vs : List Value) (hl : vs.length = cs.length) (hpl : ∀ x ∈ cs, AV.plain x = true) (h : ∀ (j : Nat) (x : AV) (v : Value), cs[j]? = some x → vs[j]? = some v → R1 S E x v) : R1 S E (.agg cs) (.agg vs.toArray)
  | tup (cs : List AV) (vs : List Value) (hl : vs.length = cs.length) (h : ∀ (j : Nat) (x : AV) (v : Value), cs[j]? = some x → vs[j]? = some v → R1 S E x v) : R1 S E (.tup cs) (.tuple vs.toArray)
  | ifc (t : TypeId) (x : AV) (v : Value) (h : R1 S E x v) : R1 S E (.ifc t x) (.iface t v)
  | hs (l off len cap sz b : Nat) (h : E l = some b) : R1 S E (.hs l off len cap sz) (.slice (some ⟨b, off, none⟩) len cap)

theorem R1.mono {S S' : Addr → Option Value} {E E' : Nat → Option Nat} (hS : ∀ a v, S a = some v → S' a = some v) (hE : ∀ l b, E l = some b → E' l = some b) {x : AV} {v : Value} (h : R1 S E x v) : R1 S' E' x v := by
  induction h with
  | «at» v => exact .at v
  | nil own => exact .nil own
  | slice rows own b off cap sz val hlen hsz hfull hpl h1 h2 ih => exact .slice rows own b off cap sz val hlen hsz hfull hpl (fun i j x h => hS _ _ (h1 i j x h)) ih
  | ref row off b o val hpl h1 h2 ih => exact .ref row off b o val hpl (fun j x h => hS _ _ (h1 j x h)) ih
  | hp l off b h => exact .hp l off b (hE _ _ h)
  | fn f first captured fs cs hf hc h1 h2 ih1 ih2 => exact .fn f first captured fs cs hf hc ih1 ih2
  | agg cs vs hl hpl h ih => exact .agg cs vs hl hpl ih
  | tup cs vs hl h ih => exact .tup cs vs hl ih
  | ifc t x v h ih => exact .ifc t x v ih
  | hs l off len cap sz b h => exact .hs l off len cap sz b (hE _ _ h)

/-- A value of one cell. -/
theorem R1.one {S : Addr → Option Value} {E : Nat → Option Nat} {x : AV} {v : Value} (h : R1 S E x v) (hx : x.plain = true) : Value.one v = true := by
  cases h with
  | «at» => cases v <;> simp_all [AV.plain, Value.one]
  | agg => cases hx
  | tup => cases hx
  | _ => rfl

theorem val1_R1 {S : Addr → Option Value} {E : Nat → Option Nat} {x : AV} {u v : Value} (hu : val1 x = some u) (h : R1 S E x v) : v = u := by
  cases h <;> simp_all [val1]
theorem vals_R1 {S : Addr → Option Value} {E : Nat → Option Nat} : ∀ {xs : List AV} {us vs : List Value}, vals xs = some us → vs.length = xs.length → (∀ (j : Nat) (x : AV) (v : Value), xs[j]? = some x → vs[j]? = some v → R1 S E x v) → vs = us
  | [], us, vs, hu, hl, _ => by simp [vals] at hu; subst hu; simpa using hl
  | x :: xs, us, [], hu, hl, _ => by simp at hl
  | x :: xs, us, v :: vs, hu, hl, h => by
    unfold vals at hu
    split at hu
    · rename_i w ws h1 h2
      have := Option.some.inj hu
      subst this
      have e1 := val1_R1 h1 (h 0 x v rfl rfl)
      have e2 : vs = ws := vals_R1 h2 (by simpa using hl) (fun j x v hx hv => h (j + 1) x v (by simpa using hx) (by simpa using hv))
      rw [e1, e2]
    · cases hu
theorem val_R1 {S : Addr → Option Value} {E : Nat → Option Nat} {x : AV} {u v : Value} (hu : x.val = some u) (h : R1 S E x v) : v = u := by
  unfold AV.val at hu
  split at hu
  · rename_i cs
    simp only [Option.map_eq_some_iff] at hu
    obtain ⟨us, h1, rfl⟩ := hu
    cases h with
    | agg _ vs hl hpl h => rw [vals_R1 h1 hl h]
  · have := Option.some.inj hu
    subst this
    cases h with
    | tup _ vs hl h => simp at hl; subst hl; rfl
  · exact val1_R1 hu h

theorem abs1_R1 (S : Addr → Option Value) (E : Nat → Option Nat) (v : Value) : R1 S E (abs1 v) v := by
  unfold abs1
  split
  · exact .nil _
  · exact .at v
theorem absV_R1 (S : Addr → Option Value) (E : Nat → Option Nat) (v : Value) : R1 S E (absV v) v := by
  unfold absV
  split
  · exact .nil _
  · rename_i cs
    split
    · rename_i hone
      have : (Value.agg cs) = Value.agg (cs.toList).toArray := by simp
      rw [this]
      refine .agg _ _ (by simp) ?_ ?_
      · intro x hx
        obtain ⟨u, hu, rfl⟩ := List.mem_map.1 hx
        have h1 := List.all_eq_true.1 hone u hu
        unfold abs1
        split
        · rfl
        · cases u <;> simp_all [AV.plain, Value.one]
      · intro j x v hx hv
        rw [List.getElem?_map, hv] at hx
        simp at hx
        subst hx
        exact abs1_R1 S E v
    · exact .at _
  · rename_i cs
    split
    · rename_i h0
      have : cs = #[] := by simpa using h0
      subst this
      exact R1.tup [] [] rfl (fun j x v h => by simp at h)
    · exact .at _
  · exact .at _

/-! ### Marks of ownership -/
def parts : AV → List AV
  | .agg cs => cs
  | .tup cs => cs
  | .box _ cs => cs
  | x => [x]
def vparts : Value → List Value
  | .agg vs => vs.toList
  | .tuple vs => vs.toList
  | v => [v]
structure Rw where
  b : Nat
  len : Nat
  cap : Nat
  sz : Nat
inductive Tg where
  | slot (i : Nat) | row (n : Nat) | obj (l : Nat)
structure Gh where
  S : Addr → Option Value
  B : Nat → Option Nat
  E : Nat → Option Nat
  u : Nat → Option Tg
  ρ : Nat → Rw

def RV (G : Gh) : AV → Value → Prop
  | .fp g _ off, v => ∃ b, G.B g = some b ∧ v = .pointer (some ⟨b, off, none⟩)
  | .box g _, v => ∃ b, G.B g = some b ∧ v = .pointer (some ⟨b, 0, none⟩)
  | x, v => R1 G.S G.E x v
theorem RV_of {G : Gh} {x : AV} {v : Value} (h : R1 G.S G.E x v) : RV G x v := by
  cases h <;> (unfold RV; first | exact .at _ | exact .nil _ | exact .slice _ _ _ _ _ _ _ ‹_› ‹_› ‹_› ‹_› ‹_› ‹_› | exact .ref _ _ _ _ _ ‹_› ‹_› ‹_› | exact .hp _ _ _ ‹_› | exact .fn _ _ _ _ _ ‹_› ‹_› ‹_› ‹_› | exact .agg _ _ ‹_› ‹_› ‹_› | exact .tup _ _ ‹_› ‹_› | exact .ifc _ _ _ ‹_› | exact .hs _ _ _ _ _ _ ‹_›)
theorem R1_of {G : Gh} {x : AV} {v : Value} (h : RV G x v) (hx : x.free = true) : R1 G.S G.E x v := by
  cases x <;> first | (cases hx; done) | exact h

def Cl1 (G : Gh) (al : Nat → Bool) (x : AV) (v : Value) : Prop :=
  ∀ rows nl n, x = .slice rows nl (.id n) → al n = true → v = .slice (some ⟨(G.ρ n).b, 0, none⟩) rows.length (G.ρ n).cap ∧ nl = false ∧ rows.length = (G.ρ n).len ∧ ∀ r ∈ rows, r.length = (G.ρ n).sz
def Cl (G : Gh) (al : Nat → Bool) (x : AV) (v : Value) : Prop := ∀ (j : Nat) (y : AV) (u : Value), (parts x)[j]? = some y → (vparts v)[j]? = some u → Cl1 G al y u
def HasId (n : Nat) (x : AV) : Prop := ∃ y ∈ parts x, ∃ rows nl, y = .slice rows nl (.id n)
def NoId (x : AV) : Prop := ∀ n, ¬ HasId n x
theorem Cl_of_noId {G : Gh} {al : Nat → Bool} {x : AV} {v : Value} (h : NoId x) : Cl G al x v := fun j y u hy hu rows nl n he ha => (h n ⟨y, List.mem_of_getElem? hy, rows, nl, he⟩).elim

theorem noId_abs1 (v : Value) : ∀ rows nl n, abs1 v ≠ .slice rows nl (.id n) := by
  intro rows nl n h
  unfold abs1 at h
  split at h <;> cases h
theorem noId_absV (v : Value) : NoId (absV v) := by
  rintro n ⟨y, hy, rows, nl, rfl⟩
  unfold absV at hy
  split at hy
  · simp [parts] at hy
  · split at hy
    · simp only [parts] at hy
      obtain ⟨u, _, hu⟩ := List.mem_map.1 hy
      exact noId_abs1 u _ _ _ hu
    · simp [parts] at hy
  · split at hy <;> simp [parts] at hy
  · rename_i v h1 h2 h3
    simp [parts] at hy
theorem noId_strip1 (x : AV) : ∀ rows nl n, strip1 x ≠ .slice rows nl (.id n) := by
  intro rows nl n h
  unfold strip1 at h
  split at h
  · cases h
  · cases h
  · rename_i h1 h2; exact h1 rows nl n h
theorem noId_strip {x : AV} (hb : ∀ g cs, x ≠ .box g cs) : NoId (strip x) := by
  rintro n ⟨y, hy, rows, nl, rfl⟩
  unfold strip at hy
  split at hy
  · simp only [parts] at hy
    obtain ⟨u, _, hu⟩ := List.mem_map.1 hy
    exact noId_strip1 u _ _ _ hu
  · simp only [parts] at hy
    obtain ⟨u, _, hu⟩ := List.mem_map.1 hy
    exact noId_strip1 u _ _ _ hu
  · rename_i h1 h2
    cases x with
    | slice r m own =>
      cases own <;> simp [strip1, parts] at hy
    | box g cs => exact hb g cs rfl
    | agg cs => exact h1 cs rfl
    | tup cs => exact h2 cs rfl
    | _ => simp [strip1, parts] at hy

theorem plain_strip1 (x : AV) : (strip1 x).plain = x.plain := by
  unfold strip1; split <;> rfl
theorem strip1_R1 {S : Addr → Option Value} {E : Nat → Option Nat} {x : AV} {v : Value} (h : R1 S E x v) : R1 S E (strip1 x) v := by
  cases h with
  | nil own => cases own <;> exact .nil _
  | slice rows own b off cap sz val hlen hsz hfull hpl h1 h2 =>
    cases own with
    | no => exact .slice rows .no b off cap sz val hlen hsz (by intro h; cases h) hpl h1 h2
    | full => exact .slice rows .full b off cap sz val hlen hsz hfull hpl h1 h2
    | fresh => exact .slice rows .no b off cap sz val hlen hsz (by intro h; cases h) hpl h1 h2
    | id n => exact .slice rows .no b off cap sz val hlen hsz (by intro h; cases h) hpl h1 h2
  | «at» v => exact .at v
  | ref row off b o val hpl h1 h2 => exact .ref row off b o val hpl h1 h2
  | hp l off b h => exact .hp l off b h
  | fn f first captured fs cs hf hc h1 h2 => exact .fn f first captured fs cs hf hc h1 h2
  | agg cs vs hl hpl h => exact .agg cs vs hl hpl h
  | tup cs vs hl h => exact .tup cs vs hl h
  | ifc t x v h => exact .ifc t x v h
  | hs l off len cap sz b h => exact .hs l off len cap sz b h
theorem strip_R1 {S : Addr → Option Value} {E : Nat → Option Nat} {x : AV} {v : Value} (h : R1 S E x v) : R1 S E (strip x) v := by
  cases h with
  | agg cs vs hl hpl h =>
    refine .agg _ _ (by simpa using hl) ?_ ?_
    · intro x hx
      obtain ⟨y, hy, rfl⟩ := List.mem_map.1 hx
      rw [plain_strip1]; exact hpl y hy
    · intro j x v hx hv
      rw [List.getElem?_map] at hx
      simp only [Option.map_eq_some_iff] at hx
      obtain ⟨y, hy, rfl⟩ := hx
      exact strip1_R1 (h j y v hy hv)
  | tup cs vs hl h =>
    refine .tup _ _ (by simpa using hl) ?_
    intro j x v hx hv
    rw [List.getElem?_map] at hx
    simp only [Option.map_eq_some_iff] at hx
    obtain ⟨y, hy, rfl⟩ := hx
    exact strip1_R1 (h j y v hy hv)
  | «at» v => exact .at v
  | nil own => exact strip1_R1 (.nil own)
  | slice rows own b off cap sz val hlen hsz hfull hpl h1 h2 => exact strip1_R1 (.slice rows own b off cap sz val hlen hsz hfull hpl h1 h2)
  | ref row off b o val hpl h1 h2 => exact .ref row off b o val hpl h1 h2
  | hp l off b h => exact .hp l off b h
  | fn f first captured fs cs hf hc h1 h2 => exact .fn f first captured fs cs hf hc h1 h2
  | ifc t x v h => exact .ifc t x v h
  | hs l off len cap sz b h => exact .hs l off len cap sz b h

/-! ### A frame -/
def Mem (S : Addr → Option Value) (w : World) : Prop := ∀ ad v, S ad = some v → w.cell? ad = some v
/-- What lay in w lies as it did, but for the blocks of E0. -/
structure Bel (E0 : Nat → Prop) (w w' : World) : Prop where
  os : w'.os = w.os
  tape : w'.tape = w.tape
  output : w'.output = w.output
  size : w.heap.size ≤ w'.heap.size
  block : ∀ k, k < w.heap.size → ¬ E0 k → w'.heap[k]? = w.heap[k]?
theorem Bel.refl (E0 : Nat → Prop) (w : World) : Bel E0 w w := ⟨rfl, rfl, rfl, Nat.le_refl _, fun _ _ _ => rfl⟩
theorem Bel.trans {E0 : Nat → Prop} {a b c : World} (h : Bel E0 a b) (k : Bel E0 b c) : Bel E0 a c :=
  ⟨k.os.trans h.os, k.tape.trans h.tape, k.output.trans h.output, Nat.le_trans h.size k.size, fun i hi he => (k.block i (Nat.lt_of_lt_of_le hi h.size) he).trans (h.block i hi he)⟩
theorem Bel.below {w w' : World} (h : Bel (fun _ => False) w w') : Below w.heap.size w w' := ⟨h.os, h.tape, h.output, h.size, fun k hk => h.block k hk (fun x => x)⟩

/-- A block of the frame's own, or of the heap: what it holds. -/
def Holds1 (G : Gh) (w : World) (b : Nat) (cs : List AV) (vs : Array Value) : Prop :=
  (∃ ty, w.heap[b]? = some (.cells vs ty (0, 0))) ∧ vs.size = cs.length ∧ (∀ x ∈ cs, AV.plain x = true) ∧ (∀ (j : Nat) (x : AV) (v : Value), cs[j]? = some x → vs[j]? = some v → R1 G.S G.E x v) ∧ ∀ ad : Addr, ad.block = b → G.S ad = none

/-- The world in which a frame began; what was read there already, and where the heap's objects lay. -/
structure Ent extends World where
  S0 : Addr → Option Value
  Em : Nat → Option Nat
instance : CoeOut Ent World := ⟨Ent.toWorld⟩
def Rel (w0 : Ent) (G : Gh) (F : St) : Prop :=
  (∀ ad v, w0.S0 ad = some v → G.S ad = some v) ∧ (∀ ad : Addr, w0.S0 ad = none → ad.block < w0.heap.size → G.S ad = none) ∧ (∀ l b, w0.Em l = some b → G.E l = some b) ∧ (∀ l b, w0.Em l = none → G.E l = some b → w0.heap.size ≤ b) ∧ ∀ l b, G.E l = some b → l < F.H.length

structure Inv (E0 : Nat → Prop) (w0 : Ent) (Z : Nat → Prop) (G : Gh) (F : St) (a : Act) (w : World) : Prop where
  nsz : a.tmps.size = F.n
  df : a.defers = []
  slot : ∀ i, RV G (F.t i) (a.tmps.getD i Go.undef)
  cl : ∀ i, (∀ g cs, F.t i ≠ .box g cs) → Cl G F.al (F.t i) (a.tmps.getD i Go.undef)
  ids : ∀ i n, HasId n (F.t i) → Z n
  mem : Mem G.S w
  bel : Bel E0 w0 w
  rel : Rel w0 G F
  box : ∀ i g cs, F.t i = .box g cs → ∃ b vs, G.B g = some b ∧ w0.heap.size ≤ b ∧ G.u b = some (.slot i) ∧ Holds1 G w b cs vs ∧ ∀ (j : Nat) (x : AV) (v : Value), cs[j]? = some x → vs[j]? = some v → Cl1 G F.al x v
  row : ∀ n, F.al n = true → w0.heap.size ≤ (G.ρ n).b ∧ G.u (G.ρ n).b = some (.row n) ∧ (∃ vs ty, w.heap[(G.ρ n).b]? = some (.cells vs ty (0, 0)) ∧ vs.size = (G.ρ n).cap * (G.ρ n).sz) ∧ (0 < (G.ρ n).len ∧ (G.ρ n).len ≤ (G.ρ n).cap) ∧ ∀ o, (G.ρ n).len * (G.ρ n).sz ≤ o → G.S ⟨(G.ρ n).b, o, none⟩ = none
  obj : ∀ l cs, F.H[l]? = some cs → ∃ b vs, G.E l = some b ∧ (w0.heap.size ≤ b ∨ E0 b) ∧ G.u b = some (.obj l) ∧ Holds1 G w b cs vs
  zB : ∀ g b, G.B g = some b → Z g
  zal : ∀ n, F.al n = true → Z n
  live : ∀ b, (G.u b).isSome = true → b < w.heap.size

/-- A step that turns nothing that was there. -/
structure Grow (Z1 : Nat → Prop) (G G' : Gh) (w w' : World) : Prop where
  S : ∀ ad v, G.S ad = some v → G'.S ad = some v
  Snew : ∀ ad, G.S ad = none → ad.block < w.heap.size → G'.S ad = none
  mem : Mem G'.S w'
  B : ∀ g b, G.B g = some b → G'.B g = some b
  Bnew : ∀ g b, G.B g = none → G'.B g = some b → Z1 g
  E : G'.E = G.E
  u : ∀ b, b < w.heap.size → G'.u b = G.u b
  ulive : ∀ b, (G'.u b).isSome = true → b < w'.heap.size
  ρ : ∀ n, ¬ Z1 n → G'.ρ n = G.ρ n
  heap : ∀ b, b < w.heap.size → w'.heap[b]? = w.heap[b]?
  size : w.heap.size ≤ w'.heap.size
  os : w'.os = w.os
  tape : w'.tape = w.tape
  output : w'.output = w.output

theorem Mem.lt {S : Addr → Option Value} {w : World} (h : Mem S w) {ad : Addr} {v : Value} (hv : S ad = some v) : ad.block < w.heap.size := World.block_lt_of_cell? w ad (h ad v hv)

theorem Grow.refl {Z1 : Nat → Prop} {G : Gh} {w : World} (hm : Mem G.S w) (hu : ∀ b, (G.u b).isSome = true → b < w.heap.size) : Grow Z1 G G w w :=
  ⟨fun _ _ h => h, fun _ h _ => h, hm, fun _ _ h => h, fun g b h h' => (by rw [h] at h'; cases h'), rfl, fun _ _ => rfl, hu, fun _ _ => rfl, fun _ _ => rfl, Nat.le_refl _, rfl, rfl, rfl⟩

theorem RV.grow {Z1 : Nat → Prop} {G G' : Gh} {w w' : World} (g : Grow Z1 G G' w w') {x : AV} {v : Value} (h : RV G x v) : RV G' x v := by
  cases x with
  | fp a b c => obtain ⟨k, h1, h2⟩ := h; exact ⟨k, g.B _ _ h1, h2⟩
  | box a b => obtain ⟨k, h1, h2⟩ := h; exact ⟨k, g.B _ _ h1, h2⟩
  | _ => exact R1.mono g.S (fun l b h => by rw [g.E]; exact h) h
theorem Holds1.grow {Z1 : Nat → Prop} {G G' : Gh} {w w' : World} (g : Grow Z1 G G' w w') {b : Nat} {cs : List AV} {vs : Array Value} (h : Holds1 G w b cs vs) : Holds1 G' w' b cs vs := by
  obtain ⟨⟨ty, h1⟩, h2, hp, h3, h4⟩ := h
  have hb : b < w.heap.size := by
    rcases Nat.lt_or_ge b w.heap.size with h | h
    · exact h
    · rw [Array.getElem?_eq_none h] at h1; cases h1
  exact ⟨⟨ty, (g.heap b hb).trans h1⟩, h2, hp, fun j x v hx hv => R1.mono g.S (fun l b h => by rw [g.E]; exact h) (h3 j x v hx hv), fun ad ha => g.Snew ad (h4 ad ha) (by rw [ha]; exact hb)⟩

theorem Cl1.ρ {G G' : Gh} {al al' : Nat → Bool} (hal : ∀ n, al' n = true → al n = true) (hρ : ∀ n, al' n = true → G'.ρ n = G.ρ n) {x : AV} {v : Value} (h : Cl1 G al x v) : Cl1 G' al' x v := by
  intro rows nl n he ha
  rw [hρ n ha]
  exact h rows nl n he (hal n ha)

theorem Inv.grow {E0 : Nat → Prop} {w0 : Ent} {Z Z1 : Nat → Prop} {G G' : Gh} {F : St} {a : Act} {w w' : World} (h : Inv E0 w0 Z G F a w) (g : Grow Z1 G G' w w') (hz : ∀ n, Z n → ¬ Z1 n) : Inv E0 w0 (fun n => Z n ∨ Z1 n) G' F a w' where
  nsz := h.nsz
  df := h.df
  slot i := (h.slot i).grow g
  cl i hb j y u hy hu := (h.cl i hb j y u hy hu).ρ (fun _ h => h) (fun n ha => g.ρ n (hz n (h.zal n ha)))
  ids i n hi := .inl (h.ids i n hi)
  mem := g.mem
  bel := h.bel.trans ⟨g.os, g.tape, g.output, g.size, fun k hk _ => g.heap k hk⟩
  rel := ⟨fun ad v hv => g.S _ _ (h.rel.1 ad v hv), fun ad h0 hb => g.Snew ad (h.rel.2.1 ad h0 hb) (Nat.lt_of_lt_of_le hb h.bel.size), fun l b hb => by rw [g.E]; exact h.rel.2.2.1 l b hb, fun l b h0 hb => h.rel.2.2.2.1 l b h0 (by rw [← g.E]; exact hb), fun l b hb => h.rel.2.2.2.2 l b (by rw [← g.E]; exact hb)⟩
  box i gg cs hc := by
    obtain ⟨b, vs, h1, h2, h3, h4, h5⟩ := h.box i gg cs hc
    have hb := h.live b (by rw [h3]; rfl)
    exact ⟨b, vs, g.B _ _ h1, h2, (g.u b hb).trans h3, h4.grow g, fun j x v hx hv => (h5 j x v hx hv).ρ (fun _ h => h) (fun n ha => g.ρ n (hz n (h.zal n ha)))⟩
  row n ha := by
    obtain ⟨h1, h2, ⟨vs, ty, h3, h3'⟩, h4, h5⟩ := h.row n ha
    have hρ := g.ρ n (hz n (h.zal n ha))
    have hb := h.live _ (by rw [h2]; rfl)
    rw [hρ]
    exact ⟨h1, (g.u _ hb).trans h2, ⟨vs, ty, (g.heap _ hb).trans h3, h3'⟩, h4, fun o ho => g.Snew _ (h5 o ho) hb⟩
  obj l cs hl := by
    obtain ⟨b, vs, h1, h2, h3, h4⟩ := h.obj l cs hl
    have hb := h.live b (by rw [h3]; rfl)
    exact ⟨b, vs, by rw [g.E]; exact h1, h2, (g.u b hb).trans h3, h4.grow g⟩
  zB gg b hb := by
    cases hg : G.B gg with
    | none => exact .inr (g.Bnew gg b hg hb)
    | some b' => exact .inl (h.zB gg b' hg)
  zal n ha := .inl (h.zal n ha)
  live b hb := g.ulive b hb

theorem getD_put {a : Act} {d : Nat} {v : Value} (hd : d < a.tmps.size) (i : Nat) : (a.put (some d) v).tmps.getD i Go.undef = if i = d then v else a.tmps.getD i Go.undef := by
  simp only [Act.put]
  by_cases h : i = d
  · subst h; simp [hd]
  · rw [if_neg h]
    rw [Array.getD_eq_getD_getElem?, Array.getD_eq_getD_getElem?, Array.getElem?_setIfInBounds_ne (Ne.symm h)]

/-- A slot takes a value that is no box. -/
theorem Inv.set {E0 : Nat → Prop} {w0 : Ent} {Z : Nat → Prop} {G : Gh} {F : St} {a : Act} {w : World} (h : Inv E0 w0 Z G F a w) {d : Nat} {x : AV} {v : Value} (hd : d < F.n) (hb : ∀ g cs, x ≠ .box g cs)
    (hr : RV G x v) (hc : Cl G F.al x v) (hi : ∀ n, HasId n x → Z n) : Inv E0 w0 Z G { F with t := upd F.t d x } (a.put (some d) v) w where
  nsz := by simp [Act.put]; exact h.nsz
  df := by simp [Act.put]; exact h.df
  slot i := by
    rw [getD_put (by rw [h.nsz]; exact hd)]
    simp only [upd_apply]
    split
    · exact hr
    · exact h.slot i
  cl i hb' := by
    rw [getD_put (by rw [h.nsz]; exact hd)]
    simp only [upd_apply] at hb' ⊢
    split
    · exact hc
    · rename_i hne; exact h.cl i (by simpa only [hne, if_false] using hb')
  ids i n := by
    simp only [upd_apply]
    split
    · exact hi n
    · exact h.ids i n
  mem := h.mem
  bel := h.bel
  rel := h.rel
  box i g cs hcs := by
    simp only [upd_apply] at hcs
    split at hcs
    · exact absurd hcs (hb g cs)
    · exact h.box i g cs hcs
  row := h.row
  obj := h.obj
  zB := h.zB
  zal := h.zal
  live := h.live

theorem Inv.zmono {E0 : Nat → Prop} {w0 : Ent} {Z Z' : Nat → Prop} {G : Gh} {F : St} {a : Act} {w : World} (h : Inv E0 w0 Z G F a w) (hz : ∀ n, Z n → Z' n) : Inv E0 w0 Z' G F a w :=
  { h with ids := fun i n hi => hz n (h.ids i n hi), zB := fun g b hb => hz g (h.zB g b hb), zal := fun n ha => hz n (h.zal n ha) }
end Go.Proofs.V

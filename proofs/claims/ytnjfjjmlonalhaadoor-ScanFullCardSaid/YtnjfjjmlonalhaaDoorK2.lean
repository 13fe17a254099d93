/- Values without memory against values in a world; what holds of a frame while it runs. -/
import Derived.Test.YtnjfjjmlonalhaaDoorK1
import Derived.Laws.Cells
import Derived.Laws.Entries
import Derived.Laws.NewBlocks
import Derived.ChangeKeysEq
import Derived.Laws.BytesString
namespace Go.Proofs.V
open Go Go.RowKit
set_option linter.unusedVariables false
set_option linter.unusedSimpArgs false

def cellAt (rows : List (List AV)) (i j : Nat) : Option AV := (rows[i]?).bind fun r => r[j]?

/-- An abstract value stands for a value; 'S': cells that nobody writes any more; 'E': where the heap's objects lie. -/
inductive R1 (S : Addr → Option Value) (E : Nat → Option Nat) : AV → Value → Prop
  | at (v : Value) : R1 S E (.at v) v
  | nil (own : Own) : R1 S E (.slice [] true own) (.slice none 0 0)
  | slice (rows : List (List AV)) (own : Own) (b off cap sz : Nat) (val : Nat → Nat → Value) (hlen : rows.length ≤ cap) (hsz : ∀ r ∈ rows, r.length = sz) (hfull : own = .full → cap = rows.length)
      (hpl : ∀ i j x, cellAt rows i j = some x → x.plain = true)
      (hS : ∀ i j x, cellAt rows i j = some x → S ⟨b, off + (i * sz + j), none⟩ = some (val i j)) (hR : ∀ i j x, cellAt rows i j = some x → R1 S E x (val i j)) :
      R1 S E (.slice rows false own) (.slice (some ⟨b, off, none⟩) rows.length cap)
  | ref (row : List AV) (off b o : Nat) (val : Nat → Value) (hpl : ∀ x ∈ row, AV.plain x = true) (hS : ∀ (j : Nat) (x : AV), row[j]? = some x → S ⟨b, o + j, none⟩ = some (val j)) (hR : ∀ (j : Nat) (x : AV), row[j]? = some x → R1 S E x (val j)) :
      R1 S E (.ref row off) (.pointer (some ⟨b, o + off, none⟩))
  | hp (l off b : Nat) (h : E l = some b) : R1 S E (.hp l off) (.pointer (some ⟨b, off, none⟩))
  | fn (f : Fn) (first captured : List AV) (fs cs : List Value) (hf : fs.length = first.length) (hc : cs.length = captured.length)
      (h1 : ∀ (j : Nat) (x : AV) (v : Value), first[j]? = some x → fs[j]? = some v → R1 S E x v) (h2 : ∀ (j : Nat) (x : AV) (v : Value), captured[j]? = some x → cs[j]? = some v → R1 S E x v) : R1 S E (.fn f first captured) (.func f fs.toArray cs.toArray)
  | agg (cs : List AV) (vs : List Value) (hl : vs.length = cs.length) (hpl : ∀ x ∈ cs, AV.plain x = true) (h : ∀ (j : Nat) (x : AV) (v : Value), cs[j]? = some x → vs[j]? = some v → R1 S E x v) : R1 S E (.agg cs) (.agg vs.toArray)
  | tup (cs : List AV) (vs : List Value) (hl : vs.length = cs.length) (h : ∀ (j : Nat) (x : AV) (v : Value), cs[j]? = some x → vs[j]? = some v → R1 S E x v) : R1 S E (.tup cs) (.tuple vs.toArray)
  | ifc (t : TypeId) (x : AV) (v : Value) (h : R1 S E x v) : R1 S E (.ifc t x) (.iface t v)
  | hs (l off len cap sz b : Nat) (h : E l = some b) : R1 S E (.hs l off len cap sz) (.slice (some ⟨b, off, none⟩) len cap)

theorem R1.mono {S S' : Addr → Option Value} {E E' : Nat → Option Nat} (hS : ∀ a v, S a = some v → S' a = some v) (hE : ∀ l b, E l = some b → E' l = some b) {x : AV} {v : Value} (h : R1 S E x v) : R1 S' E' x v := by
  induction h with
  | «at» v => exact .at v
  | nil own => exact .nil own
  | slice rows own b off cap sz val hlen hsz hfull hpl h1 h2 ih => exact .slice rows own b off cap sz val hlen hsz hfull hpl (fun i j x h => hS _ _ (h1 i j x h)) ih
  | ref row off b o val hpl h1 h2 ih => exact .ref row off b o val hpl (fun j x h => hS _ _ (h1 j x h)) ih
  | hp l off b h => exact .hp l off b (hE _ _ h)
  | fn f first captured fs cs hf hc h1 h2 ih1 ih2 => exact .fn f first captured fs cs hf hc ih1 ih2
  | agg cs vs hl hpl h ih => exact .agg cs vs hl hpl ih
  | tup cs vs hl h ih => exact .tup cs vs hl ih
  | ifc t x v h ih => exact .ifc t x v ih
  | hs l off len cap sz b h => exact .hs l off len cap sz b (hE _ _ h)

/-- A value of one cell. -/
theorem R1.one {S : Addr → Option Value} {E : Nat → Option Nat} {x : AV} {v : Value} (h : R1 S E x v) (hx : x.plain = true) : Value.one v = true := by
  cases h with
  | «at» => cases v <;> simp_all [AV.plain, Value.one]
  | agg => cases hx
  | tup => cases hx
  | _ => rfl

theorem val1_R1 {S : Addr → Option Value} {E : Nat → Option Nat} {x : AV} {u v : Value} (hu : val1 x = some u) (h : R1 S E x v) : v = u := by
  cases h <;> simp_all [val1]
theorem vals_R1 {S : Addr → Option Value} {E : Nat → Option Nat} : ∀ {xs : List AV} {us vs : List Value}, vals xs = some us → vs.length = xs.length → (∀ (j : Nat) (x : AV) (v : Value), xs[j]? = some x → vs[j]? = some v → R1 S E x v) → vs = us
  | [], us, vs, hu, hl, _ => by simp [vals] at hu; subst hu; simpa using hl
  | x :: xs, us, [], hu, hl, _ => by simp at hl
  | x :: xs, us, v :: vs, hu, hl, h => by
    unfold vals at hu
    split at hu
    · rename_i w ws h1 h2
      have := Option.some.inj hu
      subst this
      have e1 := val1_R1 h1 (h 0 x v rfl rfl)
      have e2 : vs = ws := vals_R1 h2 (by simpa using hl) (fun j x v hx hv => h (j + 1) x v (by simpa using hx) (by simpa using hv))
      rw [e1, e2]
    · cases hu
theorem val_R1 {S : Addr → Option Value} {E : Nat → Option Nat} {x : AV} {u v : Value} (hu : x.val = some u) (h : R1 S E x v) : v = u := by
  unfold AV.val at hu
  split at hu
  · rename_i cs
    simp only [Option.map_eq_some_iff] at hu
    obtain ⟨us, h1, rfl⟩ := hu
    cases h with
    | agg _ vs hl hpl h => rw [vals_R1 h1 hl h]
  · have := Option.some.inj hu
    subst this
    cases h with
    | tup _ vs hl h => simp at hl; subst hl; rfl
  · exact val1_R1 hu h

theorem abs1_R1 (S : Addr → Option Value) (E : Nat → Option Nat) (v : Value) : R1 S E (abs1 v) v := by
  unfold abs1
  split
  · exact .nil _
  · exact .at v
theorem absV_R1 (S : Addr → Option Value) (E : Nat → Option Nat) (v : Value) : R1 S E (absV v) v := by
  unfold absV
  split
  · exact .nil _
  · rename_i cs
    split
    · rename_i hone
      have : (Value.agg cs) = Value.agg (cs.toList).toArray := by simp
      rw [this]
      refine .agg _ _ (by simp) ?_ ?_
      · intro x hx
        obtain ⟨u, hu, rfl⟩ := List.mem_map.1 hx
        have h1 := List.all_eq_true.1 hone u hu
        unfold abs1
        split
        · rfl
        · cases u <;> simp_all [AV.plain, Value.one]
      · intro j x v hx hv
        rw [List.getElem?_map, hv] at hx
        simp at hx
        subst hx
        exact abs1_R1 S E v
    · exact .at _
  · rename_i cs
    split
    · rename_i h0
      have : cs = #[] := by simpa using h0
      subst this
      exact R1.tup [] [] rfl (fun j x v h => by simp at h)
    · exact .at _
  · exact .at _

/-! ### Marks of ownership -/
def parts : AV → List AV
  | .agg cs => cs
  | .tup cs => cs
  | .box _ cs => cs
  | x => [x]
def vparts : Value → List Value
  | .agg vs => vs.toList
  | .tuple vs => vs.toList
  | v => [v]
structure Rw where
  b : Nat
  len : Nat
  cap : Nat
  sz : Nat
inductive Tg where
  | slot (i : Nat) | row (n : Nat) | obj (l : Nat)
structure Gh where
  S : Addr → Option Value
  B : Nat → Option Nat
  E : Nat → Option Nat
  u : Nat → Option Tg
  ρ : Nat → Rw

def RV (G : Gh) : AV → Value → Prop
  | .fp g _ off, v => ∃ b, G.B g = some b ∧ v = .pointer (some ⟨b, off, none⟩)
  | .box g _, v => ∃ b, G.B g = some b ∧ v = .pointer (some ⟨b, 0, none⟩)
  | x, v => R1 G.S G.E x v
theorem RV_of {G : Gh} {x : AV} {v : Value} (h : R1 G.S G.E x v) : RV G x v := by
  cases h <;> (unfold RV; first | exact .at _ | exact .nil _ | exact .slice _ _ _ _ _ _ _ ‹_› ‹_› ‹_› ‹_› ‹_› ‹_› | exact .ref _ _ _ _ _ ‹_› ‹_› ‹_› | exact .hp _ _ _ ‹_› | exact .fn _ _ _ _ _ ‹_› ‹_› ‹_› ‹_› | exact .agg _ _ ‹_› ‹_› ‹_› | exact .tup _ _ ‹_› ‹_› | exact .ifc _ _ _ ‹_› | exact .hs _ _ _ _ _ _ ‹_›)
theorem R1_of {G : Gh} {x : AV} {v : Value} (h : RV G x v) (hx : x.free = true) : R1 G.S G.E x v := by
  cases x <;> first | (cases hx; done) | exact h

def Cl1 (G : Gh) (al : Nat → Bool) (x : AV) (v : Value) : Prop :=
  ∀ rows nl n, x = .slice rows nl (.id n) → al n = true → v = .slice (some ⟨(G.ρ n).b, 0, none⟩) rows.length (G.ρ n).cap ∧ nl = false ∧ rows.length = (G.ρ n).len ∧ ∀ r ∈ rows, r.length = (G.ρ n).sz
def Cl (G : Gh) (al : Nat → Bool) (x : AV) (v : Value) : Prop := ∀ (j : Nat) (y : AV) (u : Value), (parts x)[j]? = some y → (vparts v)[j]? = some u → Cl1 G al y u
def HasId (n : Nat) (x : AV) : Prop := ∃ y ∈ parts x, ∃ rows nl, y = .slice rows nl (.id n)
def NoId (x : AV) : Prop := ∀ n, ¬ HasId n x
theorem Cl_of_noId {G : Gh} {al : Nat → Bool} {x : AV} {v : Value} (h : NoId x) : Cl G al x v := fun j y u hy hu rows nl n he ha => (h n ⟨y, List.mem_of_getElem? hy, rows, nl, he⟩).elim

theorem noId_abs1 (v : Value) : ∀ rows nl n, abs1 v ≠ .slice rows nl (.id n) := by
  intro rows nl n h
  unfold abs1 at h
  split at h <;> cases h
theorem noId_absV (v : Value) : NoId (absV v) := by
  rintro n ⟨y, hy, rows, nl, rfl⟩
  unfold absV at hy
  split at hy
  · simp [parts] at hy
  · split at hy
    · simp only [parts] at hy
      obtain ⟨u, _, hu⟩ := List.mem_map.1 hy
      exact noId_abs1 u _ _ _ hu
    · simp [parts] at hy
  · split at hy <;> simp [parts] at hy
  · rename_i v h1 h2 h3
    simp [parts] at hy
theorem noId_strip1 (x : AV) : ∀ rows nl n, strip1 x ≠ .slice rows nl (.id n) := by
  intro rows nl n h
  unfold strip1 at h
  split at h
  · cases h
  · cases h
  · rename_i h1 h2; exact h1 rows nl n h
theorem noId_strip {x : AV} (hb : ∀ g cs, x ≠ .box g cs) : NoId (strip x) := by
  rintro n ⟨y, hy, rows, nl, rfl⟩
  unfold strip at hy
  split at hy
  · simp only [parts] at hy
    obtain ⟨u, _, hu⟩ := List.mem_map.1 hy
    exact noId_strip1 u _ _ _ hu
  · simp only [parts] at hy
    obtain ⟨u, _, hu⟩ := List.mem_map.1 hy
    exact noId_strip1 u _ _ _ hu
  · rename_i h1 h2
    cases x with
    | slice r m own =>
      cases own <;> simp [strip1, parts] at hy
    | box g cs => exact hb g cs rfl
    | agg cs => exact h1 cs rfl
    | tup cs => exact h2 cs rfl
    | _ => simp [strip1, parts] at hy

theorem plain_strip1 (x : AV) : (strip1 x).plain = x.plain := by
  unfold strip1; split <;> rfl
theorem strip1_R1 {S : Addr → Option Value} {E : Nat → Option Nat} {x : AV} {v : Value} (h : R1 S E x v) : R1 S E (strip1 x) v := by
  cases h with
  | nil own => cases own <;> exact .nil _
  | slice rows own b off cap sz val hlen hsz hfull hpl h1 h2 =>
    cases own with
    | no => exact .slice rows .no b off cap sz val hlen hsz (by intro h; cases h) hpl h1 h2
    | full => exact .slice rows .full b off cap sz val hlen hsz hfull hpl h1 h2
    | fresh => exact .slice rows .no b off cap sz val hlen hsz (by intro h; cases h) hpl h1 h2
    | id n => exact .slice rows .no b off cap sz val hlen hsz (by intro h; cases h) hpl h1 h2
  | «at» v => exact .at v
  | ref row off b o val hpl h1 h2 => exact .ref row off b o val hpl h1 h2
  | hp l off b h => exact .hp l off b h
  | fn f first captured fs cs hf hc h1 h2 => exact .fn f first captured fs cs hf hc h1 h2
  | agg cs vs hl hpl h => exact .agg cs vs hl hpl h
  | tup cs vs hl h => exact .tup cs vs hl h
  | ifc t x v h => exact .ifc t x v h
  | hs l off len cap sz b h => exact .hs l off len cap sz b h
theorem strip_R1 {S : Addr → Option Value} {E : Nat → Option Nat} {x : AV} {v : Value} (h : R1 S E x v) : R1 S E (strip x) v := by
  cases h with
  | agg cs vs hl hpl h =>
    refine .agg _ _ (by simpa using hl) ?_ ?_
    · intro x hx
      obtain ⟨y, hy, rfl⟩ := List.mem_map.1 hx
      rw [plain_strip1]; exact hpl y hy
    · intro j x v hx hv
      rw [List.getElem?_map] at hx
      simp only [Option.map_eq_some_iff] at hx
      obtain ⟨y, hy, rfl⟩ := hx
      exact strip1_R1 (h j y v hy hv)
  | tup cs vs hl h =>
    refine .tup _ _ (by simpa using hl) ?_
    intro j x v hx hv
    rw [List.getElem?_map] at hx
    simp only [Option.map_eq_some_iff] at hx
    obtain ⟨y, hy, rfl⟩ := hx
    exact strip1_R1 (h j y v hy hv)
  | «at» v => exact .at v
  | nil own => exact strip1_R1 (.nil own)
  | slice rows own b off cap sz val hlen hsz hfull hpl h1 h2 => exact strip1_R1 (.slice rows own b off cap sz val hlen hsz hfull hpl h1 h2)
  | ref row off b o val hpl h1 h2 => exact .ref row off b o val hpl h1 h2
  | hp l off b h => exact .hp l off b h
  | fn f first captured fs cs hf hc h1 h2 => exact .fn f first captured fs cs hf hc h1 h2
  | ifc t x v h => exact .ifc t x v h
  | hs l off len cap sz b h => exact .hs l off len cap sz b h

/-! ### A frame -/
def Mem (S : Addr → Option Value) (w : World) : Prop := ∀ ad v, S ad = some v → w.cell? ad = some v
/-- What lay in w lies as it did, but for the blocks of E0. -/
structure Bel (E0 : Nat → Prop) (w w' : World) : Prop where
  os : w'.os = w.os
  tape : w'.tape = w.tape
  output : w'.output = w.output
  size : w.heap.size ≤ w'.heap.size
  block : ∀ k, k < w.heap.size → ¬ E0 k → w'.heap[k]? = w.heap[k]?
theorem Bel.refl (E0 : Nat → Prop) (w : World) : Bel E0 w w := ⟨rfl, rfl, rfl, Nat.le_refl _, fun _ _ _ => rfl⟩
theorem Bel.trans {E0 : Nat → Prop} {a b c : World} (h : Bel E0 a b) (k : Bel E0 b c) : Bel E0 a c :=
  ⟨k.os.trans h.os, k.tape.trans h.tape, k.output.trans h.output, Nat.le_trans h.size k.size, fun i hi he => (k.block i (Nat.lt_of_lt_of_le hi h.size) he).trans (h.block i hi he)⟩
theorem Bel.below {w w' : World} (h : Bel (fun _ => False) w w') : Below w.heap.size w w' := ⟨h.os, h.tape, h.output, h.size, fun k hk => h.block k hk (fun x => x)⟩

/-- A block of the frame's own, or of the heap: what it holds. -/
def Holds1 (G : Gh) (w : World) (b : Nat) (cs : List AV) (vs : Array Value) : Prop :=
  (∃ ty, w.heap[b]? = some (.cells vs ty (0, 0))) ∧ vs.size = cs.length ∧ (∀ x ∈ cs, AV.plain x = true) ∧ (∀ (j : Nat) (x : AV) (v : Value), cs[j]? = some x → vs[j]? = some v → R1 G.S G.E x v) ∧ ∀ ad : Addr, ad.block = b → G.S ad = none

/-- The world in which a frame began; what was read there already, and where the heap's objects lay. -/
structure Ent extends World where
  S0 : Addr → Option Value
  Em : Nat → Option Nat
  /-- blocks that nobody of the frame touches -/
  pro : Nat → Option (Obj × Bool) := fun _ => none
  /-- where the boxes lie -/
  Bm : Nat → Option Nat := fun _ => none
  /-- blocks that were there, and that the frame takes over as boxes -/
  Ew : Nat → Prop := fun _ => False
  /-- what is deferred -/
  dfr : List Deferred := []
instance : CoeOut Ent World := ⟨Ent.toWorld⟩
def Rel (w0 : Ent) (G : Gh) (F : St) : Prop :=
  (∀ ad v, w0.S0 ad = some v → G.S ad = some v) ∧ (∀ ad : Addr, w0.S0 ad = none → ad.block < w0.heap.size → ¬ w0.Ew ad.block → G.S ad = none) ∧ (∀ l b, w0.Em l = some b → G.E l = some b) ∧ (∀ l b, w0.Em l = none → G.E l = some b → w0.heap.size ≤ b) ∧ ∀ l b, G.E l = some b → l < F.H.length

structure Inv (E0 : Nat → Prop) (w0 : Ent) (Z : Nat → Prop) (G : Gh) (F : St) (a : Act) (w : World) : Prop where
  nsz : a.tmps.size = F.n
  df : a.defers = w0.dfr
  slot : ∀ i, RV G (F.t i) (a.tmps.getD i Go.undef)
  cl : ∀ i, (∀ g cs, F.t i ≠ .box g cs) → Cl G F.al (F.t i) (a.tmps.getD i Go.undef)
  ids : ∀ i n, HasId n (F.t i) → Z n
  mem : Mem G.S w
  bel : Bel E0 w0 w
  rel : Rel w0 G F
  box : ∀ i g cs, F.t i = .box g cs → ∃ b vs, G.B g = some b ∧ (w0.heap.size ≤ b ∨ (w0.Ew b ∧ E0 b)) ∧ G.u b = some (.slot i) ∧ Holds1 G w b cs vs ∧ ∀ (j : Nat) (x : AV) (v : Value), cs[j]? = some x → vs[j]? = some v → Cl1 G F.al x v
  row : ∀ n, F.al n = true → w0.heap.size ≤ (G.ρ n).b ∧ G.u (G.ρ n).b = some (.row n) ∧ (∃ vs ty, w.heap[(G.ρ n).b]? = some (.cells vs ty (0, 0)) ∧ vs.size = (G.ρ n).cap * (G.ρ n).sz) ∧ (0 < (G.ρ n).len ∧ (G.ρ n).len ≤ (G.ρ n).cap) ∧ ∀ o, (G.ρ n).len * (G.ρ n).sz ≤ o → G.S ⟨(G.ρ n).b, o, none⟩ = none
  obj : ∀ l cs, F.H[l]? = some cs → ∃ b vs, G.E l = some b ∧ (w0.heap.size ≤ b ∨ E0 b) ∧ G.u b = some (.obj l) ∧ Holds1 G w b cs vs
  zB : ∀ g b, G.B g = some b → Z g
  zal : ∀ n, F.al n = true → Z n
  live : ∀ b, (G.u b).isSome = true → b < w.heap.size
  pro : ∀ b o, w0.pro b = some o → w.heap[b]? = some o.1 ∧ G.u b = none ∧ (o.2 = true → ∀ ad : Addr, ad.block = b → G.S ad = none)
  bm : ∀ g b, w0.Bm g = some b → G.B g = some b

/-- A step that turns nothing that was there. -/
structure Grow (Z1 : Nat → Prop) (G G' : Gh) (w w' : World) : Prop where
  S : ∀ ad v, G.S ad = some v → G'.S ad = some v
  Snew : ∀ ad, G.S ad = none → ad.block < w.heap.size → G'.S ad = none
  mem : Mem G'.S w'
  B : ∀ g b, G.B g = some b → G'.B g = some b
  Bnew : ∀ g b, G.B g = none → G'.B g = some b → Z1 g
  E : G'.E = G.E
  u : ∀ b, b < w.heap.size → G'.u b = G.u b
  ulive : ∀ b, (G'.u b).isSome = true → b < w'.heap.size
  ρ : ∀ n, ¬ Z1 n → G'.ρ n = G.ρ n
  heap : ∀ b, b < w.heap.size → w'.heap[b]? = w.heap[b]?
  size : w.heap.size ≤ w'.heap.size
  os : w'.os = w.os
  tape : w'.tape = w.tape
  output : w'.output = w.output

theorem Mem.lt {S : Addr → Option Value} {w : World} (h : Mem S w) {ad : Addr} {v : Value} (hv : S ad = some v) : ad.block < w.heap.size := World.block_lt_of_cell? w ad (h ad v hv)

theorem Grow.refl {Z1 : Nat → Prop} {G : Gh} {w : World} (hm : Mem G.S w) (hu : ∀ b, (G.u b).isSome = true → b < w.heap.size) : Grow Z1 G G w w :=
  ⟨fun _ _ h => h, fun _ h _ => h, hm, fun _ _ h => h, fun g b h h' => (by rw [h] at h'; cases h'), rfl, fun _ _ => rfl, hu, fun _ _ => rfl, fun _ _ => rfl, Nat.le_refl _, rfl, rfl, rfl⟩

theorem RV.grow {Z1 : Nat → Prop} {G G' : Gh} {w w' : World} (g : Grow Z1 G G' w w') {x : AV} {v : Value} (h : RV G x v) : RV G' x v := by
  cases x with
  | fp a b c => obtain ⟨k, h1, h2⟩ := h; exact ⟨k, g.B _ _ h1, h2⟩
  | box a b => obtain ⟨k, h1, h2⟩ := h; exact ⟨k, g.B _ _ h1, h2⟩
  | _ => exact R1.mono g.S (fun l b h => by rw [g.E]; exact h) h
theorem Holds1.grow {Z1 : Nat → Prop} {G G' : Gh} {w w' : World} (g : Grow Z1 G G' w w') {b : Nat} {cs : List AV} {vs : Array Value} (h : Holds1 G w b cs vs) : Holds1 G' w' b cs vs := by
  obtain ⟨⟨ty, h1⟩, h2, hp, h3, h4⟩ := h
  have hb : b < w.heap.size := by
    rcases Nat.lt_or_ge b w.heap.size with h | h
    · exact h
    · rw [Array.getElem?_eq_none h] at h1; cases h1
  exact ⟨⟨ty, (g.heap b hb).trans h1⟩, h2, hp, fun j x v hx hv => R1.mono g.S (fun l b h => by rw [g.E]; exact h) (h3 j x v hx hv), fun ad ha => g.Snew ad (h4 ad ha) (by rw [ha]; exact hb)⟩

theorem Cl1.ρ {G G' : Gh} {al al' : Nat → Bool} (hal : ∀ n, al' n = true → al n = true) (hρ : ∀ n, al' n = true → G'.ρ n = G.ρ n) {x : AV} {v : Value} (h : Cl1 G al x v) : Cl1 G' al' x v := by
  intro rows nl n he ha
  rw [hρ n ha]
  exact h rows nl n he (hal n ha)

theorem Inv.grow {E0 : Nat → Prop} {w0 : Ent} {Z Z1 : Nat → Prop} {G G' : Gh} {F : St} {a : Act} {w w' : World} (h : Inv E0 w0 Z G F a w) (g : Grow Z1 G G' w w') (hz : ∀ n, Z n → ¬ Z1 n) : Inv E0 w0 (fun n => Z n ∨ Z1 n) G' F a w' where
  nsz := h.nsz
  df := h.df
  slot i := (h.slot i).grow g
  cl i hb j y u hy hu := (h.cl i hb j y u hy hu).ρ (fun _ h => h) (fun n ha => g.ρ n (hz n (h.zal n ha)))
  ids i n hi := .inl (h.ids i n hi)
  mem := g.mem
  bel := h.bel.trans ⟨g.os, g.tape, g.output, g.size, fun k hk _ => g.heap k hk⟩
  rel := ⟨fun ad v hv => g.S _ _ (h.rel.1 ad v hv), fun ad h0 hb he => g.Snew ad (h.rel.2.1 ad h0 hb he) (Nat.lt_of_lt_of_le hb h.bel.size), fun l b hb => by rw [g.E]; exact h.rel.2.2.1 l b hb, fun l b h0 hb => h.rel.2.2.2.1 l b h0 (by rw [← g.E]; exact hb), fun l b hb => h.rel.2.2.2.2 l b (by rw [← g.E]; exact hb)⟩
  box i gg cs hc := by
    obtain ⟨b, vs, h1, h2, h3, h4, h5⟩ := h.box i gg cs hc
    have hb := h.live b (by rw [h3]; rfl)
    exact ⟨b, vs, g.B _ _ h1, h2, (g.u b hb).trans h3, h4.grow g, fun j x v hx hv => (h5 j x v hx hv).ρ (fun _ h => h) (fun n ha => g.ρ n (hz n (h.zal n ha)))⟩
  row n ha := by
    obtain ⟨h1, h2, ⟨vs, ty, h3, h3'⟩, h4, h5⟩ := h.row n ha
    have hρ := g.ρ n (hz n (h.zal n ha))
    have hb := h.live _ (by rw [h2]; rfl)
    rw [hρ]
    exact ⟨h1, (g.u _ hb).trans h2, ⟨vs, ty, (g.heap _ hb).trans h3, h3'⟩, h4, fun o ho => g.Snew _ (h5 o ho) hb⟩
  obj l cs hl := by
    obtain ⟨b, vs, h1, h2, h3, h4⟩ := h.obj l cs hl
    have hb := h.live b (by rw [h3]; rfl)
    exact ⟨b, vs, by rw [g.E]; exact h1, h2, (g.u b hb).trans h3, h4.grow g⟩
  zB gg b hb := by
    cases hg : G.B gg with
    | none => exact .inr (g.Bnew gg b hg hb)
    | some b' => exact .inl (h.zB gg b' hg)
  zal n ha := .inl (h.zal n ha)
  live b hb := g.ulive b hb
  pro b o hb := by
    obtain ⟨h1, h2, h3⟩ := h.pro b o hb
    have hlt := (Array.getElem?_eq_some_iff.1 h1).1
    exact ⟨(g.heap b hlt).trans h1, (g.u b hlt).trans h2, fun hf ad ha => g.Snew ad (h3 hf ad ha) (by rw [ha]; exact hlt)⟩
  bm gg b hb := g.B _ _ (h.bm gg b hb)

theorem getD_put {a : Act} {d : Nat} {v : Value} (hd : d < a.tmps.size) (i : Nat) : (a.put (some d) v).tmps.getD i Go.undef = if i = d then v else a.tmps.getD i Go.undef := by
  simp only [Act.put]
  by_cases h : i = d
  · subst h; simp [hd]
  · rw [if_neg h]
    rw [Array.getD_eq_getD_getElem?, Array.getD_eq_getD_getElem?, Array.getElem?_setIfInBounds_ne (Ne.symm h)]

/-- A slot takes a value that is no box. -/
theorem Inv.set {E0 : Nat → Prop} {w0 : Ent} {Z : Nat → Prop} {G : Gh} {F : St} {a : Act} {w : World} (h : Inv E0 w0 Z G F a w) {d : Nat} {x : AV} {v : Value} (hd : d < F.n) (hb : ∀ g cs, x ≠ .box g cs)
    (hr : RV G x v) (hc : Cl G F.al x v) (hi : ∀ n, HasId n x → Z n) : Inv E0 w0 Z G { F with t := upd F.t d x } (a.put (some d) v) w where
  nsz := by simp [Act.put]; exact h.nsz
  df := by simp [Act.put]; exact h.df
  slot i := by
    rw [getD_put (by rw [h.nsz]; exact hd)]
    simp only [upd_apply]
    split
    · exact hr
    · exact h.slot i
  cl i hb' := by
    rw [getD_put (by rw [h.nsz]; exact hd)]
    simp only [upd_apply] at hb' ⊢
    split
    · exact hc
    · rename_i hne; exact h.cl i (by simpa only [hne, if_false] using hb')
  ids i n := by
    simp only [upd_apply]
    split
    · exact hi n
    · exact h.ids i n
  mem := h.mem
  bel := h.bel
  rel := h.rel
  box i g cs hcs := by
    simp only [upd_apply] at hcs
    split at hcs
    · exact absurd hcs (hb g cs)
    · exact h.box i g cs hcs
  row := h.row
  obj := h.obj
  zB := h.zB
  zal := h.zal
  live := h.live
  pro := h.pro
  bm := h.bm

theorem Inv.zmono {E0 : Nat → Prop} {w0 : Ent} {Z Z' : Nat → Prop} {G : Gh} {F : St} {a : Act} {w : World} (h : Inv E0 w0 Z G F a w) (hz : ∀ n, Z n → Z' n) : Inv E0 w0 Z' G F a w :=
  { h with ids := fun i n hi => hz n (h.ids i n hi), zB := fun g b hb => hz g (h.zB g b hb), zal := fun n ha => hz n (h.zal n ha) }
end Go.Proofs.V
namespace Go.Proofs.V
open Go Go.RowKit
set_option linter.unusedVariables false
set_option linter.unusedSimpArgs false

section
variable {P : Program}
theorem tsz_info {t : TypeId} {n : Nat} (h : tsz P t = some n) : ∃ i, P.info? t = some i ∧ i.size = n := by
  unfold tsz at h
  simpa [Option.map_eq_some_iff] using h
theorem run_tsz {t : TypeId} {n : Nat} (h : tsz P t = some n) (w : World) : (sizeOf t).run P w = .ok n w := by
  obtain ⟨i, h1, h2⟩ := tsz_info h
  simp [sizeOf, typeInfo, Sem.run_bind, h1, h2]
theorem run_tagg {t : TypeId} {g : Bool} (h : tagg P t = some g) (w : World) : (isAgg t).run P w = .ok g w := by
  unfold tagg at h
  split at h <;> first | (cases h; done) | skip
  all_goals (rename_i hd; have hg := Option.some.inj h; subst hg; simp only [isAgg, Sem.run_bind, run_underlying hd, Result.andThen_ok])
  · rfl
  · rfl
  · rfl
theorem tel_und {t e : TypeId} (h : tel P t = some e) : P.underlying t = some (.slice e) := by
  unfold tel at h
  split at h
  · rename_i hd; rw [hd, Option.some.inj h]
  · cases h
theorem tarr_und {t e : TypeId} {n : Nat} (h : tarr P t = some (n, e)) : P.underlying t = some (.array n e) := by
  unfold tarr at h
  split at h
  · rename_i hd; have := Option.some.inj h; cases this; exact hd
  · cases h
theorem tfield_und {t ft : TypeId} {i off : Nat} (h : tfield P t i = some (off, ft)) : ∃ (fs : Array Field) (f : Field), P.underlying t = some (.struct fs) ∧ fs[i]? = some f ∧ f.offset = off ∧ f.type = ft := by
  unfold tfield at h
  split at h
  · rename_i fs hd
    simp only [Option.map_eq_some_iff] at h
    obtain ⟨f, h1, h2⟩ := h
    cases h2
    exact ⟨fs, f, hd, h1, rfl, rfl⟩
  · cases h
theorem tzero_info {t : TypeId} {cs : List AV} (h : tzero P t = some cs) : ∃ i z, P.info? t = some i ∧ i.zero = some z ∧ cs = (absV z).cells ∧ (∀ x ∈ cs, AV.plain x = true) ∧ cs.length = z.cells.size := by
  unfold tzero at h
  split at h
  · rename_i z hz
    obtain ⟨i, h1, h2⟩ := Option.bind_eq_some_iff.1 hz
    split at h
    · rename_i hc
      have := Option.some.inj h
      subst this
      simp only [Bool.and_eq_true, List.all_eq_true, beq_iff_eq] at hc
      exact ⟨i, z, h1, h2, rfl, hc.1, hc.2⟩
    · cases h
  · cases h
theorem run_zero {t : TypeId} {i : TypeInfo} {z : Value} (h1 : P.info? t = some i) (h2 : i.zero = some z) (w : World) : (zeroValue t).run P w = .ok z w := by
  simp [zeroValue, typeInfo, Sem.run_bind, h1, h2]
end

theorem isStr_und {P : Program} {t : TypeId} (h : isStr P t = true) : P.underlying t = some .string := by
  unfold isStr at h
  split at h
  · assumption
  · cases h
theorem isU8_und {P : Program} {t : TypeId} (h : isU8 P t = true) : P.underlying t = some (.int .u8) := by
  unfold isU8 at h
  split at h
  · assumption
  · cases h

/-- Cell by cell. -/
def PW (G : Gh) (cs : List AV) (vs : Array Value) : Prop := vs.size = cs.length ∧ (∀ x ∈ cs, AV.plain x = true) ∧ ∀ (j : Nat) (x : AV) (v : Value), cs[j]? = some x → vs[j]? = some v → R1 G.S G.E x v

theorem absV_cells (G : Gh) (z : Value) (hp : ∀ x ∈ (absV z).cells, AV.plain x = true) : ∀ (j : Nat) (x : AV) (v : Value), (absV z).cells[j]? = some x → z.cells[j]? = some v → R1 G.S G.E x v := by
  intro j x v hx hv
  have key := absV_R1 G.S G.E z
  cases hz : absV z with
  | agg cs =>
    rw [hz] at key hx
    cases key with
    | agg _ vs hl hpl h => exact h j x v hx (by simpa [Value.cells] using hv)
  | «at» u =>
    rw [hz] at key hx hp
    have hpu := hp (.at u) (by simp [AV.cells])
    cases key
    cases j with
    | succ j => simp [AV.cells] at hx
    | zero =>
      simp [AV.cells] at hx
      subst hx
      cases z <;> simp_all [AV.plain, Value.cells] <;> (subst hv; exact .at _)
  | slice r n o =>
    rw [hz] at key hx
    cases j with
    | succ j => simp [AV.cells] at hx
    | zero =>
      simp [AV.cells] at hx
      subst hx
      cases key <;> (simp [Value.cells] at hv; subst hv)
      · exact .nil _
      · exact .slice _ _ _ _ _ _ _ ‹_› ‹_› ‹_› ‹_› ‹_› ‹_›
  | tup cs => rw [hz] at hp; exact absurd (hp (.tup cs) (by simp [AV.cells])) (by simp [AV.plain])
  | _ => exfalso; unfold absV at hz; split at hz <;> first | (cases hz; done) | (split at hz <;> cases hz)
theorem PW.val {G : Gh} {cs : List AV} {vs : Array Value} (h : PW G cs vs) {j : Nat} {x : AV} (hx : cs[j]? = some x) : ∃ v, vs[j]? = some v ∧ R1 G.S G.E x v := by
  have hj : j < vs.size := by rw [h.1]; exact (List.getElem?_eq_some_iff.1 hx).1
  exact ⟨vs[j], Array.getElem?_eq_getElem hj, h.2.2 j x _ hx (Array.getElem?_eq_getElem hj)⟩

theorem cells_R1 {G : Gh} {x : AV} {v : Value} (h : R1 G.S G.E x v) (hs : x.storable = true) : PW G x.cells v.cells := by
  cases h with
  | agg cs vs hl hpl h => exact ⟨by simp [Value.cells, AV.cells, hl], hpl, fun j x v hx hv => h j x v hx (by simpa [Value.cells] using hv)⟩
  | tup => cases hs
  | «at» v =>
    refine ⟨?_, ?_, ?_⟩
    · cases v <;> simp_all [AV.storable, Value.cells, AV.cells]
    · intro x hx; simp [AV.cells] at hx; subst hx; cases v <;> simp_all [AV.storable, AV.plain]
    · intro j x u hx hu
      cases j with
      | succ j => simp [AV.cells] at hx
      | zero => simp [AV.cells] at hx; subst hx; cases v <;> simp_all [AV.storable, Value.cells] <;> (subst hu; exact .at _)
  | nil own => exact ⟨rfl, by simp [AV.cells, AV.plain], fun j x v hx hv => by cases j <;> simp [AV.cells, Value.cells] at hx hv; subst hx; subst hv; exact .nil _⟩
  | slice rows own b off cap sz val hlen hsz hfull hpl h1 h2 => exact ⟨rfl, by simp [AV.cells, AV.plain], fun j x v hx hv => by cases j <;> simp [AV.cells, Value.cells] at hx hv; subst hx; subst hv; exact .slice rows own b off cap sz val hlen hsz hfull hpl h1 h2⟩
  | ref row off b o val hpl h1 h2 => exact ⟨rfl, by simp [AV.cells, AV.plain], fun j x v hx hv => by cases j <;> simp [AV.cells, Value.cells] at hx hv; subst hx; subst hv; exact .ref row off b o val hpl h1 h2⟩
  | hp l off b h => exact ⟨rfl, by simp [AV.cells, AV.plain], fun j x v hx hv => by cases j <;> simp [AV.cells, Value.cells] at hx hv; subst hx; subst hv; exact .hp l off b h⟩
  | fn f first captured fs cs hf hc h1 h2 => exact ⟨rfl, by simp [AV.cells, AV.plain], fun j x v hx hv => by cases j <;> simp [AV.cells, Value.cells] at hx hv; subst hx; subst hv; exact .fn f first captured fs cs hf hc h1 h2⟩
  | ifc t x v h => exact ⟨rfl, by simp [AV.cells, AV.plain], fun j y u hx hv => by cases j <;> simp [AV.cells, Value.cells] at hx hv; subst hx; subst hv; exact .ifc t x v h⟩
  | hs l off len cap sz b h => exact ⟨rfl, by simp [AV.cells, AV.plain], fun j y u hx hv => by cases j <;> simp [AV.cells, Value.cells] at hx hv; subst hx; subst hv; exact .hs l off len cap sz b h⟩
theorem PW.strip {G : Gh} {cs : List AV} {vs : Array Value} (h : PW G cs vs) : PW G (cs.map strip1) vs := by
  refine ⟨by simpa using h.1, ?_, ?_⟩
  · intro x hx
    obtain ⟨y, hy, rfl⟩ := List.mem_map.1 hx
    rw [plain_strip1]; exact h.2.1 y hy
  · intro j x v hx hv
    rw [List.getElem?_map] at hx
    simp only [Option.map_eq_some_iff] at hx
    obtain ⟨y, hy, rfl⟩ := hx
    exact strip1_R1 (h.2.2 j y v hy hv)

/-! ### The operands -/
def Z1 (lab : Nat) (n : Nat) : Prop := lab ≤ n ∧ n < lab + 64
/-- What is known of an operand. -/
structure Opd (G : Gh) (F : St) (Z : Nat → Prop) (x : AV) (v : Value) : Prop where
  rv : RV G x v
  nb : ∀ g cs, x ≠ .box g cs
  cl : Cl G F.al x v
  ids : ∀ n, HasId n x → Z n
section
variable {E0 : Nat → Prop} {w0 : Ent} {Z : Nat → Prop} {G : Gh} {F : St} {a : Act} {w : World} {P : Program} {lab : Nat}
theorem Opd.of_noId {x : AV} {v : Value} (h : R1 G.S G.E x v) (hn : NoId x) : Opd G F Z x v := ⟨RV_of h, (by rintro g cs rfl; cases h), Cl_of_noId hn, fun n hi => (hn n hi).elim⟩
theorem noId_fp (g t off : Nat) : NoId (.fp g t off) := by rintro n ⟨y, hy, rows, nl, rfl⟩; simp [parts] at hy
theorem opd (h : Inv E0 w0 Z G F a w) (x : Operand) : Opd G F Z (F.ev x) (a.eval x) := by
  cases x with
  | const v => exact .of_noId (absV_R1 _ _ v) (noId_absV v)
  | global g => exact .of_noId (.at _) (by rintro n ⟨y, hy, rows, nl, rfl⟩; simp [parts, St.ev] at hy)
  | func f => exact .of_noId (R1.fn (.func f) [] [] [] [] rfl rfl (fun j x v h => by simp at h) (fun j x v h => by simp at h)) (by rintro n ⟨y, hy, rows, nl, rfl⟩; simp [parts, St.ev] at hy)
  | tmp t =>
    have hs := h.slot t
    have hc := h.cl t
    have hi := h.ids t
    show Opd G F Z (F.tmp t) (a.tmps.getD t Go.undef)
    unfold St.tmp
    split
    · rename_i g cs he
      rw [he] at hs
      exact ⟨hs, (by intro g cs h; cases h), Cl_of_noId (noId_fp _ _ _), fun n hi => (noId_fp _ _ _ n hi).elim⟩
    · rename_i hnb
      exact ⟨hs, fun g cs he => hnb g cs he, hc (fun g cs he => hnb g cs he), fun n hn => hi n hn⟩

/-- What is yielded, and what holds then. -/
def Yields (E0 : Nat → Prop) (w0 : Ent) (Z : Nat → Prop) (lab : Nat) (d : Nat) (G : Gh) (F : St) (a : Act) (w : World) (P : Program) (o : Oper) (x : AV) : Prop :=
  ∃ v w' G', (execOp a.eval o).run P w = .ok (.value v) w' ∧ Inv E0 w0 (fun n => Z n ∨ Z1 lab n) G' { F with t := upd F.t d x } (a.put (some d) v) w'
theorem Yields.same (h : Inv E0 w0 Z G F a w) {d : Nat} (hd : d < F.n) {o : Oper} {x : AV} {v : Value} (hrun : (execOp a.eval o).run P w = .ok (.value v) w) (ho : Opd G F Z x v) : Yields E0 w0 Z lab d G F a w P o x :=
  ⟨v, w, G, hrun, (h.set hd ho.nb ho.rv ho.cl ho.ids).zmono fun n hn => .inl hn⟩
/-- A new row that nobody writes. -/
def Gh.addRow (G : Gh) (b : Nat) (vs : Array Value) : Gh := { G with S := fun ad => if ad.block = b ∧ ad.spot = none then vs[ad.off]? else G.S ad }
theorem grow_row (h : Inv E0 w0 Z G F a w) (vs : Array Value) (ty : TypeId) : Grow (Z1 lab) G (G.addRow w.heap.size vs) w (w.alloc (.cells vs ty)) where
  S ad v hv := by
    have := h.mem.lt hv
    simp only [Gh.addRow]
    rw [if_neg (by rintro ⟨h1, _⟩; omega)]
    exact hv
  Snew ad hn hb := by
    simp only [Gh.addRow]
    rw [if_neg (by rintro ⟨h1, _⟩; omega)]
    exact hn
  mem ad v hv := by
    simp only [Gh.addRow] at hv
    split at hv
    · rename_i hb
      obtain ⟨b, o, s⟩ := ad
      obtain ⟨rfl, rfl⟩ := hb
      rw [World.cell?_alloc_new]
      exact hv
    · have := h.mem.lt hv
      rw [World.cell?_alloc_lt _ _ _ this]
      exact h.mem ad v hv
  B g b hb := hb
  Bnew g b h1 h2 := by rw [show (G.addRow w.heap.size vs).B g = G.B g from rfl, h1] at h2; cases h2
  E := rfl
  u b hb := rfl
  ulive b hb := by have := h.live b hb; simp; omega
  ρ n hn := rfl
  heap b hb := Below.heap_alloc w _ b hb
  size := by simp
  os := rfl
  tape := rfl
  output := rfl
theorem notZ1 (hz : ∀ n, Z1 lab n → ¬ Z n) : ∀ n, Z n → ¬ Z1 lab n := fun n h1 h2 => hz n h2 h1
theorem Yields.row (h : Inv E0 w0 Z G F a w) (hz : ∀ n, Z1 lab n → ¬ Z n) {d : Nat} (hd : d < F.n) {o : Oper} {x : AV} {v : Value} {vs : Array Value} {ty : TypeId} (hrun : (execOp a.eval o).run P w = .ok (.value v) (w.alloc (.cells vs ty)))
    (hx : R1 (G.addRow w.heap.size vs).S G.E x v) (hn : NoId x) : Yields E0 w0 Z lab d G F a w P o x := by
  refine ⟨v, _, G.addRow w.heap.size vs, hrun, ?_⟩
  have h1 := h.grow (grow_row (lab := lab) h vs ty) (notZ1 hz)
  have ho : Opd (G.addRow w.heap.size vs) F (fun n => Z n ∨ Z1 lab n) x v := .of_noId hx hn
  exact h1.set hd ho.nb ho.rv ho.cl ho.ids
/-- A new box. -/
def Gh.addBox (G : Gh) (g d b : Nat) : Gh := { G with B := fun n => if n = g then some b else G.B n, u := fun k => if k = b then some (.slot d) else G.u k }
theorem Yields.box (h : Inv E0 w0 Z G F a w) (hz : ∀ n, Z1 lab n → ¬ Z n) {d : Nat} (hd : d < F.n) {o : Oper} {cs : List AV} {vs : Array Value} {ty : TypeId} (hrun : (execOp a.eval o).run P w = .ok (.value (.pointer (some ⟨w.heap.size, 0, none⟩))) (w.alloc (.cells vs ty)))
    (hp : PW G cs vs) (hn : ∀ y ∈ cs, ∀ rows nl n, y ≠ .slice rows nl (.id n)) : Yields E0 w0 Z lab d G F a w P o (.box lab cs) := by
  have hl : Z1 lab lab := ⟨Nat.le_refl _, by omega⟩
  have hB : G.B lab = none := by
    cases hb : G.B lab with
    | none => rfl
    | some b => exact absurd (h.zB _ _ hb) (hz lab hl)
  have hSn : ∀ ad : Addr, ad.block = w.heap.size → G.S ad = none := by
    intro ad ha
    cases hs : G.S ad with
    | none => rfl
    | some v => have := h.mem.lt hs; omega
  have hg : Grow (Z1 lab) G (G.addBox lab d w.heap.size) w (w.alloc (.cells vs ty)) := {
    S := fun _ _ hv => hv
    Snew := fun _ hv _ => hv
    mem := fun ad v hv => by
      have := h.mem.lt hv
      rw [World.cell?_alloc_lt _ _ _ this]
      exact h.mem ad v hv
    B := fun g b hb => by
      simp only [Gh.addBox]
      split
      · rename_i he; subst he; rw [hB] at hb; cases hb
      · exact hb
    Bnew := fun g b h1 h2 => by
      simp only [Gh.addBox] at h2
      split at h2
      · rename_i he; subst he; exact hl
      · rw [h1] at h2; cases h2
    E := rfl
    u := fun b hb => by simp only [Gh.addBox]; rw [if_neg (by omega)]
    ulive := fun b hb => by
      simp only [Gh.addBox] at hb
      simp
      split at hb
      · omega
      · have := h.live b hb; omega
    ρ := fun _ _ => rfl
    heap := fun b hb => Below.heap_alloc w _ b hb
    size := by simp
    os := rfl
    tape := rfl
    output := rfl }
  have h1 := h.grow hg (notZ1 hz)
  refine ⟨_, _, G.addBox lab d w.heap.size, hrun, ?_⟩
  have hnew : (w.alloc (.cells vs ty)).heap[w.heap.size]? = some (.cells vs ty (0, 0)) := by
    show (w.heap.push _)[w.heap.size]? = _
    simp
  exact {
    nsz := by simp [Act.put]; exact h1.nsz
    df := by simp [Act.put]; exact h1.df
    slot := fun i => by
      rw [getD_put (by rw [h.nsz]; exact hd)]
      simp only [upd_apply]
      split
      · exact ⟨w.heap.size, by simp [Gh.addBox], rfl⟩
      · exact h1.slot i
    cl := fun i hb' => by
      rw [getD_put (by rw [h.nsz]; exact hd)]
      simp only [upd_apply] at hb' ⊢
      split
      · rename_i he; exact absurd (by rw [if_pos he]) (hb' lab cs)
      · rename_i hne; exact h1.cl i (by simpa only [hne, if_false] using hb')
    ids := fun i n => by
      simp only [upd_apply]
      split
      · rintro ⟨y, hy, rows, nl, he⟩
        exact absurd he (hn y hy rows nl n)
      · exact h1.ids i n
    mem := h1.mem
    bel := h1.bel
    rel := h1.rel
    box := fun i g cs' hcs => by
      simp only [upd_apply] at hcs
      split at hcs
      · rename_i he
        cases hcs
        subst he
        refine ⟨w.heap.size, vs, by simp [Gh.addBox], .inl h.bel.size, by simp [Gh.addBox], ⟨⟨ty, hnew⟩, hp.1, hp.2.1, fun j x v hx hv => hp.2.2 j x v hx hv, hSn⟩, ?_⟩
        intro j x v hx hv rows nl n he' ha
        exact absurd he' (hn x (List.mem_of_getElem? hx) rows nl n)
      · obtain ⟨b, vs', q1, q2, q3, q4, q5⟩ := h1.box i g cs' hcs
        exact ⟨b, vs', q1, q2, q3, q4, q5⟩
    row := h1.row
    obj := h1.obj
    zB := h1.zB
    zal := h1.zal
    live := h1.live
    pro := h1.pro
    bm := h1.bm }
end
end Go.Proofs.V
namespace Go.Proofs.V
open Go Go.RowKit
set_option linter.unusedVariables false
set_option linter.unusedSimpArgs false

section
variable {E0 : Nat → Prop} {w0 : Ent} {Z : Nat → Prop} {G : Gh} {F : St} {a : Act} {w : World} {P : Program} {lab : Nat} {d : Nat}

theorem q_move (h : Inv E0 w0 Z G F a w) (hd : d < F.n) {o : Oper} {x : Operand} (ho : o.op = .move x ∨ o.op = .assign x) : Yields E0 w0 Z lab d G F a w P o (F.ev x) :=
  Yields.same h hd (v := a.eval x) (by rcases ho with ho | ho <;> simp [execOp, ho]) (opd h x)

theorem bool_opd {x : AV} {v : Value} {t : Bool} (h : Opd G F Z x v) (hx : x = .at (.bool t)) : v = .bool t := by
  subst hx
  have := h.rv
  cases this
  rfl
theorem q_pick (h : Inv E0 w0 Z G F a w) (hd : d < F.n) {o : Oper} {c x y : Operand} (ho : o.op = .pick c x y) {t : Bool} (hc : F.ev c = .at (.bool t)) : Yields E0 w0 Z lab d G F a w P o (if t then F.ev x else F.ev y) := by
  have hv := bool_opd (opd h c) hc
  cases t with
  | true => exact Yields.same h hd (v := a.eval x) (by simp [execOp, ho, hv, asBool]) (opd h x)
  | false => exact Yields.same h hd (v := a.eval y) (by simp [execOp, ho, hv, asBool]) (opd h y)

theorem q_alloc (h : Inv E0 w0 Z G F a w) (hz : ∀ n, Z1 lab n → ¬ Z n) (hd : d < F.n) {o : Oper} {e : TypeId} (ho : o.op = .alloc e) {cs : List AV} (hc : tzero P e = some cs) : Yields E0 w0 Z lab d G F a w P o (.box lab cs) := by
  obtain ⟨i, z, h1, h2, rfl, hp, hl⟩ := tzero_info hc
  refine Yields.box h hz hd (vs := z.cells) (ty := e) ?_ ⟨hl.symm, hp, absV_cells G z hp⟩ ?_
  · simp [execOp, ho, Instr.alloc, Sem.run_bind, run_zero h1 h2, newVar, newRow]
  · intro y hy rows nl n he
    subst he
    unfold AV.cells at hy
    split at hy
    · rename_i cs hcs
      exact noId_absV z n ⟨_, by rw [hcs]; exact hy, rows, nl, rfl⟩
    · rename_i hna
      simp at hy
      exact noId_absV z n ⟨.slice rows nl (.id n), by rw [← hy]; simp [parts], rows, nl, rfl⟩

theorem opd_R1 {x : AV} {v : Value} (h : Opd G F Z x v) (hx : x.free = true) : R1 G.S G.E x v := R1_of h.rv hx
theorem storable_free {x : AV} (h : x.storable = true) : x.free = true := by
  unfold AV.storable at h
  unfold AV.free
  split at h <;> first | (cases h; done) | (split <;> simp_all)
theorem q_box (h : Inv E0 w0 Z G F a w) (hz : ∀ n, Z1 lab n → ¬ Z n) (hd : d < F.n) {o : Oper} {e : TypeId} {x : Operand} (ho : o.op = .box e x) (hs : (F.ev x).storable = true) : Yields E0 w0 Z lab d G F a w P o (.box lab ((F.ev x).cells.map strip1)) := by
  have hr := opd_R1 (opd h x) (storable_free hs)
  refine Yields.box h hz hd (vs := (a.eval x).cells) (ty := e) ?_ (cells_R1 hr hs).strip ?_
  · simp [execOp, ho, Instr.box, Sem.run_bind, newVar, newRow]
  · intro y hy rows nl n he
    subst he
    obtain ⟨u, _, hu⟩ := List.mem_map.1 hy
    exact noId_strip1 u _ _ _ hu

theorem strip2_slice {x : AV} : (∃ rows nl own, x = .slice rows nl own ∧ strip2 x = x) ∨ strip2 x = strip x := by
  unfold strip2
  split
  · exact .inl ⟨_, _, _, rfl, rfl⟩
  · exact .inr rfl
theorem q_extract (h : Inv E0 w0 Z G F a w) (hd : d < F.n) {o : Oper} {x : Operand} {i : Nat} (ho : o.op = .extract x i) {vs : List AV} (hx : F.ev x = .tup vs) {y : AV} (hy : vs[i]? = some y) : Yields E0 w0 Z lab d G F a w P o (strip2 y) := by
  have ho' := opd h x
  rw [hx] at ho'
  have hr : R1 G.S G.E (.tup vs) (a.eval x) := ho'.rv
  generalize hv : a.eval x = v at *
  cases hr with
  | tup _ us hl hpt =>
    obtain ⟨u, hu⟩ : ∃ u, us[i]? = some u := by
      have : i < vs.length := (List.getElem?_eq_some_iff.1 hy).1
      exact ⟨us[i]'(by omega), List.getElem?_eq_getElem (by omega)⟩
    have hr := hpt i y u hy hu
    have hrun : (execOp a.eval o).run P w = .ok (.value u) w := by simp [execOp, ho, hv, Instr.extract, hu]
    rcases strip2_slice (x := y) with ⟨rows, nl, own, rfl, e⟩ | e
    · rw [e]
      refine Yields.same h hd hrun ⟨RV_of hr, (by rintro g cs h; cases h), ?_, fun n hn => ?_⟩
      · intro j z t hz ht
        cases j with
        | succ j => simp [parts] at hz
        | zero =>
          have hvp : vparts u = [u] := by cases hr <;> rfl
          rw [hvp] at ht
          simp [parts] at hz ht
          subst hz; subst ht
          exact ho'.cl i _ _ hy (by simpa [vparts] using hu)
      · obtain ⟨z, hz, r2, n2, rfl⟩ := hn
        simp only [parts, List.mem_singleton] at hz
        exact ho'.ids n ⟨_, by simp only [parts]; exact List.mem_of_getElem? hy, r2, n2, hz.symm⟩
    · rw [e]
      exact Yields.same h hd hrun (.of_noId (strip_R1 hr) (noId_strip (by rintro g cs rfl; cases hr)))

theorem q_pr (h : Inv E0 w0 Z G F a w) (hd : d < F.n) {o : Oper} {s : Sem Value} {u : Value} (hrun : execOp a.eval o = (do pure (.value (← s)))) (hs : pr P s = some u) : Yields E0 w0 Z lab d G F a w P o (absV u) := by
  refine Yields.same h hd (v := u) ?_ (.of_noId (absV_R1 _ _ u) (noId_absV u))
  rw [hrun]
  simp [Sem.run_bind, pr_run s u hs]

theorem val_free {x : AV} {u : Value} (h : x.val = some u) (hb : ∀ g cs, x ≠ .box g cs) : ∀ {v}, RV G x v → v = u := by
  intro v hv
  cases x with
  | fp g t off => simp [AV.val, val1] at h
  | box g cs => exact absurd rfl (hb g cs)
  | _ => exact val_R1 h hv
theorem q_bin (h : Inv E0 w0 Z G F a w) (hd : d < F.n) {o : Oper} {op : BinOp} {xt yt : TypeId} {x y : Operand} (ho : o.op = .binOp op xt x y yt) {r : AV} (hr : binA P op xt x y (F.ev x) (F.ev y) = some r) : Yields E0 w0 Z lab d G F a w P o r := by
  unfold binA at hr
  split at hr
  · rename_i u v hu hv
    simp only [Option.map_eq_some_iff] at hr
    obtain ⟨q, hq, rfl⟩ := hr
    have e1 := val_free hu (opd h x).nb (opd h x).rv
    have e2 := val_free hv (opd h y).nb (opd h y).rv
    refine q_pr h hd (s := do eqGuard op xt x y u v; binOp op xt u v) ?_ hq
    simp only [execOp, ho, e1, e2]
  · cases hr
theorem q_un (h : Inv E0 w0 Z G F a w) (hd : d < F.n) {o : Oper} {op : UnOp} {xt : TypeId} {x : Operand} (ho : o.op = .unOp op xt x) {u r : Value} (hu : (F.ev x).val = some u) (hr : pr P (Op.unary op u) = some r) : Yields E0 w0 Z lab d G F a w P o (absV r) := by
  have e1 := val_free hu (opd h x).nb (opd h x).rv
  exact q_pr h hd (s := Op.unary op u) (by simp only [execOp, ho, e1]) hr

/-! ### Pointers -/
theorem shift_R {x y : AV} {k : Nat} (hs : x.shift k = some y) {v : Value} (hr : RV G x v) : ∃ b o, v = .pointer (some ⟨b, o, none⟩) ∧ RV G y (.pointer (some ⟨b, o + k, none⟩)) ∧ NoId y ∧ (∀ g cs, y ≠ .box g cs) := by
  cases x <;> simp only [AV.shift] at hs <;> first | (cases hs; done) | skip
  · rename_i row off
    have := Option.some.inj hs; subst this
    have hr : R1 G.S G.E (.ref row off) v := hr
    cases hr with
    | ref _ _ b o val hpl h1 h2 =>
      refine ⟨b, o + off, rfl, ?_, by rintro n ⟨y, hy, rows, nl, rfl⟩; simp [parts] at hy, by intro g cs h; cases h⟩
      have := R1.ref (S := G.S) (E := G.E) row (off + k) b o val hpl h1 h2
      rw [← Nat.add_assoc] at this
      exact this
  · rename_i g t off
    have := Option.some.inj hs; subst this
    obtain ⟨b, hb, rfl⟩ := hr
    exact ⟨b, off, rfl, ⟨b, hb, rfl⟩, noId_fp _ _ _, by intro g cs h; cases h⟩
  · rename_i l off
    have := Option.some.inj hs; subst this
    have hr : R1 G.S G.E (.hp l off) v := hr
    cases hr with
    | hp _ _ b hb => exact ⟨b, off, rfl, R1.hp l (off + k) b hb, by rintro n ⟨y, hy, rows, nl, rfl⟩; simp [parts] at hy, by intro g cs h; cases h⟩
theorem add_none (b o k : Nat) : (⟨b, o, none⟩ : Addr).add k = ⟨b, o + k, none⟩ := by
  unfold Addr.add
  split
  · rename_i h; subst h; rfl
  · rfl

theorem q_fieldAddr (h : Inv E0 w0 Z G F a w) (hd : d < F.n) {o : Oper} {t : TypeId} {x : Operand} {i : Nat} (ho : o.op = .fieldAddr t x i) {r : AV} (hr : fieldAddrA P t (F.ev x) i = some r) : Yields E0 w0 Z lab d G F a w P o r := by
  unfold fieldAddrA at hr
  split at hr
  · rename_i off sz hpl
    split at hr
    · cases hr
    · rename_i hne
      unfold placeOf at hpl
      split at hpl
      · rename_i off' ft hf
        simp only [Option.map_eq_some_iff] at hpl
        obtain ⟨sz', hsz, he⟩ := hpl
        cases he
        obtain ⟨fs, f, hu, hfi, ho1, ho2⟩ := tfield_und hf
        obtain ⟨b, p, hv, hrv, hni, hnb⟩ := shift_R hr (opd h x).rv
        refine Yields.same h hd (v := .pointer (some ⟨b, p + off, none⟩)) ?_ ⟨hrv, hnb, Cl_of_noId hni, fun n hn => (hni n hn).elim⟩
        simp [execOp, ho, hv, Instr.fieldAt, Sem.run_bind, run_underlying hu, hfi, Instr.sureAddr, fieldPlace, ho2, run_tsz hsz, hne, ho1, add_none]
      · cases hpl
  · cases hr

theorem int_opd {x : AV} {v : Value} {n : Int} (hb : RV G x v) (hx : intOfA x = some n) : ∃ k, v = .int k n := by
  unfold intOfA at hx
  split at hx
  · have := Option.some.inj hx; subst this
    cases hb
    exact ⟨_, rfl⟩
  · cases hx

theorem cellAt_row {rows : List (List AV)} {i : Nat} {row : List AV} (h : rows[i]? = some row) (j : Nat) : cellAt rows i j = row[j]? := by simp [cellAt, h]

theorem q_indexAddr (h : Inv E0 w0 Z G F a w) (hd : d < F.n) {o : Oper} {t : TypeId} {x i : Operand} (ho : o.op = .indexAddr t x i) {r : AV} (hr : indexAddrA P t (F.ev x) (F.ev i) = some r) : Yields E0 w0 Z lab d G F a w P o r := by
  unfold indexAddrA at hr
  split at hr
  · rename_i rows nl own n hx hi
    obtain ⟨k, hiv⟩ := int_opd (opd h i).rv hi
    split at hr
    · rename_i e he
      split at hr
      · rename_i h0
        split at hr
        · rename_i row hrow
          split at hr
          · rename_i hsz
            have := Option.some.inj hr; subst this
            have hlt : n.toNat < rows.length := (List.getElem?_eq_some_iff.1 hrow).1
            have hxr := (opd h x).rv
            rw [hx] at hxr
            have hxr : R1 G.S G.E (.slice rows nl own) (a.eval x) := hxr
            generalize hv : a.eval x = v at *
            cases hxr with
            | nil => simp at hlt
            | slice _ _ b off cap sz val hlen hall hfull hpl h1 h2 =>
              have hszr : row.length = sz := hall row (List.mem_of_getElem? hrow)
              have hcell := cellAt_row hrow
              refine Yields.same h hd (v := .pointer (some ⟨b, off + n.toNat * sz, none⟩)) ?_ (.of_noId ?_ ?_)
              · have hn : n < (rows.length : Int) := by omega
                simp [execOp, ho, hv, hiv, Instr.indexAt, asIntOf, Sem.run_bind, run_underlying (tel_und he), run_tsz hsz, h0, hn, add_none, hszr]
              · refine R1.ref row 0 b (off + n.toNat * sz) (fun j => val n.toNat j) (fun x hx => ?_) (fun j x hx => ?_) (fun j x hx => ?_)
                · obtain ⟨j, hj⟩ := List.getElem?_of_mem hx
                  exact hpl n.toNat j x (by rw [hcell]; exact hj)
                · have := h1 n.toNat j x (by rw [hcell]; exact hx)
                  rw [Nat.add_assoc]; exact this
                · exact h2 n.toNat j x (by rw [hcell]; exact hx)
              · rintro n ⟨y, hy, rows, nl, rfl⟩; simp [parts] at hy
          · cases hr
        · cases hr
      · cases hr
    · cases hr
  · rename_i loc off len cap sz n hx hi
    obtain ⟨k, hiv⟩ := int_opd (opd h i).rv hi
    split at hr
    · rename_i e he
      split at hr
      · rename_i h0
        have := Option.some.inj hr; subst this
        have hxr := (opd h x).rv
        rw [hx] at hxr
        have hxr : R1 G.S G.E (.hs loc off len cap sz) (a.eval x) := hxr
        generalize hv : a.eval x = v at *
        cases hxr with
        | hs _ _ _ _ _ b hb =>
          refine Yields.same h hd (v := .pointer (some ⟨b, off + n.toNat * sz, none⟩)) ?_ (.of_noId (.hp _ _ _ hb) ?_)
          · simp [execOp, ho, hv, hiv, Instr.indexAt, asIntOf, Sem.run_bind, run_underlying (tel_und he), run_tsz h0.2.2, h0.1, h0.2.1, add_none]
          · rintro n ⟨y, hy, rows, nl, rfl⟩; simp [parts] at hy
      · cases hr
    · cases hr
  · rename_i n hi hnx hnh
    obtain ⟨k, hiv⟩ := int_opd (opd h i).rv hi
    split at hr
    · rename_i len e he
      split at hr
      · rename_i h0
        split at hr
        · rename_i sz hsz
          obtain ⟨b, q, hv, hrv, hni, hnb⟩ := shift_R hr (opd h x).rv
          refine Yields.same h hd (v := .pointer (some ⟨b, q + n.toNat * sz, none⟩)) ?_ ⟨hrv, hnb, Cl_of_noId hni, fun n hn => (hni n hn).elim⟩
          simp [execOp, ho, hv, hiv, Instr.indexAt, asIntOf, Sem.run_bind, run_underlying (tarr_und he), run_tsz hsz, h0.1, h0.2, add_none, Instr.sureAddr]
        · cases hr
      · cases hr
    · cases hr
  · cases hr
end
end Go.Proofs.V
namespace Go.Proofs.V
open Go Go.RowKit
set_option linter.unusedVariables false
set_option linter.unusedSimpArgs false

section
variable {E0 : Nat → Prop} {w0 : Ent} {Z : Nat → Prop} {G : Gh} {F : St} {a : Act} {w : World} {P : Program} {lab : Nat} {d : Nat}

theorem plain_parts {x : AV} (h : x.plain = true) : parts x = [x] := by cases x <;> first | rfl | (cases h)
/-- A part of a row against the part of the cells. -/
theorem part_R {cs : List AV} {f : Nat → Value} {g : Bool} {n off : Nat} {r : AV} (hp : partA g n cs off = some r) (hn : g = false → True) (hpl : ∀ x ∈ cs, AV.plain x = true)
    (hR : ∀ (j : Nat) (x : AV), cs[j]? = some x → R1 G.S G.E x (f j)) : (g = true → off + n ≤ cs.length ∧ R1 G.S G.E r (.agg ((List.range n).map fun j => f (off + j)).toArray)) ∧ (g = false → off < cs.length ∧ R1 G.S G.E r (f off)) ∧ (∀ n, HasId n r → ∃ (j : Nat) (x : AV), cs[j]? = some x ∧ HasId n x) ∧ (∀ g cs, r ≠ .box g cs) := by
  unfold partA at hp
  cases g with
  | true =>
    simp only [if_true, Option.map_eq_some_iff, take?] at hp
    obtain ⟨l, hl, rfl⟩ := hp
    split at hl
    · rename_i hle
      have := Option.some.inj hl; subst this
      refine ⟨fun _ => ⟨hle, ?_⟩, (by intro h; cases h), ?_, by intro g cs h; cases h⟩
      · refine R1.agg _ _ (by simp; omega) ?_ ?_
        · intro x hx
          exact hpl x (List.mem_of_mem_drop (List.mem_of_mem_take hx))
        · intro j x v hx hv
          rw [List.getElem?_take] at hx
          split at hx
          · rename_i hjn
            rw [List.getElem?_drop] at hx
            have := hR _ _ hx
            rw [List.getElem?_map, List.getElem?_range hjn] at hv
            simp at hv
            subst hv
            exact this
          · cases hx
      · rintro n ⟨y, hy, rows, nl, rfl⟩
        simp only [parts] at hy
        have hm := List.mem_of_mem_drop (List.mem_of_mem_take hy)
        obtain ⟨j, hj⟩ := List.getElem?_of_mem hm
        exact ⟨j, _, hj, ⟨_, by simp [parts], rows, nl, rfl⟩⟩
    · cases hl
  | false =>
    simp only [Bool.false_eq_true, if_false] at hp
    refine ⟨(by intro h; cases h), fun _ => ⟨(List.getElem?_eq_some_iff.1 hp).1, hR _ _ hp⟩, fun n hi => ⟨off, r, hp, hi⟩, ?_⟩
    rintro g cs rfl
    have := hpl _ (List.mem_of_getElem? hp)
    cases this

theorem run_loadVar {t : TypeId} {g : Bool} {n : Nat} (hg : tagg P t = some g) (hn : tsz P t = some n) (b o : Nat) (f : Nat → Value) (h1 : g = true → ∀ j, j < n → w.cell? ⟨b, o + j, none⟩ = some (f j)) (h2 : g = false → w.cell? ⟨b, o, none⟩ = some (f 0)) :
    (loadVar t ⟨b, o, none⟩).run P w = .ok (if g then .agg ((List.range n).map f).toArray else f 0) w := by
  cases g with
  | true =>
    simp only [loadVar, Sem.run_bind, run_tagg hg, Result.andThen_ok, if_true, run_tsz hn]
    rw [run_loadCells w ⟨b, o, none⟩ n f (fun j hj => by rw [add_none]; exact h1 rfl j hj)]
    rfl
  | false =>
    simp only [loadVar, Sem.run_bind, run_tagg hg, Result.andThen_ok, Bool.false_eq_true, if_false, run_load, h2 rfl]

theorem keep_other {p x : AV} (h : ∀ g t off, p ≠ .fp g t off) : keep p x = strip x := by
  unfold keep
  split
  · rename_i h'; exact absurd rfl (h _ _ _)
  · rfl
theorem nb_strip {x : AV} (h : ∀ g cs, x ≠ .box g cs) : ∀ g cs, strip x ≠ .box g cs := by
  intro g cs he
  unfold strip at he
  split at he
  · cases he
  · cases he
  · unfold strip1 at he
    split at he
    · cases he
    · cases he
    · exact h g cs he

theorem q_loadO (h : Inv E0 w0 Z G F a w) {t : TypeId} {p : Operand} {ds : List Nat} {row : List AV} {off n : Nat} {g : Bool} {r : AV}
    (hl : F.look ds (F.ev p) = some (row, off)) (hn : tsz P t = some n) (hg : tagg P t = some g) (hr : partA g n row off = some r) : ∃ ad v, a.eval p = .pointer (some ad) ∧ (loadVar t ad).run P w = .ok v w ∧ Opd G F Z (keep (F.ev p) r) v := by
  have hp := opd h p
  generalize hpv : F.ev p = pv at *
  generalize hv : a.eval p = v at *
  cases pv <;> simp only [St.look] at hl <;> first | (cases hl; done) | skip
  · -- a row that nobody writes
    rename_i row' off'
    have := Option.some.inj hl
    cases this
    have hrv : R1 G.S G.E (.ref row off) v := hp.rv
    cases hrv with
    | ref _ _ b o' val hpl h1 h2 =>
      obtain ⟨q1, q2, q3, q4⟩ := part_R (G := G) (f := val) hr (fun _ => trivial) hpl h2
      have hrun : (loadVar t ⟨b, o' + off, none⟩).run P w = .ok (if g then .agg ((List.range n).map fun j => val (off + j)).toArray else val off) w := by
        have := run_loadVar (P := P) (w := w) hg hn b (o' + off) (fun j => val (off + j)) (fun hgt j hj => by
          have hjl : off + j < row.length := by have := (q1 hgt).1; omega
          rw [Nat.add_assoc]
          exact h.mem _ _ (h1 _ _ (List.getElem?_eq_getElem hjl))) (fun hgf => h.mem _ _ (h1 off _ (List.getElem?_eq_getElem (q2 hgf).1)))
        simp only [Nat.add_zero] at this
        exact this
      rw [keep_other (by intro g t off h; cases h)]
      refine ⟨_, _, rfl, hrun, (.of_noId (strip_R1 ?_) (noId_strip q4))⟩
      cases g with
      | true => exact (q1 rfl).2
      | false => exact (q2 rfl).2
  · -- a box
    rename_i gg tt off'
    split at hl
    · cases hl
    · split at hl
      · rename_i g' cs hcs
        split at hl
        · rename_i hgg
          have := Option.some.inj hl
          cases this
          subst hgg
          obtain ⟨b, vs, hB, _, _, ⟨⟨ty, hheap⟩, hsz, hpl, hR, _⟩, hcl⟩ := h.box tt gg row hcs
          obtain ⟨b', hb', rfl⟩ := hp.rv
          rw [hB] at hb'
          have := Option.some.inj hb'; subst this
          have hcell : ∀ j, w.cell? ⟨b, j, none⟩ = vs[j]? := fun j => by simp [World.cell?, hheap]
          have hf : ∀ (j : Nat) (x : AV), row[j]? = some x → vs[j]? = some (vs.getD j Go.undef) := fun j x hx => by
            have hj : j < vs.size := by rw [hsz]; exact (List.getElem?_eq_some_iff.1 hx).1
            simp [Array.getD, hj]
          obtain ⟨q1, q2, q3, q4⟩ := part_R (G := G) (f := fun j => vs.getD j Go.undef) hr (fun _ => trivial) hpl (fun j x hx => hR j x _ hx (hf j x hx))
          have hrun : (loadVar t ⟨b, off, none⟩).run P w = .ok (if g then .agg ((List.range n).map fun j => vs.getD (off + j) Go.undef).toArray else vs.getD off Go.undef) w := by
            have := run_loadVar (P := P) (w := w) hg hn b off (fun j => vs.getD (off + j) Go.undef) (fun hgt j hj => by
              have hjl : off + j < row.length := by have := (q1 hgt).1; omega
              rw [hcell]; exact hf _ _ (List.getElem?_eq_getElem hjl)) (fun hgf => by
              have hjl : off < row.length := (q2 hgf).1
              rw [hcell]; exact hf _ _ (List.getElem?_eq_getElem hjl))
            simp only [Nat.add_zero] at this
            exact this
          refine ⟨_, _, rfl, hrun, ?_⟩
          show Opd G F Z r _
          cases g with
          | true =>
            refine ⟨RV_of (q1 rfl).2, q4, ?_, fun n hn => ?_⟩
            · intro j y u hy hu
              simp only [partA, if_true, Option.map_eq_some_iff, take?] at hr
              obtain ⟨l, hl', rfl⟩ := hr
              split at hl'
              · have := Option.some.inj hl'; subst this
                simp only [parts] at hy
                rw [List.getElem?_take] at hy
                split at hy
                · rename_i hjn
                  rw [List.getElem?_drop] at hy
                  simp only [if_true, vparts, List.getElem?_map, List.getElem?_range hjn, Option.map_some, Option.some.injEq] at hu
                  subst hu
                  exact hcl _ _ _ hy (hf _ _ hy)
                · cases hy
              · cases hl'
            · obtain ⟨j, x, hx, hi⟩ := q3 n hn
              have hpx := hpl x (List.mem_of_getElem? hx)
              obtain ⟨y, hy, rows, nl, rfl⟩ := hi
              have hxy : x = .slice rows nl (.id n) := by
                rw [plain_parts hpx] at hy
                exact (List.mem_singleton.1 hy).symm
              exact h.ids tt n ⟨_, by rw [hcs]; simp [parts]; exact List.mem_of_getElem? hx, rows, nl, hxy⟩
          | false =>
            simp only [partA, Bool.false_eq_true, if_false] at hr
            have hpx := hpl r (List.mem_of_getElem? hr)
            refine ⟨RV_of (q2 rfl).2, q4, ?_, fun n hn => ?_⟩
            · intro j y u hy hu
              have hpr : parts r = [r] := by cases r <;> first | rfl | (cases hpx)
              have hone := R1.one (q2 rfl).2 hpx
              have hvp : vparts (vs.getD off Go.undef) = [vs.getD off Go.undef] := by
                generalize vs.getD off Go.undef = z at *
                cases z <;> first | rfl | (cases hone)
              rw [hpr] at hy
              simp only [Bool.false_eq_true, if_false, hvp] at hu
              cases j with
              | succ j => simp at hy
              | zero =>
                have e1 : r = y := Option.some.inj hy
                have e2 : vs.getD off Go.undef = u := Option.some.inj hu
                subst e1; subst e2
                exact hcl off _ _ hr (hf _ _ hr)
            · obtain ⟨y, hy, rows, nl, rfl⟩ := hn
              have hxy : r = .slice rows nl (.id n) := by
                rw [plain_parts hpx] at hy
                exact (List.mem_singleton.1 hy).symm
              exact h.ids tt n ⟨_, by rw [hcs]; simp [parts]; exact List.mem_of_getElem? hr, rows, nl, hxy⟩
        · cases hl
      · cases hl
  · -- the heap
    rename_i l off'
    split at hl
    · cases hl
    simp only [Option.map_eq_some_iff] at hl
    obtain ⟨cs, hcs, he⟩ := hl
    cases he
    obtain ⟨b, vs, hE, _, _, ⟨⟨ty, hheap⟩, hsz, hpl, hR, _⟩⟩ := h.obj l row hcs
    have hrv : R1 G.S G.E (.hp l off) v := hp.rv
    cases hrv with
    | hp _ _ b' hb' =>
      rw [hE] at hb'
      have := Option.some.inj hb'; subst this
      have hcell : ∀ j, w.cell? ⟨b, j, none⟩ = vs[j]? := fun j => by simp [World.cell?, hheap]
      have hf : ∀ (j : Nat) (x : AV), row[j]? = some x → vs[j]? = some (vs.getD j Go.undef) := fun j x hx => by
        have hj : j < vs.size := by rw [hsz]; exact (List.getElem?_eq_some_iff.1 hx).1
        simp [Array.getD, hj]
      obtain ⟨q1, q2, q3, q4⟩ := part_R (G := G) (f := fun j => vs.getD j Go.undef) hr (fun _ => trivial) hpl (fun j x hx => hR j x _ hx (hf j x hx))
      have hrun : (loadVar t ⟨b, off, none⟩).run P w = .ok (if g then .agg ((List.range n).map fun j => vs.getD (off + j) Go.undef).toArray else vs.getD off Go.undef) w := by
        have := run_loadVar (P := P) (w := w) hg hn b off (fun j => vs.getD (off + j) Go.undef) (fun hgt j hj => by
          have hjl : off + j < row.length := by have := (q1 hgt).1; omega
          rw [hcell]; exact hf _ _ (List.getElem?_eq_getElem hjl)) (fun hgf => by
          have hjl : off < row.length := (q2 hgf).1
          rw [hcell]; exact hf _ _ (List.getElem?_eq_getElem hjl))
        simp only [Nat.add_zero] at this
        exact this
      rw [keep_other (by intro g t off h; cases h)]
      refine ⟨_, _, rfl, hrun, (.of_noId (strip_R1 ?_) (noId_strip q4))⟩
      cases g with
      | true => exact (q1 rfl).2
      | false => exact (q2 rfl).2

theorem q_load (h : Inv E0 w0 Z G F a w) (hd : d < F.n) {o : Oper} {t : TypeId} {p : Operand} (ho : o.op = .load t p) {ds : List Nat} {row : List AV} {off n : Nat} {g : Bool} {r : AV}
    (hl : F.look ds (F.ev p) = some (row, off)) (hn : tsz P t = some n) (hg : tagg P t = some g) (hr : partA g n row off = some r) : Yields E0 w0 Z lab d G F a w P o (keep (F.ev p) r) := by
  obtain ⟨ad, v, h1, h2, h3⟩ := q_loadO h hl hn hg hr
  exact Yields.same h hd (v := v) (by simp [execOp, ho, h1, Instr.loadAt, Instr.sureAddr, Sem.run_bind, h2]) h3

theorem q_nil (h : Inv E0 w0 Z G F a w) (hd : d < F.n) {o : Oper} {x : Operand} (ho : o.op = .nilCheck x) (hx : ∃ k y, (F.ev x).shift k = some y) : Yields E0 w0 Z lab d G F a w P o (F.ev x) := by
  obtain ⟨k, y, hy⟩ := hx
  obtain ⟨b, q, hv, _⟩ := shift_R hy (opd h x).rv
  exact Yields.same h hd (v := a.eval x) (by simp [execOp, ho, hv]) (opd h x)

theorem part_run (cs : List Value) {t : TypeId} {g : Bool} {n off : Nat} (hg : tagg P t = some g) (hn : tsz P t = some n) (h1 : g = true → off + n ≤ cs.length) (h2 : g = false → off < cs.length) :
    (part t cs.toArray off).run P w = .ok (if g then .agg ((List.range n).map fun j => cs.getD (off + j) Go.undef).toArray else cs.getD off Go.undef) w := by
  cases g with
  | true =>
    simp only [part, Sem.run_bind, run_tagg hg, Result.andThen_ok, if_true, run_tsz hn, Sem.run_pure]
    congr 2
    apply Array.ext'
    have := h1 rfl
    apply List.ext_getElem?
    intro j
    by_cases hj : j < n
    · have hlt : off + j < cs.length := by omega
      simp [hj, List.getD, Array.toList_extract, hlt]
    · simp [hj, Array.toList_extract]
      omega
  | false =>
    have := h2 rfl
    simp [part, Sem.run_bind, run_tagg hg, List.getD, this]
end
end Go.Proofs.V
namespace Go.Proofs.V
open Go Go.RowKit
set_option linter.unusedVariables false
set_option linter.unusedSimpArgs false

section
variable {E0 : Nat → Prop} {w0 : Ent} {Z : Nat → Prop} {G : Gh} {F : St} {a : Act} {w : World} {P : Program} {lab : Nat} {d : Nat}

theorem nid_at (v : Value) : NoId (.at v) := by rintro n ⟨y, hy, rows, nl, rfl⟩; simp [parts] at hy

/-- A part of an aggregate that is held as a value. -/
theorem part_opd {cs : List AV} {vs : List Value} (hx : Opd G F Z (.agg cs) (.agg vs.toArray)) (hl : vs.length = cs.length) (hpl : ∀ x ∈ cs, AV.plain x = true)
    (hR : ∀ (j : Nat) (x : AV) (v : Value), cs[j]? = some x → vs[j]? = some v → R1 G.S G.E x v) {g : Bool} {n off : Nat} {r : AV} (hp : partA g n cs off = some r) :
    (g = true → off + n ≤ vs.length) ∧ (g = false → off < vs.length) ∧ Opd G F Z r (if g then .agg ((List.range n).map fun j => vs.getD (off + j) Go.undef).toArray else vs.getD off Go.undef) := by
  have hf : ∀ (j : Nat) (x : AV), cs[j]? = some x → vs[j]? = some (vs.getD j Go.undef) := fun j x hx => by
    have hj : j < vs.length := by rw [hl]; exact (List.getElem?_eq_some_iff.1 hx).1
    simp [List.getD, hj]
  obtain ⟨q1, q2, q3, q4⟩ := part_R (G := G) (f := fun j => vs.getD j Go.undef) hp (fun _ => trivial) hpl (fun j x hx => hR j x _ hx (hf j x hx))
  have hcl : ∀ (j : Nat) (x : AV), cs[j]? = some x → Cl1 G F.al x (vs.getD j Go.undef) := fun j x hxj => hx.cl j x _ hxj (by simpa [vparts] using hf j x hxj)
  refine ⟨fun hg => by rw [hl]; exact (q1 hg).1, fun hg => by rw [hl]; exact (q2 hg).1, ?_⟩
  cases g with
  | true =>
    refine ⟨RV_of (q1 rfl).2, q4, ?_, fun n hn => ?_⟩
    · intro j y u hy hu
      simp only [partA, if_true, Option.map_eq_some_iff, take?] at hp
      obtain ⟨l, hl', rfl⟩ := hp
      split at hl'
      · have := Option.some.inj hl'; subst this
        simp only [parts] at hy
        rw [List.getElem?_take] at hy
        split at hy
        · rename_i hjn
          rw [List.getElem?_drop] at hy
          simp only [if_true, vparts, List.getElem?_map, List.getElem?_range hjn, Option.map_some, Option.some.injEq] at hu
          subst hu
          exact hcl _ _ hy
        · cases hy
      · cases hl'
    · obtain ⟨j, x, hxj, hi⟩ := q3 n hn
      have hpx := hpl x (List.mem_of_getElem? hxj)
      obtain ⟨y, hy, rows, nl, rfl⟩ := hi
      rw [plain_parts hpx] at hy
      have hxy := (List.mem_singleton.1 hy).symm
      exact hx.ids n ⟨_, by simp [parts]; exact List.mem_of_getElem? hxj, rows, nl, hxy⟩
  | false =>
    simp only [partA, Bool.false_eq_true, if_false] at hp
    have hpx := hpl r (List.mem_of_getElem? hp)
    refine ⟨RV_of (q2 rfl).2, q4, ?_, fun n hn => ?_⟩
    · intro j y u hy hu
      have hone := R1.one (q2 rfl).2 hpx
      have hvp : vparts (vs.getD off Go.undef) = [vs.getD off Go.undef] := by
        generalize vs.getD off Go.undef = z at *
        cases z <;> first | rfl | (cases hone)
      rw [plain_parts hpx] at hy
      simp only [Bool.false_eq_true, if_false, hvp] at hu
      cases j with
      | succ j => simp at hy
      | zero =>
        have e1 : r = y := Option.some.inj hy
        have e2 : vs.getD off Go.undef = u := Option.some.inj hu
        subst e1; subst e2
        exact hcl off _ hp
    · obtain ⟨y, hy, rows, nl, rfl⟩ := hn
      rw [plain_parts hpx] at hy
      have hxy := (List.mem_singleton.1 hy).symm
      exact hx.ids n ⟨_, by simp [parts]; exact List.mem_of_getElem? hp, rows, nl, hxy⟩

theorem q_field (h : Inv E0 w0 Z G F a w) (hd : d < F.n) {o : Oper} {t : TypeId} {x : Operand} {i : Nat} (ho : o.op = .field t x i) {r : AV} (hr : fieldA P t (F.ev x) i = some r) : Yields E0 w0 Z lab d G F a w P o r := by
  unfold fieldA at hr
  split at hr
  · rename_i cs off ft hx hf
    split at hr
    · rename_i sz g hsz hg
      obtain ⟨fs, f, hu, hfi, ho1, ho2⟩ := tfield_und hf
      have hop := opd h x
      rw [hx] at hop
      have hrv : R1 G.S G.E (.agg cs) (a.eval x) := hop.rv
      generalize hv : a.eval x = v at *
      cases hrv with
      | agg _ vs hl hpl hR =>
        obtain ⟨q1, q2, q3⟩ := part_opd hop hl hpl hR hr
        refine Yields.same h hd ?_ q3
        have := part_run (P := P) (w := w) vs hg hsz q1 q2
        simp [execOp, ho, hv, Instr.field, Sem.run_bind, run_underlying hu, hfi, asAgg, ho1, ho2, this]
    · cases hr
  · cases hr

theorem ba_get (s : ByteArray) (i : Nat) : s[i]? = s.data.toList[i]? := by
  have : s[i]? = s.data[i]? := by simp [getElem?, decidableGetElem?]; rfl
  rw [this]; simp

theorem q_index (h : Inv E0 w0 Z G F a w) (hd : d < F.n) {o : Oper} {t : TypeId} {x i : Operand} (ho : o.op = .index t x i) {r : AV} (hr : indexA P t (F.ev x) (F.ev i) = some r) : Yields E0 w0 Z lab d G F a w P o r := by
  unfold indexA at hr
  split at hr
  · rename_i s n hx hi
    obtain ⟨k, hiv⟩ := int_opd (opd h i).rv hi
    split at hr
    · rename_i hc
      simp only [Option.map_eq_some_iff] at hr
      obtain ⟨b, hb, rfl⟩ := hr
      have hop := opd h x
      rw [hx] at hop
      have hrv : R1 G.S G.E (.at (.string s)) (a.eval x) := hop.rv
      generalize hv : a.eval x = v at *
      cases hrv
      refine Yields.same h hd (v := .int .u8 b.toNat) ?_ (.of_noId (.at _) (nid_at _))
      have hb' : s.data[n.toNat]? = some b := by simpa using hb
      simp [execOp, ho, hv, hiv, Instr.index, asIntOf, Sem.run_bind, run_underlying (isStr_und hc.2), hc.1, ba_get, hb']
    · cases hr
  · rename_i cs n hx hi
    obtain ⟨k, hiv⟩ := int_opd (opd h i).rv hi
    split at hr
    · rename_i len e he
      split at hr
      · rename_i hc
        split at hr
        · rename_i sz g hsz hg
          have hop := opd h x
          rw [hx] at hop
          have hrv : R1 G.S G.E (.agg cs) (a.eval x) := hop.rv
          generalize hv : a.eval x = v at *
          cases hrv with
          | agg _ vs hl hpl hR =>
            obtain ⟨q1, q2, q3⟩ := part_opd hop hl hpl hR hr
            refine Yields.same h hd ?_ q3
            have := part_run (P := P) (w := w) vs hg hsz q1 q2
            simp [execOp, ho, hv, hiv, Instr.index, asIntOf, Sem.run_bind, run_underlying (tarr_und he), hc.1, hc.2, run_tsz hsz, this]
        · cases hr
      · cases hr
    · cases hr
  · cases hr

theorem q_nilEq (h : Inv E0 w0 Z G F a w) (hd : d < F.n) {o : Oper} {op : BinOp} {xt yt : TypeId} {x y : Operand} (ho : o.op = .binOp op xt x y yt) {r : AV} (hr : nilEq P op xt (F.ev x) (F.ev y) = some r) : Yields E0 w0 Z lab d G F a w P o r := by
  have key : ∀ rows nl own own', F.ev x = .slice rows nl own → F.ev y = .slice [] true own' → ∃ oa len cap, a.eval x = .slice oa len cap ∧ nl = oa.isNone ∧ a.eval y = .slice none 0 0 := by
    intro rows nl own own' hx hy
    have h1 := (opd h x).rv
    have h2 := (opd h y).rv
    rw [hx] at h1; rw [hy] at h2
    have h1 : R1 G.S G.E (.slice rows nl own) (a.eval x) := h1
    have h2 : R1 G.S G.E (.slice [] true own') (a.eval y) := h2
    generalize a.eval x = v at *
    generalize a.eval y = u at *
    cases h2
    cases h1
    · exact ⟨none, 0, 0, rfl, rfl, rfl⟩
    · exact ⟨_, _, _, rfl, rfl, rfl⟩
  have fin : ∀ e rows nl own own', tel P xt = some e → F.ev x = .slice rows nl own → F.ev y = .slice [] true own' → (op = .eql → Yields E0 w0 Z lab d G F a w P o (.at (.bool nl))) ∧ (op = .neq → Yields E0 w0 Z lab d G F a w P o (.at (.bool !nl))) := by
    intro e rows nl own own' he hx hy
    obtain ⟨oa, len, cap, e1, e2, e3⟩ := key rows nl own own' hx hy
    have heq : ∀ w : World, (Op.equal xt (.slice oa len cap) (.slice none 0 0)).run P w = .ok oa.isNone w := by
      intro w
      unfold Op.equal Op.maxDepth
      unfold Op.equalIn
      simp only [Sem.run_bind, run_underlying (tel_und he), Result.andThen_ok]
      cases oa <;> rfl
    constructor
    · rintro rfl
      refine Yields.same h hd (v := .bool nl) ?_ (.of_noId (.at _) (nid_at _))
      simp [execOp, ho, e1, e3, eqGuard, binOp, Sem.run_bind, heq, e2]
    · rintro rfl
      refine Yields.same h hd (v := .bool !nl) ?_ (.of_noId (.at _) (nid_at _))
      simp [execOp, ho, e1, e3, eqGuard, binOp, Sem.run_bind, heq, e2]
  have finh : ∀ e l off len cap sz own', tel P xt = some e → F.ev x = .hs l off len cap sz → F.ev y = .slice [] true own' → (op = .eql → Yields E0 w0 Z lab d G F a w P o (.at (.bool false))) ∧ (op = .neq → Yields E0 w0 Z lab d G F a w P o (.at (.bool true))) := by
    intro e l off len cap sz own' he hx hy
    have h1 := (opd h x).rv
    have h2 := (opd h y).rv
    rw [hx] at h1; rw [hy] at h2
    have h1 : R1 G.S G.E (.hs l off len cap sz) (a.eval x) := h1
    have h2 : R1 G.S G.E (.slice [] true own') (a.eval y) := h2
    generalize e1 : a.eval x = v at *
    generalize e2 : a.eval y = u at *
    cases h2
    cases h1 with
    | hs _ _ _ _ _ b hb =>
      have heq : ∀ w : World, (Op.equal xt (.slice (some ⟨b, off, none⟩) len cap) (.slice none 0 0)).run P w = .ok false w := by
        intro w
        unfold Op.equal Op.maxDepth
        unfold Op.equalIn
        simp only [Sem.run_bind, run_underlying (tel_und he), Result.andThen_ok]
        rfl
      constructor
      · rintro rfl
        refine Yields.same h hd (v := .bool false) ?_ (.of_noId (.at _) (nid_at _))
        simp [execOp, ho, e1, e2, eqGuard, binOp, Sem.run_bind, heq]
      · rintro rfl
        refine Yields.same h hd (v := .bool true) ?_ (.of_noId (.at _) (nid_at _))
        simp [execOp, ho, e1, e2, eqGuard, binOp, Sem.run_bind, heq]
  unfold nilEq at hr
  split at hr
  · rename_i e r' rs nl own own' he hx hy
    have := Option.some.inj hr; subst this
    exact (fin _ _ _ _ _ he hx hy).1 rfl
  · rename_i e r' rs nl own own' he hx hy
    have := Option.some.inj hr; subst this
    exact (fin _ _ _ _ _ he hx hy).2 rfl
  · rename_i e nl own own' he hx hy
    have := Option.some.inj hr; subst this
    exact (fin _ _ _ _ _ he hx hy).1 rfl
  · rename_i e nl own own' he hx hy
    have := Option.some.inj hr; subst this
    exact (fin _ _ _ _ _ he hx hy).2 rfl
  · rename_i e l off len cap sz own' he hx hy
    have := Option.some.inj hr; subst this
    exact (finh _ _ _ _ _ _ _ he hx hy).1 rfl
  · rename_i e l off len cap sz own' he hx hy
    have := Option.some.inj hr; subst this
    exact (finh _ _ _ _ _ _ _ he hx hy).2 rfl
  · cases hr

theorem bnd_val {dflt : Int} {x : Option Operand} {n : Int} (h : Inv E0 w0 Z G F a w) (hb : bnd dflt (x.map F.ev) = some n) : (x = none ∧ n = dflt) ∨ ∃ y k, x = some y ∧ a.eval y = .int k n := by
  cases x with
  | none => simp [bnd] at hb; exact .inl ⟨rfl, hb.symm⟩
  | some y =>
    simp only [Option.map_some, bnd] at hb
    obtain ⟨k, hk⟩ := int_opd (opd h y).rv hb
    exact .inr ⟨y, k, rfl, hk⟩

theorem q_slice (h : Inv E0 w0 Z G F a w) (hd : d < F.n) {o : Oper} {t : TypeId} {x : Operand} {lo hi mx : Option Operand} (ho : o.op = .slice t x lo hi mx) {r : AV} (hr : sliceA P t (F.ev x) (lo.map F.ev) (hi.map F.ev) (mx.map F.ev) = some r) : Yields E0 w0 Z lab d G F a w P o r := by
  unfold sliceA at hr
  split at hr
  · rename_i rows nl own hx
    split at hr
    · rename_i e l hh he hl hhi
      split at hr
      · cases hr
      · rename_i sz hsz
        split at hr
        · rename_i hc
          obtain ⟨hl0, hlh, hhr, hall⟩ := hc
          have hxr := (opd h x).rv
          rw [hx] at hxr
          have hxr : R1 G.S G.E (.slice rows nl own) (a.eval x) := hxr
          have hlv := bnd_val h hl
          have hhv := bnd_val h hhi
          have hu := tel_und he
          generalize hv : a.eval x = v at *
          have hrows : ∀ r ∈ rows, r.length = sz := fun r hr => by simpa using List.all_eq_true.1 hall r hr
          have hlen : ((rows.take hh.toNat).drop l.toNat).length = hh.toNat - l.toNat := by simp; omega
          -- the run
          have hrun : ∀ (oa : Option Addr) (cap : Nat) (m : Nat), v = .slice oa rows.length cap → rows.length ≤ cap → ((mx = none ∧ m = cap) ∨ (∃ q k, mx = some q ∧ a.eval q = .int k (m : Int) ∧ hi.isSome = true ∧ m ≤ cap)) → hh.toNat ≤ m →
              (execOp a.eval o).run P w = .ok (.value (.slice (if m = l.toNat then oa else oa.map (·.add (l.toNat * sz))) (hh.toNat - l.toNat) (m - l.toNat))) w := by
            intro oa cap m hva hcap hm hhm
            rcases hm with ⟨rfl, rfl⟩ | ⟨q, k, rfl, hq, hs, hmc⟩
            · rcases hlv with ⟨rfl, rfl⟩ | ⟨y, ky, rfl, hy⟩ <;> rcases hhv with ⟨rfl, rfl⟩ | ⟨z, kz, rfl, hz⟩
              · simp [execOp, ho, hv, hva, Instr.sliceAt, Instr.slice, Instr.sliceBounds, Sem.run_bind, run_underlying hu, run_tsz hsz]
              · have e1 : hh ≤ (m : Int) := by omega
                simp [execOp, ho, hv, hva, Instr.sliceAt, Instr.slice, Instr.sliceBounds, Instr.sliceBound, Sem.run_bind, run_underlying hu, run_tsz hsz, hz, asIntOf, hlh, e1]
              · have e1 : l ≤ (rows.length : Int) := by omega
                simp [execOp, ho, hv, hva, Instr.sliceAt, Instr.slice, Instr.sliceBounds, Instr.sliceBound, Sem.run_bind, run_underlying hu, run_tsz hsz, hy, asIntOf, hl0, e1]
              · have e1 : hh ≤ (m : Int) := by omega
                have e2 : 0 ≤ hh := by omega
                have e3 : l ≤ max hh 0 := by omega
                simp [execOp, ho, hv, hva, Instr.sliceAt, Instr.slice, Instr.sliceBounds, Instr.sliceBound, Sem.run_bind, run_underlying hu, run_tsz hsz, hy, hz, asIntOf, hl0, hlh, e1, e2, e3]
            · rcases hhv with ⟨rfl, rfl⟩ | ⟨z, kz, rfl, hz⟩
              · simp at hs
              · have e1 : hh ≤ (m : Int) := by omega
                have e2 : 0 ≤ hh := by omega
                have e3 : l ≤ max hh 0 := by omega
                have e4 : (m : Int) ≤ cap := by omega
                rcases hlv with ⟨rfl, rfl⟩ | ⟨y, ky, rfl, hy⟩
                · simp [execOp, ho, hv, hva, Instr.sliceAt, Instr.slice, Instr.sliceBounds, Instr.sliceBound, Sem.run_bind, run_underlying hu, run_tsz hsz, hz, hq, asIntOf, hlh, e1, e4, hmc]
                · simp [execOp, ho, hv, hva, Instr.sliceAt, Instr.slice, Instr.sliceBounds, Instr.sliceBound, Sem.run_bind, run_underlying hu, run_tsz hsz, hy, hz, hq, asIntOf, hl0, hlh, e1, e2, e3, e4, hmc]
          -- the result
          have hres : ∀ (own' : Own) (m : Nat), hh.toNat ≤ m → (∀ n, own' ≠ .id n) → (own' = .full → m = hh.toNat) → (∀ oa cap, v = .slice oa rows.length cap → (mx = none ∧ m = cap) ∨ (∃ q k, mx = some q ∧ a.eval q = .int k (m : Int) ∧ hi.isSome = true ∧ m ≤ cap)) →
              Yields E0 w0 Z lab d G F a w P o (.slice ((rows.take hh.toNat).drop l.toNat) nl own') := by
            intro own' m hhm hno hfl hm
            have hnid : NoId (.slice ((rows.take hh.toNat).drop l.toNat) nl own') := by
              rintro n ⟨y, hy, rows, nl, rfl⟩
              simp [parts] at hy
              exact hno n hy.2.2.symm
            cases hxr with
            | nil =>
              have hr0 := hrun none 0 m rfl (Nat.le_refl _) (hm none 0 rfl) hhm
              have hh0 : hh.toNat = 0 := by simp at hhr; omega
              have hm0 : m = 0 := by
                rcases hm none 0 rfl with ⟨_, h⟩ | ⟨_, _, _, _, _, h⟩ <;> omega
              have hl00 : l.toNat = 0 := by omega
              refine Yields.same h hd hr0 (.of_noId ?_ hnid)
              simp [hh0, hm0, hl00]
              exact .nil _
            | slice _ _ b off cap sz' val hlen' hsz' hfull hpl h1 h2 =>
              have hr0 := hrun (some ⟨b, off, none⟩) cap m rfl hlen' (hm _ _ rfl) hhm
              have hcell : ∀ i j, cellAt ((rows.take hh.toNat).drop l.toNat) i j = (if i < hh.toNat - l.toNat then cellAt rows (l.toNat + i) j else none) := by
                intro i j
                simp only [cellAt, List.getElem?_drop, List.getElem?_take]
                by_cases hi : i < hh.toNat - l.toNat
                · rw [if_pos (by omega), if_pos hi]
                · rw [if_neg (by omega), if_neg hi]; rfl
              have hm' : (if m = l.toNat then some (⟨b, off, none⟩ : Addr) else (some (⟨b, off, none⟩ : Addr)).map (·.add (l.toNat * sz))) = some ⟨b, if m = l.toNat then off else off + l.toNat * sz, none⟩ := by
                split
                · rfl
                · simp [add_none]
              rw [hm'] at hr0
              refine Yields.same h hd hr0 (.of_noId ?_ hnid)
              have hres := R1.slice (S := G.S) (E := G.E) ((rows.take hh.toNat).drop l.toNat) own' b (if m = l.toNat then off else off + l.toNat * sz) (m - l.toNat) sz (fun i j => val (l.toNat + i) j) (by rw [hlen]; omega)
                (fun r hr => hrows r (List.mem_of_mem_take (List.mem_of_mem_drop hr))) (fun hf => by rw [hlen, hfl hf])
                (fun i j x hx => by rw [hcell] at hx; split at hx <;> first | exact hpl _ _ _ hx | cases hx)
                (fun i j x hx => by
                  rw [hcell] at hx
                  split at hx
                  · rename_i hi
                    have := h1 _ _ _ hx
                    have hszeq : sz' = sz := by
                      have hlt : l.toNat + i < rows.length := by omega
                      rw [← hrows _ (List.getElem_mem hlt), ← hsz' _ (List.getElem_mem hlt)]
                    rw [if_neg (by omega)]
                    rw [hszeq, Nat.add_mul] at this
                    rw [show off + l.toNat * sz + (i * sz + j) = off + (l.toNat * sz + i * sz + j) by omega]
                    exact this
                  · cases hx)
                (fun i j x hx => by rw [hcell] at hx; split at hx <;> first | exact h2 _ _ _ hx | cases hx)
              rw [hlen] at hres
              exact hres
          split at hr
          · rename_i hmx
            have := Option.some.inj hr; subst this
            have hmx' : mx = none := by cases mx <;> simp_all
            obtain ⟨oa, cap, hva, hcap⟩ : ∃ oa cap, v = .slice oa rows.length cap ∧ rows.length ≤ cap := by
              cases hxr
              · exact ⟨none, 0, rfl, Nat.le_refl _⟩
              · exact ⟨_, _, rfl, ‹_›⟩
            refine hres .no cap (by omega) (by intro n h; cases h) (by intro h; cases h) (fun oa' cap' hva' => ?_)
            rw [hva] at hva'
            cases hva'
            exact .inl ⟨hmx', rfl⟩
          · rename_i mv hmx
            split at hr
            · rename_i hcond
              have := Option.some.inj hr; subst this
              cases mx with
              | none => cases hmx
              | some q =>
                have hmq : F.ev q = mv := Option.some.inj hmx
                obtain ⟨k, hk⟩ := int_opd (opd h q).rv (by rw [hmq]; exact hcond.1)
                refine hres .full hh.toNat (Nat.le_refl _) (by intro n h; cases h) (fun _ => rfl) (fun oa' cap' hva' => .inr ⟨q, k, rfl, by rw [hk]; congr 1; omega, by simpa using hcond.2, ?_⟩)
                obtain ⟨hcap⟩ : rows.length ≤ cap' ∨ False := by
                  rw [hva'] at hxr
                  cases hxr
                  · exact .inl (by simp)
                  · exact .inl ‹_›
                · omega
                · rename_i hF; exact hF.elim
            · cases hr
        · cases hr
    · cases hr
  · rename_i s hx
    split at hr
    · rename_i l hh hmx hst hl hhi
      split at hr
      · rename_i hc
        have := Option.some.inj hr; subst this
        obtain ⟨hl0, hlh, hhr⟩ := hc
        have hxr := (opd h x).rv
        rw [hx] at hxr
        have hxr : R1 G.S G.E (.at (.string s)) (a.eval x) := hxr
        have hlv := bnd_val h hl
        have hhv := bnd_val h hhi
        have hu := isStr_und hst
        have hmx' : mx = none := by cases mx <;> simp_all
        subst hmx'
        generalize hv : a.eval x = v at *
        cases hxr
        have hex : s.extract l.toNat hh.toNat = ⟨⟨(s.data.toList.drop l.toNat).take (hh.toNat - l.toNat)⟩⟩ := by
          have h1 : (s.extract l.toNat hh.toNat).data.toList = (s.data.toList.drop l.toNat).take (hh.toNat - l.toNat) := by simp
          cases hq : s.extract l.toNat hh.toNat with
          | mk dd => rw [hq] at h1; cases dd; simp at h1; rw [h1]
        refine Yields.same h hd (v := .string (s.extract l.toNat hh.toNat)) ?_ (by rw [hex]; exact .of_noId (.at _) (nid_at _))
        rcases hlv with ⟨rfl, rfl⟩ | ⟨y, ky, rfl, hy⟩ <;> rcases hhv with ⟨rfl, rfl⟩ | ⟨z, kz, rfl, hz⟩
        · simp [execOp, ho, hv, Instr.sliceAt, Instr.slice, Instr.sliceBounds, Sem.run_bind, run_underlying hu]
        · simp [execOp, ho, hv, Instr.sliceAt, Instr.slice, Instr.sliceBounds, Instr.sliceBound, Sem.run_bind, run_underlying hu, hz, asIntOf, hlh, hhr]
        · have e1 : l ≤ (s.size : Int) := by omega
          simp [execOp, ho, hv, Instr.sliceAt, Instr.slice, Instr.sliceBounds, Instr.sliceBound, Sem.run_bind, run_underlying hu, hy, asIntOf, hl0, e1]
        · have e2 : 0 ≤ hh := by omega
          have e3 : l ≤ max hh 0 := by omega
          simp [execOp, ho, hv, Instr.sliceAt, Instr.slice, Instr.sliceBounds, Instr.sliceBound, Sem.run_bind, run_underlying hu, hy, hz, asIntOf, hl0, hlh, hhr, e2, e3]
      · cases hr
    · cases hr
  · rename_i loc off len cap sz hx
    split at hr
    · rename_i e l hh he hl hhi hmx
      split at hr
      · rename_i hc
        have := Option.some.inj hr; subst this
        obtain ⟨hsz, hl0, hlh, hhr, hcap, hlc⟩ := hc
        have hxr := (opd h x).rv
        rw [hx] at hxr
        have hxr : R1 G.S G.E (.hs loc off len cap sz) (a.eval x) := hxr
        have hlv := bnd_val h hl
        have hhv := bnd_val h hhi
        have hu := tel_und he
        have hmx' : mx = none := by cases mx <;> simp_all
        subst hmx'
        generalize hv : a.eval x = v at *
        cases hxr with
        | hs _ _ _ _ _ b hb =>
          refine Yields.same h hd (v := .slice (some ⟨b, off + l.toNat * sz, none⟩) (hh.toNat - l.toNat) (cap - l.toNat)) ?_ (.of_noId (.hs _ _ _ _ _ _ hb) ?_)
          · have e0 : ¬ cap = l.toNat := by omega
            have e0' : ¬ cap = 0 := by omega
            rcases hlv with ⟨rfl, rfl⟩ | ⟨y, ky, rfl, hy⟩ <;> rcases hhv with ⟨rfl, rfl⟩ | ⟨z, kz, rfl, hz⟩
            · simp [execOp, ho, hv, Instr.sliceAt, Instr.slice, Instr.sliceBounds, Sem.run_bind, run_underlying hu, run_tsz hsz, e0', add_none]
            · have e1 : hh ≤ (cap : Int) := by omega
              simp [execOp, ho, hv, Instr.sliceAt, Instr.slice, Instr.sliceBounds, Instr.sliceBound, Sem.run_bind, run_underlying hu, run_tsz hsz, hz, asIntOf, hlh, e1, e0', add_none]
            · have e1 : l ≤ (len : Int) := by omega
              simp [execOp, ho, hv, Instr.sliceAt, Instr.slice, Instr.sliceBounds, Instr.sliceBound, Sem.run_bind, run_underlying hu, run_tsz hsz, hy, asIntOf, hl0, e1, e0, add_none]
            · have e1 : hh ≤ (cap : Int) := by omega
              have e2 : 0 ≤ hh := by omega
              have e3 : l ≤ max hh 0 := by omega
              simp [execOp, ho, hv, Instr.sliceAt, Instr.slice, Instr.sliceBounds, Instr.sliceBound, Sem.run_bind, run_underlying hu, run_tsz hsz, hy, hz, asIntOf, hl0, hlh, e1, e2, e3, e0, add_none]
          · rintro n ⟨y, hy, rows, nl, rfl⟩; simp [parts] at hy
      · cases hr
    · cases hr
  · cases hr
end
end Go.Proofs.V

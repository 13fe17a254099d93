/- Typed values: what a program is made of, once memory is out of sight. -/
import Derived.Test.YtdgihbbekacgcaaGreatDoorK11
namespace Go.Proofs.W
open Go Go.Proofs.V
set_option linter.unusedVariables false
set_option linter.unusedSimpArgs false
mutual
inductive CT where
  | int (k : IntKind) | bool | str | flt (k : FloatKind) | cx (k : FloatKind) | sl (r : RT)
inductive RT where
  | one (c : CT) | cons (c : CT) (r : RT)
end
mutual
@[reducible] def Tc : CT → Type
  | .int _ => Int
  | .bool => Bool
  | .str => List UInt8
  | .flt _ => Nat
  | .cx _ => Nat × Nat
  | .sl r => List (Tr r)
@[reducible] def Tr : RT → Type
  | .one c => Tc c
  | .cons c r => Tc c × Tr r
end
def All2 {α β : Type} (R : α → β → Prop) : List α → List β → Prop
  | [], [] => True
  | x :: xs, y :: ys => R x y ∧ All2 R xs ys
  | _, _ => False
mutual
def cellR : (c : CT) → Tc c → AV → Prop
  | .int k, n, a => a = .at (.int k n)
  | .bool, b, a => a = .at (.bool b)
  | .str, s, a => a = .at (.string ⟨⟨s⟩⟩)
  | .flt k, n, a => a = .at (.float k n)
  | .cx k, z, a => a = .at (.complex k z.1 z.2)
  | .sl r, l, a => ∃ rows nl own, a = .slice rows nl own ∧ (All2 (rowR r) l rows ∧ (nl = true → rows = []))
def rowR : (r : RT) → Tr r → List AV → Prop
  | .one c, x, row => ∃ a, row = [a] ∧ cellR c x a
  | .cons c r, x, row => ∃ a rest, row = a :: rest ∧ cellR c x.1 a ∧ rowR r x.2 rest
end
def rlen : RT → Nat
  | .one _ => 1
  | .cons _ r => rlen r + 1
theorem rowR_len : ∀ (r : RT) (x : Tr r) (row : List AV), rowR r x row → row.length = rlen r
  | .one c, x, row, h => by obtain ⟨a, rfl, _⟩ := h; rfl
  | .cons c r, x, row, h => by
    obtain ⟨a, rest, rfl, _, h⟩ := h
    simp [rlen, rowR_len r _ _ h]

section
variable {α β : Type} {R : α → β → Prop}
theorem All2.len : ∀ {l : List α} {m : List β}, All2 R l m → l.length = m.length
  | [], [], _ => rfl
  | x :: xs, y :: ys, h => by simp [All2.len h.2]
theorem All2.get : ∀ {l : List α} {m : List β}, All2 R l m → ∀ {i : Nat} {x : α}, l[i]? = some x → ∃ y, m[i]? = some y ∧ R x y
  | [], [], _, i, x, h => by simp at h
  | x :: xs, y :: ys, h, 0, z, hz => by simp at hz; subst hz; exact ⟨y, rfl, h.1⟩
  | x :: xs, y :: ys, h, i + 1, z, hz => by simpa using All2.get h.2 (by simpa using hz)
theorem All2.append : ∀ {l l' : List α} {m m' : List β}, All2 R l m → All2 R l' m' → All2 R (l ++ l') (m ++ m')
  | [], _, [], _, _, h => h
  | x :: xs, _, y :: ys, _, h, h' => ⟨h.1, All2.append h.2 h'⟩
theorem All2.take : ∀ (n : Nat) {l : List α} {m : List β}, All2 R l m → All2 R (l.take n) (m.take n)
  | 0, _, _, _ => by simp [All2]
  | n + 1, [], [], _ => by simp [All2]
  | n + 1, x :: xs, y :: ys, h => ⟨h.1, All2.take n h.2⟩
theorem All2.drop : ∀ (n : Nat) {l : List α} {m : List β}, All2 R l m → All2 R (l.drop n) (m.drop n)
  | 0, _, _, h => h
  | n + 1, [], [], _ => by simp [All2]
  | n + 1, x :: xs, y :: ys, h => All2.drop n h.2
theorem All2.mem : ∀ {l : List α} {m : List β}, All2 R l m → ∀ y ∈ m, ∃ x ∈ l, R x y
  | [], [], _, y, h => by simp at h
  | x :: xs, z :: ys, h, y, hy => by
    rcases List.mem_cons.1 hy with rfl | hy
    · exact ⟨x, by simp, h.1⟩
    · obtain ⟨u, hu, hr⟩ := All2.mem h.2 y hy
      exact ⟨u, by simp [hu], hr⟩
theorem All2.set : ∀ {l : List α} {m : List β} (i : Nat) {x : α} {y : β}, All2 R l m → R x y → All2 R (l.set i x) (m.set i y)
  | [], [], _, _, _, _, _ => by simp [All2]
  | x :: xs, y :: ys, 0, _, _, h, h' => ⟨h', h.2⟩
  | x :: xs, y :: ys, i + 1, _, _, h, h' => ⟨h.1, All2.set i h.2 h'⟩
theorem All2.map {γ : Type} (f : γ → α) (g : γ → β) (h : ∀ x, R (f x) (g x)) : ∀ l : List γ, All2 R (l.map f) (l.map g)
  | [] => trivial
  | x :: xs => ⟨h x, All2.map f g h xs⟩
end
theorem rows_len {r : RT} {l : List (Tr r)} {rows : List (List AV)} (h : All2 (rowR r) l rows) : ∀ row ∈ rows, row.length = rlen r := fun row hr => by
  obtain ⟨x, _, hx⟩ := h.mem row hr
  exact rowR_len r x row hx

/-- Who may append: not known; everybody; the holder of a mark. -/
inductive WO where
  | no | full | mine (c : Nat)
inductive WV where
  | int (k : IntKind) (st : Bool) (n : Int)
  | bool (st : Bool) (b : Bool)
  | str (st : Bool) (s : List UInt8)
  | flt (k : FloatKind) (st : Bool) (n : Nat)
  | cx (k : FloatKind) (st : Bool) (a b : Nat)
  | sl (r : RT) (l : List (Tr r)) (o : WO)
  | nil
  | agg (cs : List WV)
  | tup (cs : List WV)
  | ref (row : List WV) (off : Nat)
  | fp (g slot off : Nat)
  | box (g : Nat) (cs : List WV)
  | fn (f : Nat) (first captured : List WV)
  | top
/-- A value of Go's that is given. -/
def of1 : Value → WV
  | .int k n => .int k true n
  | .bool b => .bool true b
  | .string s => .str true s.data.toList
  | .float k n => .flt k true n
  | .complex k a b => .cx k true a b
  | .slice none 0 0 => .nil
  | _ => .top
def ofV : Value → WV
  | .agg cs => if cs.toList.all Value.one then .agg (cs.toList.map of1) else .top
  | .tuple cs => if cs.size = 0 then .tup [] else .top
  | v => of1 v
def und : WV := .tup []

inductive WR (O : WO → Own → Prop) (γ : Nat → Option Nat) : WV → AV → Prop
  | int (k : IntKind) (st : Bool) (n : Int) : WR O γ (.int k st n) (.at (.int k n))
  | bool (st b : Bool) : WR O γ (.bool st b) (.at (.bool b))
  | str (st : Bool) (s : List UInt8) : WR O γ (.str st s) (.at (.string ⟨⟨s⟩⟩))
  | flt (k : FloatKind) (st : Bool) (n : Nat) : WR O γ (.flt k st n) (.at (.float k n))
  | cx (k : FloatKind) (st : Bool) (a b : Nat) : WR O γ (.cx k st a b) (.at (.complex k a b))
  | sl (r : RT) (l : List (Tr r)) (o : WO) (rows : List (List AV)) (nl : Bool) (own : Own) (h : All2 (rowR r) l rows ∧ (nl = true → rows = [])) (ho : O o own) (hm : ∀ c, o = .mine c → own = .full → rows = []) : WR O γ (.sl r l o) (.slice rows nl own)
  | nil : WR O γ .nil (.slice [] true .full)
  | agg (cs : List WV) (as : List AV) (hl : as.length = cs.length) (h : ∀ (j : Nat) (x : WV) (a : AV), cs[j]? = some x → as[j]? = some a → WR O γ x a) : WR O γ (.agg cs) (.agg as)
  | tup (cs : List WV) (as : List AV) (hl : as.length = cs.length) (h : ∀ (j : Nat) (x : WV) (a : AV), cs[j]? = some x → as[j]? = some a → WR O γ x a) : WR O γ (.tup cs) (.tup as)
  | ref (cs : List WV) (as : List AV) (off : Nat) (hl : as.length = cs.length) (h : ∀ (j : Nat) (x : WV) (a : AV), cs[j]? = some x → as[j]? = some a → WR O γ x a) : WR O γ (.ref cs off) (.ref as off)
  | fp (g g' slot off : Nat) (hg : γ g = some g') : WR O γ (.fp g slot off) (.fp g' slot off)
  | box (g g' : Nat) (hg : γ g = some g') (cs : List WV) (as : List AV) (hl : as.length = cs.length) (h : ∀ (j : Nat) (x : WV) (a : AV), cs[j]? = some x → as[j]? = some a → WR O γ x a) : WR O γ (.box g cs) (.box g' as)
  | fn (f : Nat) (c1 c2 : List WV) (a1 a2 : List AV) (hl1 : a1.length = c1.length) (hl2 : a2.length = c2.length) (h1 : ∀ (j : Nat) (x : WV) (a : AV), c1[j]? = some x → a1[j]? = some a → WR O γ x a) (h2 : ∀ (j : Nat) (x : WV) (a : AV), c2[j]? = some x → a2[j]? = some a → WR O γ x a) : WR O γ (.fn f c1 c2) (.fn (.func f) a1 a2)
  | top (a : AV) : WR O γ .top a

/-- Rows of values. -/
def WRL (O : WO → Own → Prop) (γ : Nat → Option Nat) (cs : List WV) (as : List AV) : Prop := All2 (WR O γ) cs as
theorem wrl_of {O : WO → Own → Prop} {γ : Nat → Option Nat} : ∀ {cs : List WV} {as : List AV}, as.length = cs.length → (∀ (j : Nat) (x : WV) (a : AV), cs[j]? = some x → as[j]? = some a → WR O γ x a) → WRL O γ cs as
  | [], [], _, _ => trivial
  | x :: cs, a :: as, hl, h => ⟨h 0 x a rfl rfl, wrl_of (by simpa using hl) fun j x a hx ha => h (j + 1) x a (by simpa using hx) (by simpa using ha)⟩
theorem WRL.at {O : WO → Own → Prop} {γ : Nat → Option Nat} {cs : List WV} {as : List AV} (h : WRL O γ cs as) : as.length = cs.length ∧ ∀ (j : Nat) (x : WV) (a : AV), cs[j]? = some x → as[j]? = some a → WR O γ x a :=
  ⟨h.len.symm, fun j x a hx ha => by obtain ⟨b, hb, hr⟩ := All2.get h hx; rw [ha] at hb; cases hb; exact hr⟩
section
variable {O : WO → Own → Prop} {γ : Nat → Option Nat}
theorem wr_agg {cs : List WV} {as : List AV} (h : WRL O γ cs as) : WR O γ (.agg cs) (.agg as) := .agg _ _ h.at.1 h.at.2
theorem wr_tup {cs : List WV} {as : List AV} (h : WRL O γ cs as) : WR O γ (.tup cs) (.tup as) := .tup _ _ h.at.1 h.at.2
theorem wr_ref {cs : List WV} {as : List AV} {off : Nat} (h : WRL O γ cs as) : WR O γ (.ref cs off) (.ref as off) := .ref _ _ _ h.at.1 h.at.2
theorem wr_box {g g' : Nat} (hg : γ g = some g') {cs : List WV} {as : List AV} (h : WRL O γ cs as) : WR O γ (.box g cs) (.box g' as) := .box _ _ hg _ _ h.at.1 h.at.2
theorem wr_fn {f : Nat} {c1 c2 : List WV} {a1 a2 : List AV} (h1 : WRL O γ c1 a1) (h2 : WRL O γ c2 a2) : WR O γ (.fn f c1 c2) (.fn (.func f) a1 a2) := .fn _ _ _ _ _ h1.at.1 h2.at.1 h1.at.2 h2.at.2

/-- Another reading of marks, and of generations. -/
theorem WR.imp {O' : WO → Own → Prop} {γ' : Nat → Option Nat} (hO : ∀ o own, O o own → O' o own) (hγ : ∀ g x, γ g = some x → γ' g = some x) {w : WV} {a : AV} (h : WR O γ w a) : WR O' γ' w a := by
  induction h with
  | int k st n => exact .int k st n
  | bool st b => exact .bool st b
  | str st s => exact .str st s
  | flt k st n => exact .flt k st n
  | cx k st a b => exact .cx k st a b
  | sl r l o rows nl own h ho hm => exact .sl r l o rows nl own h (hO _ _ ho) hm
  | nil => exact .nil
  | agg cs as hl h ih => exact .agg cs as hl ih
  | tup cs as hl h ih => exact .tup cs as hl ih
  | ref cs as off hl h ih => exact .ref cs as off hl ih
  | fp g g' s off hg => exact .fp g g' s off (hγ _ _ hg)
  | box g g' hg cs as hl h ih => exact .box g g' (hγ _ _ hg) cs as hl ih
  | fn f c1 c2 a1 a2 hl1 hl2 h1 h2 ih1 ih2 => exact .fn f c1 c2 a1 a2 hl1 hl2 ih1 ih2
  | top a => exact .top a

theorem of1_R (v : Value) : WR O γ (of1 v) (abs1 v) := by
  cases v with
  | int k n => exact .int k true n
  | bool b => exact .bool true b
  | string s => exact .str true s.data.toList
  | float k n => exact .flt k true n
  | complex k a b => exact .cx k true a b
  | slice a l c =>
    cases a with
    | some a => exact .top _
    | none =>
      cases l with
      | succ l => exact .top _
      | zero => cases c with
        | succ c => exact .top _
        | zero => exact .nil
  | _ => exact .top _
theorem ofV_R (v : Value) : WR O γ (ofV v) (absV v) := by
  cases v with
  | agg cs =>
    simp only [ofV, absV]
    split
    · exact wr_agg (All2.map _ _ (fun x => of1_R x) _)
    · exact .top _
  | tuple cs =>
    simp only [ofV, absV]
    split
    · exact wr_tup trivial
    · exact .top _
  | slice a l c =>
    cases a with
    | some a => exact .top _
    | none =>
      cases l with
      | succ l => exact .top _
      | zero => cases c with
        | succ c => exact .top _
        | zero => exact .nil
  | int k n => exact .int k true n
  | bool b => exact .bool true b
  | string s => exact .str true s.data.toList
  | float k n => exact .flt k true n
  | complex k a b => exact .cx k true a b
  | _ => exact .top _
end
/-- A value of the evaluator's that is given. -/
def ofA1 : AV → WV
  | .at v => match v with
    | .agg _ | .tuple _ | .slice .. => .top
    | v => of1 v
  | .slice [] true .full => .nil
  | _ => .top
theorem ofA1_R {O : WO → Own → Prop} {γ : Nat → Option Nat} (a : AV) : WR O γ (ofA1 a) a := by
  cases a with
  | «at» v =>
    cases v with
    | int k n => exact .int k true n
    | bool b => exact .bool true b
    | string s => exact .str true s.data.toList
    | float k n => exact .flt k true n
    | complex k a b => exact .cx k true a b
    | _ => exact .top _
  | slice rows nl own =>
    cases rows with
    | nil =>
      cases nl with
      | false => exact .top _
      | true => cases own <;> first | exact .nil | exact .top _
    | cons r rows => exact .top _
  | _ => exact .top _
end Go.Proofs.W
namespace Go.Proofs.W
open Go Go.Proofs.V
set_option linter.unusedVariables false
set_option linter.unusedSimpArgs false
structure Prims where
  ite : {R : Type} → Bool → Option R → Option R → Option R
  bind : {A R : Type} → Option A → (A → Option R) → Option R
  loop : {S R : Type} → ((S → Option R) → S → Option R) → S → Option R
  join : {S R : Type} → (S → Option R) → ((S → Option R) → Option R) → Option R
  guard : {R : Type} → Bool → Option R → Option R
  ix : {A R : Type} → List A → Int → (A → Option R) → Option R
  six : {R : Type} → List UInt8 → Int → (Int → Option R) → Option R
  cut : {A R : Type} → List A → Int → Int → (List A → Option R) → Option R
  sh : {R : Type} → BinOp → IntKind → Int → Int → (Int → Option R) → Option R
  div : {R : Type} → BinOp → IntKind → Int → Int → (Int → Option R) → Option R
  len : {A : Type} → List A → Int
  cat : {A : Type} → List A → List A → List A
  add : IntKind → Int → Int → Int
  sub : IntKind → Int → Int → Int
  mul : IntKind → Int → Int → Int
  bits : BinOp → IntKind → Int → Int → Int
  cmp : BinOp → Int → Int → Bool
  scmp : BinOp → List UInt8 → List UInt8 → Bool
  beq : Bool → Bool → Bool
  and : Bool → Bool → Bool
  not : Bool → Bool
  conv : IntKind → Int → Int
  min : Int → Int → Int
  max : Int → Int → Int
  toS : List Int → List UInt8
  toB : List UInt8 → List Int
  fits : Nat → Int → Bool
  rep : {A : Type} → Int → A → (List A)
  near : FloatKind → Int → Nat
  fcmp : BinOp → FloatKind → Nat → Nat → Bool
  fadd : {R : Type} → FloatKind → Nat → Nat → (Nat → Option R) → Option R
  fmax : {R : Type} → FloatKind → Nat → Nat → (Nat → Option R) → Option R
  f2i : {R : Type} → FloatKind → Nat → IntKind → (Int → Option R) → Option R

/-- Rounds of a loop. -/
def fixN {S R : Type} (step : (S → Option R) → S → Option R) : Nat → S → Option R
  | 0, _ => none
  | n + 1, s => step (fixN step n) s
/-- The same, sealed: the kernel does not go round. -/
theorem fixHas : Nonempty { F : ∀ {S R : Type}, ((S → Option R) → S → Option R) → Nat → S → Option R // ∀ (S R : Type) (step : (S → Option R) → S → Option R) (n : Nat) (s : S), F step n s = fixN step n s } := ⟨⟨fixN, fun _ _ _ _ _ => rfl⟩⟩
noncomputable def fixSeal : { F : ∀ {S R : Type}, ((S → Option R) → S → Option R) → Nat → S → Option R // ∀ (S R : Type) (step : (S → Option R) → S → Option R) (n : Nat) (s : S), F step n s = fixN step n s } := Classical.choice fixHas
noncomputable def fixS {S R : Type} (step : (S → Option R) → S → Option R) (n : Nat) (s : S) : Option R := fixSeal.1 step n s
theorem fixS_eq {S R : Type} (step : (S → Option R) → S → Option R) (n : Nat) (s : S) : fixS step n s = fixN step n s := fixSeal.2 S R step n s
/-- How many rounds there are at most: more than anything has. -/
def fuel : Nat := 1180591620717411303424
def shI (op : BinOp) (k : IntKind) (x y : Int) : Int := if op = .shl then k.wrap (x * 2 ^ (Min.min y.toNat k.bits)) else x.fdiv (2 ^ (Min.min y.toNat k.bits))
def divI (op : BinOp) (k : IntKind) (x y : Int) : Int := if op = .quo then k.wrap (x.tdiv y) else x.tmod y
def bitsI (op : BinOp) (k : IntKind) (x y : Int) : Int :=
  match op with
  | .and => k.wrap (BitVec.ofInt k.bits x &&& BitVec.ofInt k.bits y).toNat
  | .or => k.wrap (BitVec.ofInt k.bits x ||| BitVec.ofInt k.bits y).toNat
  | .xor => k.wrap (BitVec.ofInt k.bits x ^^^ BitVec.ofInt k.bits y).toNat
  | _ => k.wrap (BitVec.ofInt k.bits x &&& ~~~ BitVec.ofInt k.bits y).toNat
def cmpI (op : BinOp) (x y : Int) : Bool :=
  match op with
  | .eql => x == y
  | .neq => x != y
  | .lss => decide (x < y)
  | .leq => decide (x ≤ y)
  | .gtr => decide (x > y)
  | _ => decide (x ≥ y)
def cmpS (op : BinOp) (x y : List UInt8) : Bool :=
  match op with
  | .eql => x == y
  | .neq => !(x == y)
  | .lss => Op.bytesLess x y
  | .leq => Op.bytesLess x y || x == y
  | .gtr => !(Op.bytesLess x y || x == y)
  | _ => !(Op.bytesLess x y)
def ixL {A R : Type} (l : List A) (n : Int) (k : A → Option R) : Option R :=
  if 0 ≤ n then match l[n.toNat]? with
    | some x => k x
    | none => none
  else none
def sixL {R : Type} (s : List UInt8) (n : Int) (k : Int → Option R) : Option R :=
  if 0 ≤ n then match s[n.toNat]? with
    | some b => k (b.toNat : Int)
    | none => none
  else none
def cutL {A R : Type} (l : List A) (lo hi : Int) (k : List A → Option R) : Option R :=
  if 0 ≤ lo ∧ lo ≤ hi ∧ hi ≤ l.length then k ((l.take hi.toNat).drop lo.toNat) else none
def fcmpF (op : BinOp) (k : FloatKind) (x y : Nat) : Bool :=
  match op with
  | .eql => k.format.order x y == some .eq
  | .neq => k.format.order x y != some .eq
  | .lss => k.format.order x y == some .lt
  | .leq => k.format.order x y == some .lt || k.format.order x y == some .eq
  | .gtr => k.format.order x y == some .gt
  | _ => k.format.order x y == some .gt || k.format.order x y == some .eq
def faddF {R : Type} (k : FloatKind) (a b : Nat) (f : Nat → Option R) : Option R :=
  match k.format.add a b with
  | some r => f r
  | none => none
def fmaxF {R : Type} (k : FloatKind) (a b : Nat) (f : Nat → Option R) : Option R :=
  match k.format.order a b with
  | none => none
  | some .lt => f b
  | some .gt => f a
  | some .eq => f (if (k.decode a).neg then b else a)
def f2iF {R : Type} (k : FloatKind) (b : Nat) (ki : IntKind) (f : Int → Option R) : Option R :=
  match (k.decode b).toInt .zero with
  | some n => if ki.min ≤ n ∧ n ≤ ki.max then f n else none
  | none => none
noncomputable def real : Prims where
  ite b x y := if b then x else y
  bind x k := x.bind k
  loop step s := fixS step fuel s
  join j k := k j
  guard b x := if b then x else none
  ix := ixL
  six := sixL
  cut := cutL
  sh op k a b f := if b < 0 then none else f (shI op k a b)
  div op k a b f := if b = 0 then none else f (divI op k a b)
  len l := (l.length : Int)
  cat a b := a ++ b
  add k a b := k.wrap (a + b)
  sub k a b := k.wrap (a - b)
  mul k a b := k.wrap (a * b)
  bits := bitsI
  cmp := cmpI
  scmp := cmpS
  beq a b := a == b
  and a b := a && b
  not a := !a
  conv k n := k.wrap n
  min a b := if b < a then b else a
  max a b := if a < b then b else a
  toS l := l.map fun n => UInt8.ofNat n.toNat
  toB s := s.map fun b => (b.toNat : Int)
  fits by_ n := decide (n.toNat * by_ ≤ 35184372088832) && decide (n ≤ 4611686018427387904)
  rep n x := List.replicate n.toNat x
  near k n := k.nearest n
  fcmp := fcmpF
  fadd := faddF
  fmax := fmaxF
  f2i := f2iF

structure WS where
  n : Nat
  t : Nat → WV
  al : Nat → Bool
  nc : Nat
  ng : Nat
  m : List TypeId
def WS.tmp (ws : WS) (t : Nat) : WV :=
  match ws.t t with
  | .box g _ => .fp g t 0
  | x => x
def WS.ev (ws : WS) : Operand → WV
  | .tmp t => ws.tmp t
  | .const v => ofV v
  | .global _ => .top
  | .func f => .fn f [] []
def wevs (ws : WS) : List Operand → List WV
  | [] => []
  | x :: xs => ws.ev x :: wevs ws xs

def ownR (wal al : Nat → Bool) (θ : Nat → Option (Option Nat)) : WO → Own → Prop
  | .no, _ => True
  | .full, o => o = .full
  | .mine c, o => ∃ m, θ c = some m ∧ (wal c = true → o = .full ∨ ∃ i, m = some i ∧ o = .id i ∧ al i = true)
def gensB (n : Nat) (w : WV) : Prop := True
structure Rl (θ : Nat → Option (Option Nat)) (γ : Nat → Option Nat) (ws : WS) (F : St) (B : Nat) : Prop where
  n : F.n = ws.n
  H : F.H = []
  m : ∀ t, F.m t = ws.m.contains t
  t : ∀ i, WR (ownR ws.al F.al θ) γ (ws.t i) (F.t i)
  b : ∀ c i, ws.al c = true → θ c = some (some i) → i < B
  i : ∀ c c' i, ws.al c = true → ws.al c' = true → θ c = some (some i) → θ c' = some (some i) → c = c'
  f : ∀ c, ws.nc ≤ c → θ c = none
  g : ∀ g, ws.ng ≤ g → γ g = none
def StR (ws : WS) (F : St) (B : Nat) : Prop := ∃ θ γ, Rl θ γ ws F B

section
variable {θ : Nat → Option (Option Nat)} {γ : Nat → Option Nat} {ws : WS} {F : St} {B : Nat}
theorem tmp_R (h : Rl θ γ ws F B) (t : Nat) : WR (ownR ws.al F.al θ) γ (ws.tmp t) (F.tmp t) := by
  have := h.t t
  unfold WS.tmp St.tmp
  cases hw : ws.t t with
  | box g cs =>
    rw [hw] at this
    cases hF : F.t t <;> rw [hF] at this <;> cases this
    exact .fp g _ t 0 (by assumption)
  | top => exact .top _
  | _ => rw [hw] at this; cases hF : F.t t <;> rw [hF] at this <;> first | exact this | cases this
theorem ev_R (h : Rl θ γ ws F B) (x : Operand) : WR (ownR ws.al F.al θ) γ (ws.ev x) (F.ev x) := by
  cases x with
  | tmp t => exact tmp_R h t
  | const v => exact ofV_R v
  | global g => exact .top _
  | func f => exact wr_fn (c1 := []) (c2 := []) trivial trivial
theorem evs_R (h : Rl θ γ ws F B) : ∀ xs : List Operand, WRL (ownR ws.al F.al θ) γ (wevs ws xs) (evs F xs)
  | [] => trivial
  | x :: xs => ⟨ev_R h x, evs_R h xs⟩
theorem gens_ev (h : Rl θ γ ws F B) (x : Operand) : gensB ws.ng (ws.ev x) := trivial
end
def stat : WV → Option AV
  | .int k true n => some (.at (.int k n))
  | .bool true b => some (.at (.bool b))
  | .str true s => some (.at (.string ⟨⟨s⟩⟩))
  | .flt k true n => some (.at (.float k n))
  | .cx k true a b => some (.at (.complex k a b))
  | _ => none
theorem stat_R {O : WO → Own → Prop} {γ : Nat → Option Nat} {w : WV} {a a' : AV} (h : stat w = some a) (hw : WR O γ w a') : a' = a := by
  unfold stat at h
  split at h <;> first | (cases h; cases hw; rfl) | cases h

def wbin {R : Type} (p : Prims) (P : Program) (op : BinOp) (x y : WV) (k : WV → Option R) : Option R :=
  match x, y with
  | .int ki _ a, .int kj _ b =>
    match op with
    | .shl => p.sh .shl ki a b fun n => k (.int ki false n)
    | .shr => p.sh .shr ki a b fun n => k (.int ki false n)
    | op => if ki = kj then
        match op with
        | .add => k (.int ki false (p.add ki a b))
        | .sub => k (.int ki false (p.sub ki a b))
        | .mul => k (.int ki false (p.mul ki a b))
        | .quo => p.div .quo ki a b fun n => k (.int ki false n)
        | .rem => p.div .rem ki a b fun n => k (.int ki false n)
        | .and => k (.int ki false (p.bits .and ki a b))
        | .or => k (.int ki false (p.bits .or ki a b))
        | .xor => k (.int ki false (p.bits .xor ki a b))
        | .andNot => k (.int ki false (p.bits .andNot ki a b))
        | op => k (.bool false (p.cmp op a b))
      else none
  | .str _ a, .str _ b =>
    match op with
    | .add => p.guard (p.fits 1 (p.len a)) (p.guard (p.fits 1 (p.len b)) (k (.str false (p.cat a b))))
    | .eql => k (.bool false (p.scmp .eql a b))
    | .neq => k (.bool false (p.scmp .neq a b))
    | .lss => k (.bool false (p.scmp .lss a b))
    | .leq => k (.bool false (p.scmp .leq a b))
    | .gtr => k (.bool false (p.scmp .gtr a b))
    | .geq => k (.bool false (p.scmp .geq a b))
    | _ => none
  | .flt ki _ a, .flt kj _ b => if ki = kj then
      match op with
      | .add => p.fadd ki a b fun r => k (.flt ki false r)
      | .eql => k (.bool false (p.fcmp .eql ki a b))
      | .neq => k (.bool false (p.fcmp .neq ki a b))
      | .lss => k (.bool false (p.fcmp .lss ki a b))
      | .leq => k (.bool false (p.fcmp .leq ki a b))
      | .gtr => k (.bool false (p.fcmp .gtr ki a b))
      | .geq => k (.bool false (p.fcmp .geq ki a b))
      | _ => none
    else none
  | .cx ki _ a a', .cx kj _ b b' => if ki = kj then
      match op with
      | .add => p.fadd ki a b fun r => p.fadd ki a' b' fun r' => k (.cx ki false r r')
      | .eql => k (.bool false (p.and (p.fcmp .eql ki a b) (p.fcmp .eql ki a' b')))
      | .neq => k (.bool false (p.not (p.and (p.fcmp .eql ki a b) (p.fcmp .eql ki a' b'))))
      | _ => none
    else none
  | _, _ => none
end Go.Proofs.W
namespace Go.Proofs.W
open Go Go.Proofs.V
set_option linter.unusedVariables false
set_option linter.unusedSimpArgs false
theorem toLs (a : List UInt8) : (⟨⟨a⟩⟩ : ByteArray).toList = a := by
  first | exact ByteArray.toList_eq _ | simp
section
variable {P : Program} {O : WO → Own → Prop} {γ : Nat → Option Nat}
/-- What the evaluator reckons for a pair of values, whatever types and operands. -/
def Bin (P : Program) (op : BinOp) (a b v : AV) : Prop := ∀ xt ox oy, nilEq P op xt a b = none ∧ binA P op xt ox oy a b = some v
theorem bin_int {op : BinOp} {k k' : IntKind} {a b : Int} {v : Value} (h : ∀ xt, pr P (binOp op xt (.int k a) (.int k' b)) = some v) : Bin P op (.at (.int k a)) (.at (.int k' b)) (absV v) := by
  intro xt ox oy
  constructor
  · unfold nilEq; cases tel P xt <;> cases op <;> rfl
  · have hg : pr P (eqGuard op xt ox oy (.int k a) (.int k' b)) = some () := by
      cases op <;> rfl
    simp only [binA, AV.val, val1, pr_bind, hg, Option.bind_some, h, Option.map_some]
theorem bin_str {op : BinOp} {a b : List UInt8} {v : Value} (h : ∀ xt, pr P (binOp op xt (.string ⟨⟨a⟩⟩) (.string ⟨⟨b⟩⟩)) = some v) : Bin P op (.at (.string ⟨⟨a⟩⟩)) (.at (.string ⟨⟨b⟩⟩)) (absV v) := by
  intro xt ox oy
  constructor
  · unfold nilEq; cases tel P xt <;> cases op <;> rfl
  · have hg : pr P (eqGuard op xt ox oy (.string ⟨⟨a⟩⟩) (.string ⟨⟨b⟩⟩)) = some () := by
      cases op <;> rfl
    simp only [binA, AV.val, val1, pr_bind, hg, Option.bind_some, h, Option.map_some]
theorem bin_flt {op : BinOp} {k k' : FloatKind} {a b : Nat} {v : Value} (h : ∀ xt, pr P (binOp op xt (.float k a) (.float k' b)) = some v) : Bin P op (.at (.float k a)) (.at (.float k' b)) (absV v) := by
  intro xt ox oy
  constructor
  · unfold nilEq; cases tel P xt <;> cases op <;> rfl
  · have hg : pr P (eqGuard op xt ox oy (.float k a) (.float k' b)) = some () := by
      cases op <;> rfl
    simp only [binA, AV.val, val1, pr_bind, hg, Option.bind_some, h, Option.map_some]
theorem bin_cx {op : BinOp} {k k' : FloatKind} {a b a' b' : Nat} {v : Value} (h : ∀ xt, pr P (binOp op xt (.complex k a b) (.complex k' a' b')) = some v) : Bin P op (.at (.complex k a b)) (.at (.complex k' a' b')) (absV v) := by
  intro xt ox oy
  constructor
  · unfold nilEq; cases tel P xt <;> cases op <;> rfl
  · have hg : pr P (eqGuard op xt ox oy (.complex k a b) (.complex k' a' b')) = some () := by
      cases op <;> rfl
    simp only [binA, AV.val, val1, pr_bind, hg, Option.bind_some, h, Option.map_some]
theorem faddF_some {R : Type} {k : FloatKind} {a b : Nat} {f : Nat → Option R} {r : R} (h : faddF k a b f = some r) : ∃ c, k.format.add a b = some c ∧ f c = some r := by
  unfold faddF at h
  split at h
  · rename_i c hc; exact ⟨c, hc, h⟩
  · cases h
theorem pr_fadd {k : FloatKind} {a b c : Nat} (h : k.format.add a b = some c) : pr P (Op.floatArith .add k a b) = some (.float k c) := by
  simp only [Op.floatArith, pr_bind, pr_pure, Option.bind_some, h]
theorem pr_cadd {k : FloatKind} {a b c : Nat} (h : k.format.add a b = some c) : pr P (Op.Complex.arith .add k a b) = some c := by
  simp only [Op.Complex.arith, pr_bind, pr_fadd h, Option.bind_some]
  rfl
theorem wbin_sound {R : Type} {op : BinOp} {x y : WV} {k : WV → Option R} {r : R} {a b : AV} (n : Nat) (h : wbin real P op x y k = some r) (hx : WR O γ x a) (hy : WR O γ y b) : ∃ w v, k w = some r ∧ Bin P op a b v ∧ WR O γ w v ∧ gensB n w := by
  unfold wbin at h
  split at h
  · rename_i ki sa a kj sb b
    cases hx; cases hy
    cases op with
    | shl =>
      simp only [real] at h
      split at h
      · cases h
      · rename_i hb
        exact ⟨_, _, h, bin_int (v := .int ki (shI .shl ki a b)) (fun xt => by simp [binOp, Op.shift, hb, shI]; rfl), .int _ _ _, trivial⟩
    | shr =>
      simp only [real] at h
      split at h
      · cases h
      · rename_i hb
        exact ⟨_, _, h, bin_int (v := .int ki (shI .shr ki a b)) (fun xt => by simp [binOp, Op.shift, hb, shI]; rfl), .int _ _ _, trivial⟩
    | quo =>
      simp only [real] at h
      split at h
      · rename_i hk
        subst hk
        split at h
        · cases h
        · rename_i hb
          exact ⟨_, _, h, bin_int (v := .int ki (divI .quo ki a b)) (fun xt => by simp [binOp, Op.intDiv, hb, divI]; rfl), .int _ _ _, trivial⟩
      · cases h
    | rem =>
      simp only [real] at h
      split at h
      · rename_i hk
        subst hk
        split at h
        · cases h
        · rename_i hb
          exact ⟨_, _, h, bin_int (v := .int ki (divI .rem ki a b)) (fun xt => by simp [binOp, Op.intDiv, hb, divI]; rfl), .int _ _ _, trivial⟩
      · cases h
    | add => 
      simp only [real] at h
      split at h
      · rename_i hk
        subst hk
        exact ⟨_, _, h, bin_int (v := .int ki (ki.wrap (a + b))) (fun xt => by simp [binOp, Op.intArith]; rfl), .int _ _ _, trivial⟩
      · cases h
    | sub => 
      simp only [real] at h
      split at h
      · rename_i hk
        subst hk
        exact ⟨_, _, h, bin_int (v := .int ki (ki.wrap (a - b))) (fun xt => by simp [binOp, Op.intArith]; rfl), .int _ _ _, trivial⟩
      · cases h
    | mul => 
      simp only [real] at h
      split at h
      · rename_i hk
        subst hk
        exact ⟨_, _, h, bin_int (v := .int ki (ki.wrap (a * b))) (fun xt => by simp [binOp, Op.intArith]; rfl), .int _ _ _, trivial⟩
      · cases h
    | and | or | xor | andNot => 
      all_goals
      simp only [real] at h
      split at h
      · rename_i hk
        subst hk
        exact ⟨_, _, h, bin_int (v := .int ki (bitsI _ ki a b)) (fun xt => by simp [binOp, Op.intBits, bitsI]; rfl), .int _ _ _, trivial⟩
      · cases h
    | eql | neq | lss | leq | gtr | geq =>
      all_goals
      simp only [real] at h
      split at h
      · rename_i hk
        subst hk
        exact ⟨_, _, h, bin_int (v := .bool (cmpI _ a b)) (fun xt => by simp [binOp, Op.intCmp, cmpI]; rfl), .bool _ _, trivial⟩
      · cases h
  · rename_i sa a sb b
    cases hx; cases hy
    split at h
    · simp only [real] at h
      split at h
      · rename_i h1
        split at h
        · rename_i h2
          refine ⟨_, _, h, bin_str (v := .string (⟨⟨a ++ b⟩⟩)) (fun xt => ?_), .str _ _, trivial⟩
          simp only [Bool.and_eq_true, decide_eq_true_eq] at h1 h2
          have hs : ¬ (((((⟨⟨a⟩⟩ : ByteArray).size + (⟨⟨b⟩⟩ : ByteArray).size : Nat) : Int)) > IntKind.i64.max) := by
            have e1 : (⟨⟨a⟩⟩ : ByteArray).size = a.length := rfl
            have e2 : (⟨⟨b⟩⟩ : ByteArray).size = b.length := rfl
            have e3 : IntKind.i64.max = 9223372036854775807 := by decide
            rw [e1, e2, e3]
            omega
          have happ : (⟨⟨a⟩⟩ : ByteArray) ++ (⟨⟨b⟩⟩ : ByteArray) = ⟨⟨a ++ b⟩⟩ := by
            apply ByteArray.ext
            simp
          simp only [binOp, Op.stringOp, hs, if_false, happ]
          rfl
        · cases h
      · cases h
    · exact ⟨_, _, h, bin_str (v := .bool (cmpS .eql a b)) (fun xt => by simp only [binOp, Op.stringOp, cmpS, toLs]; rfl), .bool _ _, trivial⟩
    · exact ⟨_, _, h, bin_str (v := .bool (cmpS .neq a b)) (fun xt => by simp only [binOp, Op.stringOp, cmpS, toLs]; rfl), .bool _ _, trivial⟩
    · exact ⟨_, _, h, bin_str (v := .bool (cmpS .lss a b)) (fun xt => by simp only [binOp, Op.stringOp, cmpS, toLs]; rfl), .bool _ _, trivial⟩
    · exact ⟨_, _, h, bin_str (v := .bool (cmpS .leq a b)) (fun xt => by simp only [binOp, Op.stringOp, cmpS, toLs]; rfl), .bool _ _, trivial⟩
    · exact ⟨_, _, h, bin_str (v := .bool (cmpS .gtr a b)) (fun xt => by simp only [binOp, Op.stringOp, cmpS, toLs]; rfl), .bool _ _, trivial⟩
    · exact ⟨_, _, h, bin_str (v := .bool (cmpS .geq a b)) (fun xt => by simp only [binOp, Op.stringOp, cmpS, toLs]; rfl), .bool _ _, trivial⟩
    · cases h
  · rename_i ki sa a kj sb b
    cases hx; cases hy
    split at h
    · rename_i hk
      subst hk
      split at h
      · obtain ⟨c, hc, h⟩ := faddF_some h
        exact ⟨_, _, h, bin_flt (v := .float ki c) (fun xt => by simp only [binOp, ne_eq, not_true_eq_false, if_false]; exact pr_fadd hc), .flt _ _ _, trivial⟩
      · exact ⟨_, _, h, bin_flt (v := .bool (fcmpF .eql ki a b)) (fun xt => by simp only [binOp, ne_eq, not_true_eq_false, if_false]; rfl), .bool _ _, trivial⟩
      · exact ⟨_, _, h, bin_flt (v := .bool (fcmpF .neq ki a b)) (fun xt => by simp only [binOp, ne_eq, not_true_eq_false, if_false]; rfl), .bool _ _, trivial⟩
      · exact ⟨_, _, h, bin_flt (v := .bool (fcmpF .lss ki a b)) (fun xt => by simp only [binOp, ne_eq, not_true_eq_false, if_false]; rfl), .bool _ _, trivial⟩
      · exact ⟨_, _, h, bin_flt (v := .bool (fcmpF .leq ki a b)) (fun xt => by simp only [binOp, ne_eq, not_true_eq_false, if_false]; rfl), .bool _ _, trivial⟩
      · exact ⟨_, _, h, bin_flt (v := .bool (fcmpF .gtr ki a b)) (fun xt => by simp only [binOp, ne_eq, not_true_eq_false, if_false]; rfl), .bool _ _, trivial⟩
      · exact ⟨_, _, h, bin_flt (v := .bool (fcmpF .geq ki a b)) (fun xt => by simp only [binOp, ne_eq, not_true_eq_false, if_false]; rfl), .bool _ _, trivial⟩
      · cases h
    · cases h
  · rename_i ki sa a a' kj sb b b'
    cases hx; cases hy
    split at h
    · rename_i hk
      subst hk
      split at h
      · obtain ⟨c, hc, h⟩ := faddF_some h
        obtain ⟨c', hc', h⟩ := faddF_some h
        exact ⟨_, _, h, bin_cx (v := .complex ki c c') (fun xt => by simp only [binOp, ne_eq, not_true_eq_false, if_false, Op.complexOp, pr_bind, pr_cadd hc, pr_cadd hc', Option.bind_some]; rfl), .cx _ _ _ _, trivial⟩
      · exact ⟨_, _, h, bin_cx (v := .bool (fcmpF .eql ki a b && fcmpF .eql ki a' b')) (fun xt => by simp only [binOp, ne_eq, not_true_eq_false, if_false]; rfl), .bool _ _, trivial⟩
      · exact ⟨_, _, h, bin_cx (v := .bool (!(fcmpF .eql ki a b && fcmpF .eql ki a' b'))) (fun xt => by simp only [binOp, ne_eq, not_true_eq_false, if_false]; rfl), .bool _ _, trivial⟩
      · cases h
    · cases h
  · cases h
end
end Go.Proofs.W
namespace Go.Proofs.W
open Go Go.Proofs.V
set_option linter.unusedVariables false
set_option linter.unusedSimpArgs false
mutual
def ctEq : (a b : CT) → Option (PLift (a = b))
  | .int k, .int k' => if h : k = k' then some ⟨by rw [h]⟩ else none
  | .bool, .bool => some ⟨rfl⟩
  | .str, .str => some ⟨rfl⟩
  | .flt k, .flt k' => if h : k = k' then some ⟨by rw [h]⟩ else none
  | .cx k, .cx k' => if h : k = k' then some ⟨by rw [h]⟩ else none
  | .sl r, .sl r' => (rtEq r r').map fun h => ⟨by rw [h.down]⟩
  | _, _ => none
def rtEq : (a b : RT) → Option (PLift (a = b))
  | .one c, .one c' => (ctEq c c').map fun h => ⟨by rw [h.down]⟩
  | .cons c r, .cons c' r' => match ctEq c c', rtEq r r' with
    | some h, some h' => some ⟨by rw [h.down, h'.down]⟩
    | _, _ => none
  | _, _ => none
end
def castL {r r' : RT} (h : r = r') (l : List (Tr r)) : List (Tr r') := h ▸ l

def cellW : (c : CT) → Tc c → WV
  | .int k, n => .int k false n
  | .bool, b => .bool false b
  | .str, s => .str false s
  | .flt k, n => .flt k false n
  | .cx k, z => .cx k false z.1 z.2
  | .sl r, l => .sl r l .no
def rowW : (r : RT) → Tr r → List WV
  | .one c, x => [cellW c x]
  | .cons c r, x => cellW c x.1 :: rowW r x.2
def unc : (c : CT) → WV → Option (Tc c)
  | .int k, .int k' _ n => if k = k' then some n else none
  | .bool, .bool _ b => some b
  | .str, .str _ s => some s
  | .flt k, .flt k' _ n => if k = k' then some n else none
  | .cx k, .cx k' _ a b => if k = k' then some (a, b) else none
  | .sl r, .sl r' l _ => (rtEq r' r).map fun h => castL h.down l
  | .sl r, .nil => some []
  | _, _ => none
def unrow : (r : RT) → List WV → Option (Tr r)
  | .one c, [w] => unc c w
  | .cons c r, w :: ws => (unc c w).bind fun x => (unrow r ws).map fun y => (x, y)
  | _, _ => none
def unrows (r : RT) : List (List WV) → Option (List (Tr r))
  | [] => some []
  | w :: ws => (unrow r w).bind fun x => (unrows r ws).map fun y => x :: y

section
variable {O : WO → Own → Prop} {γ : Nat → Option Nat}
theorem cellW_R (hO : ∀ o, O .no o) : ∀ (c : CT) (x : Tc c) (a : AV), cellR c x a → WR O γ (cellW c x) a := by
  intro c x a h
  cases c with
  | int k => simp only [cellR] at h; subst h; exact .int _ _ _
  | bool => simp only [cellR] at h; subst h; exact .bool _ _
  | str => simp only [cellR] at h; subst h; exact .str _ _
  | flt k => simp only [cellR] at h; subst h; exact .flt _ _ _
  | cx k => simp only [cellR] at h; subst h; exact .cx _ _ _ _
  | sl r => simp only [cellR] at h; obtain ⟨rows, nl, own, rfl, h⟩ := h; exact .sl _ _ _ _ _ _ h (hO _) (fun _ e => by cases e)
theorem rowW_R (hO : ∀ o, O .no o) : ∀ (r : RT) (x : Tr r) (row : List AV), rowR r x row → WRL O γ (rowW r x) row
  | .one c, x, row, h => by
    simp only [rowR] at h
    obtain ⟨a, rfl, h⟩ := h
    exact ⟨cellW_R hO c x a h, trivial⟩
  | .cons c r, x, row, h => by
    simp only [rowR] at h
    obtain ⟨a, rest, rfl, h, h'⟩ := h
    exact ⟨cellW_R hO c _ a h, rowW_R hO r _ _ h'⟩
theorem unc_R : ∀ (c : CT) (w : WV) (x : Tc c) (a : AV), unc c w = some x → WR O γ w a → cellR c x a := by
  intro c w x a h hw
  cases hw <;> cases c <;> simp only [unc, reduceCtorEq] at h <;> simp only [cellR]
  case int.int => split at h <;> cases h; rename_i hk; subst hk; rfl
  case bool.bool => cases h; rfl
  case str.str => cases h; rfl
  case flt.flt => split at h <;> cases h; rename_i hk; subst hk; rfl
  case cx.cx => split at h <;> cases h; rename_i hk; subst hk; rfl
  case sl.sl =>
    simp only [Option.map_eq_some_iff] at h
    obtain ⟨e, _, rfl⟩ := h
    obtain ⟨e⟩ := e
    subst e
    exact ⟨_, _, _, rfl, by assumption⟩
  case nil.sl => cases h; exact ⟨_, _, _, rfl, trivial, fun _ => rfl⟩
theorem unrow_R : ∀ (r : RT) (ws : List WV) (x : Tr r) (row : List AV), unrow r ws = some x → WRL O γ ws row → rowR r x row
  | .one c, [w], x, row, h, hw => by
    cases row with
    | nil => exact hw.elim
    | cons a row => cases row with
      | cons b row => exact hw.2.elim
      | nil => exact ⟨a, rfl, unc_R c w x a h hw.1⟩
  | .one c, [], x, row, h, hw => by simp [unrow] at h
  | .one c, w :: w' :: ws, x, row, h, hw => by simp [unrow] at h
  | .cons c r, [], x, row, h, hw => by simp [unrow] at h
  | .cons c r, w :: ws, x, row, h, hw => by
    cases row with
    | nil => exact hw.elim
    | cons a row =>
      simp only [unrow, Option.bind_eq_some_iff, Option.map_eq_some_iff] at h
      obtain ⟨y, h1, z, h2, rfl⟩ := h
      exact ⟨a, row, rfl, unc_R c w y a h1 hw.1, unrow_R r ws z row h2 hw.2⟩
theorem unrows_R (r : RT) : ∀ (ws : List (List WV)) (l : List (Tr r)) (rows : List (List AV)), unrows r ws = some l → All2 (WRL O γ) ws rows → All2 (rowR r) l rows
  | [], l, [], h, _ => by cases h; trivial
  | w :: ws, l, row :: rows, h, hw => by
    simp only [unrows, Option.bind_eq_some_iff, Option.map_eq_some_iff] at h
    obtain ⟨y, h1, z, h2, rfl⟩ := h
    exact ⟨unrow_R r w y row h1 hw.1, unrows_R r ws z rows h2 hw.2⟩
end
def wcells : WV → List WV
  | .agg cs => cs
  | x => [x]
def wstor : WV → Bool
  | .top | .tup _ | .fp .. | .box .. => false
  | _ => true
def wfree : WV → Bool
  | .top | .fp .. | .box .. => false
  | _ => true
def wstrip1 : WV → WV
  | .sl r l (.mine _) => .sl r l .no
  | x => x
def wstrip : WV → WV
  | .agg cs => .agg (cs.map wstrip1)
  | .tup cs => .tup (cs.map wstrip1)
  | x => wstrip1 x
def wstrip2 : WV → WV
  | .sl r l o => .sl r l o
  | x => wstrip x
def wtake? (row : List WV) (off n : Nat) : Option (List WV) := if off + n ≤ row.length then some ((row.drop off).take n) else none
def wpart (agg : Bool) (n : Nat) (row : List WV) (off : Nat) : Option WV := if agg then (wtake? row off n).map .agg else row[off]?
def wsplice (row : List WV) (off : Nat) (cs : List WV) : List WV := row.take off ++ cs ++ row.drop (off + cs.length)
/-- Marks that mean what they should. -/
structure OOk (O : WO → Own → Prop) : Prop where
  no : ∀ o, O .no o
  full : ∀ o, O .full o → o = .full
theorem ownR_ok (wal al : Nat → Bool) (θ : Nat → Option (Option Nat)) : OOk (ownR wal al θ) := ⟨fun _ => trivial, fun _ h => h⟩
section
variable {O : WO → Own → Prop} {γ : Nat → Option Nat}
theorem wcells_R {w : WV} {a : AV} (h : WR O γ w a) (hs : wstor w = true) : WRL O γ (wcells w) a.cells ∧ a.storable = true := by
  cases h with
  | agg cs as hl h => exact ⟨wrl_of hl h, rfl⟩
  | top => cases hs
  | tup => cases hs
  | fp => cases hs
  | box => cases hs
  | int => exact ⟨⟨.int _ _ _, trivial⟩, rfl⟩
  | bool => exact ⟨⟨.bool _ _, trivial⟩, rfl⟩
  | str => exact ⟨⟨.str _ _, trivial⟩, rfl⟩
  | flt => exact ⟨⟨.flt _ _ _, trivial⟩, rfl⟩
  | cx => exact ⟨⟨.cx _ _ _ _, trivial⟩, rfl⟩
  | sl r l o rows nl own h ho hm => exact ⟨⟨.sl _ _ _ _ _ _ h ho hm, trivial⟩, rfl⟩
  | nil => exact ⟨⟨.nil, trivial⟩, rfl⟩
  | ref cs as off hl h => exact ⟨⟨.ref _ _ _ hl h, trivial⟩, rfl⟩
  | fn f c1 c2 a1 a2 h1 h2 h3 h4 => exact ⟨⟨.fn _ _ _ _ _ h1 h2 h3 h4, trivial⟩, rfl⟩
theorem wfree_R {w : WV} {a : AV} (h : WR O γ w a) (hs : wfree w = true) : a.free = true := by
  cases h <;> first | rfl | cases hs
theorem wstrip1_R {O' : WO → Own → Prop} (hO : OOk O) (hO' : ∀ o, O' .no o) (hf : ∀ o, o = Own.full → O' .full o) {w : WV} {a : AV} (h : WR O γ w a) (hg : ∀ {w : WV} {a : AV}, (∀ r l o, w ≠ .sl r l o) → WR O γ w a → WR O' γ w a) : WR O' γ (wstrip1 w) (strip1 a) := by
  cases h with
  | sl r l o rows nl own h ho =>
    have e : ∃ own', strip1 (.slice rows nl own) = .slice rows nl own' ∧ (own = .full → own' = .full) := by
      cases own <;> exact ⟨_, rfl, by intro h; cases h; try rfl⟩
    obtain ⟨own', e, he⟩ := e
    rw [e]
    cases o with
    | no => exact .sl _ _ _ _ _ _ h (hO' _) (fun _ e => by cases e)
    | full => exact .sl _ _ _ _ _ _ h (hf _ (he (hO.full _ ho))) (fun _ e => by cases e)
    | mine c => exact .sl _ _ _ _ _ _ h (hO' _) (fun _ e => by cases e)
  | nil => exact .nil
  | top => exact .top _
  | int => exact .int _ _ _
  | bool => exact .bool _ _
  | str => exact .str _ _
  | flt => exact .flt _ _ _
  | cx => exact .cx _ _ _ _
  | agg cs as hl h => exact hg (by intro r l o e; cases e) (.agg _ _ hl h)
  | tup cs as hl h => exact hg (by intro r l o e; cases e) (.tup _ _ hl h)
  | ref cs as off hl h => exact hg (by intro r l o e; cases e) (.ref _ _ _ hl h)
  | fp g g' s off hgg => exact hg (by intro r l o e; cases e) (.fp _ _ _ _ (by assumption))
  | box g g' hgg cs as hl h => exact hg (by intro r l o e; cases e) (.box _ _ hgg _ _ hl h)
  | fn f c1 c2 a1 a2 h1 h2 h3 h4 => exact hg (by intro r l o e; cases e) (.fn _ _ _ _ _ h1 h2 h3 h4)
theorem strip1_same (hO : OOk O) (hf : ∀ o, o = Own.full → O .full o) {w : WV} {a : AV} (h : WR O γ w a) : WR O γ (wstrip1 w) (strip1 a) :=
  wstrip1_R hO hO.no hf h (fun _ h => h)
theorem WRL.map {O' : WO → Own → Prop} {γ' : Nat → Option Nat} {f : WV → WV} {g : AV → AV} (h : ∀ w a, WR O γ w a → WR O' γ' (f w) (g a)) : ∀ {cs : List WV} {as : List AV}, WRL O γ cs as → WRL O' γ' (cs.map f) (as.map g)
  | [], [], _ => trivial
  | x :: cs, a :: as, hw => ⟨h _ _ hw.1, WRL.map h hw.2⟩
theorem strip_same (hO : OOk O) (hf : ∀ o, o = Own.full → O .full o) {w : WV} {a : AV} (h : WR O γ w a) : WR O γ (wstrip w) (strip a) := by
  cases h with
  | agg cs as hl h => exact wr_agg (WRL.map (fun w a h => strip1_same hO hf h) (wrl_of hl h))
  | tup cs as hl h => exact wr_tup (WRL.map (fun w a h => strip1_same hO hf h) (wrl_of hl h))
  | sl r l o rows nl own h ho hm => exact strip1_same hO hf (.sl _ _ _ _ _ _ h ho hm)
  | nil => exact .nil
  | top => exact .top _
  | int => exact .int _ _ _
  | bool => exact .bool _ _
  | str => exact .str _ _
  | flt => exact .flt _ _ _
  | cx => exact .cx _ _ _ _
  | ref cs as off hl h => exact .ref _ _ _ hl h
  | fp g g' s off hgg => exact .fp _ _ _ _ hgg
  | box g g' hgg cs as hl h => exact .box _ _ hgg _ _ hl h
  | fn f c1 c2 a1 a2 h1 h2 h3 h4 => exact .fn _ _ _ _ _ h1 h2 h3 h4
theorem strip2_same (hO : OOk O) (hf : ∀ o, o = Own.full → O .full o) {w : WV} {a : AV} (h : WR O γ w a) : WR O γ (wstrip2 w) (strip2 a) := by
  cases h with
  | sl r l o rows nl own h ho hm => exact .sl _ _ _ _ _ _ h ho hm
  | top => exact .top _
  | nil => exact .nil
  | agg cs as hl h => exact strip_same hO hf (.agg _ _ hl h)
  | tup cs as hl h => exact strip_same hO hf (.tup _ _ hl h)
  | int => exact .int _ _ _
  | bool => exact .bool _ _
  | str => exact .str _ _
  | flt => exact .flt _ _ _
  | cx => exact .cx _ _ _ _
  | ref cs as off hl h => exact .ref _ _ _ hl h
  | fp g g' s off hgg => exact .fp _ _ _ _ hgg
  | box g g' hgg cs as hl h => exact .box _ _ hgg _ _ hl h
  | fn f c1 c2 a1 a2 h1 h2 h3 h4 => exact .fn _ _ _ _ _ h1 h2 h3 h4
theorem wtake_R {row r : List WV} {row' : List AV} {off n : Nat} (h : WRL O γ row row') (ht : wtake? row off n = some r) : ∃ r', take? row' off n = some r' ∧ WRL O γ r r' := by
  unfold wtake? at ht
  split at ht
  · rename_i hl
    cases ht
    refine ⟨_, by unfold take?; rw [if_pos (by rw [← h.len]; exact hl)], (All2.drop _ h).take _⟩
  · cases ht
theorem wpart_R {agg : Bool} {n : Nat} {row : List WV} {row' : List AV} {off : Nat} {w : WV} (h : WRL O γ row row') (hp : wpart agg n row off = some w) : ∃ a, partA agg n row' off = some a ∧ WR O γ w a := by
  unfold wpart at hp
  cases agg with
  | true =>
    simp only [if_true, Option.map_eq_some_iff] at hp
    obtain ⟨r, h1, rfl⟩ := hp
    obtain ⟨r', h2, h3⟩ := wtake_R h h1
    exact ⟨_, by simp only [partA, if_true, h2, Option.map_some], wr_agg h3⟩
  | false =>
    simp only [Bool.false_eq_true, if_false] at hp
    obtain ⟨a, h1, h2⟩ := All2.get h hp
    exact ⟨a, by simp only [partA, Bool.false_eq_true, if_false, h1], h2⟩
theorem wsplice_R {row cs : List WV} {row' as : List AV} {off : Nat} (h : WRL O γ row row') (hc : WRL O γ cs as) : WRL O γ (wsplice row off cs) (splice row' off as) := by
  unfold wsplice splice
  rw [hc.len]
  exact ((All2.take _ h).append hc).append (All2.drop _ h)
end
def wlook (ws : WS) (ds : List Nat) : WV → Option (List WV × Nat)
  | .ref row off => some (row, off)
  | .fp g s off => if ds.contains s then none else match ws.t s with
    | .box g' cs => if g = g' then some (cs, off) else none
    | _ => none
  | _ => none
section
variable {θ : Nat → Option (Option Nat)} {γ : Nat → Option Nat} {ws : WS} {F : St} {B : Nat}
theorem wlook_R (h : Rl θ γ ws F B) {ds : List Nat} {w : WV} {a : AV} (hw : WR (ownR ws.al F.al θ) γ w a) {row : List WV} {off : Nat} (hl : wlook ws ds w = some (row, off)) : ∃ row', F.look ds a = some (row', off) ∧ WRL (ownR ws.al F.al θ) γ row row' := by
  cases hw <;> simp only [wlook, reduceCtorEq] at hl
  case ref cs as o hl' h' => cases hl; exact ⟨_, rfl, wrl_of hl' h'⟩
  case fp g gg s o hgg =>
    split at hl
    · cases hl
    · rename_i hds
      split at hl
      · rename_i g' cs hs
        split at hl
        · rename_i hg
          subst hg
          cases hl
          have ht := h.t s
          rw [hs] at ht
          cases hF : F.t s <;> rw [hF] at ht <;> cases ht
          rename_i g3 hl2 hg3 hl3 h3
          rw [hgg] at hg3
          cases hg3
          refine ⟨_, ?_, wrl_of (by assumption) (by assumption)⟩
          simp only [St.look, hds, Bool.false_eq_true, if_false, hF, if_true]
        · cases hl
      · cases hl
end
end Go.Proofs.W
namespace Go.Proofs.W
open Go Go.Proofs.V
set_option linter.unusedVariables false
set_option linter.unusedSimpArgs false
def wfill (place : Nat → Option (Nat × Nat)) (cells : List WV) : List (Nat × WV) → Option (List WV)
  | [] => some cells
  | (i, v) :: rest =>
    match place i with
    | none => none
    | some (off, size) => if wstor v && (wcells v).length == size && decide (off + size ≤ cells.length) then wfill place (wsplice cells off ((wcells v).map wstrip1)) rest else none
def wfillRows (size : Nat) (rows : List (List WV)) : List (Nat × WV) → Option (List (List WV))
  | [] => some rows
  | (i, v) :: rest => if wstor v && (wcells v).length == size && decide (i < rows.length) then wfillRows size (rows.set i ((wcells v).map wstrip1)) rest else none
mutual
/-- The cells of a type. -/
def ctsOf (P : Program) : Nat → TypeId → Option (List CT)
  | 0, _ => none
  | d + 1, t => match P.underlying t with
    | some (.int k) => some [.int k]
    | some .bool => some [.bool]
    | some .string => some [.str]
    | some (.float k) => some [.flt k]
    | some (.complex k) => some [.cx k]
    | some (.slice e) => (rtOf P d e).map fun r => [.sl r]
    | some (.struct fs) => ctsL P d (fs.toList.map (·.type))
    | _ => none
def ctsL (P : Program) : Nat → List TypeId → Option (List CT)
  | 0, _ => none
  | d + 1, [] => some []
  | d + 1, t :: ts => match ctsOf P d t, ctsL P d ts with
    | some a, some b => some (a ++ b)
    | _, _ => none
def rtOf (P : Program) : Nat → TypeId → Option RT
  | 0, _ => none
  | d + 1, t => (ctsOf P d t).bind mkRT
where mkRT : List CT → Option RT
  | [] => none
  | [c] => some (.one c)
  | c :: cs => (mkRT cs).map fun r => .cons c r
end
section
variable {O : WO → Own → Prop} {γ : Nat → Option Nat}
theorem wfill_R (hO : OOk O) (hf : ∀ o, o = Own.full → O .full o) (place : Nat → Option (Nat × Nat)) : ∀ (parts : List (Nat × WV)) (parts' : List (Nat × AV)) (cells r : List WV) (cells' : List AV), parts'.map (·.1) = parts.map (·.1) → WRL O γ (parts.map (·.2)) (parts'.map (·.2)) → WRL O γ cells cells' → wfill place cells parts = some r → ∃ r', fillA place cells' parts' = some r' ∧ WRL O γ r r'
  | [], [], cells, r, cells', _, _, hc, h => by cases h; exact ⟨_, rfl, hc⟩
  | (i, v) :: rest, (i', v') :: rest', cells, r, cells', hi, hp, hc, h => by
    simp only [List.map_cons, List.cons.injEq] at hi
    obtain ⟨hi, hr⟩ := hi
    subst hi
    obtain ⟨hv, hp⟩ := hp
    simp only [wfill] at h
    simp only [fillA]
    split at h
    · cases h
    · rename_i off size hpl
      split at h
      · rename_i hcond
        simp only [Bool.and_eq_true, beq_iff_eq, decide_eq_true_eq] at hcond
        obtain ⟨⟨h1, h2⟩, h3⟩ := hcond
        obtain ⟨hcs, hst⟩ := wcells_R hv h1
        have e1 : v'.cells.length = size := by rw [← hcs.len]; exact h2
        have e2 : off + size ≤ cells'.length := by rw [← hc.len]; exact h3
        rw [hpl]
        simp only [hst, e1, beq_self_eq_true, e2, decide_true, Bool.and_self, if_true]
        exact wfill_R hO hf place rest rest' _ r _ hr hp (wsplice_R hc (WRL.map (fun w a h => strip1_same hO hf h) hcs)) h
      · cases h
theorem wfillRows_R (hO : OOk O) (hf : ∀ o, o = Own.full → O .full o) (size : Nat) : ∀ (parts : List (Nat × WV)) (parts' : List (Nat × AV)) (rows r : List (List WV)) (rows' : List (List AV)), parts'.map (·.1) = parts.map (·.1) → WRL O γ (parts.map (·.2)) (parts'.map (·.2)) → All2 (WRL O γ) rows rows' → wfillRows size rows parts = some r → ∃ r', fillRows size rows' parts' = some r' ∧ All2 (WRL O γ) r r'
  | [], [], cells, r, cells', _, _, hc, h => by cases h; exact ⟨_, rfl, hc⟩
  | (i, v) :: rest, (i', v') :: rest', cells, r, cells', hi, hp, hc, h => by
    simp only [List.map_cons, List.cons.injEq] at hi
    obtain ⟨hi, hr⟩ := hi
    subst hi
    obtain ⟨hv, hp⟩ := hp
    simp only [wfillRows] at h
    simp only [fillRows]
    split at h
    · rename_i hcond
      simp only [Bool.and_eq_true, beq_iff_eq, decide_eq_true_eq] at hcond
      obtain ⟨⟨h1, h2⟩, h3⟩ := hcond
      obtain ⟨hcs, hst⟩ := wcells_R hv h1
      have e1 : v'.cells.length = size := by rw [← hcs.len]; exact h2
      have e2 : i' < cells'.length := by rw [← hc.len]; exact h3
      simp only [hst, e1, beq_self_eq_true, e2, decide_true, Bool.and_self, if_true]
      exact wfillRows_R hO hf size rest rest' _ r _ hr hp (hc.set i' (WRL.map (fun w a h => strip1_same hO hf h) hcs)) h
    · cases h
theorem ofA1s_R : ∀ cs : List AV, WRL O γ (cs.map ofA1) cs
  | [] => trivial
  | c :: cs => ⟨ofA1_R c, ofA1s_R cs⟩
theorem repl_R {z : List WV} {z' : List AV} (h : WRL O γ z z') : ∀ n : Nat, All2 (WRL O γ) (List.replicate n z) (List.replicate n z')
  | 0 => trivial
  | n + 1 => ⟨h, repl_R h n⟩
end
/-- It bears no generation. -/
def noGen : WV → Bool
  | .fp .. | .box .. => false
  | _ => true
def intW : WV → Option Int
  | .int _ _ n => some n
  | _ => none
def statI : WV → Option Int
  | .int _ true n => some n
  | _ => none
def sameOp : Option Operand → Option Operand → Bool
  | some (.tmp i), some (.tmp j) => i == j
  | _, _ => false
theorem sameOp_eq {a b : Option Operand} (h : sameOp a b = true) : a = b ∧ a.isSome = true := by
  unfold sameOp at h
  split at h
  · simp at h; subst h; exact ⟨rfl, rfl⟩
  · cases h
/-- The rows of a slice, of this kind. -/
def asSl (r : RT) : WV → Option (List (Tr r))
  | .sl r' l _ => (rtEq r' r).map fun h => castL h.down l
  | .nil => some []
  | _ => none
theorem asSl_R {O : WO → Own → Prop} {γ : Nat → Option Nat} {r : RT} {w : WV} {a : AV} {l : List (Tr r)} (h : asSl r w = some l) (hw : WR O γ w a) : ∃ rows nl own, a = .slice rows nl own ∧ (All2 (rowR r) l rows ∧ (nl = true → rows = [])) := by
  cases hw <;> simp only [asSl, reduceCtorEq, Option.map_eq_some_iff, Option.some.injEq] at h
  case sl r' l' o rows nl own h' ho hm =>
    obtain ⟨⟨e⟩, _, rfl⟩ := h
    subst e
    exact ⟨_, _, _, rfl, h'⟩
  case nil => subst h; exact ⟨_, _, _, rfl, trivial, fun _ => rfl⟩

def wbnd (d : Int) : Option WV → Option Int
  | some v => intW v
  | none => some d
theorem wbnd_R {O : WO → Own → Prop} {γ : Nat → Option Nat} {d n : Int} {w : Option WV} {a : Option AV} (h : wbnd d w = some n) (hw : (w = none ∧ a = none) ∨ ∃ x y, w = some x ∧ a = some y ∧ WR O γ x y) : bnd d a = some n := by
  rcases hw with ⟨rfl, rfl⟩ | ⟨x, y, rfl, rfl, hx⟩
  · exact h
  · simp only [wbnd] at h
    cases hx <;> simp only [intW, reduceCtorEq, Option.some.injEq] at h
    subst h
    rfl

def wshift (k : Nat) : WV → Option WV
  | .ref row off => some (.ref row (off + k))
  | .fp g s off => some (.fp g s (off + k))
  | _ => none
def wun {R : Type} (p : Prims) (op : UnOp) (x : WV) (k : WV → Option R) : Option R :=
  match op, x with
  | .not, .bool _ b => k (.bool false (p.not b))
  | .neg, .int ki _ n => k (.int ki false (p.sub ki 0 n))
  | _, _ => none
def wconv {R : Type} (p : Prims) (P : Program) (src dst : TypeId) (x : WV) (k : WV → Option R) : Option R :=
  match x with
  | .int _ _ n => match P.underlying src, P.underlying dst with
    | some _, some (.int ki) => k (.int ki false (p.conv ki n))
    | some _, some (.float kf) => k (.flt kf false (p.near kf n))
    | _, _ => none
  | .flt kf _ b => match P.underlying src, P.underlying dst with
    | some (.float _), some (.int ki) => p.f2i kf b ki fun n => k (.int ki false n)
    | _, _ => none
  | .str _ s => match tel P dst with
    | some e => if isU8 P e && isStr P src then k (.sl (.one (.int .u8)) (p.toB s) .no) else none
    | none => match P.underlying src, P.underlying dst with
      | some .string, some .string => k x
      | _, _ => none
  | .sl r l o => match tel P src, isStr P dst, asSl (.one (.int .u8)) (.sl r l o) with
    | some e, true, some m => if isU8 P e then k (.str false (p.toS m)) else none
    | _, _, _ => none
  | .nil => match tel P src, isStr P dst with
    | some e, true => if isU8 P e then k (.str true []) else none
    | _, _ => none
  | _ => none
def wslice {R : Type} (p : Prims) (P : Program) (ws : WS) (t : TypeId) (x : Operand) (lo hi mx : Option Operand) (k : WV → Option R) : Option R :=
  match ws.ev x with
  | .str _ s => match mx, isStr P t, wbnd 0 (lo.map ws.ev), wbnd (p.len s) (hi.map ws.ev) with
    | none, true, some l, some h => p.cut s l h fun s' => k (.str false s')
    | _, _, _, _ => none
  | w => match tel P t with
    | none => none
    | some e => match rtOf P 12 e, tsz P e with
      | some r, some sz => match asSl r w with
        | none => none
        | some l => if sz = rlen r then
          match wbnd 0 (lo.map ws.ev), wbnd (p.len l) (hi.map ws.ev) with
          | some a, some b => match mx with
            | none => p.cut l a b fun l' => k (.sl r l' .no)
            | some m => if sameOp hi mx then p.cut l a b fun l' => k (.sl r l' .full) else
              match hi.bind fun o => statI (ws.ev o), statI (ws.ev m) with
              | some u, some v => if u = v then p.cut l a b fun l' => k (.sl r l' .full) else none
              | _, _ => none
          | _, _ => none
          else none
      | _, _ => none
def windexAddr {R : Type} (p : Prims) (P : Program) (t : TypeId) (x i : WV) (k : WV → Option R) : Option R :=
  match x, i with
  | .sl r l _, .int _ _ n => match tel P t with
    | some e => if tsz P e = some (rlen r) then p.ix l n fun x => k (.ref (rowW r x) 0) else none
    | none => none
  | q, .int _ true n => match tarr P t with
    | some (len, e) => if 0 ≤ n ∧ n < len then match tsz P e with
        | some sz => match wshift (n.toNat * sz) q with
          | some w => k w
          | none => none
        | none => none
      else none
    | none => none
  | _, _ => none
def windex {R : Type} (p : Prims) (P : Program) (t : TypeId) (x i : WV) (k : WV → Option R) : Option R :=
  match x, i with
  | .str _ s, .int _ _ n => if isStr P t then p.six s n fun b => k (.int .u8 false b) else none
  | .agg cs, .int _ true n => match tarr P t with
    | some (len, e) => if 0 ≤ n ∧ n < len then match tsz P e, tagg P e with
        | some sz, some g => match wpart g sz cs (n.toNat * sz) with
          | some w => if noGen w then k w else none
          | none => none
        | _, _ => none
      else none
    | none => none
  | _, _ => none
def wscal : WV → Bool
  | .int .. | .bool .. | .str .. | .flt .. | .cx .. => true
  | _ => false
def weqF (p : Prims) (P : Program) (eq : TypeId → List WV → List WV → Option Bool) (xs ys : List WV) : List Field → Option Bool
  | [] => some true
  | f :: fs => if f.name == "_" then none else
    match tsz P f.type, tagg P f.type with
    | some n, some _ => match wtake? xs f.offset n, wtake? ys f.offset n with
      | some a, some b => match eq f.type a b with
        | some r => if fs.isEmpty then some r else match weqF p P eq xs ys fs with
          | some r' => some (p.and r r')
          | none => none
        | none => none
      | _, _ => none
    | _, _ => none
def weqT (p : Prims) (P : Program) : Nat → TypeId → List WV → List WV → Option Bool
  | 0, _, _, _ => none
  | d + 1, t, xs, ys => match P.underlying t with
    | some (.struct _) => if P.stoodInHeld t then none else weqF p P (weqT p P d) xs ys (P.fieldsOf t).toList
    | some (.int k) => match xs, ys with
      | [.int ka _ a], [.int kb _ b] => if ka = kb then some (p.cmp .eql a b) else none
      | _, _ => none
    | some .bool => match xs, ys with
      | [.bool _ a], [.bool _ b] => some (p.beq a b)
      | _, _ => none
    | some .string => match xs, ys with
      | [.str _ a], [.str _ b] => some (p.scmp .eql a b)
      | _, _ => none
    | _ => none
def wcmpB {R : Type} (p : Prims) (P : Program) (op : BinOp) (xt : TypeId) (x y : WV) (k : WV → Option R) : Option R :=
  match x, y with
  | .bool _ a, .bool _ b => match P.underlying xt with
    | some .bool => match op with
      | .eql => k (.bool false (p.beq a b))
      | .neq => k (.bool false (p.not (p.beq a b)))
      | _ => none
    | _ => none
  | .agg xs, .agg ys => match P.underlying xt with
    | some (.struct _) => if P.stoodInHeld xt || P.eqGuardType P.depth xt || !(xs.all wscal && ys.all wscal) then none else match weqF p P (weqT p P 8) xs ys (P.fieldsOf xt).toList with
      | some r => match op with
        | .eql => k (.bool false r)
        | .neq => k (.bool false (p.not r))
        | _ => none
      | none => none
    | _ => none
  | _, _ => none
def wq {R : Type} (p : Prims) (P : Program) (ws : WS) (ds : List Nat) (op : Op) (k : WV → Option R) : Option R :=
  match op with
  | .move x | .assign x => k (ws.ev x)
  | .pick c a b => match ws.ev c with
    | .bool true t => if t then k (ws.ev a) else k (ws.ev b)
    | .bool false t => p.ite t (k (ws.ev a)) (k (ws.ev b))
    | _ => none
  | .build t parts => match tzero P t, buildPlace P t with
    | some cs, some place => match wfill place (cs.map ofA1) (parts.toList.map fun q => (q.1, ws.ev q.2)) with
      | some r => k (.agg r)
      | none => none
    | _, _ => none
  | .buildSlice t len parts => match tel P t with
    | some e => match tzero P e, tsz P e, rtOf P 12 e with
      | some z, some sz, some rt => if z.length = sz ∧ len * sz ≤ 16777216 ∧ sz ≠ 0 then
          match wfillRows sz (List.replicate len (z.map ofA1)) (parts.toList.map fun q => (q.1, ws.ev q.2)) with
          | some rows => match unrows rt rows with
            | some l => k (.sl rt l .full)
            | none => none
          | none => none
        else none
      | _, _, _ => none
    | none => none
  | .makeSlice t x y => match tel P t, intW (ws.ev x), sameOp (some x) (some y) || ((statI (ws.ev x)).isSome && statI (ws.ev x) == statI (ws.ev y)) with
    | some e, some n, true => match tzero P e, tsz P e, tby P e, rtOf P 12 e with
      | some z, some sz, some by_, some rt => if z.length = sz ∧ sz ≠ 0 then match unrow rt (z.map ofA1) with
          | some u => p.guard (p.cmp .leq 0 n) (p.guard (p.fits 1 n) (p.guard (p.fits by_ n) (k (.sl rt (p.rep n u) .full))))
          | none => none
        else none
      | _, _, _, _ => none
    | _, _, _ => none
  | .load t q => match wlook ws (dsL ds q) (ws.ev q), tsz P t, tagg P t with
    | some (row, off), some n, some g => match wpart g n row off with
      | some w => if noGen w then k (match ws.ev q with
        | .fp .. => w
        | _ => wstrip w) else none
      | none => none
    | _, _, _ => none
  | .nilCheck x => match ws.ev x with
    | .ref row off => k (.ref row off)
    | .fp g s off => k (.fp g s off)
    | _ => none
  | .binOp o xt x y _ => match stat (ws.ev x), stat (ws.ev y) with
    | some a, some b => match nilEq P o xt a b with
      | some v => k (ofA1 v)
      | none => match binA P o xt x y a b with
        | some v => k (ofA1 v)
        | none => none
    | _, _ => match ws.ev x, ws.ev y with
      | .int k1 s1 n1, .int k2 s2 n2 => wbin p P o (.int k1 s1 n1) (.int k2 s2 n2) k
      | .str s1 n1, .str s2 n2 => wbin p P o (.str s1 n1) (.str s2 n2) k
      | .flt k1 s1 n1, .flt k2 s2 n2 => wbin p P o (.flt k1 s1 n1) (.flt k2 s2 n2) k
      | .cx k1 s1 n1 m1, .cx k2 s2 n2 m2 => wbin p P o (.cx k1 s1 n1 m1) (.cx k2 s2 n2 m2) k
      | u, v => wcmpB p P o xt u v k
  | .unOp o _ x => match stat (ws.ev x) with
    | some a => match a.val with
      | some u => match pr P (Op.unary o u) with
        | some v => k (ofA1 (absV v))
        | none => none
      | none => none
    | none => wun p o (ws.ev x) k
  | .convert s d x => match stat (ws.ev x) with
    | some a => match convA P s d a with
      | some v => match ofA1 v with
        | .top => wconv p P s d (ws.ev x) k
        | w => k w
      | none => none
    | none => wconv p P s d (ws.ev x) k
  | .slice t x lo hi mx => wslice p P ws t x lo hi mx k
  | .fieldAddr t x i => match placeOf P t i with
    | some (off, sz) => if sz = 0 then none else match wshift off (ws.ev x) with
      | some w => k w
      | none => none
    | none => none
  | .field t x i => match ws.ev x, tfield P t i with
    | .agg cs, some (off, ft) => match tsz P ft, tagg P ft with
      | some sz, some g => match wpart g sz cs off with
        | some w => if noGen w then k w else none
        | none => none
      | _, _ => none
    | _, _ => none
  | .indexAddr t x i => windexAddr p P t (ws.ev x) (ws.ev i) k
  | .index t x i => windex p P t (ws.ev x) (ws.ev i) k
  | .extract x i => match ws.ev x with
    | .tup vs => match vs[i]? with
      | some w => if noGen w then k (wstrip2 w) else none
      | none => none
    | _ => none
  | _ => none
end Go.Proofs.W
namespace Go.Proofs.W
open Go Go.Proofs.V
set_option linter.unusedVariables false
set_option linter.unusedSimpArgs false
section
variable {P : Program} {O : WO → Own → Prop} {γ : Nat → Option Nat} {R : Type} {k : WV → Option R} {r : R}
theorem wun_sound {op : UnOp} {x : WV} {a : AV} (hx : WR O γ x a) (n : Nat) (h : wun real op x k = some r) : ∃ w v, k w = some r ∧ ((match a.val with | some u => (pr P (Op.unary op u)).map absV | none => none) = some v) ∧ WR O γ w v ∧ gensB n w := by
  unfold wun at h
  split at h
  · cases hx; exact ⟨_, _, h, rfl, .bool _ _, trivial⟩
  · cases hx; exact ⟨_, _, h, rfl, .int _ _ _, trivial⟩
  · cases h
theorem u8row {l : List Int} : ∀ {rows : List (List AV)}, All2 (rowR (.one (.int .u8))) l rows → bytesOf rows = some (l.map fun n => UInt8.ofNat n.toNat) := by
  induction l with
  | nil => intro rows h; cases rows with
    | nil => rfl
    | cons => exact h.elim
  | cons n l ih =>
    intro rows h
    cases rows with
    | nil => exact h.elim
    | cons row rows =>
      obtain ⟨⟨a, rfl, ha⟩, h⟩ := h
      simp only [cellR] at ha
      subst ha
      simp only [bytesOf, ih h, Option.map_some, List.map_cons]
theorem bytesRow : ∀ (s : List UInt8), All2 (rowR (.one (.int .u8))) (s.map fun b => (b.toNat : Int)) (s.map rowOfByte)
  | [] => trivial
  | b :: s => ⟨⟨_, rfl, rfl⟩, bytesRow s⟩
theorem wconv_sound (hO : ∀ o, O .no o) {s d : TypeId} {x : WV} {a : AV} (hx : WR O γ x a) (n : Nat) (hg : gensB n x) (h : wconv real P s d x k = some r) : ∃ w v, k w = some r ∧ convA P s d a = some v ∧ WR O γ w v ∧ gensB n w := by
  unfold wconv at h
  split at h
  · rename_i k1 st m
    cases hx
    split at h
    · rename_i u ki h1 h2
      refine ⟨_, _, h, ?_, .int ki _ (ki.wrap m), trivial⟩
      simp only [convA, AV.val, val1, Go.convert, pr_bind, pr_underlying h1, pr_underlying h2, Option.bind_some]
      rfl
    · rename_i u kf h1 h2
      refine ⟨_, _, h, ?_, .flt kf _ (kf.nearest m), trivial⟩
      simp only [convA, AV.val, val1, Go.convert, pr_bind, pr_underlying h1, pr_underlying h2, Option.bind_some]
      rfl
    · cases h
  · rename_i kf st b
    cases hx
    split at h
    · rename_i u ki h1 h2
      have h : f2iF kf b ki (fun n => k (.int ki false n)) = some r := h
      unfold f2iF at h
      split at h
      · rename_i m hm
        split at h
        · rename_i hb
          refine ⟨_, _, h, ?_, .int ki _ m, trivial⟩
          simp only [convA, AV.val, val1, Go.convert, pr_bind, pr_underlying h1, pr_underlying h2, Option.bind_some, Conv.floatToInt, hm, hb, and_self, if_true, pr_pure, Option.map_some]
          rfl
        · cases h
      · cases h
    · cases h
  · rename_i st s'
    cases hx
    split at h
    · rename_i e he
      split at h
      · rename_i hc
        refine ⟨_, _, h, ?_, .sl (.one (.int .u8)) _ .no (s'.map rowOfByte) false .no ⟨bytesRow s', fun e => by cases e⟩ (hO _) (fun _ e => by cases e), trivial⟩
        simp only [convA, he, hc, if_true]
      · cases h
    · rename_i he
      split at h
      · rename_i h1 h2
        refine ⟨_, _, h, ?_, .str _ _, hg⟩
        simp only [convA, he, Go.convert, pr_bind, pr_underlying h1, pr_underlying h2, Option.bind_some]
        rfl
      · cases h
  · rename_i rt l o
    cases hx
    rename_i rows nl own hr ho hm0
    split at h
    · rename_i e m h1 h2 h3
      split at h
      · rename_i h4
        obtain ⟨rows', nl', own', e1, hm⟩ := asSl_R (O := O) (γ := γ) h3 (.sl rt l o rows nl own hr ho hm0)
        cases e1
        refine ⟨_, _, h, ?_, .str _ _, trivial⟩
        simp only [convA, h1, h2, h4, if_true, u8row hm.1, Option.map_some]; rfl
      · cases h
    · cases h
  · cases hx
    split at h
    · rename_i e h1 h2
      split at h
      · rename_i h4
        refine ⟨_, _, h, ?_, .str _ _, trivial⟩
        simp only [convA, h1, h2, h4, if_true, bytesOf, Option.map_some]
      · cases h
    · cases h
  · cases h
end
end Go.Proofs.W
namespace Go.Proofs.W
open Go Go.Proofs.V
set_option linter.unusedVariables false
set_option linter.unusedSimpArgs false
section
variable {P : Program} {O : WO → Own → Prop} {γ : Nat → Option Nat} {R : Type} {k : WV → Option R} {r : R}
theorem ixL_some {A R : Type} {l : List A} {n : Int} {k : A → Option R} {r : R} (h : ixL l n k = some r) : 0 ≤ n ∧ ∃ x, l[n.toNat]? = some x ∧ k x = some r := by
  unfold ixL at h
  split at h
  · rename_i h0
    split at h
    · rename_i x hx; exact ⟨h0, x, hx, h⟩
    · cases h
  · cases h
theorem cutL_some {A R : Type} {l : List A} {lo hi : Int} {k : List A → Option R} {r : R} (h : cutL l lo hi k = some r) : (0 ≤ lo ∧ lo ≤ hi ∧ hi ≤ l.length) ∧ k ((l.take hi.toNat).drop lo.toNat) = some r := by
  unfold cutL at h
  split at h
  · rename_i h0; exact ⟨h0, h⟩
  · cases h
theorem wshift_R {n : Nat} {w w' : WV} {a : AV} (h : WR O γ w a) (hs : wshift n w = some w') : ∃ a', a.shift n = some a' ∧ WR O γ w' a' ∧ ∀ m, gensB m w → gensB m w' := by
  cases h <;> simp only [wshift, reduceCtorEq, Option.some.injEq] at hs
  case ref cs as off hl h => subst hs; exact ⟨_, rfl, .ref _ _ _ hl h, fun _ h => h⟩
  case fp g g' s off hgg => subst hs; exact ⟨_, rfl, .fp _ _ _ _ hgg, fun _ h => h⟩
theorem windexAddr_sound (hO : ∀ o, O .no o) {t : TypeId} {x i : WV} {a b : AV} (hx : WR O γ x a) (hi : WR O γ i b) (n : Nat) (hg : gensB n x) (h : windexAddr real P t x i k = some r) : ∃ w v, k w = some r ∧ indexAddrA P t a b = some v ∧ WR O γ w v ∧ gensB n w := by
  unfold windexAddr at h
  split at h
  · rename_i rt l o ki st m
    cases hi
    cases hx
    rename_i rows nl own hr ho hm0
    split at h
    · rename_i e he
      split at h
      · rename_i hz
        obtain ⟨h0, x, hx, hk⟩ := ixL_some h
        obtain ⟨row, hrow, hxr⟩ := All2.get hr.1 hx
        refine ⟨_, _, hk, ?_, wr_ref (rowW_R hO rt x row hxr), trivial⟩
        simp only [indexAddrA, intOfA, he, h0, if_true, hrow, hz, rowR_len rt x row hxr]
      · cases h
    · cases h
  · rename_i q ki m hq
    cases hi
    split at h
    · rename_i len e he
      split at h
      · rename_i hm
        split at h
        · rename_i sz hsz
          split at h
          · rename_i w hw
            obtain ⟨a', ha, hr, hgg⟩ := wshift_R hx hw
            refine ⟨_, _, h, ?_, hr, hgg _ hg⟩
            cases hx <;> simp only [wshift, reduceCtorEq] at hw <;> simp only [indexAddrA, intOfA, he, hm, hsz, ha, and_self, if_true]
          · cases h
        · cases h
      · cases h
    · cases h
  · cases h
theorem windex_sound {t : TypeId} {x i : WV} {a b : AV} (hx : WR O γ x a) (hi : WR O γ i b) (n : Nat) (h : windex real P t x i k = some r) : ∃ w v, k w = some r ∧ indexA P t a b = some v ∧ WR O γ w v ∧ gensB n w := by
  unfold windex at h
  split at h
  · rename_i sx s ki st m
    cases hi
    cases hx
    split at h
    · rename_i hs
      simp only [real, sixL] at h
      split at h
      · rename_i h0
        split at h
        · rename_i bb hb
          refine ⟨_, _, h, ?_, .int _ _ _, trivial⟩
          simp only [indexA, intOfA, h0, hs, and_self, if_true, hb, Option.map_some]
        · cases h
      · cases h
    · cases h
  · rename_i cs ki m
    cases hi
    cases hx
    rename_i as hl hh
    split at h
    · rename_i len e he
      split at h
      · rename_i hm
        split at h
        · rename_i sz g hsz hag
          split at h
          · rename_i w hw
            split at h
            · rename_i hng
              obtain ⟨v, hv, hr⟩ := wpart_R (wrl_of hl hh) hw
              refine ⟨_, _, h, ?_, hr, ?_⟩
              · simp only [indexA, intOfA, he, hm, hsz, hag, hv, and_self, if_true]
              · cases w <;> first | trivial | cases hng
            · cases h
          · cases h
        · cases h
      · cases h
    · cases h
  · cases h
end
section
variable {θ : Nat → Option (Option Nat)} {γ : Nat → Option Nat} {ws : WS} {F : St} {B : Nat} {P : Program} {R : Type} {k : WV → Option R} {r : R}
theorem opt_R (h : Rl θ γ ws F B) (o : Option Operand) : (o.map ws.ev = none ∧ o.map F.ev = none) ∨ ∃ x y, o.map ws.ev = some x ∧ o.map F.ev = some y ∧ WR (ownR ws.al F.al θ) γ x y := by
  cases o with
  | none => exact .inl ⟨rfl, rfl⟩
  | some o => exact .inr ⟨_, _, rfl, rfl, ev_R h o⟩
theorem intOf_bnd {d n : Int} {o : Option AV} (h : bnd d o = some n) (ho : o.isSome = true) : ∃ v, o = some v ∧ intOfA v = some n := by
  cases o with
  | none => cases ho
  | some v => exact ⟨v, rfl, h⟩
theorem drop_take' {A : Type} (l : List A) (a b : Nat) (h : a ≤ b) : (l.take b).drop a = (l.drop a).take (b - a) := by
  rw [List.drop_take]
theorem wslice_sound (hr : Rl θ γ ws F B) {t : TypeId} {x : Operand} {lo hi mx : Option Operand} (h : wslice real P ws t x lo hi mx k = some r) : ∃ w v, k w = some r ∧ sliceA P t (F.ev x) (lo.map F.ev) (hi.map F.ev) (mx.map F.ev) = some v ∧ WR (ownR ws.al F.al θ) γ w v ∧ gensB ws.ng w := by
  have hx := ev_R hr x
  unfold wslice at h
  split at h
  · rename_i st s hs
    rw [hs] at hx
    cases hF : F.ev x <;> rw [hF] at hx <;> cases hx
    split at h
    · rename_i a b h1 h2 h3
      have k1 := wbnd_R h2 (opt_R hr lo)
      have k2 := wbnd_R h3 (opt_R hr hi)
      have h : cutL s a b (fun s' => k (.str false s')) = some r := h
      obtain ⟨⟨c1, c2, c3⟩, hk⟩ := cutL_some h
      refine ⟨_, _, hk, ?_, .str _ _, trivial⟩
      have e : (⟨⟨s⟩⟩ : ByteArray).size = s.length := rfl
      have k2' : bnd (s.length : Int) (hi.map F.ev) = some b := k2
      simp only [sliceA, Option.map_none, h1, k1, k2', e, c1, c2, c3, and_self, if_true]
      rw [drop_take' _ _ _ (by omega)]
    · cases h
  · rename_i w hns
    split at h
    · cases h
    · rename_i e he
      split at h
      · rename_i rt sz hrt hsz
        split at h
        · cases h
        · rename_i l hl
          obtain ⟨rows, nl, own, hF, hrows⟩ := asSl_R hl hx
          have hlen : (rows.length : Int) = (l.length : Int) := by rw [hrows.1.len]
          split at h
          · rename_i hsr
            have hall : (rows.all fun r => r.length == sz) = true := List.all_eq_true.2 fun row hrow => by
              rw [rows_len hrows.1 row hrow, hsr]; simp
            split at h
            · rename_i a b h1 h2
              have k1 := wbnd_R h1 (opt_R hr lo)
              have k2 : bnd (rows.length : Int) (hi.map F.ev) = some b := by
                rw [hlen]; exact wbnd_R h2 (opt_R hr hi)
              have fin : ∀ {o : WO} {own : Own}, ownR ws.al F.al θ o own → (∀ c, o ≠ .mine c) → WR (ownR ws.al F.al θ) γ (.sl rt ((l.take b.toNat).drop a.toNat) o) (.slice ((rows.take b.toNat).drop a.toNat) nl own) := fun ho hn => .sl _ _ _ _ _ _ ⟨(hrows.1.take _).drop _, fun e => by rw [hrows.2 e]; simp⟩ ho (fun c e => absurd e (hn c))
              split at h
              · rename_i hmx
                have h : cutL l a b (fun l' => k (.sl rt l' .no)) = some r := h
                obtain ⟨⟨c1, c2, c3⟩, hk⟩ := cutL_some h
                refine ⟨_, _, hk, ?_, fin (own := .no) trivial (fun _ e => by cases e), trivial⟩
                rw [hF]
                simp only [sliceA, he, k1, k2, hsz, Option.map_none]
                rw [if_pos ⟨c1, c2, by omega, hall⟩]
              · rename_i m
                have full : ∀ hm : intOfA (F.ev m) = some b, hi.isSome = true → cutL l a b (fun l' => k (.sl rt l' .full)) = some r → ∃ w v, k w = some r ∧ sliceA P t (F.ev x) (lo.map F.ev) (hi.map F.ev) (some (F.ev m)) = some v ∧ WR (ownR ws.al F.al θ) γ w v ∧ gensB ws.ng w := by
                  intro hm hs hc
                  obtain ⟨⟨c1, c2, c3⟩, hk⟩ := cutL_some hc
                  refine ⟨_, _, hk, ?_, fin (own := .full) rfl (fun _ e => by cases e), trivial⟩
                  rw [hF]
                  simp only [sliceA, he, k1, k2, hsz]
                  rw [if_pos ⟨c1, c2, by omega, hall⟩, if_pos ⟨hm, by simpa using hs⟩]
                split at h
                · rename_i hso
                  obtain ⟨heq, hsome⟩ := sameOp_eq hso
                  subst heq
                  obtain ⟨v, hv, hi'⟩ := intOf_bnd k2 (by rfl)
                  cases hv
                  exact full hi' rfl h
                · split at h
                  · rename_i u v hu hv
                    split at h
                    · rename_i huv
                      subst huv
                      cases hi with
                      | none => cases hu
                      | some o =>
                        obtain ⟨v', hv', hi'⟩ := intOf_bnd k2 (by rfl)
                        have q1 := ev_R hr o
                        have q2 := ev_R hr m
                        simp only [Option.bind_some] at hu
                        have i1 : ∀ {w : WV} {a : AV} {n : Int}, WR (ownR ws.al F.al θ) γ w a → statI w = some n → intOfA a = some n := by
                          intro w a n hw hs
                          unfold statI at hs
                          split at hs
                          · cases hs; cases hw; rfl
                          · cases hs
                        have j1 := i1 q1 hu
                        have j2 := i1 q2 hv
                        simp only [Option.map_some, Option.some.injEq] at hv'
                        subst hv'
                        rw [j1] at hi'
                        cases hi'
                        exact full j2 rfl h
                    · cases h
                  · cases h
            · cases h
          · cases h
      · cases h
end
end Go.Proofs.W
namespace Go.Proofs.W
open Go Go.Proofs.V
set_option linter.unusedVariables false
set_option linter.unusedSimpArgs false
section
variable {P : Program} {O : WO → Own → Prop} {γ : Nat → Option Nat}
theorem vals_len : ∀ {xs : List AV} {vs : List Value}, vals xs = some vs → vs.length = xs.length
  | [], vs, h => by cases h; rfl
  | x :: xs, vs, h => by
    simp only [vals] at h
    split at h
    · rename_i u us h1 h2; cases h; simp [vals_len h2]
    · cases h
theorem vals_drop : ∀ (n : Nat) {xs : List AV} {vs : List Value}, vals xs = some vs → vals (xs.drop n) = some (vs.drop n)
  | 0, _, _, h => h
  | n + 1, [], vs, h => by cases h; rfl
  | n + 1, x :: xs, vs, h => by
    simp only [vals] at h
    split at h
    · rename_i u us h1 h2; cases h; exact vals_drop n h2
    · cases h
theorem vals_take : ∀ (n : Nat) {xs : List AV} {vs : List Value}, vals xs = some vs → vals (xs.take n) = some (vs.take n)
  | 0, _, _, h => rfl
  | n + 1, [], vs, h => by cases h; rfl
  | n + 1, x :: xs, vs, h => by
    simp only [vals] at h
    split at h
    · rename_i u us h1 h2; cases h
      simp only [List.take_succ_cons, vals, h1, vals_take n h2]
    · cases h
/-- A value of this type, out of cells. -/
def valOf (g : Bool) (vs : List Value) : Option Value := if g then some (.agg vs.toArray) else match vs with
  | [v] => some v
  | _ => none
theorem pr_tsz {t : TypeId} {n : Nat} (h : tsz P t = some n) : pr P (sizeOf t) = some n := by
  unfold tsz at h
  simp only [Option.map_eq_some_iff] at h
  obtain ⟨i, hi, rfl⟩ := h
  simp only [sizeOf, typeInfo, pr_bind, pr_program, Option.bind_some, hi]
  rfl
theorem pr_tagg {t : TypeId} {g : Bool} (h : tagg P t = some g) : pr P (isAgg t) = some g := by
  unfold tagg at h
  unfold isAgg
  simp only [pr_bind]
  split at h
  · rename_i fs hu; cases h; rw [pr_underlying hu]; rfl
  · rename_i fs e hu; cases h; rw [pr_underlying hu]; rfl
  · rename_i u h1 h2 hu
    cases h
    rw [pr_underlying hu]
    simp only [Option.bind_some]
    cases u <;> first | rfl | (exact absurd hu (h1 _)) | (exact absurd hu (h2 _ _))
  · cases h
theorem pr_part {t : TypeId} {g : Bool} {n off : Nat} {vs sub : List Value} {v : Value} (hg : tagg P t = some g) (hn : tsz P t = some n) (hl : off + n ≤ vs.length) (hs : (vs.drop off).take n = sub) (hv : valOf g sub = some v) : pr P (part t vs.toArray off) = some v := by
  unfold part
  simp only [pr_bind, pr_tagg hg, Option.bind_some]
  unfold valOf at hv
  cases g with
  | true =>
    simp only [if_true] at hv
    cases hv
    simp only [if_true, pr_bind, pr_tsz hn, Option.bind_some, pr_pure]
    congr 2
    subst hs
    apply Array.ext'
    simp [List.take_drop]
  | false =>
    simp only [Bool.false_eq_true, if_false] at hv
    split at hv
    · rename_i u
      cases hv
      simp only [Bool.false_eq_true, if_false]
      have h0 : vs[off]? = some v := by
        have : ((vs.drop off).take n)[0]? = some v := by rw [hs]; rfl
        have hn0 : 0 < n := by
          rcases Nat.eq_zero_or_pos n with h | h
          · subst h; simp at hs
          · exact h
        rw [List.getElem?_take_of_lt hn0, List.getElem?_drop] at this
        simpa using this
      have : (vs.toArray)[off]? = some v := by simpa using h0
      rw [this]
      rfl
    · cases hv
theorem wscal_vals : ∀ {cs : List WV} {as : List AV}, WRL O γ cs as → cs.all wscal = true → ∃ us, vals as = some us
  | [], [], _, _ => ⟨[], rfl⟩
  | x :: cs, a :: as, h, hs => by
    simp only [List.all_cons, Bool.and_eq_true] at hs
    obtain ⟨us, hu⟩ := wscal_vals h.2 hs.2
    have h1 := h.1
    cases h1 <;> first | (cases hs.1; done) | exact ⟨_ :: us, by simp only [vals, val1, hu]; rfl⟩
/-- What comparing says of two rows of cells. -/
def EqOk (P : Program) (O : WO → Own → Prop) (γ : Nat → Option Nat) (d : Nat) (eq : TypeId → List WV → List WV → Option Bool) : Prop :=
  ∀ t xs ys b, eq t xs ys = some b → ∀ (as bs : List AV) (us vs : List Value), WRL O γ xs as → WRL O γ ys bs → vals as = some us → vals bs = some vs → ∀ g, tagg P t = some g → ∃ u v, valOf g us = some u ∧ valOf g vs = some v ∧ pr P (Op.equalIn d t u v) = some b
theorem field_part {O : WO → Own → Prop} {γ : Nat → Option Nat} {cs sub : List WV} {as : List AV} {off n : Nat} (h : WRL O γ cs as) (ht : wtake? cs off n = some sub) : ∃ as', WRL O γ sub as' ∧ as' = (as.drop off).take n ∧ off + n ≤ as.length := by
  unfold wtake? at ht
  split at ht
  · rename_i hl
    cases ht
    exact ⟨_, (All2.drop _ h).take _, rfl, by rw [← h.len]; exact hl⟩
  · cases ht
theorem weqF_ok {d : Nat} {eq : TypeId → List WV → List WV → Option Bool} (he : EqOk P O γ d eq) {xs ys : List WV} {as bs : List AV} {us vs : List Value} (hx : WRL O γ xs as) (hy : WRL O γ ys bs) (hu : vals as = some us) (hv : vals bs = some vs) : ∀ (fs : List Field) (b : Bool), weqF real P eq xs ys fs = some b → pr P (Op.eqFields d us.toArray vs.toArray fs) = some b
  | [], b, h => by cases h; exact pr_eqFields_nil
  | f :: fs, b, h => by
    simp only [weqF] at h
    split at h
    · cases h
    · rename_i hn
      split at h
      · rename_i n g hn' hg
        split at h
        · rename_i p q hp hq
          split at h
          · rename_i r hr
            obtain ⟨as', ha, rfl, hal⟩ := field_part hx hp
            obtain ⟨bs', hb, rfl, hbl⟩ := field_part hy hq
            have hua := vals_take n (vals_drop f.offset hu)
            have hvb := vals_take n (vals_drop f.offset hv)
            obtain ⟨u, v, h1, h2, h3⟩ := he _ _ _ _ hr _ _ _ _ ha hb hua hvb g hg
            have p1 := pr_part (P := P) hg hn' (by rw [vals_len hu]; exact hal) rfl h1
            have p2 := pr_part (P := P) hg hn' (by rw [vals_len hv]; exact hbl) rfl h2
            have hnn : (f.name == "_") = false := by simpa using hn
            split at h
            · rename_i hemp
              cases h
              cases fs with
              | nil =>
                have := pr_eqFields_cons hnn p1 p2 h3 (pr_eqFields_nil (P := P) (d := d))
                rw [Bool.and_true] at this
                exact this
              | cons => cases hemp
            · split at h
              · rename_i r' hr'
                cases h
                exact pr_eqFields_cons hnn p1 p2 h3 (weqF_ok he hx hy hu hv fs r' hr')
              · cases h
          · cases h
        · cases h
      · cases h
theorem vals_one {a : AV} {us : List Value} {v : Value} (h : vals [a] = some us) (ha : val1 a = some v) : us = [v] := by
  simp only [vals, ha] at h
  cases h; rfl
theorem und_tagg {t : TypeId} {u : TypeDesc} {g : Bool} (hu : P.underlying t = some u) (hg : tagg P t = some g) (h : (∀ fs, u ≠ .struct fs) ∧ ∀ n e, u ≠ .array n e) : g = false := by
  unfold tagg at hg
  rw [hu] at hg
  cases u <;> simp at hg <;> first | exact hg.symm | exact hg | (exact absurd rfl (h.1 _)) | (exact absurd rfl (h.2 _ _))
theorem weqT_ok : ∀ (d d' : Nat), EqOk P O γ (d + d') (weqT real P d)
  | 0, d', t, xs, ys, b, h => by simp [weqT] at h
  | d + 1, d', t, xs, ys, b, h => by
    intro as bs us vs hx hy hu hv g hg
    have hd : d + 1 + d' = (d + d') + 1 := by omega
    rw [hd]
    simp only [weqT] at h
    split at h
    · rename_i fs hun
      split at h
      · cases h
      · rename_i hp
        have hg' : g = true := by
          unfold tagg at hg; rw [hun] at hg; simpa using hg.symm
        subst hg'
        refine ⟨_, _, rfl, rfl, ?_⟩
        rw [pr_equalIn_struct (d + d') t _ _ (by simp only [Program.fieldsOf, hun]) (by simpa using hp)]
        exact weqF_ok (weqT_ok d d') hx hy hu hv _ b h
    · rename_i ki hun
      have hg' : g = false := und_tagg hun hg ⟨(by intro fs e; cases e), (by intro n e q; cases q)⟩
      subst hg'
      split at h
      · rename_i ka sa a kb sb bb
        split at h
        · rename_i hk
          subst hk
          cases h
          cases as with
          | nil => exact hx.elim
          | cons a' as => cases as with
            | cons => exact hx.2.elim
            | nil => cases bs with
              | nil => exact hy.elim
              | cons b' bs => cases bs with
                | cons => exact hy.2.elim
                | nil =>
                  have h1 := hx.1
                  have h2 := hy.1
                  cases h1; cases h2
                  rw [vals_one hu rfl, vals_one hv rfl]
                  refine ⟨_, _, rfl, rfl, ?_⟩
                  simp only [Op.equalIn, pr_bind, pr_underlying hun, Option.bind_some, if_true]
                  rfl
        · cases h
      · cases h
    · rename_i hun
      have hg' : g = false := und_tagg hun hg ⟨(by intro fs e; cases e), (by intro n e q; cases q)⟩
      subst hg'
      split at h
      · rename_i sa a sb bb
        cases h
        cases as with
        | nil => exact hx.elim
        | cons a' as => cases as with
          | cons => exact hx.2.elim
          | nil => cases bs with
            | nil => exact hy.elim
            | cons b' bs => cases bs with
              | cons => exact hy.2.elim
              | nil =>
                have h1 := hx.1
                have h2 := hy.1
                cases h1; cases h2
                rw [vals_one hu rfl, vals_one hv rfl]
                refine ⟨_, _, rfl, rfl, ?_⟩
                simp only [Op.equalIn, pr_bind, pr_underlying hun, Option.bind_some, if_true]
                rfl
      · cases h
    · rename_i hun
      have hg' : g = false := und_tagg hun hg ⟨(by intro fs e; cases e), (by intro n e q; cases q)⟩
      subst hg'
      split at h
      · rename_i sa a sb bb
        cases h
        cases as with
        | nil => exact hx.elim
        | cons a' as => cases as with
          | cons => exact hx.2.elim
          | nil => cases bs with
            | nil => exact hy.elim
            | cons b' bs => cases bs with
              | cons => exact hy.2.elim
              | nil =>
                have h1 := hx.1
                have h2 := hy.1
                cases h1; cases h2
                rw [vals_one hu rfl, vals_one hv rfl]
                refine ⟨_, _, rfl, rfl, ?_⟩
                simp only [Op.equalIn, pr_bind, pr_underlying hun, Option.bind_some, if_true]
                have : ((⟨⟨a⟩⟩ : ByteArray) == ⟨⟨bb⟩⟩) = (a == bb) := by
                  show ((⟨a⟩ : Array UInt8) == ⟨bb⟩) = _
                  by_cases h : a = bb
                  · subst h; simp
                  · rw [beq_false_of_ne h]; simp [h]
                simp only [this]
                rfl
      · cases h
    · cases h
end
end Go.Proofs.W

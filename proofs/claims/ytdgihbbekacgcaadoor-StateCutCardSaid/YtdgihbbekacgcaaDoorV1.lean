/- The abstract evaluator: Go's code over values without a world. -/
import Derived.CallsIn
import Derived.OrdersIn
import Derived.LoopNIn
import Derived.Below
namespace Go.Proofs.V
open Go
set_option linter.unusedVariables false
set_option linter.unusedSimpArgs false

/-- Who may append to a slice in place: nobody; everybody (there is no spare room); whoever a call hands it to; the holder of a mark. -/
inductive Own where
  | no | full | fresh | id (n : Nat)
  deriving DecidableEq, Inhabited

inductive AV where
  | at (v : Value)
  | slice (rows : List (List AV)) (nl : Bool) (own : Own)
  | ref (row : List AV) (off : Nat)
  | fp (gen slot off : Nat)
  | hp (loc off : Nat)
  | fn (f : Fn) (first captured : List AV)
  | agg (cells : List AV)
  | tup (vs : List AV)
  | box (gen : Nat) (cells : List AV)
  | ifc (t : TypeId) (v : AV)
  | hs (loc off len cap sz : Nat)
  deriving Inhabited

def und : AV := .tup []

def AV.cells : AV → List AV
  | .agg cs => cs
  | x => [x]

/-- May stand in a cell of memory. -/
def AV.plain : AV → Bool
  | .agg _ | .tup _ | .fp .. | .box .. => false
  | .at (.agg _) | .at (.tuple _) => false
  | _ => true

/-- May be stored, handed over, handed back. -/
def AV.free : AV → Bool
  | .fp .. | .box .. => false
  | .at (.agg _) | .at (.tuple _) => false
  | _ => true
/-- May be stored in a variable. -/
def AV.storable : AV → Bool
  | .tup _ | .fp .. | .box .. => false
  | .at (.agg _) | .at (.tuple _) => false
  | _ => true

def Value.one : Value → Bool
  | .agg _ | .tuple _ => false
  | _ => true

def abs1 : Value → AV
  | .slice none 0 0 => .slice [] true .full
  | v => .at v
def absV : Value → AV
  | .slice none 0 0 => .slice [] true .full
  | .agg cs => if cs.toList.all Value.one then .agg (cs.toList.map abs1) else .at (.agg cs)
  | .tuple cs => if cs.size = 0 then .tup [] else .at (.tuple cs)
  | v => .at v

def val1 : AV → Option Value
  | .at v => some v
  | .slice [] true _ => some (.slice none 0 0)
  | _ => none
def vals : List AV → Option (List Value)
  | [] => some []
  | x :: xs => match val1 x, vals xs with
    | some v, some vs => some (v :: vs)
    | _, _ => none
def AV.val : AV → Option Value
  | .agg cs => (vals cs).map fun vs => .agg vs.toArray
  | .tup [] => some (.tuple #[])
  | x => val1 x

/-- A computation that asks the program alone. -/
def pr (P : Program) {α : Type} : Sem α → Option α
  | .pure a => some a
  | .program k => pr P (k P)
  | _ => none
theorem pr_run {P : Program} {α : Type} : ∀ (s : Sem α) (x : α), pr P s = some x → ∀ w, s.run P w = .ok x w := by
  intro s
  induction s with
  | pure a => intro x h w; simp [pr] at h; subst h; rfl
  | program k ih => intro x h w; exact ih P x h w
  | _ => intro x h; simp [pr] at h

/-- Without marks of ownership. -/
def strip1 : AV → AV
  | .slice rows nl (.id _) => .slice rows nl .no
  | .slice rows nl .fresh => .slice rows nl .no
  | x => x
def strip : AV → AV
  | .agg cs => .agg (cs.map strip1)
  | .tup cs => .tup (cs.map strip1)
  | x => strip1 x

/-- A slice keeps its mark, what holds slices loses theirs. -/
def strip2 : AV → AV
  | .slice rows nl own => .slice rows nl own
  | x => strip x

def upd {α : Type} (f : Nat → α) (d : Nat) (v : α) : Nat → α := fun i => if i = d then v else f i
theorem upd_apply {α : Type} (f : Nat → α) (d : Nat) (v : α) (i : Nat) : upd f d v i = if i = d then v else f i := rfl
theorem upd_same {α : Type} (f : Nat → α) (d : Nat) (v : α) : upd f d v d = v := if_pos rfl
theorem upd_ne {α : Type} (f : Nat → α) (d : Nat) (v : α) (i : Nat) (h : i ≠ d) : upd f d v i = f i := if_neg h

structure St where
  n : Nat
  t : Nat → AV
  c : Nat
  al : Nat → Bool
  H : List (List AV)
  /-- what is laid on the heap: by its type -/
  m : TypeId → Bool := fun _ => false

def AV.arg : AV → AV
  | .box g cs => .fp g 0 0
  | x => x
def St.tmp (F : St) (t : Nat) : AV :=
  match F.t t with
  | .box g _ => .fp g t 0
  | x => x
def St.ev (F : St) : Operand → AV
  | .tmp t => F.tmp t
  | .const v => absV v
  | .global g => .at (.pointer (some ⟨g, 0, none⟩))
  | .func f => .fn (.func f) [] []

/-! ### Types -/
def tsz (P : Program) (t : TypeId) : Option Nat := (P.info? t).map (·.size)
def tby (P : Program) (t : TypeId) : Option Nat := (P.info? t).map (·.bytes)
def tagg (P : Program) (t : TypeId) : Option Bool :=
  match P.underlying t with
  | some (.struct _) | some (.array _ _) => some true
  | some _ => some false
  | none => none
def tel (P : Program) (t : TypeId) : Option TypeId :=
  match P.underlying t with
  | some (.slice e) => some e
  | _ => none
def tarr (P : Program) (t : TypeId) : Option (Nat × TypeId) :=
  match P.underlying t with
  | some (.array n e) => some (n, e)
  | _ => none
/-- A field's place and type. -/
def tfield (P : Program) (t : TypeId) (i : Nat) : Option (Nat × TypeId) :=
  match P.underlying t with
  | some (.struct fs) => (fs[i]?).map fun f => (f.offset, f.type)
  | _ => none
def tzero (P : Program) (t : TypeId) : Option (List AV) :=
  match (P.info? t).bind (·.zero) with
  | some z => if ((absV z).cells).all AV.plain && (absV z).cells.length == z.cells.size then some (absV z).cells else none
  | none => none

def isStr (P : Program) (t : TypeId) : Bool := match P.underlying t with
  | some .string => true
  | _ => false
def isU8 (P : Program) (t : TypeId) : Bool := match P.underlying t with
  | some (.int .u8) => true
  | _ => false

/-! ### Memory -/
/-- The row that a pointer leads into, and where. 'ds': slots that may be written meanwhile. -/
def St.look (F : St) (ds : List Nat) : AV → Option (List AV × Nat)
  | .ref row off => some (row, off)
  | .fp g t off => if ds.contains t then none else
    match F.t t with
    | .box g' cs => if g = g' then some (cs, off) else none
    | _ => none
  | .hp l off => (F.H[l]?).map fun cs => (cs, off)
  | _ => none

def take? (row : List AV) (off n : Nat) : Option (List AV) :=
  if off + n ≤ row.length then some ((row.drop off).take n) else none
/-- A value of n cells out of a row. -/
def partA (agg : Bool) (n : Nat) (row : List AV) (off : Nat) : Option AV :=
  if agg then (take? row off n).map .agg else row[off]?

def splice (row : List AV) (off : Nat) (cs : List AV) : List AV := row.take off ++ cs ++ row.drop (off + cs.length)

def St.put (F : St) (d : Option Nat) (v : AV) : Option St :=
  match d with
  | none => some F
  | some d => if d < F.n then some { F with t := upd F.t d v } else none

def St.write (F : St) (p : AV) (cs : List AV) : Option St :=
  match p with
  | .fp g t off => match F.t t with
    | .box g' row => if g = g' ∧ off + cs.length ≤ row.length then some { F with t := upd F.t t (.box g (splice row off cs)) } else none
    | _ => none
  | .hp l off => match F.H[l]? with
    | some row => if off + cs.length ≤ row.length then some { F with H := F.H.set l (splice row off (cs.map strip1)) } else none
    | none => none
  | _ => none

/-- An address, moved on. -/
def AV.shift (k : Nat) : AV → Option AV
  | .ref row off => some (.ref row (off + k))
  | .fp g t off => some (.fp g t (off + k))
  | .hp l off => some (.hp l (off + k))
  | _ => none

/-! ### Operations that yield a value and turn nothing -/
def fillA (place : Nat → Option (Nat × Nat)) (cells : List AV) : List (Nat × AV) → Option (List AV)
  | [] => some cells
  | (i, v) :: rest =>
    match place i with
    | none => none
    | some (off, size) => if v.storable && v.cells.length == size && decide (off + size ≤ cells.length) then fillA place (splice cells off (v.cells.map strip1)) rest else none

/-- What is told of a field by its number, with its type's size. -/
def placeOf (P : Program) (t : TypeId) (i : Nat) : Option (Nat × Nat) :=
  match tfield P t i with
  | some (off, ft) => (tsz P ft).map fun n => (off, n)
  | none => none

/-- Where the parts of a struct's or an array's literal go. -/
def buildPlace (P : Program) (t : TypeId) : Option (Nat → Option (Nat × Nat)) :=
  match P.underlying t with
  | some (.struct fs) => if fs.toList.all (fun f => (P.info? f.type).isSome) then some fun i => (fs[i]?).map fun f => (f.offset, P.cellsOf f.type) else none
  | some (.array _ e) => (tsz P e).map fun s i => some (i * s, s)
  | _ => none
/-- The rows of a slice's literal. -/
def fillRows (size : Nat) (rows : List (List AV)) : List (Nat × AV) → Option (List (List AV))
  | [] => some rows
  | (i, v) :: rest => if v.storable && v.cells.length == size && decide (i < rows.length) then fillRows size (rows.set i (v.cells.map strip1)) rest else none

def intOfA : AV → Option Int
  | .at (.int _ n) => some n
  | _ => none

/-- The bytes that stand in rows of one cell each. -/
def bytesOf : List (List AV) → Option (List UInt8)
  | [] => some []
  | [.at (.int .u8 n)] :: rest => (bytesOf rest).map fun bs => UInt8.ofNat n.toNat :: bs
  | _ => none
def rowOfByte (b : UInt8) : List AV := [.at (.int .u8 b.toNat)]

def binA (P : Program) (op : BinOp) (xt : TypeId) (ox oy : Operand) (a b : AV) : Option AV :=
  match a.val, b.val with
  | some u, some v => (pr P (do eqGuard op xt ox oy u v; binOp op xt u v)).map absV
  | _, _ => none
/-- A slice against nil. -/
def nilEq (P : Program) (op : BinOp) (xt : TypeId) (a b : AV) : Option AV :=
  match tel P xt, op, a, b with
  | some _, .eql, .slice (r :: rs) nl _, .slice [] true _ => some (.at (.bool nl))
  | some _, .neq, .slice (r :: rs) nl _, .slice [] true _ => some (.at (.bool !nl))
  | some _, .eql, .slice [] nl _, .slice [] true _ => some (.at (.bool nl))
  | some _, .neq, .slice [] nl _, .slice [] true _ => some (.at (.bool !nl))
  | some _, .eql, .hs .., .slice [] true _ => some (.at (.bool false))
  | some _, .neq, .hs .., .slice [] true _ => some (.at (.bool true))
  | _, _, _, _ => none

/-- The bounds of a slice expression. -/
def bnd (d : Int) : Option AV → Option Int
  | some v => intOfA v
  | none => some d
def sliceA (P : Program) (t : TypeId) (x : AV) (lo hi mx : Option AV) : Option AV :=
  match x with
  | .slice rows nl own =>
    match tel P t, bnd 0 lo, bnd (rows.length : Int) hi with
    | some e, some l, some h =>
      match tsz P e with
      | none => none
      | some sz =>
        if 0 ≤ l ∧ l ≤ h ∧ h ≤ rows.length ∧ rows.all (fun r => r.length == sz) then
          match mx with
          | none => some (.slice ((rows.take h.toNat).drop l.toNat) nl .no)
          | some m => if intOfA m = some h ∧ hi.isSome = true then some (.slice ((rows.take h.toNat).drop l.toNat) nl .full) else none
        else none
    | _, _, _ => none
  | .at (.string s) =>
    match mx, isStr P t, bnd 0 lo, bnd (s.size : Int) hi with
    | none, true, some l, some h => if 0 ≤ l ∧ l ≤ h ∧ h ≤ s.size then some (.at (.string ⟨⟨(s.data.toList.drop l.toNat).take (h.toNat - l.toNat)⟩⟩)) else none
    | _, _, _, _ => none
  | .hs loc off len cap sz =>
    match tel P t, bnd 0 lo, bnd (len : Int) hi, mx with
    | some e, some l, some h, none => if tsz P e = some sz ∧ 0 ≤ l ∧ l ≤ h ∧ h ≤ len ∧ len ≤ cap ∧ l < cap then some (.hs loc (off + l.toNat * sz) (h.toNat - l.toNat) (cap - l.toNat) sz) else none
    | _, _, _, _ => none
  | _ => none

def convA (P : Program) (src dst : TypeId) (x : AV) : Option AV :=
  match x with
  | .slice rows nl own =>
    match tel P src, isStr P dst with
    | some e, true => if isU8 P e then (bytesOf rows).map fun bs => .at (.string ⟨⟨bs⟩⟩) else none
    | _, _ => none
  | .at (.string s) =>
    match tel P dst with
    | some e => if isU8 P e && isStr P src then some (.slice (s.data.toList.map rowOfByte) false .no) else none
    | none => (pr P (convert src dst (.string s))).map absV
  | x => match x.val with
    | some u => (pr P (convert src dst u)).map absV
    | none => none

def indexAddrA (P : Program) (t : TypeId) (x i : AV) : Option AV :=
  match x, intOfA i with
  | .slice rows _ _, some n =>
    match tel P t with
    | some e => if 0 ≤ n then match rows[n.toNat]? with
        | some row => if tsz P e = some row.length then some (.ref row 0) else none
        | none => none
      else none
    | none => none
  | .hs loc off len _ sz, some n =>
    match tel P t with
    | some e => if 0 ≤ n ∧ n < len ∧ tsz P e = some sz then some (.hp loc (off + n.toNat * sz)) else none
    | none => none
  | p, some n =>
    match tarr P t with
    | some (len, e) => if 0 ≤ n ∧ n < len then match tsz P e with
        | some sz => p.shift (n.toNat * sz)
        | none => none
      else none
    | none => none
  | _, none => none

def indexA (P : Program) (t : TypeId) (x i : AV) : Option AV :=
  match x, intOfA i with
  | .at (.string s), some n => if 0 ≤ n ∧ isStr P t = true then (s.data.toList[n.toNat]?).map fun b => .at (.int .u8 b.toNat) else none
  | .agg cs, some n => match tarr P t with
    | some (len, e) => if 0 ≤ n ∧ n < len then match tsz P e, tagg P e with
        | some sz, some g => partA g sz cs (n.toNat * sz)
        | _, _ => none
      else none
    | none => none
  | _, _ => none

def fieldAddrA (P : Program) (t : TypeId) (x : AV) (i : Nat) : Option AV :=
  match placeOf P t i with
  | some (off, sz) => if sz = 0 then none else x.shift off
  | none => none
def fieldA (P : Program) (t : TypeId) (x : AV) (i : Nat) : Option AV :=
  match x, tfield P t i with
  | .agg cs, some (off, ft) => match tsz P ft, tagg P ft with
    | some sz, some g => partA g sz cs off
    | _, _ => none
  | _, _ => none

def isConstOp : Operand → Bool
  | .const _ => true
  | _ => false
/-- What is read out of memory that others hold too bears no mark. -/
def keep : AV → AV → AV
  | .fp .., x => x
  | _, x => strip x
def evs (F : St) : List Operand → List AV
  | [] => []
  | x :: xs => F.ev x :: evs F xs

/-- The quiet operations but the calls: what the operation yields. 'lab': the operation's own mark. -/
def quiet (P : Program) (F : St) (ds : List Nat) (lab : Nat) (op : Op) : Option AV :=
  match op with
  | .move x | .assign x => some (F.ev x)
  | .pick c a b => match F.ev c with
    | .at (.bool t) => some (if t then F.ev a else F.ev b)
    | _ => none
  | .alloc e => (tzero P e).map fun cs => .box lab cs
  | .box _ x => if (F.ev x).storable then some (.box lab ((F.ev x).cells.map strip1)) else none
  | .build t parts => match tzero P t, buildPlace P t with
    | some cs, some place => (fillA place cs (parts.toList.map fun p => (p.1, F.ev p.2))).map .agg
    | _, _ => none
  | .buildSlice t len parts => match tel P t with
    | some e => match tzero P e, tsz P e with
      | some z, some sz => if z.length = sz ∧ len * sz ≤ 16777216 ∧ sz ≠ 0 then (fillRows sz (List.replicate len z) (parts.toList.map fun p => (p.1, F.ev p.2))).map fun rows => .slice rows false .full else none
      | _, _ => none
    | none => none
  | .makeSlice t x y => match tel P t, intOfA (F.ev x), intOfA (F.ev y) with
    | some e, some n, some k => match tzero P e, tsz P e, tby P e with
      | some z, some sz, some by_ => if n = k ∧ 0 ≤ n ∧ n ≤ 35184372088832 ∧ n.toNat * by_ ≤ 35184372088832 ∧ z.length = sz ∧ sz ≠ 0 then some (.slice (List.replicate n.toNat z) false .full) else none
      | _, _, _ => none
    | _, _, _ => none
  | .load t p => match F.look ds (F.ev p), tsz P t, tagg P t with
    | some (row, off), some n, some g => (partA g n row off).map (keep (F.ev p))
    | _, _, _ => none
  | .nilCheck x => match F.ev x with
    | .ref row off => some (.ref row off)
    | .fp g t off => some (.fp g t off)
    | .hp l off => some (.hp l off)
    | _ => none
  | .binOp o xt x y _ => match nilEq P o xt (F.ev x) (F.ev y) with
    | some v => some v
    | none => binA P o xt x y (F.ev x) (F.ev y)
  | .unOp o _ x => match (F.ev x).val with
    | some u => (pr P (Op.unary o u)).map absV
    | none => none
  | .convert s d x => convA P s d (F.ev x)
  | .slice t x lo hi mx => sliceA P t (F.ev x) (lo.map F.ev) (hi.map F.ev) (mx.map F.ev)
  | .fieldAddr t x i => fieldAddrA P t (F.ev x) i
  | .field t x i => fieldA P t (F.ev x) i
  | .indexAddr t x i => indexAddrA P t (F.ev x) (F.ev i)
  | .index t x i => indexA P t (F.ev x) (F.ev i)
  | .extract x i => match F.ev x with
    | .tup vs => (vs[i]?).map strip2
    | _ => none
  | _ => none

/-- Builtins on values without memory; len of a slice. -/
def builtinA (P : Program) (b : Builtin) (ts : Array TypeId) (type : TypeId) (consts : Array Bool) (args : List AV) : Option AV :=
  match b, args with
  | .len, [.slice rows _ _] => match ts[0]? with
    | some t => if (tel P t).isSome then some (.at (.int .i64 rows.length)) else none
    | none => none
  | .len, [.hs _ _ len _ _] => match ts[0]? with
    | some t => if (tel P t).isSome then some (.at (.int .i64 len)) else none
    | none => none
  | _, _ => match vals args with
    | some vs => match pr P (builtin b ts type consts vs.toArray) with
      | some (.value v) => some (absV v)
      | _ => none
    | none => none

/-! ### Calls -/
structure Cfg where
  P : Program
  /-- functions of which a contract is proved beside -/
  ext : Nat → Option (List AV → Option AV)
  /-- functions that turn the heap -/
  eff : Nat → Bool
  /-- regions that draw, and that are not taken -/
  bad : List (Array Oper)
  /-- what a function lays on the heap: by its type -/
  heap : Nat → TypeId → Bool := fun _ _ => false
  /-- a function whose heap dies with it: what it hands over is frozen -/
  frz : Nat → Bool := fun _ => false

/-- The marks of what a call hands over. -/
def adopt (lab : Nat) : AV → AV
  | .slice rows nl .fresh => .slice rows nl (.id lab)
  | x => x
def adoptAt (lab : Nat) : List AV → List AV
  | [] => []
  | x :: xs => adopt lab x :: adoptAt (lab + 1) xs
def adoptR (lab : Nat) : AV → AV
  | .tup vs => .tup (adoptAt lab vs)
  | .agg vs => .agg (adoptAt lab vs)
  | x => adopt lab x
def freshAt (lab : Nat) : List AV → Nat → Bool
  | [], _ => false
  | .slice _ _ .fresh :: xs, n => n == lab || freshAt (lab + 1) xs n
  | _ :: xs, n => freshAt (lab + 1) xs n
def freshR (lab : Nat) : AV → Nat → Bool
  | .tup vs, n => freshAt lab vs n
  | .agg vs, n => freshAt lab vs n
  | .slice _ _ .fresh, n => n == lab
  | _, _ => false
def sizeR : AV → Nat
  | .tup vs => vs.length
  | .agg vs => vs.length
  | _ => 1
def markR (lab : Nat) (al : Nat → Bool) (r : AV) : Nat → Bool := fun n => al n || freshR lab r n

/-- What leaves a frame: a mark that is alive becomes the taker's. -/
def leave1 (al : Nat → Bool) : AV → AV × (Nat → Bool)
  | .slice rows nl (.id n) => if al n then (.slice rows nl .fresh, upd al n false) else (.slice rows nl .no, al)
  | .slice rows nl .fresh => (.slice rows nl .no, al)
  | .agg cs => (.agg (cs.map strip1), al)
  | x => (x, al)
def leaveL (al : Nat → Bool) : List AV → List AV
  | [] => []
  | x :: xs => (leave1 al x).1 :: leaveL (leave1 al x).2 xs
def leaveR (al : Nat → Bool) : AV → AV
  | .tup vs => .tup (leaveL al vs)
  | .agg vs => .agg (leaveL al vs)
  | x => (leave1 al x).1

def AV.isTup : AV → Bool
  | .tup _ => true
  | _ => false
/-- No address of the heap anywhere. -/
def nohp : Nat → AV → Bool
  | 0, _ => false
  | _ + 1, .at _ => true
  | d + 1, .slice rows _ _ => rows.all fun r => r.all (nohp d)
  | d + 1, .agg cs => cs.all (nohp d)
  | d + 1, .tup cs => cs.all (nohp d)
  | d + 1, .fn _ a b => a.all (nohp d) && b.all (nohp d)
  | d + 1, .ref row _ => row.all (nohp d)
  | d + 1, .ifc _ v => nohp d v
  | _, _ => false

abbrev KF := Nat → List AV → List (List AV) → Option (AV × List (List AV))

/-- A call that turns nothing. -/
def callQ (cfg : Cfg) (K : KF) (f : Nat) (args : List AV) : Option AV :=
  match cfg.ext f with
  | some s => s args
  | none => match K f args [] with
    | some (r, H) => if H.isEmpty || nohp 9 r then some r else none
    | none => none

def target : AV → Option (Nat × List AV × List AV)
  | .fn (.func g) first captured => some (g, first, captured)
  | _ => none

/-- The rows that are appended. -/
def rowsOf (cells : List AV) (off len sz : Nat) : Option (List (List AV)) :=
  if off + len * sz ≤ cells.length then some ((List.range len).map fun i => (cells.drop (off + i * sz)).take sz) else none
def srcRows (P : Program) (F : St) (xt : Option TypeId) : AV → Option (List (List AV))
  | .hs loc off len _ sz => if (xt.bind (tel P)).isSome then (F.H[loc]?).bind fun cells => rowsOf cells off len sz else none
  | .slice ys _ _ => if (xt.bind (tel P)).isSome then some ys else none
  | .at (.string b) => if (xt.map (isStr P)) = some true then some (b.data.toList.map rowOfByte) else none
  | _ => none
/-- An append's own mark, and the marks behind it. -/
def appendA (P : Program) (F : St) (lab : Nat) (t : TypeId) (s x : AV) (xt : Option TypeId) : Option (AV × (Nat → Bool)) :=
  match tel P t, s with
  | some e, .slice rows _ own =>
    match tsz P e, tby P e with
    | some sz, some by_ =>
      match srcRows P F xt x with
      | some ys =>
        if (rows ++ ys).all (fun r => r.length == sz) && decide (0 < sz) && decide ((rows.length + ys.length) * by_ ≤ 35184372088832) && decide ((rows.length + ys.length) ≤ 4611686018427387904) && decide (0 < by_) && ((tzero P e).map List.length == some sz) then
          match own with
          | .full => if ys.isEmpty then some (s, F.al) else some (.slice (rows ++ ys) false (.id lab), upd F.al lab true)
          | .id n => if F.al n then (if ys.isEmpty then some (s, F.al) else some (.slice (rows ++ ys) false (.id lab), upd (upd F.al n false) lab true)) else none
          | _ => none
        else none
      | none => none
    | _, _ => none
  | _, _ => none

/-- What is captured is frozen: a box becomes a row that nobody writes any more. -/
def freezeL (F : St) : List Operand → Option (List AV × St)
  | [] => some ([], F)
  | .tmp i :: xs => match F.t i with
    | .box g cs => (freezeL { F with t := upd F.t i (.ref (cs.map strip1) 0) } xs).map fun r => (.ref (cs.map strip1) 0 :: r.1, r.2)
    | x => if x.free then (freezeL F xs).map fun r => (strip x :: r.1, r.2) else none
  | o :: xs => if (F.ev o).free then (freezeL F xs).map fun r => (strip (F.ev o) :: r.1, r.2) else none

def St.putAl (F : St) (d : Option Nat) (v : AV) (al : Nat → Bool) : Option St := { F with al := al }.put d v

/-- What is laid on the heap: its cells, and what stands for it. -/
def allocH (P : Program) (F : St) (op : Op) : Option (List AV × AV) :=
  match op with
  | .alloc e => if F.m e then (tzero P e).map fun cs => (cs, .hp F.H.length 0) else none
  | .box e x => if F.m e && (F.ev x).storable then some ((F.ev x).cells.map strip1, .hp F.H.length 0) else none
  | .buildSlice t _ _ | .makeSlice t _ _ => if F.m t then
      match quiet P F [] 0 op, (tel P t).bind (tsz P) with
      | some (.slice rows false _), some sz => if rows.length = 0 then none else some (rows.flatten, .hs F.H.length 0 rows.length rows.length sz)
      | _, _ => none
    else none
  | _ => none

/-! Whether values are the same: a test that may say no too often. -/
def sameV : Value → Value → Bool
  | .bool a, .bool b => a == b
  | .int j a, .int k b => decide (j = k) && a == b
  | .string a, .string b => decide (a.data.toList = b.data.toList)
  | .nilIface, .nilIface => true
  | .nilFunc, .nilFunc => true
  | .pointer none, .pointer none => true
  | _, _ => false
def sameL {α : Type} (f : α → α → Bool) : List α → List α → Bool
  | [], [] => true
  | x :: xs, y :: ys => f x y && sameL f xs ys
  | _, _ => false
def sameA : Nat → AV → AV → Bool
  | 0, _, _ => false
  | d + 1, x, y => match x, y with
    | .at u, .at v => sameV u v
    | .slice r n o, .slice r' n' o' => sameL (sameL (sameA d)) r r' && n == n' && decide (o = o')
    | .ref r o, .ref r' o' => sameL (sameA d) r r' && o == o'
    | .hp l o, .hp l' o' => l == l' && o == o'
    | .hs l o n c z, .hs l' o' n' c' z' => l == l' && o == o' && n == n' && c == c' && z == z'
    | .agg r, .agg r' => sameL (sameA d) r r'
    | _, _ => false
def sameH (H H' : List (List AV)) : Bool := sameL (sameL (sameA 9)) H H'

/-- One operation, carried out. 'draw': in a region that draws its order. -/
def opRunV (cfg : Cfg) (K : KF) (draw : Bool) (ds : List Nat) (lab : Nat) (o : Oper) (F : St) : Option St :=
  match o.op with
  | .store t p x =>
    match tsz cfg.P t with
    | some n => if (F.ev x).storable ∧ (F.ev x).cells.length = n then (F.write (F.ev p) (F.ev x).cells).bind fun F' => F'.put o.dst und else none
    | none => none
  | .makeFunc f first captured =>
    match freezeL F first.toList with
    | some (fs, F1) => match freezeL F1 captured.toList with
      | some (cs, F2) => F2.put o.dst (.fn f fs cs)
      | none => none
    | none => none
  | .call c =>
    match c.callee with
    | .builtin .append =>
      match c.args.toList, c.argTypes[0]? with
      | [s, x], some t => (appendA cfg.P F lab t (F.ev s) (F.ev x) c.argTypes[1]?).bind fun (v, al) => F.putAl o.dst v al
      | _, _ => none
    | .builtin b => (builtinA cfg.P b c.argTypes o.type (c.args.map isConstOp) (evs F c.args.toList)).bind fun v => F.put o.dst v
    | .value f =>
      match target (F.ev f) with
      | some (g, first, captured) =>
        let args := (first ++ evs F c.args.toList ++ captured).map strip
        if (first ++ evs F c.args.toList ++ captured).all AV.free then
          if cfg.eff g then
            if draw then (K g args F.H).bind fun (r, H) => if sameH H F.H then F.put o.dst (strip r) else none else
            (K g args F.H).bind fun (r, H) => if sizeR r ≤ 64 then { F with H := H }.putAl o.dst (adoptR lab r) (markR lab F.al r) else none
          else if F.H.isEmpty || args.all (nohp 9) then
            (callQ cfg K g args).bind fun r => if draw then F.put o.dst (strip r) else if sizeR r ≤ 64 then F.putAl o.dst (adoptR lab r) (markR lab F.al r) else none
          else none
        else none
      | none => none
    | .invoke .. => none
  | op => (quiet cfg.P F ds lab op).bind fun v => F.put o.dst v
def opRun (cfg : Cfg) (K : KF) (draw : Bool) (ds : List Nat) (lab : Nat) (o : Oper) (F : St) : Option St :=
  match allocH cfg.P F o.op with
  | some (cs, v) => if draw then none else St.put { F with H := F.H ++ [cs] } o.dst v
  | none => opRunV cfg K draw ds lab o F

/-- Is an operation wanted? -/
def guardA (ops : Array Oper) (o : Oper) (F : St) : Option Bool :=
  match o.guard with
  | none => some true
  | some (j, want) =>
    match (ops[j]?).bind (·.dst) with
    | none => some false
    | some d => if d < F.n then match F.t d with
      | .at (.bool b) => some (b == want)
      | .tup [] => some false
      | _ => none
      else none

def opsRun (cfg : Cfg) (K : KF) (draw : Bool) (ds : List Nat) (all : Array Oper) : List Oper → Nat → St → Option St
  | [], _, F => some F
  | o :: rest, lab, F =>
    (guardA all o F).bind fun w =>
      (if w then opRun cfg K draw ds lab o F else F.put o.dst und).bind fun F' => opsRun cfg K draw ds all rest (lab + 64) F'

inductive X where
  | normal | exit (id : Nat) | goto (l : Nat) | ret
  deriving DecidableEq

/-! ### What can be told of code without running it -/
/-- 0: it turns its own slot alone; 1: it turns marks besides; 2: the rest. -/
def kindOf (o : Op) : Nat :=
  match o with
  | .store .. => 2
  | .makeFunc .. => 2
  | .call c => match c.callee with
    | .builtin .append => 1
    | _ => 0
  | _ => 0
/-- Operation j waits for operation i. -/
def reach (ops : Array Oper) : Nat → Nat → Nat → Bool
  | 0, _, _ => false
  | f + 1, j, i => match ops[j]? with
    | some o => o.after.any (fun e => Region.binds .any e && e.on == i) || o.after.any (fun e => Region.binds .any e && reach ops f e.on i)
    | none => false
/-- In whatever order the two come up, it is the same. -/
def pairOk (ops : Array Oper) (x y : Oper) : Bool := x.apart ops y && decide (kindOf x.op + kindOf y.op ≤ 1)
def drawOk (ops : Array Oper) : Bool :=
  (List.range ops.size).all fun j => match ops[j]? with
    | some y => (y.after.all fun e => !Region.binds .any e || decide (e.on < j)) && (List.range j).all fun i => match ops[i]? with
      | some x => pairOk ops x y || reach ops 4 j i
      | none => false
    | none => false
def isStore : Op → Bool
  | .store .. => true
  | _ => false
def codeOk : Code → Bool
  | .seq a b => codeOk a && codeOk b
  | .cond _ a b => codeOk a && codeOk b
  | .block _ b => codeOk b
  | .loop b => codeOk b
  | .region _ ops draw => ops.toList.all (fun o => o.dst.isSome || isStore o.op) && (!draw || drawOk ops)
  | .scope b => codeOk b
  | _ => true

abbrev CF := Code → St → Option (X × St)

def loopRun (g : St → Option (X × St)) : Nat → St → Option (X × St)
  | 0, _ => none
  | m + 1, F => (g F).bind fun r => match r.1 with
    | .normal => loopRun g m r.2
    | x => some (x, r.2)

def regionRun (cfg : Cfg) (K : KF) (ops : Array Oper) (draw : Bool) (F : St) : Option (X × St) :=
  (opsRun cfg K draw (if draw then ops.toList.filterMap (·.dst) else []) ops ops.toList F.c F).map fun F' => (.normal, { F' with c := F.c + 64 * ops.size })

def codeStep (cfg : Cfg) (e : CF) (K : KF) (fuel : Nat) : CF
  | .skip, F => some (.normal, F)
  | .label _, F => some (.normal, F)
  | .seq a b, F => (e a F).bind fun r => match r.1 with
    | .normal => e b r.2
    | x => some (x, r.2)
  | .cond c a b, F => match F.ev c with
    | .at (.bool t) => if t then e a F else e b F
    | _ => none
  | .block id b, F => (e b F).map fun r => if r.1 = .exit id then (.normal, r.2) else r
  | .loop b, F => loopRun (e b) fuel F
  | .exit id, F => some (.exit id, F)
  | .goto l, F => some (.goto l, F)
  | .ret, F => some (.ret, F)
  | .region _ ops draw, F => regionRun cfg K ops draw F
  | .scope b, F => (e b F).bind fun r => match r.1 with
    | .goto l => match findLabel b l with
      | some rest => (e rest r.2).bind fun r' => match r'.1 with
        | .goto _ => none
        | x => some (x, r'.2)
      | none => none
    | x => some (x, r.2)
  | _, _ => none

/-- A result variable. -/
def resultA (P : Program) (F : St) : ResultVar → Option AV
  | .tmp t => if t < F.n then some (F.tmp t) else none
  | .cell a t => match F.look [] (F.tmp a), tsz P t, tagg P t with
    | some (row, off), some n, some g => if a < F.n then (partA g n row off).map (keep (F.tmp a)) else none
    | _, _, _ => none
def resultsA (P : Program) (F : St) : List ResultVar → Option (List AV)
  | [] => some []
  | r :: rs => (resultA P F r).bind fun v => (resultsA P F rs).map fun vs => v :: vs
def packA : List AV → AV
  | [v] => v
  | vs => .tup vs

/-- What stood on the heap is written no more. -/
def freeze1A (H : List (List AV)) : AV → Option AV
  | .hs loc off len cap sz => (H[loc]?).bind fun cells => if cap < len then none else (rowsOf cells off len sz).map fun rows => .slice rows false .no
  | x => some x
def freezeA (H : List (List AV)) : List AV → Option (List AV)
  | [] => some []
  | x :: xs => (freeze1A H x).bind fun y => (freezeA H xs).map fun ys => y :: ys
def argAt (args : List AV) (i : Nat) : AV := args.getD i und

def callStep (cfg : Cfg) (e : CF) : KF := fun f args H =>
  match cfg.P.funcs[f]? with
  | none => none
  | some fn => match fn.body with
    | none => none
    | some c =>
      if args.length ≤ fn.ntmps ∧ codeOk c = true ∧ (fn.name == "runtime.NumGoroutine") = false then
        (e c { n := fn.ntmps, t := argAt args, c := 0, al := fun _ => false, H := H, m := cfg.heap f }).bind fun r =>
          match r.1 with
          | .normal | .ret => (resultsA cfg.P r.2 fn.results.toList).bind fun vs =>
            if cfg.frz f then
              if H.isEmpty then (freezeA r.2.H vs).bind fun vs' => if vs'.all AV.free && vs'.all (nohp 9) then some (leaveR (fun _ => false) (packA vs'), []) else none else none
            else if vs.all AV.free then some (leaveR r.2.al (packA vs), r.2.H) else none
          | _ => none
      else none

/-- The evaluator, with so many rounds to spend. -/
def evN (cfg : Cfg) : Nat → CF × KF
  | 0 => (fun _ _ => none, fun _ _ _ => none)
  | n + 1 => (codeStep cfg (evN cfg n).1 (evN cfg n).2 n, callStep cfg (evN cfg n).1)

end Go.Proofs.V

/- The abstract evaluator: Go's code over values without a world. -/
import Derived.CallsIn
import Derived.OrdersIn
import Derived.LoopNIn
import Derived.Below
namespace Go.Proofs.V
open Go
set_option linter.unusedVariables false
set_option linter.unusedSimpArgs false
/-- Who may append to a slice in place: nobody; everybody (there is no spare room); whoever a call hands it to; the holder of a mark. -/
inductive Own where
  | no | full | fresh | id (n : Nat)
  deriving DecidableEq, Inhabited

inductive AV where
  | at (v : Value)
  | slice (rows : List (List AV)) (nl : Bool) (own : Own)
  | ref (row : List AV) (off : Nat)
  | fp (gen slot off : Nat)
  | hp (loc off : Nat)
  | fn (f : Fn) (first captured : List AV)
  | agg (cells : List AV)
  | tup (vs : List AV)
  | box (gen : Nat) (cells : List AV)
  | ifc (t : TypeId) (v : AV)
  | hs (loc off len cap sz : Nat)
  deriving Inhabited

def und : AV := .tup []

def AV.cells : AV → List AV
  | .agg cs => cs
  | x => [x]

/-- May stand in a cell of memory. -/
def AV.plain : AV → Bool
  | .agg _ | .tup _ | .fp .. | .box .. => false
  | .at (.agg _) | .at (.tuple _) => false
  | _ => true

/-- May be stored, handed over, handed back. -/
def AV.free : AV → Bool
  | .fp .. | .box .. => false
  | .at (.agg _) | .at (.tuple _) => false
  | _ => true
/-- May be stored in a variable. -/
def AV.storable : AV → Bool
  | .tup _ | .fp .. | .box .. => false
  | .at (.agg _) | .at (.tuple _) => false
  | _ => true

def Value.one : Value → Bool
  | .agg _ | .tuple _ => false
  | _ => true

def abs1 : Value → AV
  | .slice none 0 0 => .slice [] true .full
  | v => .at v
def absV : Value → AV
  | .slice none 0 0 => .slice [] true .full
  | .agg cs => if cs.toList.all Value.one then .agg (cs.toList.map abs1) else .at (.agg cs)
  | .tuple cs => if cs.size = 0 then .tup [] else .at (.tuple cs)
  | v => .at v

def val1 : AV → Option Value
  | .at v => some v
  | .slice [] true _ => some (.slice none 0 0)
  | _ => none
def vals : List AV → Option (List Value)
  | [] => some []
  | x :: xs => match val1 x, vals xs with
    | some v, some vs => some (v :: vs)
    | _, _ => none
def AV.val : AV → Option Value
  | .agg cs => (vals cs).map fun vs => .agg vs.toArray
  | .tup [] => some (.tuple #[])
  | x => val1 x

/-- A computation that asks the program alone. -/
def pr (P : Program) {α : Type} : Sem α → Option α
  | .pure a => some a
  | .program k => pr P (k P)
  | _ => none
theorem pr_run {P : Program} {α : Type} : ∀ (s : Sem α) (x : α), pr P s = some x → ∀ w, s.run P w = .ok x w := by
  intro s
  induction s with
  | pure a => intro x h w; simp [pr] at h; subst h; rfl
  | program k ih => intro x h w; exact ih P x h w
  | _ => intro x h; simp [pr] at h

/-- Without marks of ownership. -/
def strip1 : AV → AV
  | .slice rows nl (.id _) => .slice rows nl .no
  | .slice rows nl .fresh => .slice rows nl .no
  | x => x
def strip : AV → AV
  | .agg cs => .agg (cs.map strip1)
  | .tup cs => .tup (cs.map strip1)
  | x => strip1 x

/-- A slice keeps its mark, what holds slices loses theirs. -/
def strip2 : AV → AV
  | .slice rows nl own => .slice rows nl own
  | x => strip x

def upd {α : Type} (f : Nat → α) (d : Nat) (v : α) : Nat → α := fun i => if i = d then v else f i
theorem upd_apply {α : Type} (f : Nat → α) (d : Nat) (v : α) (i : Nat) : upd f d v i = if i = d then v else f i := rfl
theorem upd_same {α : Type} (f : Nat → α) (d : Nat) (v : α) : upd f d v d = v := if_pos rfl
theorem upd_ne {α : Type} (f : Nat → α) (d : Nat) (v : α) (i : Nat) (h : i ≠ d) : upd f d v i = f i := if_neg h

structure St where
  n : Nat
  t : Nat → AV
  c : Nat
  al : Nat → Bool
  H : List (List AV)
  /-- what is laid on the heap: by its type -/
  m : TypeId → Bool := fun _ => false

def St.tmp (F : St) (t : Nat) : AV :=
  match F.t t with
  | .box g _ => .fp g t 0
  | x => x
def St.ev (F : St) : Operand → AV
  | .tmp t => F.tmp t
  | .const v => absV v
  | .global g => .at (.pointer (some ⟨g, 0, none⟩))
  | .func f => .fn (.func f) [] []

def tsz (P : Program) (t : TypeId) : Option Nat := (P.info? t).map (·.size)
def tby (P : Program) (t : TypeId) : Option Nat := (P.info? t).map (·.bytes)
def tagg (P : Program) (t : TypeId) : Option Bool :=
  match P.underlying t with
  | some (.struct _) | some (.array _ _) => some true
  | some _ => some false
  | none => none
def tel (P : Program) (t : TypeId) : Option TypeId :=
  match P.underlying t with
  | some (.slice e) => some e
  | _ => none
def tarr (P : Program) (t : TypeId) : Option (Nat × TypeId) :=
  match P.underlying t with
  | some (.array n e) => some (n, e)
  | _ => none
/-- A field's place and type. -/
def tfield (P : Program) (t : TypeId) (i : Nat) : Option (Nat × TypeId) :=
  match P.underlying t with
  | some (.struct fs) => (fs[i]?).map fun f => (f.offset, f.type)
  | _ => none
def tzero (P : Program) (t : TypeId) : Option (List AV) :=
  match (P.info? t).bind (·.zero) with
  | some z => if ((absV z).cells).all AV.plain && (absV z).cells.length == z.cells.size then some (absV z).cells else none
  | none => none

def isStr (P : Program) (t : TypeId) : Bool := match P.underlying t with
  | some .string => true
  | _ => false
def isU8 (P : Program) (t : TypeId) : Bool := match P.underlying t with
  | some (.int .u8) => true
  | _ => false

/-- The sign, among the slots that may be written meanwhile, that the heap may be written meanwhile. -/
def SP : Nat := 1000000007
def blind (ds : List Nat) : Bool := ds.contains SP
/-- Marks a box that other operations may overtake. -/
def LB : Nat := 3000000019
/-- A box that is named itself may be read before it is written. -/
def dsL (ds : List Nat) (p : Operand) : List Nat := match p with
  | .tmp q => if ds.contains (q + LB) then ds.filter (fun e => e != q || e == SP) else ds
  | _ => ds
def isHs : AV → Bool
  | .hs .. => true
  | _ => false
/-- The row that a pointer leads into, and where. 'ds': slots that may be written meanwhile. -/
def St.look (F : St) (ds : List Nat) : AV → Option (List AV × Nat)
  | .ref row off => some (row, off)
  | .fp g t off => if ds.contains t then none else
    match F.t t with
    | .box g' cs => if g = g' then some (cs, off) else none
    | _ => none
  | .hp l off => if blind ds then none else (F.H[l]?).map fun cs => (cs, off)
  | _ => none

def take? (row : List AV) (off n : Nat) : Option (List AV) :=
  if off + n ≤ row.length then some ((row.drop off).take n) else none
/-- A value of n cells out of a row. -/
def partA (agg : Bool) (n : Nat) (row : List AV) (off : Nat) : Option AV :=
  if agg then (take? row off n).map .agg else row[off]?

def splice (row : List AV) (off : Nat) (cs : List AV) : List AV := row.take off ++ cs ++ row.drop (off + cs.length)

def St.put (F : St) (d : Option Nat) (v : AV) : Option St :=
  match d with
  | none => some F
  | some d => if d < F.n then some { F with t := upd F.t d v } else none

def St.write (F : St) (p : AV) (cs : List AV) : Option St :=
  match p with
  | .fp g t off => match F.t t with
    | .box g' row => if g = g' ∧ off + cs.length ≤ row.length then some { F with t := upd F.t t (.box g (splice row off cs)) } else none
    | _ => none
  | .hp l off => match F.H[l]? with
    | some row => if off + cs.length ≤ row.length then some { F with H := F.H.set l (splice row off (cs.map strip1)) } else none
    | none => none
  | _ => none

/-- An address, moved on. -/
def AV.shift (k : Nat) : AV → Option AV
  | .ref row off => some (.ref row (off + k))
  | .fp g t off => some (.fp g t (off + k))
  | .hp l off => some (.hp l (off + k))
  | _ => none

def fillA (place : Nat → Option (Nat × Nat)) (cells : List AV) : List (Nat × AV) → Option (List AV)
  | [] => some cells
  | (i, v) :: rest =>
    match place i with
    | none => none
    | some (off, size) => if v.storable && v.cells.length == size && decide (off + size ≤ cells.length) then fillA place (splice cells off (v.cells.map strip1)) rest else none

/-- What is told of a field by its number, with its type's size. -/
def placeOf (P : Program) (t : TypeId) (i : Nat) : Option (Nat × Nat) :=
  match tfield P t i with
  | some (off, ft) => (tsz P ft).map fun n => (off, n)
  | none => none

/-- Where the parts of a struct's or an array's literal go. -/
def buildPlace (P : Program) (t : TypeId) : Option (Nat → Option (Nat × Nat)) :=
  match P.underlying t with
  | some (.struct fs) => if fs.toList.all (fun f => (P.info? f.type).isSome) then some fun i => (fs[i]?).map fun f => (f.offset, P.cellsOf f.type) else none
  | some (.array _ e) => (tsz P e).map fun s i => some (i * s, s)
  | _ => none
/-- The rows of a slice's literal. -/
def fillRows (size : Nat) (rows : List (List AV)) : List (Nat × AV) → Option (List (List AV))
  | [] => some rows
  | (i, v) :: rest => if v.storable && v.cells.length == size && decide (i < rows.length) then fillRows size (rows.set i (v.cells.map strip1)) rest else none

def intOfA : AV → Option Int
  | .at (.int _ n) => some n
  | _ => none

/-- The bytes that stand in rows of one cell each. -/
def bytesOf : List (List AV) → Option (List UInt8)
  | [] => some []
  | [.at (.int .u8 n)] :: rest => (bytesOf rest).map fun bs => UInt8.ofNat n.toNat :: bs
  | _ => none
def rowOfByte (b : UInt8) : List AV := [.at (.int .u8 b.toNat)]

def binA (P : Program) (op : BinOp) (xt : TypeId) (ox oy : Operand) (a b : AV) : Option AV :=
  match a.val, b.val with
  | some u, some v => (pr P (do eqGuard op xt ox oy u v; binOp op xt u v)).map absV
  | _, _ => none
/-- A slice against nil. -/
def nilEq (P : Program) (op : BinOp) (xt : TypeId) (a b : AV) : Option AV :=
  match tel P xt, op, a, b with
  | some _, .eql, .slice (r :: rs) nl _, .slice [] true _ => some (.at (.bool nl))
  | some _, .neq, .slice (r :: rs) nl _, .slice [] true _ => some (.at (.bool !nl))
  | some _, .eql, .slice [] nl _, .slice [] true _ => some (.at (.bool nl))
  | some _, .neq, .slice [] nl _, .slice [] true _ => some (.at (.bool !nl))
  | some _, .eql, .hs .., .slice [] true _ => some (.at (.bool false))
  | some _, .neq, .hs .., .slice [] true _ => some (.at (.bool true))
  | _, _, _, _ => none

/-- The bounds of a slice expression. -/
def bnd (d : Int) : Option AV → Option Int
  | some v => intOfA v
  | none => some d
def sliceA (P : Program) (t : TypeId) (x : AV) (lo hi mx : Option AV) : Option AV :=
  match x with
  | .slice rows nl own =>
    match tel P t, bnd 0 lo, bnd (rows.length : Int) hi with
    | some e, some l, some h =>
      match tsz P e with
      | none => none
      | some sz =>
        if 0 ≤ l ∧ l ≤ h ∧ h ≤ rows.length ∧ rows.all (fun r => r.length == sz) then
          match mx with
          | none => some (.slice ((rows.take h.toNat).drop l.toNat) nl .no)
          | some m => if intOfA m = some h ∧ hi.isSome = true then some (.slice ((rows.take h.toNat).drop l.toNat) nl .full) else none
        else none
    | _, _, _ => none
  | .at (.string s) =>
    match mx, isStr P t, bnd 0 lo, bnd (s.size : Int) hi with
    | none, true, some l, some h => if 0 ≤ l ∧ l ≤ h ∧ h ≤ s.size then some (.at (.string ⟨⟨(s.data.toList.drop l.toNat).take (h.toNat - l.toNat)⟩⟩)) else none
    | _, _, _, _ => none
  | .hs loc off len cap sz =>
    match tel P t, bnd 0 lo, bnd (len : Int) hi, mx with
    | some e, some l, some h, none => if tsz P e = some sz ∧ 0 ≤ l ∧ l ≤ h ∧ h ≤ len ∧ len ≤ cap ∧ l < cap then some (.hs loc (off + l.toNat * sz) (h.toNat - l.toNat) (cap - l.toNat) sz) else none
    | _, _, _, _ => none
  | _ => none

def convA (P : Program) (src dst : TypeId) (x : AV) : Option AV :=
  match x with
  | .slice rows nl own =>
    match tel P src, isStr P dst with
    | some e, true => if isU8 P e then (bytesOf rows).map fun bs => .at (.string ⟨⟨bs⟩⟩) else none
    | _, _ => none
  | .at (.string s) =>
    match tel P dst with
    | some e => if isU8 P e && isStr P src then some (.slice (s.data.toList.map rowOfByte) false .no) else none
    | none => (pr P (convert src dst (.string s))).map absV
  | x => match x.val with
    | some u => (pr P (convert src dst u)).map absV
    | none => none

def indexAddrA (P : Program) (t : TypeId) (x i : AV) : Option AV :=
  match x, intOfA i with
  | .slice rows _ _, some n =>
    match tel P t with
    | some e => if 0 ≤ n then match rows[n.toNat]? with
        | some row => if tsz P e = some row.length then some (.ref row 0) else none
        | none => none
      else none
    | none => none
  | .hs loc off len _ sz, some n =>
    match tel P t with
    | some e => if 0 ≤ n ∧ n < len ∧ tsz P e = some sz then some (.hp loc (off + n.toNat * sz)) else none
    | none => none
  | p, some n =>
    match tarr P t with
    | some (len, e) => if 0 ≤ n ∧ n < len then match tsz P e with
        | some sz => p.shift (n.toNat * sz)
        | none => none
      else none
    | none => none
  | _, none => none

def indexA (P : Program) (t : TypeId) (x i : AV) : Option AV :=
  match x, intOfA i with
  | .at (.string s), some n => if 0 ≤ n ∧ isStr P t = true then (s.data.toList[n.toNat]?).map fun b => .at (.int .u8 b.toNat) else none
  | .agg cs, some n => match tarr P t with
    | some (len, e) => if 0 ≤ n ∧ n < len then match tsz P e, tagg P e with
        | some sz, some g => partA g sz cs (n.toNat * sz)
        | _, _ => none
      else none
    | none => none
  | _, _ => none

def fieldAddrA (P : Program) (t : TypeId) (x : AV) (i : Nat) : Option AV :=
  match placeOf P t i with
  | some (off, sz) => if sz = 0 then none else x.shift off
  | none => none
def fieldA (P : Program) (t : TypeId) (x : AV) (i : Nat) : Option AV :=
  match x, tfield P t i with
  | .agg cs, some (off, ft) => match tsz P ft, tagg P ft with
    | some sz, some g => partA g sz cs off
    | _, _ => none
  | _, _ => none

def isConstOp : Operand → Bool
  | .const _ => true
  | _ => false
/-- What is read out of memory that others hold too bears no mark. -/
def keep : AV → AV → AV
  | .fp .., x => x
  | _, x => strip x
def evs (F : St) : List Operand → List AV
  | [] => []
  | x :: xs => F.ev x :: evs F xs

/-- The quiet operations but the calls: what the operation yields. 'lab': the operation's own mark. -/
def quiet (P : Program) (F : St) (ds : List Nat) (lab : Nat) (op : Op) : Option AV :=
  match op with
  | .move x | .assign x => some (F.ev x)
  | .pick c a b => match F.ev c with
    | .at (.bool t) => some (if t then F.ev a else F.ev b)
    | _ => none
  | .alloc e => (tzero P e).map fun cs => .box lab cs
  | .box _ x => if (F.ev x).storable then some (.box lab ((F.ev x).cells.map strip1)) else none
  | .build t parts => match tzero P t, buildPlace P t with
    | some cs, some place => (fillA place cs (parts.toList.map fun p => (p.1, F.ev p.2))).map .agg
    | _, _ => none
  | .buildSlice t len parts => match tel P t with
    | some e => match tzero P e, tsz P e with
      | some z, some sz => if z.length = sz ∧ len * sz ≤ 16777216 ∧ sz ≠ 0 then (fillRows sz (List.replicate len z) (parts.toList.map fun p => (p.1, F.ev p.2))).map fun rows => .slice rows false .full else none
      | _, _ => none
    | none => none
  | .makeSlice t x y => match tel P t, intOfA (F.ev x), intOfA (F.ev y) with
    | some e, some n, some k => match tzero P e, tsz P e, tby P e with
      | some z, some sz, some by_ => if n = k ∧ 0 ≤ n ∧ n ≤ 35184372088832 ∧ n.toNat * by_ ≤ 35184372088832 ∧ z.length = sz ∧ sz ≠ 0 then some (.slice (List.replicate n.toNat z) false .full) else none
      | _, _, _ => none
    | _, _, _ => none
  | .load t p => match F.look (dsL ds p) (F.ev p), tsz P t, tagg P t with
    | some (row, off), some n, some g => (partA g n row off).map (keep (F.ev p))
    | _, _, _ => none
  | .nilCheck x => match F.ev x with
    | .ref row off => some (.ref row off)
    | .fp g t off => some (.fp g t off)
    | .hp l off => some (.hp l off)
    | _ => none
  | .binOp o xt x y _ => match nilEq P o xt (F.ev x) (F.ev y) with
    | some v => some v
    | none => binA P o xt x y (F.ev x) (F.ev y)
  | .unOp o _ x => match (F.ev x).val with
    | some u => (pr P (Op.unary o u)).map absV
    | none => none
  | .convert s d x => convA P s d (F.ev x)
  | .slice t x lo hi mx => sliceA P t (F.ev x) (lo.map F.ev) (hi.map F.ev) (mx.map F.ev)
  | .fieldAddr t x i => fieldAddrA P t (F.ev x) i
  | .field t x i => fieldA P t (F.ev x) i
  | .indexAddr t x i => indexAddrA P t (F.ev x) (F.ev i)
  | .index t x i => indexA P t (F.ev x) (F.ev i)
  | .extract x i => match F.ev x with
    | .tup vs => (vs[i]?).map strip2
    | _ => none
  | _ => none

/-- Builtins on values without memory; len of a slice. -/
def builtinA (P : Program) (b : Builtin) (ts : Array TypeId) (type : TypeId) (consts : Array Bool) (args : List AV) : Option AV :=
  match b, args with
  | .len, [.slice rows _ _] => match ts[0]? with
    | some t => if (tel P t).isSome then some (.at (.int .i64 rows.length)) else none
    | none => none
  | .len, [.hs _ _ len _ _] => match ts[0]? with
    | some t => if (tel P t).isSome then some (.at (.int .i64 len)) else none
    | none => none
  | _, _ => match vals args with
    | some vs => match pr P (builtin b ts type consts vs.toArray) with
      | some (.value v) => some (absV v)
      | _ => none
    | none => none

structure Cfg where
  P : Program
  /-- functions of which a contract is proved beside -/
  ext : Nat → Option (List AV → Option AV)
  /-- functions that turn the heap -/
  eff : Nat → Bool
  /-- regions that draw, and that are not taken -/
  bad : List (Array Oper)
  /-- what a function lays on the heap: by its type -/
  heap : Nat → TypeId → Bool := fun _ _ => false
  /-- a function whose heap dies with it: what it hands over is frozen -/
  frz : Nat → Bool := fun _ => false
  /-- functions that turn the heap, and may stand where an order is drawn -/
  mu : Nat → Bool := fun _ => false

/-- A call that turns the heap where an order is drawn. -/
def heavyOp (cfg : Cfg) (o : Op) : Bool :=
  match o with
  | .call c => match c.callee with
    | .value (.func g) => cfg.mu g && cfg.eff g
    | _ => false
  | _ => false
/-- The marks of what a call hands over. -/
def adopt (lab : Nat) : AV → AV
  | .slice rows nl .fresh => .slice rows nl (.id lab)
  | x => x
def adoptAt (lab : Nat) : List AV → List AV
  | [] => []
  | x :: xs => adopt lab x :: adoptAt (lab + 1) xs
def adoptR (lab : Nat) : AV → AV
  | .tup vs => .tup (adoptAt lab vs)
  | .agg vs => .agg (adoptAt lab vs)
  | x => adopt lab x
def freshAt (lab : Nat) : List AV → Nat → Bool
  | [], _ => false
  | .slice _ _ .fresh :: xs, n => n == lab || freshAt (lab + 1) xs n
  | _ :: xs, n => freshAt (lab + 1) xs n
def freshR (lab : Nat) : AV → Nat → Bool
  | .tup vs, n => freshAt lab vs n
  | .agg vs, n => freshAt lab vs n
  | .slice _ _ .fresh, n => n == lab
  | _, _ => false
def sizeR : AV → Nat
  | .tup vs => vs.length
  | .agg vs => vs.length
  | _ => 1
def markR (lab : Nat) (al : Nat → Bool) (r : AV) : Nat → Bool := fun n => al n || freshR lab r n

/-- What leaves a frame: a mark that is alive becomes the taker's. -/
def leave1 (al : Nat → Bool) : AV → AV × (Nat → Bool)
  | .slice rows nl (.id n) => if al n then (.slice rows nl .fresh, upd al n false) else (.slice rows nl .no, al)
  | .slice rows nl .fresh => (.slice rows nl .no, al)
  | .agg cs => (.agg (cs.map strip1), al)
  | x => (x, al)
def leaveL (al : Nat → Bool) : List AV → List AV
  | [] => []
  | x :: xs => (leave1 al x).1 :: leaveL (leave1 al x).2 xs
def leaveR (al : Nat → Bool) : AV → AV
  | .tup vs => .tup (leaveL al vs)
  | .agg vs => .agg (leaveL al vs)
  | x => (leave1 al x).1

/-- No address of the heap anywhere. -/
def nohp : Nat → AV → Bool
  | 0, _ => false
  | _ + 1, .at _ => true
  | d + 1, .slice rows _ _ => rows.all fun r => r.all (nohp d)
  | d + 1, .agg cs => cs.all (nohp d)
  | d + 1, .tup cs => cs.all (nohp d)
  | d + 1, .fn _ a b => a.all (nohp d) && b.all (nohp d)
  | d + 1, .ref row _ => row.all (nohp d)
  | d + 1, .ifc _ v => nohp d v
  | _, _ => false

abbrev KF := Nat → List AV → List (List AV) → Option (AV × List (List AV))

/-- A call that turns nothing. -/
def callQ (cfg : Cfg) (K : KF) (f : Nat) (args : List AV) : Option AV :=
  match cfg.ext f with
  | some s => s args
  | none => match K f args [] with
    | some (r, H) => if H.isEmpty || nohp 9 r then some r else none
    | none => none

def target : AV → Option (Nat × List AV × List AV)
  | .fn (.func g) first captured => some (g, first, captured)
  | _ => none

/-- The rows that are appended. -/
def rowsOf (cells : List AV) (off len sz : Nat) : Option (List (List AV)) :=
  if off + len * sz ≤ cells.length then some ((List.range len).map fun i => (cells.drop (off + i * sz)).take sz) else none
def srcRows (P : Program) (F : St) (xt : Option TypeId) : AV → Option (List (List AV))
  | .hs loc off len _ sz => if (xt.bind (tel P)).isSome then (F.H[loc]?).bind fun cells => rowsOf cells off len sz else none
  | .slice ys _ _ => if (xt.bind (tel P)).isSome then some ys else none
  | .at (.string b) => if (xt.map (isStr P)) = some true then some (b.data.toList.map rowOfByte) else none
  | _ => none
/-- An append's own mark, and the marks behind it. -/
def appendA (P : Program) (F : St) (lab : Nat) (t : TypeId) (s x : AV) (xt : Option TypeId) : Option (AV × (Nat → Bool)) :=
  match tel P t, s with
  | some e, .slice rows _ own =>
    match tsz P e, tby P e with
    | some sz, some by_ =>
      match srcRows P F xt x with
      | some ys =>
        if (rows ++ ys).all (fun r => r.length == sz) && decide (0 < sz) && decide ((rows.length + ys.length) * by_ ≤ 35184372088832) && decide ((rows.length + ys.length) ≤ 4611686018427387904) && decide (0 < by_) && ((tzero P e).map List.length == some sz) then
          match own with
          | .full => if ys.isEmpty then some (s, F.al) else some (.slice (rows ++ ys) false (.id lab), upd F.al lab true)
          | .id n => if F.al n then (if ys.isEmpty then some (s, F.al) else some (.slice (rows ++ ys) false (.id lab), upd (upd F.al n false) lab true)) else none
          | _ => none
        else none
      | none => none
    | _, _ => none
  | _, _ => none

/-- What is captured is frozen: a box becomes a row that nobody writes any more. -/
def freezeL (F : St) : List Operand → Option (List AV × St)
  | [] => some ([], F)
  | .tmp i :: xs => match F.t i with
    | .box g cs => (freezeL { F with t := upd F.t i (.ref (cs.map strip1) 0) } xs).map fun r => (.ref (cs.map strip1) 0 :: r.1, r.2)
    | x => if x.free then (freezeL F xs).map fun r => (strip x :: r.1, r.2) else none
  | o :: xs => if (F.ev o).free then (freezeL F xs).map fun r => (strip (F.ev o) :: r.1, r.2) else none

def St.putAl (F : St) (d : Option Nat) (v : AV) (al : Nat → Bool) : Option St := { F with al := al }.put d v

/-- What is laid on the heap: its cells, and what stands for it. -/
def allocH (P : Program) (F : St) (op : Op) : Option (List AV × AV) :=
  match op with
  | .alloc e => if F.m e then (tzero P e).map fun cs => (cs, .hp F.H.length 0) else none
  | .box e x => if F.m e && (F.ev x).storable then some ((F.ev x).cells.map strip1, .hp F.H.length 0) else none
  | .buildSlice t _ _ | .makeSlice t _ _ => if F.m t then
      match quiet P F [] 0 op, (tel P t).bind (tsz P) with
      | some (.slice rows false _), some sz => if rows.length = 0 then none else some (rows.flatten, .hs F.H.length 0 rows.length rows.length sz)
      | _, _ => none
    else none
  | _ => none

def sameV : Value → Value → Bool
  | .bool a, .bool b => a == b
  | .int j a, .int k b => decide (j = k) && a == b
  | .string a, .string b => decide (a.data.toList = b.data.toList)
  | .nilIface, .nilIface => true
  | .nilFunc, .nilFunc => true
  | .pointer none, .pointer none => true
  | _, _ => false
def sameL {α : Type} (f : α → α → Bool) : List α → List α → Bool
  | [], [] => true
  | x :: xs, y :: ys => f x y && sameL f xs ys
  | _, _ => false
def sameA : Nat → AV → AV → Bool
  | 0, _, _ => false
  | d + 1, x, y => match x, y with
    | .at u, .at v => sameV u v
    | .slice r n o, .slice r' n' o' => sameL (sameL (sameA d)) r r' && n == n' && decide (o = o')
    | .ref r o, .ref r' o' => sameL (sameA d) r r' && o == o'
    | .hp l o, .hp l' o' => l == l' && o == o'
    | .hs l o n c z, .hs l' o' n' c' z' => l == l' && o == o' && n == n' && c == c' && z == z'
    | .agg r, .agg r' => sameL (sameA d) r r'
    | _, _ => false
def sameH (H H' : List (List AV)) : Bool := sameL (sameL (sameA 9)) H H'

def appendB (draw : Bool) (ds : List Nat) (P : Program) (F : St) (lab : Nat) (t : TypeId) (s x : AV) (xt : Option TypeId) : Option (AV × (Nat → Bool)) :=
  if isHs x && (draw && blind ds) then none else appendA P F lab t s x xt
/-- What is left of an effectful call where an order is drawn. -/
def drawE (cfg : Cfg) (ds : List Nat) (o : Oper) (F : St) (r : AV) (H : List (List AV)) : Option St :=
  if blind ds then (if heavyOp cfg o.op then St.put { F with H := H } o.dst (strip r) else none)
  else if sameH H F.H then F.put o.dst (strip r) else none
/-- The slot that a store names itself. -/
def stSlot (o : Op) : Option Nat := match o with
  | .store _ (.tmp q) _ => some q
  | _ => none
def isBoxA : AV → Bool
  | .box .. => true
  | _ => false
def stBoxOk (draw : Bool) (ds : List Nat) (F : St) (p : Operand) : Bool := !draw || match p with
  | .tmp q => !ds.contains (q + LB) || isBoxA (F.t q)
  | _ => true
/-- One operation, carried out. 'draw': in a region that draws its order. -/
def opRunV (cfg : Cfg) (K : KF) (draw : Bool) (ds : List Nat) (lab : Nat) (o : Oper) (F : St) : Option St :=
  match o.op with
  | .store t p x =>
    match tsz cfg.P t with
    | some n => if ((F.ev x).storable ∧ (F.ev x).cells.length = n) ∧ stBoxOk draw ds F p = true then (F.write (F.ev p) (F.ev x).cells).bind fun F' => F'.put o.dst und else none
    | none => none
  | .makeFunc f first captured =>
    match freezeL F first.toList with
    | some (fs, F1) => match freezeL F1 captured.toList with
      | some (cs, F2) => F2.put o.dst (.fn f fs cs)
      | none => none
    | none => none
  | .call c =>
    match c.callee with
    | .builtin .append =>
      match c.args.toList, c.argTypes[0]? with
      | [s, x], some t => (appendB draw ds cfg.P F lab t (F.ev s) (F.ev x) c.argTypes[1]?).bind fun (v, al) => F.putAl o.dst v al
      | _, _ => none
    | .builtin b => (builtinA cfg.P b c.argTypes o.type (c.args.map isConstOp) (evs F c.args.toList)).bind fun v => F.put o.dst v
    | .value f =>
      match target (F.ev f) with
      | some (g, first, captured) =>
        let args := (first ++ evs F c.args.toList ++ captured).map strip
        if (first ++ evs F c.args.toList ++ captured).all AV.free then
          if cfg.eff g then
            if draw then (K g args F.H).bind fun (r, H) => drawE cfg ds o F r H else
            (K g args F.H).bind fun (r, H) => if sizeR r ≤ 64 then { F with H := H }.putAl o.dst (adoptR lab r) (markR lab F.al r) else none
          else if (!(draw && blind ds) && F.H.isEmpty) || args.all (nohp 9) then
            (callQ cfg K g args).bind fun r => if sizeR r ≤ 64 then F.putAl o.dst (adoptR lab r) (markR lab F.al r) else none
          else none
        else none
      | none => none
    | .invoke .. => none
  | op => (quiet cfg.P F ds lab op).bind fun v => F.put o.dst v
def opRun (cfg : Cfg) (K : KF) (draw : Bool) (ds : List Nat) (lab : Nat) (o : Oper) (F : St) : Option St :=
  match allocH cfg.P F o.op with
  | some (cs, v) => if draw then none else St.put { F with H := F.H ++ [cs] } o.dst v
  | none => opRunV cfg K draw ds lab o F

/-- Is an operation wanted? -/
def guardA (ops : Array Oper) (o : Oper) (F : St) : Option Bool :=
  match o.guard with
  | none => some true
  | some (j, want) =>
    match (ops[j]?).bind (·.dst) with
    | none => some false
    | some d => if d < F.n then match F.t d with
      | .at (.bool b) => some (b == want)
      | .tup [] => some false
      | _ => none
      else none

def opsRun (cfg : Cfg) (K : KF) (draw : Bool) (ds : List Nat) (all : Array Oper) : List Oper → Nat → St → Option St
  | [], _, F => some F
  | o :: rest, lab, F =>
    (guardA all o F).bind fun w =>
      (if w then opRun cfg K draw ds lab o F else F.put o.dst und).bind fun F' => opsRun cfg K draw ds all rest (lab + 64) F'

inductive X where
  | normal | exit (id : Nat) | goto (l : Nat) | ret
  deriving DecidableEq

/-- 0: it turns its own slot alone; 1: it turns marks besides; 2: the rest. -/
def kindOf (o : Op) : Nat :=
  match o with
  | .store .. => 2
  | .makeFunc .. => 2
  | .call c => match c.callee with
    | .builtin .append => 1
    | _ => 0
  | _ => 0
/-- Operation j waits for operation i. -/
def reach (ops : Array Oper) : Nat → Nat → Nat → Bool
  | 0, _, _ => false
  | f + 1, j, i => match ops[j]? with
    | some o => o.after.any (fun e => Region.binds .any e && e.on == i) || o.after.any (fun e => Region.binds .any e && reach ops f e.on i)
    | none => false
def isCallV (o : Op) : Bool := match o with
  | .call c => match c.callee with
    | .builtin _ => false
    | _ => true
  | _ => false
/-- In whatever order the two come up, it is the same. -/
def pairOk (ops : Array Oper) (x y : Oper) : Bool := (x.apart ops y && decide (kindOf x.op + kindOf y.op ≤ 1)) && !(isCallV x.op && decide (kindOf y.op = 1)) && !(isCallV y.op && decide (kindOf x.op = 1))
/-- Stores into boxes that other operations may overtake. -/
def loose (ops : Array Oper) : List Nat := (List.range ops.size).flatMap fun j => match ops[j]? with
  | some x => match stSlot x.op with
    | some p => if (List.range ops.size).all (fun i => i == j || reach ops 4 j i || reach ops 4 i j) || p == SP then [] else [p, p + LB]
    | none => []
  | none => []
def stPair (ops : Array Oper) (x y : Oper) : Bool := match stSlot x.op with
  | some p => (loose ops).contains p && (loose ops).contains (p + LB) && x.dst.isNone && x.guard.isNone && x.apart ops y && decide (kindOf y.op = 0) && !isCallV y.op && !(y.looksAt ops).contains p && y.dst != some p
  | none => false
def drawOk (ops : Array Oper) : Bool :=
  (List.range ops.size).all fun j => match ops[j]? with
    | some y => (y.after.all fun e => !Region.binds .any e || decide (e.on < j)) && (List.range j).all fun i => match ops[i]? with
      | some x => pairOk ops x y || reach ops 4 j i || stPair ops x y || stPair ops y x
      | none => false
    | none => false
def isStore : Op → Bool
  | .store .. => true
  | _ => false
def codeOk : Code → Bool
  | .seq a b => codeOk a && codeOk b
  | .cond _ a b => codeOk a && codeOk b
  | .block _ b => codeOk b
  | .loop b => codeOk b
  | .region _ ops draw => ops.toList.all (fun o => o.dst.isSome || isStore o.op) && (!draw || (drawOk ops && ops.toList.all fun o => o.dst != some SP))
  | .scope b => codeOk b
  | _ => true

abbrev CF := Code → St → Option (X × St)

def loopRun (g : St → Option (X × St)) : Nat → St → Option (X × St)
  | 0, _ => none
  | m + 1, F => (g F).bind fun r => match r.1 with
    | .normal => loopRun g m r.2
    | x => some (x, r.2)

/-- Of two calls that turn the heap the later one waits. -/
def heavyOk (cfg : Cfg) (ops : Array Oper) : Bool :=
  (List.range ops.size).all fun j => match ops[j]? with
    | some y => !heavyOp cfg y.op || (List.range j).all fun i => match ops[i]? with
      | some x => !heavyOp cfg x.op || reach ops 4 j i
      | none => false
    | none => false
/-- The slots that may be written meanwhile. -/
def dsOf (cfg : Cfg) (ops : Array Oper) (draw : Bool) : List Nat :=
  if draw then (if ops.toList.any (fun o => heavyOp cfg o.op) && heavyOk cfg ops then SP :: (ops.toList.filterMap (·.dst) ++ loose ops) else ops.toList.filterMap (·.dst) ++ loose ops) else []
def regionRun (cfg : Cfg) (K : KF) (ops : Array Oper) (draw : Bool) (F : St) : Option (X × St) :=
  (opsRun cfg K draw (dsOf cfg ops draw) ops ops.toList F.c F).map fun F' => (.normal, { F' with c := F.c + 64 * ops.size })

def codeStep (cfg : Cfg) (e : CF) (K : KF) (fuel : Nat) : CF
  | .skip, F => some (.normal, F)
  | .label _, F => some (.normal, F)
  | .seq a b, F => (e a F).bind fun r => match r.1 with
    | .normal => e b r.2
    | x => some (x, r.2)
  | .cond c a b, F => match F.ev c with
    | .at (.bool t) => if t then e a F else e b F
    | _ => none
  | .block id b, F => (e b F).map fun r => if r.1 = .exit id then (.normal, r.2) else r
  | .loop b, F => loopRun (e b) fuel F
  | .exit id, F => some (.exit id, F)
  | .goto l, F => some (.goto l, F)
  | .ret, F => some (.ret, F)
  | .region _ ops draw, F => regionRun cfg K ops draw F
  | .scope b, F => (e b F).bind fun r => match r.1 with
    | .goto l => match findLabel b l with
      | some rest => (e rest r.2).bind fun r' => match r'.1 with
        | .goto _ => none
        | x => some (x, r'.2)
      | none => none
    | x => some (x, r.2)
  | _, _ => none

/-- A result variable. -/
def resultA (P : Program) (F : St) : ResultVar → Option AV
  | .tmp t => if t < F.n then some (F.tmp t) else none
  | .cell a t => match F.look [] (F.tmp a), tsz P t, tagg P t with
    | some (row, off), some n, some g => if a < F.n then (partA g n row off).map (keep (F.tmp a)) else none
    | _, _, _ => none
def resultsA (P : Program) (F : St) : List ResultVar → Option (List AV)
  | [] => some []
  | r :: rs => (resultA P F r).bind fun v => (resultsA P F rs).map fun vs => v :: vs
def packA : List AV → AV
  | [v] => v
  | vs => .tup vs

/-- What stood on the heap is written no more. -/
def freeze1A (H : List (List AV)) : AV → Option AV
  | .hs loc off len cap sz => (H[loc]?).bind fun cells => if cap < len then none else (rowsOf cells off len sz).map fun rows => .slice rows false .no
  | x => some x
def freezeA (H : List (List AV)) : List AV → Option (List AV)
  | [] => some []
  | x :: xs => (freeze1A H x).bind fun y => (freezeA H xs).map fun ys => y :: ys
def argAt (args : List AV) (i : Nat) : AV := args.getD i und

def callStep (cfg : Cfg) (e : CF) : KF := fun f args H =>
  match cfg.P.funcs[f]? with
  | none => none
  | some fn => match fn.body with
    | none => none
    | some c =>
      if args.length ≤ fn.ntmps ∧ codeOk c = true ∧ (fn.name == "runtime.NumGoroutine") = false then
        (e c { n := fn.ntmps, t := argAt args, c := 0, al := fun _ => false, H := H, m := cfg.heap f }).bind fun r =>
          match r.1 with
          | .normal | .ret => (resultsA cfg.P r.2 fn.results.toList).bind fun vs =>
            if cfg.frz f then
              if H.isEmpty then (freezeA r.2.H vs).bind fun vs' => if vs'.all AV.free && vs'.all (nohp 9) then some (leaveR (fun _ => false) (packA vs'), []) else none else none
            else if vs.all AV.free then some (leaveR r.2.al (packA vs), r.2.H) else none
          | _ => none
      else none

/-- The evaluator, with so many rounds to spend. -/
def evN (cfg : Cfg) : Nat → CF × KF
  | 0 => (fun _ _ => none, fun _ _ _ => none)
  | n + 1 => (codeStep cfg (evN cfg n).1 (evN cfg n).2 n, callStep cfg (evN cfg n).1)

end Go.Proofs.V
namespace Go.Proofs.V
open Go
set_option linter.unusedVariables false
set_option linter.unusedSimpArgs false
noncomputable def lim {α : Type} (g : Nat → Option α) : Option α :=
  @dite _ (∃ n x, g n = some x) (Classical.propDecidable _) (fun h => g (Classical.choose h)) (fun _ => none)

def Mono {α : Type} (g : Nat → Option α) : Prop := ∀ n x, g n = some x → g (n + 1) = some x
theorem Mono.le {α : Type} {g : Nat → Option α} (h : Mono g) {n m : Nat} (hnm : n ≤ m) {x : α} (hx : g n = some x) : g m = some x := by
  induction hnm with
  | refl => exact hx
  | step _ ih => exact h _ _ ih
theorem Mono.one {α : Type} {g : Nat → Option α} (h : Mono g) {n m : Nat} {x y : α} (hx : g n = some x) (hy : g m = some y) : x = y := by
  rcases Nat.le_total n m with hle | hle
  · have := h.le hle hx; rw [this] at hy; exact Option.some.inj hy
  · have := h.le hle hy; rw [this] at hx; exact (Option.some.inj hx).symm
theorem lim_some {α : Type} {g : Nat → Option α} (h : Mono g) {x : α} : lim g = some x ↔ ∃ n, g n = some x := by
  constructor
  · intro hx
    unfold lim at hx
    split at hx
    · exact ⟨_, hx⟩
    · cases hx
  · rintro ⟨n, hn⟩
    have hex : ∃ n x, g n = some x := ⟨n, x, hn⟩
    unfold lim
    rw [dif_pos hex]
    obtain ⟨y, hy⟩ := Classical.choose_spec hex
    rw [hy, h.one hy hn]

def LeC (e e' : CF) : Prop := ∀ c F r, e c F = some r → e' c F = some r
def LeK (K K' : KF) : Prop := ∀ f a H r, K f a H = some r → K' f a H = some r

theorem bind_mono {α β : Type} {a a' : Option α} {f f' : α → Option β} (ha : ∀ x, a = some x → a' = some x) (hf : ∀ x y, a = some x → f x = some y → f' x = some y) {y : β} (h : a.bind f = some y) : a'.bind f' = some y := by
  obtain ⟨x, hx, hy⟩ := Option.bind_eq_some_iff.1 h
  rw [ha x hx]
  exact hf x y hx hy

theorem callQ_mono {cfg : Cfg} {K K' : KF} (hK : LeK K K') {f : Nat} {a : List AV} {r : AV} (h : callQ cfg K f a = some r) : callQ cfg K' f a = some r := by
  unfold callQ at *
  split at h
  · rename_i s hs; exact h
  · rename_i hs
    split at h
    · rename_i r' H' hr
      rw [hK _ _ _ _ hr]
      exact h
    · cases h

theorem opRunV_mono {cfg : Cfg} {K K' : KF} (hK : LeK K K') {draw : Bool} {ds : List Nat} {lab : Nat} {o : Oper} {F F' : St} (h : opRunV cfg K draw ds lab o F = some F') : opRunV cfg K' draw ds lab o F = some F' := by
  unfold opRunV at *
  split at h
  · exact h
  · exact h
  · rename_i c hc
    (try dsimp only at h ⊢)
    split at h
    · exact h
    · exact h
    · rename_i f hf
      (try dsimp only at h ⊢)
      split at h
      · rename_i g first captured ht
        (try dsimp only at h ⊢)
        split at h
        · rename_i ha
          rw [if_pos ha]
          split at h
          · rename_i he
            rw [if_pos he]
            split at h
            · rename_i hd
              rw [if_pos hd]
              exact bind_mono (fun x hx => hK _ _ _ _ hx) (fun x y _ hy => hy) h
            · rename_i hd
              rw [if_neg hd]
              exact bind_mono (fun x hx => hK _ _ _ _ hx) (fun x y _ hy => hy) h
          · rename_i he
            rw [if_neg he]
            split at h
            · rename_i hH
              rw [if_pos hH]
              exact bind_mono (fun x hx => callQ_mono hK hx) (fun x y _ hy => hy) h
            · cases h
        · cases h
      · cases h
    · cases h
  · exact h

theorem opRun_mono {cfg : Cfg} {K K' : KF} (hK : LeK K K') {draw : Bool} {ds : List Nat} {lab : Nat} {o : Oper} {F F' : St} (h : opRun cfg K draw ds lab o F = some F') : opRun cfg K' draw ds lab o F = some F' := by
  unfold opRun at *
  cases ha : allocH cfg.P F o.op with
  | some p => simp only [ha] at h ⊢; exact h
  | none => simp only [ha] at h ⊢; exact opRunV_mono hK h

theorem opsRun_mono {cfg : Cfg} {K K' : KF} (hK : LeK K K') {draw : Bool} {ds : List Nat} {all : Array Oper} : ∀ (l : List Oper) (lab : Nat) (F F' : St), opsRun cfg K draw ds all l lab F = some F' → opsRun cfg K' draw ds all l lab F = some F'
  | [], _, _, _, h => h
  | o :: rest, lab, F, F', h => by
    unfold opsRun at *
    refine bind_mono (fun x hx => hx) (fun w y _ hy => ?_) h
    refine bind_mono (fun x hx => ?_) (fun F1 y _ hy => opsRun_mono hK rest _ _ _ hy) hy
    cases w
    · exact hx
    · exact opRun_mono hK hx

theorem loopRun_mono {g g' : St → Option (X × St)} (hg : ∀ F r, g F = some r → g' F = some r) : ∀ (m m' : Nat) (F : St) (r : X × St), m ≤ m' → loopRun g m F = some r → loopRun g' m' F = some r
  | 0, _, _, _, _, h => by simp [loopRun] at h
  | m + 1, 0, _, _, hm, _ => by omega
  | m + 1, m' + 1, F, r, hm, h => by
    unfold loopRun at *
    refine bind_mono (fun x hx => hg _ _ hx) (fun x y _ hy => ?_) h
    split at hy
    · exact loopRun_mono hg m m' _ _ (by omega) hy
    · exact hy

theorem codeStep_mono {cfg : Cfg} {e e' : CF} {K K' : KF} (he : LeC e e') (hK : LeK K K') {m m' : Nat} (hm : m ≤ m') : LeC (codeStep cfg e K m) (codeStep cfg e' K' m') := by
  intro c F r h
  cases c with
  | skip => exact h
  | label l => exact h
  | seq a b =>
    refine bind_mono (fun x hx => he _ _ _ hx) (fun x y _ hy => ?_) h
    split at hy
    · exact he _ _ _ hy
    · exact hy
  | cond c a b =>
    simp only [codeStep] at h ⊢
    split at h
    · rename_i t ht
      cases t
      · exact he _ _ _ h
      · exact he _ _ _ h
    · cases h
  | block id b =>
    simp only [codeStep, Option.map_eq_some_iff] at h ⊢
    obtain ⟨x, hx, hr⟩ := h
    exact ⟨x, he _ _ _ hx, hr⟩
  | loop b => exact loopRun_mono (fun F r h => he _ _ _ h) m m' F r hm h
  | exit id => exact h
  | goto l => exact h
  | ret => exact h
  | region id ops draw =>
    simp only [codeStep, regionRun, Option.map_eq_some_iff] at h ⊢
    obtain ⟨x, hx, hr⟩ := h
    exact ⟨x, opsRun_mono hK _ _ _ _ hx, hr⟩
  | scope b =>
    refine bind_mono (fun x hx => he _ _ _ hx) (fun x y _ hy => ?_) h
    split at hy
    · split at hy
      · refine bind_mono (fun x hx => he _ _ _ hx) (fun x y _ hy => hy) hy
      · cases hy
    · exact hy
  | rangeFunc f p a b => simp [codeStep] at h
  | refuse w => simp [codeStep] at h

theorem callStep_mono {cfg : Cfg} {e e' : CF} (he : LeC e e') : LeK (callStep cfg e) (callStep cfg e') := by
  intro f a H r h
  unfold callStep at *
  split at h
  · cases h
  · split at h
    · cases h
    · split at h
      · rename_i hl
        rw [if_pos hl]
        exact bind_mono (fun x hx => he _ _ _ hx) (fun x y _ hy => hy) h
      · cases h

theorem evN_mono (cfg : Cfg) : ∀ n, LeC (evN cfg n).1 (evN cfg (n + 1)).1 ∧ LeK (evN cfg n).2 (evN cfg (n + 1)).2
  | 0 => by constructor <;> (intro a b c; intros; rename_i h; cases h)
  | n + 1 => ⟨codeStep_mono (evN_mono cfg n).1 (evN_mono cfg n).2 (Nat.le_succ n), callStep_mono (evN_mono cfg n).1⟩
theorem evN_monoC (cfg : Cfg) (c : Code) (F : St) : Mono fun n => (evN cfg n).1 c F := fun n x h => (evN_mono cfg n).1 _ _ _ h
theorem evN_monoK (cfg : Cfg) (f : Nat) (a : List AV) (H : List (List AV)) : Mono fun n => (evN cfg n).2 f a H := fun n x h => (evN_mono cfg n).2 _ _ _ _ h

noncomputable def evC (cfg : Cfg) : CF := fun c F => lim fun n => (evN cfg n).1 c F
noncomputable def evK (cfg : Cfg) : KF := fun f a H => lim fun n => (evN cfg n).2 f a H
theorem evC_some {cfg : Cfg} {c : Code} {F : St} {r : X × St} : evC cfg c F = some r ↔ ∃ n, (evN cfg n).1 c F = some r := lim_some (evN_monoC cfg c F)
theorem evK_some {cfg : Cfg} {f : Nat} {a : List AV} {H : List (List AV)} {r : AV × List (List AV)} : evK cfg f a H = some r ↔ ∃ n, (evN cfg n).2 f a H = some r := lim_some (evN_monoK cfg f a H)
theorem evN_leC (cfg : Cfg) (n : Nat) : LeC (evN cfg n).1 (evC cfg) := fun _ _ _ h => evC_some.2 ⟨n, h⟩
theorem evN_leK (cfg : Cfg) (n : Nat) : LeK (evN cfg n).2 (evK cfg) := fun _ _ _ _ h => evK_some.2 ⟨n, h⟩

/-- What the limit does at something finite it does at some stage. -/
def Cont (cfg : Cfg) {β : Type} (Φ : CF → KF → Option β) : Prop := ∀ y, Φ (evC cfg) (evK cfg) = some y → ∃ n, Φ (evN cfg n).1 (evN cfg n).2 = some y
def Mon {β : Type} (Φ : CF → KF → Option β) : Prop := ∀ e e' K K', LeC e e' → LeK K K' → ∀ y, Φ e K = some y → Φ e' K' = some y
theorem evN_up (cfg : Cfg) {n m : Nat} (h : n ≤ m) : LeC (evN cfg n).1 (evN cfg m).1 ∧ LeK (evN cfg n).2 (evN cfg m).2 :=
  ⟨fun c F r hr => (evN_monoC cfg c F).le h hr, fun f a H r hr => (evN_monoK cfg f a H).le h hr⟩
theorem Cont.bind {cfg : Cfg} {α β : Type} {Φ : CF → KF → Option α} {Ψ : α → CF → KF → Option β} (hM : Mon Φ) (hΨM : ∀ x, Mon (Ψ x)) (hΦ : Cont cfg Φ) (hΨ : ∀ x, Cont cfg (Ψ x)) :
    Cont cfg fun e K => (Φ e K).bind fun x => Ψ x e K := by
  intro y h
  obtain ⟨x, hx, hy⟩ := Option.bind_eq_some_iff.1 h
  obtain ⟨n, hn⟩ := hΦ x hx
  obtain ⟨m, hm⟩ := hΨ x y hy
  have h1 := evN_up cfg (Nat.le_max_left n m)
  have h2 := evN_up cfg (Nat.le_max_right n m)
  exact ⟨max n m, Option.bind_eq_some_iff.2 ⟨x, hM _ _ _ _ h1.1 h1.2 _ hn, hΨM x _ _ _ _ h2.1 h2.2 _ hm⟩⟩
theorem Cont.const {cfg : Cfg} {β : Type} (b : Option β) : Cont cfg fun _ _ => b := fun y h => ⟨0, h⟩
theorem Cont.e {cfg : Cfg} (c : Code) (F : St) : Cont cfg fun e _ => e c F := fun y h => evC_some.1 h
theorem Cont.K {cfg : Cfg} (f : Nat) (a : List AV) (H : List (List AV)) : Cont cfg fun _ K => K f a H := fun y h => evK_some.1 h

theorem Cont.callQ {cfg : Cfg} (f : Nat) (a : List AV) : Cont cfg fun _ K => callQ cfg K f a := by
  intro y h
  simp only [V.callQ] at h ⊢
  split at h
  · exact ⟨0, h⟩
  · split at h
    · rename_i r H hr
      obtain ⟨n, hn⟩ := evK_some.1 hr
      exact ⟨n, by rw [hn]; exact h⟩
    · cases h

theorem Cont.opRunV {cfg : Cfg} (draw : Bool) (ds : List Nat) (lab : Nat) (o : Oper) (F : St) : Cont cfg fun _ K => opRunV cfg K draw ds lab o F := by
  intro y h
  unfold V.opRunV at h ⊢
  split at h
  · exact ⟨0, h⟩
  · exact ⟨0, h⟩
  · rename_i c hc
    (try dsimp only at h ⊢)
    split at h
    · exact ⟨0, h⟩
    · exact ⟨0, h⟩
    · rename_i f hf
      (try dsimp only at h ⊢)
      split at h
      · rename_i g first captured ht
        (try dsimp only at h ⊢)
        split at h
        · rename_i ha
          simp only [ha, if_true]
          split at h
          · rename_i he
            simp only [he, if_true]
            split at h
            · rename_i hd
              obtain ⟨x, hx, hy⟩ := Option.bind_eq_some_iff.1 h
              obtain ⟨n, hn⟩ := evK_some.1 hx
              exact ⟨n, by simp only [hd, if_true, hn, Option.bind_some]; exact hy⟩
            · rename_i hd
              obtain ⟨x, hx, hy⟩ := Option.bind_eq_some_iff.1 h
              obtain ⟨n, hn⟩ := evK_some.1 hx
              exact ⟨n, by simp only [hd, hn, Option.bind_some]; exact hy⟩
          · rename_i he
            simp only [he]
            split at h
            · rename_i hH
              simp only [hH, if_true]
              obtain ⟨x, hx, hy⟩ := Option.bind_eq_some_iff.1 h
              obtain ⟨n, hn⟩ := Cont.callQ g _ x hx
              exact ⟨n, by simp only [hn, Option.bind_some]; exact hy⟩
            · cases h
        · cases h
      · cases h
    · cases h
  · exact ⟨0, h⟩

theorem Cont.opRun {cfg : Cfg} (draw : Bool) (ds : List Nat) (lab : Nat) (o : Oper) (F : St) : Cont cfg fun _ K => opRun cfg K draw ds lab o F := by
  intro y h
  unfold V.opRun at h ⊢
  cases ha : allocH cfg.P F o.op with
  | some p => simp only [ha] at h ⊢; exact ⟨0, h⟩
  | none => simp only [ha] at h ⊢; exact Cont.opRunV draw ds lab o F y h

theorem Cont.opsRun {cfg : Cfg} (draw : Bool) (ds : List Nat) (all : Array Oper) : ∀ (l : List Oper) (lab : Nat) (F : St), Cont cfg fun _ K => opsRun cfg K draw ds all l lab F
  | [], _, F => Cont.const (some F)
  | o :: rest, lab, F => by
    unfold V.opsRun
    refine Cont.bind (fun _ _ _ _ _ _ y h => h) (fun w => ?_) (Cont.const _) (fun w => ?_)
    · intro e e' K K' he hK y h
      refine bind_mono (fun x hx => ?_) (fun F1 y _ hy => opsRun_mono hK rest _ _ _ hy) h
      cases w
      · exact hx
      · exact opRun_mono hK hx
    · refine Cont.bind ?_ (fun F1 e e' K K' he hK y h => opsRun_mono hK rest _ _ _ h) ?_ (fun F1 => Cont.opsRun draw ds all rest _ F1)
      · intro e e' K K' he hK y h
        cases w
        · exact h
        · exact opRun_mono hK h
      · cases w
        · exact Cont.const _
        · exact Cont.opRun draw ds lab o F

/-- The equations of code. -/
theorem evC_of {cfg : Cfg} {c : Code} {F : St} (Φ : CF → KF → Option (X × St)) (hs : ∀ e K m, codeStep cfg e K m c F = Φ e K) (hM : Mon Φ) (hC : Cont cfg Φ) : evC cfg c F = Φ (evC cfg) (evK cfg) := by
  apply Option.ext
  intro r
  constructor
  · intro h
    obtain ⟨n, hn⟩ := evC_some.1 h
    cases n with
    | zero => cases hn
    | succ n =>
      have : codeStep cfg (evN cfg n).1 (evN cfg n).2 n c F = some r := hn
      rw [hs] at this
      exact hM _ _ _ _ (evN_leC cfg n) (evN_leK cfg n) _ this
  · intro h
    obtain ⟨n, hn⟩ := hC r h
    refine evC_some.2 ⟨n + 1, ?_⟩
    show codeStep cfg (evN cfg n).1 (evN cfg n).2 n c F = some r
    rw [hs]; exact hn

theorem evC_skip {cfg : Cfg} {F : St} : evC cfg .skip F = some (.normal, F) := evC_of (fun _ _ => some (.normal, F)) (fun _ _ _ => rfl) (fun _ _ _ _ _ _ _ h => h) (Cont.const _)
theorem evC_label {cfg : Cfg} {l : Nat} {F : St} : evC cfg (.label l) F = some (.normal, F) := evC_of (fun _ _ => some (.normal, F)) (fun _ _ _ => rfl) (fun _ _ _ _ _ _ _ h => h) (Cont.const _)
theorem evC_exit {cfg : Cfg} {id : Nat} {F : St} : evC cfg (.exit id) F = some (.exit id, F) := evC_of (fun _ _ => some (.exit id, F)) (fun _ _ _ => rfl) (fun _ _ _ _ _ _ _ h => h) (Cont.const _)
theorem evC_goto {cfg : Cfg} {l : Nat} {F : St} : evC cfg (.goto l) F = some (.goto l, F) := evC_of (fun _ _ => some (.goto l, F)) (fun _ _ _ => rfl) (fun _ _ _ _ _ _ _ h => h) (Cont.const _)
theorem evC_ret {cfg : Cfg} {F : St} : evC cfg .ret F = some (.ret, F) := evC_of (fun _ _ => some (.ret, F)) (fun _ _ _ => rfl) (fun _ _ _ _ _ _ _ h => h) (Cont.const _)
theorem evC_seq {cfg : Cfg} {a b : Code} {F : St} : evC cfg (.seq a b) F = (evC cfg a F).bind fun r => match r.1 with
    | .normal => evC cfg b r.2
    | x => some (x, r.2) := by
  refine evC_of (fun e _ => (e a F).bind fun r => match r.1 with
    | .normal => e b r.2
    | x => some (x, r.2)) (fun _ _ _ => rfl) (fun e e' K K' he hK y h => ?_) ?_
  · refine bind_mono (fun x hx => he _ _ _ hx) (fun x y _ hy => ?_) h
    split at hy
    · exact he _ _ _ hy
    · exact hy
  · refine Cont.bind (Ψ := fun r e _ => match r.1 with
      | .normal => e b r.2
      | x => some (x, r.2)) (fun e e' K K' he hK y h => he _ _ _ h) (fun x e e' K K' he hK y h => ?_) (Cont.e a F) (fun x => ?_)
    · (try dsimp only at h ⊢)
      split at h
      · exact he _ _ _ h
      · exact h
    · intro y h
      (try dsimp only at h ⊢)
      split at h
      · exact evC_some.1 h
      · exact ⟨0, h⟩
theorem evC_cond {cfg : Cfg} {c : Operand} {a b : Code} {F : St} : evC cfg (.cond c a b) F = match F.ev c with
    | .at (.bool t) => if t then evC cfg a F else evC cfg b F
    | _ => none := by
  refine evC_of (fun e _ => match F.ev c with
    | .at (.bool t) => if t then e a F else e b F
    | _ => none) (fun _ _ _ => rfl) (fun e e' K K' he hK y h => ?_) ?_
  · (try dsimp only at h ⊢)
    split at h
    · rename_i t ht; cases t <;> exact he _ _ _ h
    · cases h
  · intro y h
    (try dsimp only at h ⊢)
    split at h
    · rename_i t ht; cases t <;> exact evC_some.1 h
    · cases h
theorem evC_block {cfg : Cfg} {id : Nat} {b : Code} {F : St} : evC cfg (.block id b) F = (evC cfg b F).map fun r => if r.1 = .exit id then (.normal, r.2) else r := by
  refine evC_of (cfg := cfg) (c := .block id b) (F := F) (fun e _ => (e b F).map fun r => if r.1 = .exit id then (.normal, r.2) else r) (fun _ _ _ => rfl) (fun e e' K K' he hK y h => ?_) ?_
  · simp only [Option.map_eq_some_iff] at h ⊢
    obtain ⟨x, hx, hr⟩ := h
    exact ⟨x, he _ _ _ hx, hr⟩
  · intro y h
    simp only [Option.map_eq_some_iff] at h ⊢
    obtain ⟨x, hx, hr⟩ := h
    obtain ⟨n, hn⟩ := evC_some.1 hx
    exact ⟨n, x, hn, hr⟩
theorem evC_region {cfg : Cfg} {id : Nat} {ops : Array Oper} {draw : Bool} {F : St} : evC cfg (.region id ops draw) F = regionRun cfg (evK cfg) ops draw F := by
  refine evC_of (fun _ K => regionRun cfg K ops draw F) (fun _ _ _ => rfl) (fun e e' K K' he hK y h => ?_) ?_
  · simp only [regionRun, Option.map_eq_some_iff] at h ⊢
    obtain ⟨x, hx, hr⟩ := h
    exact ⟨x, opsRun_mono hK _ _ _ _ hx, hr⟩
  · intro y h
    simp only [regionRun, Option.map_eq_some_iff] at h ⊢
    obtain ⟨x, hx, hr⟩ := h
    obtain ⟨n, hn⟩ := Cont.opsRun _ _ _ _ _ _ x hx
    exact ⟨n, x, hn, hr⟩
theorem evC_scope {cfg : Cfg} {b : Code} {F : St} : evC cfg (.scope b) F = (evC cfg b F).bind fun r => match r.1 with
    | .goto l => match findLabel b l with
      | some rest => (evC cfg rest r.2).bind fun r' => match r'.1 with
        | .goto _ => none
        | x => some (x, r'.2)
      | none => none
    | x => some (x, r.2) := by
  refine evC_of (fun e _ => (e b F).bind fun r => match r.1 with
    | .goto l => match findLabel b l with
      | some rest => (e rest r.2).bind fun r' => match r'.1 with
        | .goto _ => none
        | x => some (x, r'.2)
      | none => none
    | x => some (x, r.2)) (fun _ _ _ => rfl) (fun e e' K K' he hK y h => ?_) ?_
  · refine bind_mono (fun x hx => he _ _ _ hx) (fun x y _ hy => ?_) h
    split at hy
    · split at hy
      · exact bind_mono (fun x hx => he _ _ _ hx) (fun x y _ hy => hy) hy
      · cases hy
    · exact hy
  · refine Cont.bind (Ψ := fun r e _ => match r.1 with
      | .goto l => match findLabel b l with
        | some rest => (e rest r.2).bind fun r' => match r'.1 with
          | .goto _ => none
          | x => some (x, r'.2)
        | none => none
      | x => some (x, r.2)) (fun e e' K K' he hK y h => he _ _ _ h) (fun x e e' K K' he hK y h => ?_) (Cont.e b F) (fun x => ?_)
    · (try dsimp only at h ⊢)
      split at h
      · split at h
        · exact bind_mono (fun x hx => he _ _ _ hx) (fun x y _ hy => hy) h
        · cases h
      · exact h
    · intro y h
      (try dsimp only at h ⊢)
      split at h
      · split at h
        · obtain ⟨z, hz, hy⟩ := Option.bind_eq_some_iff.1 h
          obtain ⟨n, hn⟩ := evC_some.1 hz
          exact ⟨n, Option.bind_eq_some_iff.2 ⟨z, hn, hy⟩⟩
        · cases h
      · exact ⟨0, h⟩

theorem evC_loop {cfg : Cfg} {b : Code} {F : St} : evC cfg (.loop b) F = (evC cfg b F).bind fun r => match r.1 with
    | .normal => evC cfg (.loop b) r.2
    | x => some (x, r.2) := by
  apply Option.ext
  intro r
  constructor
  · intro h
    obtain ⟨n, hn⟩ := evC_some.1 h
    cases n with
    | zero => cases hn
    | succ n =>
      have h1 : loopRun ((evN cfg n).1 b) n F = some r := hn
      cases n with
      | zero => cases h1
      | succ m =>
        unfold loopRun at h1
        refine bind_mono (fun x hx => evC_some.2 ⟨_, hx⟩) (fun x y _ hy => ?_) h1
        rcases x with ⟨x1, F1⟩
        cases x1 with
        | normal =>
          refine evC_some.2 ⟨m + 2, ?_⟩
          show loopRun ((evN cfg (m + 1)).1 b) (m + 1) _ = _
          exact loopRun_mono (fun _ _ h => h) m (m + 1) _ _ (Nat.le_succ m) hy
        | _ => exact hy
  · intro h
    obtain ⟨x, hx, hy⟩ := Option.bind_eq_some_iff.1 h
    obtain ⟨n, hn⟩ := evC_some.1 hx
    obtain ⟨x1, F1⟩ := x
    cases x1 with
    | normal =>
      (try dsimp only at hy)
      obtain ⟨m, hm⟩ := evC_some.1 hy
      cases m with
      | zero => cases hm
      | succ m =>
        have h1 : loopRun ((evN cfg m).1 b) m F1 = some r := hm
        refine evC_some.2 ⟨max n m + 1 + 1, ?_⟩
        show loopRun ((evN cfg (max n m + 1)).1 b) (max n m + 1) F = some r
        unfold loopRun
        refine Option.bind_eq_some_iff.2 ⟨(.normal, F1), (evN_up cfg (show n ≤ max n m + 1 by omega)).1 _ _ _ hn, ?_⟩
        exact loopRun_mono (fun F r h => (evN_up cfg (show m ≤ max n m + 1 by omega)).1 _ _ _ h) m (max n m) _ _ (by omega) h1
    | _ =>
      (try dsimp only at hy)
      refine evC_some.2 ⟨n + 1 + 1, ?_⟩
      show loopRun ((evN cfg (n + 1)).1 b) (n + 1) F = some r
      unfold loopRun
      exact Option.bind_eq_some_iff.2 ⟨_, (evN_up cfg (show n ≤ n + 1 by omega)).1 _ _ _ hn, hy⟩

theorem evK_eq {cfg : Cfg} {f : Nat} {a : List AV} {H : List (List AV)} : evK cfg f a H = callStep cfg (evC cfg) f a H := by
  apply Option.ext
  intro r
  constructor
  · intro h
    obtain ⟨n, hn⟩ := evK_some.1 h
    cases n with
    | zero => cases hn
    | succ n =>
      have h1 : callStep cfg (evN cfg n).1 f a H = some r := hn
      exact callStep_mono (evN_leC cfg n) _ _ _ _ h1
  · intro h
    have : ∃ n, callStep cfg (evN cfg n).1 f a H = some r := by
      unfold callStep at h ⊢
      split at h
      · cases h
      · split at h
        · cases h
        · split at h
          · rename_i hl
            obtain ⟨x, hx, hy⟩ := Option.bind_eq_some_iff.1 h
            obtain ⟨n, hn⟩ := evC_some.1 hx
            exact ⟨n, by rw [if_pos hl]; simp only [hn, Option.bind_some]; exact hy⟩
          · cases h
    obtain ⟨n, hn⟩ := this
    exact evK_some.2 ⟨n + 1, hn⟩
end Go.Proofs.V
namespace Go.Proofs.V
open Go
set_option linter.unusedVariables false
set_option linter.unusedSimpArgs false
/-- The code comes to an end of which Q holds. -/
def Aw (cfg : Cfg) (c : Code) (F : St) (Q : X → St → Prop) : Prop := ∃ x F', evC cfg c F = some (x, F') ∧ Q x F'
def Ow (cfg : Cfg) (draw : Bool) (ds : List Nat) (all : Array Oper) (l : List Oper) (lab : Nat) (F : St) (Q : St → Prop) : Prop := ∃ F', opsRun cfg (evK cfg) draw ds all l lab F = some F' ∧ Q F'
/-- What follows a piece of code. -/
def Then (K : St → Prop) (Q : X → St → Prop) : X → St → Prop
  | .normal, F => K F
  | x, F => Q x F
def InBlock (id : Nat) (Q : X → St → Prop) : X → St → Prop
  | .exit i, F => if i = id then Q .normal F else Q (.exit i) F
  | x, F => Q x F

section
variable {cfg : Cfg} {F : St} {Q : X → St → Prop}
theorem Aw.mono {c : Code} {Q' : X → St → Prop} (h : Aw cfg c F Q) (hq : ∀ x F, Q x F → Q' x F) : Aw cfg c F Q' := let ⟨x, F', e, q⟩ := h; ⟨x, F', e, hq _ _ q⟩
theorem aw_skip (h : Q .normal F) : Aw cfg .skip F Q := ⟨_, _, evC_skip, h⟩
theorem aw_label {l : Nat} (h : Q .normal F) : Aw cfg (.label l) F Q := ⟨_, _, evC_label, h⟩
theorem aw_exit {id : Nat} (h : Q (.exit id) F) : Aw cfg (.exit id) F Q := ⟨_, _, evC_exit, h⟩
theorem aw_goto {l : Nat} (h : Q (.goto l) F) : Aw cfg (.goto l) F Q := ⟨_, _, evC_goto, h⟩
theorem aw_ret (h : Q .ret F) : Aw cfg .ret F Q := ⟨_, _, evC_ret, h⟩
theorem aw_seq {a b : Code} (h : Aw cfg a F (Then (fun F => Aw cfg b F Q) Q)) : Aw cfg (.seq a b) F Q := by
  obtain ⟨x, F1, e, q⟩ := h
  cases x with
  | normal => obtain ⟨x, F2, e2, q2⟩ := q; exact ⟨x, F2, by rw [evC_seq, e]; exact e2, q2⟩
  | exit i => exact ⟨_, F1, by rw [evC_seq, e]; rfl, q⟩
  | goto i => exact ⟨_, F1, by rw [evC_seq, e]; rfl, q⟩
  | ret => exact ⟨_, F1, by rw [evC_seq, e]; rfl, q⟩
theorem aw_cond {c : Operand} {a b : Code} {t : Bool} (hc : F.ev c = .at (.bool t)) (h1 : t = true → Aw cfg a F Q) (h2 : t = false → Aw cfg b F Q) : Aw cfg (.cond c a b) F Q := by
  cases t with
  | true => obtain ⟨x, F', e, q⟩ := h1 rfl; exact ⟨x, F', by rw [evC_cond, hc]; exact e, q⟩
  | false => obtain ⟨x, F', e, q⟩ := h2 rfl; exact ⟨x, F', by rw [evC_cond, hc]; exact e, q⟩
theorem aw_block {id : Nat} {b : Code} (h : Aw cfg b F (InBlock id Q)) : Aw cfg (.block id b) F Q := by
  obtain ⟨x, F1, e, q⟩ := h
  cases x with
  | exit i =>
    by_cases hi : i = id
    · exact ⟨.normal, F1, by rw [evC_block, e]; simp [hi], by simpa [InBlock, hi] using q⟩
    · exact ⟨.exit i, F1, by rw [evC_block, e]; simp [hi], by simpa [InBlock, hi] using q⟩
  | normal => exact ⟨_, F1, by rw [evC_block, e]; rfl, q⟩
  | goto i => exact ⟨_, F1, by rw [evC_block, e]; rfl, q⟩
  | ret => exact ⟨_, F1, by rw [evC_block, e]; rfl, q⟩
theorem aw_region {id : Nat} {ops : Array Oper} {draw : Bool} (h : Ow cfg draw (dsOf cfg ops draw) ops ops.toList F.c F (fun F' => Q .normal { F' with c := F.c + 64 * ops.size })) : Aw cfg (.region id ops draw) F Q := by
  obtain ⟨F', e, q⟩ := h
  exact ⟨.normal, _, by rw [evC_region, regionRun, e]; rfl, q⟩
/-- A loop, by an induction of one's own: one round first. -/
theorem aw_loop1 {b : Code} (h : Aw cfg b F (Then (fun F => Aw cfg (.loop b) F Q) Q)) : Aw cfg (.loop b) F Q := by
  obtain ⟨x, F1, e, q⟩ := h
  cases x with
  | normal => obtain ⟨x, F2, e2, q2⟩ := q; exact ⟨x, F2, by rw [evC_loop, e]; exact e2, q2⟩
  | exit i => exact ⟨_, F1, by rw [evC_loop, e]; rfl, q⟩
  | goto i => exact ⟨_, F1, by rw [evC_loop, e]; rfl, q⟩
  | ret => exact ⟨_, F1, by rw [evC_loop, e]; rfl, q⟩
theorem aw_scope {b : Code} (h : Aw cfg b F (fun x F' => match x with
    | .goto l => ∃ rest, findLabel b l = some rest ∧ Aw cfg rest F' (fun x F' => match x with
      | .goto _ => False
      | x => Q x F')
    | x => Q x F')) : Aw cfg (.scope b) F Q := by
  obtain ⟨x, F1, e, q⟩ := h
  cases x with
  | goto l =>
    obtain ⟨rest, hf, x, F2, e2, q2⟩ := q
    cases x with
    | goto i => exact q2.elim
    | normal => exact ⟨_, F2, by rw [evC_scope, e]; simp only [Option.bind_some, hf, e2], q2⟩
    | exit i => exact ⟨_, F2, by rw [evC_scope, e]; simp only [Option.bind_some, hf, e2], q2⟩
    | ret => exact ⟨_, F2, by rw [evC_scope, e]; simp only [Option.bind_some, hf, e2], q2⟩
  | normal => exact ⟨_, F1, by rw [evC_scope, e]; rfl, q⟩
  | exit i => exact ⟨_, F1, by rw [evC_scope, e]; rfl, q⟩
  | ret => exact ⟨_, F1, by rw [evC_scope, e]; rfl, q⟩
end
section
variable {cfg : Cfg} {F : St} {Q : St → Prop} {draw : Bool} {ds : List Nat} {all : Array Oper} {rest : List Oper} {lab : Nat}
theorem ow_nil (h : Q F) : Ow cfg draw ds all [] lab F Q := ⟨F, rfl, h⟩
theorem ow_cons {o : Oper} {w : Bool} (hg : guardA all o F = some w)
    (h1 : w = true → ∃ F', opRun cfg (evK cfg) draw ds lab o F = some F' ∧ Ow cfg draw ds all rest (lab + 64) F' Q)
    (h2 : w = false → ∃ F', F.put o.dst und = some F' ∧ Ow cfg draw ds all rest (lab + 64) F' Q) : Ow cfg draw ds all (o :: rest) lab F Q := by
  cases w with
  | true =>
    obtain ⟨F1, e1, F2, e2, q⟩ := h1 rfl
    exact ⟨F2, by unfold opsRun; rw [hg]; simp only [Option.bind_some, if_true, e1]; exact e2, q⟩
  | false =>
    obtain ⟨F1, e1, F2, e2, q⟩ := h2 rfl
    exact ⟨F2, by unfold opsRun; rw [hg]; simp only [Option.bind_some, Bool.false_eq_true, if_false, e1]; exact e2, q⟩
end
/-- The operations that 'quiet' reckons. -/
def Op.calm : Op → Bool
  | .store .. | .call _ | .makeFunc .. => false
  | _ => true

section
variable {cfg : Cfg} {Q : St → Prop} {draw : Bool} {ds : List Nat} {all : Array Oper} {rest : List Oper} {lab : Nat}
  {op : Op} {type : TypeId} {pos : String} {after : Array Edge} {d : Nat} {n : Nat} {t : Nat → AV} {c : Nat} {al : Nat → Bool} {H : List (List AV)} {m : TypeId → Bool}
end
/-- A call, out of its body. -/
theorem evK_of {cfg : Cfg} {f : Nat} {args : List AV} {H : List (List AV)} {fn : Func} {c : Code} {r : AV} {H' : List (List AV)} (hf : cfg.P.funcs[f]? = some fn) (hb : fn.body = some c) (hl : args.length ≤ fn.ntmps) (hok : codeOk c = true) (hname : (fn.name == "runtime.NumGoroutine") = false) (hfz : cfg.frz f = false)
    (h : Aw cfg c { n := fn.ntmps, t := argAt args, c := 0, al := fun _ => false, H := H, m := cfg.heap f } (fun x F => (x = .normal ∨ x = .ret) ∧ ∃ vs, resultsA cfg.P F fn.results.toList = some vs ∧ vs.all AV.free = true ∧ leaveR F.al (packA vs) = r ∧ F.H = H')) :
    evK cfg f args H = some (r, H') := by
  obtain ⟨x, F, e, hx, vs, h1, h2, h3, h4⟩ := h
  rw [evK_eq]
  unfold callStep
  simp only [hf, hb]
  rw [if_pos ⟨hl, hok, hname⟩]
  simp only [e, Option.bind_some]
  rcases hx with rfl | rfl <;> simp only [h1, Option.bind_some, hfz, Bool.false_eq_true, if_false, h2, if_true, h3, h4]
/-- The same, of a function whose heap dies with it. -/
theorem evK_ofZ {cfg : Cfg} {f : Nat} {args : List AV} {fn : Func} {c : Code} {r : AV} (hf : cfg.P.funcs[f]? = some fn) (hb : fn.body = some c) (hl : args.length ≤ fn.ntmps) (hok : codeOk c = true) (hname : (fn.name == "runtime.NumGoroutine") = false) (hfz : cfg.frz f = true)
    (h : Aw cfg c { n := fn.ntmps, t := argAt args, c := 0, al := fun _ => false, H := [], m := cfg.heap f } (fun x F => (x = .normal ∨ x = .ret) ∧ ∃ vs ws, resultsA cfg.P F fn.results.toList = some vs ∧ freezeA F.H vs = some ws ∧ (ws.all AV.free && ws.all (nohp 9)) = true ∧ leaveR (fun _ => false) (packA ws) = r)) :
    evK cfg f args [] = some (r, []) := by
  obtain ⟨x, F, e, hx, vs, ws, h1, h2, h3, h4⟩ := h
  rw [evK_eq]
  unfold callStep
  simp only [hf, hb]
  rw [if_pos ⟨hl, hok, hname⟩]
  simp only [e, Option.bind_some]
  rcases hx with rfl | rfl <;> simp only [h1, Option.bind_some, hfz, if_true, h2, h3, h4, List.isEmpty_nil]
theorem callQ_of {cfg : Cfg} {f : Nat} {args : List AV} {r : AV} (he : cfg.ext f = none) (h : evK cfg f args [] = some (r, [])) : callQ cfg (evK cfg) f args = some r := by
  unfold callQ
  simp only [he, h]
  rfl

/-- How values of integers stand. -/
abbrev I64 (n : Int) : AV := .at (.int .i64 n)
abbrev BO (b : Bool) : AV := .at (.bool b)
abbrev ST (s : List UInt8) : AV := .at (.string ⟨⟨s⟩⟩)
end Go.Proofs.V
namespace Go.Proofs.V
open Go Go.RowKit
set_option linter.unusedVariables false
set_option linter.unusedSimpArgs false
def cellAt (rows : List (List AV)) (i j : Nat) : Option AV := (rows[i]?).bind fun r => r[j]?

/-- An abstract value stands for a value; 'S': cells that nobody writes any more; 'E': where the heap's objects lie. -/
inductive R1 (S : Addr → Option Value) (E : Nat → Option Nat) : AV → Value → Prop
  | at (v : Value) : R1 S E (.at v) v
  | nil (own : Own) : R1 S E (.slice [] true own) (.slice none 0 0)
  | slice (rows : List (List AV)) (own : Own) (b off cap sz : Nat) (val : Nat → Nat → Value) (hlen : rows.length ≤ cap) (hsz : ∀ r ∈ rows, r.length = sz) (hfull : own = .full → cap = rows.length)
      (hpl : ∀ i j x, cellAt rows i j = some x → x.plain = true)
      (hS : ∀ i j x, cellAt rows i j = some x → S ⟨b, off + (i * sz + j), none⟩ = some (val i j)) (hR : ∀ i j x, cellAt rows i j = some x → R1 S E x (val i j)) :
      R1 S E (.slice rows false own) (.slice (some ⟨b, off, none⟩) rows.length cap)
  | ref (row : List AV) (off b o : Nat) (val : Nat → Value) (hpl : ∀ x ∈ row, AV.plain x = true) (hS : ∀ (j : Nat) (x : AV), row[j]? = some x → S ⟨b, o + j, none⟩ = some (val j)) (hR : ∀ (j : Nat) (x : AV), row[j]? = some x → R1 S E x (val j)) :
      R1 S E (.ref row off) (.pointer (some ⟨b, o + off, none⟩))
  | hp (l off b : Nat) (h : E l = some b) : R1 S E (.hp l off) (.pointer (some ⟨b, off, none⟩))
  | fn (f : Fn) (first captured : List AV) (fs cs : List Value) (hf : fs.length = first.length) (hc : cs.length = captured.length)
      (h1 : ∀ (j : Nat) (x : AV) (v : Value), first[j]? = some x → fs[j]? = some v → R1 S E x v) (h2 : ∀ (j : Nat) (x : AV) (v : Value), captured[j]? = some x → cs[j]? = some v → R1 S E x v) : R1 S E (.fn f first captured) (.func f fs.toArray cs.toArray)
  | agg (cs : List AV) (vs : List Value) (hl : vs.length = cs.length) (hpl : ∀ x ∈ cs, AV.plain x = true) (h : ∀ (j : Nat) (x : AV) (v : Value), cs[j]? = some x → vs[j]? = some v → R1 S E x v) : R1 S E (.agg cs) (.agg vs.toArray)
  | tup (cs : List AV) (vs : List Value) (hl : vs.length = cs.length) (h : ∀ (j : Nat) (x : AV) (v : Value), cs[j]? = some x → vs[j]? = some v → R1 S E x v) : R1 S E (.tup cs) (.tuple vs.toArray)
  | ifc (t : TypeId) (x : AV) (v : Value) (h : R1 S E x v) : R1 S E (.ifc t x) (.iface t v)
  | hs (l off len cap sz b : Nat) (h : E l = some b) : R1 S E (.hs l off len cap sz) (.slice (some ⟨b, off, none⟩) len cap)

theorem R1.mono {S S' : Addr → Option Value} {E E' : Nat → Option Nat} (hS : ∀ a v, S a = some v → S' a = some v) (hE : ∀ l b, E l = some b → E' l = some b) {x : AV} {v : Value} (h : R1 S E x v) : R1 S' E' x v := by
  induction h with
  | «at» v => exact .at v
  | nil own => exact .nil own
  | slice rows own b off cap sz val hlen hsz hfull hpl h1 h2 ih => exact .slice rows own b off cap sz val hlen hsz hfull hpl (fun i j x h => hS _ _ (h1 i j x h)) ih
  | ref row off b o val hpl h1 h2 ih => exact .ref row off b o val hpl (fun j x h => hS _ _ (h1 j x h)) ih
  | hp l off b h => exact .hp l off b (hE _ _ h)
  | fn f first captured fs cs hf hc h1 h2 ih1 ih2 => exact .fn f first captured fs cs hf hc ih1 ih2
  | agg cs vs hl hpl h ih => exact .agg cs vs hl hpl ih
  | tup cs vs hl h ih => exact .tup cs vs hl ih
  | ifc t x v h ih => exact .ifc t x v ih
  | hs l off len cap sz b h => exact .hs l off len cap sz b (hE _ _ h)

/-- A value of one cell. -/
theorem R1.one {S : Addr → Option Value} {E : Nat → Option Nat} {x : AV} {v : Value} (h : R1 S E x v) (hx : x.plain = true) : Value.one v = true := by
  cases h with
  | «at» => cases v <;> simp_all [AV.plain, Value.one]
  | agg => cases hx
  | tup => cases hx
  | _ => rfl

theorem val1_R1 {S : Addr → Option Value} {E : Nat → Option Nat} {x : AV} {u v : Value} (hu : val1 x = some u) (h : R1 S E x v) : v = u := by
  cases h <;> simp_all [val1]
theorem vals_R1 {S : Addr → Option Value} {E : Nat → Option Nat} : ∀ {xs : List AV} {us vs : List Value}, vals xs = some us → vs.length = xs.length → (∀ (j : Nat) (x : AV) (v : Value), xs[j]? = some x → vs[j]? = some v → R1 S E x v) → vs = us
  | [], us, vs, hu, hl, _ => by simp [vals] at hu; subst hu; simpa using hl
  | x :: xs, us, [], hu, hl, _ => by simp at hl
  | x :: xs, us, v :: vs, hu, hl, h => by
    unfold vals at hu
    split at hu
    · rename_i w ws h1 h2
      have := Option.some.inj hu
      subst this
      have e1 := val1_R1 h1 (h 0 x v rfl rfl)
      have e2 : vs = ws := vals_R1 h2 (by simpa using hl) (fun j x v hx hv => h (j + 1) x v (by simpa using hx) (by simpa using hv))
      rw [e1, e2]
    · cases hu
theorem val_R1 {S : Addr → Option Value} {E : Nat → Option Nat} {x : AV} {u v : Value} (hu : x.val = some u) (h : R1 S E x v) : v = u := by
  unfold AV.val at hu
  split at hu
  · rename_i cs
    simp only [Option.map_eq_some_iff] at hu
    obtain ⟨us, h1, rfl⟩ := hu
    cases h with
    | agg _ vs hl hpl h => rw [vals_R1 h1 hl h]
  · have := Option.some.inj hu
    subst this
    cases h with
    | tup _ vs hl h => simp at hl; subst hl; rfl
  · exact val1_R1 hu h

theorem abs1_R1 (S : Addr → Option Value) (E : Nat → Option Nat) (v : Value) : R1 S E (abs1 v) v := by
  unfold abs1
  split
  · exact .nil _
  · exact .at v
theorem absV_R1 (S : Addr → Option Value) (E : Nat → Option Nat) (v : Value) : R1 S E (absV v) v := by
  unfold absV
  split
  · exact .nil _
  · rename_i cs
    split
    · rename_i hone
      have : (Value.agg cs) = Value.agg (cs.toList).toArray := by simp
      rw [this]
      refine .agg _ _ (by simp) ?_ ?_
      · intro x hx
        obtain ⟨u, hu, rfl⟩ := List.mem_map.1 hx
        have h1 := List.all_eq_true.1 hone u hu
        unfold abs1
        split
        · rfl
        · cases u <;> simp_all [AV.plain, Value.one]
      · intro j x v hx hv
        rw [List.getElem?_map, hv] at hx
        simp at hx
        subst hx
        exact abs1_R1 S E v
    · exact .at _
  · rename_i cs
    split
    · rename_i h0
      have : cs = #[] := by simpa using h0
      subst this
      exact R1.tup [] [] rfl (fun j x v h => by simp at h)
    · exact .at _
  · exact .at _

def parts : AV → List AV
  | .agg cs => cs
  | .tup cs => cs
  | .box _ cs => cs
  | x => [x]
def vparts : Value → List Value
  | .agg vs => vs.toList
  | .tuple vs => vs.toList
  | v => [v]
structure Rw where
  b : Nat
  len : Nat
  cap : Nat
  sz : Nat
inductive Tg where
  | slot (i : Nat) | row (n : Nat) | obj (l : Nat)
structure Gh where
  S : Addr → Option Value
  B : Nat → Option Nat
  E : Nat → Option Nat
  u : Nat → Option Tg
  ρ : Nat → Rw

def RV (G : Gh) : AV → Value → Prop
  | .fp g _ off, v => ∃ b, G.B g = some b ∧ v = .pointer (some ⟨b, off, none⟩)
  | .box g _, v => ∃ b, G.B g = some b ∧ v = .pointer (some ⟨b, 0, none⟩)
  | x, v => R1 G.S G.E x v
theorem RV_of {G : Gh} {x : AV} {v : Value} (h : R1 G.S G.E x v) : RV G x v := by
  cases h <;> (unfold RV; first | exact .at _ | exact .nil _ | exact .slice _ _ _ _ _ _ _ ‹_› ‹_› ‹_› ‹_› ‹_› ‹_› | exact .ref _ _ _ _ _ ‹_› ‹_› ‹_› | exact .hp _ _ _ ‹_› | exact .fn _ _ _ _ _ ‹_› ‹_› ‹_› ‹_› | exact .agg _ _ ‹_› ‹_› ‹_› | exact .tup _ _ ‹_› ‹_› | exact .ifc _ _ _ ‹_› | exact .hs _ _ _ _ _ _ ‹_›)
theorem R1_of {G : Gh} {x : AV} {v : Value} (h : RV G x v) (hx : x.free = true) : R1 G.S G.E x v := by
  cases x <;> first | (cases hx; done) | exact h

def Cl1 (G : Gh) (al : Nat → Bool) (x : AV) (v : Value) : Prop :=
  ∀ rows nl n, x = .slice rows nl (.id n) → al n = true → v = .slice (some ⟨(G.ρ n).b, 0, none⟩) rows.length (G.ρ n).cap ∧ nl = false ∧ rows.length = (G.ρ n).len ∧ ∀ r ∈ rows, r.length = (G.ρ n).sz
def Cl (G : Gh) (al : Nat → Bool) (x : AV) (v : Value) : Prop := ∀ (j : Nat) (y : AV) (u : Value), (parts x)[j]? = some y → (vparts v)[j]? = some u → Cl1 G al y u
def HasId (n : Nat) (x : AV) : Prop := ∃ y ∈ parts x, ∃ rows nl, y = .slice rows nl (.id n)
def NoId (x : AV) : Prop := ∀ n, ¬ HasId n x
theorem Cl_of_noId {G : Gh} {al : Nat → Bool} {x : AV} {v : Value} (h : NoId x) : Cl G al x v := fun j y u hy hu rows nl n he ha => (h n ⟨y, List.mem_of_getElem? hy, rows, nl, he⟩).elim

theorem noId_abs1 (v : Value) : ∀ rows nl n, abs1 v ≠ .slice rows nl (.id n) := by
  intro rows nl n h
  unfold abs1 at h
  split at h <;> cases h
theorem noId_absV (v : Value) : NoId (absV v) := by
  rintro n ⟨y, hy, rows, nl, rfl⟩
  unfold absV at hy
  split at hy
  · simp [parts] at hy
  · split at hy
    · simp only [parts] at hy
      obtain ⟨u, _, hu⟩ := List.mem_map.1 hy
      exact noId_abs1 u _ _ _ hu
    · simp [parts] at hy
  · split at hy <;> simp [parts] at hy
  · rename_i v h1 h2 h3
    simp [parts] at hy
theorem noId_strip1 (x : AV) : ∀ rows nl n, strip1 x ≠ .slice rows nl (.id n) := by
  intro rows nl n h
  unfold strip1 at h
  split at h
  · cases h
  · cases h
  · rename_i h1 h2; exact h1 rows nl n h
theorem noId_strip {x : AV} (hb : ∀ g cs, x ≠ .box g cs) : NoId (strip x) := by
  rintro n ⟨y, hy, rows, nl, rfl⟩
  unfold strip at hy
  split at hy
  · simp only [parts] at hy
    obtain ⟨u, _, hu⟩ := List.mem_map.1 hy
    exact noId_strip1 u _ _ _ hu
  · simp only [parts] at hy
    obtain ⟨u, _, hu⟩ := List.mem_map.1 hy
    exact noId_strip1 u _ _ _ hu
  · rename_i h1 h2
    cases x with
    | slice r m own =>
      cases own <;> simp [strip1, parts] at hy
    | box g cs => exact hb g cs rfl
    | agg cs => exact h1 cs rfl
    | tup cs => exact h2 cs rfl
    | _ => simp [strip1, parts] at hy

theorem plain_strip1 (x : AV) : (strip1 x).plain = x.plain := by
  unfold strip1; split <;> rfl
theorem strip1_R1 {S : Addr → Option Value} {E : Nat → Option Nat} {x : AV} {v : Value} (h : R1 S E x v) : R1 S E (strip1 x) v := by
  cases h with
  | nil own => cases own <;> exact .nil _
  | slice rows own b off cap sz val hlen hsz hfull hpl h1 h2 =>
    cases own with
    | no => exact .slice rows .no b off cap sz val hlen hsz (by intro h; cases h) hpl h1 h2
    | full => exact .slice rows .full b off cap sz val hlen hsz hfull hpl h1 h2
    | fresh => exact .slice rows .no b off cap sz val hlen hsz (by intro h; cases h) hpl h1 h2
    | id n => exact .slice rows .no b off cap sz val hlen hsz (by intro h; cases h) hpl h1 h2
  | «at» v => exact .at v
  | ref row off b o val hpl h1 h2 => exact .ref row off b o val hpl h1 h2
  | hp l off b h => exact .hp l off b h
  | fn f first captured fs cs hf hc h1 h2 => exact .fn f first captured fs cs hf hc h1 h2
  | agg cs vs hl hpl h => exact .agg cs vs hl hpl h
  | tup cs vs hl h => exact .tup cs vs hl h
  | ifc t x v h => exact .ifc t x v h
  | hs l off len cap sz b h => exact .hs l off len cap sz b h
theorem strip_R1 {S : Addr → Option Value} {E : Nat → Option Nat} {x : AV} {v : Value} (h : R1 S E x v) : R1 S E (strip x) v := by
  cases h with
  | agg cs vs hl hpl h =>
    refine .agg _ _ (by simpa using hl) ?_ ?_
    · intro x hx
      obtain ⟨y, hy, rfl⟩ := List.mem_map.1 hx
      rw [plain_strip1]; exact hpl y hy
    · intro j x v hx hv
      rw [List.getElem?_map] at hx
      simp only [Option.map_eq_some_iff] at hx
      obtain ⟨y, hy, rfl⟩ := hx
      exact strip1_R1 (h j y v hy hv)
  | tup cs vs hl h =>
    refine .tup _ _ (by simpa using hl) ?_
    intro j x v hx hv
    rw [List.getElem?_map] at hx
    simp only [Option.map_eq_some_iff] at hx
    obtain ⟨y, hy, rfl⟩ := hx
    exact strip1_R1 (h j y v hy hv)
  | «at» v => exact .at v
  | nil own => exact strip1_R1 (.nil own)
  | slice rows own b off cap sz val hlen hsz hfull hpl h1 h2 => exact strip1_R1 (.slice rows own b off cap sz val hlen hsz hfull hpl h1 h2)
  | ref row off b o val hpl h1 h2 => exact .ref row off b o val hpl h1 h2
  | hp l off b h => exact .hp l off b h
  | fn f first captured fs cs hf hc h1 h2 => exact .fn f first captured fs cs hf hc h1 h2
  | ifc t x v h => exact .ifc t x v h
  | hs l off len cap sz b h => exact .hs l off len cap sz b h

def Mem (S : Addr → Option Value) (w : World) : Prop := ∀ ad v, S ad = some v → w.cell? ad = some v
/-- What lay in w lies as it did, but for the blocks of E0. -/
structure Bel (E0 : Nat → Prop) (w w' : World) : Prop where
  os : w'.os = w.os
  tape : w'.tape = w.tape
  output : w'.output = w.output
  size : w.heap.size ≤ w'.heap.size
  block : ∀ k, k < w.heap.size → ¬ E0 k → w'.heap[k]? = w.heap[k]?
theorem Bel.refl (E0 : Nat → Prop) (w : World) : Bel E0 w w := ⟨rfl, rfl, rfl, Nat.le_refl _, fun _ _ _ => rfl⟩
theorem Bel.trans {E0 : Nat → Prop} {a b c : World} (h : Bel E0 a b) (k : Bel E0 b c) : Bel E0 a c :=
  ⟨k.os.trans h.os, k.tape.trans h.tape, k.output.trans h.output, Nat.le_trans h.size k.size, fun i hi he => (k.block i (Nat.lt_of_lt_of_le hi h.size) he).trans (h.block i hi he)⟩
theorem Bel.below {w w' : World} (h : Bel (fun _ => False) w w') : Below w.heap.size w w' := ⟨h.os, h.tape, h.output, h.size, fun k hk => h.block k hk (fun x => x)⟩

/-- A block of the frame's own, or of the heap: what it holds. -/
def Holds1 (G : Gh) (w : World) (b : Nat) (cs : List AV) (vs : Array Value) : Prop :=
  (∃ ty, w.heap[b]? = some (.cells vs ty (0, 0))) ∧ vs.size = cs.length ∧ (∀ x ∈ cs, AV.plain x = true) ∧ (∀ (j : Nat) (x : AV) (v : Value), cs[j]? = some x → vs[j]? = some v → R1 G.S G.E x v) ∧ ∀ ad : Addr, ad.block = b → G.S ad = none

/-- The world in which a frame began; what was read there already, and where the heap's objects lay. -/
structure Ent extends World where
  S0 : Addr → Option Value
  Em : Nat → Option Nat
  /-- blocks that nobody of the frame touches -/
  pro : Nat → Option (Obj × Bool) := fun _ => none
  /-- where the boxes lie -/
  Bm : Nat → Option Nat := fun _ => none
  /-- blocks that were there, and that the frame takes over as boxes -/
  Ew : Nat → Prop := fun _ => False
  /-- what is deferred -/
  dfr : List Deferred := []
instance : CoeOut Ent World := ⟨Ent.toWorld⟩
def Rel (w0 : Ent) (G : Gh) (F : St) : Prop :=
  (∀ ad v, w0.S0 ad = some v → G.S ad = some v) ∧ (∀ ad : Addr, w0.S0 ad = none → ad.block < w0.heap.size → ¬ w0.Ew ad.block → G.S ad = none) ∧ (∀ l b, w0.Em l = some b → G.E l = some b) ∧ (∀ l b, w0.Em l = none → G.E l = some b → w0.heap.size ≤ b) ∧ ∀ l b, G.E l = some b → l < F.H.length

structure Inv (E0 : Nat → Prop) (w0 : Ent) (Z : Nat → Prop) (G : Gh) (F : St) (a : Act) (w : World) : Prop where
  nsz : a.tmps.size = F.n
  df : a.defers = w0.dfr
  slot : ∀ i, RV G (F.t i) (a.tmps.getD i Go.undef)
  cl : ∀ i, (∀ g cs, F.t i ≠ .box g cs) → Cl G F.al (F.t i) (a.tmps.getD i Go.undef)
  ids : ∀ i n, HasId n (F.t i) → Z n
  mem : Mem G.S w
  bel : Bel E0 w0 w
  rel : Rel w0 G F
  box : ∀ i g cs, F.t i = .box g cs → ∃ b vs, G.B g = some b ∧ (w0.heap.size ≤ b ∨ (w0.Ew b ∧ E0 b)) ∧ G.u b = some (.slot i) ∧ Holds1 G w b cs vs ∧ ∀ (j : Nat) (x : AV) (v : Value), cs[j]? = some x → vs[j]? = some v → Cl1 G F.al x v
  row : ∀ n, F.al n = true → w0.heap.size ≤ (G.ρ n).b ∧ G.u (G.ρ n).b = some (.row n) ∧ (∃ vs ty, w.heap[(G.ρ n).b]? = some (.cells vs ty (0, 0)) ∧ vs.size = (G.ρ n).cap * (G.ρ n).sz) ∧ (0 < (G.ρ n).len ∧ (G.ρ n).len ≤ (G.ρ n).cap) ∧ ∀ o, (G.ρ n).len * (G.ρ n).sz ≤ o → G.S ⟨(G.ρ n).b, o, none⟩ = none
  obj : ∀ l cs, F.H[l]? = some cs → ∃ b vs, G.E l = some b ∧ (w0.heap.size ≤ b ∨ E0 b) ∧ G.u b = some (.obj l) ∧ Holds1 G w b cs vs
  zB : ∀ g b, G.B g = some b → Z g
  zal : ∀ n, F.al n = true → Z n
  live : ∀ b, (G.u b).isSome = true → b < w.heap.size
  pro : ∀ b o, w0.pro b = some o → w.heap[b]? = some o.1 ∧ G.u b = none ∧ (o.2 = true → ∀ ad : Addr, ad.block = b → G.S ad = none)
  bm : ∀ g b, w0.Bm g = some b → G.B g = some b

/-- A step that turns nothing that was there. -/
structure Grow (Z1 : Nat → Prop) (G G' : Gh) (w w' : World) : Prop where
  S : ∀ ad v, G.S ad = some v → G'.S ad = some v
  Snew : ∀ ad, G.S ad = none → ad.block < w.heap.size → G'.S ad = none
  mem : Mem G'.S w'
  B : ∀ g b, G.B g = some b → G'.B g = some b
  Bnew : ∀ g b, G.B g = none → G'.B g = some b → Z1 g
  E : G'.E = G.E
  u : ∀ b, b < w.heap.size → G'.u b = G.u b
  ulive : ∀ b, (G'.u b).isSome = true → b < w'.heap.size
  ρ : ∀ n, ¬ Z1 n → G'.ρ n = G.ρ n
  heap : ∀ b, b < w.heap.size → w'.heap[b]? = w.heap[b]?
  size : w.heap.size ≤ w'.heap.size
  os : w'.os = w.os
  tape : w'.tape = w.tape
  output : w'.output = w.output

theorem Mem.lt {S : Addr → Option Value} {w : World} (h : Mem S w) {ad : Addr} {v : Value} (hv : S ad = some v) : ad.block < w.heap.size := World.block_lt_of_cell? w ad (h ad v hv)

theorem Grow.refl {Z1 : Nat → Prop} {G : Gh} {w : World} (hm : Mem G.S w) (hu : ∀ b, (G.u b).isSome = true → b < w.heap.size) : Grow Z1 G G w w :=
  ⟨fun _ _ h => h, fun _ h _ => h, hm, fun _ _ h => h, fun g b h h' => (by rw [h] at h'; cases h'), rfl, fun _ _ => rfl, hu, fun _ _ => rfl, fun _ _ => rfl, Nat.le_refl _, rfl, rfl, rfl⟩

theorem RV.grow {Z1 : Nat → Prop} {G G' : Gh} {w w' : World} (g : Grow Z1 G G' w w') {x : AV} {v : Value} (h : RV G x v) : RV G' x v := by
  cases x with
  | fp a b c => obtain ⟨k, h1, h2⟩ := h; exact ⟨k, g.B _ _ h1, h2⟩
  | box a b => obtain ⟨k, h1, h2⟩ := h; exact ⟨k, g.B _ _ h1, h2⟩
  | _ => exact R1.mono g.S (fun l b h => by rw [g.E]; exact h) h
theorem Holds1.grow {Z1 : Nat → Prop} {G G' : Gh} {w w' : World} (g : Grow Z1 G G' w w') {b : Nat} {cs : List AV} {vs : Array Value} (h : Holds1 G w b cs vs) : Holds1 G' w' b cs vs := by
  obtain ⟨⟨ty, h1⟩, h2, hp, h3, h4⟩ := h
  have hb : b < w.heap.size := by
    rcases Nat.lt_or_ge b w.heap.size with h | h
    · exact h
    · rw [Array.getElem?_eq_none h] at h1; cases h1
  exact ⟨⟨ty, (g.heap b hb).trans h1⟩, h2, hp, fun j x v hx hv => R1.mono g.S (fun l b h => by rw [g.E]; exact h) (h3 j x v hx hv), fun ad ha => g.Snew ad (h4 ad ha) (by rw [ha]; exact hb)⟩

theorem Cl1.ρ {G G' : Gh} {al al' : Nat → Bool} (hal : ∀ n, al' n = true → al n = true) (hρ : ∀ n, al' n = true → G'.ρ n = G.ρ n) {x : AV} {v : Value} (h : Cl1 G al x v) : Cl1 G' al' x v := by
  intro rows nl n he ha
  rw [hρ n ha]
  exact h rows nl n he (hal n ha)

theorem Inv.grow {E0 : Nat → Prop} {w0 : Ent} {Z Z1 : Nat → Prop} {G G' : Gh} {F : St} {a : Act} {w w' : World} (h : Inv E0 w0 Z G F a w) (g : Grow Z1 G G' w w') (hz : ∀ n, Z n → ¬ Z1 n) : Inv E0 w0 (fun n => Z n ∨ Z1 n) G' F a w' where
  nsz := h.nsz
  df := h.df
  slot i := (h.slot i).grow g
  cl i hb j y u hy hu := (h.cl i hb j y u hy hu).ρ (fun _ h => h) (fun n ha => g.ρ n (hz n (h.zal n ha)))
  ids i n hi := .inl (h.ids i n hi)
  mem := g.mem
  bel := h.bel.trans ⟨g.os, g.tape, g.output, g.size, fun k hk _ => g.heap k hk⟩
  rel := ⟨fun ad v hv => g.S _ _ (h.rel.1 ad v hv), fun ad h0 hb he => g.Snew ad (h.rel.2.1 ad h0 hb he) (Nat.lt_of_lt_of_le hb h.bel.size), fun l b hb => by rw [g.E]; exact h.rel.2.2.1 l b hb, fun l b h0 hb => h.rel.2.2.2.1 l b h0 (by rw [← g.E]; exact hb), fun l b hb => h.rel.2.2.2.2 l b (by rw [← g.E]; exact hb)⟩
  box i gg cs hc := by
    obtain ⟨b, vs, h1, h2, h3, h4, h5⟩ := h.box i gg cs hc
    have hb := h.live b (by rw [h3]; rfl)
    exact ⟨b, vs, g.B _ _ h1, h2, (g.u b hb).trans h3, h4.grow g, fun j x v hx hv => (h5 j x v hx hv).ρ (fun _ h => h) (fun n ha => g.ρ n (hz n (h.zal n ha)))⟩
  row n ha := by
    obtain ⟨h1, h2, ⟨vs, ty, h3, h3'⟩, h4, h5⟩ := h.row n ha
    have hρ := g.ρ n (hz n (h.zal n ha))
    have hb := h.live _ (by rw [h2]; rfl)
    rw [hρ]
    exact ⟨h1, (g.u _ hb).trans h2, ⟨vs, ty, (g.heap _ hb).trans h3, h3'⟩, h4, fun o ho => g.Snew _ (h5 o ho) hb⟩
  obj l cs hl := by
    obtain ⟨b, vs, h1, h2, h3, h4⟩ := h.obj l cs hl
    have hb := h.live b (by rw [h3]; rfl)
    exact ⟨b, vs, by rw [g.E]; exact h1, h2, (g.u b hb).trans h3, h4.grow g⟩
  zB gg b hb := by
    cases hg : G.B gg with
    | none => exact .inr (g.Bnew gg b hg hb)
    | some b' => exact .inl (h.zB gg b' hg)
  zal n ha := .inl (h.zal n ha)
  live b hb := g.ulive b hb
  pro b o hb := by
    obtain ⟨h1, h2, h3⟩ := h.pro b o hb
    have hlt := (Array.getElem?_eq_some_iff.1 h1).1
    exact ⟨(g.heap b hlt).trans h1, (g.u b hlt).trans h2, fun hf ad ha => g.Snew ad (h3 hf ad ha) (by rw [ha]; exact hlt)⟩
  bm gg b hb := g.B _ _ (h.bm gg b hb)

theorem getD_put {a : Act} {d : Nat} {v : Value} (hd : d < a.tmps.size) (i : Nat) : (a.put (some d) v).tmps.getD i Go.undef = if i = d then v else a.tmps.getD i Go.undef := by
  simp only [Act.put]
  by_cases h : i = d
  · subst h; simp [hd]
  · rw [if_neg h]
    rw [Array.getD_eq_getD_getElem?, Array.getD_eq_getD_getElem?, Array.getElem?_setIfInBounds_ne (Ne.symm h)]

/-- A slot takes a value that is no box. -/
theorem Inv.set {E0 : Nat → Prop} {w0 : Ent} {Z : Nat → Prop} {G : Gh} {F : St} {a : Act} {w : World} (h : Inv E0 w0 Z G F a w) {d : Nat} {x : AV} {v : Value} (hd : d < F.n) (hb : ∀ g cs, x ≠ .box g cs)
    (hr : RV G x v) (hc : Cl G F.al x v) (hi : ∀ n, HasId n x → Z n) : Inv E0 w0 Z G { F with t := upd F.t d x } (a.put (some d) v) w where
  nsz := by simp [Act.put]; exact h.nsz
  df := by simp [Act.put]; exact h.df
  slot i := by
    rw [getD_put (by rw [h.nsz]; exact hd)]
    simp only [upd_apply]
    split
    · exact hr
    · exact h.slot i
  cl i hb' := by
    rw [getD_put (by rw [h.nsz]; exact hd)]
    simp only [upd_apply] at hb' ⊢
    split
    · exact hc
    · rename_i hne; exact h.cl i (by simpa only [hne, if_false] using hb')
  ids i n := by
    simp only [upd_apply]
    split
    · exact hi n
    · exact h.ids i n
  mem := h.mem
  bel := h.bel
  rel := h.rel
  box i g cs hcs := by
    simp only [upd_apply] at hcs
    split at hcs
    · exact absurd hcs (hb g cs)
    · exact h.box i g cs hcs
  row := h.row
  obj := h.obj
  zB := h.zB
  zal := h.zal
  live := h.live
  pro := h.pro
  bm := h.bm

theorem Inv.zmono {E0 : Nat → Prop} {w0 : Ent} {Z Z' : Nat → Prop} {G : Gh} {F : St} {a : Act} {w : World} (h : Inv E0 w0 Z G F a w) (hz : ∀ n, Z n → Z' n) : Inv E0 w0 Z' G F a w :=
  { h with ids := fun i n hi => hz n (h.ids i n hi), zB := fun g b hb => hz g (h.zB g b hb), zal := fun n ha => hz n (h.zal n ha) }
end Go.Proofs.V

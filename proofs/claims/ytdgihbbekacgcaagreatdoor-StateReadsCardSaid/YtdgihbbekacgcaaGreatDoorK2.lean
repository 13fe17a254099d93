/- The quiet operations, one by one. -/
import Derived.Test.YtdgihbbekacgcaaGreatDoorK1
import Derived.Laws.Cells
import Derived.Laws.Entries
import Derived.Laws.NewBlocks
import Derived.ChangeKeysEq
namespace Go.Proofs.V
open Go Go.RowKit
set_option linter.unusedVariables false
set_option linter.unusedSimpArgs false
section
variable {P : Program}
theorem tsz_info {t : TypeId} {n : Nat} (h : tsz P t = some n) : ∃ i, P.info? t = some i ∧ i.size = n := by
  unfold tsz at h
  simpa [Option.map_eq_some_iff] using h
theorem run_tsz {t : TypeId} {n : Nat} (h : tsz P t = some n) (w : World) : (sizeOf t).run P w = .ok n w := by
  obtain ⟨i, h1, h2⟩ := tsz_info h
  simp [sizeOf, typeInfo, Sem.run_bind, h1, h2]
theorem run_tagg {t : TypeId} {g : Bool} (h : tagg P t = some g) (w : World) : (isAgg t).run P w = .ok g w := by
  unfold tagg at h
  split at h <;> first | (cases h; done) | skip
  all_goals (rename_i hd; have hg := Option.some.inj h; subst hg; simp only [isAgg, Sem.run_bind, run_underlying hd, Result.andThen_ok])
  · rfl
  · rfl
  · rfl
theorem tel_und {t e : TypeId} (h : tel P t = some e) : P.underlying t = some (.slice e) := by
  unfold tel at h
  split at h
  · rename_i hd; rw [hd, Option.some.inj h]
  · cases h
theorem tarr_und {t e : TypeId} {n : Nat} (h : tarr P t = some (n, e)) : P.underlying t = some (.array n e) := by
  unfold tarr at h
  split at h
  · rename_i hd; have := Option.some.inj h; cases this; exact hd
  · cases h
theorem tfield_und {t ft : TypeId} {i off : Nat} (h : tfield P t i = some (off, ft)) : ∃ (fs : Array Field) (f : Field), P.underlying t = some (.struct fs) ∧ fs[i]? = some f ∧ f.offset = off ∧ f.type = ft := by
  unfold tfield at h
  split at h
  · rename_i fs hd
    simp only [Option.map_eq_some_iff] at h
    obtain ⟨f, h1, h2⟩ := h
    cases h2
    exact ⟨fs, f, hd, h1, rfl, rfl⟩
  · cases h
theorem tzero_info {t : TypeId} {cs : List AV} (h : tzero P t = some cs) : ∃ i z, P.info? t = some i ∧ i.zero = some z ∧ cs = (absV z).cells ∧ (∀ x ∈ cs, AV.plain x = true) ∧ cs.length = z.cells.size := by
  unfold tzero at h
  split at h
  · rename_i z hz
    obtain ⟨i, h1, h2⟩ := Option.bind_eq_some_iff.1 hz
    split at h
    · rename_i hc
      have := Option.some.inj h
      subst this
      simp only [Bool.and_eq_true, List.all_eq_true, beq_iff_eq] at hc
      exact ⟨i, z, h1, h2, rfl, hc.1, hc.2⟩
    · cases h
  · cases h
theorem run_zero {t : TypeId} {i : TypeInfo} {z : Value} (h1 : P.info? t = some i) (h2 : i.zero = some z) (w : World) : (zeroValue t).run P w = .ok z w := by
  simp [zeroValue, typeInfo, Sem.run_bind, h1, h2]
end
theorem isStr_und {P : Program} {t : TypeId} (h : isStr P t = true) : P.underlying t = some .string := by
  unfold isStr at h
  split at h
  · assumption
  · cases h
theorem isU8_und {P : Program} {t : TypeId} (h : isU8 P t = true) : P.underlying t = some (.int .u8) := by
  unfold isU8 at h
  split at h
  · assumption
  · cases h

/-- Cell by cell. -/
def PW (G : Gh) (cs : List AV) (vs : Array Value) : Prop := vs.size = cs.length ∧ (∀ x ∈ cs, AV.plain x = true) ∧ ∀ (j : Nat) (x : AV) (v : Value), cs[j]? = some x → vs[j]? = some v → R1 G.S G.E x v

theorem absV_cells (G : Gh) (z : Value) (hp : ∀ x ∈ (absV z).cells, AV.plain x = true) : ∀ (j : Nat) (x : AV) (v : Value), (absV z).cells[j]? = some x → z.cells[j]? = some v → R1 G.S G.E x v := by
  intro j x v hx hv
  have key := absV_R1 G.S G.E z
  cases hz : absV z with
  | agg cs =>
    rw [hz] at key hx
    cases key with
    | agg _ vs hl hpl h => exact h j x v hx (by simpa [Value.cells] using hv)
  | «at» u =>
    rw [hz] at key hx hp
    have hpu := hp (.at u) (by simp [AV.cells])
    cases key
    cases j with
    | succ j => simp [AV.cells] at hx
    | zero =>
      simp [AV.cells] at hx
      subst hx
      cases z <;> simp_all [AV.plain, Value.cells] <;> (subst hv; exact .at _)
  | slice r n o =>
    rw [hz] at key hx
    cases j with
    | succ j => simp [AV.cells] at hx
    | zero =>
      simp [AV.cells] at hx
      subst hx
      cases key <;> (simp [Value.cells] at hv; subst hv)
      · exact .nil _
      · exact .slice _ _ _ _ _ _ _ ‹_› ‹_› ‹_› ‹_› ‹_› ‹_›
  | tup cs => rw [hz] at hp; exact absurd (hp (.tup cs) (by simp [AV.cells])) (by simp [AV.plain])
  | _ => exfalso; unfold absV at hz; split at hz <;> first | (cases hz; done) | (split at hz <;> cases hz)
theorem PW.val {G : Gh} {cs : List AV} {vs : Array Value} (h : PW G cs vs) {j : Nat} {x : AV} (hx : cs[j]? = some x) : ∃ v, vs[j]? = some v ∧ R1 G.S G.E x v := by
  have hj : j < vs.size := by rw [h.1]; exact (List.getElem?_eq_some_iff.1 hx).1
  exact ⟨vs[j], Array.getElem?_eq_getElem hj, h.2.2 j x _ hx (Array.getElem?_eq_getElem hj)⟩

theorem cells_R1 {G : Gh} {x : AV} {v : Value} (h : R1 G.S G.E x v) (hs : x.storable = true) : PW G x.cells v.cells := by
  cases h with
  | agg cs vs hl hpl h => exact ⟨by simp [Value.cells, AV.cells, hl], hpl, fun j x v hx hv => h j x v hx (by simpa [Value.cells] using hv)⟩
  | tup => cases hs
  | «at» v =>
    refine ⟨?_, ?_, ?_⟩
    · cases v <;> simp_all [AV.storable, Value.cells, AV.cells]
    · intro x hx; simp [AV.cells] at hx; subst hx; cases v <;> simp_all [AV.storable, AV.plain]
    · intro j x u hx hu
      cases j with
      | succ j => simp [AV.cells] at hx
      | zero => simp [AV.cells] at hx; subst hx; cases v <;> simp_all [AV.storable, Value.cells] <;> (subst hu; exact .at _)
  | nil own => exact ⟨rfl, by simp [AV.cells, AV.plain], fun j x v hx hv => by cases j <;> simp [AV.cells, Value.cells] at hx hv; subst hx; subst hv; exact .nil _⟩
  | slice rows own b off cap sz val hlen hsz hfull hpl h1 h2 => exact ⟨rfl, by simp [AV.cells, AV.plain], fun j x v hx hv => by cases j <;> simp [AV.cells, Value.cells] at hx hv; subst hx; subst hv; exact .slice rows own b off cap sz val hlen hsz hfull hpl h1 h2⟩
  | ref row off b o val hpl h1 h2 => exact ⟨rfl, by simp [AV.cells, AV.plain], fun j x v hx hv => by cases j <;> simp [AV.cells, Value.cells] at hx hv; subst hx; subst hv; exact .ref row off b o val hpl h1 h2⟩
  | hp l off b h => exact ⟨rfl, by simp [AV.cells, AV.plain], fun j x v hx hv => by cases j <;> simp [AV.cells, Value.cells] at hx hv; subst hx; subst hv; exact .hp l off b h⟩
  | fn f first captured fs cs hf hc h1 h2 => exact ⟨rfl, by simp [AV.cells, AV.plain], fun j x v hx hv => by cases j <;> simp [AV.cells, Value.cells] at hx hv; subst hx; subst hv; exact .fn f first captured fs cs hf hc h1 h2⟩
  | ifc t x v h => exact ⟨rfl, by simp [AV.cells, AV.plain], fun j y u hx hv => by cases j <;> simp [AV.cells, Value.cells] at hx hv; subst hx; subst hv; exact .ifc t x v h⟩
  | hs l off len cap sz b h => exact ⟨rfl, by simp [AV.cells, AV.plain], fun j y u hx hv => by cases j <;> simp [AV.cells, Value.cells] at hx hv; subst hx; subst hv; exact .hs l off len cap sz b h⟩
theorem PW.strip {G : Gh} {cs : List AV} {vs : Array Value} (h : PW G cs vs) : PW G (cs.map strip1) vs := by
  refine ⟨by simpa using h.1, ?_, ?_⟩
  · intro x hx
    obtain ⟨y, hy, rfl⟩ := List.mem_map.1 hx
    rw [plain_strip1]; exact h.2.1 y hy
  · intro j x v hx hv
    rw [List.getElem?_map] at hx
    simp only [Option.map_eq_some_iff] at hx
    obtain ⟨y, hy, rfl⟩ := hx
    exact strip1_R1 (h.2.2 j y v hy hv)

def Z1 (lab : Nat) (n : Nat) : Prop := lab ≤ n ∧ n < lab + 64
/-- What is known of an operand. -/
structure Opd (G : Gh) (F : St) (Z : Nat → Prop) (x : AV) (v : Value) : Prop where
  rv : RV G x v
  nb : ∀ g cs, x ≠ .box g cs
  cl : Cl G F.al x v
  ids : ∀ n, HasId n x → Z n
section
variable {E0 : Nat → Prop} {w0 : Ent} {Z : Nat → Prop} {G : Gh} {F : St} {a : Act} {w : World} {P : Program} {lab : Nat}
theorem Opd.of_noId {x : AV} {v : Value} (h : R1 G.S G.E x v) (hn : NoId x) : Opd G F Z x v := ⟨RV_of h, (by rintro g cs rfl; cases h), Cl_of_noId hn, fun n hi => (hn n hi).elim⟩
theorem noId_fp (g t off : Nat) : NoId (.fp g t off) := by rintro n ⟨y, hy, rows, nl, rfl⟩; simp [parts] at hy
theorem opd (h : Inv E0 w0 Z G F a w) (x : Operand) : Opd G F Z (F.ev x) (a.eval x) := by
  cases x with
  | const v => exact .of_noId (absV_R1 _ _ v) (noId_absV v)
  | global g => exact .of_noId (.at _) (by rintro n ⟨y, hy, rows, nl, rfl⟩; simp [parts, St.ev] at hy)
  | func f => exact .of_noId (R1.fn (.func f) [] [] [] [] rfl rfl (fun j x v h => by simp at h) (fun j x v h => by simp at h)) (by rintro n ⟨y, hy, rows, nl, rfl⟩; simp [parts, St.ev] at hy)
  | tmp t =>
    have hs := h.slot t
    have hc := h.cl t
    have hi := h.ids t
    show Opd G F Z (F.tmp t) (a.tmps.getD t Go.undef)
    unfold St.tmp
    split
    · rename_i g cs he
      rw [he] at hs
      exact ⟨hs, (by intro g cs h; cases h), Cl_of_noId (noId_fp _ _ _), fun n hi => (noId_fp _ _ _ n hi).elim⟩
    · rename_i hnb
      exact ⟨hs, fun g cs he => hnb g cs he, hc (fun g cs he => hnb g cs he), fun n hn => hi n hn⟩

/-- What is yielded, and what holds then. -/
def Yields (E0 : Nat → Prop) (w0 : Ent) (Z : Nat → Prop) (lab : Nat) (d : Nat) (G : Gh) (F : St) (a : Act) (w : World) (P : Program) (o : Oper) (x : AV) : Prop :=
  ∃ v w' G', (execOp a.eval o).run P w = .ok (.value v) w' ∧ Inv E0 w0 (fun n => Z n ∨ Z1 lab n) G' { F with t := upd F.t d x } (a.put (some d) v) w'
theorem Yields.same (h : Inv E0 w0 Z G F a w) {d : Nat} (hd : d < F.n) {o : Oper} {x : AV} {v : Value} (hrun : (execOp a.eval o).run P w = .ok (.value v) w) (ho : Opd G F Z x v) : Yields E0 w0 Z lab d G F a w P o x :=
  ⟨v, w, G, hrun, (h.set hd ho.nb ho.rv ho.cl ho.ids).zmono fun n hn => .inl hn⟩
/-- A new row that nobody writes. -/
def Gh.addRow (G : Gh) (b : Nat) (vs : Array Value) : Gh := { G with S := fun ad => if ad.block = b ∧ ad.spot = none then vs[ad.off]? else G.S ad }
theorem grow_row (h : Inv E0 w0 Z G F a w) (vs : Array Value) (ty : TypeId) : Grow (Z1 lab) G (G.addRow w.heap.size vs) w (w.alloc (.cells vs ty)) where
  S ad v hv := by
    have := h.mem.lt hv
    simp only [Gh.addRow]
    rw [if_neg (by rintro ⟨h1, _⟩; omega)]
    exact hv
  Snew ad hn hb := by
    simp only [Gh.addRow]
    rw [if_neg (by rintro ⟨h1, _⟩; omega)]
    exact hn
  mem ad v hv := by
    simp only [Gh.addRow] at hv
    split at hv
    · rename_i hb
      obtain ⟨b, o, s⟩ := ad
      obtain ⟨rfl, rfl⟩ := hb
      rw [World.cell?_alloc_new]
      exact hv
    · have := h.mem.lt hv
      rw [World.cell?_alloc_lt _ _ _ this]
      exact h.mem ad v hv
  B g b hb := hb
  Bnew g b h1 h2 := by rw [show (G.addRow w.heap.size vs).B g = G.B g from rfl, h1] at h2; cases h2
  E := rfl
  u b hb := rfl
  ulive b hb := by have := h.live b hb; simp; omega
  ρ n hn := rfl
  heap b hb := Below.heap_alloc w _ b hb
  size := by simp
  os := rfl
  tape := rfl
  output := rfl
theorem notZ1 (hz : ∀ n, Z1 lab n → ¬ Z n) : ∀ n, Z n → ¬ Z1 lab n := fun n h1 h2 => hz n h2 h1
theorem Yields.row (h : Inv E0 w0 Z G F a w) (hz : ∀ n, Z1 lab n → ¬ Z n) {d : Nat} (hd : d < F.n) {o : Oper} {x : AV} {v : Value} {vs : Array Value} {ty : TypeId} (hrun : (execOp a.eval o).run P w = .ok (.value v) (w.alloc (.cells vs ty)))
    (hx : R1 (G.addRow w.heap.size vs).S G.E x v) (hn : NoId x) : Yields E0 w0 Z lab d G F a w P o x := by
  refine ⟨v, _, G.addRow w.heap.size vs, hrun, ?_⟩
  have h1 := h.grow (grow_row (lab := lab) h vs ty) (notZ1 hz)
  have ho : Opd (G.addRow w.heap.size vs) F (fun n => Z n ∨ Z1 lab n) x v := .of_noId hx hn
  exact h1.set hd ho.nb ho.rv ho.cl ho.ids
/-- A new box. -/
def Gh.addBox (G : Gh) (g d b : Nat) : Gh := { G with B := fun n => if n = g then some b else G.B n, u := fun k => if k = b then some (.slot d) else G.u k }
theorem Yields.box (h : Inv E0 w0 Z G F a w) (hz : ∀ n, Z1 lab n → ¬ Z n) {d : Nat} (hd : d < F.n) {o : Oper} {cs : List AV} {vs : Array Value} {ty : TypeId} (hrun : (execOp a.eval o).run P w = .ok (.value (.pointer (some ⟨w.heap.size, 0, none⟩))) (w.alloc (.cells vs ty)))
    (hp : PW G cs vs) (hn : ∀ y ∈ cs, ∀ rows nl n, y ≠ .slice rows nl (.id n)) : Yields E0 w0 Z lab d G F a w P o (.box lab cs) := by
  have hl : Z1 lab lab := ⟨Nat.le_refl _, by omega⟩
  have hB : G.B lab = none := by
    cases hb : G.B lab with
    | none => rfl
    | some b => exact absurd (h.zB _ _ hb) (hz lab hl)
  have hSn : ∀ ad : Addr, ad.block = w.heap.size → G.S ad = none := by
    intro ad ha
    cases hs : G.S ad with
    | none => rfl
    | some v => have := h.mem.lt hs; omega
  have hg : Grow (Z1 lab) G (G.addBox lab d w.heap.size) w (w.alloc (.cells vs ty)) := {
    S := fun _ _ hv => hv
    Snew := fun _ hv _ => hv
    mem := fun ad v hv => by
      have := h.mem.lt hv
      rw [World.cell?_alloc_lt _ _ _ this]
      exact h.mem ad v hv
    B := fun g b hb => by
      simp only [Gh.addBox]
      split
      · rename_i he; subst he; rw [hB] at hb; cases hb
      · exact hb
    Bnew := fun g b h1 h2 => by
      simp only [Gh.addBox] at h2
      split at h2
      · rename_i he; subst he; exact hl
      · rw [h1] at h2; cases h2
    E := rfl
    u := fun b hb => by simp only [Gh.addBox]; rw [if_neg (by omega)]
    ulive := fun b hb => by
      simp only [Gh.addBox] at hb
      simp
      split at hb
      · omega
      · have := h.live b hb; omega
    ρ := fun _ _ => rfl
    heap := fun b hb => Below.heap_alloc w _ b hb
    size := by simp
    os := rfl
    tape := rfl
    output := rfl }
  have h1 := h.grow hg (notZ1 hz)
  refine ⟨_, _, G.addBox lab d w.heap.size, hrun, ?_⟩
  have hnew : (w.alloc (.cells vs ty)).heap[w.heap.size]? = some (.cells vs ty (0, 0)) := by
    show (w.heap.push _)[w.heap.size]? = _
    simp
  exact {
    nsz := by simp [Act.put]; exact h1.nsz
    df := by simp [Act.put]; exact h1.df
    slot := fun i => by
      rw [getD_put (by rw [h.nsz]; exact hd)]
      simp only [upd_apply]
      split
      · exact ⟨w.heap.size, by simp [Gh.addBox], rfl⟩
      · exact h1.slot i
    cl := fun i hb' => by
      rw [getD_put (by rw [h.nsz]; exact hd)]
      simp only [upd_apply] at hb' ⊢
      split
      · rename_i he; exact absurd (by rw [if_pos he]) (hb' lab cs)
      · rename_i hne; exact h1.cl i (by simpa only [hne, if_false] using hb')
    ids := fun i n => by
      simp only [upd_apply]
      split
      · rintro ⟨y, hy, rows, nl, he⟩
        exact absurd he (hn y hy rows nl n)
      · exact h1.ids i n
    mem := h1.mem
    bel := h1.bel
    rel := h1.rel
    box := fun i g cs' hcs => by
      simp only [upd_apply] at hcs
      split at hcs
      · rename_i he
        cases hcs
        subst he
        refine ⟨w.heap.size, vs, by simp [Gh.addBox], .inl h.bel.size, by simp [Gh.addBox], ⟨⟨ty, hnew⟩, hp.1, hp.2.1, fun j x v hx hv => hp.2.2 j x v hx hv, hSn⟩, ?_⟩
        intro j x v hx hv rows nl n he' ha
        exact absurd he' (hn x (List.mem_of_getElem? hx) rows nl n)
      · obtain ⟨b, vs', q1, q2, q3, q4, q5⟩ := h1.box i g cs' hcs
        exact ⟨b, vs', q1, q2, q3, q4, q5⟩
    row := h1.row
    obj := h1.obj
    zB := h1.zB
    zal := h1.zal
    live := h1.live
    pro := h1.pro
    bm := h1.bm }
end
end Go.Proofs.V

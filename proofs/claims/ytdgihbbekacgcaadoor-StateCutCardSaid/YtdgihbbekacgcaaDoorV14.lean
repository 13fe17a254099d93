/- Append, carried out. -/
import Derived.Test.YtdgihbbekacgcaaDoorV13
namespace Go.Proofs.V
open Go Go.RowKit
set_option linter.unusedVariables false
set_option linter.unusedSimpArgs false

section
variable {E0 : Nat → Prop} {w0 : Ent} {Z : Nat → Prop} {G : Gh} {F : St} {a : Act} {w : World} {P : Program} {lab d : Nat}

/-- The operation, down to the builtin. -/
theorem append_op {o : Oper} {s x : Operand} {ts : Array TypeId} (ho : o.op = .call { callee := .builtin .append, args := #[s, x], argTypes := ts }) {r : Value} {w' : World}
    (h : (Builtin.append_ ts o.type #[a.eval s, a.eval x]).run P w = .ok r w') : (execOp a.eval o).run P w = .ok (.value r) w' := by
  simp [execOp, ho, resolve, invoke, builtin, Sem.run_bind, h]

/-- The builtin, where the room serves. -/
theorem append_room {ts : Array TypeId} {type t xt e : TypeId} {base : Option Addr} {len cap sz n : Nat} {xv : Value} {us : Array Value} {w' : World} (h0 : ts[0]? = some t) (h1 : ts[1]? = some xt) (he : P.underlying t = some (.slice e)) (hsz : tsz P e = some sz)
    (hxt : P.underlying xt = some .string ∨ ∃ e, P.underlying xt = some (.slice e)) (hlen : (Builtin.lenOf xv).run P w = .ok n w) (hcells : (Builtin.firstCells sz n xv).run P w = .ok us w) (hroom : len + n ≤ cap)
    (hst : ∀ a, base = some a → (storeCells (a.add (len * sz)) us.toList).run P w = .ok () w') (hnone : base = none → w' = w) :
    (Builtin.append_ ts type #[.slice base len cap, xv]).run P w = .ok (.slice base (len + n) cap) w' := by
  rcases hxt with hxt | ⟨e', hxt⟩ <;>
  · unfold Builtin.append_
    simp only [h0, h1, List.getElem?_toArray, List.getElem?_cons_zero, List.getElem?_cons_succ, Sem.run_bind, run_underlying he, Result.andThen_ok, run_tsz hsz]
    simp only [run_underlying hxt, Result.andThen_ok, Sem.run_pure, Sem.run_bind, Bool.false_eq_true, if_false, hlen]
    rw [if_pos hroom]
    simp only [Sem.run_bind, Bool.not_false, if_true, hcells, Result.andThen_ok]
    cases base with
    | none => rw [hnone rfl]; rfl
    | some ad => simp only [hst ad rfl, Result.andThen_ok, Sem.run_pure, Sem.run_bind]

theorem run_cap (need old : Nat) (e : TypeId) (w : World) : ∃ c, need ≤ c ∧ (choose (.appendCap need old e)).run P w = .ok c w.drew :=
  ⟨(Question.appendCap need old e).cut (w.tape w.drawn (.appendCap need old e)), Nat.le_add_right _ _, by rw [run_choose]; exact if_neg (by intro h; cases h)⟩

/-- The builtin, where it grows. -/
theorem append_grow {ts : Array TypeId} {type t xt e : TypeId} {base : Option Addr} {len cap sz by_ n : Nat} {xv : Value} {us0 us : Array Value} (h0 : ts[0]? = some t) (h1 : ts[1]? = some xt) (he : P.underlying t = some (.slice e)) (hsz : tsz P e = some sz) (hby : tby P e = some by_)
    (hxt : P.underlying xt = some .string ∨ ∃ e, P.underlying xt = some (.slice e)) (hlen : (Builtin.lenOf xv).run P w = .ok n w) (hcells : ∀ w' : World, w' = w.drew → (Builtin.firstCells sz n xv).run P w' = .ok us w') (hold : ∀ w' : World, w' = w.drew → (Builtin.firstCells sz len (.slice base len cap)).run P w' = .ok us0 w') (hroom : ¬ len + n ≤ cap)
    (hb : (len + n) * by_ ≤ 35184372088832) (hm : len + n ≤ 4611686018427387904) (hby0 : 0 < by_) {i : TypeInfo} {z : Value} (hi : P.info? e = some i) (hz : i.zero = some z) (hzl : z.cells.size = sz) :
    ∃ c rest, len + n ≤ c ∧ rest.size = (c - (len + n)) * sz ∧ (Builtin.append_ ts type #[.slice base len cap, xv]).run P w = .ok (.slice (some ⟨w.heap.size, 0, none⟩) (len + n) c) (w.drew.alloc (.cells (us0 ++ us ++ rest) e)) := by
  obtain ⟨c, hc, hrc⟩ := run_cap (P := P) (len + n) cap e w
  refine ⟨c, Builtin.zeroCells z.cells (c - (len + n)), hc, by simp [Builtin.zeroCells, hzl], ?_⟩
  obtain ⟨i', hi', hib⟩ : ∃ i', P.info? e = some i' ∧ i'.bytes = by_ := by unfold tby at hby; simpa [Option.map_eq_some_iff] using hby
  rw [hi] at hi'
  have := Option.some.inj hi'; subst this
  have hti : ∀ w : World, (typeInfo e).run P w = .ok i w := fun w => by simp [typeInfo, Sem.run_bind, hi]
  have hmax : IntKind.i64.max = 9223372036854775807 := by decide
  have hno : ¬ (((len + n : Nat) : Int) > IntKind.i64.max ∧ (false = true ∨ i.bytes = 0)) := by rintro ⟨_, h | h⟩ <;> simp_all
  have hcap : ¬ (Builtin.nextslicecap (len + n) cap * i.bytes > 2 ^ 48) := by
    have := next_le (len + n) cap (by omega)
    have h2 : Builtin.nextslicecap (len + n) cap * i.bytes ≤ 2 * (len + n) * by_ := by rw [hib]; exact Nat.mul_le_mul_right _ this
    have h3 : 2 * (len + n) * by_ = 2 * ((len + n) * by_) := by rw [Nat.mul_assoc]
    omega
  rcases hxt with hxt | ⟨e', hxt⟩ <;>
  · unfold Builtin.append_
    simp only [h0, h1, List.getElem?_toArray, List.getElem?_cons_zero, List.getElem?_cons_succ, Sem.run_bind, run_underlying he, Result.andThen_ok, run_tsz hsz]
    simp only [run_underlying hxt, Result.andThen_ok, Sem.run_pure, Sem.run_bind, Bool.false_eq_true, if_false, hlen]
    rw [if_neg hroom]
    simp only [Sem.run_bind, hti, Result.andThen_ok, false_or, Bool.false_eq_true, if_false]
    rw [if_neg (by simpa using hno)]
    simp only [Sem.run_bind, hti, Result.andThen_ok, Sem.run_pure]
    rw [if_neg hcap]
    simp only [Sem.run_bind, Sem.run_pure, hrc, Result.andThen_ok, hti, run_askRoom, hold _ rfl, Bool.not_false, if_true, hcells _ rfl, run_zero hi hz, newRow, run_newObj]
    rfl

theorem mem_drew {S : Addr → Option Value} (h : Mem S w) : Mem S w.drew := h

theorem tmp_slice {s : Operand} {rows : List (List AV)} {nl : Bool} {n : Nat} (hs : F.ev s = .slice rows nl (.id n)) (h : Inv E0 w0 Z G F a w) (ha : F.al n = true) : a.eval s = .slice (some ⟨(G.ρ n).b, 0, none⟩) rows.length (G.ρ n).cap ∧ nl = false ∧ rows.length = (G.ρ n).len ∧ ∀ r ∈ rows, r.length = (G.ρ n).sz := by
  have ho := opd h s
  rw [hs] at ho
  have hr : R1 G.S G.E (.slice rows nl (.id n)) (a.eval s) := ho.rv
  have hvp : vparts (a.eval s) = [a.eval s] := by
    generalize a.eval s = v at *
    cases hr <;> rfl
  exact ho.cl 0 _ _ rfl (by rw [hvp]; rfl) rows nl n rfl ha

/-- The base of an append: what is loaded of it. -/
theorem base_rows (hm : Mem G.S w) {rows : List (List AV)} {nl : Bool} {own : Own} {v : Value} {sz : Nat} (hr : R1 G.S G.E (.slice rows nl own) v) (hsz : ∀ r ∈ rows, r.length = sz) (hpos : 0 < sz) : ∃ base cap, v = .slice base rows.length cap ∧ rows.length ≤ cap ∧ (∃ us, (Builtin.firstCells sz rows.length v).run P w = .ok us w ∧ RW G sz rows us) := by
  cases hr with
  | nil => exact ⟨none, 0, rfl, Nat.le_refl _, #[], rfl, by simp, by simp, by intro i j x h; simp [cellAt] at h, by intro i j x h; simp [cellAt] at h⟩
  | slice _ _ b off cap sz' val hlen hall hfull hpl h1 h2 =>
    refine ⟨_, _, rfl, hlen, ?_⟩
    cases rows with
    | nil => exact ⟨#[], by simp [Builtin.firstCells, loadCells, loadCellsFrom], by simp, by simp, by intro i j x h; simp [cellAt] at h, by intro i j x h; simp [cellAt] at h⟩
    | cons r rs =>
      have hss : sz' = sz := by rw [← hall r (List.mem_cons_self ..), hsz r (List.mem_cons_self ..)]
      subst hss
      exact load_rows hm hsz hpos hpl h1 h2

/-- A new row whose first cells nobody writes any more, and that may be appended to. -/
theorem grown_new (h : Inv E0 w0 Z G F a w) (hz : ∀ n, Z1 lab n → ¬ Z n) (hd : d < F.n) {rows : List (List AV)} {sz c : Nat} {us rest : Array Value} {e : TypeId} {al' : Nat → Bool} (hRW : RW G sz rows us) (hne : 0 < rows.length) (hc : rows.length ≤ c) (hrest : rest.size = (c - rows.length) * sz)
    (hal : ∀ m, al' m = true → m = lab ∨ F.al m = true) : ∃ G', Inv E0 w0 (fun n => Z n ∨ Z1 lab n) G' { F with t := upd F.t d (.slice rows false (.id lab)), al := al' } (a.put (some d) (.slice (some ⟨w.heap.size, 0, none⟩) rows.length c)) (w.drew.alloc (.cells (us ++ rest) e)) := by
  let G' : Gh := { G with S := fun ad => if ad.block = w.heap.size ∧ ad.spot = none then us[ad.off]? else G.S ad, u := fun k => if k = w.heap.size then some (.row lab) else G.u k, ρ := fun m => if m = lab then ⟨w.heap.size, rows.length, c, sz⟩ else G.ρ m }
  have hnew : (w.drew.alloc (.cells (us ++ rest) e)).heap[w.heap.size]? = some (.cells (us ++ rest) e (0, 0)) := by
    show (w.heap.push _)[w.heap.size]? = _
    simp
  have hS : ∀ ad v, G.S ad = some v → G'.S ad = some v := fun ad v hv => by
    have := h.mem.lt hv
    simp only [G']
    rw [if_neg (by rintro ⟨h1, _⟩; omega)]
    exact hv
  have hρl : G'.ρ lab = ⟨w.heap.size, rows.length, c, sz⟩ := by simp [G']
  have hus : us.size = rows.length * sz := hRW.1
  refine ⟨G', inv_grown (G' := G') (b := w.heap.size) h hz hd hS ?_ rfl rfl ?_ h.bel.size (fun m hm => by simp only [G']; rw [if_neg hm]) (fun k hk _ => Below.heap_alloc w.drew _ k hk) (fun ad h1 h2 h3 => by simp only [G']; rw [if_neg (by rintro ⟨q, _⟩; exact h2 q)]; exact h3) (fun k hk => by simp only [G']; rw [if_neg hk]) (by simp [G']) (fun m hm => ?_) (.inl (Nat.le_refl _)) ?_ (fun k hk => ?_) ?_ ?_⟩
  · intro ad v hv
    simp only [G'] at hv
    split at hv
    · rename_i hb
      obtain ⟨b, o, s⟩ := ad
      obtain ⟨rfl, rfl⟩ := hb
      have hlt : o < us.size := (Array.getElem?_eq_some_iff.1 hv).1
      simp only [World.cell?, hnew]
      simp only [Option.isSome_none, Bool.false_eq_true, if_false]
      rw [Array.getElem?_append_left hlt]; exact hv
    · have := h.mem.lt hv
      rw [World.cell?_of_block (w := w) (Below.heap_alloc w.drew _ _ this)]
      exact h.mem ad v hv
  · exact h.bel.trans ⟨rfl, rfl, rfl, by simp, fun k hk _ => Below.heap_alloc w.drew _ k hk⟩
  · rcases hal m hm with h1 | h1
    · exact .inl h1
    · refine .inr ⟨h1, fun hb => ?_⟩
      obtain ⟨_, q2, _⟩ := h.row m h1
      have := h.live _ (by rw [q2]; rfl)
      omega
  · rw [hρl]
    refine ⟨h.bel.size, by simp [G'], ⟨us ++ rest, e, hnew, ?_⟩, ⟨hne, hc⟩, fun o ho => ?_⟩
    · simp only [Array.size_append, hus, hrest]
      rw [← Nat.add_mul]; congr 1; omega
    · simp only [G', and_self, if_true]
      exact Array.getElem?_eq_none (by rw [hus]; exact ho)
  · simp only [G'] at hk
    simp
    split at hk
    · omega
    · have := h.live k hk; omega
  · refine R1.slice rows (.id lab) w.heap.size 0 c sz (fun i j => us.getD (i * sz + j) Go.undef) hc hRW.2.1 (by intro h; cases h) hRW.2.2.1 (fun i j x hx => ?_) (fun i j x hx => ?_)
    · obtain ⟨v, e1, e2⟩ := hRW.2.2.2 i j x hx
      have hlt : i * sz + j < us.size := (Array.getElem?_eq_some_iff.1 e1).1
      simp [G', Array.getD, hlt]
    · obtain ⟨v, e1, e2⟩ := hRW.2.2.2 i j x hx
      have hlt : i * sz + j < us.size := (Array.getElem?_eq_some_iff.1 e1).1
      have : us.getD (i * sz + j) Go.undef = v := by
        rw [Array.getElem?_eq_getElem hlt] at e1
        simp [Array.getD, hlt]; exact Option.some.inj e1
      rw [this]
      exact R1.mono hS (fun l b h => h) e2
  · rw [hρl]
    exact ⟨rfl, rfl, hRW.2.1⟩
end
end Go.Proofs.V

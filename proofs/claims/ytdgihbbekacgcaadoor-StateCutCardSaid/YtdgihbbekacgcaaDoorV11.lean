/- The quiet operations: all of them together. -/
import Derived.Test.YtdgihbbekacgcaaDoorV10
namespace Go.Proofs.V
open Go Go.RowKit
set_option linter.unusedVariables false
set_option linter.unusedSimpArgs false

section
variable {E0 : Nat → Prop} {w0 : Ent} {Z : Nat → Prop} {G : Gh} {F : St} {a : Act} {w : World} {P : Program} {lab : Nat} {d : Nat}

theorem grow_new (h : Inv E0 w0 Z G F a w) (vs : Array Value) {w' : World} (hsz : w'.heap.size = w.heap.size + 1) (hold : ∀ b, b < w.heap.size → w'.heap[b]? = w.heap[b]?) (hnew : ∀ o v, vs[o]? = some v → w'.cell? ⟨w.heap.size, o, none⟩ = some v)
    (hos : w'.os = w.os) (ht : w'.tape = w.tape) (hou : w'.output = w.output) : Grow (Z1 lab) G (G.addRow w.heap.size vs) w w' where
  S ad v hv := by
    have := h.mem.lt hv
    simp only [Gh.addRow]
    rw [if_neg (by rintro ⟨h1, _⟩; omega)]
    exact hv
  Snew ad hn hb := by
    simp only [Gh.addRow]
    rw [if_neg (by rintro ⟨h1, _⟩; omega)]
    exact hn
  mem ad v hv := by
    simp only [Gh.addRow] at hv
    split at hv
    · rename_i hb
      obtain ⟨b, o, s⟩ := ad
      obtain ⟨rfl, rfl⟩ := hb
      exact hnew o v hv
    · have := h.mem.lt hv
      rw [World.cell?_of_block (w := w) (hold _ this)]
      exact h.mem ad v hv
  B g b hb := hb
  Bnew g b h1 h2 := by rw [show (G.addRow w.heap.size vs).B g = G.B g from rfl, h1] at h2; cases h2
  E := rfl
  u b hb := rfl
  ulive b hb := by have := h.live b hb; omega
  ρ n hn := rfl
  heap := hold
  size := by omega
  os := hos
  tape := ht
  output := hou
theorem Yields.new (h : Inv E0 w0 Z G F a w) (hz : ∀ n, Z1 lab n → ¬ Z n) {d : Nat} (hd : d < F.n) {o : Oper} {x : AV} {v : Value} {vs : Array Value} {w' : World} (hrun : (execOp a.eval o).run P w = .ok (.value v) w') (hg : Grow (Z1 lab) G (G.addRow w.heap.size vs) w w')
    (hx : R1 (G.addRow w.heap.size vs).S G.E x v) (hn : NoId x) : Yields E0 w0 Z lab d G F a w P o x := by
  refine ⟨v, _, G.addRow w.heap.size vs, hrun, ?_⟩
  have h1 := h.grow hg (notZ1 hz)
  have ho : Opd (G.addRow w.heap.size vs) F (fun n => Z n ∨ Z1 lab n) x v := .of_noId hx hn
  exact h1.set hd ho.nb ho.rv ho.cl ho.ids

theorem bytes_RW (s : List UInt8) (arr : Array Value) (harr : ∀ (j : Nat) (b : UInt8), s[j]? = some b → arr[j]? = some (.int .u8 b.toNat)) (b : Nat) (cap : Nat) (hcap : s.length ≤ cap) :
    R1 (G.addRow b arr).S G.E (.slice (s.map rowOfByte) false .no) (.slice (some ⟨b, 0, none⟩) s.length cap) := by
  have hcell : ∀ i j x, cellAt (s.map rowOfByte) i j = some x → j = 0 ∧ ∃ c, s[i]? = some c ∧ x = .at (.int .u8 c.toNat) := by
    intro i j x hx
    unfold cellAt at hx
    obtain ⟨r, e1, e2⟩ := Option.bind_eq_some_iff.1 hx
    rw [List.getElem?_map] at e1
    simp only [Option.map_eq_some_iff] at e1
    obtain ⟨c, hc, rfl⟩ := e1
    unfold rowOfByte at e2
    cases j with
    | zero => simp at e2; exact ⟨rfl, c, hc, e2.symm⟩
    | succ j => simp at e2
  have := R1.slice (S := (G.addRow b arr).S) (E := G.E) (s.map rowOfByte) .no b 0 cap 1 (fun i j => match s[i]? with | some c => .int .u8 c.toNat | none => Go.undef) (by simpa using hcap)
    (fun r hr => by obtain ⟨c, _, rfl⟩ := List.mem_map.1 hr; rfl) (by intro h; cases h)
    (fun i j x hx => by obtain ⟨_, c, _, rfl⟩ := hcell i j x hx; rfl)
    (fun i j x hx => by
      obtain ⟨rfl, c, hc, rfl⟩ := hcell i j x hx
      simp only [Gh.addRow, Nat.zero_add, Nat.mul_one, Nat.add_zero, true_and, if_true, hc]
      exact harr i c hc)
    (fun i j x hx => by
      obtain ⟨rfl, c, hc, rfl⟩ := hcell i j x hx
      simp only [hc]
      exact .at _)
  simpa using this

theorem q_strBytes (h : Inv E0 w0 Z G F a w) (hz : ∀ n, Z1 lab n → ¬ Z n) (hd : d < F.n) {o : Oper} {s t e : TypeId} {x : Operand} (ho : o.op = .convert s t x) (he : tel P t = some e) (hst : isStr P s = true) (hu8 : isU8 P e = true) {b : ByteArray} (hx : F.ev x = .at (.string b)) :
    Yields E0 w0 Z lab d G F a w P o (.slice (b.data.toList.map rowOfByte) false .no) := by
  have hxr := (opd h x).rv
  rw [hx] at hxr
  have hxr : R1 G.S G.E (.at (.string b)) (a.eval x) := hxr
  generalize hv : a.eval x = v at *
  cases hxr
  obtain ⟨cap, hcap, hc⟩ : ∃ cap, b.size ≤ cap ∧ (choose (.appendCap b.size 0 e)).run P w = .ok cap w.drew :=
    ⟨(Question.appendCap b.size 0 e).cut (w.tape w.drawn (.appendCap b.size 0 e)), Nat.le_add_right _ _, by rw [run_choose]; exact if_neg (by intro h; cases h)⟩
  obtain ⟨arr, harrd⟩ : ∃ arr : Array Value, arr = (b.data.map fun c => Value.int .u8 c.toNat) ++ Array.replicate (cap - b.size) (.int .u8 0) := ⟨_, rfl⟩
  have hbs : b.data.size = b.size := rfl
  obtain ⟨W, hW⟩ : ∃ W : World, W = (w.drew.alloc (.cells arr e)).freeze ⟨w.heap.size, arr.size, none⟩ 1 := ⟨_, rfl⟩
  have hheap : W.heap = (w.heap.push (.cells arr e)).modify w.heap.size fun
      | .cells c elem (lo, hi) => .cells c elem (if lo == hi then (arr.size, arr.size + 1) else (min lo arr.size, max hi (arr.size + 1)))
      | o => o := by rw [hW]; unfold World.freeze; rw [if_neg (by decide)]; rfl
  have hrun : (execOp a.eval o).run P w = .ok (.value (.slice (some ⟨w.heap.size, 0, none⟩) b.size cap)) W := by
    have hpat : (convert s t (.string b)).run P w = (Conv.stringToBytes e b).run P w := by
      simp [convert, Sem.run_bind, run_underlying (isStr_und hst), run_underlying (tel_und he), run_underlying (isU8_und hu8)]
    simp only [execOp, ho, hv, Sem.run_bind, hpat]
    have hshape : (w.drew.alloc (.cells arr e)).shape? w.heap.size = some (e, arr.size) := by
      show (match (w.heap.push (Obj.cells arr e))[w.heap.size]? with | some (.cells c elem _) => some (elem, c.size) | _ => none) = _
      simp
    have : (Conv.stringToBytes e b).run P w = .ok (.slice (some ⟨w.heap.size, 0, none⟩) b.size cap) W := by
      simp only [Conv.stringToBytes, Sem.run_bind, hc, Result.andThen_ok, newRow, run_newObj, Sem.run_pure, markStringish, run_shape, ← harrd]
      show ((match (w.drew.alloc (.cells arr e)).shape? w.heap.size with
        | some (_, n) => freeze { block := w.heap.size, off := n } 1
        | _ => pure ()).run P (w.drew.alloc (.cells arr e))).andThen _ = _
      rw [hshape, hW, harrd]
      rfl
    rw [this]
    rfl
  have hold : ∀ k, k < w.heap.size → W.heap[k]? = w.heap[k]? := by
    intro k hk
    rw [hheap, Array.getElem?_modify, if_neg (by omega)]
    exact Below.heap_alloc w _ k hk
  have hnew : ∀ o v, arr[o]? = some v → W.cell? ⟨w.heap.size, o, none⟩ = some v := by
    intro o v hv
    have : (w.heap.push (.cells arr e))[w.heap.size]? = some (.cells arr e (0, 0)) := by simp
    simp only [World.cell?, hheap, Array.getElem?_modify, if_true, this, Option.map_some]
    simpa using hv
  have hg := grow_new (lab := lab) h arr (w' := W) (by rw [hheap]; simp) hold hnew (by rw [hW]; unfold World.freeze; rw [if_neg (by decide)]; rfl) (by rw [hW]; unfold World.freeze; rw [if_neg (by decide)]; rfl) (by rw [hW]; unfold World.freeze; rw [if_neg (by decide)]; rfl)
  have hlen : b.data.toList.length = b.size := (Array.length_toList (xs := b.data))
  refine Yields.new h hz hd hrun hg ?_ ?_
  · have := bytes_RW (G := G) b.data.toList arr (fun j c hc => by
      have hj : j < b.data.size := by
        have := (List.getElem?_eq_some_iff.1 hc).1
        simpa using this
      have hc' : b.data[j]? = some c := by simpa using hc
      rw [harrd]
      rw [Array.getElem?_append_left (by simpa using hj)]
      simp [hc']) w.heap.size cap (by rw [hlen]; exact hcap)
    rw [hlen] at this
    exact this
  · rintro n ⟨y, hy, rows, nl, rfl⟩; simp [parts] at hy

theorem q_conv (h : Inv E0 w0 Z G F a w) (hz : ∀ n, Z1 lab n → ¬ Z n) (hd : d < F.n) {o : Oper} {s t : TypeId} {x : Operand} (ho : o.op = .convert s t x) {r : AV} (hr : convA P s t (F.ev x) = some r) : Yields E0 w0 Z lab d G F a w P o r := by
  have hpr : ∀ u, (F.ev x).val = some u → ∀ r, (pr P (convert s t u)).map absV = some r → Yields E0 w0 Z lab d G F a w P o r := by
    intro u hu r hr
    simp only [Option.map_eq_some_iff] at hr
    obtain ⟨q, hq, rfl⟩ := hr
    have e1 := val_free hu (opd h x).nb (opd h x).rv
    exact q_pr h hd (s := convert s t u) (by simp only [execOp, ho, e1]) hq
  unfold convA at hr
  split at hr
  · rename_i rows nl own hx
    split at hr
    · rename_i e he hst
      split at hr
      · rename_i hu8
        simp only [Option.map_eq_some_iff] at hr
        obtain ⟨bs, hbs, rfl⟩ := hr
        exact q_bytesStr h hd ho he hst hu8 hx hbs
      · cases hr
    · cases hr
  · rename_i b hx
    split at hr
    · rename_i e he
      split at hr
      · rename_i hc
        simp only [Bool.and_eq_true] at hc
        have := Option.some.inj hr; subst this
        exact q_strBytes h hz hd ho he hc.2 hc.1 hx
      · cases hr
    · exact hpr _ (by rw [hx]; rfl) r hr
  · split at hr
    · rename_i u hu
      exact hpr u hu r hr
    · cases hr

/-- **A quiet operation does what is reckoned.** -/
theorem quiet_sound (h : Inv E0 w0 Z G F a w) (hz : ∀ n, Z1 lab n → ¬ Z n) (hd : d < F.n) {o : Oper} {ds : List Nat} {x : AV} (hq : quiet P F ds lab o.op = some x) : Yields E0 w0 Z lab d G F a w P o x := by
  generalize ho : o.op = op at hq
  cases op <;> simp only [quiet] at hq <;> first | (cases hq; done) | skip
  case move y => have := Option.some.inj hq; subst this; exact q_move h hd (.inl ho)
  case assign y => have := Option.some.inj hq; subst this; exact q_move h hd (.inr ho)
  case pick c y z =>
    split at hq
    · rename_i t ht
      have := Option.some.inj hq; subst this
      exact q_pick h hd ho ht
    · cases hq
  case alloc e =>
    simp only [Option.map_eq_some_iff] at hq
    obtain ⟨cs, hc, rfl⟩ := hq
    exact q_alloc h hz hd ho hc
  case box e y =>
    split at hq
    · rename_i hs
      have := Option.some.inj hq; subst this
      exact q_box h hz hd ho hs
    · cases hq
  case build t ps =>
    split at hq
    · rename_i cs place h1 h2
      simp only [Option.map_eq_some_iff] at hq
      obtain ⟨r, hr, rfl⟩ := hq
      exact q_build h hd ho h1 h2 hr
    · cases hq
  case buildSlice t len ps =>
    split at hq
    · rename_i e he
      split at hq
      · rename_i z sz h1 h2
        split at hq
        · rename_i hc
          simp only [Option.map_eq_some_iff] at hq
          obtain ⟨rows, hr, rfl⟩ := hq
          exact q_buildSlice h hz hd ho he h1 h2 hc hr
        · cases hq
      · cases hq
    · cases hq
  case makeSlice t y z =>
    split at hq
    · rename_i e n k he hn hk
      split at hq
      · rename_i zc sz by_ h1 h2 h3
        split at hq
        · rename_i hc
          obtain ⟨rfl, c1, c2, c3, c4, c5⟩ := hc
          have := Option.some.inj hq; subst this
          exact q_makeSlice h hz hd ho he hn hk h1 h2 h3 c1 c2 c3 c4 c5
        · cases hq
      · cases hq
    · cases hq
  case load t p =>
    split at hq
    · rename_i row off n g h1 h2 h3
      simp only [Option.map_eq_some_iff] at hq
      obtain ⟨r, hr, rfl⟩ := hq
      exact q_load h hd ho h1 h2 h3 hr
    · cases hq
  case nilCheck y =>
    split at hq
    · rename_i row off hy
      have := Option.some.inj hq; subst this
      rw [← hy]
      exact q_nil h hd ho ⟨0, _, by rw [hy]; rfl⟩
    · rename_i g t off hy
      have := Option.some.inj hq; subst this
      rw [← hy]
      exact q_nil h hd ho ⟨0, _, by rw [hy]; rfl⟩
    · rename_i l off hy
      have := Option.some.inj hq; subst this
      rw [← hy]
      exact q_nil h hd ho ⟨0, _, by rw [hy]; rfl⟩
    · cases hq
  case binOp op xt y z yt =>
    split at hq
    · rename_i v hv
      have := Option.some.inj hq; subst this
      exact q_nilEq h hd ho hv
    · exact q_bin h hd ho hq
  case unOp op xt y =>
    split at hq
    · rename_i u hu
      simp only [Option.map_eq_some_iff] at hq
      obtain ⟨r, hr, rfl⟩ := hq
      exact q_un h hd ho hu hr
    · cases hq
  case convert s t y => exact q_conv h hz hd ho hq
  case slice t y lo hi mx => exact q_slice h hd ho hq
  case fieldAddr t y i => exact q_fieldAddr h hd ho hq
  case field t y i => exact q_field h hd ho hq
  case indexAddr t y i => exact q_indexAddr h hd ho hq
  case index t y i => exact q_index h hd ho hq
  case extract y i =>
    split at hq
    · rename_i vs hy
      simp only [Option.map_eq_some_iff] at hq
      obtain ⟨z, hz', rfl⟩ := hq
      exact q_extract h hd ho hy hz'
    · cases hq
end
end Go.Proofs.V

/- Results that do not lie where the caller will write. -/
import Derived.Test.YtdgihbbekacgcaaGreatDoorK39
namespace Go.Proofs.W.C
open Go Go.Proofs Go.Proofs.V Go.Proofs.W Go.RowKit
set_option linter.unusedVariables false
set_option linter.unusedSimpArgs false
set_option maxRecDepth 100000
/-- Cells, but for those between N and M, and behind T. -/
def mk (N M T : Nat) (w : World) : Addr → Option Value := fun ad => if (N ≤ ad.block ∧ ad.block < M) ∨ T ≤ ad.block then none else w.cell? ad
def SlM (N M T : Nat) (r : RT) (w : World) (v : Value) (l : List (Tr r)) : Prop := ∃ nl, (nl = true → l = []) ∧ R1 (mk N M T w) noE (.slice (l.map (encR r)) nl .no) v
theorem SlM.sl {N M T : Nat} {r : RT} {w : World} {v : Value} {l : List (Tr r)} (h : SlM N M T r w v l) : SlR r w v l := by
  obtain ⟨nl, h1, h2⟩ := h
  refine ⟨nl, h1, h2.mono (fun a u hu => ?_) (fun l b h => h)⟩
  unfold mk at hu
  split at hu
  · cases hu
  · exact hu
theorem SlM.below {N M T : Nat} {r : RT} {w w' : World} {v : Value} {l : List (Tr r)} (h : SlM N M T r w v l) (hb : Below w.heap.size w w') : SlM N M T r w' v l := by
  obtain ⟨nl, h1, h2⟩ := h
  refine ⟨nl, h1, h2.mono (fun a u hu => ?_) (fun l b h => h)⟩
  unfold mk at hu ⊢
  split at hu
  · cases hu
  · rename_i hc
    rw [if_neg hc]
    exact (hb.cell (World.block_lt_of_cell? w a hu)).trans hu
theorem SlM.set {N M T : Nat} {r : RT} {w : World} {v : Value} {l : List (Tr r)} (h : SlM N M T r w v l) (a : Addr) (u : Value) (ha : (N ≤ a.block ∧ a.block < M) ∨ T ≤ a.block) : SlM N M T r (w.setCell a u) v l := by
  obtain ⟨nl, h1, h2⟩ := h
  refine ⟨nl, h1, h2.mono (fun ad x hu => ?_) (fun l b h => h)⟩
  unfold mk at hu ⊢
  split at hu
  · cases hu
  · rename_i hc
    rw [if_neg hc]
    have hne : ad.block ≠ a.block := fun e => hc (by rw [e]; exact ha)
    exact (World.cell?_of_block (w := w) (Below.heap_setCell w a u ad.block hne)).trans hu
section
variable {cfg : Cfg} {n : Nat} {a rs : List SV} {F : Tl (dynL a) → Option (Tl (dynL rs))} {x : Tl (dynL a)} {y : Tl (dynL rs)} {w w0 : World} {vs : List Value} {fn : Func} {c : Code}
end
section
variable {cfg : Cfg} {n : Nat} {a : List SV} {x : Tl (dynL a)} {w w0 : World} {vs : List Value} {fn : Func} {c : Code}
end
end Go.Proofs.W.C
namespace Go.Proofs.W.C
open Go Go.Proofs Go.Proofs.V Go.Proofs.W Go.RowKit
set_option linter.unusedVariables false
set_option linter.unusedSimpArgs false
set_option maxRecDepth 100000
/-- A pointer to a block that holds a value's cells. -/
theorem ref_of {w : World} {b : Nat} {A : Array Value} {ty : TypeId} {f : Nat × Nat} (hb : w.heap[b]? = some (.cells A ty f)) {cs : List AV} (h : R1 (cellsOf w) noE (.agg cs) (.agg A)) : R1 (cellsOf w) noE (.ref cs 0) (.pointer (some ⟨b, 0, none⟩)) := by
  obtain ⟨l⟩ := A
  cases h with
  | agg _ vs hl hpl h =>
    refine R1.ref cs 0 b 0 (fun j => l.getD j default) hpl (fun j x hx => ?_) (fun j x hx => ?_)
    · have hj := (List.getElem?_eq_some_iff.1 hx).1
      show w.cell? ⟨b, 0 + j, none⟩ = _
      rw [Nat.zero_add, row_at hb j]
      simp [List.getD, show j < l.length by omega]
    · have hj := (List.getElem?_eq_some_iff.1 hx).1
      exact h j x _ hx (by simp [List.getD, show j < l.length by omega])
/-- A function's plain program at a call, where it tells a truth value. -/
theorem callB {cfg : Cfg} {n : Nat} {a : List SV} {F : Tl (dynL a) → Option (Tl (dynL [.c .bool]))} (hs : FSound cfg ⟨⟨n, a, [.c .bool]⟩, F⟩) {x : Tl (dynL a)} {b : Bool} (hF : F x = some b) {xs : List AV} (ha : ArgR a x xs) : callQ cfg (evK cfg) n xs = some (BO b) := by
  obtain ⟨rv, h1, ws, vs, h2, rfl, h3⟩ := hs x b hF xs ha
  rw [h1]
  have h2' : ws = [.bool false b] := by
    have : some ([WV.bool false b], ([] : List WV)) = some (ws, []) := h2
    cases this; rfl
  subst h2'
  rcases vs with _ | ⟨a1, _ | ⟨_, _⟩⟩ <;> first | exact h3.elim | exact h3.2.elim | skip
  have := h3.1.1
  cases this
  rfl
theorem callS {cfg : Cfg} {n : Nat} {a : List SV} {F : Tl (dynL a) → Option (Tl (dynL [.c .str]))} (hs : FSound cfg ⟨⟨n, a, [.c .str]⟩, F⟩) {x : Tl (dynL a)} {b : List UInt8} (hF : F x = some b) {xs : List AV} (ha : ArgR a x xs) : callQ cfg (evK cfg) n xs = some (ST b) := by
  obtain ⟨rv, h1, ws, vs, h2, rfl, h3⟩ := hs x b hF xs ha
  rw [h1]
  have h2' : ws = [.str false b] := by
    have : some ([WV.str false b], ([] : List WV)) = some (ws, []) := h2
    cases this; rfl
  subst h2'
  rcases vs with _ | ⟨a1, _ | ⟨_, _⟩⟩ <;> first | exact h3.elim | exact h3.2.elim | skip
  have := h3.1.1
  cases this
  rfl
end Go.Proofs.W.C
namespace Go.Proofs.V
open Go Go.RowKit
set_option linter.unusedVariables false
set_option linter.unusedSimpArgs false
def SameS (D : Nat → Bool) (a a' : Act) : Prop := a'.tmps.size = a.tmps.size ∧ ∀ i, D i = false → a'.tmps.getD i Go.undef = a.tmps.getD i Go.undef
theorem sameS_put {D : Nat → Bool} {a0 a : Act} (h : SameS D a0 a) {d : Option Nat} (hd : ∀ e, d = some e → D e = true) (v : Value) : SameS D a0 (a.put d v) := by
  cases d with
  | none => exact h
  | some e =>
    refine ⟨by simpa [Act.put] using h.1, fun i hi => ?_⟩
    rw [← h.2 i hi]
    have hne : i ≠ e := by rintro rfl; rw [hd _ rfl] at hi; cases hi
    simp only [Act.put, Array.getD_eq_getD_getElem?]
    rw [Array.getElem?_setIfInBounds]
    rw [if_neg (fun h => hne h.symm)]
theorem op_keep {Fc : Fence} {n : Nat} {P : Program} {o : Oper} {a : Act} {w : World} {K K' : Act → World → Prop} {Q Q' : Exit → Act → World → Prop} {D : Nat → Bool} {a0 : Act} (ha : SameS D a0 a) (hd : ∀ e, o.dst = some e → D e = true) (hK : ∀ a' w', SameS D a0 a' → K a' w' → K' a' w') (hP : ∀ e a' w', e ≠ .normal → Q e a' w' → Q' e a' w') (h : o.wpIn Fc n P a w K Q) : o.wpIn Fc n P a w K' Q' := by
  unfold Oper.wpIn at *
  refine ⟨h.1, ?_⟩
  have h := h.2
  generalize (o.semAt Fc.round a.eval).run P w = r at *
  have lo : LetsOut Q → LetsOut Q' := fun ⟨a, w, h⟩ => ⟨a, w, hP _ _ _ (by simp) h⟩
  cases r with
  | ok x w' =>
    cases x <;> simp only [Oper.uponIn] at h ⊢ <;>
      first
        | exact hK _ _ (sameS_put ha hd _) h
        | (refine hK _ _ ?_ h; have ha' : ∀ l, SameS D a0 { tmps := a.tmps, defers := l } := fun l => ⟨ha.1, ha.2⟩; exact sameS_put (ha' _) hd _)
        | exact ⟨h.1, CallsIn.mono h.2 (fun e w'' he => by cases e <;> first | exact hK _ _ (sameS_put ha hd _) he | exact hP _ _ _ (by simp) he | exact lo he)⟩
        | exact ⟨h.1, RowsIn.mono h.2 (fun _ _ he => hK _ _ (sameS_put ha hd _) he)⟩
        | exact ⟨h.1, RoundIn.mono h.2 (fun e w'' he => by cases e <;> first | exact hK _ _ (sameS_put ha hd _) he | exact hP _ _ _ (by simp) he | exact lo he)⟩
  | halt x w' => cases x <;> simp only [Oper.uponIn] at h ⊢ <;> first | exact hP _ _ _ (by simp) h | exact lo h | exact h
theorem any_keep {Fc : Fence} {n : Nat} {P : Program} {md : Region.Mode} {ops : Array Oper} {Q Q' : Exit → Act → World → Prop} {D : Nat → Bool} {a0 : Act} (hD : ∀ o ∈ ops, ∀ e, o.dst = some e → D e = true) (hQ : ∀ a' w', SameS D a0 a' → Q .normal a' w' → Q' .normal a' w') (hP : ∀ e a' w', e ≠ .normal → Q e a' w' → Q' e a' w') :
    ∀ (fuel : Nat) (listed : Array Bool) (a : Act) (w : World), SameS D a0 a → wpAnyIn Fc n P md ops Q fuel listed a w → wpAnyIn Fc n P md ops Q' fuel listed a w := by
  intro fuel
  induction fuel with
  | zero => exact fun listed a w ha h => ⟨h.1, hQ _ _ ha h.2⟩
  | succ fuel ih =>
    intro listed a w ha h
    refine ⟨fun h0 => hQ _ _ ha (h.1 h0), fun i hi => ?_⟩
    have h1 := h.2 i hi
    unfold wpOpIn at *
    cases ho : ops[i]? with
    | none => simp only [ho] at h1 ⊢; exact ih _ _ _ ha h1
    | some o =>
      simp only [ho] at h1 ⊢
      have hd := hD o (Array.mem_of_getElem? ho)
      by_cases hw : Region.wanted o (yielded ops a.tmps) = true
      · simp only [hw, if_true] at h1 ⊢
        exact op_keep ha hd (fun a' w' hs hk => ih _ _ _ hs hk) hP h1
      · simp only [hw] at h1 ⊢
        exact ⟨h1.1, ih _ _ _ (sameS_put ha hd _) h1.2⟩
section
variable {E0 : Nat → Prop} {w0 : Ent}
theorem region_soundK {ro : Option Nat} {cfg : Cfg} {K : KF} (hs : Sound cfg K) (hmix : cfg.P.follows .mixedOrders = true) {id : Nat} {ops : Array Oper} {n : Nat} {Q : Exit → Act → World → Prop} {Z : Nat → Prop} {G : Gh} {F F1 : St} {a : Act} {w : World} {D : Nat → Bool} (hD : ∀ o ∈ ops, ∀ e, o.dst = some e → D e = true)
    (h : Inv E0 w0 Z G F a w) (hz : ∀ m, Z m → m < F.c) (hok : codeOk (.region id ops true) = true) (hr : opsRun cfg K true (dsOf cfg ops true) ops ops.toList F.c F = some F1) (fin : ∀ G' a' w', SameS D a a' → Inv E0 w0 (fun m => m < F.c + 64 * ops.size) G' F1 a' w' → Q .normal a' w') :
    (Code.region id ops true).wpIn (Fx ro) n cfg.P Q a w := by
  simp only [codeOk, Bool.and_eq_true, List.all_eq_true] at hok
  have hdst : ∀ o ∈ ops, dstOk o := fun o ho => by
    have := hok.1 o (by simpa using ho)
    simpa [dstOk] using this
  refine wpIn_region_any hmix ?_
  have hok2 : drawOk ops = true ∧ ∀ o ∈ ops.toList, (o.dst != some SP) = true := by
    have := hok.2
    simp only [Bool.not_true, Bool.false_or, Bool.and_eq_true, List.all_eq_true] at this
    exact this
  have hdraw : drawOk ops = true := hok2.1
  have hsp : ∀ o ∈ ops, o.dst ≠ some SP := fun o ho => by
    have := hok2.2 o (by simpa using ho)
    simpa using this
  have hhv : blind (dsOf cfg ops true) = true → heavyOk cfg ops = true := by
    intro hb
    unfold dsOf at hb
    rw [if_pos rfl] at hb
    split at hb
    · rename_i h
      rw [Bool.and_eq_true] at h
      exact h.2
    · exfalso
      unfold blind at hb
      simp only [List.contains_eq_mem, decide_eq_true_eq, List.mem_append, List.mem_filterMap] at hb
      rcases hb with hb | hb
      rotate_left
      · exact loose_SP ops hb
      obtain ⟨o, ho, he⟩ := hb
      have hs' := hsp o (by simpa using ho)
      exact hs' he
  have hlo : ∀ e, (loose ops).contains e = true → (dsOf cfg ops true).contains e = true := by
    intro e he
    simp only [List.contains_eq_mem, decide_eq_true_eq] at he ⊢
    unfold dsOf
    rw [if_pos rfl]
    split
    · exact List.mem_cons_of_mem _ (List.mem_append_right _ he)
    · exact List.mem_append_right _ he
  have e := opsRun_runL (cfg := cfg) (K := K) (ops := ops) (ds := dsOf cfg ops true) (c := F.c) ops.toList 0 F
  rw [show F.c + 64 * 0 = F.c from rfl, hr] at e
  have hlen : ((List.range' 0 ops.toList.length).zip ops.toList).length = ops.size := by simp
  rw [← hlen]
  have hget : ∀ (i : Nat) (o : Oper), (i, o) ∈ (List.range' 0 ops.toList.length).zip ops.toList ↔ ops[i]? = some o := by
    intro i o
    constructor
    · intro hm
      obtain ⟨k, hk⟩ := List.getElem?_of_mem hm
      rw [List.getElem?_zip_eq_some] at hk
      obtain ⟨k1, k2⟩ := hk
      rw [List.getElem?_range'] at k1
      · simp at k1; subst k1; simpa using k2
      · have := (List.getElem?_eq_some_iff.1 k2).1
        simpa using this
    · intro ho
      have hlt : i < ops.size := (Array.getElem?_eq_some_iff.1 ho).1
      refine List.mem_of_getElem? (i := i) ?_
      rw [List.getElem?_zip_eq_some]
      refine ⟨?_, by simpa using ho⟩
      rw [List.getElem?_range' (by simpa using hlt)]
      simp
  refine any_keep (Q := fun e a' w' => e = .normal ∧ ∃ G', Inv E0 w0 (fun m => m < F.c + 64 * ops.size) G' F1 a' w') hD (fun a' w' hs' ⟨_, G', h'⟩ => fin G' a' w' hs' h') (fun e a' w' hne h => absurd h.1 hne) _ _ _ _ ⟨rfl, fun _ _ => rfl⟩ ?_
  refine any_sound hs hdraw (ds := dsOf cfg ops true) hhv hlo (fun o ho e he => ?_) hdst (fun G' a' w' h' => ⟨rfl, G', h'⟩) _ _ (by simp) (fun i o => ?_) ?_ ?_ (inv_drawn h _) (fun m hm => ?_) (fun p hp m hm hm' => ?_) e.symm
  · have hm : e ∈ ops.toList.filterMap (·.dst) := List.mem_filterMap.2 ⟨o, by simpa using ho, he⟩
    simp only [List.contains_eq_mem, decide_eq_true_eq]
    unfold dsOf
    rw [if_pos rfl]
    split
    · exact List.mem_cons_of_mem _ (List.mem_append_left _ hm)
    · exact List.mem_append_left _ hm
  · rw [hget]
    constructor
    · intro ho
      have hlt : i < ops.size := (Array.getElem?_eq_some_iff.1 ho).1
      exact ⟨ho, by simp [hlt]⟩
    · exact fun h => h.1
  · rw [List.pairwise_iff_getElem]
    intro i j hi hj hij
    simp only [List.getElem_zip, List.getElem_range']
    omega
  · intro j o _ hl
    rw [Array.getD_eq_getD_getElem?, Array.getElem?_replicate] at hl
    split at hl <;> simp at hl
  · have := hz m hm; omega
  · have := hz m hm'
    simp only [Z1] at hm
    omega
end
end Go.Proofs.V
namespace Go.Proofs.W.C
open Go Go.Proofs Go.Proofs.V Go.Proofs.W Go.RowKit
set_option linter.unusedVariables false
set_option linter.unusedSimpArgs false
set_option maxRecDepth 100000
theorem segR {cfg : Cfg} (K : Ok cfg) {id : Nat} {ops : Array Oper} {F : St} {a : Act} {w : World} {Q : Exit → Act → World → Prop} (D : Nat → Bool) (hD : ops.toList.all (fun o => match o.dst with | some e => D e | none => true) = true) (hok : codeOk (.region id ops true) = true) (hH : F.H = []) (hal : F.al = fun _ => false) (hc : F.c = 0) (hn : a.tmps.size = F.n)
    (hR : ∀ i, R1 (cellsOf w) noE (F.t i) (a.tmps.getD i Go.undef)) (hni : ∀ i, NoId (F.t i))
    (h : Ow cfg true (dsOf cfg ops true) ops ops.toList F.c F fun F' => ∀ (a' : Act) (w' : World), SameS D a a' → a'.defers = a.defers → Below w.heap.size w w' → (∀ i v, F'.t i = .at v → a'.tmps.getD i Go.undef = v) → Q .normal a' w') : (Code.region id ops true).wp cfg.P Q a w := by
  obtain ⟨F', he, hq⟩ := h
  have h0 : Inv (fun _ => False) { toWorld := w, S0 := cellsOf w, Em := noE, dfr := a.defers } (fun m => m < F.c) { S := cellsOf w, B := fun _ => none, E := noE, u := fun _ => none, ρ := fun _ => ⟨0, 0, 0, 0⟩ } F a w := by
    refine ⟨hn, rfl, fun i => RV_of (hR i), fun i _ j y u hy hu rows nl m he ha => (by rw [hal] at ha; cases ha), fun i m hm => ((hni i) m hm).elim, mem_cellsOf w, Bel.refl _ _, ⟨fun _ _ h => h, fun _ h _ _ => h, fun _ _ h => h, fun l b h0 hb => (by cases hb), fun l b hb => (by cases hb)⟩, fun i g cs hc => ((hR i).nobox g cs hc).elim,
      fun m hm => (by rw [hal] at hm; cases hm), fun l cs hl => (by rw [hH] at hl; simp at hl), fun g b hb => (by cases hb), fun m hm => (by rw [hal] at hm; cases hm), fun b hb => (by cases hb), fun b o hb => (by cases hb), fun g b hb => (by cases hb)⟩
  have key := region_soundK (ro := none) (n := 0) (Q := Q) ⟨fun g xs H r H' h => evK_sound K.mixed K.ext h, K.ext⟩ K.mixed (D := D) (fun o ho e he => by
    have := List.all_eq_true.1 hD o (by simpa using ho)
    rw [he] at this
    exact this) h0 (fun m hm => hm) hok he fun G' a' w' hs h' => hq a' w' hs h'.df h'.bel.below (fun i v hv => by
    have := h'.slot i
    rw [hv] at this
    have h1 : R1 G'.S G'.E (.at v) (a'.tmps.getD i Go.undef) := this
    generalize a'.tmps.getD i Go.undef = u at h1 ⊢
    cases h1
    rfl)
  exact wpIn_wide.1 key
end Go.Proofs.W.C

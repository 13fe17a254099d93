/- Arguments of the laws, read. -/
import Derived.Test.YtdgihbbekacgcaaDoorT18
import Derived.Test.YtdgihbbekacgcaaDoorV23
import Derived.ChangeArms
import Derived.DataReads
namespace Go.Proofs.V
open Go Go.Proofs Go.Proofs.V.Wire
set_option linter.unusedVariables false
set_option linter.unusedSimpArgs false
set_option maxRecDepth 100000
theorem cons_of {α : Type} {l : List α} {n : Nat} (h : l.length = n + 1) : ∃ a l', l = a :: l' ∧ l'.length = n := by
  cases l with
  | nil => cases h
  | cons a l' => exact ⟨a, l', rfl, by simpa using h⟩
theorem nil_of {α : Type} {l : List α} (h : l.length = 0) : l = [] := List.eq_nil_of_length_eq_zero h
/-- A slice of which it does not matter whether it is nil. -/
def Sem {α : Type} (l : List α) (nl : Bool) (o : Own) : Prop := (l = [] ∧ OkO o) ∨ (nl = false ∧ o = .no)
theorem Sem.ok {α : Type} {l : List α} {nl : Bool} {o : Own} (h : Sem l nl o) : OkO o := by
  rcases h with ⟨_, h⟩ | ⟨_, h⟩
  · exact h
  · exact .inl h
theorem sem_no {α : Type} {l : List α} {nl : Bool} (h : l = [] ∨ nl = false) : Sem l nl .no := by
  rcases h with h | h
  · exact .inl ⟨h, .inl rfl⟩
  · exact .inr ⟨h, rfl⟩
structure SemZ (s : Stt) (z : Nl) : Prop where
  tree : Sem s.2.1 z.tree z.treeO
  arch : Sem s.2.2.1 z.arch z.archO
  own : Sem s.2.2.2.2.1 z.own z.ownO
  shown : Sem s.2.2.2.2.2.1 z.shown z.shownO
  theirs : Sem s.2.2.2.2.2.2.2.2.1 z.theirs z.theirsO
  conf : Sem s.2.2.2.2.2.2.2.2.2.1 z.conf z.confO
  waits : Sem s.2.2.2.2.2.2.2.2.2.2.1 z.waits z.waitsO
theorem SemZ.ok {s : Stt} {z : Nl} (h : SemZ s z) : OkZ z := ⟨h.tree.ok, h.arch.ok, h.own.ok, h.shown.ok, h.theirs.ok, h.conf.ok, h.waits.ok⟩
theorem addr_none (b off k : Nat) : (⟨b, off, none⟩ : Addr).add k = ⟨b, off + k, none⟩ := by
  unfold Addr.add
  split
  · rename_i h; subst h; rfl
  · rfl
section
variable {H : Type} {enc : TypeId × Value → H} {W : World}
def cellsOfW (W : World) : Addr → Option Value := fun a => W.cell? a
theorem mem_cells (W : World) : Mem (cellsOfW W) W := fun ad v h => h
theorem open_sl {P : Program} {α : Type} [Inhabited α] (row : α → List AV) {t e : TypeId} {sz fuel : Nat} {c : Value} {x : DataW H × List MemPlace} (ht : P.underlying t = some (.slice e)) (hc : P.cellsOf e = sz) (hsz : 0 < sz)
    (hel : ∀ (n : Nat) (cs : List Value) (x : DataW H × List MemPlace), DataW.trod enc P W 0 (fun _ => true) true n e cs = some x → ∃ a, row a = cs.map AV.at ∧ ∀ v ∈ cs, Value.one v = true)
    (hspot : ∀ a len cap, c = .slice (some a) len cap → a.spot = none) (h : DataW.trod enc P W 0 (fun _ => true) true fuel t [c] = some x) : ∃ (l : List α) (nl : Bool), (l = [] ∨ nl = false) ∧ R1 (cellsOfW W) noE (.slice (l.map row) nl .no) c := by
  rcases DataW.trod_slice ht h with ⟨hcs, _⟩ | ⟨a, len, cap, elems, rest, n, _, hcs, _, _, hl, _, hlen, hE, _, _⟩
  · simp only [List.cons.injEq, and_true] at hcs
    subst hcs
    exact ⟨[], true, .inl rfl, R1.nil _⟩
  · simp only [List.cons.injEq, and_true] at hcs
    have hsp := hspot a len cap hcs
    subst hcs
    obtain ⟨b, off, spot⟩ := a
    dsimp only at hsp
    subst hsp
    have hp : ∀ i, ∃ p : α × List Value, i < len → (W.cells? 0 ((⟨b, off, none⟩ : Addr).add (i * sz)) sz = some p.2 ∧ row p.1 = p.2.map AV.at ∧ ∀ v ∈ p.2, Value.one v = true) := by
      intro i
      by_cases hi : i < len
      · have h1 := hE i hi
        rw [hc, List.getElem?_eq_getElem (by omega)] at h1
        obtain ⟨cs, h2, h3⟩ := Option.bind_eq_some_iff.1 h1
        obtain ⟨a, ha, hone⟩ := hel _ _ _ h3
        exact ⟨(a, cs), fun _ => ⟨h2, ha, hone⟩⟩
      · exact ⟨(default, []), fun h => absurd h hi⟩
    let f := fun i => Classical.choose (hp i)
    have hf : ∀ i, i < len → (W.cells? 0 ((⟨b, off, none⟩ : Addr).add (i * sz)) sz = some (f i).2 ∧ row (f i).1 = (f i).2.map AV.at ∧ ∀ v ∈ (f i).2, Value.one v = true) := fun i => Classical.choose_spec (hp i)
    refine ⟨(List.range len).map fun i => (f i).1, false, .inr rfl, ?_⟩
    have hrl : (((List.range len).map fun i => (f i).1).map row).length = len := by simp
    have key := R1.slice (S := cellsOfW W) (E := noE) (((List.range len).map fun i => (f i).1).map row) .no b off cap sz (fun i j => ((f i).2[j]?).getD default) (by rw [hrl]; exact hl)
      (by
        intro r hr
        simp only [List.map_map, List.mem_map, List.mem_range, Function.comp] at hr
        obtain ⟨i, hi, rfl⟩ := hr
        obtain ⟨h1, h2, _⟩ := hf i hi
        rw [h2, List.length_map]
        exact (World.cells?_some h1).2.1)
      (fun h => by cases h)
    have hcell : ∀ i j x, cellAt (((List.range len).map fun i => (f i).1).map row) i j = some x → i < len ∧ j < sz ∧ ∃ v, (f i).2[j]? = some v ∧ x = .at v ∧ Value.one v = true := by
      intro i j x hx
      unfold cellAt at hx
      obtain ⟨r, hr, hx⟩ := Option.bind_eq_some_iff.1 hx
      simp only [List.map_map, List.getElem?_map, Option.map_eq_some_iff, Function.comp] at hr
      obtain ⟨i', hi', rfl⟩ := hr
      obtain ⟨hi0, rfl⟩ := List.getElem?_eq_some_iff.1 hi'
      rw [List.getElem_range] at hx
      simp only [List.length_range] at hi0
      obtain ⟨h1, h2, h3⟩ := hf i hi0
      rw [h2, List.getElem?_map, Option.map_eq_some_iff] at hx
      obtain ⟨v, hv, rfl⟩ := hx
      have hjl := (List.getElem?_eq_some_iff.1 hv).1
      rw [(World.cells?_some h1).2.1] at hjl
      exact ⟨hi0, hjl, v, hv, rfl, h3 v (List.mem_of_getElem? hv)⟩
    have key2 := key
      (by
        intro i j x hx
        obtain ⟨_, _, v, _, rfl, hone⟩ := hcell i j x hx
        cases v <;> simp_all [AV.plain, Value.one])
      (by
        intro i j x hx
        obtain ⟨hi, hj, v, hv, rfl, _⟩ := hcell i j x hx
        have h1 := (World.cells?_some (hf i hi).1).2.2 j hj
        rw [addr_none, addr_none, Nat.add_assoc] at h1
        simp only [cellsOfW, h1, hv, Option.getD_some])
      (by
        intro i j x hx
        obtain ⟨hi, hj, v, hv, rfl, _⟩ := hcell i j x hx
        rw [hv]
        exact .at v)
    rw [hrl] at key2
    exact key2
abbrev Rd (enc : TypeId × Value → H) (W : World) (n : Nat) (t : TypeId) (cs : List Value) (x : DataW H × List MemPlace) : Prop := DataW.trod enc Tryd.prog W 0 (fun _ => true) true n t cs = some x
theorem elI {n : Nat} {cs : List Value} {x : DataW H × List MemPlace} (h : Rd enc W n 3 cs x) : ∃ a : Int, cs = [.int .i64 a] := by
  obtain ⟨a, rfl, _⟩ := DataW.trod_int Tryd.underlying3 h
  exact ⟨a, rfl⟩
theorem elS {n : Nat} {cs : List Value} {x : DataW H × List MemPlace} (h : Rd enc W n 9 cs x) : ∃ s : BS, cs = [.string ⟨⟨s⟩⟩] := by
  obtain ⟨s, rfl, _⟩ := DataW.trod_string Tryd.underlying9 h
  exact ⟨s.data.toList, rfl⟩
theorem elB {n : Nat} {cs : List Value} {x : DataW H × List MemPlace} (h : Rd enc W n 4 cs x) : ∃ b : Bool, cs = [.bool b] := by
  obtain ⟨b, rfl, _⟩ := DataW.trod_bool Tryd.underlying4 h
  exact ⟨b, rfl⟩
/-- A struct's fields. -/
theorem elF {t : TypeId} {fs : Array Field} (ht : Tryd.prog.underlying t = some (.struct fs)) {n : Nat} {cs : List Value} {x : DataW H × List MemPlace} (h : Rd enc W n t cs x) :
    cs.length = Tryd.prog.cellsOf t ∧ ∀ (i : Nat) (f : Field), fs[i]? = some f → ∃ m y, Rd enc W m f.type ((cs.drop f.offset).take (Tryd.prog.cellsOf f.type)) y := by
  obtain ⟨xs, m, _, _, hl, hx, hf⟩ := DataW.trod_struct ht h
  refine ⟨hl, fun i f hi => ?_⟩
  have h1 := hf i f hi
  have h2 : i < fs.size := (Array.getElem?_eq_some_iff.1 hi).1
  rw [List.getElem?_eq_getElem (by omega)] at h1
  exact ⟨m, _, h1⟩
theorem fld {fs : Array Field} {cs : List Value} (hf : ∀ (i : Nat) (f : Field), fs[i]? = some f → ∃ m y, Rd enc W m f.type ((cs.drop f.offset).take (Tryd.prog.cellsOf f.type)) y) (i : Nat) {f : Field} {t : TypeId} {k o : Nat} {cs' : List Value} (hi : fs[i]? = some f) (ht : f.type = t) (ho : f.offset = o) (hk : Tryd.prog.cellsOf t = k) (hc : (cs.drop o).take k = cs') : ∃ m y, Rd enc W m t cs' y := by
  subst ht; subst ho; subst hk; subst hc
  exact hf i f hi
theorem c3 : Tryd.prog.cellsOf 3 = 1 := by kernel_rfl
theorem c4 : Tryd.prog.cellsOf 4 = 1 := by kernel_rfl
theorem c9 : Tryd.prog.cellsOf 9 = 1 := by kernel_rfl
theorem c22 : Tryd.prog.cellsOf 22 = 1 := by kernel_rfl
theorem c23 : Tryd.prog.cellsOf 23 = 1 := by kernel_rfl
theorem c26 : Tryd.prog.cellsOf 26 = 1 := by kernel_rfl
theorem c27 : Tryd.prog.cellsOf 27 = 1 := by kernel_rfl
theorem c28 : Tryd.prog.cellsOf 28 = 1 := by kernel_rfl
theorem c25 : Tryd.prog.cellsOf 25 = 4 := by kernel_rfl
theorem c30 : Tryd.prog.cellsOf 30 = 18 := by kernel_rfl
theorem c48 : Tryd.prog.cellsOf 48 = 2 := by kernel_rfl
theorem c57 : Tryd.prog.cellsOf 57 = 2 := by kernel_rfl
theorem c61 : Tryd.prog.cellsOf 61 = 2 := by kernel_rfl
theorem c63 : Tryd.prog.cellsOf 63 = 5 := by kernel_rfl
theorem rdN : ∀ (n : Nat) (cs : List Value) (x : DataW H × List MemPlace), Rd enc W n 3 cs x → ∃ a : Int, rowN a = cs.map AV.at ∧ ∀ v ∈ cs, Value.one v = true := by
  intro n cs x h
  obtain ⟨a, rfl⟩ := elI h
  exact ⟨a, rfl, by simp [Value.one]⟩
theorem rdS : ∀ (n : Nat) (cs : List Value) (x : DataW H × List MemPlace), Rd enc W n 9 cs x → ∃ a : BS, rowS a = cs.map AV.at ∧ ∀ v ∈ cs, Value.one v = true := by
  intro n cs x h
  obtain ⟨a, rfl⟩ := elS h
  exact ⟨a, rfl, by simp [Value.one]⟩
theorem rdFi : ∀ (n : Nat) (cs : List Value) (x : DataW H × List MemPlace), Rd enc W n 57 cs x → ∃ a : Fi, rowFi a = cs.map AV.at ∧ ∀ v ∈ cs, Value.one v = true := by
  intro n cs x h
  obtain ⟨hl, hf⟩ := elF Tryd.underlying57 h
  rw [c57] at hl
  obtain ⟨a, l0_, rfl, h0_⟩ := cons_of hl
  obtain ⟨b, l1_, rfl, h1_⟩ := cons_of h0_
  obtain rfl := nil_of h1_
  obtain ⟨_, _, k0⟩ := fld hf 0 rfl (t := 9) rfl rfl c9 rfl
  obtain ⟨_, _, k1⟩ := fld hf 1 rfl (t := 9) rfl rfl c9 rfl
  obtain ⟨p, hp⟩ := elS k0
  obtain ⟨q, hq⟩ := elS k1
  simp at hp hq
  subst hp; subst hq
  exact ⟨(p, q), rfl, by simp [Value.one]⟩
theorem rdPu : ∀ (n : Nat) (cs : List Value) (x : DataW H × List MemPlace), Rd enc W n 48 cs x → ∃ a : Pu, rowPu a = cs.map AV.at ∧ ∀ v ∈ cs, Value.one v = true := by
  intro n cs x h
  obtain ⟨hl, hf⟩ := elF Tryd.underlying48 h
  rw [c48] at hl
  obtain ⟨a, l0_, rfl, h0_⟩ := cons_of hl
  obtain ⟨b, l1_, rfl, h1_⟩ := cons_of h0_
  obtain rfl := nil_of h1_
  obtain ⟨_, _, k0⟩ := fld hf 0 rfl (t := 3) rfl rfl c3 rfl
  obtain ⟨_, _, k1⟩ := fld hf 1 rfl (t := 9) rfl rfl c9 rfl
  obtain ⟨p, hp⟩ := elI k0
  obtain ⟨q, hq⟩ := elS k1
  simp at hp hq
  subst hp; subst hq
  exact ⟨(p, q), rfl, by simp [Value.one]⟩
theorem rdEn : ∀ (n : Nat) (cs : List Value) (x : DataW H × List MemPlace), Rd enc W n 63 cs x → ∃ a : En, rowEn a = cs.map AV.at ∧ ∀ v ∈ cs, Value.one v = true := by
  intro n cs x h
  obtain ⟨hl, hf⟩ := elF Tryd.underlying63 h
  rw [c63] at hl
  obtain ⟨a, l0_, rfl, h0_⟩ := cons_of hl
  obtain ⟨b, l1_, rfl, h1_⟩ := cons_of h0_
  obtain ⟨c, l2_, rfl, h2_⟩ := cons_of h1_
  obtain ⟨d, l3_, rfl, h3_⟩ := cons_of h2_
  obtain ⟨e, l4_, rfl, h4_⟩ := cons_of h3_
  obtain rfl := nil_of h4_
  obtain ⟨_, _, k0⟩ := fld hf 0 rfl (t := 9) rfl rfl c9 rfl
  obtain ⟨_, _, k1⟩ := fld hf 1 rfl (t := 4) rfl rfl c4 rfl
  obtain ⟨_, _, k2⟩ := fld hf 2 rfl (t := 9) rfl rfl c9 rfl
  obtain ⟨_, _, k3⟩ := fld hf 3 rfl (t := 61) rfl rfl c61 rfl
  obtain ⟨_, kf⟩ := elF Tryd.underlying61 k3
  obtain ⟨_, _, k4⟩ := fld kf 0 rfl (t := 3) rfl rfl c3 rfl
  obtain ⟨_, _, k5⟩ := fld kf 1 rfl (t := 3) rfl rfl c3 rfl
  obtain ⟨p, hp⟩ := elS k0
  obtain ⟨q, hq⟩ := elB k1
  obtain ⟨r, hr⟩ := elS k2
  obtain ⟨u, hu⟩ := elI k4
  obtain ⟨v, hv⟩ := elI k5
  simp at hp hq hr hu hv
  subst hp; subst hq; subst hr; subst hu; subst hv
  exact ⟨(p, q, r, u, v), rfl, by simp [Value.one]⟩
/-- A slice's pointer leads to a place, not into a value. -/
theorem spot_of {base : Nat} {t e : TypeId} (ht : Tryd.prog.underlying t = some (.slice e)) {c : Value} (h : Cell.okWide Tryd.prog W .any base t c) : ∀ a len cap, c = .slice (some a) len cap → a.spot = none := by
  rintro a len cap rfl
  unfold Cell.okWide at h
  rw [ht] at h
  simp only [Cell.ok, ht] at h
  exact h.2.2.2.1
set_option maxHeartbeats 2000000 in
theorem open_st {base : Nat} {v : Value} {d : DataW H} {p : List MemPlace} (hval : Value.okWide Tryd.prog W .any base 30 v) (h : DataW.Trod enc Tryd.prog W 0 (fun _ => true) true 30 v d p) : ∃ (s : Stt) (z : Nl), SemZ s z ∧ R1 (cellsOfW W) noE (.agg (cellsSt s z)) v := by
  obtain ⟨n, h⟩ := h
  unfold Value.okWide at hval
  rw [Tryd.underlying30] at hval
  obtain ⟨cs, rfl, hsz, ts, hts, _, hcell⟩ := hval
  rw [show Tryd.prog.cellTypes Tryd.prog.depth 30 = some [3, 22, 23, 3, 3, 3, 3, 26, 23, 4, 3, 3, 3, 3, 23, 27, 28, 4] by kernel_rfl] at hts
  obtain rfl := Option.some.inj hts
  have h' : Rd enc W n 30 cs.toList _ := h
  obtain ⟨hl, hf⟩ := elF Tryd.underlying30 h'
  rw [c30] at hl
  obtain ⟨l⟩ := cs
  dsimp only at hl hf
  obtain ⟨x0, l0_, rfl, h0_⟩ := cons_of hl
  obtain ⟨x1, l1_, rfl, h1_⟩ := cons_of h0_
  obtain ⟨x2, l2_, rfl, h2_⟩ := cons_of h1_
  obtain ⟨x3, l3_, rfl, h3_⟩ := cons_of h2_
  obtain ⟨x4, l4_, rfl, h4_⟩ := cons_of h3_
  obtain ⟨x5, l5_, rfl, h5_⟩ := cons_of h4_
  obtain ⟨x6, l6_, rfl, h6_⟩ := cons_of h5_
  obtain ⟨x7, l7_, rfl, h7_⟩ := cons_of h6_
  obtain ⟨x8, l8_, rfl, h8_⟩ := cons_of h7_
  obtain ⟨x9, l9_, rfl, h9_⟩ := cons_of h8_
  obtain ⟨x10, l10_, rfl, h10_⟩ := cons_of h9_
  obtain ⟨x11, l11_, rfl, h11_⟩ := cons_of h10_
  obtain ⟨x12, l12_, rfl, h12_⟩ := cons_of h11_
  obtain ⟨x13, l13_, rfl, h13_⟩ := cons_of h12_
  obtain ⟨x14, l14_, rfl, h14_⟩ := cons_of h13_
  obtain ⟨x15, l15_, rfl, h15_⟩ := cons_of h14_
  obtain ⟨x16, l16_, rfl, h16_⟩ := cons_of h15_
  obtain ⟨x17, l17_, rfl, h17_⟩ := cons_of h16_
  obtain rfl := nil_of h17_
  obtain ⟨_, _, k0⟩ := fld hf 0 rfl (t := 3) rfl rfl c3 rfl
  obtain ⟨_, _, k1⟩ := fld hf 1 rfl (t := 22) rfl rfl c22 rfl
  obtain ⟨_, _, k2⟩ := fld hf 2 rfl (t := 23) rfl rfl c23 rfl
  obtain ⟨_, _, k3⟩ := fld hf 3 rfl (t := 25) rfl rfl c25 rfl
  obtain ⟨_, _, k4⟩ := fld hf 4 rfl (t := 26) rfl rfl c26 rfl
  obtain ⟨_, _, k5⟩ := fld hf 5 rfl (t := 23) rfl rfl c23 rfl
  obtain ⟨_, _, k6⟩ := fld hf 6 rfl (t := 4) rfl rfl c4 rfl
  obtain ⟨_, _, k7⟩ := fld hf 7 rfl (t := 25) rfl rfl c25 rfl
  obtain ⟨_, _, k8⟩ := fld hf 8 rfl (t := 23) rfl rfl c23 rfl
  obtain ⟨_, _, k9⟩ := fld hf 9 rfl (t := 27) rfl rfl c27 rfl
  obtain ⟨_, _, k10⟩ := fld hf 10 rfl (t := 28) rfl rfl c28 rfl
  obtain ⟨_, _, k11⟩ := fld hf 11 rfl (t := 4) rfl rfl c4 rfl
  obtain ⟨_, kf3⟩ := elF Tryd.underlying25 k3
  obtain ⟨_, kf7⟩ := elF Tryd.underlying25 k7
  obtain ⟨_, _, k30⟩ := fld kf3 0 rfl (t := 3) rfl rfl c3 rfl
  obtain ⟨_, _, k31⟩ := fld kf3 1 rfl (t := 3) rfl rfl c3 rfl
  obtain ⟨_, _, k32⟩ := fld kf3 2 rfl (t := 3) rfl rfl c3 rfl
  obtain ⟨_, _, k33⟩ := fld kf3 3 rfl (t := 3) rfl rfl c3 rfl
  obtain ⟨_, _, k70⟩ := fld kf7 0 rfl (t := 3) rfl rfl c3 rfl
  obtain ⟨_, _, k71⟩ := fld kf7 1 rfl (t := 3) rfl rfl c3 rfl
  obtain ⟨_, _, k72⟩ := fld kf7 2 rfl (t := 3) rfl rfl c3 rfl
  obtain ⟨_, _, k73⟩ := fld kf7 3 rfl (t := 3) rfl rfl c3 rfl
  obtain ⟨a, ha⟩ := elI k0
  obtain ⟨v0, hv0⟩ := elI k30
  obtain ⟨v1, hv1⟩ := elI k31
  obtain ⟨v2, hv2⟩ := elI k32
  obtain ⟨v3, hv3⟩ := elI k33
  obtain ⟨w0, hw0⟩ := elI k70
  obtain ⟨w1, hw1⟩ := elI k71
  obtain ⟨w2, hw2⟩ := elI k72
  obtain ⟨w3, hw3⟩ := elI k73
  obtain ⟨b6, hb6⟩ := elB k6
  obtain ⟨b11, hb11⟩ := elB k11
  simp at ha hv0 hv1 hv2 hv3 hw0 hw1 hw2 hw3 hb6 hb11
  subst ha hv0 hv1 hv2 hv3 hw0 hw1 hw2 hw3 hb6 hb11
  have o1 : Cell.okWide Tryd.prog W .any base 22 x1 := by obtain ⟨u, h1, h2⟩ := hcell 1 x1 rfl; cases h1; exact h2
  have o2 : Cell.okWide Tryd.prog W .any base 23 x2 := by obtain ⟨u, h1, h2⟩ := hcell 2 x2 rfl; cases h1; exact h2
  have o7 : Cell.okWide Tryd.prog W .any base 26 x7 := by obtain ⟨u, h1, h2⟩ := hcell 7 x7 rfl; cases h1; exact h2
  have o8 : Cell.okWide Tryd.prog W .any base 23 x8 := by obtain ⟨u, h1, h2⟩ := hcell 8 x8 rfl; cases h1; exact h2
  have o14 : Cell.okWide Tryd.prog W .any base 23 x14 := by obtain ⟨u, h1, h2⟩ := hcell 14 x14 rfl; cases h1; exact h2
  have o15 : Cell.okWide Tryd.prog W .any base 27 x15 := by obtain ⟨u, h1, h2⟩ := hcell 15 x15 rfl; cases h1; exact h2
  have o16 : Cell.okWide Tryd.prog W .any base 28 x16 := by obtain ⟨u, h1, h2⟩ := hcell 16 x16 rfl; cases h1; exact h2
  obtain ⟨l1, n1, y1, r1⟩ := open_sl (W := W) rowFi Tryd.underlying22 c57 (by decide) rdFi (spot_of Tryd.underlying22 o1) k1
  obtain ⟨l2, n2, y2, r2⟩ := open_sl (W := W) rowEn Tryd.underlying23 c63 (by decide) rdEn (spot_of Tryd.underlying23 o2) k2
  obtain ⟨l4, n4, y4, r4⟩ := open_sl (W := W) rowN Tryd.underlying26 c3 (by decide) rdN (spot_of Tryd.underlying26 o7) k4
  obtain ⟨l5, n5, y5, r5⟩ := open_sl (W := W) rowEn Tryd.underlying23 c63 (by decide) rdEn (spot_of Tryd.underlying23 o8) k5
  obtain ⟨l8, n8, y8, r8⟩ := open_sl (W := W) rowEn Tryd.underlying23 c63 (by decide) rdEn (spot_of Tryd.underlying23 o14) k8
  obtain ⟨l9, n9, y9, r9⟩ := open_sl (W := W) rowS Tryd.underlying27 c9 (by decide) rdS (spot_of Tryd.underlying27 o15) k9
  obtain ⟨l10, n10, y10, r10⟩ := open_sl (W := W) rowPu Tryd.underlying28 c48 (by decide) rdPu (spot_of Tryd.underlying28 o16) k10
  refine ⟨(a, l1, l2, (v0, v1, v2, v3), l4, l5, b6, (w0, w1, w2, w3), l8, l9, l10, b11), ⟨n1, n2, n4, n5, n8, n9, n10, .no, .no, .no, .no, .no, .no, .no⟩, ⟨sem_no y1, sem_no y2, sem_no y4, sem_no y5, sem_no y8, sem_no y9, sem_no y10⟩, R1.agg _ [.int .i64 a, x1, x2, .int .i64 v0, .int .i64 v1, .int .i64 v2, .int .i64 v3, x7, x8, .bool b6, .int .i64 w0, .int .i64 w1, .int .i64 w2, .int .i64 w3, x14, x15, x16, .bool b11] rfl ?_ ?_⟩
  · intro x hx
    simp only [cellsSt, List.mem_cons, List.not_mem_nil, or_false] at hx
    rcases hx with rfl | rfl | rfl | rfl | rfl | rfl | rfl | rfl | rfl | rfl | rfl | rfl | rfl | rfl | rfl | rfl | rfl | rfl <;> rfl
  · intro j x u hx hu
    match j with
    | 0 => cases hx; cases hu; exact .at _
    | 1 => cases hx; cases hu; exact r1
    | 2 => cases hx; cases hu; exact r2
    | 3 => cases hx; cases hu; exact .at _
    | 4 => cases hx; cases hu; exact .at _
    | 5 => cases hx; cases hu; exact .at _
    | 6 => cases hx; cases hu; exact .at _
    | 7 => cases hx; cases hu; exact r4
    | 8 => cases hx; cases hu; exact r5
    | 9 => cases hx; cases hu; exact .at _
    | 10 => cases hx; cases hu; exact .at _
    | 11 => cases hx; cases hu; exact .at _
    | 12 => cases hx; cases hu; exact .at _
    | 13 => cases hx; cases hu; exact .at _
    | 14 => cases hx; cases hu; exact r8
    | 15 => cases hx; cases hu; exact r9
    | 16 => cases hx; cases hu; exact r10
    | 17 => cases hx; cases hu; exact .at _
    | j + 18 => cases hx
theorem okO_id {o : Own} (h : OkO o) {n : Nat} : o ≠ .id n := by
  rcases h with rfl | rfl <;> simp
theorem noId_st (s : Stt) {z : Nl} (hz : OkZ z) : NoId (.agg (cellsSt s z)) := by
  rintro n ⟨y, hy, rows, nl, rfl⟩
  simp only [parts, cellsSt, List.mem_cons, List.not_mem_nil, or_false, AV.slice.injEq, reduceCtorEq, false_or] at hy
  rcases hy with h | h | h | h | h | h | h
  · exact okO_id hz.tree h.2.2.symm
  · exact okO_id hz.arch h.2.2.symm
  · exact okO_id hz.own h.2.2.symm
  · exact okO_id hz.shown h.2.2.symm
  · exact okO_id hz.theirs h.2.2.symm
  · exact okO_id hz.conf h.2.2.symm
  · exact okO_id hz.waits h.2.2.symm
end
end Go.Proofs.V

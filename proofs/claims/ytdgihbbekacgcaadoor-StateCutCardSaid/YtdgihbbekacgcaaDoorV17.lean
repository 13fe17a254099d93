/- A call that returns: what holds of the caller's frame behind it. -/
import Derived.Test.YtdgihbbekacgcaaDoorV16
namespace Go.Proofs.V
open Go Go.RowKit
set_option linter.unusedVariables false
set_option linter.unusedSimpArgs false

theorem nohp_R1 {S : Addr → Option Value} {E E' : Nat → Option Nat} : ∀ (d : Nat) {x : AV} {v : Value}, nohp d x = true → R1 S E x v → R1 S E' x v
  | 0, x, v, h, _ => by cases x <;> simp [nohp] at h
  | d + 1, x, v, h, hr => by
    cases hr with
    | «at» v => exact .at v
    | nil own => exact .nil own
    | slice rows own b off cap sz val hlen hsz hfull hpl h1 h2 =>
      simp only [nohp, List.all_eq_true] at h
      refine .slice rows own b off cap sz val hlen hsz hfull hpl h1 (fun i j x hx => nohp_R1 d ?_ (h2 i j x hx))
      unfold cellAt at hx
      simp only [Option.bind_eq_some_iff] at hx
      obtain ⟨r, hr, hx⟩ := hx
      exact h r (List.mem_of_getElem? hr) x (List.mem_of_getElem? hx)
    | ref row off b o val hpl h1 h2 =>
      simp only [nohp, List.all_eq_true] at h
      exact .ref row off b o val hpl h1 (fun j x hx => nohp_R1 d (h x (List.mem_of_getElem? hx)) (h2 j x hx))
    | hp l off b h1 => simp [nohp] at h
    | fn f first captured fs cs hf hc h1 h2 =>
      simp only [nohp, Bool.and_eq_true, List.all_eq_true] at h
      exact .fn f first captured fs cs hf hc (fun j x v hx hv => nohp_R1 d (h.1 x (List.mem_of_getElem? hx)) (h1 j x v hx hv)) (fun j x v hx hv => nohp_R1 d (h.2 x (List.mem_of_getElem? hx)) (h2 j x v hx hv))
    | agg cs vs hl hpl h1 =>
      simp only [nohp, List.all_eq_true] at h
      exact .agg cs vs hl hpl (fun j x v hx hv => nohp_R1 d (h x (List.mem_of_getElem? hx)) (h1 j x v hx hv))
    | tup cs vs hl h1 =>
      simp only [nohp, List.all_eq_true] at h
      exact .tup cs vs hl (fun j x v hx hv => nohp_R1 d (h x (List.mem_of_getElem? hx)) (h1 j x v hx hv))
    | ifc t x v h1 =>
      simp only [nohp] at h
      exact .ifc t x v (nohp_R1 d h h1)
    | hs l off len cap sz b h1 => simp [nohp] at h

abbrev noE : Nat → Option Nat := fun _ => none
theorem CPost.drop {w w' : World} {S S' : Addr → Option Value} {E' : Nat → Option Nat} {r : AV} {H' : List (List AV)} {v : Value} {φ : Nat → Rw}
    (h : CPost w S noE r H' v S' E' φ w') (hr : H'.isEmpty = true ∨ nohp 9 r = true) : CPost w S noE r [] v S' noE φ w' where
  bel := h.bel
  sS := h.sS
  sN := h.sN
  mem := h.mem
  eS l b hb := by cases hb
  eN l b _ hb := by cases hb
  eH l b hb := by cases hb
  heap l cs hl := by simp at hl
  inj l l' b hb := by cases hb
  rv := by
    rcases hr with hr | hr
    · refine R1.mono (fun _ _ h => h) (fun l b hb => ?_) h.rv
      have := h.eH l b hb
      simp at hr; subst hr; simp at this
    · exact nohp_R1 9 hr h.rv
  nid := h.nid
  fresh j u rows nl hx hu := by
    obtain ⟨h1, h2, h3, h4, h5, h6, h7, h8, h9⟩ := h.fresh j u rows nl hx hu
    exact ⟨h1, h2, h3, h4, h5, h6, h7, h8, fun l hl => by cases hl⟩
  apart := h.apart

section
variable {E0 : Nat → Prop} {w0 : Ent} {Z : Nat → Prop} {G : Gh} {F : St} {a : Act} {w : World}

theorem Inv.objE (h : Inv E0 w0 Z G F a w) {l b : Nat} (hb : G.E l = some b) : (w0.heap.size ≤ b ∨ E0 b) ∧ G.u b = some (.obj l) ∧ b < w.heap.size := by
  have hl := h.rel.2.2.2.2 l b hb
  obtain ⟨b', vs, h1, h2, h3, h4⟩ := h.obj l F.H[l] (List.getElem?_eq_getElem hl)
  rw [hb] at h1
  cases h1
  exact ⟨h2, h3, h.live b (by rw [h3]; rfl)⟩

theorem CPost.lift (h : Inv E0 w0 Z G F a w) {w' : World} {S' : Addr → Option Value} {r : AV} {v : Value} {φ : Nat → Rw}
    (c : CPost w G.S noE r [] v S' noE φ w') : CPost w G.S G.E r F.H v S' G.E φ w' where
  bel := ⟨c.bel.os, c.bel.tape, c.bel.output, c.bel.size, fun k hk _ => c.bel.block k hk (by rintro ⟨l, hl⟩; cases hl)⟩
  sS := c.sS
  sN := c.sN
  mem := c.mem
  eS l b hb := hb
  eN l b h0 hb := by rw [h0] at hb; cases hb
  eH := h.rel.2.2.2.2
  heap l cs hl := by
    obtain ⟨b, vs, h1, h2, h3, ⟨ty, g1⟩, g2, gp, g3, g4⟩ := h.obj l cs hl
    have hb := h.live b (by rw [h3]; rfl)
    exact ⟨b, vs, h1, ⟨ty, (c.bel.block b hb (by rintro ⟨l, hl⟩; cases hl)).trans g1⟩, g2, gp, fun j x v hx hv => R1.mono c.sS (fun _ _ h => h) (g3 j x v hx hv), fun ad ha => c.sN ad (g4 ad ha) (by rw [ha]; exact hb)⟩
  inj l l' b h1 h2 := by
    have e1 := (h.objE h1).2.1
    have e2 := (h.objE h2).2.1
    rw [e1] at e2
    cases e2
    rfl
  rv := R1.mono (fun _ _ h => h) (fun l b hb => by cases hb) c.rv
  nid := c.nid
  fresh j u rows nl hx hu := by
    obtain ⟨h1, h2, h3, h4, h5, h6, h7, h8, h9⟩ := c.fresh j u rows nl hx hu
    exact ⟨h1, h2, h3, h4, h5, h6, h7, h8, fun l hl => by have := (h.objE hl).2.2; omega⟩
  apart := c.apart

theorem R1.parts {S : Addr → Option Value} {E : Nat → Option Nat} {r : AV} {v : Value} (h : R1 S E r v) {j : Nat} {rows : List (List AV)} {nl : Bool} {own : Own}
    (hj : (V.parts r)[j]? = some (.slice rows nl own)) : ∃ u, (vparts v)[j]? = some u := by
  cases h with
  | «at» v => cases j <;> simp [V.parts] at hj
  | agg cs vs hl hpl h =>
    simp only [V.parts] at hj
    have : j < cs.length := (List.getElem?_eq_some_iff.1 hj).1
    exact ⟨vs[j]'(by omega), by simp only [vparts]; exact List.getElem?_eq_getElem (by simpa using by omega)⟩
  | tup cs vs hl h =>
    simp only [V.parts] at hj
    have : j < cs.length := (List.getElem?_eq_some_iff.1 hj).1
    exact ⟨vs[j]'(by omega), by simp only [vparts]; exact List.getElem?_eq_getElem (by simpa using by omega)⟩
  | nil own => cases j with
    | zero => exact ⟨_, rfl⟩
    | succ j => simp [V.parts] at hj
  | slice rows own b off cap sz val hlen hsz hfull hpl h1 h2 => cases j with
    | zero => exact ⟨_, rfl⟩
    | succ j => simp [V.parts] at hj
  | ref row off b o val hpl h1 h2 => cases j <;> simp [V.parts] at hj
  | hp l off b h => cases j <;> simp [V.parts] at hj
  | fn f first captured fs cs hf hc h1 h2 => cases j <;> simp [V.parts] at hj
  | ifc t x v h => cases j <;> simp [V.parts] at hj
  | hs l off len cap sz b h => cases j <;> simp [V.parts] at hj

theorem freshAt_iff : ∀ (l : List AV) (lab n : Nat), freshAt lab l n = true → ∃ j rows nl, l[j]? = some (.slice rows nl .fresh) ∧ n = lab + j
  | [], lab, n, h => by simp [freshAt] at h
  | x :: xs, lab, n, h => by
    have key : freshAt (lab + 1) xs n = true → ∃ j rows nl, (x :: xs)[j]? = some (.slice rows nl .fresh) ∧ n = lab + j := fun h => by
      obtain ⟨j, rows, nl, h1, h2⟩ := freshAt_iff _ _ _ h
      exact ⟨j + 1, rows, nl, by simpa using h1, by omega⟩
    cases x with
    | slice rows nl own =>
      cases own with
      | fresh =>
        simp only [freshAt, Bool.or_eq_true, beq_iff_eq] at h
        rcases h with h | h
        · exact ⟨0, rows, nl, rfl, by omega⟩
        · exact key h
      | _ => exact key h
    | _ => exact key h
theorem freshR_iff {r : AV} {lab n : Nat} (h : freshR lab r n = true) : ∃ j rows nl, (parts r)[j]? = some (.slice rows nl .fresh) ∧ n = lab + j := by
  cases r with
  | tup cs => exact freshAt_iff _ _ _ h
  | agg cs => exact freshAt_iff _ _ _ h
  | slice rows nl own =>
    cases own with
    | fresh =>
      simp only [freshR, beq_iff_eq] at h
      exact ⟨0, rows, nl, rfl, by omega⟩
    | _ => cases h
  | _ => cases h
theorem sizeR_parts {r : AV} (hr : ∀ g cs, r ≠ .box g cs) {j : Nat} {x : AV} (h : (parts r)[j]? = some x) : j < sizeR r := by
  have := (List.getElem?_eq_some_iff.1 h).1
  cases r with
  | box g cs => exact (hr g cs rfl).elim
  | _ => simpa [parts, sizeR] using this
theorem R1.nobox {S : Addr → Option Value} {E : Nat → Option Nat} {r : AV} {v : Value} (h : R1 S E r v) : ∀ g cs, r ≠ .box g cs := by
  rintro g cs rfl
  cases h

open Classical in
/-- What is known behind a call. -/
noncomputable def Gcall (G : Gh) (w : World) (lab : Nat) (r : AV) (S' : Addr → Option Value) (E' : Nat → Option Nat) (φ : Nat → Rw) : Gh where
  S := S'
  B := G.B
  E := E'
  u b := if b < w.heap.size then G.u b else if h : ∃ l, E' l = some b then some (.obj h.choose) else if h : ∃ j, (∃ rows nl, (parts r)[j]? = some (.slice rows nl .fresh)) ∧ (φ j).b = b then some (.row (lab + h.choose)) else none
  ρ n := if lab ≤ n ∧ n < lab + 64 then φ (n - lab) else G.ρ n

theorem RV.mono {G G' : Gh} (hS : ∀ a v, G.S a = some v → G'.S a = some v) (hE : ∀ l b, G.E l = some b → G'.E l = some b) (hB : ∀ l b, G.B l = some b → G'.B l = some b) {x : AV} {v : Value} (h : RV G x v) : RV G' x v := by
  cases x with
  | fp a b c => obtain ⟨k, h1, h2⟩ := h; exact ⟨k, hB _ _ h1, h2⟩
  | box a b => obtain ⟨k, h1, h2⟩ := h; exact ⟨k, hB _ _ h1, h2⟩
  | _ => exact R1.mono hS hE h

theorem inv_move (h : Inv E0 w0 Z G F a w) {w' : World} {S' : Addr → Option Value} {E' : Nat → Option Nat} {r : AV} {H' : List (List AV)} {v : Value} {φ : Nat → Rw} {lab : Nat} {al' : Nat → Bool}
    (c : CPost w G.S G.E r H' v S' E' φ w') (hz : ∀ n, Z n → ¬ (lab ≤ n ∧ n < lab + 64)) (hal : ∀ n, al' n = true → F.al n = true ∨ (freshR lab r n = true ∧ sizeR r ≤ 64)) :
    Inv E0 w0 (fun n => Z n ∨ (lab ≤ n ∧ n < lab + 64)) (Gcall G w lab r S' E' φ) { F with H := H', al := al' } a w' := by
  have hfr : ∀ {n}, (freshR lab r n = true ∧ sizeR r ≤ 64) → lab ≤ n ∧ n < lab + 64 := by
    rintro n ⟨hn, hsz⟩
    obtain ⟨j, rows, nl, h1, h2⟩ := freshR_iff hn
    have := sizeR_parts c.rv.nobox h1
    omega
  have hE : ∀ l b, G.E l = some b → E' l = some b := c.eS
  have hold : ∀ b, b < w.heap.size → (∀ l, G.E l ≠ some b) → w'.heap[b]? = w.heap[b]? := fun b hb hl => c.bel.block b hb (by rintro ⟨l, h⟩; exact hl l h)
  have hu : ∀ b, b < w.heap.size → (Gcall G w lab r S' E' φ).u b = G.u b := fun b hb => by simp [Gcall, hb]
  have hρ : ∀ n, Z n → (Gcall G w lab r S' E' φ).ρ n = G.ρ n := fun n hn => by simp only [Gcall]; rw [if_neg (hz n hn)]
  have hala : ∀ n, Z n → al' n = true → F.al n = true := fun n hn ha => (hal n ha).resolve_right (fun hf => hz n hn (hfr hf))
  have hCl1 : ∀ {x : AV} {u : Value}, (∀ rows nl n, x = .slice rows nl (.id n) → Z n) → Cl1 G F.al x u → Cl1 (Gcall G w lab r S' E' φ) al' x u := by
    intro x u hx hc rows nl n he ha
    rw [hρ n (hx rows nl n he)]
    exact hc rows nl n he (hala n (hx rows nl n he) ha)
  refine ⟨h.nsz, h.df, fun i => RV.mono (G := G) (G' := Gcall G w lab r S' E' φ) c.sS c.eS (fun _ _ h => h) (h.slot i), fun i hb j y u hy hu' => hCl1 (fun rows nl n he => h.ids i n ⟨y, List.mem_of_getElem? hy, rows, nl, he⟩) (h.cl i hb j y u hy hu'),
    fun i n hi => .inl (h.ids i n hi), c.mem, ⟨c.bel.os.trans h.bel.os, c.bel.tape.trans h.bel.tape, c.bel.output.trans h.bel.output, Nat.le_trans h.bel.size c.bel.size, fun k hk he => ?_⟩,
    ⟨fun ad v hv => c.sS _ _ (h.rel.1 ad v hv), fun ad h0 hb => c.sN _ (h.rel.2.1 ad h0 hb) (Nat.lt_of_lt_of_le hb h.bel.size), fun l b hb => c.eS _ _ (h.rel.2.2.1 l b hb), fun l b h0 hb => ?_, c.eH⟩, fun i g cs hc => ?_, fun n ha => ?_, fun l cs hl => ?_,
    fun g b hb => .inl (h.zB g b hb), fun n ha => ?_, fun b hb => ?_⟩
  · refine (c.bel.block k (Nat.lt_of_lt_of_le hk h.bel.size) ?_).trans (h.bel.block k hk he)
    rintro ⟨l, hl⟩
    rcases (h.objE hl).1 with h1 | h1
    · omega
    · exact he h1
  · have hb : E' l = some b := hb
    cases hl : G.E l with
    | none =>
      have := (c.eN l b hl hb).1
      have := h.bel.size
      show w0.heap.size ≤ b
      omega
    | some b' =>
      have := c.eS l b' hl
      rw [hb] at this
      cases this
      exact h.rel.2.2.2.1 l b h0 hl
  · obtain ⟨b, vs, h1, h2, h3, ⟨⟨ty, g1⟩, g2, gp, g3, g4⟩, h5⟩ := h.box i g cs hc
    have hb := h.live b (by rw [h3]; rfl)
    refine ⟨b, vs, h1, h2, (hu b hb).trans h3, ⟨⟨ty, (hold b hb fun l hl => ?_).trans g1⟩, g2, gp, fun j x v hx hv => R1.mono c.sS c.eS (g3 j x v hx hv), fun ad ha => c.sN ad (g4 ad ha) (by rw [ha]; exact hb)⟩, fun j x v hx hv => hCl1 (fun rows nl n he => h.ids i n ?_) (h5 j x v hx hv)⟩
    · have := (h.objE hl).2.1
      rw [h3] at this
      cases this
    · rw [show F.t i = .box g cs from hc]
      exact ⟨x, List.mem_of_getElem? hx, rows, nl, he⟩
  · have ha : al' n = true := ha
    rcases hal n ha with ho | hf
    · obtain ⟨h1, h2, ⟨vs, ty, h3, h3'⟩, h4, h5⟩ := h.row n ho
      have hb := h.live _ (by rw [h2]; rfl)
      rw [hρ n (h.zal n ho)]
      refine ⟨h1, (hu _ hb).trans h2, ⟨vs, ty, (hold _ hb fun l hl => ?_).trans h3, h3'⟩, h4, fun o ho => c.sN _ (h5 o ho) hb⟩
      have := (h.objE hl).2.1
      rw [h2] at this
      cases this
    · obtain ⟨hf, hsz⟩ := hf
      obtain ⟨j, rows, nl, hp, rfl⟩ := freshR_iff hf
      have hj := sizeR_parts c.rv.nobox hp
      obtain ⟨u, hu'⟩ := c.rv.parts hp
      obtain ⟨h1, h2, h3, h4, h5, h6, h7, h8, h9⟩ := c.fresh j u rows nl hp hu'
      have hr' : (Gcall G w lab r S' E' φ).ρ (lab + j) = φ j := by
        simp only [Gcall]
        rw [if_pos (by omega)]
        congr 1
        omega
      rw [hr']
      refine ⟨Nat.le_trans h.bel.size h5, ?_, h6, h7, h8⟩
      have hex : ∃ k, (∃ rows nl, (parts r)[k]? = some (.slice rows nl .fresh)) ∧ (φ k).b = (φ j).b := ⟨j, ⟨rows, nl, hp⟩, rfl⟩
      simp only [Gcall]
      rw [if_neg (by omega), dif_neg (by rintro ⟨l, hl⟩; exact h9 l hl), dif_pos hex]
      obtain ⟨⟨rows', nl', hp'⟩, he⟩ := hex.choose_spec
      rw [c.apart _ _ _ _ _ _ hp' hp he]
  · obtain ⟨b, vs, h1, h2⟩ := c.heap l cs hl
    refine ⟨b, vs, h1, ?_, ?_, h2⟩
    · cases hE1 : G.E l with
      | none => exact .inl (Nat.le_trans h.bel.size (c.eN l b hE1 h1).1)
      | some b' =>
        have := c.eS l b' hE1
        rw [h1] at this
        cases this
        exact (h.objE hE1).1
    · cases hE1 : G.E l with
      | none =>
        have hb := (c.eN l b hE1 h1).1
        have hex : ∃ l, E' l = some b := ⟨l, h1⟩
        simp only [Gcall]
        rw [if_neg (by omega), dif_pos hex]
        rw [c.inj _ _ _ hex.choose_spec h1]
      | some b' =>
        have := c.eS l b' hE1
        rw [h1] at this
        cases this
        exact (hu b (h.objE hE1).2.2).trans (h.objE hE1).2.1
  · rcases hal n ha with ho | hf
    · exact .inl (h.zal n ho)
    · exact .inr (hfr hf)
  · simp only [Gcall] at hb
    split at hb
    · rename_i hlt
      exact Nat.lt_of_lt_of_le hlt c.bel.size
    · split at hb
      · rename_i hge hex
        obtain ⟨l, hl⟩ := hex
        obtain ⟨b', vs, h1, ⟨ty, h2⟩, _⟩ := c.heap l (H'[l]'(c.eH l b hl)) (List.getElem?_eq_getElem (c.eH l b hl))
        rw [hl] at h1
        cases h1
        rcases Nat.lt_or_ge b w'.heap.size with h | h
        · exact h
        · rw [Array.getElem?_eq_none h] at h2; cases h2
      · split at hb
        · rename_i hge hnex hex
          obtain ⟨j, ⟨rows, nl, hp⟩, rfl⟩ := hex
          obtain ⟨u, hu'⟩ := c.rv.parts hp
          obtain ⟨h1, h2, h3, h4, h5, ⟨vs, ty, h6, _⟩, h7, h8, h9⟩ := c.fresh j u rows nl hp hu'
          rcases Nat.lt_or_ge (φ j).b w'.heap.size with h | h
          · exact h
          · rw [Array.getElem?_eq_none h] at h6; cases h6
        · cases hb
end

theorem adopt_R1 {S : Addr → Option Value} {E : Nat → Option Nat} {lab : Nat} {x : AV} {v : Value} (h : R1 S E x v) : R1 S E (adopt lab x) v := by
  cases h with
  | nil own => cases own <;> exact .nil _
  | slice rows own b off cap sz val hlen hsz hfull hpl h1 h2 =>
    cases own with
    | no => exact .slice rows .no b off cap sz val hlen hsz (by intro h; cases h) hpl h1 h2
    | full => exact .slice rows .full b off cap sz val hlen hsz hfull hpl h1 h2
    | fresh => exact .slice rows (.id lab) b off cap sz val hlen hsz (by intro h; cases h) hpl h1 h2
    | id n => exact .slice rows (.id n) b off cap sz val hlen hsz (by intro h; cases h) hpl h1 h2
  | «at» v => exact .at v
  | ref row off b o val hpl h1 h2 => exact .ref row off b o val hpl h1 h2
  | hp l off b h => exact .hp l off b h
  | fn f first captured fs cs hf hc h1 h2 => exact .fn f first captured fs cs hf hc h1 h2
  | agg cs vs hl hpl h => exact .agg cs vs hl hpl h
  | tup cs vs hl h => exact .tup cs vs hl h
  | ifc t x v h => exact .ifc t x v h
  | hs l off len cap sz b h => exact .hs l off len cap sz b h
theorem adoptAt_get : ∀ (l : List AV) (lab j : Nat), (adoptAt lab l)[j]? = (l[j]?).map (adopt (lab + j))
  | [], lab, j => by simp [adoptAt]
  | x :: xs, lab, 0 => by simp [adoptAt]
  | x :: xs, lab, j + 1 => by simp [adoptAt, adoptAt_get xs (lab + 1) j]; congr 2; omega
theorem adoptAt_len : ∀ (l : List AV) (lab : Nat), (adoptAt lab l).length = l.length
  | [], _ => rfl
  | x :: xs, lab => by simp [adoptAt, adoptAt_len xs]
theorem plain_adopt (lab : Nat) (x : AV) : (adopt lab x).plain = x.plain := by
  unfold adopt; split <;> rfl
theorem adoptR_R1 {S : Addr → Option Value} {E : Nat → Option Nat} {lab : Nat} {x : AV} {v : Value} (h : R1 S E x v) : R1 S E (adoptR lab x) v := by
  cases h with
  | agg cs vs hl hpl h =>
    refine .agg _ _ (by rw [adoptAt_len]; exact hl) (fun x hx => ?_) (fun j x v hx hv => ?_)
    · obtain ⟨j, hj⟩ := List.getElem?_of_mem hx
      rw [adoptAt_get] at hj
      simp only [Option.map_eq_some_iff] at hj
      obtain ⟨y, hy, rfl⟩ := hj
      rw [plain_adopt]
      exact hpl y (List.mem_of_getElem? hy)
    · rw [adoptAt_get] at hx
      simp only [Option.map_eq_some_iff] at hx
      obtain ⟨y, hy, rfl⟩ := hx
      exact adopt_R1 (h j y v hy hv)
  | tup cs vs hl h =>
    refine .tup _ _ (by rw [adoptAt_len]; exact hl) (fun j x v hx hv => ?_)
    rw [adoptAt_get] at hx
    simp only [Option.map_eq_some_iff] at hx
    obtain ⟨y, hy, rfl⟩ := hx
    exact adopt_R1 (h j y v hy hv)
  | «at» v => exact .at v
  | nil own => exact adopt_R1 (.nil own)
  | slice rows own b off cap sz val hlen hsz hfull hpl h1 h2 => exact adopt_R1 (.slice rows own b off cap sz val hlen hsz hfull hpl h1 h2)
  | ref row off b o val hpl h1 h2 => exact .ref row off b o val hpl h1 h2
  | hp l off b h => exact .hp l off b h
  | fn f first captured fs cs hf hc h1 h2 => exact .fn f first captured fs cs hf hc h1 h2
  | ifc t x v h => exact .ifc t x v h
  | hs l off len cap sz b h => exact .hs l off len cap sz b h
theorem parts_adoptR {r : AV} (hr : ∀ g cs, r ≠ .box g cs) (lab j : Nat) : (parts (adoptR lab r))[j]? = ((parts r)[j]?).map (adopt (lab + j)) := by
  cases r with
  | agg cs => exact adoptAt_get cs lab j
  | tup cs => exact adoptAt_get cs lab j
  | box g cs => exact (hr g cs rfl).elim
  | slice rows nl own => cases j <;> cases own <;> simp [adoptR, adopt, parts]
  | _ => cases j <;> simp [adoptR, adopt, parts]
theorem adopt_id {lab : Nat} {x : AV} {rows : List (List AV)} {nl : Bool} {n : Nat} (h : adopt lab x = .slice rows nl (.id n)) : (x = .slice rows nl .fresh ∧ n = lab) ∨ x = .slice rows nl (.id n) := by
  unfold adopt at h
  split at h
  · cases h; exact .inl ⟨rfl, rfl⟩
  · exact .inr h

section
variable {E0 : Nat → Prop} {w0 : Ent} {Z : Nat → Prop} {G : Gh} {F : St} {a : Act} {w : World}

theorem inv_call (h : Inv E0 w0 Z G F a w) {w' : World} {S' : Addr → Option Value} {E' : Nat → Option Nat} {r : AV} {H' : List (List AV)} {v : Value} {φ : Nat → Rw} {lab d : Nat}
    (c : CPost w G.S G.E r H' v S' E' φ w') (hz : ∀ n, Z n → ¬ (lab ≤ n ∧ n < lab + 64)) (hsz : sizeR r ≤ 64) (hd : d < F.n) :
    Inv E0 w0 (fun n => Z n ∨ (lab ≤ n ∧ n < lab + 64)) (Gcall G w lab r S' E' φ) { F with H := H', al := markR lab F.al r, t := upd F.t d (adoptR lab r) } (a.put (some d) v) w' := by
  have hm := inv_move h c hz (al' := markR lab F.al r) (fun n hn => Or.imp id (fun h => ⟨h, hsz⟩) (show F.al n = true ∨ freshR lab r n = true by simpa [markR] using hn))
  have hbox := c.rv.nobox
  have hr := adoptR_R1 (lab := lab) c.rv
  refine hm.set hd hr.nobox (RV_of hr) ?_ ?_
  · intro j y u hy hu rows nl n he ha
    subst he
    rw [parts_adoptR hbox] at hy
    simp only [Option.map_eq_some_iff] at hy
    obtain ⟨x, hx, hxy⟩ := hy
    rcases adopt_id hxy with ⟨rfl, rfl⟩ | rfl
    · obtain ⟨h1, h2, h3, h4, h5, h6, h7, h8, h9⟩ := c.fresh j u rows nl hx hu
      have hj := sizeR_parts hbox hx
      have hr' : (Gcall G w lab r S' E' φ).ρ (lab + j) = φ j := by
        simp only [Gcall]
        rw [if_pos (by omega)]
        congr 1
        omega
      rw [hr']
      exact ⟨h1, h2, h3, h4⟩
    · exact (c.nid n ⟨_, List.mem_of_getElem? hx, rows, nl, rfl⟩).elim
  · rintro n ⟨y, hy, rows, nl, rfl⟩
    obtain ⟨j, hj⟩ := List.getElem?_of_mem hy
    rw [parts_adoptR hbox] at hj
    simp only [Option.map_eq_some_iff] at hj
    obtain ⟨x, hx, hxy⟩ := hj
    rcases adopt_id hxy with ⟨rfl, rfl⟩ | rfl
    · have hj := sizeR_parts hbox hx
      exact .inr (by omega)
    · exact (c.nid n ⟨_, List.mem_of_getElem? hx, rows, nl, rfl⟩).elim

/-- The same, where the result keeps no marks. -/
theorem inv_call_bare (h : Inv E0 w0 Z G F a w) {w' : World} {S' : Addr → Option Value} {E' : Nat → Option Nat} {r : AV} {H' : List (List AV)} {v : Value} {φ : Nat → Rw} {lab d : Nat}
    (c : CPost w G.S G.E r H' v S' E' φ w') (hz : ∀ n, Z n → ¬ (lab ≤ n ∧ n < lab + 64)) (hd : d < F.n) :
    Inv E0 w0 (fun n => Z n ∨ (lab ≤ n ∧ n < lab + 64)) (Gcall G w lab r S' E' φ) { F with H := H', t := upd F.t d (strip r) } (a.put (some d) v) w' := by
  have hm := inv_move h c hz (al' := F.al) (fun n hn => .inl hn)
  have hr := strip_R1 c.rv
  refine hm.set hd hr.nobox (RV_of hr) (Cl_of_noId (noId_strip c.rv.nobox)) ?_
  intro n hn
  exact (noId_strip c.rv.nobox n hn).elim
end
end Go.Proofs.V

/- A call that returns: what holds of the caller's frame behind it. -/
import Derived.Test.YtdgihbbekacgcaaGreatDoorK4
namespace Go.Proofs.V
open Go Go.RowKit
set_option linter.unusedVariables false
set_option linter.unusedSimpArgs false
theorem nohp_R1 {S : Addr → Option Value} {E E' : Nat → Option Nat} : ∀ (d : Nat) {x : AV} {v : Value}, nohp d x = true → R1 S E x v → R1 S E' x v
  | 0, x, v, h, _ => by cases x <;> simp [nohp] at h
  | d + 1, x, v, h, hr => by
    cases hr with
    | «at» v => exact .at v
    | nil own => exact .nil own
    | slice rows own b off cap sz val hlen hsz hfull hpl h1 h2 =>
      simp only [nohp, List.all_eq_true] at h
      refine .slice rows own b off cap sz val hlen hsz hfull hpl h1 (fun i j x hx => nohp_R1 d ?_ (h2 i j x hx))
      unfold cellAt at hx
      simp only [Option.bind_eq_some_iff] at hx
      obtain ⟨r, hr, hx⟩ := hx
      exact h r (List.mem_of_getElem? hr) x (List.mem_of_getElem? hx)
    | ref row off b o val hpl h1 h2 =>
      simp only [nohp, List.all_eq_true] at h
      exact .ref row off b o val hpl h1 (fun j x hx => nohp_R1 d (h x (List.mem_of_getElem? hx)) (h2 j x hx))
    | hp l off b h1 => simp [nohp] at h
    | fn f first captured fs cs hf hc h1 h2 =>
      simp only [nohp, Bool.and_eq_true, List.all_eq_true] at h
      exact .fn f first captured fs cs hf hc (fun j x v hx hv => nohp_R1 d (h.1 x (List.mem_of_getElem? hx)) (h1 j x v hx hv)) (fun j x v hx hv => nohp_R1 d (h.2 x (List.mem_of_getElem? hx)) (h2 j x v hx hv))
    | agg cs vs hl hpl h1 =>
      simp only [nohp, List.all_eq_true] at h
      exact .agg cs vs hl hpl (fun j x v hx hv => nohp_R1 d (h x (List.mem_of_getElem? hx)) (h1 j x v hx hv))
    | tup cs vs hl h1 =>
      simp only [nohp, List.all_eq_true] at h
      exact .tup cs vs hl (fun j x v hx hv => nohp_R1 d (h x (List.mem_of_getElem? hx)) (h1 j x v hx hv))
    | ifc t x v h1 =>
      simp only [nohp] at h
      exact .ifc t x v (nohp_R1 d h h1)
    | hs l off len cap sz b h1 => simp [nohp] at h

abbrev noE : Nat → Option Nat := fun _ => none
theorem CPost.drop {w w' : World} {S S' : Addr → Option Value} {E' : Nat → Option Nat} {r : AV} {H' : List (List AV)} {v : Value} {φ : Nat → Rw}
    (h : CPost w S noE r H' v S' E' φ w') (hr : H'.isEmpty = true ∨ nohp 9 r = true) : CPost w S noE r [] v S' noE φ w' where
  bel := h.bel
  sS := h.sS
  sN := h.sN
  mem := h.mem
  eS l b hb := by cases hb
  eN l b _ hb := by cases hb
  eH l b hb := by cases hb
  heap l cs hl := by simp at hl
  inj l l' b hb := by cases hb
  rv := by
    rcases hr with hr | hr
    · refine R1.mono (fun _ _ h => h) (fun l b hb => ?_) h.rv
      have := h.eH l b hb
      simp at hr; subst hr; simp at this
    · exact nohp_R1 9 hr h.rv
  nid := h.nid
  fresh j u rows nl hx hu := by
    obtain ⟨h1, h2, h3, h4, h5, h6, h7, h8, h9⟩ := h.fresh j u rows nl hx hu
    exact ⟨h1, h2, h3, h4, h5, h6, h7, h8, fun l hl => by cases hl⟩
  apart := h.apart

section
variable {E0 : Nat → Prop} {w0 : Ent} {Z : Nat → Prop} {G : Gh} {F : St} {a : Act} {w : World}
theorem Inv.objE (h : Inv E0 w0 Z G F a w) {l b : Nat} (hb : G.E l = some b) : (w0.heap.size ≤ b ∨ E0 b) ∧ G.u b = some (.obj l) ∧ b < w.heap.size := by
  have hl := h.rel.2.2.2.2 l b hb
  obtain ⟨b', vs, h1, h2, h3, h4⟩ := h.obj l F.H[l] (List.getElem?_eq_getElem hl)
  rw [hb] at h1
  cases h1
  exact ⟨h2, h3, h.live b (by rw [h3]; rfl)⟩

theorem CPost.lift (h : Inv E0 w0 Z G F a w) {w' : World} {S' : Addr → Option Value} {r : AV} {v : Value} {φ : Nat → Rw}
    (c : CPost w G.S noE r [] v S' noE φ w') : CPost w G.S G.E r F.H v S' G.E φ w' where
  bel := ⟨c.bel.os, c.bel.tape, c.bel.output, c.bel.size, fun k hk _ => c.bel.block k hk (by rintro ⟨l, hl⟩; cases hl)⟩
  sS := c.sS
  sN := c.sN
  mem := c.mem
  eS l b hb := hb
  eN l b h0 hb := by rw [h0] at hb; cases hb
  eH := h.rel.2.2.2.2
  heap l cs hl := by
    obtain ⟨b, vs, h1, h2, h3, ⟨ty, g1⟩, g2, gp, g3, g4⟩ := h.obj l cs hl
    have hb := h.live b (by rw [h3]; rfl)
    exact ⟨b, vs, h1, ⟨ty, (c.bel.block b hb (by rintro ⟨l, hl⟩; cases hl)).trans g1⟩, g2, gp, fun j x v hx hv => R1.mono c.sS (fun _ _ h => h) (g3 j x v hx hv), fun ad ha => c.sN ad (g4 ad ha) (by rw [ha]; exact hb)⟩
  inj l l' b h1 h2 := by
    have e1 := (h.objE h1).2.1
    have e2 := (h.objE h2).2.1
    rw [e1] at e2
    cases e2
    rfl
  rv := R1.mono (fun _ _ h => h) (fun l b hb => by cases hb) c.rv
  nid := c.nid
  fresh j u rows nl hx hu := by
    obtain ⟨h1, h2, h3, h4, h5, h6, h7, h8, h9⟩ := c.fresh j u rows nl hx hu
    exact ⟨h1, h2, h3, h4, h5, h6, h7, h8, fun l hl => by have := (h.objE hl).2.2; omega⟩
  apart := c.apart

theorem R1.parts {S : Addr → Option Value} {E : Nat → Option Nat} {r : AV} {v : Value} (h : R1 S E r v) {j : Nat} {rows : List (List AV)} {nl : Bool} {own : Own}
    (hj : (V.parts r)[j]? = some (.slice rows nl own)) : ∃ u, (vparts v)[j]? = some u := by
  cases h with
  | «at» v => cases j <;> simp [V.parts] at hj
  | agg cs vs hl hpl h =>
    simp only [V.parts] at hj
    have : j < cs.length := (List.getElem?_eq_some_iff.1 hj).1
    exact ⟨vs[j]'(by omega), by simp only [vparts]; exact List.getElem?_eq_getElem (by simpa using by omega)⟩
  | tup cs vs hl h =>
    simp only [V.parts] at hj
    have : j < cs.length := (List.getElem?_eq_some_iff.1 hj).1
    exact ⟨vs[j]'(by omega), by simp only [vparts]; exact List.getElem?_eq_getElem (by simpa using by omega)⟩
  | nil own => cases j with
    | zero => exact ⟨_, rfl⟩
    | succ j => simp [V.parts] at hj
  | slice rows own b off cap sz val hlen hsz hfull hpl h1 h2 => cases j with
    | zero => exact ⟨_, rfl⟩
    | succ j => simp [V.parts] at hj
  | ref row off b o val hpl h1 h2 => cases j <;> simp [V.parts] at hj
  | hp l off b h => cases j <;> simp [V.parts] at hj
  | fn f first captured fs cs hf hc h1 h2 => cases j <;> simp [V.parts] at hj
  | ifc t x v h => cases j <;> simp [V.parts] at hj
  | hs l off len cap sz b h => cases j <;> simp [V.parts] at hj

theorem freshAt_iff : ∀ (l : List AV) (lab n : Nat), freshAt lab l n = true → ∃ j rows nl, l[j]? = some (.slice rows nl .fresh) ∧ n = lab + j
  | [], lab, n, h => by simp [freshAt] at h
  | x :: xs, lab, n, h => by
    have key : freshAt (lab + 1) xs n = true → ∃ j rows nl, (x :: xs)[j]? = some (.slice rows nl .fresh) ∧ n = lab + j := fun h => by
      obtain ⟨j, rows, nl, h1, h2⟩ := freshAt_iff _ _ _ h
      exact ⟨j + 1, rows, nl, by simpa using h1, by omega⟩
    cases x with
    | slice rows nl own =>
      cases own with
      | fresh =>
        simp only [freshAt, Bool.or_eq_true, beq_iff_eq] at h
        rcases h with h | h
        · exact ⟨0, rows, nl, rfl, by omega⟩
        · exact key h
      | _ => exact key h
    | _ => exact key h
theorem freshR_iff {r : AV} {lab n : Nat} (h : freshR lab r n = true) : ∃ j rows nl, (parts r)[j]? = some (.slice rows nl .fresh) ∧ n = lab + j := by
  cases r with
  | tup cs => exact freshAt_iff _ _ _ h
  | agg cs => exact freshAt_iff _ _ _ h
  | slice rows nl own =>
    cases own with
    | fresh =>
      simp only [freshR, beq_iff_eq] at h
      exact ⟨0, rows, nl, rfl, by omega⟩
    | _ => cases h
  | _ => cases h
theorem sizeR_parts {r : AV} (hr : ∀ g cs, r ≠ .box g cs) {j : Nat} {x : AV} (h : (parts r)[j]? = some x) : j < sizeR r := by
  have := (List.getElem?_eq_some_iff.1 h).1
  cases r with
  | box g cs => exact (hr g cs rfl).elim
  | _ => simpa [parts, sizeR] using this
theorem R1.nobox {S : Addr → Option Value} {E : Nat → Option Nat} {r : AV} {v : Value} (h : R1 S E r v) : ∀ g cs, r ≠ .box g cs := by
  rintro g cs rfl
  cases h

open Classical in
/-- What is known behind a call. -/
noncomputable def Gcall (G : Gh) (w : World) (lab : Nat) (r : AV) (S' : Addr → Option Value) (E' : Nat → Option Nat) (φ : Nat → Rw) : Gh where
  S := S'
  B := G.B
  E := E'
  u b := if b < w.heap.size then G.u b else if h : ∃ l, E' l = some b then some (.obj h.choose) else if h : ∃ j, (∃ rows nl, (parts r)[j]? = some (.slice rows nl .fresh)) ∧ (φ j).b = b then some (.row (lab + h.choose)) else none
  ρ n := if lab ≤ n ∧ n < lab + 64 then φ (n - lab) else G.ρ n

theorem RV.mono {G G' : Gh} (hS : ∀ a v, G.S a = some v → G'.S a = some v) (hE : ∀ l b, G.E l = some b → G'.E l = some b) (hB : ∀ l b, G.B l = some b → G'.B l = some b) {x : AV} {v : Value} (h : RV G x v) : RV G' x v := by
  cases x with
  | fp a b c => obtain ⟨k, h1, h2⟩ := h; exact ⟨k, hB _ _ h1, h2⟩
  | box a b => obtain ⟨k, h1, h2⟩ := h; exact ⟨k, hB _ _ h1, h2⟩
  | _ => exact R1.mono hS hE h

theorem inv_move (h : Inv E0 w0 Z G F a w) {w' : World} {S' : Addr → Option Value} {E' : Nat → Option Nat} {r : AV} {H' : List (List AV)} {v : Value} {φ : Nat → Rw} {lab : Nat} {al' : Nat → Bool}
    (c : CPost w G.S G.E r H' v S' E' φ w') (hz : ∀ n, Z n → ¬ (lab ≤ n ∧ n < lab + 64)) (hal : ∀ n, al' n = true → F.al n = true ∨ (freshR lab r n = true ∧ sizeR r ≤ 64)) :
    Inv E0 w0 (fun n => Z n ∨ (lab ≤ n ∧ n < lab + 64)) (Gcall G w lab r S' E' φ) { F with H := H', al := al' } a w' := by
  have hfr : ∀ {n}, (freshR lab r n = true ∧ sizeR r ≤ 64) → lab ≤ n ∧ n < lab + 64 := by
    rintro n ⟨hn, hsz⟩
    obtain ⟨j, rows, nl, h1, h2⟩ := freshR_iff hn
    have := sizeR_parts c.rv.nobox h1
    omega
  have hE : ∀ l b, G.E l = some b → E' l = some b := c.eS
  have hold : ∀ b, b < w.heap.size → (∀ l, G.E l ≠ some b) → w'.heap[b]? = w.heap[b]? := fun b hb hl => c.bel.block b hb (by rintro ⟨l, h⟩; exact hl l h)
  have hu : ∀ b, b < w.heap.size → (Gcall G w lab r S' E' φ).u b = G.u b := fun b hb => by simp [Gcall, hb]
  have hρ : ∀ n, Z n → (Gcall G w lab r S' E' φ).ρ n = G.ρ n := fun n hn => by simp only [Gcall]; rw [if_neg (hz n hn)]
  have hala : ∀ n, Z n → al' n = true → F.al n = true := fun n hn ha => (hal n ha).resolve_right (fun hf => hz n hn (hfr hf))
  have hCl1 : ∀ {x : AV} {u : Value}, (∀ rows nl n, x = .slice rows nl (.id n) → Z n) → Cl1 G F.al x u → Cl1 (Gcall G w lab r S' E' φ) al' x u := by
    intro x u hx hc rows nl n he ha
    rw [hρ n (hx rows nl n he)]
    exact hc rows nl n he (hala n (hx rows nl n he) ha)
  refine ⟨h.nsz, h.df, fun i => RV.mono (G := G) (G' := Gcall G w lab r S' E' φ) c.sS c.eS (fun _ _ h => h) (h.slot i), fun i hb j y u hy hu' => hCl1 (fun rows nl n he => h.ids i n ⟨y, List.mem_of_getElem? hy, rows, nl, he⟩) (h.cl i hb j y u hy hu'),
    fun i n hi => .inl (h.ids i n hi), c.mem, ⟨c.bel.os.trans h.bel.os, c.bel.tape.trans h.bel.tape, c.bel.output.trans h.bel.output, Nat.le_trans h.bel.size c.bel.size, fun k hk he => ?_⟩,
    ⟨fun ad v hv => c.sS _ _ (h.rel.1 ad v hv), fun ad h0 hb he => c.sN _ (h.rel.2.1 ad h0 hb he) (Nat.lt_of_lt_of_le hb h.bel.size), fun l b hb => c.eS _ _ (h.rel.2.2.1 l b hb), fun l b h0 hb => ?_, c.eH⟩, fun i g cs hc => ?_, fun n ha => ?_, fun l cs hl => ?_,
    fun g b hb => .inl (h.zB g b hb), fun n ha => ?_, fun b hb => ?_, fun b o hb => by
      obtain ⟨p1, p2, p3⟩ := h.pro b o hb
      have hlt := (Array.getElem?_eq_some_iff.1 p1).1
      exact ⟨(hold b hlt fun l hl => by
        have := (h.objE hl).2.1
        rw [p2] at this
        cases this).trans p1, (hu b hlt).trans p2, fun hf ad ha => c.sN ad (p3 hf ad ha) (by rw [ha]; exact hlt)⟩, h.bm⟩
  · refine (c.bel.block k (Nat.lt_of_lt_of_le hk h.bel.size) ?_).trans (h.bel.block k hk he)
    rintro ⟨l, hl⟩
    rcases (h.objE hl).1 with h1 | h1
    · omega
    · exact he h1
  · have hb : E' l = some b := hb
    cases hl : G.E l with
    | none =>
      have := (c.eN l b hl hb).1
      have := h.bel.size
      show w0.heap.size ≤ b
      omega
    | some b' =>
      have := c.eS l b' hl
      rw [hb] at this
      cases this
      exact h.rel.2.2.2.1 l b h0 hl
  · obtain ⟨b, vs, h1, h2, h3, ⟨⟨ty, g1⟩, g2, gp, g3, g4⟩, h5⟩ := h.box i g cs hc
    have hb := h.live b (by rw [h3]; rfl)
    refine ⟨b, vs, h1, h2, (hu b hb).trans h3, ⟨⟨ty, (hold b hb fun l hl => ?_).trans g1⟩, g2, gp, fun j x v hx hv => R1.mono c.sS c.eS (g3 j x v hx hv), fun ad ha => c.sN ad (g4 ad ha) (by rw [ha]; exact hb)⟩, fun j x v hx hv => hCl1 (fun rows nl n he => h.ids i n ?_) (h5 j x v hx hv)⟩
    · have := (h.objE hl).2.1
      rw [h3] at this
      cases this
    · rw [show F.t i = .box g cs from hc]
      exact ⟨x, List.mem_of_getElem? hx, rows, nl, he⟩
  · have ha : al' n = true := ha
    rcases hal n ha with ho | hf
    · obtain ⟨h1, h2, ⟨vs, ty, h3, h3'⟩, h4, h5⟩ := h.row n ho
      have hb := h.live _ (by rw [h2]; rfl)
      rw [hρ n (h.zal n ho)]
      refine ⟨h1, (hu _ hb).trans h2, ⟨vs, ty, (hold _ hb fun l hl => ?_).trans h3, h3'⟩, h4, fun o ho => c.sN _ (h5 o ho) hb⟩
      have := (h.objE hl).2.1
      rw [h2] at this
      cases this
    · obtain ⟨hf, hsz⟩ := hf
      obtain ⟨j, rows, nl, hp, rfl⟩ := freshR_iff hf
      have hj := sizeR_parts c.rv.nobox hp
      obtain ⟨u, hu'⟩ := c.rv.parts hp
      obtain ⟨h1, h2, h3, h4, h5, h6, h7, h8, h9⟩ := c.fresh j u rows nl hp hu'
      have hr' : (Gcall G w lab r S' E' φ).ρ (lab + j) = φ j := by
        simp only [Gcall]
        rw [if_pos (by omega)]
        congr 1
        omega
      rw [hr']
      refine ⟨Nat.le_trans h.bel.size h5, ?_, h6, h7, h8⟩
      have hex : ∃ k, (∃ rows nl, (parts r)[k]? = some (.slice rows nl .fresh)) ∧ (φ k).b = (φ j).b := ⟨j, ⟨rows, nl, hp⟩, rfl⟩
      simp only [Gcall]
      rw [if_neg (by omega), dif_neg (by rintro ⟨l, hl⟩; exact h9 l hl), dif_pos hex]
      obtain ⟨⟨rows', nl', hp'⟩, he⟩ := hex.choose_spec
      rw [c.apart _ _ _ _ _ _ hp' hp he]
  · obtain ⟨b, vs, h1, h2⟩ := c.heap l cs hl
    refine ⟨b, vs, h1, ?_, ?_, h2⟩
    · cases hE1 : G.E l with
      | none => exact .inl (Nat.le_trans h.bel.size (c.eN l b hE1 h1).1)
      | some b' =>
        have := c.eS l b' hE1
        rw [h1] at this
        cases this
        exact (h.objE hE1).1
    · cases hE1 : G.E l with
      | none =>
        have hb := (c.eN l b hE1 h1).1
        have hex : ∃ l, E' l = some b := ⟨l, h1⟩
        simp only [Gcall]
        rw [if_neg (by omega), dif_pos hex]
        rw [c.inj _ _ _ hex.choose_spec h1]
      | some b' =>
        have := c.eS l b' hE1
        rw [h1] at this
        cases this
        exact (hu b (h.objE hE1).2.2).trans (h.objE hE1).2.1
  · rcases hal n ha with ho | hf
    · exact .inl (h.zal n ho)
    · exact .inr (hfr hf)
  · simp only [Gcall] at hb
    split at hb
    · rename_i hlt
      exact Nat.lt_of_lt_of_le hlt c.bel.size
    · split at hb
      · rename_i hge hex
        obtain ⟨l, hl⟩ := hex
        obtain ⟨b', vs, h1, ⟨ty, h2⟩, _⟩ := c.heap l (H'[l]'(c.eH l b hl)) (List.getElem?_eq_getElem (c.eH l b hl))
        rw [hl] at h1
        cases h1
        rcases Nat.lt_or_ge b w'.heap.size with h | h
        · exact h
        · rw [Array.getElem?_eq_none h] at h2; cases h2
      · split at hb
        · rename_i hge hnex hex
          obtain ⟨j, ⟨rows, nl, hp⟩, rfl⟩ := hex
          obtain ⟨u, hu'⟩ := c.rv.parts hp
          obtain ⟨h1, h2, h3, h4, h5, ⟨vs, ty, h6, _⟩, h7, h8, h9⟩ := c.fresh j u rows nl hp hu'
          rcases Nat.lt_or_ge (φ j).b w'.heap.size with h | h
          · exact h
          · rw [Array.getElem?_eq_none h] at h6; cases h6
        · cases hb
end
theorem adopt_R1 {S : Addr → Option Value} {E : Nat → Option Nat} {lab : Nat} {x : AV} {v : Value} (h : R1 S E x v) : R1 S E (adopt lab x) v := by
  cases h with
  | nil own => cases own <;> exact .nil _
  | slice rows own b off cap sz val hlen hsz hfull hpl h1 h2 =>
    cases own with
    | no => exact .slice rows .no b off cap sz val hlen hsz (by intro h; cases h) hpl h1 h2
    | full => exact .slice rows .full b off cap sz val hlen hsz hfull hpl h1 h2
    | fresh => exact .slice rows (.id lab) b off cap sz val hlen hsz (by intro h; cases h) hpl h1 h2
    | id n => exact .slice rows (.id n) b off cap sz val hlen hsz (by intro h; cases h) hpl h1 h2
  | «at» v => exact .at v
  | ref row off b o val hpl h1 h2 => exact .ref row off b o val hpl h1 h2
  | hp l off b h => exact .hp l off b h
  | fn f first captured fs cs hf hc h1 h2 => exact .fn f first captured fs cs hf hc h1 h2
  | agg cs vs hl hpl h => exact .agg cs vs hl hpl h
  | tup cs vs hl h => exact .tup cs vs hl h
  | ifc t x v h => exact .ifc t x v h
  | hs l off len cap sz b h => exact .hs l off len cap sz b h
theorem adoptAt_get : ∀ (l : List AV) (lab j : Nat), (adoptAt lab l)[j]? = (l[j]?).map (adopt (lab + j))
  | [], lab, j => by simp [adoptAt]
  | x :: xs, lab, 0 => by simp [adoptAt]
  | x :: xs, lab, j + 1 => by simp [adoptAt, adoptAt_get xs (lab + 1) j]; congr 2; omega
theorem adoptAt_len : ∀ (l : List AV) (lab : Nat), (adoptAt lab l).length = l.length
  | [], _ => rfl
  | x :: xs, lab => by simp [adoptAt, adoptAt_len xs]
theorem plain_adopt (lab : Nat) (x : AV) : (adopt lab x).plain = x.plain := by
  unfold adopt; split <;> rfl
theorem adoptR_R1 {S : Addr → Option Value} {E : Nat → Option Nat} {lab : Nat} {x : AV} {v : Value} (h : R1 S E x v) : R1 S E (adoptR lab x) v := by
  cases h with
  | agg cs vs hl hpl h =>
    refine .agg _ _ (by rw [adoptAt_len]; exact hl) (fun x hx => ?_) (fun j x v hx hv => ?_)
    · obtain ⟨j, hj⟩ := List.getElem?_of_mem hx
      rw [adoptAt_get] at hj
      simp only [Option.map_eq_some_iff] at hj
      obtain ⟨y, hy, rfl⟩ := hj
      rw [plain_adopt]
      exact hpl y (List.mem_of_getElem? hy)
    · rw [adoptAt_get] at hx
      simp only [Option.map_eq_some_iff] at hx
      obtain ⟨y, hy, rfl⟩ := hx
      exact adopt_R1 (h j y v hy hv)
  | tup cs vs hl h =>
    refine .tup _ _ (by rw [adoptAt_len]; exact hl) (fun j x v hx hv => ?_)
    rw [adoptAt_get] at hx
    simp only [Option.map_eq_some_iff] at hx
    obtain ⟨y, hy, rfl⟩ := hx
    exact adopt_R1 (h j y v hy hv)
  | «at» v => exact .at v
  | nil own => exact adopt_R1 (.nil own)
  | slice rows own b off cap sz val hlen hsz hfull hpl h1 h2 => exact adopt_R1 (.slice rows own b off cap sz val hlen hsz hfull hpl h1 h2)
  | ref row off b o val hpl h1 h2 => exact .ref row off b o val hpl h1 h2
  | hp l off b h => exact .hp l off b h
  | fn f first captured fs cs hf hc h1 h2 => exact .fn f first captured fs cs hf hc h1 h2
  | ifc t x v h => exact .ifc t x v h
  | hs l off len cap sz b h => exact .hs l off len cap sz b h
theorem parts_adoptR {r : AV} (hr : ∀ g cs, r ≠ .box g cs) (lab j : Nat) : (parts (adoptR lab r))[j]? = ((parts r)[j]?).map (adopt (lab + j)) := by
  cases r with
  | agg cs => exact adoptAt_get cs lab j
  | tup cs => exact adoptAt_get cs lab j
  | box g cs => exact (hr g cs rfl).elim
  | slice rows nl own => cases j <;> cases own <;> simp [adoptR, adopt, parts]
  | _ => cases j <;> simp [adoptR, adopt, parts]
theorem adopt_id {lab : Nat} {x : AV} {rows : List (List AV)} {nl : Bool} {n : Nat} (h : adopt lab x = .slice rows nl (.id n)) : (x = .slice rows nl .fresh ∧ n = lab) ∨ x = .slice rows nl (.id n) := by
  unfold adopt at h
  split at h
  · cases h; exact .inl ⟨rfl, rfl⟩
  · exact .inr h

section
variable {E0 : Nat → Prop} {w0 : Ent} {Z : Nat → Prop} {G : Gh} {F : St} {a : Act} {w : World}
theorem inv_call (h : Inv E0 w0 Z G F a w) {w' : World} {S' : Addr → Option Value} {E' : Nat → Option Nat} {r : AV} {H' : List (List AV)} {v : Value} {φ : Nat → Rw} {lab d : Nat}
    (c : CPost w G.S G.E r H' v S' E' φ w') (hz : ∀ n, Z n → ¬ (lab ≤ n ∧ n < lab + 64)) (hsz : sizeR r ≤ 64) (hd : d < F.n) :
    Inv E0 w0 (fun n => Z n ∨ (lab ≤ n ∧ n < lab + 64)) (Gcall G w lab r S' E' φ) { F with H := H', al := markR lab F.al r, t := upd F.t d (adoptR lab r) } (a.put (some d) v) w' := by
  have hm := inv_move h c hz (al' := markR lab F.al r) (fun n hn => Or.imp id (fun h => ⟨h, hsz⟩) (show F.al n = true ∨ freshR lab r n = true by simpa [markR] using hn))
  have hbox := c.rv.nobox
  have hr := adoptR_R1 (lab := lab) c.rv
  refine hm.set hd hr.nobox (RV_of hr) ?_ ?_
  · intro j y u hy hu rows nl n he ha
    subst he
    rw [parts_adoptR hbox] at hy
    simp only [Option.map_eq_some_iff] at hy
    obtain ⟨x, hx, hxy⟩ := hy
    rcases adopt_id hxy with ⟨rfl, rfl⟩ | rfl
    · obtain ⟨h1, h2, h3, h4, h5, h6, h7, h8, h9⟩ := c.fresh j u rows nl hx hu
      have hj := sizeR_parts hbox hx
      have hr' : (Gcall G w lab r S' E' φ).ρ (lab + j) = φ j := by
        simp only [Gcall]
        rw [if_pos (by omega)]
        congr 1
        omega
      rw [hr']
      exact ⟨h1, h2, h3, h4⟩
    · exact (c.nid n ⟨_, List.mem_of_getElem? hx, rows, nl, rfl⟩).elim
  · rintro n ⟨y, hy, rows, nl, rfl⟩
    obtain ⟨j, hj⟩ := List.getElem?_of_mem hy
    rw [parts_adoptR hbox] at hj
    simp only [Option.map_eq_some_iff] at hj
    obtain ⟨x, hx, hxy⟩ := hj
    rcases adopt_id hxy with ⟨rfl, rfl⟩ | rfl
    · have hj := sizeR_parts hbox hx
      exact .inr (by omega)
    · exact (c.nid n ⟨_, List.mem_of_getElem? hx, rows, nl, rfl⟩).elim

/-- The same, where the result keeps no marks. -/
theorem inv_call_bare (h : Inv E0 w0 Z G F a w) {w' : World} {S' : Addr → Option Value} {E' : Nat → Option Nat} {r : AV} {H' : List (List AV)} {v : Value} {φ : Nat → Rw} {lab d : Nat}
    (c : CPost w G.S G.E r H' v S' E' φ w') (hz : ∀ n, Z n → ¬ (lab ≤ n ∧ n < lab + 64)) (hd : d < F.n) :
    Inv E0 w0 (fun n => Z n ∨ (lab ≤ n ∧ n < lab + 64)) (Gcall G w lab r S' E' φ) { F with H := H', t := upd F.t d (strip r) } (a.put (some d) v) w' := by
  have hm := inv_move h c hz (al' := F.al) (fun n hn => .inl hn)
  have hr := strip_R1 c.rv
  refine hm.set hd hr.nobox (RV_of hr) (Cl_of_noId (noId_strip c.rv.nobox)) ?_
  intro n hn
  exact (noId_strip c.rv.nobox n hn).elim
end
end Go.Proofs.V
namespace Go.Proofs.V
open Go Go.RowKit
set_option linter.unusedVariables false
set_option linter.unusedSimpArgs false
section
variable {E0 : Nat → Prop} {w0 : Ent} {Z : Nat → Prop} {G : Gh} {F : St} {a : Act} {w : World} {P : Program} {lab : Nat}
/-- No fence; in a round, or not. -/
def Fx (ro : Option Nat) : Fence := { Fence.wide with round := ro }
theorem wide_fn {ro : Option Nat} (f : FuncId) : (Fx ro).fn f := trivial
theorem calls_Fx {ro : Option Nat} {n : Nat} {P : Program} {g : Nat} {vs : Array Value} {w : World} {R : Ending → World → Prop} (h : CallsIn Fence.wide n P g vs w R) : CallsIn (Fx ro) n P g vs w R := h
theorem semAt_run {ro : Option Nat} {ρ : Operand → Value} {o : Oper} {P : Program} {w w' : World} {nx : Next} (h : (execOp ρ o).run P w = .ok nx w') (hn : ∀ d, nx ≠ .defer d) : o.semAt ro ρ = execOp ρ o := by
  refine Oper.semAt_eq ro ρ o fun c hc => ?_
  unfold execOp at h
  rw [hc] at h
  simp only [Sem.run_bind] at h
  cases hr : (resolve ρ c o.type).run P w with
  | ok d w1 =>
    rw [hr] at h
    simp only [Result.andThen, Sem.run_pure] at h
    cases h
    exact hn _ rfl
  | halt e w1 => rw [hr] at h; simp [Result.andThen] at h
/-- An operation whose run is known. -/
theorem wp_value {ro : Option Nat} {n : Nat} {o : Oper} {next : Act → World → Prop} {Q : Exit → Act → World → Prop} {v : Value} {w' : World} (hr : (execOp a.eval o).run P w = .ok (.value v) w') (h : next (a.put o.dst v) w') : o.wpIn (Fx ro) n P a w next Q := by
  refine ⟨fun f _ => wide_fn f, ?_⟩
  rw [semAt_run hr (by intro d e; cases e), hr]
  exact h
theorem wp_skip {ro : Option Nat} {n : Nat} {o : Oper} {next : Act → World → Prop} {Q : Exit → Act → World → Prop} {w' : World} (hr : (execOp a.eval o).run P w = .ok .skip w') (h : next (a.put o.dst undef) w') : o.wpIn (Fx ro) n P a w next Q := by
  refine ⟨fun f _ => wide_fn f, ?_⟩
  rw [semAt_run hr (by intro d e; cases e), hr]
  exact h
theorem wp_enter {ro : Option Nat} {n : Nat} {o : Oper} {next : Act → World → Prop} {Q : Exit → Act → World → Prop} {g : Nat} {vs : Array Value} {R : Value → World → Prop} (hr : (execOp a.eval o).run P w = .ok (.enter g vs) w)
    (hc : ∀ n, CallsIn Fence.wide n P g vs w fun e w' => ∃ v, e = .returned v ∧ R v w') (h : ∀ v w', R v w' → next (a.put o.dst v) w') : o.wpIn (Fx ro) n P a w next Q := by
  refine ⟨fun f _ => wide_fn f, ?_⟩
  rw [semAt_run hr (by intro d e; cases e), hr]
  refine ⟨fun hd => (by cases hd), (calls_Fx (hc (n - 1))).mono ?_⟩
  intro e w' he
  obtain ⟨v, rfl, hR⟩ := he
  exact h v w' hR

theorem target_inv {x : AV} {g : Nat} {first captured : List AV} (h : target x = some (g, first, captured)) : x = .fn (.func g) first captured := by
  unfold target at h
  split at h
  · cases h; rfl
  · cases h

theorem evs_get (h : Inv E0 w0 Z G F a w) : ∀ (l : List Operand) (j : Nat) (x : AV) (v : Value), (evs F l)[j]? = some x → (l.map a.eval)[j]? = some v → Opd G F Z x v
  | [], j, x, v, hx, _ => by simp [evs] at hx
  | y :: l, 0, x, v, hx, hv => by simp [evs] at hx hv; subst hx; subst hv; exact opd h y
  | y :: l, j + 1, x, v, hx, hv => evs_get h l j x v (by simpa [evs] using hx) (by simpa using hv)
theorem evs_len (F : St) : ∀ l : List Operand, (evs F l).length = l.length
  | [] => rfl
  | x :: l => by simp [evs, evs_len F l]

theorem sameL_eq {α : Type} {f : α → α → Bool} (hf : ∀ x y, f x y = true → x = y) : ∀ (l l' : List α), sameL f l l' = true → l = l'
  | [], [], _ => rfl
  | [], _ :: _, h => by simp [sameL] at h
  | _ :: _, [], h => by simp [sameL] at h
  | x :: xs, y :: ys, h => by
    simp only [sameL, Bool.and_eq_true] at h
    rw [hf x y h.1, sameL_eq hf xs ys h.2]
theorem sameV_eq {u v : Value} (h : sameV u v = true) : u = v := by
  unfold sameV at h
  split at h
  · simp at h; rw [h]
  · simp at h; rw [h.1, h.2]
  · rename_i a b
    simp at h
    cases a; cases b
    simp at h
    rw [h]
  · rfl
  · rfl
  · rfl
  · cases h
theorem sameA_eq : ∀ (d : Nat) (x y : AV), sameA d x y = true → x = y
  | 0, x, y, h => by simp [sameA] at h
  | d + 1, x, y, h => by
    unfold sameA at h
    split at h
    · rw [sameV_eq h]
    · simp only [Bool.and_eq_true, beq_iff_eq, decide_eq_true_eq] at h
      obtain ⟨⟨h1, h2⟩, h3⟩ := h
      rw [sameL_eq (sameL_eq (sameA_eq d)) _ _ h1, h2, h3]
    · simp only [Bool.and_eq_true, beq_iff_eq] at h
      rw [sameL_eq (sameA_eq d) _ _ h.1, h.2]
    · simp only [Bool.and_eq_true, beq_iff_eq] at h
      rw [h.1, h.2]
    · simp only [Bool.and_eq_true, beq_iff_eq] at h
      obtain ⟨⟨⟨⟨h1, h2⟩, h3⟩, h4⟩, h5⟩ := h
      rw [h1, h2, h3, h4, h5]
    · rw [sameL_eq (sameA_eq d) _ _ h]
    · cases h
theorem appendB_some {draw : Bool} {ds : List Nat} {P : Program} {F : St} {lab : Nat} {t : TypeId} {s x : AV} {xt : Option TypeId} {r : AV × (Nat → Bool)} (h : appendB draw ds P F lab t s x xt = some r) : appendA P F lab t s x xt = some r := by
  unfold appendB at h
  split at h
  · cases h
  · exact h
theorem sameH_eq {H H' : List (List AV)} (h : sameH H H' = true) : H = H' := sameL_eq (sameL_eq (sameA_eq 9)) H H' h
theorem drawE_some {cfg : Cfg} {ds : List Nat} {o : Oper} {F F' : St} {r : AV} {H : List (List AV)} (h : drawE cfg ds o F r H = some F') : St.put { F with H := H } o.dst (strip r) = some F' := by
  unfold drawE at h
  split at h
  · split at h
    · exact h
    · cases h
  · split at h
    · rename_i hs
      have e := sameH_eq hs
      subst e
      exact h
    · cases h

/-- Lists side by side. -/
def All2 (R : AV → Value → Prop) (xs : List AV) (vs : List Value) : Prop := vs.length = xs.length ∧ ∀ (j : Nat) (x : AV) (v : Value), xs[j]? = some x → vs[j]? = some v → R x v
theorem All2.append {R : AV → Value → Prop} {xs ys : List AV} {us vs : List Value} (h : All2 R xs us) (k : All2 R ys vs) : All2 R (xs ++ ys) (us ++ vs) := by
  refine ⟨by simp [h.1, k.1], fun j x v hx hv => ?_⟩
  by_cases hj : j < xs.length
  · rw [List.getElem?_append_left hj] at hx
    rw [List.getElem?_append_left (by rw [h.1]; exact hj)] at hv
    exact h.2 j x v hx hv
  · rw [List.getElem?_append_right (by omega)] at hx
    rw [List.getElem?_append_right (by rw [h.1]; omega), h.1] at hv
    exact k.2 _ x v hx hv
theorem All2.map {R R' : AV → Value → Prop} {xs : List AV} {vs : List Value} (h : All2 R xs vs) {f : AV → AV} (hf : ∀ x v, x ∈ xs → R x v → R' (f x) v) : All2 R' (xs.map f) vs := by
  refine ⟨by simp [h.1], fun j x v hx hv => ?_⟩
  rw [List.getElem?_map] at hx
  simp only [Option.map_eq_some_iff] at hx
  obtain ⟨y, hy, rfl⟩ := hx
  exact hf y v (List.mem_of_getElem? hy) (h.2 j y v hy hv)

theorem hpre (h : Inv E0 w0 Z G F a w) : HPre w G.S G.E F.H where
  mem := h.mem
  eH := h.rel.2.2.2.2
  heap l cs hl := by
    obtain ⟨b, vs, h1, h2, h3, h4⟩ := h.obj l cs hl
    exact ⟨b, vs, h1, h4⟩
  inj l l' b h1 h2 := by
    have e1 := (h.objE h1).2.1
    have e2 := (h.objE h2).2.1
    rw [e1] at e2
    cases e2
    rfl
theorem hpre0 (h : Inv E0 w0 Z G F a w) : HPre w G.S noE [] where
  mem := h.mem
  eH l b hb := by cases hb
  heap l cs hl := by simp at hl
  inj l l' b h1 := by cases h1

/-- The contracts that the evaluator leans on. -/
structure Sound (cfg : Cfg) (K : KF) : Prop where
  k : ∀ g as H r H', K g as H = some (r, H') → CSound cfg.P g as H r H'
  x : ∀ g s as r, cfg.ext g = some s → s as = some r → CSound cfg.P g as [] r []

theorem callQ_sound {cfg : Cfg} {K : KF} (hs : Sound cfg K) {g : Nat} {as : List AV} {r : AV} (hq : callQ cfg K g as = some r) :
    ∀ (w : World) (S : Addr → Option Value) (vs : List Value), HPre w S noE [] → (∀ x ∈ as, NoId x) → vs.length = as.length → (∀ (j : Nat) (x : AV) (v : Value), as[j]? = some x → vs[j]? = some v → R1 S noE x v) →
      Does cfg.P g vs.toArray w fun v w' => ∃ S' φ, CPost w S noE r [] v S' noE φ w' := by
  intro w S vs hp hni hl ha
  unfold callQ at hq
  split at hq
  · rename_i s hx
    have := hs.x g s as r hx hq w S noE vs hp hni hl ha
    have conv : ∀ v w', (∃ S' E' φ, CPost w S noE r [] v S' E' φ w') → ∃ S' φ, CPost w S noE r [] v S' noE φ w' := fun v w' ⟨S', E', φ, h⟩ => ⟨S', φ, h.drop (.inl rfl)⟩
    rcases this with ⟨v, w', h1, h2⟩ | ⟨h1, h2⟩
    · exact .inl ⟨v, w', h1, conv v w' h2⟩
    · exact .inr ⟨h1, fun n => (h2 n).mono fun e w' ⟨v, he, hv⟩ => ⟨v, he, conv v w' hv⟩⟩
  · split at hq
    · rename_i r' H' hk
      split at hq
      · rename_i hc
        cases hq
        have := hs.k g as [] r H' hk w S noE vs hp hni hl ha
        have conv : ∀ v w', (∃ S' E' φ, CPost w S noE r H' v S' E' φ w') → ∃ S' φ, CPost w S noE r [] v S' noE φ w' := fun v w' ⟨S', E', φ, h⟩ => ⟨S', φ, h.drop (by simpa using hc)⟩
        rcases this with ⟨v, w', h1, h2⟩ | ⟨h1, h2⟩
        · exact .inl ⟨v, w', h1, conv v w' h2⟩
        · exact .inr ⟨h1, fun n => (h2 n).mono fun e w' ⟨v, he, hv⟩ => ⟨v, he, conv v w' hv⟩⟩
      · cases hq
    · cases hq

theorem Does.wp {ro : Option Nat} {n : Nat} {o : Oper} {next : Act → World → Prop} {Q : Exit → Act → World → Prop} {g : Nat} {vs : Array Value} {R : Value → World → Prop} (hd : Does P g vs w R)
    (he : (execOp a.eval o).run P w = (callFunc g vs).run P w) (h : ∀ v w', R v w' → next (a.put o.dst v) w') : o.wpIn (Fx ro) n P a w next Q := by
  rcases hd with ⟨v, w', h1, h2⟩ | ⟨h1, h2⟩
  · exact wp_value (he.trans h1) (h v w' h2)
  · exact wp_enter (he.trans h1) h2 h

/-- The arguments of a call of a value. -/
theorem call_args (h : Inv E0 w0 Z G F a w) {o : Oper} {f : Operand} {args : Array Operand} {ts : Array TypeId} (ho : o.op = .call { callee := .value f, args, argTypes := ts }) {g : Nat} {first captured : List AV} (ht : target (F.ev f) = some (g, first, captured))
    (hfree : (first ++ evs F args.toList ++ captured).all AV.free = true) :
    ∃ vs : List Value, (execOp a.eval o).run P w = (callFunc g vs.toArray).run P w ∧ All2 (fun x v => R1 G.S G.E x v) ((first ++ evs F args.toList ++ captured).map strip) vs := by
  have hf := (opd h f).rv
  rw [target_inv ht] at hf
  have hf : R1 G.S G.E (.fn (.func g) first captured) (a.eval f) := hf
  generalize hq : a.eval f = q at hf
  cases hf with
  | fn _ _ _ fs cs hf hc h1 h2 =>
    refine ⟨fs ++ args.toList.map a.eval ++ cs, ?_, ?_⟩
    · have e : (fs ++ args.toList.map a.eval ++ cs).toArray = fs.toArray ++ args.map a.eval ++ cs.toArray := by
        rw [toArr a.eval args]; simp
      rw [e]
      simp [execOp, ho, resolve, hq, Deferred.ofValue, invoke, Sem.run_bind]
    · have hall := List.all_eq_true.1 hfree
      have q : All2 (RV G) (first ++ evs F args.toList ++ captured) (fs ++ args.toList.map a.eval ++ cs) := by
        refine (All2.append ⟨hf, fun j x v hx hv => RV_of (h1 j x v hx hv)⟩ ⟨by simp [evs_len], fun j x v hx hv => (evs_get h _ j x v hx hv).rv⟩).append ⟨hc, fun j x v hx hv => RV_of (h2 j x v hx hv)⟩
      exact q.map fun x v hx hr => strip_R1 (R1_of hr (hall x hx))

theorem opV_sound {ro : Option Nat} {cfg : Cfg} {K : KF} (hs : Sound cfg K) (h : Inv E0 w0 Z G F a w) (hz : ∀ n, Z1 lab n → ¬ Z n) {draw : Bool} {ds : List Nat} {o : Oper} {F' : St} (hr : opRunV cfg K draw ds lab o F = some F')
    (hdst : o.dst.isSome = true ∨ ∃ t p x, o.op = .store t p x) {n : Nat} {next : Act → World → Prop} {Q : Exit → Act → World → Prop} (hn : ∀ G' a' w', Inv E0 w0 (fun n => Z n ∨ Z1 lab n) G' F' a' w' → next a' w') :
    o.wpIn (Fx ro) n cfg.P a w next Q := by
  have hz' : ∀ n, Z n → ¬ Z1 lab n := fun n h1 h2 => hz n h2 h1
  -- a value put
  have fin : ∀ {x : AV}, F.put o.dst x = some F' → (∀ d, d < F.n → Yields E0 w0 Z lab d G F a w cfg.P o x) → (∃ d, o.dst = some d) → o.wpIn (Fx ro) n cfg.P a w next Q := by
    rintro x hp hy ⟨d, hd⟩
    rw [hd] at hp
    simp only [St.put] at hp
    split at hp
    · rename_i hlt
      cases hp
      obtain ⟨v, w', G', h1, h2⟩ := hy d hlt
      refine wp_value h1 (hn G' _ _ ?_)
      rw [hd]
      exact h2
    · cases hp
  have dsome : (∀ t p x, o.op ≠ .store t p x) → ∃ d, o.dst = some d := fun hne => by
    rcases hdst with h1 | ⟨t, p, x, h1⟩
    · exact Option.isSome_iff_exists.1 h1
    · exact (hne t p x h1).elim
  unfold opRunV at hr
  split at hr
  · -- store
    rename_i t p x ho
    split at hr
    · rename_i m hm
      split at hr
      · rename_i hc
        simp only [Option.bind_eq_some_iff] at hr
        obtain ⟨F1, hw, hp⟩ := hr
        obtain ⟨w', h1, h2⟩ := inv_store h ho hm hc.1.1 hc.1.2 hw
        refine wp_skip h1 (hn G _ _ ?_)
        cases hd : o.dst with
        | none =>
          rw [hd] at hp
          cases hp
          exact h2.zmono fun n hn => .inl hn
        | some d =>
          rw [hd] at hp
          simp only [St.put] at hp
          split at hp
          · rename_i hlt
            cases hp
            refine (h2.set hlt (by intro g cs h; cases h) ?_ ?_ ?_).zmono fun n hn => .inl hn
            · exact R1.tup [] [] rfl (fun j x v hx => by simp at hx)
            · intro j y u hy; simp [parts, und] at hy
            · rintro n ⟨y, hy, _⟩; simp [parts, und] at hy
          · cases hp
      · cases hr
    · cases hr
  · -- makeFunc
    rename_i f first captured ho
    split at hr
    · rename_i fs F1 h1
      split at hr
      · rename_i cs F2 h2
        obtain ⟨d, hd⟩ := dsome (by intro t p x hh; rw [ho] at hh; cases hh)
        rw [hd] at hr
        simp only [St.put] at hr
        split at hr
        · rename_i hlt
          cases hr
          obtain ⟨v, G', q1, q2⟩ := makeFunc_sound (P := cfg.P) h ho h1 h2 hlt
          refine wp_value q1 (hn G' _ _ ?_)
          rw [hd]
          exact q2.zmono fun n hn => .inl hn
        · cases hr
      · cases hr
    · cases hr
  · -- call
    rename_i c ho
    have dex := dsome (by intro t p x hh; rw [ho] at hh; cases hh)
    obtain ⟨callee, args, ts⟩ := c
    dsimp only at hr
    split at hr
    · -- append
      split at hr
      · rename_i s x t hargs ht
        simp only [Option.bind_eq_some_iff] at hr
        obtain ⟨⟨v, al'⟩, hv, hp⟩ := hr
        replace hv := appendB_some hv
        obtain ⟨d, hd⟩ := dex
        have ea : args = #[s, x] := by
          rw [← Array.toArray_toList (xs := args), hargs]
        subst ea
        rw [hd] at hp
        simp only [St.putAl, St.put] at hp
        split at hp
        · rename_i hlt
          cases hp
          obtain ⟨r, w', G', q1, q2⟩ := append_sound h hz hlt ho ht hv
          refine wp_value q1 (hn G' _ _ ?_)
          rw [hd]
          exact q2
        · cases hp
      · cases hr
    · -- builtin
      rename_i b hb hcal
      simp only [Option.bind_eq_some_iff] at hr
      obtain ⟨v, hv, hp⟩ := hr
      exact fin hp (fun d hd => builtin_sound h hd ho hv) dex
    · -- a value
      rename_i f
      split at hr
      · rename_i g first captured ht
        split at hr
        · rename_i hfree
          obtain ⟨vs, he, hall⟩ := call_args (P := cfg.P) h ho ht hfree
          obtain ⟨d, hd⟩ := dex
          have hni : ∀ x ∈ (first ++ evs F args.toList ++ captured).map strip, NoId x := by
            intro x hx
            obtain ⟨y, hy, rfl⟩ := List.mem_map.1 hx
            have := List.all_eq_true.1 hfree y hy
            exact noId_strip (by rintro g cs rfl; cases this)
          split at hr
          · -- it turns the heap
            split at hr
            · simp only [Option.bind_eq_some_iff] at hr
              obtain ⟨⟨r, H'⟩, hk, hr⟩ := hr
              replace hr := drawE_some hr
              dsimp only at hr
              rw [hd] at hr
              simp only [St.put] at hr
              split at hr
              · rename_i hlt
                cases hr
                refine (hs.k g _ _ _ _ hk w G.S G.E vs (hpre h) hni hall.1 hall.2).wp he ?_
                rintro v w' ⟨S', E', φ, hc⟩
                refine hn (Gcall G w lab r S' E' φ) _ _ ?_
                rw [hd]
                exact inv_call_bare h hc hz' hlt
              · cases hr
            · simp only [Option.bind_eq_some_iff] at hr
              obtain ⟨⟨r, H'⟩, hk, hr⟩ := hr
              split at hr
              · rename_i hsz
                rw [hd] at hr
                simp only [St.putAl, St.put] at hr
                split at hr
                · rename_i hlt
                  cases hr
                  refine (hs.k g _ _ _ _ hk w G.S G.E vs (hpre h) hni hall.1 hall.2).wp he ?_
                  rintro v w' ⟨S', E', φ, hc⟩
                  refine hn (Gcall G w lab r S' E' φ) _ _ ?_
                  rw [hd]
                  exact inv_call h hc hz' hsz hlt
                · cases hr
              · cases hr
          · split at hr
            · rename_i hne hpure
              simp only [Option.bind_eq_some_iff] at hr
              obtain ⟨r, hq, hr⟩ := hr
              have hargs : ∀ (j : Nat) (x : AV) (v : Value), ((first ++ evs F args.toList ++ captured).map strip)[j]? = some x → vs[j]? = some v → R1 G.S noE x v := by
                intro j x v hx hv
                have hr1 := hall.2 j x v hx hv
                simp only [Bool.or_eq_true] at hpure
                rcases hpure with hp | hp
                · refine R1.mono (fun _ _ h => h) (fun l b hb => ?_) hr1
                  have := h.rel.2.2.2.2 l b hb
                  simp only [Bool.and_eq_true] at hp
                  replace hp := hp.2
                  simp at hp
                  rw [hp] at this
                  simp at this
                · exact nohp_R1 9 (List.all_eq_true.1 hp x (List.mem_of_getElem? hx)) hr1
              have hD := callQ_sound hs hq w G.S vs (hpre0 h) hni hall.1 hargs
              refine hD.wp he ?_
              rintro v w' ⟨S', φ, hc⟩
              have hc := CPost.lift h hc
              rw [hd] at hr
              split at hr
              · rename_i hsz
                simp only [St.putAl, St.put] at hr
                split at hr
                · rename_i hlt
                  cases hr
                  refine hn (Gcall G w lab r S' G.E φ) _ _ ?_
                  rw [hd]
                  exact inv_call h hc hz' hsz hlt
                · cases hr
              · cases hr
            · cases hr
        · cases hr
      · cases hr
    · cases hr
  · -- the quiet ones
    rename_i op hne1 hne2 hne3
    simp only [Option.bind_eq_some_iff] at hr
    obtain ⟨v, hv, hp⟩ := hr
    exact fin hp (fun d hd => quiet_sound h hz hd hv) (dsome hne1)
def Gh.addObj (G : Gh) (l b : Nat) : Gh := { G with E := fun k => if k = l then some b else G.E k, u := fun k => if k = b then some (.obj l) else G.u k }
/-- What is laid on the heap. -/
theorem inv_alloc (h : Inv E0 w0 Z G F a w) {cs : List AV} {vs : Array Value} {ty : TypeId} (hp : PW G cs vs) :
    Inv E0 w0 Z (G.addObj F.H.length w.heap.size) { F with H := F.H ++ [cs] } a (w.alloc (.cells vs ty)) := by
  have hEn : G.E F.H.length = none := by
    cases he : G.E F.H.length with
    | none => rfl
    | some b => have := h.rel.2.2.2.2 _ _ he; omega
  have hE : ∀ l b, G.E l = some b → (if l = F.H.length then some w.heap.size else G.E l) = some b := by
    intro l b hb
    rw [if_neg]
    · exact hb
    · rintro rfl; rw [hEn] at hb; cases hb
  have hold : ∀ b, b < w.heap.size → (w.alloc (.cells vs ty)).heap[b]? = w.heap[b]? := fun b hb => Below.heap_alloc w _ b hb
  have hu : ∀ b, b < w.heap.size → (if b = w.heap.size then some (Tg.obj F.H.length) else G.u b) = G.u b := fun b hb => by rw [if_neg (by omega)]
  have hnew : (w.alloc (.cells vs ty)).heap[w.heap.size]? = some (.cells vs ty (0, 0)) := by
    show (w.heap.push _)[w.heap.size]? = _
    simp
  have hH1 : ∀ {b : Nat} {cs : List AV} {us : Array Value}, b < w.heap.size → Holds1 G w b cs us → Holds1 (G.addObj F.H.length w.heap.size) (w.alloc (.cells vs ty)) b cs us := by
    rintro b cs us hb ⟨⟨t, g1⟩, g2, g3, g4, g5⟩
    exact ⟨⟨t, (hold b hb).trans g1⟩, g2, g3, fun j x v hx hv => R1.mono (fun _ _ h => h) hE (g4 j x v hx hv), g5⟩
  have hSnew : ∀ ad : Addr, ad.block = w.heap.size → G.S ad = none := by
    intro ad hb
    cases hS : G.S ad with
    | none => rfl
    | some v => have := h.mem.lt hS; omega
  refine ⟨h.nsz, h.df, fun i => RV.mono (G := G) (G' := G.addObj F.H.length w.heap.size) (fun _ _ h => h) hE (fun _ _ h => h) (h.slot i), h.cl, h.ids, fun ad v hv => ?_, h.bel.trans ⟨rfl, rfl, rfl, by simp, fun k hk _ => hold k hk⟩,
    ⟨h.rel.1, h.rel.2.1, fun l b hb => hE _ _ (h.rel.2.2.1 l b hb), fun l b h0 hb => ?_, fun l b hb => ?_⟩, fun i g cs' hc => ?_, fun n ha => ?_, fun l cs' hl => ?_, h.zB, h.zal, fun b hb => ?_, fun b o hb => by
      obtain ⟨p1, p2, p3⟩ := h.pro b o hb
      have hlt := (Array.getElem?_eq_some_iff.1 p1).1
      exact ⟨(hold b hlt).trans p1, (hu b hlt).trans p2, p3⟩, h.bm⟩
  · have := h.mem.lt hv
    rw [World.cell?_of_block (w := w) (hold _ this)]
    exact h.mem ad v hv
  · have hb : (if l = F.H.length then some w.heap.size else G.E l) = some b := hb
    split at hb
    · cases hb; exact h.bel.size
    · exact h.rel.2.2.2.1 l b h0 hb
  · have hb : (if l = F.H.length then some w.heap.size else G.E l) = some b := hb
    show l < (F.H ++ [cs]).length
    simp only [List.length_append, List.length_singleton]
    split at hb
    · omega
    · have := h.rel.2.2.2.2 l b hb; omega
  · obtain ⟨b, us, h1, h2, h3, h4, h5⟩ := h.box i g cs' hc
    have hb := h.live b (by rw [h3]; rfl)
    exact ⟨b, us, h1, h2, (hu b hb).trans h3, hH1 hb h4, h5⟩
  · obtain ⟨h1, h2, ⟨us, t, h3, h3'⟩, h4, h5⟩ := h.row n ha
    have hb := h.live _ (by rw [h2]; rfl)
    exact ⟨h1, (hu _ hb).trans h2, ⟨us, t, (hold _ hb).trans h3, h3'⟩, h4, h5⟩
  · have hl : (F.H ++ [cs])[l]? = some cs' := hl
    by_cases hlt : l < F.H.length
    · rw [List.getElem?_append_left hlt] at hl
      obtain ⟨b, us, h1, h2, h3, h4⟩ := h.obj l cs' hl
      have hb := h.live b (by rw [h3]; rfl)
      exact ⟨b, us, hE _ _ h1, h2, (hu b hb).trans h3, hH1 hb h4⟩
    · have hle : l = F.H.length := by
        have := (List.getElem?_eq_some_iff.1 hl).1
        simp at this
        omega
      subst hle
      simp at hl
      subst hl
      refine ⟨w.heap.size, vs, if_pos rfl, .inl h.bel.size, if_pos rfl, ⟨ty, hnew⟩, hp.1, hp.2.1, fun j x v hx hv => R1.mono (fun _ _ h => h) hE (hp.2.2 j x v hx hv), hSnew⟩
  · have hb : (if b = w.heap.size then some (Tg.obj F.H.length) else G.u b).isSome = true := hb
    split at hb
    · rename_i e; subst e; simp
    · have := h.live b hb; simp; omega

theorem RW.flat {G : Gh} {sz : Nat} {rows : List (List AV)} {vs : Array Value} (h : RW G sz rows vs) (hpos : 0 < sz) : PW G rows.flatten vs := by
  have hlen : ∀ (rows : List (List AV)), (∀ r ∈ rows, r.length = sz) → rows.flatten.length = rows.length * sz := by
    intro rows
    induction rows with
    | nil => intro _; simp
    | cons r rs ih =>
      intro hr
      simp only [List.flatten_cons, List.length_append, List.length_cons, ih fun x hx => hr x (by simp [hx]), hr r (by simp)]
      rw [Nat.add_mul, Nat.one_mul, Nat.add_comm]
  have hget : ∀ (rows : List (List AV)), (∀ r ∈ rows, r.length = sz) → ∀ (k : Nat) (x : AV), rows.flatten[k]? = some x → cellAt rows (k / sz) (k % sz) = some x := by
    intro rows
    induction rows with
    | nil => intro _ k x hx; simp at hx
    | cons r rs ih =>
      intro hr k x hx
      have hrl := hr r (by simp)
      simp only [List.flatten_cons] at hx
      by_cases hk : k < sz
      · rw [List.getElem?_append_left (by omega)] at hx
        rw [Nat.div_eq_of_lt hk, Nat.mod_eq_of_lt hk]
        simpa [cellAt] using hx
      · rw [List.getElem?_append_right (by omega), hrl] at hx
        have := ih (fun x hx => hr x (by simp [hx])) _ _ hx
        have e1 : k / sz = (k - sz) / sz + 1 := by rw [← Nat.sub_add_cancel (Nat.le_of_not_lt hk), Nat.add_div_right _ hpos]; simp
        have e2 : k % sz = (k - sz) % sz := by rw [← Nat.sub_add_cancel (Nat.le_of_not_lt hk), Nat.add_mod_right]; simp
        rw [e1, e2]
        simpa [cellAt] using this
  refine ⟨by rw [h.1, hlen rows h.2.1], fun x hx => ?_, fun k x v hx hv => ?_⟩
  · obtain ⟨k, hk⟩ := List.getElem?_of_mem hx
    exact h.2.2.1 _ _ _ (hget rows h.2.1 k x hk)
  · obtain ⟨u, e1, e2⟩ := h.2.2.2 _ _ _ (hget rows h.2.1 k x hx)
    rw [show k / sz * sz + k % sz = k by rw [Nat.mul_comm]; exact Nat.div_add_mod k sz, hv] at e1
    cases e1
    exact e2

theorem allocH_sound (h : Inv E0 w0 Z G F a w) {o : Oper} {cs : List AV} {x : AV} (ha : allocH P F o.op = some (cs, x)) {d : Nat} (hd : d < F.n) :
    ∃ v w' G', (execOp a.eval o).run P w = .ok (.value v) w' ∧ Inv E0 w0 Z G' { F with H := F.H ++ [cs], t := upd F.t d x } (a.put (some d) v) w' := by
  have fin : ∀ (vs : Array Value) (ty : TypeId) (v : Value), PW G cs vs → (execOp a.eval o).run P w = .ok (.value v) (w.alloc (.cells vs ty)) → R1 G.S (fun l => if l = F.H.length then some w.heap.size else G.E l) x v → NoId x →
      ∃ v w' G', (execOp a.eval o).run P w = .ok (.value v) w' ∧ Inv E0 w0 Z G' { F with H := F.H ++ [cs], t := upd F.t d x } (a.put (some d) v) w' := by
    intro vs ty v hp hrun hx hni
    have h1 := inv_alloc (ty := ty) h hp
    refine ⟨v, _, _, hrun, h1.set hd hx.nobox (RV_of hx) (Cl_of_noId hni) fun n hn => (hni n hn).elim⟩
  generalize ho : o.op = op at ha
  have rowcase : ∀ {rows : List (List AV)} {own : Own} {sz : Nat}, (∃ us ty, (execOp a.eval o).run P w = .ok (.value (.slice (some ⟨w.heap.size, 0, none⟩) rows.length rows.length)) (w.alloc (.cells us ty)) ∧ RW G sz rows us) → sz ≠ 0 → cs = rows.flatten → x = .hs F.H.length 0 rows.length rows.length sz →
      ∃ v w' G', (execOp a.eval o).run P w = .ok (.value v) w' ∧ Inv E0 w0 Z G' { F with H := F.H ++ [cs], t := upd F.t d x } (a.put (some d) v) w' := by
    rintro rows own sz ⟨us, ty, hrun, hRW⟩ hne rfl rfl
    refine fin us ty _ (hRW.flat (Nat.pos_of_ne_zero hne)) hrun (.hs _ _ _ _ _ _ (by simp)) ?_
    rintro n ⟨y, hy, rows, nl, rfl⟩; simp [parts] at hy
  cases op <;> simp only [allocH] at ha <;> first | (cases ha; done) | skip
  case alloc e =>
    split at ha
    · simp only [Option.map_eq_some_iff] at ha
      obtain ⟨c, hc, he⟩ := ha
      cases he
      obtain ⟨i, z, h1, h2, rfl, hp, hl⟩ := tzero_info hc
      refine fin z.cells e (.pointer (some ⟨w.heap.size, 0, none⟩)) ⟨hl.symm, hp, absV_cells G z hp⟩ ?_ (.hp _ _ _ (by simp)) ?_
      · simp [execOp, ho, Instr.alloc, Sem.run_bind, run_zero h1 h2, newVar, newRow]
      · rintro n ⟨y, hy, rows, nl, rfl⟩; simp [parts] at hy
    · cases ha
  case box e y =>
    split at ha
    · rename_i hc
      simp only [Bool.and_eq_true] at hc
      cases ha
      have hr := opd_R1 (opd h y) (storable_free hc.2)
      refine fin (a.eval y).cells e (.pointer (some ⟨w.heap.size, 0, none⟩)) (cells_R1 hr hc.2).strip ?_ (.hp _ _ _ (by simp)) ?_
      · simp [execOp, ho, Instr.box, Sem.run_bind, newVar, newRow]
      · rintro n ⟨y, hy, rows, nl, rfl⟩; simp [parts] at hy
    · cases ha
  case buildSlice t len ps =>
    split at ha
    · split at ha
      · rename_i rows own sz hq hsz
        split at ha
        · cases ha
        · cases ha
          simp only [quiet] at hq
          split at hq
          · rename_i e he
            split at hq
            · rename_i z sz' h1 h2
              split at hq
              · rename_i hc
                simp only [Option.map_eq_some_iff] at hq
                obtain ⟨rows', hr, hre⟩ := hq
                cases hre
                have hss : sz' = sz := by
                  rw [he] at hsz
                  simp only [Option.bind_some] at hsz
                  rw [h2] at hsz
                  exact Option.some.inj hsz
                subst hss
                exact rowcase (own := .no) (buildSlice_run h ho he h1 h2 hc hr) hc.2.2 rfl rfl
              · cases hq
            · cases hq
          · cases hq
      · cases ha
    · cases ha
  case makeSlice t y z =>
    split at ha
    · split at ha
      · rename_i rows own sz hq hsz
        split at ha
        · cases ha
        · cases ha
          simp only [quiet] at hq
          split at hq
          · rename_i e n k he hn hk
            split at hq
            · rename_i zc sz' by_ h1 h2 h3
              split at hq
              · rename_i hc
                obtain ⟨rfl, c1, c2, c3, c4, c5⟩ := hc
                cases hq
                have hss : sz' = sz := by
                  rw [he] at hsz
                  simp only [Option.bind_some] at hsz
                  rw [h2] at hsz
                  exact Option.some.inj hsz
                subst hss
                exact rowcase (own := .no) (makeSlice_run h ho he hn hk h1 h2 h3 c1 c2 c3 c4 c5) c5 rfl rfl
              · cases hq
            · cases hq
          · cases hq
      · cases ha
    · cases ha

theorem op_sound {ro : Option Nat} {cfg : Cfg} {K : KF} (hs : Sound cfg K) (h : Inv E0 w0 Z G F a w) (hz : ∀ n, Z1 lab n → ¬ Z n) {draw : Bool} {ds : List Nat} {o : Oper} {F' : St} (hr : opRun cfg K draw ds lab o F = some F')
    (hdst : o.dst.isSome = true ∨ ∃ t p x, o.op = .store t p x) {n : Nat} {next : Act → World → Prop} {Q : Exit → Act → World → Prop} (hn : ∀ G' a' w', Inv E0 w0 (fun n => Z n ∨ Z1 lab n) G' F' a' w' → next a' w') :
    o.wpIn (Fx ro) n cfg.P a w next Q := by
  unfold opRun at hr
  split at hr
  · rename_i cs x ha
    split at hr
    · cases hr
    · rcases hdst with h1 | ⟨t, p, y, h1⟩
      · obtain ⟨d, hd⟩ := Option.isSome_iff_exists.1 h1
        rw [hd] at hr
        simp only [St.put] at hr
        split at hr
        · rename_i hlt
          cases hr
          obtain ⟨v, w', G', e1, e2⟩ := allocH_sound h ha hlt
          refine wp_value e1 (hn G' _ _ ?_)
          rw [hd]
          exact e2.zmono fun n hn => .inl hn
        · cases hr
      · rw [h1] at ha
        simp [allocH] at ha
  · exact opV_sound hs h hz hr hdst hn
end
end Go.Proofs.V
namespace Go.Proofs.V
open Go Go.RowKit
set_option linter.unusedVariables false
set_option linter.unusedSimpArgs false
/-- What an operation reads is the same. -/
structure Agree (ops : Array Oper) (ds : List Nat) (o : Oper) (F F' : St) : Prop where
  n : F'.n = F.n
  H : F'.H = F.H ∨ blind ds = true
  look : ∀ t ∈ o.looksAt ops, F'.t t = F.t t
  rest : ∀ t, ds.contains t = false → F'.t t = F.t t
  m : F'.m = F.m

section
variable {ops : Array Oper} {ds : List Nat} {o : Oper} {F F' : St} {P : Program} {lab : Nat}
theorem Agree.ev (h : Agree ops ds o F F') {x : Operand} (hx : x ∈ o.op.operands) : F'.ev x = F.ev x := by
  cases x with
  | tmp t =>
    have : F'.t t = F.t t := h.look t (List.mem_append_left _ (List.mem_filterMap.2 ⟨.tmp t, by simpa using hx, rfl⟩))
    simp only [St.ev, St.tmp, this]
  | _ => rfl
theorem Agree.lookAt (h : Agree ops ds o F F') (y : AV) : F'.look ds y = F.look ds y := by
  cases y with
  | fp g t off =>
    simp only [St.look]
    by_cases hc : ds.contains t = true
    · simp only [hc, if_true]
    · have : ds.contains t = false := by simpa using hc
      simp only [this, h.rest t this]
  | hp l off =>
    simp only [St.look]
    by_cases hb : blind ds = true
    · rw [if_pos hb, if_pos hb]
    · rw [if_neg hb, if_neg hb, h.H.resolve_right hb]
  | _ => rfl
theorem Agree.lookD (h : Agree ops ds o F F') {p : Operand} (hp : p ∈ o.op.operands) : F'.look (dsL ds p) (F.ev p) = F.look (dsL ds p) (F.ev p) := by
  unfold dsL
  split
  · rename_i q
    split
    · have hq : F'.t q = F.t q := h.look q (List.mem_append_left _ (List.mem_filterMap.2 ⟨.tmp q, by simpa using hp, rfl⟩))
      cases F.ev (.tmp q) with
      | fp g t off =>
        simp only [St.look]
        by_cases hc : (ds.filter (fun e => e != q || e == SP)).contains t = true
        · simp only [hc, if_true]
        · have hc' : (ds.filter (fun e => e != q || e == SP)).contains t = false := by simpa using hc
          simp only [hc']
          have ht : F'.t t = F.t t := by
            by_cases e : t = q
            · subst e; exact hq
            · refine h.rest t ?_
              cases hd : ds.contains t with
              | false => rfl
              | true =>
                exfalso
                apply hc
                simp only [List.contains_eq_mem, List.mem_filter, decide_eq_true_eq] at hd ⊢
                exact ⟨hd, by simp [e]⟩
          simp only [ht]
      | hp l off =>
        simp only [St.look]
        have hb : blind (ds.filter (fun e => e != q || e == SP)) = blind ds := by
          unfold blind
          cases hd : ds.contains SP with
          | true =>
            simp only [List.contains_eq_mem, List.mem_filter, decide_eq_true_eq] at hd ⊢
            exact ⟨hd, by simp⟩
          | false =>
            simp only [List.contains_eq_mem, List.mem_filter, decide_eq_false_iff_not] at hd ⊢
            exact fun hc => hd hc.1
        rw [hb]
        by_cases hb : blind ds = true
        · rw [if_pos hb, if_pos hb]
        · rw [if_neg hb, if_neg hb, h.H.resolve_right hb]
      | _ => rfl
    · exact h.lookAt _
  · exact h.lookAt _
theorem Agree.evs (h : Agree ops ds o F F') : ∀ {l : List Operand}, (∀ x ∈ l, x ∈ o.op.operands) → evs F' l = evs F l
  | [], _ => rfl
  | x :: l, hl => by simp only [V.evs, h.ev (hl x (by simp)), h.evs (l := l) fun y hy => hl y (by simp [hy])]
theorem Agree.optMap (h : Agree ops ds o F F') {x : Option Operand} (hl : ∀ y, x = some y → y ∈ o.op.operands) : x.map F'.ev = x.map F.ev := by
  cases x with
  | none => rfl
  | some y => simp only [Option.map_some, h.ev (hl y rfl)]
theorem Agree.mapParts (h : Agree ops ds o F F') {l : List (Nat × Operand)} (hl : ∀ p ∈ l, p.2 ∈ o.op.operands) : l.map (fun p => (p.1, F'.ev p.2)) = l.map (fun p => (p.1, F.ev p.2)) :=
  List.map_congr_left fun p hp => by rw [h.ev (hl p hp)]

theorem Agree.quiet (h : Agree ops ds o F F') : quiet P F' ds lab o.op = quiet P F ds lab o.op := by
  have hev := fun x hx => h.ev (x := x) hx
  have hlk := h.lookAt
  generalize ho : o.op = op at hev ⊢
  cases op <;> simp only [V.quiet]
  case move x => rw [hev x (by simp [Op.operands])]
  case assign x => rw [hev x (by simp [Op.operands])]
  case pick c a b => rw [hev a (by simp [Op.operands]), hev b (by simp [Op.operands]), hev c (by simp [Op.operands])]
  case box e x => rw [hev x (by simp [Op.operands])]
  case build t parts => rw [h.mapParts (l := parts.toList) (fun p hp => by rw [ho]; simp only [Op.operands]; simp; exact ⟨p.1, by simpa using hp⟩)]
  case buildSlice t len parts => rw [h.mapParts (l := parts.toList) (fun p hp => by rw [ho]; simp only [Op.operands]; simp; exact ⟨p.1, by simpa using hp⟩)]
  case makeSlice t x y => rw [hev x (by simp [Op.operands]), hev y (by simp [Op.operands])]
  case load t p => rw [hev p (by simp [Op.operands]), h.lookD (p := p) (by rw [ho]; simp [Op.operands])]
  case nilCheck x => rw [hev x (by simp [Op.operands])]
  case binOp op xt x y z => rw [hev x (by simp [Op.operands]), hev y (by simp [Op.operands])]
  case unOp op t x => rw [hev x (by simp [Op.operands])]
  case convert s d x => rw [hev x (by simp [Op.operands])]
  case slice t x lo hi mx =>
    rw [hev x (by simp [Op.operands]), h.optMap (x := lo) (fun y hy => by rw [ho]; subst hy; simp [Op.operands]), h.optMap (x := hi) (fun y hy => by rw [ho]; subst hy; simp [Op.operands]), h.optMap (x := mx) (fun y hy => by rw [ho]; subst hy; simp [Op.operands])]
  case fieldAddr t x i => rw [hev x (by simp [Op.operands])]
  case field t x i => rw [hev x (by simp [Op.operands])]
  case indexAddr t x i => rw [hev x (by simp [Op.operands]), hev i (by simp [Op.operands])]
  case index t x i => rw [hev x (by simp [Op.operands]), hev i (by simp [Op.operands])]
  case extract x i => rw [hev x (by simp [Op.operands])]

theorem Agree.guard (h : Agree ops ds o F F') : guardA ops o F' = guardA ops o F := by
  unfold guardA
  split
  · rfl
  · rename_i j want hg
    split
    · rfl
    · rename_i d hd
      have : F'.t d = F.t d := h.look d (List.mem_append_right _ (by simp [hg, hd]))
      rw [this, h.n]

/-- The value of an operation that turns its own slot alone. -/
def val0 (cfg : Cfg) (K : KF) (ds : List Nat) (lab : Nat) (o : Oper) (F : St) : Option AV :=
  if (allocH cfg.P F o.op).isSome then none else
  match o.op with
  | .store .. => none
  | .makeFunc .. => none
  | .call c => match c.callee with
    | .builtin .append => none
    | .builtin b => builtinA cfg.P b c.argTypes o.type (c.args.map isConstOp) (evs F c.args.toList)
    | .value f => match target (F.ev f) with
      | some (g, first, captured) =>
        if (first ++ evs F c.args.toList ++ captured).all AV.free then
          if cfg.eff g then if blind ds then none else (K g ((first ++ evs F c.args.toList ++ captured).map strip) F.H).bind fun (r, H) => if sameH H F.H then some (strip r) else none
          else if (!(true && blind ds) && F.H.isEmpty) || ((first ++ evs F c.args.toList ++ captured).map strip).all (nohp 9) then (callQ cfg K g ((first ++ evs F c.args.toList ++ captured).map strip)).bind fun r => if sizeR r ≤ 64 then some r else none else none
        else none
      | none => none
    | .invoke .. => none
  | op => quiet cfg.P F ds lab op
theorem opRun0 {cfg : Cfg} {K : KF} (hk : kindOf o.op = 0) (hcv : isCallV o.op = false) (hnh : (heavyOp cfg o.op && blind ds) = false) : opRun cfg K true ds lab o F = (val0 cfg K ds lab o F).bind fun v => F.put o.dst v := by
  unfold opRun val0
  cases ha : allocH cfg.P F o.op with
  | some p => simp
  | none =>
  simp only [Option.isSome_none, Bool.false_eq_true, if_false]
  unfold opRunV
  have hE : ∀ r H, drawE cfg ds o F r H = (if blind ds then none else if sameH H F.H then some (strip r) else none).bind fun v => F.put o.dst v := by
    intro r H
    unfold drawE
    by_cases hb : blind ds = true
    · rw [if_pos hb, if_pos hb]
      rw [hb, Bool.and_true] at hnh
      rw [hnh]
      rfl
    · rw [if_neg hb, if_neg hb]
      by_cases h4 : sameH H F.H = true
      · rw [if_pos h4, if_pos h4]; rfl
      · rw [if_neg h4, if_neg h4]; rfl
  clear hnh
  generalize ho : o.op = op at hk hcv ⊢
  cases op with
  | store t p x => simp [kindOf] at hk
  | makeFunc f a b => simp [kindOf] at hk
  | call c =>
    obtain ⟨callee, args, ts⟩ := c
    cases callee with
    | builtin b =>
      cases b <;> first | (simp [kindOf] at hk; done) | rfl
    | value f => cases hcv
    | invoke a b => cases hcv
  | _ => rfl
theorem adopt_strip1 (lab : Nat) (x : AV) : adopt lab (strip1 x) = strip1 x := by
  unfold strip1
  split
  · rfl
  · rfl
  · rename_i h1 h2
    unfold adopt
    split
    · rename_i rows nl; exact absurd rfl (h2 rows nl)
    · rfl
theorem adoptAt_strip (l : List AV) : ∀ lab, adoptAt lab (l.map strip1) = l.map strip1 := by
  induction l with
  | nil => intro lab; rfl
  | cons x l ih => intro lab; simp only [List.map_cons, adoptAt, adopt_strip1, ih]
theorem strip1_nf (x : AV) (rows : List (List AV)) (nl : Bool) : strip1 x ≠ .slice rows nl .fresh := by
  intro h
  unfold strip1 at h
  split at h
  · cases h
  · cases h
  · rename_i h1 h2; exact h2 rows nl h
theorem freshAt_strip (l : List AV) : ∀ lab n, freshAt lab (l.map strip1) n = false := by
  induction l with
  | nil => intro lab n; rfl
  | cons x l ih =>
    intro lab n
    simp only [List.map_cons]
    have hne := strip1_nf x
    generalize strip1 x = y at hne
    cases y with
    | slice r nl own =>
      cases own with
      | fresh => exact absurd rfl (hne r nl)
      | _ => exact ih _ _
    | _ => exact ih _ _
theorem adoptR_strip (lab : Nat) (x : AV) : adoptR lab (strip x) = strip x := by
  unfold strip
  split
  · simp only [adoptR, adoptAt_strip]
  · simp only [adoptR, adoptAt_strip]
  · rename_i h1 h2
    have : ∀ y : AV, (∀ cs, y ≠ .agg cs) → (∀ cs, y ≠ .tup cs) → adoptR lab y = adopt lab y := by
      intro y a b
      cases y <;> first | rfl | exact absurd rfl (a _) | exact absurd rfl (b _)
    rw [this, adopt_strip1]
    · intro cs h
      unfold strip1 at h
      split at h <;> first | (cases h; done) | exact h1 cs h
    · intro cs h
      unfold strip1 at h
      split at h <;> first | (cases h; done) | exact h2 cs h
theorem freshR_strip (lab n : Nat) (x : AV) : freshR lab (strip x) n = false := by
  unfold strip
  split
  · simp only [freshR, freshAt_strip]
  · simp only [freshR, freshAt_strip]
  · rename_i h1 h2
    unfold strip1
    split
    · rfl
    · rfl
    · rename_i h3 h4
      unfold freshR
      split <;> first | rfl | (rename_i cs; exact absurd rfl (h2 cs)) | (rename_i cs; exact absurd rfl (h1 cs)) | (rename_i r nl; exact absurd rfl (h4 r nl))
theorem markR_strip (lab : Nat) (al : Nat → Bool) (x : AV) : markR lab al (strip x) = al := by
  funext n
  simp [markR, freshR_strip]
theorem opRun0c {cfg : Cfg} {K : KF} (hcv : isCallV o.op = true) (hnh : (heavyOp cfg o.op && blind ds) = false) : opRun cfg K true ds lab o F = (val0 cfg K ds lab o F).bind fun v => F.putAl o.dst (adoptR lab v) (markR lab F.al v) := by
  unfold opRun val0
  cases ha : allocH cfg.P F o.op with
  | some p => simp
  | none =>
  simp only [Option.isSome_none, Bool.false_eq_true, if_false]
  unfold opRunV
  have hE : ∀ r H, drawE cfg ds o F r H = (if blind ds then none else if sameH H F.H then some (strip r) else none).bind fun v => F.putAl o.dst (adoptR lab v) (markR lab F.al v) := by
    intro r H
    have e : F.putAl o.dst (adoptR lab (strip r)) (markR lab F.al (strip r)) = F.put o.dst (strip r) := by
      rw [adoptR_strip, markR_strip]; rfl
    unfold drawE
    by_cases hb : blind ds = true
    · rw [if_pos hb, if_pos hb]
      rw [hb, Bool.and_true] at hnh
      rw [hnh]
      rfl
    · rw [if_neg hb, if_neg hb]
      by_cases h4 : sameH H F.H = true
      · rw [if_pos h4, if_pos h4]; exact e.symm
      · rw [if_neg h4, if_neg h4]; rfl
  clear hnh
  generalize ho : o.op = op at hcv ⊢
  cases op with
  | call c =>
    obtain ⟨callee, args, ts⟩ := c
    cases callee with
    | builtin b => cases hcv
    | value f =>
      simp only []
      generalize target (F.ev f) = T
      cases T with
      | none => rfl
      | some p =>
        obtain ⟨g, first, captured⟩ := p
        simp only []
        by_cases h1 : (first ++ evs F args.toList ++ captured).all AV.free = true
        · rw [if_pos h1, if_pos h1]
          by_cases h2 : cfg.eff g = true
          · rw [if_pos h2, if_pos h2]
            cases hk : K g (List.map strip (first ++ evs F args.toList ++ captured)) F.H with
            | none =>
              simp only [if_true, Option.bind_none]
              split <;> rfl
            | some p =>
              obtain ⟨r, H⟩ := p
              simp only [if_true, Option.bind_some]
              rw [hE]
          · rw [if_neg h2, if_neg h2]
            by_cases h3 : ((!(true && blind ds) && F.H.isEmpty) || ((first ++ evs F args.toList ++ captured).map strip).all (nohp 9)) = true
            · rw [if_pos h3, if_pos h3]
              cases callQ cfg K g (List.map strip (first ++ evs F args.toList ++ captured)) with
              | none => rfl
              | some r =>
                simp only [Option.bind_some]
                by_cases h5 : sizeR r ≤ 64
                · rw [if_pos h5, if_pos h5]; rfl
                · rw [if_neg h5, if_neg h5]; rfl
            · rw [if_neg h3, if_neg h3]; rfl
        · rw [if_neg h1, if_neg h1]; rfl
    | invoke a b => rfl
  | _ => cases hcv
/-- An effectful call where an order is drawn: its value, and the heap behind it. -/
def valH (cfg : Cfg) (K : KF) (o : Oper) (F : St) : Option (AV × List (List AV)) :=
  match o.op with
  | .call c => match c.callee with
    | .value f => match target (F.ev f) with
      | some (g, first, captured) =>
        if (first ++ evs F c.args.toList ++ captured).all AV.free then
          if cfg.eff g then (K g ((first ++ evs F c.args.toList ++ captured).map strip) F.H).map fun p => (strip p.1, p.2) else none
        else none
      | none => none
    | _ => none
  | _ => none
theorem opRunH {cfg : Cfg} {K : KF} (hh : heavyOp cfg o.op = true) (hb : blind ds = true) : opRun cfg K true ds lab o F = (valH cfg K o F).bind fun r => St.put { F with H := r.2 } o.dst r.1 := by
  unfold opRun valH
  have hE : ∀ r H, drawE cfg ds o F r H = St.put { F with H := H } o.dst (strip r) := by
    intro r H
    unfold drawE
    rw [if_pos hb, if_pos hh]
  unfold opRunV
  generalize ho : o.op = op at hh ⊢
  cases op with
  | call c =>
    obtain ⟨callee, args, ts⟩ := c
    cases callee with
    | value f =>
      cases f with
      | func g =>
        have he : cfg.eff g = true := by
          simp only [heavyOp, Bool.and_eq_true] at hh
          exact hh.2
        simp only [allocH, St.ev, target, he, if_true]
        split
        · cases hk : K g (List.map strip ([] ++ evs F args.toList ++ [])) F.H with
          | none => rfl
          | some p =>
            obtain ⟨r, H⟩ := p
            simp only [Option.bind_some, Option.map_some]
            exact hE r H
        · rfl
      | _ => simp [heavyOp] at hh
    | _ => simp [heavyOp] at hh
  | _ => simp [heavyOp] at hh
theorem Agree.allocH (h : Agree ops ds o F F') : (V.allocH P F' o.op).isSome = (V.allocH P F o.op).isSome := by
  have hev := fun x hx => h.ev (x := x) hx
  have hm := h.m
  have hqq : ∀ t l ps, o.op = .buildSlice t l ps → V.quiet P F' [] 0 (.buildSlice t l ps) = V.quiet P F [] 0 (.buildSlice t l ps) := by
    intro t l ps ho
    have := h.quiet (P := P) (lab := 0)
    rw [ho] at this
    exact this
  have hqm : ∀ t x y, o.op = .makeSlice t x y → V.quiet P F' [] 0 (.makeSlice t x y) = V.quiet P F [] 0 (.makeSlice t x y) := by
    intro t x y ho
    have := h.quiet (P := P) (lab := 0)
    rw [ho] at this
    exact this
  generalize ho : o.op = op at hev hqq hqm ⊢
  cases op <;> simp only [V.allocH]
  case alloc e =>
    rw [hm]
    split
    · cases tzero P e <;> rfl
    · rfl
  case box e x =>
    rw [hm, hev x (by simp [Op.operands])]
    split <;> rfl
  case buildSlice t len ps =>
    rw [hm, hqq t len ps rfl]
    split
    · split
      · split <;> rfl
      · rfl
    · rfl
  case makeSlice t x y =>
    rw [hm, hqm t x y rfl]
    split
    · split
      · split <;> rfl
      · rfl
    · rfl
theorem Agree.val0 {cfg : Cfg} {K : KF} (h : Agree ops ds o F F') : val0 cfg K ds lab o F' = val0 cfg K ds lab o F := by
  have hq := h.quiet (P := cfg.P) (lab := lab)
  have hevs := fun l hl => h.evs (l := l) hl
  have hev := fun x hx => h.ev (x := x) hx
  unfold V.val0
  rw [h.allocH]
  by_cases hA : (V.allocH cfg.P F o.op).isSome = true
  · rw [if_pos hA, if_pos hA]
  rw [if_neg hA, if_neg hA]
  clear hA
  generalize ho : o.op = op at hq hevs hev ⊢
  cases op with
  | store t p x => rfl
  | makeFunc f a b => rfl
  | call c =>
    obtain ⟨callee, args, ts⟩ := c
    have h1 : V.evs F' args.toList = V.evs F args.toList := hevs _ (fun x hx => by
      simp only [Op.operands, Call.operands]
      cases callee <;> simp_all)
    cases callee with
    | builtin b => cases b <;> simp only [h1]
    | value f =>
      have h2 : F'.ev f = F.ev f := hev _ (by simp [Op.operands, Call.operands])
      simp only [h1, h2]
      rcases h.H with hH | hb
      · rw [hH]
      · simp only [hb, Bool.and_self, Bool.not_true, Bool.false_and, Bool.false_or, if_true]
    | invoke a b => rfl
  | _ => exact hq

/-- An append's value and marks. -/
def val1' (cfg : Cfg) (ds : List Nat) (lab : Nat) (o : Oper) (F : St) : Option (AV × (Nat → Bool)) :=
  match o.op with
  | .call c => match c.callee with
    | .builtin .append => match c.args.toList, c.argTypes[0]? with
      | [s, x], some t => appendB true ds cfg.P F lab t (F.ev s) (F.ev x) c.argTypes[1]?
      | _, _ => none
    | _ => none
  | _ => none
theorem opRun1 {cfg : Cfg} {K : KF} (hk : kindOf o.op = 1) : opRun cfg K true ds lab o F = (val1' cfg ds lab o F).bind fun r => F.putAl o.dst r.1 r.2 := by
  have ha : allocH cfg.P F o.op = none := by
    generalize o.op = op at hk ⊢
    cases op <;> first | rfl | (simp [kindOf] at hk)
  unfold opRun
  rw [ha]
  unfold opRunV val1'
  generalize ho : o.op = op at hk ⊢
  cases op with
  | call c =>
    obtain ⟨callee, args, ts⟩ := c
    cases callee with
    | builtin b =>
      cases b <;> first | (simp [kindOf] at hk; done) | skip
      simp only []
      generalize args.toList = l
      generalize ts[0]? = q
      rcases l with _ | ⟨s, _ | ⟨x, _ | ⟨y, l⟩⟩⟩ <;> cases q <;> rfl
    | value f => simp [kindOf] at hk
    | invoke a b => simp [kindOf] at hk
  | _ => simp [kindOf] at hk
theorem srcRows_nh {P : Program} {F F' : St} {xt : Option TypeId} {x : AV} (h : isHs x = false) : srcRows P F' xt x = srcRows P F xt x := by
  cases x with
  | «at» v => cases v <;> rfl
  | hs => cases h
  | _ => rfl
theorem appendB_al {P : Program} {F F' : St} (h : F'.al = F.al) (hH : F'.H = F.H ∨ blind ds = true) {lab : Nat} {t : TypeId} {s x : AV} {xt : Option TypeId} : appendB true ds P F' lab t s x xt = appendB true ds P F lab t s x xt := by
  unfold appendB
  by_cases hc : (isHs x && (true && blind ds)) = true
  · rw [if_pos hc, if_pos hc]
  · rw [if_neg hc, if_neg hc]
    have e : srcRows P F' xt x = srcRows P F xt x := by
      rcases hH with hH | hb
      · unfold srcRows; rw [hH]
      · refine srcRows_nh ?_
        rw [hb] at hc
        simpa using hc
    unfold appendA
    rw [h, e]
theorem Agree.val1 {cfg : Cfg} (h : Agree ops ds o F F') (hal : F'.al = F.al) : val1' cfg ds lab o F' = val1' cfg ds lab o F := by
  have hev := fun x hx => h.ev (x := x) hx
  unfold val1'
  generalize ho : o.op = op at hev ⊢
  cases op with
  | call c =>
    obtain ⟨callee, args, ts⟩ := c
    cases callee with
    | builtin b =>
      cases b <;> first | rfl | skip
      simp only []
      split
      · rename_i s x t hargs ht
        rw [hev s (by simp only [Op.operands, Call.operands]; rw [← Array.toArray_toList (xs := args), hargs]; simp), hev x (by simp only [Op.operands, Call.operands]; rw [← Array.toArray_toList (xs := args), hargs]; simp), appendB_al hal h.H]
      · rfl
    | value f => rfl
    | invoke a b => rfl
  | _ => rfl
theorem Agree.valH {cfg : Cfg} {K : KF} (h : Agree ops ds o F F') (hH : F'.H = F.H) : V.valH cfg K o F' = V.valH cfg K o F := by
  have hevs := fun l hl => h.evs (l := l) hl
  have hev := fun x hx => h.ev (x := x) hx
  unfold V.valH
  generalize ho : o.op = op at hevs hev ⊢
  cases op with
  | call c =>
    obtain ⟨callee, args, ts⟩ := c
    have h1 : V.evs F' args.toList = V.evs F args.toList := hevs _ (fun x hx => by
      simp only [Op.operands, Call.operands]
      cases callee <;> simp_all)
    cases callee with
    | value f =>
      have h2 : F'.ev f = F.ev f := hev _ (by simp [Op.operands, Call.operands])
      simp only [h1, h2, hH]
    | _ => rfl
  | _ => rfl
/-- What an operation turns: its slot, marks, the heap. -/
structure Res where
  x : AV
  da : Option ((Nat → Bool) → Nat → Bool)
  dH : Option (List (List AV))
/-- Marks, turned. -/
def apA (f : Option ((Nat → Bool) → Nat → Bool)) (al : Nat → Bool) : Nat → Bool := match f with
  | some f => f al
  | none => al
def app (F : St) (d : Option Nat) (r : Res) : Option St := St.put { F with al := apA r.da F.al, H := r.dH.getD F.H } d r.x
def res (cfg : Cfg) (K : KF) (ds : List Nat) (lab : Nat) (o : Oper) (F : St) : Option Res :=
  if kindOf o.op = 1 then (val1' cfg ds lab o F).map fun r => ⟨r.1, some fun _ => r.2, none⟩
  else if (heavyOp cfg o.op && blind ds) = true then (V.valH cfg K o F).map fun r => ⟨r.1, none, some r.2⟩
  else if isCallV o.op = true then (V.val0 cfg K ds lab o F).map fun v => ⟨adoptR lab v, some fun al => markR lab al v, none⟩
  else (V.val0 cfg K ds lab o F).map fun v => ⟨v, none, none⟩
theorem opRun_res {cfg : Cfg} {K : KF} (hk : kindOf o.op ≤ 1) : opRun cfg K true ds lab o F = (res cfg K ds lab o F).bind (app F o.dst) := by
  unfold res
  by_cases h1 : kindOf o.op = 1
  · rw [if_pos h1, opRun1 h1]
    cases val1' cfg ds lab o F <;> rfl
  · rw [if_neg h1]
    by_cases h2 : (heavyOp cfg o.op && blind ds) = true
    · rw [if_pos h2]
      have h2' := h2
      rw [Bool.and_eq_true] at h2'
      rw [opRunH h2'.1 h2'.2]
      cases V.valH cfg K o F <;> rfl
    · rw [if_neg h2]
      by_cases h3 : isCallV o.op = true
      · rw [if_pos h3, opRun0c h3 (by simpa using h2)]
        cases V.val0 cfg K ds lab o F <;> rfl
      · rw [if_neg h3, opRun0 (by omega) (by simpa using h3) (by simpa using h2)]
        cases V.val0 cfg K ds lab o F <;> rfl
theorem Agree.res {cfg : Cfg} {K : KF} (h : Agree ops ds o F F') (hal : kindOf o.op = 1 → F'.al = F.al) (hH : (heavyOp cfg o.op && blind ds) = true → F'.H = F.H) : V.res cfg K ds lab o F' = V.res cfg K ds lab o F := by
  unfold V.res
  by_cases h1 : kindOf o.op = 1
  · rw [if_pos h1, if_pos h1, h.val1 (hal h1)]
  · rw [if_neg h1, if_neg h1]
    by_cases h2 : (heavyOp cfg o.op && blind ds) = true
    · rw [if_pos h2, if_pos h2, h.valH (hH h2)]
    · rw [if_neg h2, if_neg h2, h.val0]
theorem res_da {cfg : Cfg} {K : KF} {r : Res} (h : res cfg K ds lab o F = some r) (hk : kindOf o.op ≠ 1) (hc : isCallV o.op = false) : r.da = none := by
  unfold res at h
  rw [if_neg hk] at h
  split at h
  · simp only [Option.map_eq_some_iff] at h; obtain ⟨_, _, rfl⟩ := h; rfl
  · rw [if_neg (by rw [hc]; simp)] at h
    simp only [Option.map_eq_some_iff] at h; obtain ⟨_, _, rfl⟩ := h; rfl
theorem res_dc {cfg : Cfg} {K : KF} {r : Res} (h : res cfg K ds lab o F = some r) (hk : kindOf o.op ≠ 1) : r.da = none ∨ ∃ v, r.da = some fun al => markR lab al v := by
  unfold res at h
  rw [if_neg hk] at h
  split at h
  · simp only [Option.map_eq_some_iff] at h; obtain ⟨_, _, rfl⟩ := h; exact .inl rfl
  · split at h
    · simp only [Option.map_eq_some_iff] at h; obtain ⟨v, _, rfl⟩ := h; exact .inr ⟨v, rfl⟩
    · simp only [Option.map_eq_some_iff] at h; obtain ⟨_, _, rfl⟩ := h; exact .inl rfl
theorem res_dH {cfg : Cfg} {K : KF} {r : Res} (h : res cfg K ds lab o F = some r) (hk : (heavyOp cfg o.op && blind ds) = false) : r.dH = none := by
  unfold res at h
  split at h
  · simp only [Option.map_eq_some_iff] at h; obtain ⟨_, _, rfl⟩ := h; rfl
  · rw [if_neg (by rw [hk]; simp)] at h
    split at h <;> (simp only [Option.map_eq_some_iff] at h; obtain ⟨_, _, rfl⟩ := h; rfl)
end
end Go.Proofs.V

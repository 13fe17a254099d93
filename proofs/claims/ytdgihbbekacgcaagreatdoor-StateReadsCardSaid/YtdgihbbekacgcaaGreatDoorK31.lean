/- From a function's plain program to its call, at any seat. -/
import Derived.Test.YtdgihbbekacgcaaGreatDoorK18
import Derived.Test.YtdgihbbekacgcaaGreatDoorK17
namespace Go.Proofs.W.C
open Go Go.Proofs Go.Proofs.V Go.Proofs.W Go.RowKit
set_option linter.unusedVariables false
set_option linter.unusedSimpArgs false
set_option maxRecDepth 100000
def cellsOf (W : World) : Addr → Option Value := fun a => W.cell? a
theorem mem_cellsOf (W : World) : Mem (cellsOf W) W := fun ad v h => h
theorem noId_sl (rows : List (List AV)) (nl : Bool) : NoId (.slice rows nl .no) := by
  rintro n ⟨y, hy, rows', nl', rfl⟩
  simp [parts] at hy
theorem noId_at (v : Value) : NoId (.at v) := by
  rintro n ⟨y, hy, rows', nl', rfl⟩
  simp [parts] at hy
theorem rows_enc (r : RT) (hf : flatRT r = true) : ∀ l : List (Tr r), All2 (rowR r) l (l.map (encR r))
  | [] => trivial
  | x :: l => ⟨encR_row r x hf, rows_enc r hf l⟩
theorem encR_at : ∀ (r : RT) (x : Tr r), flatRT r = true → ∀ y ∈ encR r x, ∃ u, y = AV.at u
  | .one c, x, hf, y, hy => by
    simp only [encR, List.mem_singleton] at hy
    subst hy
    cases c <;> simp only [flatRT] at hf <;> first | (cases hf; done) | exact ⟨_, rfl⟩
  | .cons c r, x, hf, y, hy => by
    simp only [encR, List.mem_cons] at hy
    have hr : flatRT r = true := by cases c <;> simp_all [flatRT]
    rcases hy with rfl | hy
    · cases c <;> first | exact ⟨_, rfl⟩ | (simp [flatRT] at hf)
    · exact encR_at r x.2 hr y hy
/-- Rows as a value. -/
def SlR (r : RT) (w : World) (v : Value) (l : List (Tr r)) : Prop := ∃ nl, (nl = true → l = []) ∧ R1 (cellsOf w) noE (.slice (l.map (encR r)) nl .no) v
theorem SlR.below {r : RT} {w w' : World} {v : Value} {l : List (Tr r)} (h : SlR r w v l) (hb : Below w.heap.size w w') : SlR r w' v l := by
  obtain ⟨nl, h1, h2⟩ := h
  exact ⟨nl, h1, h2.mono (fun a u hu => (hb.cell (World.block_lt_of_cell? w a hu)).trans hu) (fun l b h => h)⟩
theorem rows_eq (r : RT) (hf : flatRT r = true) : ∀ (rows : List (List AV)) (l : List (Tr r)), All2 (rowR r) l rows → rows = l.map (encR r)
  | [], [], _ => rfl
  | [], _ :: _, h => h.elim
  | _ :: _, [], h => h.elim
  | row :: rows, x :: l, h => by
    have e := encR_R r x row hf h.1
    rw [e, rows_eq r hf rows l h.2]; rfl
theorem slR_of_R1 {r : RT} (hf : flatRT r = true) {w : World} {E : Nat → Option Nat} {l : List (Tr r)} {rows : List (List AV)} {nl : Bool} {o : V.Own} {v : Value} (h : R1 (cellsOf w) E (.slice rows nl o) v) (hd : All2 (rowR r) l rows) : SlR r w v l := by
  have hr := rows_eq r hf rows l hd
  subst hr
  have hat : ∀ i j x, cellAt (l.map (encR r)) i j = some x → ∃ u, x = AV.at u := by
    intro i j x hx
    unfold cellAt at hx
    rw [List.getElem?_map] at hx
    cases he : l[i]? with
    | none => rw [he] at hx; cases hx
    | some e =>
      rw [he] at hx
      exact encR_at r e hf x (List.mem_of_getElem? hx)
  generalize hg : l.map (encR r) = rows at h hat
  cases h with
  | nil =>
    have : l = [] := List.map_eq_nil_iff.1 hg
    subst this
    exact ⟨true, fun _ => rfl, .nil _⟩
  | slice rows own b off cap sz val hlen hsz hfull hpl hS hR =>
    refine ⟨false, fun e => (by cases e), ?_⟩
    rw [hg]
    refine .slice rows .no b off cap sz val hlen hsz (fun e => by cases e) hpl hS fun i j x hx => ?_
    obtain ⟨u, rfl⟩ := hat i j x hx
    have := hR i j _ hx
    generalize val i j = q at this ⊢
    cases this
    exact .at _
/-- A value in memory: its plain counterpart. -/
def CR : (c : CT) → Tc c → World → Value → Prop
  | .int k, n, _, v => v = .int k n
  | .bool, b, _, v => v = .bool b
  | .str, s, _, v => v = .string ⟨⟨s⟩⟩
  | .flt k, n, _, v => v = .float k n
  | .cx k, z, _, v => v = .complex k z.1 z.2
  | .sl r, l, w, v => SlR r w v l
def flatC : CT → Bool
  | .sl r => flatRT r
  | _ => true
theorem CR.below {c : CT} {x : Tc c} {w w' : World} {v : Value} (h : CR c x w v) (hb : Below w.heap.size w w') : CR c x w' v := by
  cases c <;> first | exact SlR.below h hb | exact h
theorem cr_arg {c : CT} (hf : flatC c = true) {x : Tc c} {w : World} {v : Value} (h : CR c x w v) : ∃ a, WR Ono g0 (cellW c x) a ∧ NoId a ∧ R1 (cellsOf w) noE a v := by
  cases c with
  | int k => cases h; exact ⟨_, .int _ _ _, noId_at _, .at _⟩
  | bool => cases h; exact ⟨_, .bool _ _, noId_at _, .at _⟩
  | str => cases h; exact ⟨_, .str _ _, noId_at _, .at _⟩
  | flt k => cases h; exact ⟨_, .flt _ _ _, noId_at _, .at _⟩
  | cx k => cases h; exact ⟨_, .cx _ _ _ _, noId_at _, .at _⟩
  | sl r =>
    obtain ⟨nl, h1, h2⟩ := h
    exact ⟨_, .sl _ _ _ _ _ _ ⟨rows_enc r hf x, fun e => by rw [h1 e]; rfl⟩ rfl (fun _ e => by cases e), noId_sl _ _, h2⟩
theorem cr_res {c : CT} (hf : flatC c = true) {x : Tc c} {w : World} {E : Nat → Option Nat} {a : AV} {v : Value} (h : WR Ono g0 (cellW c x) a) (hR : R1 (cellsOf w) E a v) : CR c x w v := by
  cases c with
  | int k => cases h; cases hR; rfl
  | bool => cases h; cases hR; rfl
  | str => cases h; cases hR; rfl
  | flt k => cases h; cases hR; rfl
  | cx k => cases h; cases hR; rfl
  | sl r =>
    cases h with
    | sl _ _ _ rows nl own hrow ho => exact slR_of_R1 hf hR hrow.1
/-- Arguments in memory. -/
def Args (a : List SV) (x : Tl (dynL a)) (w : World) (vs : List Value) : Prop :=
  ∃ xs, ArgR a x xs ∧ (∀ y ∈ xs, NoId y) ∧ vs.length = xs.length ∧ ∀ (j : Nat) (y : AV) (v : Value), xs[j]? = some y → vs[j]? = some v → R1 (cellsOf w) noE y v
theorem args2 {c1 c2 : CT} (f1 : flatC c1 = true) (f2 : flatC c2 = true) {x1 : Tc c1} {x2 : Tc c2} {w : World} {v1 v2 : Value} (h1 : CR c1 x1 w v1) (h2 : CR c2 x2 w v2) : Args [.c c1, .c c2] (x1, x2) w [v1, v2] := by
  obtain ⟨a1, p1, q1, r1⟩ := cr_arg f1 h1
  obtain ⟨a2, p2, q2, r2⟩ := cr_arg f2 h2
  refine ⟨[a1, a2], ⟨[cellW c1 x1, cellW c2 x2], rfl, p1, p2, trivial⟩, fun y hy => ?_, rfl, fun j y v hy hv => ?_⟩
  · simp at hy; rcases hy with rfl | rfl <;> assumption
  · match j with
    | 0 => cases hy; cases hv; exact r1
    | 1 => cases hy; cases hv; exact r2
    | j + 2 => simp at hy
/-- What a seat's configuration must be. -/
structure Ok (cfg : Cfg) : Prop where
  mixed : cfg.P.follows .mixedOrders = true
  ext : ∀ g s xs r, cfg.ext g = some s → s xs = some r → CSound cfg.P g xs [] r []
theorem csound_of {cfg : Cfg} (K : Ok cfg) {g : Nat} {xs : List AV} {rv : AV} (h : callQ cfg (evK cfg) g xs = some rv) : ∃ H', CSound cfg.P g xs [] rv H' := by
  unfold callQ at h
  cases he : cfg.ext g with
  | some s => rw [he] at h; exact ⟨[], K.ext g s xs rv he h⟩
  | none =>
    rw [he] at h
    cases hk : evK cfg g xs [] with
    | none => rw [hk] at h; cases h
    | some p =>
      rw [hk] at h
      obtain ⟨r, H'⟩ := p
      dsimp only at h
      split at h
      · cases h
        exact ⟨H', evK_sound K.mixed K.ext hk⟩
      · cases h
section
variable {cfg : Cfg} {n : Nat} {a rs : List SV} {F : Tl (dynL a) → Option (Tl (dynL rs))} {x : Tl (dynL a)} {y : Tl (dynL rs)} {w : World} {vs : List Value} {fn : Func} {c : Code}
end
section
variable {cfg : Cfg} {n : Nat} {a : List SV} {x : Tl (dynL a)} {w : World} {vs : List Value} {fn : Func} {c : Code}
end
end Go.Proofs.W.C

/- Plain: numbers, strings, rows as bytes, and back. -/
namespace Go.Proofs.V.Wire
set_option linter.unusedVariables false
set_option linter.unusedSimpArgs false
abbrev BS := List UInt8
def b4 (n : Nat) : BS := [UInt8.ofNat (n / 16777216), UInt8.ofNat (n / 65536), UInt8.ofNat (n / 256), UInt8.ofNat n]
def be4 : BS → Option (Nat × BS)
  | a :: b :: c :: d :: r => some (((a.toNat * 256 + b.toNat) * 256 + c.toNat) * 256 + d.toNat, r)
  | _ => none
theorem be4_b4 (n : Nat) (h : n < 4294967296) (r : BS) : be4 (b4 n ++ r) = some (n, r) := by
  simp only [b4, be4, List.cons_append, List.nil_append, UInt8.toNat_ofNat']
  congr 2
  omega
theorem b4_be4 {l r : BS} {n : Nat} (h : be4 l = some (n, r)) : l = b4 n ++ r ∧ n < 4294967296 := by
  unfold be4 at h
  split at h
  · rename_i a b c d r'
    simp only [Option.some.injEq, Prod.mk.injEq] at h
    obtain ⟨rfl, rfl⟩ := h
    have ha := a.toNat_lt; have hb := b.toNat_lt; have hc := c.toNat_lt; have hd := d.toNat_lt
    refine ⟨?_, by omega⟩
    simp only [b4, List.cons_append, List.nil_append, List.cons.injEq, and_true]
    refine ⟨?_, ?_, ?_, ?_⟩ <;> apply UInt8.toNat_inj.1 <;> simp only [UInt8.toNat_ofNat'] <;> omega
  · cases h
theorem be4_none {l : BS} : be4 l = none ↔ l.length < 4 := by
  match l with
  | [] | [_] | [_, _] | [_, _, _] => simp [be4]
  | _ :: _ :: _ :: _ :: _ => simp [be4]

structure Codec (α : Type) where
  enc : α → BS
  ok : α → Prop
  dec : BS → Option (α × BS)
  A : ∀ x r, ok x → dec (enc x ++ r) = some (x, r)
  B : ∀ l x r, dec l = some (x, r) → l = enc x ++ r ∧ ok x

def clampN (n : Int) : Int := max 0 (min n 4294967295)
def encN (n : Int) : BS := b4 (clampN n).toNat
def decN (most : Int) (l : BS) : Option (Int × BS) :=
  match be4 l with
  | some (n, r) => if (n : Int) > most then none else some (n, r)
  | none => none
def num (most : Int) : Codec Int where
  enc := encN
  ok n := 0 ≤ n ∧ n ≤ most ∧ n ≤ 4294967295
  dec := decN most
  A n r h := by
    have hc : clampN n = n := by unfold clampN; omega
    simp only [encN, hc, decN, be4_b4 n.toNat (by omega)]
    rw [if_neg (by omega), Int.toNat_of_nonneg h.1]
  B l n r h := by
    unfold decN at h
    split at h
    · rename_i m r' hm
      split at h
      · cases h
      · cases h
        obtain ⟨h1, h2⟩ := b4_be4 hm
        have hc : clampN (m : Int) = m := by unfold clampN; omega
        exact ⟨by simp only [encN, hc, Int.toNat_natCast]; exact h1, by omega, by omega, by omega⟩
    · cases h

def encS (s : BS) : BS := encN ((s.take 16384).length : Int) ++ s.take 16384
def decS (most : Int) (l : BS) : Option (BS × BS) :=
  match decN (min most 16384) l with
  | some (n, r) => if r.length < n.toNat then none else some (r.take n.toNat, r.drop n.toNat)
  | none => none
def str (most : Int) : Codec BS where
  enc := encS
  ok s := (s.length : Int) ≤ most ∧ s.length ≤ 16384
  dec := decS most
  A s r h := by
    have ht : s.take 16384 = s := List.take_of_length_le h.2
    have := (num (min most 16384)).A (s.length : Int) (s ++ r) ⟨by omega, by omega, by omega⟩
    simp only [num] at this
    simp only [encS, ht, decS, List.append_assoc, this]
    rw [if_neg (by simp)]
    simp
  B l s r h := by
    unfold decS at h
    split at h
    · rename_i n r' hn
      split at h
      · cases h
      · rename_i hl
        cases h
        obtain ⟨h1, h2, h3, h4⟩ := (num (min most 16384)).B _ _ _ hn
        have hlen : (r'.take n.toNat).length = n.toNat := by rw [List.length_take]; omega
        have ht : (r'.take n.toNat).take 16384 = r'.take n.toNat := List.take_of_length_le (by omega)
        refine ⟨?_, ?_, ?_⟩
        · rw [h1]
          simp only [encS, ht, hlen, num, List.append_assoc, List.take_append_drop]
          rw [Int.toNat_of_nonneg h2]
        · simp only [hlen]; omega
        · rw [hlen]; omega
    · cases h

def bool : Codec Bool where
  enc b := encN (if b then 1 else 0)
  ok _ := True
  dec l := match decN 1 l with
    | some (n, r) => some (n == 1, r)
    | none => none
  A b r _ := by
    have := (num 1).A (if b then 1 else 0) r (by cases b <;> exact ⟨by decide, by decide, by decide⟩)
    simp only [num] at this
    simp only [this]
    cases b <;> rfl
  B l b r h := by
    split at h
    · rename_i n r' hn
      cases h
      obtain ⟨h1, h2, h3, h4⟩ := (num 1).B _ _ _ hn
      refine ⟨?_, trivial⟩
      have : n = 0 ∨ n = 1 := by omega
      rcases this with rfl | rfl <;> simpa [num] using h1
    · cases h

def prod {α β : Type} (c : Codec α) (d : Codec β) : Codec (α × β) where
  enc x := c.enc x.1 ++ d.enc x.2
  ok x := c.ok x.1 ∧ d.ok x.2
  dec l := match c.dec l with
    | some (x, r) => match d.dec r with
      | some (y, r') => some ((x, y), r')
      | none => none
    | none => none
  A x r h := by simp only [List.append_assoc, c.A _ _ h.1, d.A _ _ h.2]
  B l x r h := by
    split at h
    · rename_i x1 r1 h1
      split at h
      · rename_i y1 r2 h2
        cases h
        obtain ⟨e1, o1⟩ := c.B _ _ _ h1
        obtain ⟨e2, o2⟩ := d.B _ _ _ h2
        exact ⟨by rw [e1, e2, List.append_assoc], o1, o2⟩
      · cases h
    · cases h

def decL {α : Type} (d : BS → Option (α × BS)) : Nat → BS → Option (List α × BS)
  | 0, l => some ([], l)
  | n + 1, l => match d l with
    | some (x, r) => match decL d n r with
      | some (xs, r') => some (x :: xs, r')
      | none => none
    | none => none
def encL {α : Type} (c : α → BS) (l : List α) : BS := l.flatMap c
theorem decL_A {α : Type} (c : Codec α) : ∀ (xs : List α) (r : BS), (∀ x ∈ xs, c.ok x) → decL c.dec xs.length (encL c.enc xs ++ r) = some (xs, r)
  | [], r, _ => by simp [decL, encL]
  | x :: xs, r, h => by
    have := decL_A c xs r (fun y hy => h y (List.mem_cons_of_mem _ hy))
    simp only [encL] at this
    simp only [encL, List.flatMap_cons, List.append_assoc, List.length_cons, decL, c.A x _ (h x List.mem_cons_self), this]
theorem decL_B {α : Type} (c : Codec α) : ∀ (n : Nat) (l : BS) (xs : List α) (r : BS), decL c.dec n l = some (xs, r) → l = encL c.enc xs ++ r ∧ (∀ x ∈ xs, c.ok x) ∧ xs.length = n
  | 0, l, xs, r, h => by cases h; simp [encL]
  | n + 1, l, xs, r, h => by
    unfold decL at h
    split at h
    · rename_i x r1 h1
      split at h
      · rename_i ys r2 h2
        cases h
        obtain ⟨e1, o1⟩ := c.B _ _ _ h1
        obtain ⟨e2, o2, o3⟩ := decL_B c n _ _ _ h2
        refine ⟨?_, ?_, by simp [o3]⟩
        · rw [e1, e2]; simp [encL]
        · intro y hy
          rcases List.mem_cons.1 hy with rfl | hy
          · exact o1
          · exact o2 y hy
      · cases h
    · cases h
def list {α : Type} (most : Int) (c : Codec α) : Codec (List α) where
  enc l := encN (l.length : Int) ++ encL c.enc l
  ok l := (l.length : Int) ≤ most ∧ (l.length : Int) ≤ 4294967295 ∧ ∀ x ∈ l, c.ok x
  dec l := match decN most l with
    | some (n, r) => decL c.dec n.toNat r
    | none => none
  A l r h := by
    have := (num most).A (l.length : Int) (encL c.enc l ++ r) ⟨by omega, h.1, h.2.1⟩
    simp only [num] at this
    simp only [List.append_assoc, this, Int.toNat_natCast]
    exact decL_A c l r h.2.2
  B l xs r h := by
    split at h
    · rename_i n r1 h1
      obtain ⟨e1, o1, o2, o3⟩ := (num most).B _ _ _ h1
      obtain ⟨e2, p1, p2⟩ := decL_B c _ _ _ _ h
      refine ⟨?_, by omega, by omega, p1⟩
      rw [e1, e2, p2, Int.toNat_of_nonneg o1]
      simp [num]
    · cases h
theorem Codec.inj {α : Type} (c : Codec α) {x y : α} (hx : c.ok x) (hy : c.ok y) (h : c.enc x = c.enc y) : x = y := by
  have h1 := c.A x [] hx
  have h2 := c.A y [] hy
  rw [h, h2] at h1
  simpa using (congrArg (Option.map Prod.fst) h1).symm
end Go.Proofs.V.Wire
namespace Go.Proofs.V.Wire
set_option linter.unusedVariables false
set_option linter.unusedSimpArgs false
abbrev Fi := BS × BS
abbrev En := BS × Bool × BS × Int × Int
abbrev Cu := Int × Int × Int × Int
abbrev Pu := Int × BS
abbrev Stt := Int × List Fi × List En × Cu × List Int × List En × Bool × Cu × List En × List BS × List Pu × Bool
abbrev maxN : Int := 4294967295
def cFi : Codec Fi := prod (str 52) (str 600)
def cEn : Codec En := prod (str 52) (prod bool (prod (str 600) (prod (num maxN) (num maxN))))
def cCu : Codec Cu := prod (num maxN) (prod (num maxN) (prod (num maxN) (num maxN)))
def cPu : Codec Pu := prod (num maxN) (str 16)
def cSt : Codec Stt := prod (num 1) (prod (list 16 cFi) (prod (list 32 cEn) (prod cCu (prod (list 200 (num maxN)) (prod (list 32 cEn) (prod bool (prod cCu (prod (list 32 cEn) (prod (list 32 (str 52)) (prod (list 200 cPu) bool))))))))))
def encR {α : Type} (c : α → BS) (l : List α) : BS := encN (l.length : Int) ++ encL c l
end Go.Proofs.V.Wire

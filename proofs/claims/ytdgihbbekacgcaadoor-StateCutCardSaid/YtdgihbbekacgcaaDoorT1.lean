/- slices.Clone of bytes at seat r17. -/
import Derived.Test.YtdgihbbekacgcaaDoorS1
import Derived.Test.YtdgihbbekacgcaaDoorV23
import Derived.Test.YtdgihbbekacgcaaDoorV26
namespace Go.Proofs.V
open Go Go.Proofs
set_option linter.unusedVariables false
set_option linter.unusedSimpArgs false
abbrev nilS : AV := .slice [] true .full
def cloneA (rows : List (List AV)) (nl : Bool) : AV := if nl then nilS else if rows.isEmpty then .slice [] false .full else .slice rows false .fresh
set_option maxRecDepth 100000 in
theorem clone66 (rows : List (List AV)) (nl : Bool) (own : Own) (hall : ∀ r ∈ rows, r.length = 1) (hlen : rows.length ≤ 35184372088832) (hnl : nl = true → rows = []) : evK cfg17 66 [.slice rows nl own] [] = some (cloneA rows nl, []) := by
  refine evK_of Tryd.func66 rfl (of_decide_eq_true (by kernel_rfl)) (by kernel_rfl) (by kernel_rfl) rfl ?_
  unfold Tryd.f66
  dsimp only
  refine aw_seq (aw_region (ow_all 10 (by kernel_rfl) ?_))
  dsimp only [Then]
  cases nl with
  | true =>
    obtain rfl := hnl rfl
    refine aw_seq (aw_seq (aw_region (ow_all 10 (by kernel_rfl) ?_)))
    dsimp only [Then]
    refine (aw_cond (t := true) (by kernel_rfl) (fun _ => ?_) (fun h => by cases h))
    refine aw_seq (aw_region (ow_all 10 (by kernel_rfl) ?_))
    dsimp only [Then]
    refine aw_ret ?_
    dsimp only [Then]
    exact ⟨.inr rfl, [nilS], by kernel_rfl, by kernel_rfl, by kernel_rfl, by kernel_rfl⟩
  | false =>
    cases rows with
    | nil =>
      refine aw_seq (aw_seq (aw_region (ow_all 10 (by kernel_rfl) ?_)))
      dsimp only [Then]
      refine (aw_cond (t := false) (by kernel_rfl) (fun h => by cases h) (fun _ => ?_))
      refine aw_skip ?_
      dsimp only [Then]
      refine aw_seq (aw_region (ow_all 10 (by kernel_rfl) ?_))
      dsimp only [Then]
      refine aw_ret ?_
      exact ⟨.inr rfl, [.slice [] false .full], by kernel_rfl, by kernel_rfl, by kernel_rfl, by kernel_rfl⟩
    | cons r rs =>
      refine aw_seq (aw_seq (aw_region (ow_all 10 (by kernel_rfl) ?_)))
      dsimp only [Then]
      refine (aw_cond (t := false) (by kernel_rfl) (fun h => by cases h) (fun _ => ?_))
      refine aw_skip ?_
      dsimp only [Then]
      refine aw_seq (aw_region ?_)
      refine ow_run (l := [_, _]) 10 (by kernel_rfl) ?_
      refine ow_appendG (ty := 44) (S := .slice [] false .full) (X := .slice (r :: rs) false own) (by kernel_rfl) (by kernel_rfl) (by kernel_rfl) (by kernel_rfl) (append_full (rows := []) (ys := r :: rs) (e := 5) (sz := 1) (by_ := 1) (z := [.at (.int .u8 0)]) (by kernel_rfl) (by kernel_rfl) (by kernel_rfl) (by kernel_rfl) (by simp) hall (by decide) (by simpa using hlen) (by simp at hlen ⊢; omega) (by decide) (by kernel_rfl) rfl (by simp)) (by kernel_rfl) ?_
      refine ow_all 10 (by kernel_rfl) ?_
      dsimp only [Then]
      refine aw_ret ?_
      exact ⟨.inr rfl, [.slice (r :: rs) false (.id 320)], by kernel_rfl, by kernel_rfl, by kernel_rfl, by kernel_rfl⟩
end Go.Proofs.V
namespace Go.Proofs.V.Wire
set_option linter.unusedVariables false
set_option linter.unusedSimpArgs false
abbrev BS := List UInt8
def b4 (n : Nat) : BS := [UInt8.ofNat (n / 16777216), UInt8.ofNat (n / 65536), UInt8.ofNat (n / 256), UInt8.ofNat n]
def be4 : BS → Option (Nat × BS)
  | a :: b :: c :: d :: r => some (((a.toNat * 256 + b.toNat) * 256 + c.toNat) * 256 + d.toNat, r)
  | _ => none
theorem b4_length (n : Nat) : (b4 n).length = 4 := rfl
theorem be4_b4 (n : Nat) (h : n < 4294967296) (r : BS) : be4 (b4 n ++ r) = some (n, r) := by
  simp only [b4, be4, List.cons_append, List.nil_append, UInt8.toNat_ofNat']
  congr 2
  omega
theorem b4_be4 {l r : BS} {n : Nat} (h : be4 l = some (n, r)) : l = b4 n ++ r ∧ n < 4294967296 := by
  unfold be4 at h
  split at h
  · rename_i a b c d r'
    simp only [Option.some.injEq, Prod.mk.injEq] at h
    obtain ⟨rfl, rfl⟩ := h
    have ha := a.toNat_lt; have hb := b.toNat_lt; have hc := c.toNat_lt; have hd := d.toNat_lt
    refine ⟨?_, by omega⟩
    simp only [b4, List.cons_append, List.nil_append, List.cons.injEq, and_true]
    refine ⟨?_, ?_, ?_, ?_⟩ <;> apply UInt8.toNat_inj.1 <;> simp only [UInt8.toNat_ofNat'] <;> omega
  · cases h
theorem be4_none {l : BS} : be4 l = none ↔ l.length < 4 := by
  match l with
  | [] | [_] | [_, _] | [_, _, _] => simp [be4]
  | _ :: _ :: _ :: _ :: _ => simp [be4]

structure Codec (α : Type) where
  enc : α → BS
  ok : α → Prop
  dec : BS → Option (α × BS)
  A : ∀ x r, ok x → dec (enc x ++ r) = some (x, r)
  B : ∀ l x r, dec l = some (x, r) → l = enc x ++ r ∧ ok x

def clampN (n : Int) : Int := max 0 (min n 4294967295)
def encN (n : Int) : BS := b4 (clampN n).toNat
def decN (most : Int) (l : BS) : Option (Int × BS) :=
  match be4 l with
  | some (n, r) => if (n : Int) > most then none else some (n, r)
  | none => none
def num (most : Int) : Codec Int where
  enc := encN
  ok n := 0 ≤ n ∧ n ≤ most ∧ n ≤ 4294967295
  dec := decN most
  A n r h := by
    have hc : clampN n = n := by unfold clampN; omega
    simp only [encN, hc, decN, be4_b4 n.toNat (by omega)]
    rw [if_neg (by omega), Int.toNat_of_nonneg h.1]
  B l n r h := by
    unfold decN at h
    split at h
    · rename_i m r' hm
      split at h
      · cases h
      · cases h
        obtain ⟨h1, h2⟩ := b4_be4 hm
        have hc : clampN (m : Int) = m := by unfold clampN; omega
        exact ⟨by simp only [encN, hc, Int.toNat_natCast]; exact h1, by omega, by omega, by omega⟩
    · cases h

def encS (s : BS) : BS := encN ((s.take 16384).length : Int) ++ s.take 16384
def decS (most : Int) (l : BS) : Option (BS × BS) :=
  match decN (min most 16384) l with
  | some (n, r) => if r.length < n.toNat then none else some (r.take n.toNat, r.drop n.toNat)
  | none => none
def str (most : Int) : Codec BS where
  enc := encS
  ok s := (s.length : Int) ≤ most ∧ s.length ≤ 16384
  dec := decS most
  A s r h := by
    have ht : s.take 16384 = s := List.take_of_length_le h.2
    have := (num (min most 16384)).A (s.length : Int) (s ++ r) ⟨by omega, by omega, by omega⟩
    simp only [num] at this
    simp only [encS, ht, decS, List.append_assoc, this]
    rw [if_neg (by simp)]
    simp
  B l s r h := by
    unfold decS at h
    split at h
    · rename_i n r' hn
      split at h
      · cases h
      · rename_i hl
        cases h
        obtain ⟨h1, h2, h3, h4⟩ := (num (min most 16384)).B _ _ _ hn
        have hlen : (r'.take n.toNat).length = n.toNat := by rw [List.length_take]; omega
        have ht : (r'.take n.toNat).take 16384 = r'.take n.toNat := List.take_of_length_le (by omega)
        refine ⟨?_, ?_, ?_⟩
        · rw [h1]
          simp only [encS, ht, hlen, num, List.append_assoc, List.take_append_drop]
          rw [Int.toNat_of_nonneg h2]
        · simp only [hlen]; omega
        · rw [hlen]; omega
    · cases h

def bool : Codec Bool where
  enc b := encN (if b then 1 else 0)
  ok _ := True
  dec l := match decN 1 l with
    | some (n, r) => some (n == 1, r)
    | none => none
  A b r _ := by
    have := (num 1).A (if b then 1 else 0) r (by cases b <;> exact ⟨by decide, by decide, by decide⟩)
    simp only [num] at this
    simp only [this]
    cases b <;> rfl
  B l b r h := by
    split at h
    · rename_i n r' hn
      cases h
      obtain ⟨h1, h2, h3, h4⟩ := (num 1).B _ _ _ hn
      refine ⟨?_, trivial⟩
      have : n = 0 ∨ n = 1 := by omega
      rcases this with rfl | rfl <;> simpa [num] using h1
    · cases h

def prod {α β : Type} (c : Codec α) (d : Codec β) : Codec (α × β) where
  enc x := c.enc x.1 ++ d.enc x.2
  ok x := c.ok x.1 ∧ d.ok x.2
  dec l := match c.dec l with
    | some (x, r) => match d.dec r with
      | some (y, r') => some ((x, y), r')
      | none => none
    | none => none
  A x r h := by simp only [List.append_assoc, c.A _ _ h.1, d.A _ _ h.2]
  B l x r h := by
    split at h
    · rename_i x1 r1 h1
      split at h
      · rename_i y1 r2 h2
        cases h
        obtain ⟨e1, o1⟩ := c.B _ _ _ h1
        obtain ⟨e2, o2⟩ := d.B _ _ _ h2
        exact ⟨by rw [e1, e2, List.append_assoc], o1, o2⟩
      · cases h
    · cases h

def decL {α : Type} (d : BS → Option (α × BS)) : Nat → BS → Option (List α × BS)
  | 0, l => some ([], l)
  | n + 1, l => match d l with
    | some (x, r) => match decL d n r with
      | some (xs, r') => some (x :: xs, r')
      | none => none
    | none => none
def encL {α : Type} (c : α → BS) (l : List α) : BS := l.flatMap c
theorem decL_A {α : Type} (c : Codec α) : ∀ (xs : List α) (r : BS), (∀ x ∈ xs, c.ok x) → decL c.dec xs.length (encL c.enc xs ++ r) = some (xs, r)
  | [], r, _ => by simp [decL, encL]
  | x :: xs, r, h => by
    have := decL_A c xs r (fun y hy => h y (List.mem_cons_of_mem _ hy))
    simp only [encL] at this
    simp only [encL, List.flatMap_cons, List.append_assoc, List.length_cons, decL, c.A x _ (h x List.mem_cons_self), this]
theorem decL_B {α : Type} (c : Codec α) : ∀ (n : Nat) (l : BS) (xs : List α) (r : BS), decL c.dec n l = some (xs, r) → l = encL c.enc xs ++ r ∧ (∀ x ∈ xs, c.ok x) ∧ xs.length = n
  | 0, l, xs, r, h => by cases h; simp [encL]
  | n + 1, l, xs, r, h => by
    unfold decL at h
    split at h
    · rename_i x r1 h1
      split at h
      · rename_i ys r2 h2
        cases h
        obtain ⟨e1, o1⟩ := c.B _ _ _ h1
        obtain ⟨e2, o2, o3⟩ := decL_B c n _ _ _ h2
        refine ⟨?_, ?_, by simp [o3]⟩
        · rw [e1, e2]; simp [encL]
        · intro y hy
          rcases List.mem_cons.1 hy with rfl | hy
          · exact o1
          · exact o2 y hy
      · cases h
    · cases h
def list {α : Type} (most : Int) (c : Codec α) : Codec (List α) where
  enc l := encN (l.length : Int) ++ encL c.enc l
  ok l := (l.length : Int) ≤ most ∧ (l.length : Int) ≤ 4294967295 ∧ ∀ x ∈ l, c.ok x
  dec l := match decN most l with
    | some (n, r) => decL c.dec n.toNat r
    | none => none
  A l r h := by
    have := (num most).A (l.length : Int) (encL c.enc l ++ r) ⟨by omega, h.1, h.2.1⟩
    simp only [num] at this
    simp only [List.append_assoc, this, Int.toNat_natCast]
    exact decL_A c l r h.2.2
  B l xs r h := by
    split at h
    · rename_i n r1 h1
      obtain ⟨e1, o1, o2, o3⟩ := (num most).B _ _ _ h1
      obtain ⟨e2, p1, p2⟩ := decL_B c _ _ _ _ h
      refine ⟨?_, by omega, by omega, p1⟩
      rw [e1, e2, p2, Int.toNat_of_nonneg o1]
      simp [num]
    · cases h
def iso {α β : Type} (c : Codec α) (f : α → β) (g : β → α) (hf : ∀ x, f (g x) = x) (hg : ∀ x, g (f x) = x) : Codec β where
  enc x := c.enc (g x)
  ok x := c.ok (g x)
  dec l := match c.dec l with
    | some (x, r) => some (f x, r)
    | none => none
  A x r h := by simp only [c.A _ _ h, hf]
  B l x r h := by
    split at h
    · rename_i y r1 h1
      cases h
      simpa only [hg] using c.B _ _ _ h1
    · cases h
theorem Codec.inj {α : Type} (c : Codec α) {x y : α} (hx : c.ok x) (hy : c.ok y) (h : c.enc x = c.enc y) : x = y := by
  have h1 := c.A x [] hx
  have h2 := c.A y [] hy
  rw [h, h2] at h1
  simpa using (congrArg (Option.map Prod.fst) h1).symm
end Go.Proofs.V.Wire
namespace Go.Proofs.V.Wire
set_option linter.unusedVariables false
set_option linter.unusedSimpArgs false
abbrev Fi := BS × BS
abbrev En := BS × Bool × BS × Int × Int
abbrev Cu := Int × Int × Int × Int
abbrev Pu := Int × BS
abbrev Stt := Int × List Fi × List En × Cu × List Int × List En × Bool × Cu × List En × List BS × List Pu × Bool
abbrev maxN : Int := 4294967295
def cFi : Codec Fi := prod (str 52) (str 600)
def cEn : Codec En := prod (str 52) (prod bool (prod (str 600) (prod (num maxN) (num maxN))))
def cCu : Codec Cu := prod (num maxN) (prod (num maxN) (prod (num maxN) (num maxN)))
def cPu : Codec Pu := prod (num maxN) (str 16)
def cSt : Codec Stt := prod (num 1) (prod (list 16 cFi) (prod (list 32 cEn) (prod cCu (prod (list 200 (num maxN)) (prod (list 32 cEn) (prod bool (prod cCu (prod (list 32 cEn) (prod (list 32 (str 52)) (prod (list 200 cPu) bool))))))))))
/-- With room enough for what is merely written. -/
def wFi : Codec Fi := prod (str 16384) (str 16384)
def wEn : Codec En := prod (str 16384) (prod bool (prod (str 16384) (prod (num maxN) (num maxN))))
def wPu : Codec Pu := prod (num maxN) (str 16384)
def wSt : Codec Stt := prod (num maxN) (prod (list maxN wFi) (prod (list maxN wEn) (prod cCu (prod (list maxN (num maxN)) (prod (list maxN wEn) (prod bool (prod cCu (prod (list maxN wEn) (prod (list maxN (str 16384)) (prod (list maxN wPu) bool))))))))))
def encFi (x : Fi) : BS := encS x.1 ++ encS x.2
def encB (b : Bool) : BS := encN (if b then 1 else 0)
def encEn (x : En) : BS := encS x.1 ++ (encB x.2.1 ++ (encS x.2.2.1 ++ (encN x.2.2.2.1 ++ encN x.2.2.2.2)))
def encCu (x : Cu) : BS := encN x.1 ++ (encN x.2.1 ++ (encN x.2.2.1 ++ encN x.2.2.2))
def encPu (x : Pu) : BS := encN x.1 ++ encS x.2
def encR {α : Type} (c : α → BS) (l : List α) : BS := encN (l.length : Int) ++ encL c l
def encSt (s : Stt) : BS := encN s.1 ++ (encR encFi s.2.1 ++ (encR encEn s.2.2.1 ++ (encCu s.2.2.2.1 ++ (encR encN s.2.2.2.2.1 ++ (encR encEn s.2.2.2.2.2.1 ++ (encB s.2.2.2.2.2.2.1 ++ (encCu s.2.2.2.2.2.2.2.1 ++ (encR encEn s.2.2.2.2.2.2.2.2.1 ++ (encR encS s.2.2.2.2.2.2.2.2.2.1 ++ (encR encPu s.2.2.2.2.2.2.2.2.2.2.1 ++ encB s.2.2.2.2.2.2.2.2.2.2.2))))))))))
theorem encSt_c (s : Stt) : cSt.enc s = encSt s := rfl
theorem encSt_w (s : Stt) : wSt.enc s = encSt s := rfl
end Go.Proofs.V.Wire
namespace Go.Proofs.V
open Go Go.Proofs Go.Proofs.V.Wire
set_option linter.unusedVariables false
set_option linter.unusedSimpArgs false
def bsA (bs : BS) : List (List AV) := bs.map rowOfByte
theorem bsA_append (a b : BS) : bsA (a ++ b) = bsA a ++ bsA b := List.map_append
theorem bsA_len (a : BS) : (bsA a).length = a.length := List.length_map ..
theorem bsA_all (a : BS) : ∀ r ∈ bsA a, r.length = 1 := by
  intro r h
  obtain ⟨b, _, rfl⟩ := List.mem_map.1 h
  rfl
def cl (n : Int) : Int := if 0 < (if 4294967295 < n then 4294967295 else n) then (if 4294967295 < n then 4294967295 else n) else 0
theorem cl_clampN (n : Int) : cl n = clampN n := by
  unfold cl clampN
  split <;> split <;> omega
def byteN (n : Int) (k : Nat) : Int := IntKind.u8.wrap (Int.fdiv n (2 ^ k))
def W38 (n : Int) : Nat → List (List AV)
  | 0 => []
  | i + 1 => W38 n i ++ [[.at (.int .u8 (byteN n (24 - 8 * i)))]]
theorem W38_len (n : Int) : ∀ i, (W38 n i).length = i
  | 0 => rfl
  | i + 1 => by simp [W38, W38_len n i]
theorem W38_all (n : Int) : ∀ i, ∀ r ∈ W38 n i, r.length = 1
  | 0, r, h => by cases h
  | i + 1, r, h => by
    rcases List.mem_append.1 h with h | h
    · exact W38_all n i r h
    · simp at h; subst h; rfl
theorem W38_enc (n : Int) : W38 (cl n) 4 = bsA (encN n) := by
  have h0 : 0 ≤ clampN n := by unfold clampN; omega
  have h1 : clampN n < 4294967296 := by unfold clampN; omega
  rw [cl_clampN]
  have hb : ∀ k : Nat, byteN (clampN n) k = ((clampN n).toNat / 2 ^ k % 256 : Nat) := by
    intro k
    unfold byteN
    rw [IntKind.wrap_u8]
    obtain ⟨m, hm⟩ := Int.eq_ofNat_of_zero_le h0
    rw [hm]
    rw [Int.fdiv_eq_ediv_of_nonneg _ (by exact Int.pow_nonneg (by decide))]
    simp
  simp only [W38, encN, b4, bsA, List.map_cons, List.map_nil, rowOfByte, List.nil_append, List.cons_append, hb, UInt8.toNat_ofNat']
  simp
theorem clone_any (rows : List (List AV)) (nl : Bool) (own : Own) (hall : ∀ r ∈ rows, r.length = 1) (hlen : rows.length ≤ 1073741824) (hnl : nl = true → rows = []) :
    ∃ nl' o, callQ cfg17 (evK cfg17) 66 [strip (.slice rows nl own)] = some (.slice rows nl' o) ∧ (o = .full ∨ o = .fresh) := by
  have hcl : callQ cfg17 (evK cfg17) 66 [strip (.slice rows nl own)] = some (cloneA rows nl) := by
    cases own <;> exact callQ_of (by kernel_rfl) (clone66 rows nl _ hall (by omega) hnl)
  rw [hcl]
  unfold cloneA
  cases nl with
  | true => obtain rfl := hnl rfl; exact ⟨true, .full, rfl, .inl rfl⟩
  | false => cases rows with
    | nil => exact ⟨false, .full, rfl, .inl rfl⟩
    | cons r rs => exact ⟨false, .fresh, rfl, .inr rfl⟩
set_option maxRecDepth 100000 in
set_option maxHeartbeats 1000000 in
theorem number38 (rows : List (List AV)) (nl : Bool) (own : Own) (n : Int) (hall : ∀ r ∈ rows, r.length = 1) (hlen : rows.length ≤ 1073741824) (hnl : nl = true → rows = []) :
    evK cfg17 38 [.slice rows nl own, I64 n] [] = some (.slice (rows ++ bsA (encN n)) false .fresh, []) := by
  obtain ⟨nl', o, hcl, ho⟩ := clone_any rows nl own hall hlen hnl
  rw [← W38_enc]
  refine evK_of Tryd.func38 rfl (of_decide_eq_true (by kernel_rfl)) (by kernel_rfl) (by kernel_rfl) rfl ?_
  unfold Tryd.f38
  dsimp only
  refine aw_sk 10 (by kernel_rfl) ?_
  refine aw_sk 10 (by kernel_rfl) ?_
  refine aw_sr (ow_k 1 10 (by kernel_rfl) ?_)
  refine ow_callG (k := 66) (first := []) (captured := []) (xs := [.slice rows nl own]) (r := .slice rows nl' o) (by kernel_rfl) (by kernel_rfl) (by kernel_rfl) rfl (by kernel_rfl) (by kernel_rfl) hcl (by kernel_rfl) (by kernel_rfl) ?_
  refine ow_all 10 (by kernel_rfl) ?_
  refine aw_assoc (aw_sk 10 (by kernel_rfl) ?_)
  refine aw_sfor 4 (fun i => match i with
    | 0 => IsF 25 [] (cfg17.heap 38) 5 rows [(1, I64 (cl n)), (6, I64 3)]
    | i + 1 => IsD 25 [] (cfg17.heap 38) 5 (rows ++ W38 (cl n) (i + 1)) [(1, I64 (cl n)), (6, I64 (3 - ((i + 1 : Nat) : Int)))]) ?_ ?_ ?_
  · rcases ho with rfl | rfl
    · exact isF_of (rows' := rows) (o := .full) (nl := nl') (by kernel_rfl) rfl fresh_full
    · exact isF_of (rows' := rows) (o := .id 384) (nl := nl') (by kernel_rfl) rfl (fresh_id (by kernel_rfl))
  · intro i F hi hI
    have hw := fun j => W38_len (cl n) j
    obtain rfl | rfl | rfl | rfl : i = 0 ∨ i = 1 ∨ i = 2 ∨ i = 3 := by omega
    · obtain ⟨t, c, al, o, nl, rfl, hf⟩ := hI
      refine aw_assoc (aw_sk 10 (by kernel_rfl) ?_)
      refine aw_sc true (by kernel_rfl) (fun _ => ?_) (fun h => by cases h)
      refine aw_sskip (aw_seq (aw_block (aw_region (ow_k 7 10 (by kernel_rfl) ?_))))
      refine ow_app (rows := rows) (ys := [[.at (.int .u8 (byteN (cl n) 24))]]) (own := o) (nl := nl) (X := .slice [[.at (.int .u8 (byteN (cl n) 24))]] false .full) (ty := 44) (e := 5) (sz := 1) (by_ := 1) (z := [.at (.int .u8 0)]) hf (by simp) hall (by simp) (by simp [hw]; omega) (by kernel_rfl) (by kernel_rfl) (by kernel_rfl) (by kernel_rfl) (by kernel_rfl) (by kernel_rfl) (by kernel_rfl) (by kernel_rfl) rfl rfl rfl (by kernel_rfl) (by kernel_rfl) (fun al' ha => ?_)
      refine ow_all 10 (by kernel_rfl) ?_
      refine aw_rk 10 (by kernel_rfl) ?_
      exact isD_of (rows' := rows ++ [[.at (.int .u8 (byteN (cl n) 24))]]) (by kernel_rfl) (by simp [W38]) ha
    · obtain ⟨t, c, al, k, rfl, hk⟩ := hI
      refine aw_assoc (aw_sk 10 (by kernel_rfl) ?_)
      refine aw_sc true (by kernel_rfl) (fun _ => ?_) (fun h => by cases h)
      refine aw_sskip (aw_seq (aw_block (aw_region (ow_k 7 10 (by kernel_rfl) ?_))))
      refine ow_app (rows := (rows ++ W38 (cl n) 1)) (ys := [[.at (.int .u8 (byteN (cl n) 16))]]) (own := .id k) (nl := false) (X := .slice [[.at (.int .u8 (byteN (cl n) 16))]] false .full) (ty := 44) (e := 5) (sz := 1) (by_ := 1) (z := [.at (.int .u8 0)]) (fresh_id hk) (by simp) (fun r h => (List.mem_append.1 h).elim (hall r) (W38_all (cl n) 1 r)) (by simp) (by simp [hw]; omega) (by kernel_rfl) (by kernel_rfl) (by kernel_rfl) (by kernel_rfl) (by kernel_rfl) (by kernel_rfl) (by kernel_rfl) (by kernel_rfl) rfl rfl rfl (by kernel_rfl) (by kernel_rfl) (fun al' ha => ?_)
      refine ow_all 10 (by kernel_rfl) ?_
      refine aw_rk 10 (by kernel_rfl) ?_
      exact isD_of (rows' := (rows ++ W38 (cl n) 1) ++ [[.at (.int .u8 (byteN (cl n) 16))]]) (by kernel_rfl) (by simp [W38]) ha
    · obtain ⟨t, c, al, k, rfl, hk⟩ := hI
      refine aw_assoc (aw_sk 10 (by kernel_rfl) ?_)
      refine aw_sc true (by kernel_rfl) (fun _ => ?_) (fun h => by cases h)
      refine aw_sskip (aw_seq (aw_block (aw_region (ow_k 7 10 (by kernel_rfl) ?_))))
      refine ow_app (rows := (rows ++ W38 (cl n) 2)) (ys := [[.at (.int .u8 (byteN (cl n) 8))]]) (own := .id k) (nl := false) (X := .slice [[.at (.int .u8 (byteN (cl n) 8))]] false .full) (ty := 44) (e := 5) (sz := 1) (by_ := 1) (z := [.at (.int .u8 0)]) (fresh_id hk) (by simp) (fun r h => (List.mem_append.1 h).elim (hall r) (W38_all (cl n) 2 r)) (by simp) (by simp [hw]; omega) (by kernel_rfl) (by kernel_rfl) (by kernel_rfl) (by kernel_rfl) (by kernel_rfl) (by kernel_rfl) (by kernel_rfl) (by kernel_rfl) rfl rfl rfl (by kernel_rfl) (by kernel_rfl) (fun al' ha => ?_)
      refine ow_all 10 (by kernel_rfl) ?_
      refine aw_rk 10 (by kernel_rfl) ?_
      exact isD_of (rows' := (rows ++ W38 (cl n) 2) ++ [[.at (.int .u8 (byteN (cl n) 8))]]) (by kernel_rfl) (by simp [W38]) ha
    · obtain ⟨t, c, al, k, rfl, hk⟩ := hI
      refine aw_assoc (aw_sk 10 (by kernel_rfl) ?_)
      refine aw_sc true (by kernel_rfl) (fun _ => ?_) (fun h => by cases h)
      refine aw_sskip (aw_seq (aw_block (aw_region (ow_k 7 10 (by kernel_rfl) ?_))))
      refine ow_app (rows := (rows ++ W38 (cl n) 3)) (ys := [[.at (.int .u8 (byteN (cl n) 0))]]) (own := .id k) (nl := false) (X := .slice [[.at (.int .u8 (byteN (cl n) 0))]] false .full) (ty := 44) (e := 5) (sz := 1) (by_ := 1) (z := [.at (.int .u8 0)]) (fresh_id hk) (by simp) (fun r h => (List.mem_append.1 h).elim (hall r) (W38_all (cl n) 3 r)) (by simp) (by simp [hw]; omega) (by kernel_rfl) (by kernel_rfl) (by kernel_rfl) (by kernel_rfl) (by kernel_rfl) (by kernel_rfl) (by kernel_rfl) (by kernel_rfl) rfl rfl rfl (by kernel_rfl) (by kernel_rfl) (fun al' ha => ?_)
      refine ow_all 10 (by kernel_rfl) ?_
      refine aw_rk 10 (by kernel_rfl) ?_
      exact isD_of (rows' := (rows ++ W38 (cl n) 3) ++ [[.at (.int .u8 (byteN (cl n) 0))]]) (by kernel_rfl) (by simp [W38]) ha
  · rintro F ⟨t, c, al, k, rfl, hk⟩
    refine aw_assoc (aw_sk 10 (by kernel_rfl) ?_)
    refine aw_sc false (by kernel_rfl) (fun h => by cases h) (fun _ => ?_)
    refine aw_sexit ?_
    dsimp only [Then, InBlock, if_true]
    refine aw_sk 10 (by kernel_rfl) ?_
    refine aw_ret ?_
    exact ⟨.inr rfl, [.slice (rows ++ W38 (cl n) 4) false (.id k)], by kernel_rfl, by kernel_rfl, leave_id hk, by kernel_rfl⟩
/-- Bytes as a value. -/
abbrev BSl (bs : BS) (nl : Bool) (own : Own) : AV := .slice (bsA bs) nl own
theorem number_spec (bs : BS) (nl : Bool) (own : Own) (n : Int) (hlen : bs.length ≤ 1073741824) (hnl : nl = true → bs = []) :
    callQ cfg17 (evK cfg17) 38 [BSl bs nl own, I64 n] = some (BSl (bs ++ encN n) false .fresh) := by
  have h := number38 (bsA bs) nl own n (bsA_all bs) (by rw [bsA_len]; exact hlen) (fun h => by rw [hnl h]; rfl)
  rw [← bsA_append] at h
  exact callQ_of (by kernel_rfl) h
end Go.Proofs.V
namespace Go.Proofs.V
open Go Go.Proofs Go.Proofs.V.Wire
set_option linter.unusedVariables false
set_option linter.unusedSimpArgs false
theorem min_cl (n k : Nat) : (if (k : Int) < (n : Int) then (k : Int) else (n : Int)) = ((min n k : Nat) : Int) := by
  split <;> omega
set_option maxRecDepth 100000 in
set_option maxHeartbeats 1000000 in
theorem string70 (bs : BS) (nl : Bool) (own : Own) (s : BS) (hlen : bs.length ≤ 1073000000) (hnl : nl = true → bs = []) :
    evK cfg17 70 [BSl bs nl own, ST s] [] = some (BSl (bs ++ encS s) false .fresh, []) := by
  have hm := min_cl s.length 16384
  have hmn : (s.take 16384).length = min s.length 16384 := by rw [List.length_take, Nat.min_comm]
  have hcl : callQ cfg17 (evK cfg17) 38 [strip (BSl bs nl own), I64 ((s.take 16384).length : Nat)] = some (BSl (bs ++ encN ((s.take 16384).length : Nat)) false .fresh) := by
    cases own <;> exact number_spec bs nl _ _ (by omega) hnl
  refine evK_of Tryd.func70 rfl (of_decide_eq_true (by kernel_rfl)) (by kernel_rfl) (by kernel_rfl) rfl ?_
  unfold Tryd.f70
  dsimp only
  refine aw_sk 10 (by kernel_rfl) ?_
  refine aw_sr (ow_k 4 10 (by kernel_rfl) ?_)
  refine ow_substr (bs := s) (l := 0) (u := if ((16384 : Nat) : Int) < (s.length : Int) then ((16384 : Nat) : Int) else (s.length : Int)) (by omega) (by omega) (by omega) (by kernel_rfl) (by kernel_rfl) (by kernel_rfl) (by kernel_rfl) (by kernel_rfl) (by kernel_rfl) ?_
  rw [hm, show (s.drop (0 : Int).toNat).take (((min s.length 16384 : Nat) : Int).toNat - (0 : Int).toNat) = s.take 16384 by
    simp only [Int.toNat_zero, List.drop_zero, Int.toNat_natCast, Nat.sub_zero]
    rw [List.take_eq_take_iff]
    omega]
  revert hmn hcl
  simp only [encS]
  generalize s.take 16384 = s'
  intro hmn hcl
  refine ow_all 10 (by kernel_rfl) ?_
  refine aw_sr (ow_k 3 10 (by kernel_rfl) ?_)
  refine ow_callG (k := 38) (first := []) (captured := []) (xs := [BSl bs nl own, I64 (s'.length : Nat)]) (r := BSl (bs ++ encN (s'.length : Nat)) false .fresh) (by kernel_rfl) (by kernel_rfl) (by kernel_rfl) rfl (by kernel_rfl) (by kernel_rfl) hcl (by kernel_rfl) (by kernel_rfl) ?_
  refine ow_k 1 10 (by kernel_rfl) ?_
  have hl4 : (encN (s'.length : Nat)).length = 4 := rfl
  cases s' with
  | nil =>
    refine ow_app0 (rows := bsA (bs ++ encN (([] : BS).length : Nat))) (own := .id 640) (nl := false) (X := ST []) (ty := 44) (e := 5) (sz := 1) (by_ := 1) (z := [.at (.int .u8 0)]) (fresh_id (by kernel_rfl)) (bsA_all _) (by rw [bsA_len, List.length_append, hl4]; omega) (by kernel_rfl) (by kernel_rfl) (by kernel_rfl) (by kernel_rfl) (by kernel_rfl) (by kernel_rfl) (by kernel_rfl) rfl rfl rfl rfl (by kernel_rfl) (by kernel_rfl) ?_
    refine ow_all 10 (by kernel_rfl) ?_
    refine aw_ret ?_
    exact ⟨.inr rfl, [BSl (bs ++ encN (([] : BS).length : Nat)) false (.id 640)], by kernel_rfl, by kernel_rfl, by kernel_rfl, by kernel_rfl⟩
  | cons a r =>
    refine ow_app (rows := bsA (bs ++ encN ((a :: r).length : Nat))) (ys := bsA (a :: r)) (own := .id 640) (nl := false) (X := ST (a :: r)) (ty := 44) (e := 5) (sz := 1) (by_ := 1) (z := [.at (.int .u8 0)]) (fresh_id (by kernel_rfl)) (by simp [bsA]) (bsA_all _) (bsA_all _) (by rw [bsA_len, bsA_len, List.length_append, hl4]; omega) (by kernel_rfl) (by kernel_rfl) (by kernel_rfl) (by kernel_rfl) (by kernel_rfl) (by kernel_rfl) (by kernel_rfl) (by kernel_rfl) rfl rfl rfl (by kernel_rfl) (by kernel_rfl) (fun al' ha => ?_)
    refine ow_all 10 (by kernel_rfl) ?_
    refine aw_ret ?_
    refine ⟨.inr rfl, [.slice (bsA (bs ++ encN ((a :: r).length : Nat)) ++ bsA (a :: r)) false (.id 768)], by kernel_rfl, by kernel_rfl, ?_, by kernel_rfl⟩
    exact leave_eq (al' := al') (by kernel_rfl) ha (by rw [← bsA_append, List.append_assoc])
theorem string_spec (bs : BS) (nl : Bool) (own : Own) (s : BS) (hlen : bs.length ≤ 1073000000) (hnl : nl = true → bs = []) :
    callQ cfg17 (evK cfg17) 70 [BSl bs nl own, ST s] = some (BSl (bs ++ encS s) false .fresh) := callQ_of (by kernel_rfl) (string70 bs nl own s hlen hnl)
end Go.Proofs.V
namespace Go.Proofs.V
open Go Go.Proofs Go.Proofs.V.Wire
set_option linter.unusedVariables false
set_option linter.unusedSimpArgs false
def rowN (n : Int) : List AV := [I64 n]
def rowS (s : BS) : List AV := [ST s]
def rowFi (x : Fi) : List AV := [ST x.1, ST x.2]
def rowEn (x : En) : List AV := [ST x.1, BO x.2.1, ST x.2.2.1, I64 x.2.2.2.1, I64 x.2.2.2.2]
def rowPu (x : Pu) : List AV := [I64 x.1, ST x.2]
def cellsCu (x : Cu) : List AV := [I64 x.1, I64 x.2.1, I64 x.2.2.1, I64 x.2.2.2]
theorem encL_take {α : Type} (c : α → BS) (l : List α) (i : Nat) (h : i < l.length) : encL c (l.take (i + 1)) = encL c (l.take i) ++ c l[i] := by
  rw [List.take_succ_eq_append_getElem h]
  simp only [encL, List.flatMap_append, List.flatMap_cons, List.flatMap_nil, List.append_nil]
theorem row_at {α : Type} (f : α → List AV) (l : List α) (i : Nat) (h : i < l.length) : (l.map f)[(i : Int).toNat]? = some (f l[i]) := by
  simp [h]
set_option maxRecDepth 100000 in
set_option maxHeartbeats 1000000 in
theorem numbers71 (bs : BS) (nl : Bool) (own : Own) (ns : List Int) (nl2 : Bool) (own2 : Own) (hne : ns ≠ []) (hb : bs.length + 4 * ns.length ≤ 1073000000) (hnl : nl = true → bs = []) :
    evK cfg17 71 [BSl bs nl own, .slice (ns.map rowN) nl2 own2] [] = some (BSl (bs ++ encL encN ns) false .fresh, []) := by
  have hlen : ∀ l : List Int, (encL encN l).length = 4 * l.length := by
    intro l
    induction l with
    | nil => rfl
    | cons a l ih => simp only [encL, List.flatMap_cons, List.length_append, List.length_cons] at ih ⊢; rw [ih]; simp [encN, b4_length]; omega
  refine evK_of Tryd.func71 rfl (of_decide_eq_true (by kernel_rfl)) (by kernel_rfl) (by kernel_rfl) rfl ?_
  unfold Tryd.f71
  dsimp only
  refine aw_sk 10 (by kernel_rfl) ?_
  refine aw_assoc (aw_sk 10 (by kernel_rfl) ?_)
  refine aw_sfor ns.length (fun i => match i with
    | 0 => Is 18 [] (cfg17.heap 71) [(0, BSl bs nl own), (7, .slice (ns.map rowN) nl2 own2), (8, I64 (ns.map rowN).length), (9, I64 0)]
    | i + 1 => IsD 18 [] (cfg17.heap 71) 0 (bsA (bs ++ encL encN (ns.take (i + 1)))) [(7, .slice (ns.map rowN) nl2 own2), (8, I64 (ns.map rowN).length), (9, I64 (i + 1 : Nat))]) ?_ ?_ ?_
  · exact is_of (by kernel_rfl)
  · intro i F hi hI
    have hst : ∃ nl' o, ∃ t c al, F = ⟨18, upd (updL [(7, .slice (ns.map rowN) nl2 own2), (8, I64 (ns.map rowN).length), (9, I64 (i : Nat))] t) 0 (BSl (bs ++ encL encN (ns.take i)) nl' o), c, al, [], cfg17.heap 71⟩ ∧ (nl' = true → bs ++ encL encN (ns.take i) = []) := by
      cases i with
      | zero =>
        obtain ⟨t, c, al, rfl⟩ := hI
        refine ⟨nl, own, t, c, al, ?_, ?_⟩
        · simp only [List.take_zero, encL, List.flatMap_nil, List.append_nil, updL]
          rfl
        · simpa [encL] using hnl
      | succ i =>
        obtain ⟨t, c, al, k, rfl, hk⟩ := hI
        exact ⟨false, .id k, t, c, al, rfl, fun h => by cases h⟩
    obtain ⟨nl', o, t, c, al, rfl, hnl'⟩ := hst
    have hcl : callQ cfg17 (evK cfg17) 38 [strip (BSl (bs ++ encL encN (ns.take i)) nl' o), I64 ns[i]] = some (BSl (bs ++ encL encN (ns.take i) ++ encN ns[i]) false .fresh) := by
      have : (encL encN (ns.take i)).length ≤ 4 * ns.length := by rw [hlen, List.length_take]; omega
      cases o <;> exact number_spec _ nl' _ _ (by rw [List.length_append]; omega) hnl'
    refine aw_sk 10 (by kernel_rfl) ?_
    refine aw_sc (decide ((i : Int) < ((ns.map rowN).length : Int))) (by kernel_rfl) (fun _ => ?_) (fun h => absurd (of_decide_eq_false h) (by rw [List.length_map]; omega))
    refine aw_sskip (aw_seq (aw_block (aw_sr ?_)))
    refine ow_at (rows := ns.map rowN) (nl := nl2) (own := own2) (row := rowN ns[i]) (n := i) (e := 3) (row_at _ _ _ hi) (by omega) (by kernel_rfl) (by kernel_rfl) (by kernel_rfl) (by kernel_rfl) (by kernel_rfl) (by kernel_rfl) ?_
    refine ow_all 10 (by kernel_rfl) ?_
    refine aw_region (ow_k 2 10 (by kernel_rfl) ?_)
    refine ow_callG (k := 38) (first := []) (captured := []) (xs := [BSl (bs ++ encL encN (ns.take i)) nl' o, I64 ns[i]]) (r := BSl (bs ++ encL encN (ns.take i) ++ encN ns[i]) false .fresh) (by kernel_rfl) (by kernel_rfl) (by kernel_rfl) (by kernel_rfl) (by kernel_rfl) (by kernel_rfl) hcl (by kernel_rfl) (by kernel_rfl) ?_
    refine ow_all 10 (by kernel_rfl) ?_
    refine aw_rk 10 (by kernel_rfl) ?_
    exact isD_mark (k := c + 64 * 1 + 64 * 3 + 64 * 2) (al := al) (rows' := bsA (bs ++ encL encN (ns.take i) ++ encN ns[i])) (l := [(7, .slice (ns.map rowN) nl2 own2), (8, I64 (ns.map rowN).length), (9, I64 (i + 1 : Nat))]) (by rw [← succ64 (i := i) (by omega)]; kernel_rfl) (by rw [encL_take _ _ _ hi, List.append_assoc]) (by kernel_rfl)
  · intro F hI
    obtain ⟨m, hm⟩ : ∃ m, ns.length = m + 1 := ⟨ns.length - 1, by have := List.length_pos_iff.2 hne; omega⟩
    rw [hm] at hI
    obtain ⟨t, c, al, k, rfl, hk⟩ := hI
    rw [← hm, List.take_length]
    refine aw_sk 10 (by kernel_rfl) ?_
    refine aw_sc (decide ((ns.length : Int) < ((ns.map rowN).length : Int))) (by kernel_rfl) (fun h => absurd (of_decide_eq_true h) (by rw [List.length_map]; omega)) (fun _ => ?_)
    refine aw_sexit ?_
    dsimp only [Then, InBlock, if_true]
    refine aw_sk 10 (by kernel_rfl) ?_
    refine aw_ret ?_
    exact ⟨.inr rfl, [BSl (bs ++ encL encN ns) false (.id k)], by kernel_rfl, by kernel_rfl, leave_at (al' := al) (by kernel_rfl) hk, by kernel_rfl⟩
end Go.Proofs.V

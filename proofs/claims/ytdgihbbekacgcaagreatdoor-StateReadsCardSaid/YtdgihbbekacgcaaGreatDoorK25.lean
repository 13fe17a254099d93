/- ScanBack, as a plain law. -/
import Derived.Test.YtdgihbbekacgcaaGreatDoorK23
import Derived.Test.YtdgihbbekacgcaaGreatDoorK20
namespace Go.Proofs.W.Q9
open Go Go.Proofs.V
set_option linter.unusedVariables false
set_option linter.unusedSimpArgs false
theorem less_of_rgt {x y : List UInt8} (h : rgt x y) : Op.bytesLess y x = true := by
  unfold rgt at h
  simp only [Bool.or_eq_false_iff, beq_eq_false_iff_ne, ne_eq] at h
  exact less_total h.1 h.2
theorem okA_aux : ∀ (a : List En), (∀ i, (h : i + 1 < a.length) → Op.bytesLess a[i].1 a[i+1].1 = true) → (∀ i, (h : i < a.length) → a[i].2.1 = false → a[i].2.2.1 = []) → okA a
  | [], _, _ => trivial
  | e :: l, h1, h2 => by
    have ih := okA_aux l (fun i hi => h1 (i + 1) (by simpa using hi)) (fun i hi => h2 (i + 1) (by simpa using hi))
    refine ⟨h2 0 (by simp), ?_, ih⟩
    cases l with
    | nil => intro f hf; simp at hf
    | cons f l =>
      have h0 : Op.bytesLess e.1 f.1 = true := h1 0 (by simp)
      intro g hg
      rcases List.mem_cons.1 hg with rfl | hg
      · exact h0
      · exact less_trans h0 (ih.2.1 g hg)
theorem RightA.ok {a : List En} (h : RightA a) : okA a := okA_aux a (fun i hi => less_of_rgt (h.up i hi)) h.empty
end Go.Proofs.W.Q9
namespace Go.Proofs.W.Q9
open Go Go.Proofs.V
set_option linter.unusedVariables false
set_option linter.unusedSimpArgs false
def Ends {α : Type} (o : Option α) : Prop := ∃ r, o = some r
theorem ends_some {α : Type} (x : α) : Ends (some x) := ⟨x, rfl⟩
theorem ends_bind {α β : Type} {o : Option α} {f : α → Option β} (h : Ends o) (k : ∀ x, o = some x → Ends (f x)) : Ends (o.bind f) := by
  obtain ⟨x, rfl⟩ := h
  exact k x rfl
theorem ends_ite {α : Type} {c : Prop} [Decidable c] {x y : Option α} (hx : c → Ends x) (hy : ¬ c → Ends y) : Ends (if c then x else y) := by
  split
  · exact hx ‹_›
  · exact hy ‹_›
theorem ends_loop {R : Type} {step : (Int → Option R) → Int → Option R} (n : Nat) (hn : n < 1180591620717411303424) (hlast : ∀ again, Ends (step again (n : Int))) (hstep : ∀ i, i < n → ∀ again, Ends (again ((i + 1 : Nat) : Int)) → Ends (step again (i : Int))) : Ends (fixS step fuel 0) := by
  rw [fixS_eq]
  have key : ∀ (k i m : Nat), i + k = n → k < m → Ends (fixN step m (i : Int)) := by
    intro k
    induction k with
    | zero =>
      intro i m hi hm
      obtain ⟨m, rfl⟩ : ∃ m', m = m' + 1 := ⟨m - 1, by omega⟩
      have : i = n := by omega
      subst this
      rw [fixN]; exact hlast _
    | succ k ih =>
      intro i m hi hm
      obtain ⟨m, rfl⟩ : ∃ m', m = m' + 1 := ⟨m - 1, by omega⟩
      rw [fixN]
      exact hstep i (by omega) _ (ih (i + 1) m (by omega) (by omega))
  exact key n 0 fuel (by omega) hn
theorem idx_ends {s : List UInt8} {c : Int} (h0 : 0 ≤ c) (h1 : c < 256) : Ends (strings_IndexByte (s, c)) := by
  unfold strings_IndexByte stringslite_IndexByte bytealg_IndexByteString
  exact ⟨_, by rw [if_pos ⟨h0, h1⟩]; rfl⟩
theorem toBL_len (s : List UInt8) : (toBL s).length = s.length := by simp [toBL]
theorem toBL_get (s : List UInt8) (i : Nat) (h : i < (toBL s).length) : 0 ≤ (toBL s)[i] ∧ (toBL s)[i] < 256 := by
  simp only [toBL, List.getElem_map]
  have := (s[i]'(by simpa [toBL] using h)).toNat_lt
  omega
theorem name_ends (s : List UInt8) (hs : s.length < 4000000000000000000) : Ends (path_Name s) := by
  unfold path_Name
  refine ends_loop (toBL s).length (by rw [toBL_len]; omega) (fun again => ?_) fun i hi again ha => ?_
  · rw [if_neg (by simp)]
    refine ends_ite (fun _ => ends_ite (fun _ => ends_ite (fun _ => ends_some _) fun _ => ends_some _) fun _ => ends_some _) fun _ => ends_some _
  · obtain ⟨b0, b1⟩ := toBL_get s i hi
    have hl := toBL_len s
    rw [if_pos (by simp; omega), ixL_nat hi, wrap_succ (by omega)]
    have ib : Ends ((strings_IndexByte ([46, 45], (toBL s)[i])).bind fun r4 => if decide (r4 < 0) = true then some false else again ((i + 1 : Nat) : Int)) := ends_bind (idx_ends b0 b1) fun r _ => ends_ite (fun _ => ends_some _) fun _ => ha
    refine ends_ite (fun _ => ends_ite (fun _ => ha) fun _ => ends_ite (fun _ => ends_ite (fun _ => ib) fun _ => ha) fun _ => ib) fun _ => ends_ite (fun _ => ends_ite (fun _ => ib) fun _ => ha) fun _ => ib
theorem names_ends (s : List UInt8) (hs : s.length ≤ 1000000) : Ends (path_Names s) := by
  unfold path_Names strings_Split
  simp only [true_and, hs, if_true, Option.bind_some]
  refine ends_ite (fun _ => ends_some _) fun hlen => ?_
  have hl := E.lens_spl s
  have hw : ∀ w ∈ E.spl s, w.length ≤ 1000001 := by
    intro w hw
    have : ∀ (l : List (List UInt8)), w ∈ l → w.length ≤ E.lens l := by
      intro l
      induction l with
      | nil => intro h; simp at h
      | cons x l ih =>
        intro h
        have e : E.lens (x :: l) = x.length + 1 + E.lens l := by simp [E.lens]
        rw [e]
        rcases List.mem_cons.1 h with rfl | h
        · omega
        · have := ih h; omega
    have := this _ hw
    omega
  have hn : (E.spl s).length ≤ 4 := by simp at hlen; omega
  refine ends_loop (E.spl s).length (by omega) (fun again => ?_) fun i hi again ha => ?_
  · rw [if_neg (by simp)]; exact ends_some _
  · rw [if_pos (by simp; omega), ixL_nat hi, wrap_succ (by omega)]
    refine ends_bind (name_ends _ (by have := hw _ (List.getElem_mem hi); omega)) fun r _ => ends_ite (fun _ => ends_some _) fun _ => ha
theorem pathRight_ends (s : List UInt8) (hs : s.length ≤ 1000000) : Ends (path_Right s) := ends_bind (names_ends s hs) fun _ _ => ends_some _
theorem clockRight_ends (x : Int × Int) : Ends (clock_Right x) := ends_ite (fun _ => ends_some _) fun _ => ends_some _
end Go.Proofs.W.Q9
namespace Go.Proofs.W.Q9
open Go Go.Proofs.V
set_option linter.unusedVariables false
set_option linter.unusedSimpArgs false
theorem fits1 {n : Nat} (h : n ≤ 600000000000) : fitsB 1 (n : Int) = true := by
  unfold fitsB
  simp only [Int.toNat_natCast, Bool.and_eq_true, decide_eq_true_eq]
  omega
theorem hasPrefix_ends (x : List UInt8 × List UInt8) : Ends (strings_HasPrefix x) := by
  unfold strings_HasPrefix stringslite_HasPrefix
  refine ends_bind (ends_ite (fun h => ?_) fun _ => ends_some _) fun _ _ => ends_some _
  unfold cutL
  have h' : x.2.length ≤ x.1.length := by simpa using h
  exact ends_ite (fun _ => ends_some _) fun hn => absurd (by constructor <;> (try constructor) <;> simp <;> omega) hn
theorem under_ends (x : List UInt8 × List UInt8) (h1 : x.1.length ≤ 1000000) (h2 : x.2.length ≤ 1000000) : Ends (path_Under x) := by
  unfold path_Under
  refine ends_bind (pathRight_ends _ h1) fun _ _ => ends_ite (fun _ => ends_bind (pathRight_ends _ h2) fun _ _ => ends_ite (fun _ => ?_) fun _ => ends_some _) fun _ => ends_some _
  refine ends_ite (fun _ => ends_ite (fun _ => ends_bind (hasPrefix_ends _) fun _ _ => ends_some _) fun hn => absurd (by decide) hn) fun hn => absurd (fits1 (by omega)) hn
theorem contains_ends (t : List Fi) (f : Fi) (ht : ∀ g ∈ t, g.1.length ≤ 1000000) (hf : f.1.length ≤ 1000000) (hl : t.length < 1000000000) : Ends (slices_ContainsFunc_File_tree_Right_1 (t, (f.1, f.2))) := by
  unfold slices_ContainsFunc_File_tree_Right_1 slices_IndexFunc_File_tree_Right_1
  refine ends_bind (ends_loop t.length (by omega) (fun again => ?_) fun i hi again ha => ?_) fun _ _ => ends_some _
  · rw [if_neg (by simp)]; exact ends_some _
  · rw [if_pos (by simp; omega), ixL_nat hi, wrap_succ (by omega)]
    unfold tree_Right_1
    exact ends_bind (ends_bind (under_ends _ hf (ht _ (List.getElem_mem hi))) fun _ _ => ends_some _) fun _ _ => ends_ite (fun _ => ends_some _) fun _ => ha
theorem treeRight_ends (t : List Fi) (ht : ∀ g ∈ t, g.1.length ≤ 1000000) : Ends (tree_Right t) := by
  unfold tree_Right
  refine ends_ite (fun _ => ends_some _) fun hl => ?_
  have hl : t.length ≤ 16 := by simp at hl; omega
  refine ends_loop t.length (by omega) (fun again => ?_) fun i hi again ha => ?_
  · rw [if_neg (by simp)]; exact ends_some _
  · rw [if_pos (by simp; omega), ixL_nat hi, wrap_succ (by omega)]
    have hc := contains_ends t t[i] ht (ht _ (List.getElem_mem hi)) (by omega)
    refine ends_bind (pathRight_ends _ (ht _ (List.getElem_mem hi))) fun _ _ => ends_ite (fun _ => ends_some _) fun _ => ends_ite (fun _ => ends_some _) fun _ => ends_ite (fun hp => ?_) fun _ => ends_bind hc fun _ _ => ends_ite (fun _ => ends_some _) fun _ => ha
    have hpos : 0 < i := by simpa using hp
    have e1 : IntKind.wrap .i64 ((i : Int) - 1) = ((i - 1 : Nat) : Int) := by rw [wrapI (by omega) (by omega)]; omega
    rw [e1, ixL_nat (by omega)]
    exact ends_ite (fun _ => ends_some _) fun _ => ends_bind hc fun _ _ => ends_ite (fun _ => ends_some _) fun _ => ha
theorem files_paths {a : List En} {n : Nat} (h : ∀ e ∈ a, e.1.length ≤ n) : ∀ g ∈ filesP a, g.1.length ≤ n := by
  intro g hg
  obtain ⟨e, he, e1⟩ := files_mem hg
  rw [← e1]; exact h e he
theorem scanRight_ends (a : List En) (ha : ∀ e ∈ a, e.1.length ≤ 1000000) (hl : a.length < 1000000000) : Ends (scan_Right a) := by
  rw [right_step]
  refine ends_loop a.length (by omega) (fun again => ?_) fun i hi again hg => ?_
  · unfold rstep
    rw [if_neg (by simp)]
    refine ends_ite (fun _ => ?_) fun _ => ends_some _
    exact ends_bind ⟨_, files_ok a (by omega)⟩ fun fs hfs => by
      rw [files_ok a (by omega)] at hfs
      cases hfs
      exact ends_bind (treeRight_ends _ (files_paths ha)) fun _ _ => ends_some _
  · unfold rstep
    rw [if_pos (by simp; omega), ixL_nat hi, wrap_succ (by omega)]
    refine ends_bind (pathRight_ends _ (ha _ (List.getElem_mem hi))) fun _ _ => ends_ite (fun _ => ends_some _) fun _ => ?_
    have tail : Ends ((clock_Right (a[i].2.2.2.1, a[i].2.2.2.2)).bind fun r6 => if (!r6) = true then some false else if ((a[i].2.2.2.1 == 0) && (a[i].2.2.2.2 == 0)) = true then some false else if (!a[i].2.1) = true then (if (!(a[i].2.2.1 == [])) = true then some false else again ((i + 1 : Nat) : Int)) else again ((i + 1 : Nat) : Int)) :=
      ends_bind (clockRight_ends _) fun _ _ => ends_ite (fun _ => ends_some _) fun _ => ends_ite (fun _ => ends_some _) fun _ => ends_ite (fun _ => ends_ite (fun _ => ends_some _) fun _ => hg) fun _ => hg
    refine ends_ite (fun hp => ?_) fun _ => tail
    have hpos : 0 < i := by simpa using hp
    have e1 : IntKind.wrap .i64 ((i : Int) - 1) = ((i - 1 : Nat) : Int) := by rw [wrapI (by omega) (by omega)]; omega
    rw [e1, ixL_nat (by omega)]
    exact ends_ite (fun _ => ends_some _) fun _ => tail
end Go.Proofs.W.Q9
namespace Go.Proofs.W.Q9
open Go Go.Proofs Ieee
set_option linter.unusedVariables false
set_option linter.unusedSimpArgs false
set_option maxRecDepth 100000
/-- A word that stands for a count. -/
def IsF (x : Nat) (n : Nat) : Prop := ∃ s : Nat, s ≤ 1074 ∧ double.read x = .number false (n * 2 ^ s) (-(s : Int))
def fl (n : Nat) : Nat := double.write (.number false n 0)
theorem log2_mul (n s : Nat) (hn : n ≠ 0) : (n * 2 ^ s).log2 = n.log2 + s := by
  have h1 := Nat.log2_self_le hn
  have h2 := Nat.lt_log2_self (n := n)
  have hp : 0 < 2 ^ s := Nat.two_pow_pos s
  refine (Nat.log2_eq_iff (by exact Nat.mul_ne_zero hn (by omega))).2 ⟨?_, ?_⟩
  · rw [Nat.pow_add]; exact Nat.mul_le_mul_right _ h1
  · rw [show n.log2 + s + 1 = (n.log2 + 1) + s by omega, Nat.pow_add]
    exact Nat.mul_lt_mul_of_pos_right h2 hp
theorem log2_le {n : Nat} (hn : n ≤ 2 ^ 31) : n.log2 ≤ 31 := by
  by_cases h : n = 0
  · subst h; decide
  · have := (Nat.log2_lt (k := 32) h).2 (by omega)
    omega
theorem cut_even (n S d : Nat) (hn : n ≠ 0) (hd : d ≤ S) : Toward.even.cut false (n * 2 ^ S) d = n * 2 ^ (S - d) := by
  unfold Toward.cut
  have hl := log2_mul n S hn
  have hm : min d ((n * 2 ^ S).log2 + 2) = d := by omega
  have hS : n * 2 ^ S = n * 2 ^ (S - d) * 2 ^ d := by rw [Nat.mul_assoc, ← Nat.pow_add]; congr 2; omega
  have hp : 0 < 2 ^ d := Nat.two_pow_pos d
  simp only [hm, Nat.one_shiftLeft]
  have h1 : n * 2 ^ S / 2 ^ d = n * 2 ^ (S - d) := by rw [hS, Nat.mul_div_cancel _ hp]
  have h2 : n * 2 ^ S % 2 ^ d = 0 := by rw [hS, Nat.mul_mod_left]
  rw [h1, h2]
  have h3 : (2 ^ d == 2 * 0) = false := by simp
  simp [h3]
/-- To write a count is to write it. -/
theorem near_scale (n S : Nat) (hn : n ≤ 2 ^ 31) (hS : S ≤ 1074) : double.write (.number false (n * 2 ^ S) (-(S : Int))) = fl n := by
  unfold fl
  show double.nearest false (n * 2 ^ S) (-(S : Int)) = double.nearest false n 0
  by_cases h0 : n = 0
  · subst h0; simp [Format.nearest]
  · have hp : 0 < 2 ^ S := Nat.two_pow_pos S
    have h0' : n * 2 ^ S ≠ 0 := Nat.mul_ne_zero h0 (by omega)
    have hl := log2_le hn
    have hlp : double.leastPlace = -1074 := by decide
    have hfb : double.fractionBits = 52 := rfl
    unfold Format.nearest
    rw [if_neg h0', if_neg h0, log2_mul n S h0, hlp, hfb]
    have e1 : max (-(S : Int) + ((n.log2 + S : Nat) : Int) - ((52 : Nat) : Int)) (-1074) = (n.log2 : Int) - 52 := by omega
    have e2 : max ((0 : Int) + ((n.log2 : Nat) : Int) - ((52 : Nat) : Int)) (-1074) = (n.log2 : Int) - 52 := by omega
    simp only [e1, e2]
    congr 2
    congr 1
    have k2 : Toward.even.cut false (n <<< ((0 : Int) - ((n.log2 : Int) - 52)).toNat) (((n.log2 : Int) - 52) - 0).toNat = n * 2 ^ (52 - n.log2) := by
      have a1 : ((0 : Int) - ((n.log2 : Int) - 52)).toNat = 52 - n.log2 := by omega
      have a2 : (((n.log2 : Int) - 52) - 0).toNat = 0 := by omega
      rw [a1, a2, Nat.shiftLeft_eq, cut_even n _ 0 h0 (by omega), Nat.sub_zero]
    rw [k2]
    by_cases hc : S ≤ 52 - n.log2
    · have a1 : (-(S : Int) - ((n.log2 : Int) - 52)).toNat = 52 - n.log2 - S := by omega
      have a2 : (((n.log2 : Int) - 52) - -(S : Int)).toNat = 0 := by omega
      rw [a1, a2, Nat.shiftLeft_eq, Nat.mul_assoc, ← Nat.pow_add, cut_even n _ 0 h0 (by omega), Nat.sub_zero]
      congr 2; omega
    · have a1 : (-(S : Int) - ((n.log2 : Int) - 52)).toNat = 0 := by omega
      have a2 : (((n.log2 : Int) - 52) - -(S : Int)).toNat = S - (52 - n.log2) := by omega
      rw [a1, a2, Nat.shiftLeft_zero, cut_even n _ _ h0 (by omega)]
      congr 2; omega
theorem fl_val (n : Nat) (hn : n ≤ 2 ^ 31) (h0 : n ≠ 0) : fl n = (n.log2 + 1022) * 2 ^ 52 + n * 2 ^ (52 - n.log2) := by
  have hl := log2_le hn
  have hlp : double.leastPlace = -1074 := by decide
  have hfb : double.fractionBits = 52 := rfl
  have h2 := Nat.lt_log2_self (n := n)
  show double.nearest false n 0 = _
  unfold Format.nearest
  rw [if_neg h0, hlp, hfb]
  have e2 : max ((0 : Int) + ((n.log2 : Nat) : Int) - ((52 : Nat) : Int)) (-1074) = (n.log2 : Int) - 52 := by omega
  simp only [e2]
  have a1 : ((0 : Int) - ((n.log2 : Int) - 52)).toNat = 52 - n.log2 := by omega
  have a2 : (((n.log2 : Int) - 52) - 0).toNat = 0 := by omega
  have a3 : ((n.log2 : Int) - 52 - -1074).toNat = n.log2 + 1022 := by omega
  rw [a1, a2, a3, Nat.shiftLeft_eq, cut_even n _ 0 h0 (by omega), Nat.sub_zero]
  have hub : n * 2 ^ (52 - n.log2) < 2 ^ 53 := by
    have := Nat.mul_lt_mul_of_pos_right h2 (Nat.two_pow_pos (52 - n.log2))
    rw [← Nat.pow_add] at this
    rwa [show n.log2 + 1 + (52 - n.log2) = 53 by omega] at this
  have hb : double.binade = 2 ^ 52 := rfl
  have hi : double.infRung = 2047 * 2 ^ 52 := by decide
  rw [hb, hi]
  generalize n * 2 ^ (52 - n.log2) = q at *
  generalize n.log2 = L at *
  unfold Format.word
  rw [if_neg (by simp)]
  have h3 : (2047 : Nat) * 2 ^ 52 = 9218868437227405312 := by decide
  have h4 : (2 : Nat) ^ 52 = 4503599627370496 := by decide
  have h5 : (2 : Nat) ^ 53 = 9007199254740992 := by decide
  rw [h5] at hub
  rw [h3, h4]
  apply Nat.min_eq_left
  omega
theorem fl_is (n : Nat) (hn : n ≤ 2 ^ 31) : IsF (fl n) n := by
  by_cases h0 : n = 0
  · subst h0
    have z : ∀ s : Nat, s = 1074 → double.read (fl 0) = .number false (0 * 2 ^ s) (-(s : Int)) := by
      intro s hs
      rw [Nat.zero_mul]
      subst hs
      decide
    have z2 : ∃ s : Nat, s = 1074 := ⟨1074, rfl⟩
    obtain ⟨s, hs⟩ := z2
    exact ⟨s, by omega, z s hs⟩
  · have hl := log2_le hn
    have h1 := Nat.log2_self_le h0
    have h2 := Nat.lt_log2_self (n := n)
    refine ⟨52 - n.log2, by omega, ?_⟩
    have hub : n * 2 ^ (52 - n.log2) < 2 ^ 53 := by
      have := Nat.mul_lt_mul_of_pos_right h2 (Nat.two_pow_pos (52 - n.log2))
      rw [← Nat.pow_add] at this
      rwa [show n.log2 + 1 + (52 - n.log2) = 53 by omega] at this
    have hlb : 2 ^ 52 ≤ n * 2 ^ (52 - n.log2) := by
      have := Nat.mul_le_mul_right (2 ^ (52 - n.log2)) h1
      rw [← Nat.pow_add] at this
      rwa [show n.log2 + (52 - n.log2) = 52 by omega] at this
    rw [fl_val n hn h0]
    generalize hq : n * 2 ^ (52 - n.log2) = q at *
    have hlp : double.leastPlace = -1074 := by decide
    have hsw : double.signWeight = 2 ^ 63 := by decide
    have hb : double.binade = 2 ^ 52 := rfl
    have hi : double.infRung = 2047 * 2 ^ 52 := by decide
    generalize hL : n.log2 = L at *
    have b1 : ((L + 1022) * 2 ^ 52 + q) / 2 ^ 63 = 0 := by apply Nat.div_eq_of_lt; omega
    have b2 : ((L + 1022) * 2 ^ 52 + q) % 2 ^ 63 = (L + 1022) * 2 ^ 52 + q := by apply Nat.mod_eq_of_lt; omega
    have b3 : ((L + 1022) * 2 ^ 52 + q) / 2 ^ 52 = L + 1023 := by omega
    have b4 : ((L + 1022) * 2 ^ 52 + q) % 2 ^ 52 = q - 2 ^ 52 := by omega
    unfold Format.read
    simp only [hsw, hb, hi, hlp, b1, b2, b3, b4]
    rw [if_neg (by omega), if_pos (by omega), Datum.number.injEq]
    exact ⟨by decide, by omega, by omega⟩
theorem shl_le {n s t : Nat} : (signed false (n * 2 ^ s) ((-(s : Int)) - min (-(s : Int)) (-(t : Int))).toNat) = ((n * 2 ^ (max s t) : Nat) : Int) := by
  unfold signed
  have : ((-(s : Int)) - min (-(s : Int)) (-(t : Int))).toNat = max s t - s := by omega
  rw [if_neg (by simp), this, Nat.shiftLeft_eq, Nat.mul_assoc, ← Nat.pow_add]
  congr 3
  omega
theorem shl_le' {n s t : Nat} : (signed false (n * 2 ^ t) ((-(t : Int)) - min (-(s : Int)) (-(t : Int))).toNat) = ((n * 2 ^ (max s t) : Nat) : Int) := by
  unfold signed
  have : ((-(t : Int)) - min (-(s : Int)) (-(t : Int))).toNat = max s t - t := by omega
  rw [if_neg (by simp), this, Nat.shiftLeft_eq, Nat.mul_assoc, ← Nat.pow_add]
  congr 3
  omega
theorem order_is {x y n m : Nat} (hx : IsF x n) (hy : IsF y m) : double.order x y = some (compare n m) := by
  obtain ⟨s, hs, hx⟩ := hx
  obtain ⟨t, ht, hy⟩ := hy
  unfold Format.order
  rw [hx, hy]
  simp only [Datum.order, shl_le, shl_le']
  have hp : 0 < 2 ^ (max s t) := Nat.two_pow_pos _
  congr 1
  generalize 2 ^ (max s t) = p at *
  rcases Nat.lt_trichotomy n m with h | h | h
  · have h' : n * p < m * p := Nat.mul_lt_mul_of_pos_right h hp
    rw [Nat.compare_eq_lt.2 h, Int.compare_eq_lt.2 (by exact_mod_cast h')]
  · subst h
    rw [Nat.compare_eq_eq.2 rfl, Int.compare_eq_eq.2 rfl]
  · have h' : m * p < n * p := Nat.mul_lt_mul_of_pos_right h hp
    rw [Nat.compare_eq_gt.2 h, Int.compare_eq_gt.2 (by exact_mod_cast h')]
theorem add_is {x y n m : Nat} (hx : IsF x n) (hy : IsF y m) (h : n + m ≤ 2 ^ 31) : double.add x y = some (fl (n + m)) := by
  obtain ⟨s, hs, hx⟩ := hx
  obtain ⟨t, ht, hy⟩ := hy
  unfold Format.add
  rw [hx, hy]
  simp only [Datum.sum, shl_le, shl_le', Option.map_some]
  have e : ((n * 2 ^ (max s t) : Nat) : Int) + ((m * 2 ^ (max s t) : Nat) : Int) = (((n + m) * 2 ^ (max s t) : Nat) : Int) := by rw [Nat.add_mul]; omega
  rw [e]
  have e2 : (if (((n + m) * 2 ^ (max s t) : Nat) : Int) = 0 then false && false else decide ((((n + m) * 2 ^ (max s t) : Nat) : Int) < 0)) = false := by
    split
    · rfl
    · rw [decide_eq_false_iff_not]; omega
  rw [e2, Int.natAbs_natCast]
  have e3 : min (-(s : Int)) (-(t : Int)) = -((max s t : Nat) : Int) := by omega
  rw [e3, near_scale _ _ h (by omega)]
theorem int_is {x n : Nat} (hx : IsF x n) : (double.read x).toInt .zero = some (n : Int) := by
  obtain ⟨s, hs, hx⟩ := hx
  rw [hx]
  unfold Datum.toInt
  simp only [Datum.integral]
  have a1 : (-(s : Int)).toNat = 0 := by omega
  have a2 : (-(-(s : Int))).toNat = s := by omega
  rw [a1, a2, Nat.shiftLeft_zero]
  have : Toward.zero.cut false (n * 2 ^ s) s = n := by
    unfold Toward.cut
    by_cases h0 : n = 0
    · subst h0; simp
    · have hm : min s ((n * 2 ^ s).log2 + 2) = s := by rw [log2_mul n s h0]; omega
      simp only [hm, Nat.one_shiftLeft]
      rw [Nat.mul_div_cancel _ (Nat.two_pow_pos s)]
      simp
  rw [this]
  simp [signed]
end Go.Proofs.W.Q9

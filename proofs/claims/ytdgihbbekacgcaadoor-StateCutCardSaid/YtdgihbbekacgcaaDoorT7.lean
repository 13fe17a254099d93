/- Files, entries, cursors, puts, compared. -/
import Derived.Test.YtdgihbbekacgcaaDoorT4
import Derived.Test.YtdgihbbekacgcaaDoorV26
namespace Go.Proofs.V
open Go Go.Proofs Go.Proofs.V.Wire
set_option linter.unusedVariables false
set_option linter.unusedSimpArgs false
theorem beqS (a b : BS) : ((⟨⟨a⟩⟩ : ByteArray) == ⟨⟨b⟩⟩) = decide (a = b) := by
  show ((⟨a⟩ : Array UInt8) == ⟨b⟩) = _
  by_cases h : a = b
  · subst h; simp
  · rw [decide_eq_false h]
    simp [h]
theorem beqI (a b : Int) : (a == b) = decide (a = b) := by
  by_cases h : a = b <;> simp [h]
set_option maxRecDepth 100000
def eqFi (x y : Fi) : Bool := decide (x.1 = y.1) && (decide (x.2 = y.2) && true)
def eqPu (x y : Pu) : Bool := decide (x.1 = y.1) && (decide (x.2 = y.2) && true)
def eqPr (x y : Int × Int) : Bool := decide (x.1 = y.1) && (decide (x.2 = y.2) && true)
def eqCu (x y : Cu) : Bool := decide (x.1 = y.1) && (decide (x.2.1 = y.2.1) && (decide (x.2.2.1 = y.2.2.1) && (decide (x.2.2.2 = y.2.2.2) && true)))
def eqEn (x y : En) : Bool := decide (x.1 = y.1) && ((x.2.1 == y.2.1) && (decide (x.2.2.1 = y.2.2.1) && (eqPr x.2.2.2 y.2.2.2 && true)))
theorem eqFi_iff (x y : Fi) : eqFi x y = true ↔ x = y := by
  obtain ⟨a, b⟩ := x; obtain ⟨c, d⟩ := y; simp [eqFi]
theorem eqPu_iff (x y : Pu) : eqPu x y = true ↔ x = y := by
  obtain ⟨a, b⟩ := x; obtain ⟨c, d⟩ := y; simp [eqPu]
theorem eqPr_iff (x y : Int × Int) : eqPr x y = true ↔ x = y := by
  obtain ⟨a, b⟩ := x; obtain ⟨c, d⟩ := y; simp [eqPr]
theorem eqCu_iff (x y : Cu) : eqCu x y = true ↔ x = y := by
  obtain ⟨a, b, c, d⟩ := x; obtain ⟨a', b', c', d'⟩ := y; simp [eqCu]
theorem eqEn_iff (x y : En) : eqEn x y = true ↔ x = y := by
  obtain ⟨a, b, c, d⟩ := x; obtain ⟨a', b', c', d'⟩ := y; simp [eqEn, eqPr_iff]
theorem prS {d : Nat} {a b : BS} : pr cfg17.P (Op.equalIn (d + 1) 9 (.string ⟨⟨a⟩⟩) (.string ⟨⟨b⟩⟩)) = some (decide (a = b)) := by
  rw [← beqS]
  simp only [Op.equalIn, pr_bind, pr_underlying (show cfg17.P.underlying 9 = some .string by kernel_rfl), Option.bind_some]
  rfl
theorem prI {d : Nat} {a b : Int} : pr cfg17.P (Op.equalIn (d + 1) 3 (.int .i64 a) (.int .i64 b)) = some (decide (a = b)) := by
  rw [← beqI]
  simp only [Op.equalIn, pr_bind, pr_underlying (show cfg17.P.underlying 3 = some (.int .i64) by kernel_rfl), Option.bind_some]
  rfl
theorem prB {d : Nat} {a b : Bool} : pr cfg17.P (Op.equalIn (d + 1) 4 (.bool a) (.bool b)) = some (a == b) := by
  simp only [Op.equalIn, pr_bind, pr_underlying (show cfg17.P.underlying 4 = some .bool by kernel_rfl), Option.bind_some]
  rfl
theorem cmpFi (x y : Fi) (ox oy : Operand) : binA cfg17.P .neq 57 ox oy (.agg (rowFi x)) (.agg (rowFi y)) = some (.at (.bool !(eqFi x y))) ∧ binA cfg17.P .eql 57 ox oy (.agg (rowFi x)) (.agg (rowFi y)) = some (.at (.bool (eqFi x y))) := by
  refine bin_struct (us := [.string ⟨⟨x.1⟩⟩, .string ⟨⟨x.2⟩⟩]) (vs := [.string ⟨⟨y.1⟩⟩, .string ⟨⟨y.2⟩⟩]) rfl rfl (by kernel_rfl) (by kernel_rfl) (by kernel_rfl) ?_
  rw [show cfg17.P.fieldsOf 57 = Tryd.prog.fieldsOf 57 from rfl]
  simp only [Program.fieldsOf, Tryd.underlying57]
  exact pr_eqFields_cons (by kernel_rfl) (by kernel_rfl) (by kernel_rfl) (prS (d := 9998)) (pr_eqFields_cons (by kernel_rfl) (by kernel_rfl) (by kernel_rfl) (prS (d := 9998)) pr_eqFields_nil)
theorem cmpPu (x y : Pu) (ox oy : Operand) : binA cfg17.P .neq 48 ox oy (.agg (rowPu x)) (.agg (rowPu y)) = some (.at (.bool !(eqPu x y))) ∧ binA cfg17.P .eql 48 ox oy (.agg (rowPu x)) (.agg (rowPu y)) = some (.at (.bool (eqPu x y))) := by
  refine bin_struct (us := [.int .i64 x.1, .string ⟨⟨x.2⟩⟩]) (vs := [.int .i64 y.1, .string ⟨⟨y.2⟩⟩]) rfl rfl (by kernel_rfl) (by kernel_rfl) (by kernel_rfl) ?_
  rw [show cfg17.P.fieldsOf 48 = Tryd.prog.fieldsOf 48 from rfl]
  simp only [Program.fieldsOf, Tryd.underlying48]
  exact pr_eqFields_cons (by kernel_rfl) (by kernel_rfl) (by kernel_rfl) (prI (d := 9998)) (pr_eqFields_cons (by kernel_rfl) (by kernel_rfl) (by kernel_rfl) (prS (d := 9998)) pr_eqFields_nil)
theorem cmpCu (x y : Cu) (ox oy : Operand) : binA cfg17.P .neq 25 ox oy (.agg (cellsCu x)) (.agg (cellsCu y)) = some (.at (.bool !(eqCu x y))) ∧ binA cfg17.P .eql 25 ox oy (.agg (cellsCu x)) (.agg (cellsCu y)) = some (.at (.bool (eqCu x y))) := by
  refine bin_struct (us := [.int .i64 x.1, .int .i64 x.2.1, .int .i64 x.2.2.1, .int .i64 x.2.2.2]) (vs := [.int .i64 y.1, .int .i64 y.2.1, .int .i64 y.2.2.1, .int .i64 y.2.2.2]) rfl rfl (by kernel_rfl) (by kernel_rfl) (by kernel_rfl) ?_
  rw [show cfg17.P.fieldsOf 25 = Tryd.prog.fieldsOf 25 from rfl]
  simp only [Program.fieldsOf, Tryd.underlying25]
  exact pr_eqFields_cons (by kernel_rfl) (by kernel_rfl) (by kernel_rfl) (prI (d := 9998)) (pr_eqFields_cons (by kernel_rfl) (by kernel_rfl) (by kernel_rfl) (prI (d := 9998)) (pr_eqFields_cons (by kernel_rfl) (by kernel_rfl) (by kernel_rfl) (prI (d := 9998)) (pr_eqFields_cons (by kernel_rfl) (by kernel_rfl) (by kernel_rfl) (prI (d := 9998)) pr_eqFields_nil)))
theorem prPr {d : Nat} {x y : Int × Int} : pr cfg17.P (Op.equalIn (d + 1 + 1) 61 (.agg #[.int .i64 x.1, .int .i64 x.2]) (.agg #[.int .i64 y.1, .int .i64 y.2])) = some (eqPr x y) := by
  rw [pr_equalIn_struct (d + 1) 61 _ _ (by kernel_rfl) (by kernel_rfl)]
  rw [show cfg17.P.fieldsOf 61 = Tryd.prog.fieldsOf 61 from rfl]
  simp only [Program.fieldsOf, Tryd.underlying61]
  exact pr_eqFields_cons (by kernel_rfl) (by kernel_rfl) (by kernel_rfl) (prI (d := d)) (pr_eqFields_cons (by kernel_rfl) (by kernel_rfl) (by kernel_rfl) (prI (d := d)) pr_eqFields_nil)
theorem cmpPr (x y : Int × Int) (ox oy : Operand) : binA cfg17.P .neq 61 ox oy (.agg [I64 x.1, I64 x.2]) (.agg [I64 y.1, I64 y.2]) = some (.at (.bool !(eqPr x y))) ∧ binA cfg17.P .eql 61 ox oy (.agg [I64 x.1, I64 x.2]) (.agg [I64 y.1, I64 y.2]) = some (.at (.bool (eqPr x y))) := by
  refine bin_struct (us := [.int .i64 x.1, .int .i64 x.2]) (vs := [.int .i64 y.1, .int .i64 y.2]) rfl rfl (by kernel_rfl) (by kernel_rfl) (by kernel_rfl) ?_
  rw [show cfg17.P.fieldsOf 61 = Tryd.prog.fieldsOf 61 from rfl]
  simp only [Program.fieldsOf, Tryd.underlying61]
  exact pr_eqFields_cons (by kernel_rfl) (by kernel_rfl) (by kernel_rfl) (prI (d := 9998)) (pr_eqFields_cons (by kernel_rfl) (by kernel_rfl) (by kernel_rfl) (prI (d := 9998)) pr_eqFields_nil)
theorem cmpEn (x y : En) (ox oy : Operand) : binA cfg17.P .neq 63 ox oy (.agg (rowEn x)) (.agg (rowEn y)) = some (.at (.bool !(eqEn x y))) ∧ binA cfg17.P .eql 63 ox oy (.agg (rowEn x)) (.agg (rowEn y)) = some (.at (.bool (eqEn x y))) := by
  refine bin_struct (us := [.string ⟨⟨x.1⟩⟩, .bool x.2.1, .string ⟨⟨x.2.2.1⟩⟩, .int .i64 x.2.2.2.1, .int .i64 x.2.2.2.2]) (vs := [.string ⟨⟨y.1⟩⟩, .bool y.2.1, .string ⟨⟨y.2.2.1⟩⟩, .int .i64 y.2.2.2.1, .int .i64 y.2.2.2.2]) rfl rfl (by kernel_rfl) (by kernel_rfl) (by kernel_rfl) ?_
  rw [show cfg17.P.fieldsOf 63 = Tryd.prog.fieldsOf 63 from rfl]
  simp only [Program.fieldsOf, Tryd.underlying63]
  exact pr_eqFields_cons (by kernel_rfl) (by kernel_rfl) (by kernel_rfl) (prS (d := 9998)) (pr_eqFields_cons (by kernel_rfl) (by kernel_rfl) (by kernel_rfl) (prB (d := 9998)) (pr_eqFields_cons (by kernel_rfl) (by kernel_rfl) (by kernel_rfl) (prS (d := 9998)) (pr_eqFields_cons (a := .agg #[.int .i64 x.2.2.2.1, .int .i64 x.2.2.2.2]) (b := .agg #[.int .i64 y.2.2.2.1, .int .i64 y.2.2.2.2]) (by kernel_rfl) (by kernel_rfl) (by kernel_rfl) (prPr (d := 9997) (x := x.2.2.2) (y := y.2.2.2)) pr_eqFields_nil)))
end Go.Proofs.V
namespace Go.Proofs.V
open Go Go.Proofs Go.Proofs.V.Wire
set_option linter.unusedVariables false
set_option linter.unusedSimpArgs false
theorem neI {a b : Int} : (a != b) = !(decide (a = b)) := by rw [← beqI]; rfl
theorem neS {a b : BS} : (!((⟨⟨a⟩⟩ : ByteArray).toList == (⟨⟨b⟩⟩ : ByteArray).toList)) = !(decide (a = b)) := by
  rw [← beqS, beq_toListBytes]
def rowSt (s : BS) : List AV := [ST s]
theorem take_next {α : Type} {l1 l2 : List α} {i : Nat} (h1 : i < l1.length) (h2 : i < l2.length) (h : l1.take i = l2.take i) (he : l1[i] = l2[i]) : l1.take (i + 1) = l2.take (i + 1) := by
  rw [List.take_succ_eq_append_getElem h1, List.take_succ_eq_append_getElem h2, h, he]
set_option maxRecDepth 100000
set_option maxHeartbeats 1000000
theorem equal50 (l1 l2 : List Int) (nl1 nl2 : Bool) (o1 o2 : Own) (hb : l1.length ≤ 1000000) : evK cfg17 50 [.slice (l1.map rowN) nl1 o1, .slice (l2.map rowN) nl2 o2] [] = some (BO (decide (l1 = l2)), []) := by
  refine evK_of Tryd.func50 rfl (of_decide_eq_true (by kernel_rfl)) (by kernel_rfl) (by kernel_rfl) rfl ?_
  unfold Tryd.f50
  dsimp only
  refine aw_sk 10 (by kernel_rfl) ?_
  refine aw_assoc (aw_sk 10 (by kernel_rfl) ?_)
  refine aw_sc (((l1.map rowN).length : Int) != ((l2.map rowN).length : Int)) (by kernel_rfl) (fun h => ?_) (fun h => ?_)
  · have hne : l1 ≠ l2 := by
      rintro rfl
      simp at h
    refine aw_assoc (aw_sk 10 (by kernel_rfl) ?_)
    refine aw_sret ?_
    rw [decide_eq_false hne]
    exact ⟨.inr rfl, [BO false], by kernel_rfl, by kernel_rfl, by kernel_rfl, by kernel_rfl⟩
  have hlen : l1.length = l2.length := by
    simp only [List.length_map] at h
    have : ((l1.length : Int) == (l2.length : Int)) = true := by simpa [bne] using h
    have := eq_of_beq this
    omega
  refine aw_sskip ?_
  refine aw_assoc (aw_sk 10 (by kernel_rfl) ?_)
  refine aw_sfor l1.length (fun i F => Is 26 [] (cfg17.heap 50) [(0, .slice (l1.map rowN) nl1 o1), (1, .slice (l2.map rowN) nl2 o2), (11, .slice (l1.map rowN) nl1 o1), (12, I64 (l1.map rowN).length), (13, I64 (i : Nat))] F ∧ l1.take i = l2.take i) ?_ ?_ ?_
  · exact ⟨is_of (by kernel_rfl), rfl⟩
  · rintro i F hi ⟨⟨t, c, al, rfl⟩, hpre⟩
    have hi2 : i < l2.length := by omega
    refine aw_sk 10 (by kernel_rfl) ?_
    refine aw_sc (decide ((i : Int) < ((l1.map rowN).length : Int))) (by kernel_rfl) (fun _ => ?_) (fun h => absurd (of_decide_eq_false h) (by rw [List.length_map]; omega))
    refine aw_sskip (aw_seq (aw_block (aw_sk 10 (by kernel_rfl) ?_)))
    refine aw_sr (ow_k 2 10 (by kernel_rfl) ?_)
    refine ow_at (rows := l1.map rowN) (nl := nl1) (own := o1) (row := rowN l1[i]) (n := i) (e := 3) (row_at _ _ _ hi) (by omega) (by kernel_rfl) (by kernel_rfl) (by kernel_rfl) (by kernel_rfl) (by kernel_rfl) (by kernel_rfl) ?_
    refine ow_k 3 10 (by kernel_rfl) ?_
    refine ow_at (rows := l2.map rowN) (nl := nl2) (own := o2) (row := rowN l2[i]) (n := i) (e := 3) (row_at _ _ _ hi2) (by omega) (by kernel_rfl) (by kernel_rfl) (by kernel_rfl) (by kernel_rfl) (by kernel_rfl) (by kernel_rfl) ?_
    refine ow_all 10 (by kernel_rfl) ?_
    refine aw_cond (t := (l1[i] != l2[i])) (by kernel_rfl) (fun h => ?_) (fun h => ?_)
    · have hne : l1 ≠ l2 := by
        have hx : l1[i] ≠ l2[i] := by rw [neI] at h; simpa using h
        intro e
        apply hx
        simp only [e]
      refine aw_sk 10 (by kernel_rfl) ?_
      refine aw_ret ?_
      rw [decide_eq_false hne]
      exact ⟨.inr rfl, [BO false], by kernel_rfl, by kernel_rfl, by kernel_rfl, by kernel_rfl⟩
    · have hx : l1[i] = l2[i] := by rw [neI] at h; simpa using h
      refine aw_skip ?_
      refine aw_rk 10 (by kernel_rfl) ?_
      exact ⟨is_at (l' := [(0, .slice (l1.map rowN) nl1 o1), (1, .slice (l2.map rowN) nl2 o2), (11, .slice (l1.map rowN) nl1 o1), (12, I64 (l1.map rowN).length), (13, I64 (IntKind.i64.wrap ((i : Int) + 1)))]) (by rw [succ64 (by omega)]) (by kernel_rfl), take_next hi hi2 hpre hx⟩
  · rintro F ⟨⟨t, c, al, rfl⟩, hpre⟩
    have he : l1 = l2 := by
      have h2 := hpre
      rw [List.take_length, hlen, List.take_length] at h2
      exact h2
    refine aw_sk 10 (by kernel_rfl) ?_
    refine aw_sc (decide ((l1.length : Int) < ((l1.map rowN).length : Int))) (by kernel_rfl) (fun h => absurd (of_decide_eq_true h) (by rw [List.length_map]; omega)) (fun _ => ?_)
    refine aw_sexit ?_
    dsimp only [Then, InBlock, if_true]
    refine aw_sk 10 (by kernel_rfl) ?_
    refine aw_ret ?_
    rw [decide_eq_true he]
    exact ⟨.inr rfl, [BO true], by kernel_rfl, by kernel_rfl, by kernel_rfl, by kernel_rfl⟩
theorem equal51 (l1 l2 : List BS) (nl1 nl2 : Bool) (o1 o2 : Own) (hb : l1.length ≤ 1000000) : evK cfg17 51 [.slice (l1.map rowS) nl1 o1, .slice (l2.map rowS) nl2 o2] [] = some (BO (decide (l1 = l2)), []) := by
  refine evK_of Tryd.func51 rfl (of_decide_eq_true (by kernel_rfl)) (by kernel_rfl) (by kernel_rfl) rfl ?_
  unfold Tryd.f51
  dsimp only
  refine aw_sk 10 (by kernel_rfl) ?_
  refine aw_assoc (aw_sk 10 (by kernel_rfl) ?_)
  refine aw_sc (((l1.map rowS).length : Int) != ((l2.map rowS).length : Int)) (by kernel_rfl) (fun h => ?_) (fun h => ?_)
  · have hne : l1 ≠ l2 := by
      rintro rfl
      simp at h
    refine aw_assoc (aw_sk 10 (by kernel_rfl) ?_)
    refine aw_sret ?_
    rw [decide_eq_false hne]
    exact ⟨.inr rfl, [BO false], by kernel_rfl, by kernel_rfl, by kernel_rfl, by kernel_rfl⟩
  have hlen : l1.length = l2.length := by
    simp only [List.length_map] at h
    have : ((l1.length : Int) == (l2.length : Int)) = true := by simpa [bne] using h
    have := eq_of_beq this
    omega
  refine aw_sskip ?_
  refine aw_assoc (aw_sk 10 (by kernel_rfl) ?_)
  refine aw_sfor l1.length (fun i F => Is 26 [] (cfg17.heap 51) [(0, .slice (l1.map rowS) nl1 o1), (1, .slice (l2.map rowS) nl2 o2), (11, .slice (l1.map rowS) nl1 o1), (12, I64 (l1.map rowS).length), (13, I64 (i : Nat))] F ∧ l1.take i = l2.take i) ?_ ?_ ?_
  · exact ⟨is_of (by kernel_rfl), rfl⟩
  · rintro i F hi ⟨⟨t, c, al, rfl⟩, hpre⟩
    have hi2 : i < l2.length := by omega
    refine aw_sk 10 (by kernel_rfl) ?_
    refine aw_sc (decide ((i : Int) < ((l1.map rowS).length : Int))) (by kernel_rfl) (fun _ => ?_) (fun h => absurd (of_decide_eq_false h) (by rw [List.length_map]; omega))
    refine aw_sskip (aw_seq (aw_block (aw_sk 10 (by kernel_rfl) ?_)))
    refine aw_sr (ow_k 2 10 (by kernel_rfl) ?_)
    refine ow_at (rows := l1.map rowS) (nl := nl1) (own := o1) (row := rowS l1[i]) (n := i) (e := 9) (row_at _ _ _ hi) (by omega) (by kernel_rfl) (by kernel_rfl) (by kernel_rfl) (by kernel_rfl) (by kernel_rfl) (by kernel_rfl) ?_
    refine ow_k 3 10 (by kernel_rfl) ?_
    refine ow_at (rows := l2.map rowS) (nl := nl2) (own := o2) (row := rowS l2[i]) (n := i) (e := 9) (row_at _ _ _ hi2) (by omega) (by kernel_rfl) (by kernel_rfl) (by kernel_rfl) (by kernel_rfl) (by kernel_rfl) (by kernel_rfl) ?_
    refine ow_all 10 (by kernel_rfl) ?_
    refine aw_cond (t := (!((⟨⟨l1[i]⟩⟩ : ByteArray).toList == (⟨⟨l2[i]⟩⟩ : ByteArray).toList))) (by kernel_rfl) (fun h => ?_) (fun h => ?_)
    · have hne : l1 ≠ l2 := by
        have hx : l1[i] ≠ l2[i] := by rw [neS] at h; simpa using h
        intro e
        apply hx
        simp only [e]
      refine aw_sk 10 (by kernel_rfl) ?_
      refine aw_ret ?_
      rw [decide_eq_false hne]
      exact ⟨.inr rfl, [BO false], by kernel_rfl, by kernel_rfl, by kernel_rfl, by kernel_rfl⟩
    · have hx : l1[i] = l2[i] := by rw [neS] at h; simpa using h
      refine aw_skip ?_
      refine aw_rk 10 (by kernel_rfl) ?_
      exact ⟨is_at (l' := [(0, .slice (l1.map rowS) nl1 o1), (1, .slice (l2.map rowS) nl2 o2), (11, .slice (l1.map rowS) nl1 o1), (12, I64 (l1.map rowS).length), (13, I64 (IntKind.i64.wrap ((i : Int) + 1)))]) (by rw [succ64 (by omega)]) (by kernel_rfl), take_next hi hi2 hpre hx⟩
  · rintro F ⟨⟨t, c, al, rfl⟩, hpre⟩
    have he : l1 = l2 := by
      have h2 := hpre
      rw [List.take_length, hlen, List.take_length] at h2
      exact h2
    refine aw_sk 10 (by kernel_rfl) ?_
    refine aw_sc (decide ((l1.length : Int) < ((l1.map rowS).length : Int))) (by kernel_rfl) (fun h => absurd (of_decide_eq_true h) (by rw [List.length_map]; omega)) (fun _ => ?_)
    refine aw_sexit ?_
    dsimp only [Then, InBlock, if_true]
    refine aw_sk 10 (by kernel_rfl) ?_
    refine aw_ret ?_
    rw [decide_eq_true he]
    exact ⟨.inr rfl, [BO true], by kernel_rfl, by kernel_rfl, by kernel_rfl, by kernel_rfl⟩
theorem equal52 (l1 l2 : List Pu) (nl1 nl2 : Bool) (o1 o2 : Own) (hb : l1.length ≤ 1000000) : evK cfg17 52 [.slice (l1.map rowPu) nl1 o1, .slice (l2.map rowPu) nl2 o2] [] = some (BO (decide (l1 = l2)), []) := by
  refine evK_of Tryd.func52 rfl (of_decide_eq_true (by kernel_rfl)) (by kernel_rfl) (by kernel_rfl) rfl ?_
  unfold Tryd.f52
  dsimp only
  refine aw_sk 10 (by kernel_rfl) ?_
  refine aw_assoc (aw_sk 10 (by kernel_rfl) ?_)
  refine aw_sc (((l1.map rowPu).length : Int) != ((l2.map rowPu).length : Int)) (by kernel_rfl) (fun h => ?_) (fun h => ?_)
  · have hne : l1 ≠ l2 := by
      rintro rfl
      simp at h
    refine aw_assoc (aw_sk 10 (by kernel_rfl) ?_)
    refine aw_sret ?_
    rw [decide_eq_false hne]
    exact ⟨.inr rfl, [BO false], by kernel_rfl, by kernel_rfl, by kernel_rfl, by kernel_rfl⟩
  have hlen : l1.length = l2.length := by
    simp only [List.length_map] at h
    have : ((l1.length : Int) == (l2.length : Int)) = true := by simpa [bne] using h
    have := eq_of_beq this
    omega
  refine aw_sskip ?_
  refine aw_assoc (aw_sk 10 (by kernel_rfl) ?_)
  refine aw_sfor l1.length (fun i F => Is 26 [] (cfg17.heap 52) [(0, .slice (l1.map rowPu) nl1 o1), (1, .slice (l2.map rowPu) nl2 o2), (11, .slice (l1.map rowPu) nl1 o1), (12, I64 (l1.map rowPu).length), (13, I64 (i : Nat))] F ∧ l1.take i = l2.take i) ?_ ?_ ?_
  · exact ⟨is_of (by kernel_rfl), rfl⟩
  · rintro i F hi ⟨⟨t, c, al, rfl⟩, hpre⟩
    have hi2 : i < l2.length := by omega
    refine aw_sk 10 (by kernel_rfl) ?_
    refine aw_sc (decide ((i : Int) < ((l1.map rowPu).length : Int))) (by kernel_rfl) (fun _ => ?_) (fun h => absurd (of_decide_eq_false h) (by rw [List.length_map]; omega))
    refine aw_sskip (aw_seq (aw_block (aw_sk 10 (by kernel_rfl) ?_)))
    refine aw_sr (ow_k 2 10 (by kernel_rfl) ?_)
    refine ow_at (rows := l1.map rowPu) (nl := nl1) (own := o1) (row := rowPu l1[i]) (n := i) (e := 48) (row_at _ _ _ hi) (by omega) (by kernel_rfl) (by kernel_rfl) (by kernel_rfl) (by kernel_rfl) (by kernel_rfl) (by kernel_rfl) ?_
    refine ow_k 3 10 (by kernel_rfl) ?_
    refine ow_at (rows := l2.map rowPu) (nl := nl2) (own := o2) (row := rowPu l2[i]) (n := i) (e := 48) (row_at _ _ _ hi2) (by omega) (by kernel_rfl) (by kernel_rfl) (by kernel_rfl) (by kernel_rfl) (by kernel_rfl) (by kernel_rfl) ?_
    refine ow_k 1 10 (by kernel_rfl) ?_
    refine ow_cmp (r := !(eqPu l1[i] l2[i])) (cs := rowPu l1[i]) (es := rowPu l2[i]) (fun ox oy => (cmpPu l1[i] l2[i] ox oy).1) (by kernel_rfl) (by kernel_rfl) (by kernel_rfl) (by kernel_rfl) ?_
    refine ow_nil ?_
    refine aw_cond (t := (!(eqPu l1[i] l2[i]))) (by kernel_rfl) (fun h => ?_) (fun h => ?_)
    · have hne : l1 ≠ l2 := by
        have hx : l1[i] ≠ l2[i] := by first | (rw [← eqPu_iff]; simpa using h) | (rw [Ne, ← eqPu_iff]; simpa using h)
        intro e
        apply hx
        simp only [e]
      refine aw_sk 10 (by kernel_rfl) ?_
      refine aw_ret ?_
      rw [decide_eq_false hne]
      exact ⟨.inr rfl, [BO false], by kernel_rfl, by kernel_rfl, by kernel_rfl, by kernel_rfl⟩
    · have hx : l1[i] = l2[i] := by first | (rw [← eqPu_iff]; simpa using h) | (rw [Ne, ← eqPu_iff]; simpa using h)
      refine aw_skip ?_
      refine aw_rk 10 (by kernel_rfl) ?_
      exact ⟨is_at (l' := [(0, .slice (l1.map rowPu) nl1 o1), (1, .slice (l2.map rowPu) nl2 o2), (11, .slice (l1.map rowPu) nl1 o1), (12, I64 (l1.map rowPu).length), (13, I64 (IntKind.i64.wrap ((i : Int) + 1)))]) (by rw [succ64 (by omega)]) (by kernel_rfl), take_next hi hi2 hpre hx⟩
  · rintro F ⟨⟨t, c, al, rfl⟩, hpre⟩
    have he : l1 = l2 := by
      have h2 := hpre
      rw [List.take_length, hlen, List.take_length] at h2
      exact h2
    refine aw_sk 10 (by kernel_rfl) ?_
    refine aw_sc (decide ((l1.length : Int) < ((l1.map rowPu).length : Int))) (by kernel_rfl) (fun h => absurd (of_decide_eq_true h) (by rw [List.length_map]; omega)) (fun _ => ?_)
    refine aw_sexit ?_
    dsimp only [Then, InBlock, if_true]
    refine aw_sk 10 (by kernel_rfl) ?_
    refine aw_ret ?_
    rw [decide_eq_true he]
    exact ⟨.inr rfl, [BO true], by kernel_rfl, by kernel_rfl, by kernel_rfl, by kernel_rfl⟩
theorem equal72 (l1 l2 : List Fi) (nl1 nl2 : Bool) (o1 o2 : Own) (hb : l1.length ≤ 1000000) : evK cfg17 72 [.slice (l1.map rowFi) nl1 o1, .slice (l2.map rowFi) nl2 o2] [] = some (BO (decide (l1 = l2)), []) := by
  refine evK_of Tryd.func72 rfl (of_decide_eq_true (by kernel_rfl)) (by kernel_rfl) (by kernel_rfl) rfl ?_
  unfold Tryd.f72
  dsimp only
  refine aw_sk 10 (by kernel_rfl) ?_
  refine aw_assoc (aw_sk 10 (by kernel_rfl) ?_)
  refine aw_sc (((l1.map rowFi).length : Int) != ((l2.map rowFi).length : Int)) (by kernel_rfl) (fun h => ?_) (fun h => ?_)
  · have hne : l1 ≠ l2 := by
      rintro rfl
      simp at h
    refine aw_assoc (aw_sk 10 (by kernel_rfl) ?_)
    refine aw_sret ?_
    rw [decide_eq_false hne]
    exact ⟨.inr rfl, [BO false], by kernel_rfl, by kernel_rfl, by kernel_rfl, by kernel_rfl⟩
  have hlen : l1.length = l2.length := by
    simp only [List.length_map] at h
    have : ((l1.length : Int) == (l2.length : Int)) = true := by simpa [bne] using h
    have := eq_of_beq this
    omega
  refine aw_sskip ?_
  refine aw_assoc (aw_sk 10 (by kernel_rfl) ?_)
  refine aw_sfor l1.length (fun i F => Is 26 [] (cfg17.heap 72) [(0, .slice (l1.map rowFi) nl1 o1), (1, .slice (l2.map rowFi) nl2 o2), (11, .slice (l1.map rowFi) nl1 o1), (12, I64 (l1.map rowFi).length), (13, I64 (i : Nat))] F ∧ l1.take i = l2.take i) ?_ ?_ ?_
  · exact ⟨is_of (by kernel_rfl), rfl⟩
  · rintro i F hi ⟨⟨t, c, al, rfl⟩, hpre⟩
    have hi2 : i < l2.length := by omega
    refine aw_sk 10 (by kernel_rfl) ?_
    refine aw_sc (decide ((i : Int) < ((l1.map rowFi).length : Int))) (by kernel_rfl) (fun _ => ?_) (fun h => absurd (of_decide_eq_false h) (by rw [List.length_map]; omega))
    refine aw_sskip (aw_seq (aw_block (aw_sk 10 (by kernel_rfl) ?_)))
    refine aw_sr (ow_k 2 10 (by kernel_rfl) ?_)
    refine ow_at (rows := l1.map rowFi) (nl := nl1) (own := o1) (row := rowFi l1[i]) (n := i) (e := 57) (row_at _ _ _ hi) (by omega) (by kernel_rfl) (by kernel_rfl) (by kernel_rfl) (by kernel_rfl) (by kernel_rfl) (by kernel_rfl) ?_
    refine ow_k 3 10 (by kernel_rfl) ?_
    refine ow_at (rows := l2.map rowFi) (nl := nl2) (own := o2) (row := rowFi l2[i]) (n := i) (e := 57) (row_at _ _ _ hi2) (by omega) (by kernel_rfl) (by kernel_rfl) (by kernel_rfl) (by kernel_rfl) (by kernel_rfl) (by kernel_rfl) ?_
    refine ow_k 1 10 (by kernel_rfl) ?_
    refine ow_cmp (r := !(eqFi l1[i] l2[i])) (cs := rowFi l1[i]) (es := rowFi l2[i]) (fun ox oy => (cmpFi l1[i] l2[i] ox oy).1) (by kernel_rfl) (by kernel_rfl) (by kernel_rfl) (by kernel_rfl) ?_
    refine ow_nil ?_
    refine aw_cond (t := (!(eqFi l1[i] l2[i]))) (by kernel_rfl) (fun h => ?_) (fun h => ?_)
    · have hne : l1 ≠ l2 := by
        have hx : l1[i] ≠ l2[i] := by first | (rw [← eqFi_iff]; simpa using h) | (rw [Ne, ← eqFi_iff]; simpa using h)
        intro e
        apply hx
        simp only [e]
      refine aw_sk 10 (by kernel_rfl) ?_
      refine aw_ret ?_
      rw [decide_eq_false hne]
      exact ⟨.inr rfl, [BO false], by kernel_rfl, by kernel_rfl, by kernel_rfl, by kernel_rfl⟩
    · have hx : l1[i] = l2[i] := by first | (rw [← eqFi_iff]; simpa using h) | (rw [Ne, ← eqFi_iff]; simpa using h)
      refine aw_skip ?_
      refine aw_rk 10 (by kernel_rfl) ?_
      exact ⟨is_at (l' := [(0, .slice (l1.map rowFi) nl1 o1), (1, .slice (l2.map rowFi) nl2 o2), (11, .slice (l1.map rowFi) nl1 o1), (12, I64 (l1.map rowFi).length), (13, I64 (IntKind.i64.wrap ((i : Int) + 1)))]) (by rw [succ64 (by omega)]) (by kernel_rfl), take_next hi hi2 hpre hx⟩
  · rintro F ⟨⟨t, c, al, rfl⟩, hpre⟩
    have he : l1 = l2 := by
      have h2 := hpre
      rw [List.take_length, hlen, List.take_length] at h2
      exact h2
    refine aw_sk 10 (by kernel_rfl) ?_
    refine aw_sc (decide ((l1.length : Int) < ((l1.map rowFi).length : Int))) (by kernel_rfl) (fun h => absurd (of_decide_eq_true h) (by rw [List.length_map]; omega)) (fun _ => ?_)
    refine aw_sexit ?_
    dsimp only [Then, InBlock, if_true]
    refine aw_sk 10 (by kernel_rfl) ?_
    refine aw_ret ?_
    rw [decide_eq_true he]
    exact ⟨.inr rfl, [BO true], by kernel_rfl, by kernel_rfl, by kernel_rfl, by kernel_rfl⟩
theorem equal73 (l1 l2 : List En) (nl1 nl2 : Bool) (o1 o2 : Own) (hb : l1.length ≤ 1000000) : evK cfg17 73 [.slice (l1.map rowEn) nl1 o1, .slice (l2.map rowEn) nl2 o2] [] = some (BO (decide (l1 = l2)), []) := by
  refine evK_of Tryd.func73 rfl (of_decide_eq_true (by kernel_rfl)) (by kernel_rfl) (by kernel_rfl) rfl ?_
  unfold Tryd.f73
  dsimp only
  refine aw_sk 10 (by kernel_rfl) ?_
  refine aw_assoc (aw_sk 10 (by kernel_rfl) ?_)
  refine aw_sc (((l1.map rowEn).length : Int) != ((l2.map rowEn).length : Int)) (by kernel_rfl) (fun h => ?_) (fun h => ?_)
  · have hne : l1 ≠ l2 := by
      rintro rfl
      simp at h
    refine aw_assoc (aw_sk 10 (by kernel_rfl) ?_)
    refine aw_sret ?_
    rw [decide_eq_false hne]
    exact ⟨.inr rfl, [BO false], by kernel_rfl, by kernel_rfl, by kernel_rfl, by kernel_rfl⟩
  have hlen : l1.length = l2.length := by
    simp only [List.length_map] at h
    have : ((l1.length : Int) == (l2.length : Int)) = true := by simpa [bne] using h
    have := eq_of_beq this
    omega
  refine aw_sskip ?_
  refine aw_assoc (aw_sk 10 (by kernel_rfl) ?_)
  refine aw_sfor l1.length (fun i F => Is 26 [] (cfg17.heap 73) [(0, .slice (l1.map rowEn) nl1 o1), (1, .slice (l2.map rowEn) nl2 o2), (11, .slice (l1.map rowEn) nl1 o1), (12, I64 (l1.map rowEn).length), (13, I64 (i : Nat))] F ∧ l1.take i = l2.take i) ?_ ?_ ?_
  · exact ⟨is_of (by kernel_rfl), rfl⟩
  · rintro i F hi ⟨⟨t, c, al, rfl⟩, hpre⟩
    have hi2 : i < l2.length := by omega
    refine aw_sk 10 (by kernel_rfl) ?_
    refine aw_sc (decide ((i : Int) < ((l1.map rowEn).length : Int))) (by kernel_rfl) (fun _ => ?_) (fun h => absurd (of_decide_eq_false h) (by rw [List.length_map]; omega))
    refine aw_sskip (aw_seq (aw_block (aw_sk 10 (by kernel_rfl) ?_)))
    refine aw_sr (ow_k 2 10 (by kernel_rfl) ?_)
    refine ow_at (rows := l1.map rowEn) (nl := nl1) (own := o1) (row := rowEn l1[i]) (n := i) (e := 63) (row_at _ _ _ hi) (by omega) (by kernel_rfl) (by kernel_rfl) (by kernel_rfl) (by kernel_rfl) (by kernel_rfl) (by kernel_rfl) ?_
    refine ow_k 3 10 (by kernel_rfl) ?_
    refine ow_at (rows := l2.map rowEn) (nl := nl2) (own := o2) (row := rowEn l2[i]) (n := i) (e := 63) (row_at _ _ _ hi2) (by omega) (by kernel_rfl) (by kernel_rfl) (by kernel_rfl) (by kernel_rfl) (by kernel_rfl) (by kernel_rfl) ?_
    refine ow_k 1 10 (by kernel_rfl) ?_
    refine ow_cmp (r := !(eqEn l1[i] l2[i])) (cs := rowEn l1[i]) (es := rowEn l2[i]) (fun ox oy => (cmpEn l1[i] l2[i] ox oy).1) (by kernel_rfl) (by kernel_rfl) (by kernel_rfl) (by kernel_rfl) ?_
    refine ow_nil ?_
    refine aw_cond (t := (!(eqEn l1[i] l2[i]))) (by kernel_rfl) (fun h => ?_) (fun h => ?_)
    · have hne : l1 ≠ l2 := by
        have hx : l1[i] ≠ l2[i] := by first | (rw [← eqEn_iff]; simpa using h) | (rw [Ne, ← eqEn_iff]; simpa using h)
        intro e
        apply hx
        simp only [e]
      refine aw_sk 10 (by kernel_rfl) ?_
      refine aw_ret ?_
      rw [decide_eq_false hne]
      exact ⟨.inr rfl, [BO false], by kernel_rfl, by kernel_rfl, by kernel_rfl, by kernel_rfl⟩
    · have hx : l1[i] = l2[i] := by first | (rw [← eqEn_iff]; simpa using h) | (rw [Ne, ← eqEn_iff]; simpa using h)
      refine aw_skip ?_
      refine aw_rk 10 (by kernel_rfl) ?_
      exact ⟨is_at (l' := [(0, .slice (l1.map rowEn) nl1 o1), (1, .slice (l2.map rowEn) nl2 o2), (11, .slice (l1.map rowEn) nl1 o1), (12, I64 (l1.map rowEn).length), (13, I64 (IntKind.i64.wrap ((i : Int) + 1)))]) (by rw [succ64 (by omega)]) (by kernel_rfl), take_next hi hi2 hpre hx⟩
  · rintro F ⟨⟨t, c, al, rfl⟩, hpre⟩
    have he : l1 = l2 := by
      have h2 := hpre
      rw [List.take_length, hlen, List.take_length] at h2
      exact h2
    refine aw_sk 10 (by kernel_rfl) ?_
    refine aw_sc (decide ((l1.length : Int) < ((l1.map rowEn).length : Int))) (by kernel_rfl) (fun h => absurd (of_decide_eq_true h) (by rw [List.length_map]; omega)) (fun _ => ?_)
    refine aw_sexit ?_
    dsimp only [Then, InBlock, if_true]
    refine aw_sk 10 (by kernel_rfl) ?_
    refine aw_ret ?_
    rw [decide_eq_true he]
    exact ⟨.inr rfl, [BO true], by kernel_rfl, by kernel_rfl, by kernel_rfl, by kernel_rfl⟩
theorem same48 (l1 l2 : List Fi) (nl1 nl2 : Bool) (o1 o2 : Own) (k1 : OkO o1) (k2 : OkO o2) (hb : l1.length ≤ 1000000) : callQ cfg17 (evK cfg17) 48 [.slice (l1.map rowFi) nl1 o1, .slice (l2.map rowFi) nl2 o2] = some (BO (decide (l1 = l2))) := by
  refine callQ_of (by kernel_rfl) ?_
  have hcl : callQ cfg17 (evK cfg17) 72 [.slice (l1.map rowFi) nl1 o1, .slice (l2.map rowFi) nl2 o2] = some (BO (decide (l1 = l2))) := callQ_of (by kernel_rfl) (equal72 l1 l2 nl1 nl2 o1 o2 hb)
  refine evK_of Tryd.func48 rfl (of_decide_eq_true (by kernel_rfl)) (by kernel_rfl) (by kernel_rfl) rfl ?_
  unfold Tryd.f48
  dsimp only
  refine aw_sk 10 (by kernel_rfl) ?_
  refine aw_sr (ow_k 2 10 (by kernel_rfl) ?_)
  refine ow_callG (k := 72) (first := []) (captured := []) (xs := [.slice (l1.map rowFi) nl1 o1, .slice (l2.map rowFi) nl2 o2]) (r := BO (decide (l1 = l2))) (by kernel_rfl) (by kernel_rfl) (by kernel_rfl) (by kernel_rfl) (by kernel_rfl) (by kernel_rfl) (by simp only [List.map_cons, List.map_nil, strip_ok k1, strip_ok k2]; exact hcl) (by kernel_rfl) (by kernel_rfl) ?_
  refine ow_all 10 (by kernel_rfl) ?_
  refine aw_ret ?_
  exact ⟨.inr rfl, [BO (decide (l1 = l2))], by kernel_rfl, by kernel_rfl, by kernel_rfl, by kernel_rfl⟩
theorem same49 (l1 l2 : List En) (nl1 nl2 : Bool) (o1 o2 : Own) (k1 : OkO o1) (k2 : OkO o2) (hb : l1.length ≤ 1000000) : callQ cfg17 (evK cfg17) 49 [.slice (l1.map rowEn) nl1 o1, .slice (l2.map rowEn) nl2 o2] = some (BO (decide (l1 = l2))) := by
  refine callQ_of (by kernel_rfl) ?_
  have hcl : callQ cfg17 (evK cfg17) 73 [.slice (l1.map rowEn) nl1 o1, .slice (l2.map rowEn) nl2 o2] = some (BO (decide (l1 = l2))) := callQ_of (by kernel_rfl) (equal73 l1 l2 nl1 nl2 o1 o2 hb)
  refine evK_of Tryd.func49 rfl (of_decide_eq_true (by kernel_rfl)) (by kernel_rfl) (by kernel_rfl) rfl ?_
  unfold Tryd.f49
  dsimp only
  refine aw_sk 10 (by kernel_rfl) ?_
  refine aw_sr (ow_k 2 10 (by kernel_rfl) ?_)
  refine ow_callG (k := 73) (first := []) (captured := []) (xs := [.slice (l1.map rowEn) nl1 o1, .slice (l2.map rowEn) nl2 o2]) (r := BO (decide (l1 = l2))) (by kernel_rfl) (by kernel_rfl) (by kernel_rfl) (by kernel_rfl) (by kernel_rfl) (by kernel_rfl) (by simp only [List.map_cons, List.map_nil, strip_ok k1, strip_ok k2]; exact hcl) (by kernel_rfl) (by kernel_rfl) ?_
  refine ow_all 10 (by kernel_rfl) ?_
  refine aw_ret ?_
  exact ⟨.inr rfl, [BO (decide (l1 = l2))], by kernel_rfl, by kernel_rfl, by kernel_rfl, by kernel_rfl⟩
end Go.Proofs.V
namespace Go.Proofs.V
open Go Go.Proofs Go.Proofs.V.Wire
set_option linter.unusedVariables false
set_option linter.unusedSimpArgs false
set_option maxRecDepth 100000
set_option maxHeartbeats 2000000
theorem same12 (s t : Stt) (z y : Nl) (hs : Short s) (hz : OkZ z) (hy : OkZ y) : ∀ b : Bool, (b = true ↔ s = t) → evK cfg17 12 [.agg (cellsSt s z), .agg (cellsSt t y)] [] = some (BO b, []) := by
  intro b hb
  obtain ⟨a, tr, ar, ch, ow, sh, tu, pe, th, co, wa, ha⟩ := s
  obtain ⟨a', tr', ar', ch', ow', sh', tu', pe', th', co', wa', ha'⟩ := t
  obtain ⟨s1, s2, s3, s4, s5, s6, s7⟩ := hs
  dsimp only at s1 s2 s3 s4 s5 s6 s7
  refine evK_of Tryd.func12 rfl (of_decide_eq_true (by kernel_rfl)) (by kernel_rfl) (by kernel_rfl) rfl ?_
  unfold Tryd.f12
  dsimp only
  refine aw_sk 10 (by kernel_rfl) ?_
  refine aw_absE 89 [] [] (cfg17.heap 12) [(2, .box 0 (cellsSt (a, tr, ar, ch, ow, sh, tu, pe, th, co, wa, ha) z)), (3, .box 64 (cellsSt (a', tr', ar', ch', ow', sh', tu', pe', th', co', wa', ha') y))] [(2, .box 0 ((cellsSt (a, tr, ar, ch, ow, sh, tu, pe, th, co, wa, ha) z).map strip1)), (3, .box 64 ((cellsSt (a', tr', ar', ch', ow', sh', tu', pe', th', co', wa', ha') y).map strip1))] (by rw [strip1_st _ hz, strip1_st _ hy]) rfl (by kernel_rfl) (fun t0 c0 al0 => ?_)
  refine aw_sr (ow_k 4 10 (by kernel_rfl) ?_)
  have ctr := same48 tr tr' z.tree y.tree z.treeO y.treeO hz.tree hy.tree (by omega)
  by_cases Htr : tr = tr'
  rotate_left
  · have _u := 0
    rw [decide_eq_false Htr] at ctr
    refine ow_callG (k := 48) (first := []) (captured := []) (xs := [.slice (tr.map rowFi) z.tree z.treeO, .slice (tr'.map rowFi) y.tree y.treeO]) (r := BO false) (by kernel_rfl) (by kernel_rfl) (by kernel_rfl) (by kernel_rfl) (by kernel_rfl) (by kernel_rfl) (by simp only [List.map_cons, List.map_nil, strip_ok hz.tree, strip_ok hz.arch, strip_ok hz.own, strip_ok hz.shown, strip_ok hz.theirs, strip_ok hz.conf, strip_ok hz.waits, strip_ok hy.tree, strip_ok hy.arch, strip_ok hy.own, strip_ok hy.shown, strip_ok hy.theirs, strip_ok hy.conf, strip_ok hy.waits]; exact ctr) (by kernel_rfl) (by kernel_rfl) ?_
    refine ow_abs 89 [] (cfg17.heap 12) [(2, .box 0 (cellsSt (a, tr, ar, ch, ow, sh, tu, pe, th, co, wa, ha) z)), (3, .box 64 (cellsSt (a', tr', ar', ch', ow', sh', tu', pe', th', co', wa', ha') y)), (10, BO false)] (by kernel_rfl) (fun _ _ _ => ?_)
    refine ow_all 10 (by kernel_rfl) ?_
    refine aw_abs 89 [] (cfg17.heap 12) [(2, .box 0 (cellsSt (a, tr, ar, ch, ow, sh, tu, pe, th, co, wa, ha) z)), (3, .box 64 (cellsSt (a', tr', ar', ch', ow', sh', tu', pe', th', co', wa', ha') y)), (5, BO false)] (by kernel_rfl) (fun t1 c1 al1 => ?_)
    refine aw_sk 10 (by kernel_rfl) ?_
    refine aw_ret ?_
    have hbf : b = false := by
      cases b
      · rfl
      · have e := hb.1 rfl
        exact absurd (by simp only [Prod.mk.injEq] at e; simp only [e]) Htr
    exact ⟨.inr rfl, [BO false], by kernel_rfl, by kernel_rfl, Eq.trans (by kernel_rfl) (congrArg (fun x => BO x) hbf.symm), by kernel_rfl⟩
  rw [decide_eq_true Htr] at ctr
  refine ow_callG (k := 48) (first := []) (captured := []) (xs := [.slice (tr.map rowFi) z.tree z.treeO, .slice (tr'.map rowFi) y.tree y.treeO]) (r := BO true) (by kernel_rfl) (by kernel_rfl) (by kernel_rfl) (by kernel_rfl) (by kernel_rfl) (by kernel_rfl) (by simp only [List.map_cons, List.map_nil, strip_ok hz.tree, strip_ok hz.arch, strip_ok hz.own, strip_ok hz.shown, strip_ok hz.theirs, strip_ok hz.conf, strip_ok hz.waits, strip_ok hy.tree, strip_ok hy.arch, strip_ok hy.own, strip_ok hy.shown, strip_ok hy.theirs, strip_ok hy.conf, strip_ok hy.waits]; exact ctr) (by kernel_rfl) (by kernel_rfl) ?_
  refine ow_abs 89 [] (cfg17.heap 12) [(2, .box 0 (cellsSt (a, tr, ar, ch, ow, sh, tu, pe, th, co, wa, ha) z)), (3, .box 64 (cellsSt (a', tr', ar', ch', ow', sh', tu', pe', th', co', wa', ha') y)), (10, BO true)] (by kernel_rfl) (fun _ _ _ => ?_)
  refine ow_k 5 10 (by kernel_rfl) ?_
  have car := same49 ar ar' z.arch y.arch z.archO y.archO hz.arch hy.arch (by omega)
  by_cases Har : ar = ar'
  rotate_left
  · have _u := 0
    rw [decide_eq_false Har] at car
    refine ow_callG (k := 49) (first := []) (captured := []) (xs := [.slice (ar.map rowEn) z.arch z.archO, .slice (ar'.map rowEn) y.arch y.archO]) (r := BO false) (by kernel_rfl) (by kernel_rfl) (by kernel_rfl) (by kernel_rfl) (by kernel_rfl) (by kernel_rfl) (by simp only [List.map_cons, List.map_nil, strip_ok hz.tree, strip_ok hz.arch, strip_ok hz.own, strip_ok hz.shown, strip_ok hz.theirs, strip_ok hz.conf, strip_ok hz.waits, strip_ok hy.tree, strip_ok hy.arch, strip_ok hy.own, strip_ok hy.shown, strip_ok hy.theirs, strip_ok hy.conf, strip_ok hy.waits]; exact car) (by kernel_rfl) (by kernel_rfl) ?_
    refine ow_abs 89 [] (cfg17.heap 12) [(2, .box 0 (cellsSt (a, tr, ar, ch, ow, sh, tu, pe, th, co, wa, ha) z)), (3, .box 64 (cellsSt (a', tr', ar', ch', ow', sh', tu', pe', th', co', wa', ha') y)), (11, BO true), (16, BO false)] (by kernel_rfl) (fun _ _ _ => ?_)
    refine ow_all 10 (by kernel_rfl) ?_
    refine aw_abs 89 [] (cfg17.heap 12) [(2, .box 0 (cellsSt (a, tr, ar, ch, ow, sh, tu, pe, th, co, wa, ha) z)), (3, .box 64 (cellsSt (a', tr', ar', ch', ow', sh', tu', pe', th', co', wa', ha') y)), (5, BO false)] (by kernel_rfl) (fun t1 c1 al1 => ?_)
    refine aw_sk 10 (by kernel_rfl) ?_
    refine aw_ret ?_
    have hbf : b = false := by
      cases b
      · rfl
      · have e := hb.1 rfl
        exact absurd (by simp only [Prod.mk.injEq] at e; simp only [e]) Har
    exact ⟨.inr rfl, [BO false], by kernel_rfl, by kernel_rfl, Eq.trans (by kernel_rfl) (congrArg (fun x => BO x) hbf.symm), by kernel_rfl⟩
  rw [decide_eq_true Har] at car
  refine ow_callG (k := 49) (first := []) (captured := []) (xs := [.slice (ar.map rowEn) z.arch z.archO, .slice (ar'.map rowEn) y.arch y.archO]) (r := BO true) (by kernel_rfl) (by kernel_rfl) (by kernel_rfl) (by kernel_rfl) (by kernel_rfl) (by kernel_rfl) (by simp only [List.map_cons, List.map_nil, strip_ok hz.tree, strip_ok hz.arch, strip_ok hz.own, strip_ok hz.shown, strip_ok hz.theirs, strip_ok hz.conf, strip_ok hz.waits, strip_ok hy.tree, strip_ok hy.arch, strip_ok hy.own, strip_ok hy.shown, strip_ok hy.theirs, strip_ok hy.conf, strip_ok hy.waits]; exact car) (by kernel_rfl) (by kernel_rfl) ?_
  refine ow_abs 89 [] (cfg17.heap 12) [(2, .box 0 (cellsSt (a, tr, ar, ch, ow, sh, tu, pe, th, co, wa, ha) z)), (3, .box 64 (cellsSt (a', tr', ar', ch', ow', sh', tu', pe', th', co', wa', ha') y)), (11, BO true), (16, BO true)] (by kernel_rfl) (fun _ _ _ => ?_)
  refine ow_k 6 10 (by kernel_rfl) ?_
  have csh := same49 sh sh' z.shown y.shown z.shownO y.shownO hz.shown hy.shown (by omega)
  by_cases Hsh : sh = sh'
  rotate_left
  · have _u := 0
    rw [decide_eq_false Hsh] at csh
    refine ow_callG (k := 49) (first := []) (captured := []) (xs := [.slice (sh.map rowEn) z.shown z.shownO, .slice (sh'.map rowEn) y.shown y.shownO]) (r := BO false) (by kernel_rfl) (by kernel_rfl) (by kernel_rfl) (by kernel_rfl) (by kernel_rfl) (by kernel_rfl) (by simp only [List.map_cons, List.map_nil, strip_ok hz.tree, strip_ok hz.arch, strip_ok hz.own, strip_ok hz.shown, strip_ok hz.theirs, strip_ok hz.conf, strip_ok hz.waits, strip_ok hy.tree, strip_ok hy.arch, strip_ok hy.own, strip_ok hy.shown, strip_ok hy.theirs, strip_ok hy.conf, strip_ok hy.waits]; exact csh) (by kernel_rfl) (by kernel_rfl) ?_
    refine ow_abs 89 [] (cfg17.heap 12) [(2, .box 0 (cellsSt (a, tr, ar, ch, ow, sh, tu, pe, th, co, wa, ha) z)), (3, .box 64 (cellsSt (a', tr', ar', ch', ow', sh', tu', pe', th', co', wa', ha') y)), (18, BO true), (23, BO false)] (by kernel_rfl) (fun _ _ _ => ?_)
    refine ow_all 10 (by kernel_rfl) ?_
    refine aw_abs 89 [] (cfg17.heap 12) [(2, .box 0 (cellsSt (a, tr, ar, ch, ow, sh, tu, pe, th, co, wa, ha) z)), (3, .box 64 (cellsSt (a', tr', ar', ch', ow', sh', tu', pe', th', co', wa', ha') y)), (5, BO false)] (by kernel_rfl) (fun t1 c1 al1 => ?_)
    refine aw_sk 10 (by kernel_rfl) ?_
    refine aw_ret ?_
    have hbf : b = false := by
      cases b
      · rfl
      · have e := hb.1 rfl
        exact absurd (by simp only [Prod.mk.injEq] at e; simp only [e]) Hsh
    exact ⟨.inr rfl, [BO false], by kernel_rfl, by kernel_rfl, Eq.trans (by kernel_rfl) (congrArg (fun x => BO x) hbf.symm), by kernel_rfl⟩
  rw [decide_eq_true Hsh] at csh
  refine ow_callG (k := 49) (first := []) (captured := []) (xs := [.slice (sh.map rowEn) z.shown z.shownO, .slice (sh'.map rowEn) y.shown y.shownO]) (r := BO true) (by kernel_rfl) (by kernel_rfl) (by kernel_rfl) (by kernel_rfl) (by kernel_rfl) (by kernel_rfl) (by simp only [List.map_cons, List.map_nil, strip_ok hz.tree, strip_ok hz.arch, strip_ok hz.own, strip_ok hz.shown, strip_ok hz.theirs, strip_ok hz.conf, strip_ok hz.waits, strip_ok hy.tree, strip_ok hy.arch, strip_ok hy.own, strip_ok hy.shown, strip_ok hy.theirs, strip_ok hy.conf, strip_ok hy.waits]; exact csh) (by kernel_rfl) (by kernel_rfl) ?_
  refine ow_abs 89 [] (cfg17.heap 12) [(2, .box 0 (cellsSt (a, tr, ar, ch, ow, sh, tu, pe, th, co, wa, ha) z)), (3, .box 64 (cellsSt (a', tr', ar', ch', ow', sh', tu', pe', th', co', wa', ha') y)), (18, BO true), (23, BO true)] (by kernel_rfl) (fun _ _ _ => ?_)
  refine ow_k 6 10 (by kernel_rfl) ?_
  have cth := same49 th th' z.theirs y.theirs z.theirsO y.theirsO hz.theirs hy.theirs (by omega)
  by_cases Hth : th = th'
  rotate_left
  · have _u := 0
    rw [decide_eq_false Hth] at cth
    refine ow_callG (k := 49) (first := []) (captured := []) (xs := [.slice (th.map rowEn) z.theirs z.theirsO, .slice (th'.map rowEn) y.theirs y.theirsO]) (r := BO false) (by kernel_rfl) (by kernel_rfl) (by kernel_rfl) (by kernel_rfl) (by kernel_rfl) (by kernel_rfl) (by simp only [List.map_cons, List.map_nil, strip_ok hz.tree, strip_ok hz.arch, strip_ok hz.own, strip_ok hz.shown, strip_ok hz.theirs, strip_ok hz.conf, strip_ok hz.waits, strip_ok hy.tree, strip_ok hy.arch, strip_ok hy.own, strip_ok hy.shown, strip_ok hy.theirs, strip_ok hy.conf, strip_ok hy.waits]; exact cth) (by kernel_rfl) (by kernel_rfl) ?_
    refine ow_abs 89 [] (cfg17.heap 12) [(2, .box 0 (cellsSt (a, tr, ar, ch, ow, sh, tu, pe, th, co, wa, ha) z)), (3, .box 64 (cellsSt (a', tr', ar', ch', ow', sh', tu', pe', th', co', wa', ha') y)), (25, BO true), (30, BO false)] (by kernel_rfl) (fun _ _ _ => ?_)
    refine ow_all 10 (by kernel_rfl) ?_
    refine aw_abs 89 [] (cfg17.heap 12) [(2, .box 0 (cellsSt (a, tr, ar, ch, ow, sh, tu, pe, th, co, wa, ha) z)), (3, .box 64 (cellsSt (a', tr', ar', ch', ow', sh', tu', pe', th', co', wa', ha') y)), (5, BO false)] (by kernel_rfl) (fun t1 c1 al1 => ?_)
    refine aw_sk 10 (by kernel_rfl) ?_
    refine aw_ret ?_
    have hbf : b = false := by
      cases b
      · rfl
      · have e := hb.1 rfl
        exact absurd (by simp only [Prod.mk.injEq] at e; simp only [e]) Hth
    exact ⟨.inr rfl, [BO false], by kernel_rfl, by kernel_rfl, Eq.trans (by kernel_rfl) (congrArg (fun x => BO x) hbf.symm), by kernel_rfl⟩
  rw [decide_eq_true Hth] at cth
  refine ow_callG (k := 49) (first := []) (captured := []) (xs := [.slice (th.map rowEn) z.theirs z.theirsO, .slice (th'.map rowEn) y.theirs y.theirsO]) (r := BO true) (by kernel_rfl) (by kernel_rfl) (by kernel_rfl) (by kernel_rfl) (by kernel_rfl) (by kernel_rfl) (by simp only [List.map_cons, List.map_nil, strip_ok hz.tree, strip_ok hz.arch, strip_ok hz.own, strip_ok hz.shown, strip_ok hz.theirs, strip_ok hz.conf, strip_ok hz.waits, strip_ok hy.tree, strip_ok hy.arch, strip_ok hy.own, strip_ok hy.shown, strip_ok hy.theirs, strip_ok hy.conf, strip_ok hy.waits]; exact cth) (by kernel_rfl) (by kernel_rfl) ?_
  refine ow_abs 89 [] (cfg17.heap 12) [(2, .box 0 (cellsSt (a, tr, ar, ch, ow, sh, tu, pe, th, co, wa, ha) z)), (3, .box 64 (cellsSt (a', tr', ar', ch', ow', sh', tu', pe', th', co', wa', ha') y)), (25, BO true), (30, BO true)] (by kernel_rfl) (fun _ _ _ => ?_)
  refine ow_all 10 (by kernel_rfl) ?_
  refine aw_abs 89 [] (cfg17.heap 12) [(2, .box 0 (cellsSt (a, tr, ar, ch, ow, sh, tu, pe, th, co, wa, ha) z)), (3, .box 64 (cellsSt (a', tr', ar', ch', ow', sh', tu', pe', th', co', wa', ha') y)), (5, BO true)] (by kernel_rfl) (fun t1 c1 al1 => ?_)
  refine aw_sr (ow_k 6 10 (by kernel_rfl) ?_)
  by_cases Ha : a = a'
  rotate_left
  · have _u := 0
    refine ow_is (x := (a == a')) (w := false) (by simp [Ha]) (by kernel_rfl) (by kernel_rfl) (by kernel_rfl) (by kernel_rfl) (by kernel_rfl) ?_
    refine ow_abs 89 [] (cfg17.heap 12) [(2, .box 0 (cellsSt (a, tr, ar, ch, ow, sh, tu, pe, th, co, wa, ha) z)), (3, .box 64 (cellsSt (a', tr', ar', ch', ow', sh', tu', pe', th', co', wa', ha') y)), (33, BO true), (38, BO false)] (by kernel_rfl) (fun _ _ _ => ?_)
    refine ow_all 10 (by kernel_rfl) ?_
    refine aw_ret ?_
    have hbf : b = false := by
      cases b
      · rfl
      · have e := hb.1 rfl
        exact absurd (by simp only [Prod.mk.injEq] at e; simp only [e]) Ha
    exact ⟨.inr rfl, [BO false], by kernel_rfl, by kernel_rfl, Eq.trans (by kernel_rfl) (congrArg (fun x => BO x) hbf.symm), by kernel_rfl⟩
  refine ow_is (x := (a == a')) (w := true) (by simp [Ha]) (by kernel_rfl) (by kernel_rfl) (by kernel_rfl) (by kernel_rfl) (by kernel_rfl) ?_
  refine ow_abs 89 [] (cfg17.heap 12) [(2, .box 0 (cellsSt (a, tr, ar, ch, ow, sh, tu, pe, th, co, wa, ha) z)), (3, .box 64 (cellsSt (a', tr', ar', ch', ow', sh', tu', pe', th', co', wa', ha') y)), (33, BO true), (38, BO true)] (by kernel_rfl) (fun _ _ _ => ?_)
  refine ow_k 6 10 (by kernel_rfl) ?_
  by_cases Hch : ch = ch'
  rotate_left
  · have _u := 0
    have ech : eqCu ch ch' = false := (by rw [← Bool.not_eq_true, eqCu_iff]; exact Hch)
    refine ow_cmp (r := false) (cs := cellsCu ch) (es := cellsCu ch') (fun ox oy => by rw [(cmpCu ch ch' ox oy).2, ech]) (by kernel_rfl) (by kernel_rfl) (by kernel_rfl) (by kernel_rfl) ?_
    refine ow_abs 89 [] (cfg17.heap 12) [(2, .box 0 (cellsSt (a, tr, ar, ch, ow, sh, tu, pe, th, co, wa, ha) z)), (3, .box 64 (cellsSt (a', tr', ar', ch', ow', sh', tu', pe', th', co', wa', ha') y)), (40, BO true), (45, BO false)] (by kernel_rfl) (fun _ _ _ => ?_)
    refine ow_all 10 (by kernel_rfl) ?_
    refine aw_ret ?_
    have hbf : b = false := by
      cases b
      · rfl
      · have e := hb.1 rfl
        exact absurd (by simp only [Prod.mk.injEq] at e; simp only [e]) Hch
    exact ⟨.inr rfl, [BO false], by kernel_rfl, by kernel_rfl, Eq.trans (by kernel_rfl) (congrArg (fun x => BO x) hbf.symm), by kernel_rfl⟩
  have ech : eqCu ch ch' = true := ((eqCu_iff ch ch').2 Hch)
  refine ow_cmp (r := true) (cs := cellsCu ch) (es := cellsCu ch') (fun ox oy => by rw [(cmpCu ch ch' ox oy).2, ech]) (by kernel_rfl) (by kernel_rfl) (by kernel_rfl) (by kernel_rfl) ?_
  refine ow_abs 89 [] (cfg17.heap 12) [(2, .box 0 (cellsSt (a, tr, ar, ch, ow, sh, tu, pe, th, co, wa, ha) z)), (3, .box 64 (cellsSt (a', tr', ar', ch', ow', sh', tu', pe', th', co', wa', ha') y)), (40, BO true), (45, BO true)] (by kernel_rfl) (fun _ _ _ => ?_)
  refine ow_k 6 10 (by kernel_rfl) ?_
  by_cases Hpe : pe = pe'
  rotate_left
  · have _u := 0
    have epe : eqCu pe pe' = false := (by rw [← Bool.not_eq_true, eqCu_iff]; exact Hpe)
    refine ow_cmp (r := false) (cs := cellsCu pe) (es := cellsCu pe') (fun ox oy => by rw [(cmpCu pe pe' ox oy).2, epe]) (by kernel_rfl) (by kernel_rfl) (by kernel_rfl) (by kernel_rfl) ?_
    refine ow_abs 89 [] (cfg17.heap 12) [(2, .box 0 (cellsSt (a, tr, ar, ch, ow, sh, tu, pe, th, co, wa, ha) z)), (3, .box 64 (cellsSt (a', tr', ar', ch', ow', sh', tu', pe', th', co', wa', ha') y)), (47, BO true), (52, BO false)] (by kernel_rfl) (fun _ _ _ => ?_)
    refine ow_all 10 (by kernel_rfl) ?_
    refine aw_ret ?_
    have hbf : b = false := by
      cases b
      · rfl
      · have e := hb.1 rfl
        exact absurd (by simp only [Prod.mk.injEq] at e; simp only [e]) Hpe
    exact ⟨.inr rfl, [BO false], by kernel_rfl, by kernel_rfl, Eq.trans (by kernel_rfl) (congrArg (fun x => BO x) hbf.symm), by kernel_rfl⟩
  have epe : eqCu pe pe' = true := ((eqCu_iff pe pe').2 Hpe)
  refine ow_cmp (r := true) (cs := cellsCu pe) (es := cellsCu pe') (fun ox oy => by rw [(cmpCu pe pe' ox oy).2, epe]) (by kernel_rfl) (by kernel_rfl) (by kernel_rfl) (by kernel_rfl) ?_
  refine ow_abs 89 [] (cfg17.heap 12) [(2, .box 0 (cellsSt (a, tr, ar, ch, ow, sh, tu, pe, th, co, wa, ha) z)), (3, .box 64 (cellsSt (a', tr', ar', ch', ow', sh', tu', pe', th', co', wa', ha') y)), (47, BO true), (52, BO true)] (by kernel_rfl) (fun _ _ _ => ?_)
  refine ow_k 6 10 (by kernel_rfl) ?_
  by_cases Htu : tu = tu'
  rotate_left
  · have _u := 0
    refine ow_is (x := (tu == tu')) (w := false) (by simp [Htu]) (by kernel_rfl) (by kernel_rfl) (by kernel_rfl) (by kernel_rfl) (by kernel_rfl) ?_
    refine ow_abs 89 [] (cfg17.heap 12) [(2, .box 0 (cellsSt (a, tr, ar, ch, ow, sh, tu, pe, th, co, wa, ha) z)), (3, .box 64 (cellsSt (a', tr', ar', ch', ow', sh', tu', pe', th', co', wa', ha') y)), (54, BO true), (59, BO false)] (by kernel_rfl) (fun _ _ _ => ?_)
    refine ow_all 10 (by kernel_rfl) ?_
    refine aw_ret ?_
    have hbf : b = false := by
      cases b
      · rfl
      · have e := hb.1 rfl
        exact absurd (by simp only [Prod.mk.injEq] at e; simp only [e]) Htu
    exact ⟨.inr rfl, [BO false], by kernel_rfl, by kernel_rfl, Eq.trans (by kernel_rfl) (congrArg (fun x => BO x) hbf.symm), by kernel_rfl⟩
  refine ow_is (x := (tu == tu')) (w := true) (by simp [Htu]) (by kernel_rfl) (by kernel_rfl) (by kernel_rfl) (by kernel_rfl) (by kernel_rfl) ?_
  refine ow_abs 89 [] (cfg17.heap 12) [(2, .box 0 (cellsSt (a, tr, ar, ch, ow, sh, tu, pe, th, co, wa, ha) z)), (3, .box 64 (cellsSt (a', tr', ar', ch', ow', sh', tu', pe', th', co', wa', ha') y)), (54, BO true), (59, BO true)] (by kernel_rfl) (fun _ _ _ => ?_)
  refine ow_k 6 10 (by kernel_rfl) ?_
  by_cases Hha : ha = ha'
  rotate_left
  · have _u := 0
    refine ow_is (x := (ha == ha')) (w := false) (by simp [Hha]) (by kernel_rfl) (by kernel_rfl) (by kernel_rfl) (by kernel_rfl) (by kernel_rfl) ?_
    refine ow_abs 89 [] (cfg17.heap 12) [(2, .box 0 (cellsSt (a, tr, ar, ch, ow, sh, tu, pe, th, co, wa, ha) z)), (3, .box 64 (cellsSt (a', tr', ar', ch', ow', sh', tu', pe', th', co', wa', ha') y)), (61, BO true), (66, BO false)] (by kernel_rfl) (fun _ _ _ => ?_)
    refine ow_all 10 (by kernel_rfl) ?_
    refine aw_ret ?_
    have hbf : b = false := by
      cases b
      · rfl
      · have e := hb.1 rfl
        exact absurd (by simp only [Prod.mk.injEq] at e; simp only [e]) Hha
    exact ⟨.inr rfl, [BO false], by kernel_rfl, by kernel_rfl, Eq.trans (by kernel_rfl) (congrArg (fun x => BO x) hbf.symm), by kernel_rfl⟩
  refine ow_is (x := (ha == ha')) (w := true) (by simp [Hha]) (by kernel_rfl) (by kernel_rfl) (by kernel_rfl) (by kernel_rfl) (by kernel_rfl) ?_
  refine ow_abs 89 [] (cfg17.heap 12) [(2, .box 0 (cellsSt (a, tr, ar, ch, ow, sh, tu, pe, th, co, wa, ha) z)), (3, .box 64 (cellsSt (a', tr', ar', ch', ow', sh', tu', pe', th', co', wa', ha') y)), (61, BO true), (66, BO true)] (by kernel_rfl) (fun _ _ _ => ?_)
  refine ow_k 6 10 (by kernel_rfl) ?_
  have cow := equal50 ow ow' z.own y.own z.ownO y.ownO (by omega)
  by_cases How : ow = ow'
  rotate_left
  · have _u := 0
    rw [decide_eq_false How] at cow
    refine ow_callE0 (k := 50) (first := []) (captured := []) (xs := [.slice (ow.map rowN) z.own z.ownO, .slice (ow'.map rowN) y.own y.ownO]) (r := BO false) (by simp only [List.map_cons, List.map_nil, strip_ok hz.tree, strip_ok hz.arch, strip_ok hz.own, strip_ok hz.shown, strip_ok hz.theirs, strip_ok hz.conf, strip_ok hz.waits, strip_ok hy.tree, strip_ok hy.arch, strip_ok hy.own, strip_ok hy.shown, strip_ok hy.theirs, strip_ok hy.conf, strip_ok hy.waits]; exact cow) (by kernel_rfl) (by kernel_rfl) (by kernel_rfl) (by kernel_rfl) (by kernel_rfl) (by kernel_rfl) (by kernel_rfl) (by kernel_rfl) ?_
    refine ow_abs 89 [] (cfg17.heap 12) [(2, .box 0 (cellsSt (a, tr, ar, ch, ow, sh, tu, pe, th, co, wa, ha) z)), (3, .box 64 (cellsSt (a', tr', ar', ch', ow', sh', tu', pe', th', co', wa', ha') y)), (68, BO true), (73, BO false)] (by kernel_rfl) (fun _ _ _ => ?_)
    refine ow_all 10 (by kernel_rfl) ?_
    refine aw_ret ?_
    have hbf : b = false := by
      cases b
      · rfl
      · have e := hb.1 rfl
        exact absurd (by simp only [Prod.mk.injEq] at e; simp only [e]) How
    exact ⟨.inr rfl, [BO false], by kernel_rfl, by kernel_rfl, Eq.trans (by kernel_rfl) (congrArg (fun x => BO x) hbf.symm), by kernel_rfl⟩
  rw [decide_eq_true How] at cow
  refine ow_callE0 (k := 50) (first := []) (captured := []) (xs := [.slice (ow.map rowN) z.own z.ownO, .slice (ow'.map rowN) y.own y.ownO]) (r := BO true) (by simp only [List.map_cons, List.map_nil, strip_ok hz.tree, strip_ok hz.arch, strip_ok hz.own, strip_ok hz.shown, strip_ok hz.theirs, strip_ok hz.conf, strip_ok hz.waits, strip_ok hy.tree, strip_ok hy.arch, strip_ok hy.own, strip_ok hy.shown, strip_ok hy.theirs, strip_ok hy.conf, strip_ok hy.waits]; exact cow) (by kernel_rfl) (by kernel_rfl) (by kernel_rfl) (by kernel_rfl) (by kernel_rfl) (by kernel_rfl) (by kernel_rfl) (by kernel_rfl) ?_
  refine ow_abs 89 [] (cfg17.heap 12) [(2, .box 0 (cellsSt (a, tr, ar, ch, ow, sh, tu, pe, th, co, wa, ha) z)), (3, .box 64 (cellsSt (a', tr', ar', ch', ow', sh', tu', pe', th', co', wa', ha') y)), (68, BO true), (73, BO true)] (by kernel_rfl) (fun _ _ _ => ?_)
  refine ow_k 6 10 (by kernel_rfl) ?_
  have cco := equal51 co co' z.conf y.conf z.confO y.confO (by omega)
  replace cco := callQ_of (show cfg17.ext 51 = none by kernel_rfl) cco
  by_cases Hco : co = co'
  rotate_left
  · have _u := 0
    rw [decide_eq_false Hco] at cco
    refine ow_callG (k := 51) (first := []) (captured := []) (xs := [.slice (co.map rowS) z.conf z.confO, .slice (co'.map rowS) y.conf y.confO]) (r := BO false) (by kernel_rfl) (by kernel_rfl) (by kernel_rfl) (by kernel_rfl) (by kernel_rfl) (by kernel_rfl) (by simp only [List.map_cons, List.map_nil, strip_ok hz.tree, strip_ok hz.arch, strip_ok hz.own, strip_ok hz.shown, strip_ok hz.theirs, strip_ok hz.conf, strip_ok hz.waits, strip_ok hy.tree, strip_ok hy.arch, strip_ok hy.own, strip_ok hy.shown, strip_ok hy.theirs, strip_ok hy.conf, strip_ok hy.waits]; exact cco) (by kernel_rfl) (by kernel_rfl) ?_
    refine ow_abs 89 [] (cfg17.heap 12) [(2, .box 0 (cellsSt (a, tr, ar, ch, ow, sh, tu, pe, th, co, wa, ha) z)), (3, .box 64 (cellsSt (a', tr', ar', ch', ow', sh', tu', pe', th', co', wa', ha') y)), (75, BO true), (80, BO false)] (by kernel_rfl) (fun _ _ _ => ?_)
    refine ow_all 10 (by kernel_rfl) ?_
    refine aw_ret ?_
    have hbf : b = false := by
      cases b
      · rfl
      · have e := hb.1 rfl
        exact absurd (by simp only [Prod.mk.injEq] at e; simp only [e]) Hco
    exact ⟨.inr rfl, [BO false], by kernel_rfl, by kernel_rfl, Eq.trans (by kernel_rfl) (congrArg (fun x => BO x) hbf.symm), by kernel_rfl⟩
  rw [decide_eq_true Hco] at cco
  refine ow_callG (k := 51) (first := []) (captured := []) (xs := [.slice (co.map rowS) z.conf z.confO, .slice (co'.map rowS) y.conf y.confO]) (r := BO true) (by kernel_rfl) (by kernel_rfl) (by kernel_rfl) (by kernel_rfl) (by kernel_rfl) (by kernel_rfl) (by simp only [List.map_cons, List.map_nil, strip_ok hz.tree, strip_ok hz.arch, strip_ok hz.own, strip_ok hz.shown, strip_ok hz.theirs, strip_ok hz.conf, strip_ok hz.waits, strip_ok hy.tree, strip_ok hy.arch, strip_ok hy.own, strip_ok hy.shown, strip_ok hy.theirs, strip_ok hy.conf, strip_ok hy.waits]; exact cco) (by kernel_rfl) (by kernel_rfl) ?_
  refine ow_abs 89 [] (cfg17.heap 12) [(2, .box 0 (cellsSt (a, tr, ar, ch, ow, sh, tu, pe, th, co, wa, ha) z)), (3, .box 64 (cellsSt (a', tr', ar', ch', ow', sh', tu', pe', th', co', wa', ha') y)), (75, BO true), (80, BO true)] (by kernel_rfl) (fun _ _ _ => ?_)
  refine ow_k 6 10 (by kernel_rfl) ?_
  have cwa := equal52 wa wa' z.waits y.waits z.waitsO y.waitsO (by omega)
  replace cwa := callQ_of (show cfg17.ext 52 = none by kernel_rfl) cwa
  by_cases Hwa : wa = wa'
  rotate_left
  · have _u := 0
    rw [decide_eq_false Hwa] at cwa
    refine ow_callG (k := 52) (first := []) (captured := []) (xs := [.slice (wa.map rowPu) z.waits z.waitsO, .slice (wa'.map rowPu) y.waits y.waitsO]) (r := BO false) (by kernel_rfl) (by kernel_rfl) (by kernel_rfl) (by kernel_rfl) (by kernel_rfl) (by kernel_rfl) (by simp only [List.map_cons, List.map_nil, strip_ok hz.tree, strip_ok hz.arch, strip_ok hz.own, strip_ok hz.shown, strip_ok hz.theirs, strip_ok hz.conf, strip_ok hz.waits, strip_ok hy.tree, strip_ok hy.arch, strip_ok hy.own, strip_ok hy.shown, strip_ok hy.theirs, strip_ok hy.conf, strip_ok hy.waits]; exact cwa) (by kernel_rfl) (by kernel_rfl) ?_
    refine ow_abs 89 [] (cfg17.heap 12) [(2, .box 0 (cellsSt (a, tr, ar, ch, ow, sh, tu, pe, th, co, wa, ha) z)), (3, .box 64 (cellsSt (a', tr', ar', ch', ow', sh', tu', pe', th', co', wa', ha') y)), (82, BO true), (87, BO false)] (by kernel_rfl) (fun _ _ _ => ?_)
    refine ow_all 10 (by kernel_rfl) ?_
    refine aw_ret ?_
    have hbf : b = false := by
      cases b
      · rfl
      · have e := hb.1 rfl
        exact absurd (by simp only [Prod.mk.injEq] at e; simp only [e]) Hwa
    exact ⟨.inr rfl, [BO false], by kernel_rfl, by kernel_rfl, Eq.trans (by kernel_rfl) (congrArg (fun x => BO x) hbf.symm), by kernel_rfl⟩
  rw [decide_eq_true Hwa] at cwa
  refine ow_callG (k := 52) (first := []) (captured := []) (xs := [.slice (wa.map rowPu) z.waits z.waitsO, .slice (wa'.map rowPu) y.waits y.waitsO]) (r := BO true) (by kernel_rfl) (by kernel_rfl) (by kernel_rfl) (by kernel_rfl) (by kernel_rfl) (by kernel_rfl) (by simp only [List.map_cons, List.map_nil, strip_ok hz.tree, strip_ok hz.arch, strip_ok hz.own, strip_ok hz.shown, strip_ok hz.theirs, strip_ok hz.conf, strip_ok hz.waits, strip_ok hy.tree, strip_ok hy.arch, strip_ok hy.own, strip_ok hy.shown, strip_ok hy.theirs, strip_ok hy.conf, strip_ok hy.waits]; exact cwa) (by kernel_rfl) (by kernel_rfl) ?_
  refine ow_abs 89 [] (cfg17.heap 12) [(2, .box 0 (cellsSt (a, tr, ar, ch, ow, sh, tu, pe, th, co, wa, ha) z)), (3, .box 64 (cellsSt (a', tr', ar', ch', ow', sh', tu', pe', th', co', wa', ha') y)), (82, BO true), (87, BO true)] (by kernel_rfl) (fun _ _ _ => ?_)
  refine ow_all 10 (by kernel_rfl) ?_
  refine aw_ret ?_
  have hbt : b = true := hb.2 (by simp only [Htr, Har, Hsh, Hth, Ha, Hch, Hpe, Htu, Hha, How, Hco, Hwa])
  exact ⟨.inr rfl, [BO true], by kernel_rfl, by kernel_rfl, Eq.trans (by kernel_rfl) (congrArg (fun x => BO x) hbt.symm), by kernel_rfl⟩
end Go.Proofs.V

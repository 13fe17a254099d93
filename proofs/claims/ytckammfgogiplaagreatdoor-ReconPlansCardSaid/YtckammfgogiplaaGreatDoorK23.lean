/- recon.Merge: look-ups in a map that reads as a function. -/
import Derived.Test.YtckammfgogiplaaGreatDoorK22
import Derived.Maps.OwnSet
import Derived.Maps.OwnOps
import Derived.Maps.RangeWalk
namespace Go.Proofs.V.R10
open Go Go.Proofs Go.RowKit Go.Maps
set_option linter.unusedVariables false
set_option linter.unusedSimpArgs false
def zeroE : En := ([], (false, ([], (0, 0))))
theorem zero34 (w : World) : (zeroValue 34).run Tryz.prog w = .ok (valE zeroE) w := Tryz.zeroValue34 w
/-- What a look-up tells. -/
def lookE (g : List UInt8 → Option En) (q : List UInt8) : En := (g q).getD zeroE
section
variable {w : World} {b n : Nat} {D : DataW Value} {g : List UInt8 → Option En}
theorem reads_at (h : Reads D g) (q : List UInt8) : D.atKey (.string q) (.held (valE zeroE)) = .held (valE (lookE g q)) := by
  unfold lookE
  cases hq : g q with
  | none => exact atKey_of_not_has (by rw [h.h, hq]; rfl) _
  | some e => exact h.v q e hq _
theorem wpList_look {ops : Array Oper} {rest : List Oper} {o : Oper} {a : Act} {Q : Exit → Act → World → Prop} (hg : o.guard = none) (m x : Operand) (hop : o.op = Op.lookup 61 m x true) (q : List UInt8)
    (hown : w.ownsMap Tryz.prog 9 RV b n D) (hr : Reads D g) (hq : q.length ≤ maxLen) (hm : a.eval m = .map (some b)) (hx : a.eval x = .string ⟨⟨q⟩⟩)
    (hK : wpList Tryz.prog ops Q rest (a.put o.dst (.tuple #[valE (lookE g q), .bool (g q).isSome])) w) : wpList Tryz.prog ops Q (o :: rest) a w := by
  refine wpList_lookup_own_ok w hg m x 61 hop 9 34 law9 Tryz.underlying61 RV (zero34 w) (.held (valE zeroE)) [] rfl b n D hm hown _ (.string q) hx (Go.WideMaps.keyOf_string_mk Tryz.underlying9 hq) fun v ps hv => ?_
  have e : v = valE (lookE g q) := by
    rw [reads_at hr] at hv
    exact (show v = valE (lookE g q) ∧ ps = [] by simpa [RV] using hv).1
  rw [e, hr.h]
  exact hK
theorem wpList_look1 {ops : Array Oper} {rest : List Oper} {o : Oper} {a : Act} {Q : Exit → Act → World → Prop} (hg : o.guard = none) (m x : Operand) (hop : o.op = Op.lookup 61 m x false) (q : List UInt8)
    (hown : w.ownsMap Tryz.prog 9 RV b n D) (hr : Reads D g) (hq : q.length ≤ maxLen) (hm : a.eval m = .map (some b)) (hx : a.eval x = .string ⟨⟨q⟩⟩)
    (hK : wpList Tryz.prog ops Q rest (a.put o.dst (.agg #[.string ⟨⟨(lookE g q).1⟩⟩, .bool (lookE g q).2.1, .string ⟨⟨(lookE g q).2.2.1⟩⟩, .int .i64 (lookE g q).2.2.2.1, .int .i64 (lookE g q).2.2.2.2])) w) : wpList Tryz.prog ops Q (o :: rest) a w := by
  refine wpList_plain hg fun K' hK' => ?_
  obtain ⟨v, ps, hrun, hv⟩ := hown.lookup law9 Tryz.underlying61 (zero34 w) (zd := .held (valE zeroE)) (zp := []) rfl (Go.WideMaps.keyOf_string_mk Tryz.underlying9 (s := ⟨⟨q⟩⟩) hq)
  have e : v = valE (lookE g q) := by
    have hv' : RV v = some (D.atKey (.string q) (.held (valE zeroE)), ps) := hv
    rw [reads_at hr] at hv'
    exact (show v = valE (lookE g q) ∧ ps = [] by simpa [RV] using hv').1
  unfold Oper.wp
  simp [execOp, hop, hm, hx, hrun, Result.andThen, e]
  exact hK' _ _ hK
theorem wpList_set {ops : Array Oper} {rest : List Oper} {o : Oper} {a : Act} {Q : Exit → Act → World → Prop} (hg : o.guard = none) (m x v : Operand) (hop : o.op = Op.mapUpdate 61 m x v) (q : List UInt8) (e : En)
    (hown : w.ownsMap Tryz.prog 9 RV b n D) (hr : Reads D g) (hq : q.length ≤ maxLen) (hn : n < maxLen) (hm : a.eval m = .map (some b)) (hx : a.eval x = .string ⟨⟨q⟩⟩) (hv : a.eval v = valE e)
    (hK : ∀ w' D', w'.ownsMap Tryz.prog 9 RV b (n + 1) D' → Reads D' (fun q' => if q' = q then some e else g q') → w.grownBy w' (some b) → wpList Tryz.prog ops Q rest (a.put o.dst undef) w') : wpList Tryz.prog ops Q (o :: rest) a w :=
  wpList_mapUpdate_own w hg m x v 61 hop 9 34 law9 Tryz.underlying61 RV b n D hm hown hn _ _ (.string q) hx hv (Go.WideMaps.keyOf_string_mk Tryz.underlying9 hq) _ [] rfl fun w' h1 h2 => hK w' _ h1 (hr.put q e) h2
theorem wpList_nextE {r cnt : Nat} {left : Lit → Bool} {ops : Array Oper} {rest : List Oper} {o : Oper} {a : Act} {Q : Exit → Act → World → Prop} (hg : o.guard = none) (it : Operand) (hop : o.op = Op.next it false)
    (hit : a.eval it = .pointer (some ⟨r, 0, none⟩)) (h : w.ranges Tryz.prog 9 RV b r n D left cnt) (hr : Reads D g)
    (hDone : cnt = 0 → (∀ kl, left kl = false) → wpList Tryz.prog ops Q rest (a.put o.dst (.tuple #[.bool false])) w)
    (hMore : ∀ (x : List UInt8) (e : En) (w' : World) (cnt' : Nat), x.length ≤ maxLen → g x = some e → left (.string x) = true → w'.ranges Tryz.prog 9 RV b r n D (fun z => left z && !z.sameKey (.string x)) cnt' → cnt' < cnt →
      w.grownBy w' (some r) → w'.heap.size = w.heap.size → (Instr.entry (.pointer (some ⟨r, 0, none⟩))).run Tryz.prog w' = .ok (.tuple #[.string ⟨⟨x⟩⟩, .agg #[.string ⟨⟨e.1⟩⟩, .bool e.2.1, .string ⟨⟨e.2.2.1⟩⟩, .int .i64 e.2.2.2.1, .int .i64 e.2.2.2.2]]) w' →
      wpList Tryz.prog ops Q rest (a.put o.dst (.tuple #[.bool true, .string ⟨⟨x⟩⟩, .agg #[.string ⟨⟨e.1⟩⟩, .bool e.2.1, .string ⟨⟨e.2.2.1⟩⟩, .int .i64 e.2.2.2.1, .int .i64 e.2.2.2.2]])) w') :
    wpList Tryz.prog ops Q (o :: rest) a w := by
  refine wpList_next_ranges w hg it hop 9 law9 RV (fun x : List UInt8 => Value.string ⟨⟨x⟩⟩) (fun v : Value => v) (fun key kl hk => ?_) (fun v y h => ⟨v, rfl⟩) b r n D left cnt hit h hDone ?_
  · obtain ⟨x, hx, _⟩ := Maps.keyOf_str Tryz.underlying9 hk
    exact ⟨x, hx⟩
  · intro x c kl y w' cnt' hkey hl hy hat hrg hlt hgr hsz hen
    obtain ⟨x', hx', rfl, hlen⟩ := Maps.keyOf_str Tryz.underlying9 hkey
    obtain rfl : x = x' := encStr_inj hx'
    have hh : has D (.string x) = true := has_true_of_atKey hat
    rw [hr.h] at hh
    obtain ⟨e, he⟩ := Option.isSome_iff_exists.1 hh
    have hc : c = valE e := by
      have h1 := hr.v x e he (.held c)
      rw [hat] at h1
      have h2 : y = (.held c, []) := by simpa [RV] using hy.symm
      rw [h2] at h1
      simpa using h1
    subst hc
    exact hMore x e w' cnt' hlen he hl hrg hlt hgr hsz hen
theorem ranges_cnt {r cnt : Nat} {left : Lit → Bool} (h : w.ranges Tryz.prog 9 RV b r n D left cnt) : cnt ≤ n := by
  obtain ⟨es, clock, since, seen, c0, _, _, h1, _, _, _, h2, _⟩ := h
  rw [← h2]
  refine Nat.le_trans ?_ h1
  unfold leftOf
  exact Array.size_filter_le
theorem wpList_look_some {ops : Array Oper} {rest : List Oper} {o : Oper} {a : Act} {Q : Exit → Act → World → Prop} (hg : o.guard = none) (m x : Operand) (hop : o.op = Op.lookup 61 m x true) (q : List UInt8) (e : En)
    (hown : w.ownsMap Tryz.prog 9 RV b n D) (hr : Reads D g) (hq : q.length ≤ maxLen) (he : g q = some e) (hm : a.eval m = .map (some b)) (hx : a.eval x = .string ⟨⟨q⟩⟩)
    (hK : wpList Tryz.prog ops Q rest (a.put o.dst (.tuple #[.agg #[.string ⟨⟨e.1⟩⟩, .bool e.2.1, .string ⟨⟨e.2.2.1⟩⟩, .int .i64 e.2.2.2.1, .int .i64 e.2.2.2.2], .bool true])) w) : wpList Tryz.prog ops Q (o :: rest) a w :=
  wpList_look hg m x hop q hown hr hq hm hx (by unfold lookE; rw [he]; exact hK)
theorem wpList_look_none {ops : Array Oper} {rest : List Oper} {o : Oper} {a : Act} {Q : Exit → Act → World → Prop} (hg : o.guard = none) (m x : Operand) (hop : o.op = Op.lookup 61 m x true) (q : List UInt8)
    (hown : w.ownsMap Tryz.prog 9 RV b n D) (hr : Reads D g) (hq : q.length ≤ maxLen) (he : g q = none) (hm : a.eval m = .map (some b)) (hx : a.eval x = .string ⟨⟨q⟩⟩)
    (hK : wpList Tryz.prog ops Q rest (a.put o.dst (.tuple #[.agg #[.string ⟨⟨[]⟩⟩, .bool false, .string ⟨⟨[]⟩⟩, .int .i64 0, .int .i64 0], .bool false])) w) : wpList Tryz.prog ops Q (o :: rest) a w :=
  wpList_look hg m x hop q hown hr hq hm hx (by unfold lookE; rw [he]; exact hK)
theorem wpList_look2 {ops : Array Oper} {rest : List Oper} {o : Oper} {a : Act} {Q : Exit → Act → World → Prop} (hg : o.guard = none) (m x : Operand) (hop : o.op = Op.lookup 61 m x true) (q : List UInt8)
    (hown : w.ownsMap Tryz.prog 9 RV b n D) (hr : Reads D g) (hq : q.length ≤ maxLen) (hm : a.eval m = .map (some b)) (hx : a.eval x = .string ⟨⟨q⟩⟩)
    (hS : ∀ e, g q = some e → wpList Tryz.prog ops Q rest (a.put o.dst (.tuple #[.agg #[.string ⟨⟨e.1⟩⟩, .bool e.2.1, .string ⟨⟨e.2.2.1⟩⟩, .int .i64 e.2.2.2.1, .int .i64 e.2.2.2.2], .bool true])) w)
    (hN : g q = none → wpList Tryz.prog ops Q rest (a.put o.dst (.tuple #[.agg #[.string ⟨⟨[]⟩⟩, .bool false, .string ⟨⟨[]⟩⟩, .int .i64 0, .int .i64 0], .bool false])) w) : wpList Tryz.prog ops Q (o :: rest) a w := by
  cases h : g q with
  | none => exact wpList_look_none hg m x hop q hown hr hq h hm hx (hN h)
  | some e => exact wpList_look_some hg m x hop q e hown hr hq h hm hx (hS e h)
end
end Go.Proofs.V.R10

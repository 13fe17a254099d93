/- Rows of paths that go up. -/
import Derived.Test.YtckammfgogiplaaGreatDoorK20
import Derived.Test.YtckammfgogiplaaGreatDoorK29
import Derived.Sort.KeysCollected
import Derived.Test.YtckammfgogiplaaGreatDoorK27
namespace Go.Proofs.W.Q10
open Go Go.Proofs Go.Proofs.V Go.Proofs.W Go.RowKit
set_option linter.unusedVariables false
set_option linter.unusedSimpArgs false
theorem lt_bytes : ∀ x y : List UInt8, x < y ↔ Op.bytesLess x y = true
  | [], [] => by simp [Op.bytesLess]
  | [], y :: ys => by simp [Op.bytesLess]
  | x :: xs, [] => by simp [Op.bytesLess]
  | x :: xs, y :: ys => by
    rw [List.cons_lt_cons_iff, lt_bytes xs ys]
    simp [Op.bytesLess]
theorem less_irrefl (x : List UInt8) : Op.bytesLess x x = false := by
  cases h : Op.bytesLess x x with
  | false => rfl
  | true => exact absurd ((lt_bytes x x).2 h) (List.lt_irrefl x)
theorem less_asymm {x y : List UInt8} (h : Op.bytesLess x y = true) : Op.bytesLess y x = false := by
  cases k : Op.bytesLess y x with
  | false => rfl
  | true => have := Q9.less_trans h k; rw [less_irrefl] at this; cases this
theorem leB_less {x y : List UInt8} (h : decide (x ≤ y) = true) (hne : x ≠ y) : Op.bytesLess x y = true := by
  cases k : Op.bytesLess x y with
  | true => rfl
  | false =>
    have h1 := Q9.less_total k hne
    rw [decide_eq_true_eq] at h
    exact absurd ((lt_bytes y x).2 h1) (List.not_lt.2 h)
/-- Paths in order, each once. -/
def Up (l : List (List UInt8)) : Prop := l.Pairwise fun x y => Op.bytesLess x y = true
theorem up_of {l : List (List UInt8)} (h : l.Pairwise fun x y => decide (x ≤ y) = true) (hn : l.Nodup) : Up l := h.imp₂ (fun x y h1 h2 => leB_less h1 h2) hn
theorem Up.nodup {l : List (List UInt8)} (h : Up l) : l.Nodup := h.imp fun {a b} hab e => by subst e; rw [less_irrefl] at hab; cases hab
theorem up_eq : ∀ {a b : List (List UInt8)}, Up a → Up b → (∀ q, q ∈ a ↔ q ∈ b) → a = b
  | [], [], _, _, _ => rfl
  | [], y :: b, _, _, h => by have := (h y).2 (by simp); simp at this
  | x :: a, [], _, _, h => by have := (h x).1 (by simp); simp at this
  | x :: a, y :: b, ha, hb, h => by
    have ha' := List.pairwise_cons.1 ha
    have hb' := List.pairwise_cons.1 hb
    have hxy : x = y := by
      rcases List.mem_cons.1 ((h x).1 (by simp)) with e | e
      · exact e
      · rcases List.mem_cons.1 ((h y).2 (by simp)) with e' | e'
        · exact e'.symm
        · have h1 := hb'.1 x e
          have h2 := ha'.1 y e'
          rw [less_asymm h1] at h2; cases h2
    subst hxy
    rw [up_eq ha'.2 hb'.2 fun q => ?_]
    constructor
    · intro hq
      rcases List.mem_cons.1 ((h q).1 (List.mem_cons_of_mem _ hq)) with e | e
      · subst e; have := ha'.1 q hq; rw [less_irrefl] at this; cases this
      · exact e
    · intro hq
      rcases List.mem_cons.1 ((h q).2 (List.mem_cons_of_mem _ hq)) with e | e
      · subst e; have := hb'.1 q hq; rw [less_irrefl] at this; cases this
      · exact e
theorem mem_insK (p q : List UInt8) : ∀ ks, p ∈ insK q ks ↔ p = q ∨ p ∈ ks
  | [] => by simp [insK]
  | k :: ks => by
    unfold insK
    split
    · simp
    · split
      · rename_i h; subst h; simp
      · have ih := mem_insK p q ks
        simp only [List.mem_cons, ih]
        constructor
        · rintro (h | h | h)
          · exact .inr (.inl h)
          · exact .inl h
          · exact .inr (.inr h)
        · rintro (h | h | h)
          · exact .inr (.inl h)
          · exact .inl h
          · exact .inr (.inr h)
theorem up_insK (q : List UInt8) : ∀ {ks}, Up ks → Up (insK q ks)
  | [], _ => by simp [insK, Up]
  | k :: ks, h => by
    have h' := List.pairwise_cons.1 h
    unfold insK
    split
    · rename_i hl
      refine List.pairwise_cons.2 ⟨fun y hy => ?_, h⟩
      rcases List.mem_cons.1 hy with e | e
      · subst e; exact hl
      · exact Q9.less_trans hl (h'.1 y e)
    · split
      · exact h
      · rename_i hl hne
        refine List.pairwise_cons.2 ⟨fun y hy => ?_, up_insK q h'.2⟩
        rcases (mem_insK y q ks).1 hy with e | e
        · subst e; exact Q9.less_total (by simpa using hl) hne
        · exact h'.1 y e
theorem mem_keys (a b : List ((List UInt8) × (Bool × ((List UInt8) × (Int × Int))))) (q : List UInt8) : q ∈ keysL a b ↔ ((∃ e ∈ a, e.1 = q) ∨ ∃ e ∈ b, e.1 = q) := by
  have : ∀ l : List ((List UInt8) × (Bool × ((List UInt8) × (Int × Int)))), q ∈ l.foldr (fun e ks => insK e.1 ks) [] ↔ ∃ e ∈ l, e.1 = q := by
    intro l
    induction l with
    | nil => simp
    | cons e l ih =>
      rw [List.foldr_cons, mem_insK, ih]
      constructor
      · rintro (h | ⟨x, h, k⟩)
        · exact ⟨e, by simp, h.symm⟩
        · exact ⟨x, by simp [h], k⟩
      · rintro ⟨x, h, k⟩
        rcases List.mem_cons.1 h with e' | e'
        · subst e'; exact .inl k.symm
        · exact .inr ⟨x, e', k⟩
  unfold keysL
  rw [this]
  constructor
  · rintro ⟨e, h, k⟩
    rcases List.mem_append.1 h with h | h
    · exact .inl ⟨e, h, k⟩
    · exact .inr ⟨e, h, k⟩
  · rintro (⟨e, h, k⟩ | ⟨e, h, k⟩)
    · exact ⟨e, List.mem_append.2 (.inl h), k⟩
    · exact ⟨e, List.mem_append.2 (.inr h), k⟩
theorem up_keys (a b : List ((List UInt8) × (Bool × ((List UInt8) × (Int × Int))))) : Up (keysL a b) := by
  unfold keysL
  induction a ++ b with
  | nil => exact List.Pairwise.nil
  | cons e l ih => exact up_insK e.1 ih
theorem getL_some {l : List ((List UInt8) × (Bool × ((List UInt8) × (Int × Int))))} {q : List UInt8} {e : (List UInt8) × (Bool × ((List UInt8) × (Int × Int)))} (h : getL l q = some e) : e ∈ l ∧ e.1 = q := by
  unfold getL at h
  have h1 := List.mem_of_find?_eq_some h
  have h2 := List.find?_some h
  exact ⟨List.mem_reverse.1 h1, by simpa using h2⟩
theorem getL_none {l : List ((List UInt8) × (Bool × ((List UInt8) × (Int × Int))))} {q : List UInt8} : getL l q = none ↔ ∀ e ∈ l, e.1 ≠ q := by
  unfold getL
  rw [List.find?_eq_none]
  simp
theorem allM_map {a b : List ((List UInt8) × (Bool × ((List UInt8) × (Int × Int))))} : ∀ {ks es}, allM a b ks = some es → es.map (·.1) = ks ∧ ∀ p ∈ es, oneM a b p.1 = some p.2
  | [], es, h => by cases h; exact ⟨rfl, fun p hp => by cases hp⟩
  | q :: ks, es, h => by
    simp only [allM, Option.bind_eq_some_iff, Option.map_eq_some_iff] at h
    obtain ⟨e, he, es', hes, rfl⟩ := h
    obtain ⟨h1, h2⟩ := allM_map hes
    refine ⟨by rw [List.map_cons, h1], fun p hp => ?_⟩
    rcases List.mem_cons.1 hp with e' | e'
    · subst e'; exact he
    · exact h2 p e'
end Go.Proofs.W.Q10
namespace Go.Proofs.W.Q10
open Go Go.Proofs Go.Proofs.V Go.Proofs.V.U10 Go.Proofs.V.R10 Go.Proofs.W Go.RowKit
set_option linter.unusedVariables false
set_option linter.unusedSimpArgs false
set_option maxRecDepth 100000
noncomputable def coM (a b : V.R10.En) : V.R10.En × Bool :=
  match recon_come (a.1, (a.2.1, (a.2.2.1, (a.2.2.2.1, (a.2.2.2.2, (b.1, (b.2.1, (b.2.2.1, (b.2.2.2.1, b.2.2.2.2))))))))) with
  | some r => ((r.1, (r.2.1, (r.2.2.1, (r.2.2.2.1, r.2.2.2.2.1)))), r.2.2.2.2.2)
  | none => (zeroE, false)
noncomputable def mayM (l : List V.R10.En) : Int := (recon_may l).getD 0
theorem one_join {a b : List V.R10.En} {q : List UInt8} {e : V.R10.En × Bool} (h : oneM a b q = some e) : joinG coM (gR a) (gR b) q = some e.1 ∧ confG coM (gR a) (gR b) q = e.2 := by
  unfold oneM at h
  have e1 : gR a q = getL a q := rfl
  have e2 : gR b q = getL b q := rfl
  unfold joinG confG
  rw [e1, e2]
  cases h1 : getL a q with
  | none =>
    cases h2 : getL b q with
    | none => rw [h1, h2] at h; cases h
    | some y => rw [h1, h2] at h; cases h; exact ⟨rfl, rfl⟩
  | some x =>
    cases h2 : getL b q with
    | none => rw [h1, h2] at h; cases h; exact ⟨rfl, rfl⟩
    | some y =>
      rw [h1, h2] at h
      simp only [Option.map_eq_some_iff] at h
      obtain ⟨r, hr, rfl⟩ := h
      dsimp only
      unfold coM
      rw [hr]
      exact ⟨rfl, rfl⟩
theorem join_some {a b : List V.R10.En} {q : List UInt8} : (joinG coM (gR a) (gR b) q).isSome = true ↔ q ∈ keysL a b := by
  rw [mem_keys]
  have e1 : gR a q = getL a q := rfl
  have e2 : gR b q = getL b q := rfl
  unfold joinG
  rw [e1, e2]
  cases h2 : getL b q with
  | none =>
    cases h1 : getL a q with
    | none =>
      have k1 := getL_none.1 h1
      have k2 := getL_none.1 h2
      simp only [Option.isSome_none, Bool.false_eq_true, false_iff]
      rintro (⟨e, h, k⟩ | ⟨e, h, k⟩)
      · exact k1 e h k
      · exact k2 e h k
    | some x => exact iff_of_true rfl (.inl ⟨x, getL_some h1⟩)
  | some y =>
    have : ∃ e ∈ b, e.1 = q := ⟨y, getL_some h2⟩
    cases h1 : getL a q with
    | none => exact iff_of_true rfl (.inr this)
    | some x => exact iff_of_true rfl (.inr this)
theorem conf_key {a b : List V.R10.En} {q : List UInt8} (h : confG coM (gR a) (gR b) q = true) : q ∈ keysL a b := by
  rw [mem_keys]
  have e1 : gR a q = getL a q := rfl
  unfold confG at h
  rw [e1] at h
  cases h1 : getL a q with
  | none => rw [h1] at h; cases h
  | some x => exact .inl ⟨x, getL_some h1⟩
theorem merge_calls {w : World} {v1 v2 : Value} {l1 l2 : List V.R10.En} {y : List V.R10.En × (List (List UInt8) × Int)} (s1 : Sl w v1 l1) (s2 : Sl w v2 l2) (hy : recon_Merge (l1, l2) = some y) :
    Calls Tryz.prog 13 #[v1, v2] w fun e w' => ∃ vo vc, e = .returned (.tuple #[vo, vc, .int .i64 y.2.2]) ∧ Below w.heap.size w w' ∧ w'.ownsRow w.heap.size 34 5 vo y.1.length (y.1.flatMap cellsE) ∧ w'.ownsRow w.heap.size 9 1 vc y.2.1.length (y.2.1.map encStr) ∧ (y.1 = [] → vo = .slice none 0 0) ∧ (y.2.1 = [] → vc = .slice none 0 0) := by
  unfold recon_Merge at hy
  dsimp only at hy
  split at hy
  case isFalse => cases hy
  rename_i hb
  simp only [Bool.and_eq_true, decide_eq_true_eq, List.all_eq_true] at hb
  obtain ⟨⟨⟨b1, b2⟩, p1⟩, p2⟩ := hb
  obtain ⟨r1, hr1, hy⟩ := Option.bind_eq_some_iff.1 hy
  obtain ⟨r2, hr2, hy⟩ := Option.bind_eq_some_iff.1 hy
  have hmx : ∀ n, n ≤ 1000000 → n ≤ maxLen := fun n h => by unfold maxLen; omega
  have hright : ∀ v r wr, ((v = v1 ∧ r = r1) ∨ (v = v2 ∧ r = r2)) → Below w.heap.size w wr → Calls Tryz.prog 25 #[v] wr fun e w' => e = .returned (.bool r) ∧ Below w.heap.size w w' := by
    intro v r wr hv hb
    rcases hv with ⟨rfl, rfl⟩ | ⟨rfl, rfl⟩
    · exact (right_calls (s1.below hb) hr1).mono fun e w' h => ⟨h.1, below_trans hb h.2⟩
    · exact (right_calls (s2.below hb) hr2).mono fun e w' h => ⟨h.1, below_trans hb h.2⟩
  split at hy
  case isFalse =>
    rename_i hr
    cases hy
    have hr' : ¬ (r1 = true ∧ r2 = true) := by simpa using hr
    -- the error
    cases r1 with
    | false =>
      go_enter Tryz.func13, Tryz.ntmps13
      go_wp2_with (first
        | (go_at_call 25; refine (hright _ false _ (by first | exact .inl ⟨rfl, rfl⟩ | exact .inr ⟨rfl, rfl⟩) (Below.refl _ _)).mono ?_; rintro e w0 ⟨rfl, hb0⟩))
      go_ret3
      exact ⟨_, _, rfl, hb0, World.ownsRow_nil _ _ _ _, World.ownsRow_nil _ _ _ _, fun _ => rfl, fun _ => rfl⟩
    | true =>
      cases r2 with
      | true => exact absurd ⟨rfl, rfl⟩ hr'
      | false =>
        have m1 : True := trivial
        go_enter Tryz.func13, Tryz.ntmps13
        go_wp2_with (first
          | (go_at_call 25; clear m1; refine (hright _ true _ (by exact .inl ⟨rfl, rfl⟩) (Below.refl _ _)).mono ?_; rintro e w0 ⟨rfl, hb0⟩)
          | (go_at_call 25; refine (hright _ false _ (by exact .inr ⟨rfl, rfl⟩) hb0).mono ?_; rintro e w1 ⟨rfl, hb1⟩))
        go_ret3
        exact ⟨_, _, rfl, hb1, World.ownsRow_nil _ _ _ _, World.ownsRow_nil _ _ _ _, fun _ => rfl, fun _ => rfl⟩
  case isTrue =>
    rename_i hr
    obtain ⟨hra, hrb⟩ : r1 = true ∧ r2 = true := by simpa using hr
    obtain ⟨es, hes, hy⟩ := Option.bind_eq_some_iff.1 hy
    obtain ⟨err, herr, hy⟩ := Option.bind_eq_some_iff.1 hy
    obtain ⟨hk, hone⟩ := allM_map hes
    have hlook : ∀ p ∈ es, lookE (joinG coM (gR l1) (gR l2)) p.1 = p.2.1 := fun p hp => by
      unfold lookE
      rw [(one_join (hone p hp)).1]
      rfl
    have hmap : (keysL l1 l2).map (fun q => lookE (joinG coM (gR l1) (gR l2)) q) = es.map fun e => e.2.1 := by
      rw [← hk, List.map_map]
      exact List.map_congr_left fun p hp => hlook p hp
    have hkeys : ∀ ks : List (List UInt8), ks.Pairwise (fun x y => leB x y = true) → ks.Nodup → (∀ q, q ∈ ks ↔ (joinG coM (gR l1) (gR l2) q).isSome = true) → ks = keysL l1 l2 := fun ks k1 k2 k3 =>
      up_eq (up_of k1 k2) (up_keys l1 l2) fun q => by rw [k3, join_some]
    have hmay : mayM (es.map fun e => e.2.1) = err := by unfold mayM; rw [herr]; rfl
    have H : MHyp w v1 v2 l1 l2 r1 r2 coM mayM :=
      { s1 := s1, s2 := s2, n1 := b1, n2 := b2, p1 := fun e he => hmx _ (p1 e he), p2 := fun e he => hmx _ (p2 e he)
        right := hright
        come := fun q a b ha hb wr => by
          have hq : q ∈ keysL l1 l2 := join_some.1 (by unfold joinG; rw [ha, hb]; rfl)
          rw [← hk] at hq
          obtain ⟨p, hp, rfl⟩ := List.mem_map.1 hq
          have h1 := hone p hp
          have e1 : getL l1 p.1 = some a := ha
          have e2 : getL l2 p.1 = some b := hb
          unfold oneM at h1
          rw [e1, e2] at h1
          obtain ⟨r, hr, h1⟩ := Option.map_eq_some_iff.1 h1
          unfold coM
          rw [hr]
          exact come_calls hr
        may := fun ks k1 k2 k3 v wr hs => by
          have := hkeys ks k1 k2 k3
          subst this
          rw [hmap] at hs ⊢
          rw [hmay]
          exact may_calls hs herr }
    refine (merge_walk w v1 v2 l1 l2 r1 r2 coM mayM H hra hrb).mono ?_
    rintro e w' ⟨hbel, ks, k1, k2, k3, hres⟩
    have := hkeys ks k1 k2 k3
    subst this
    rw [hmap, hmay] at hres
    rcases hres with ⟨hne, rfl⟩ | ⟨he, vo, vc, cs, rfl, ho, hc, c1, c2, c3, _, n1, n2⟩
    · rw [if_neg (by simpa using hne)] at hy
      cases hy
      exact ⟨_, _, rfl, hbel, World.ownsRow_nil _ _ _ _, World.ownsRow_nil _ _ _ _, fun _ => rfl, fun _ => rfl⟩
    · rw [if_pos (by simpa using he)] at hy
      cases hy
      have hcs : cs = (es.filter fun e => e.2.2).map (·.1) := by
        refine up_eq (up_of c1 c2) ?_ fun q => ?_
        · have h1 := up_keys l1 l2
          rw [← hk] at h1
          exact List.Pairwise.sublist (List.Sublist.map _ List.filter_sublist) h1
        · rw [c3, List.mem_map]
          constructor
          · intro h
            have hq := conf_key h
            rw [← hk] at hq
            obtain ⟨p, hp, rfl⟩ := List.mem_map.1 hq
            rw [(one_join (hone p hp)).2] at h
            exact ⟨p, List.mem_filter.2 ⟨hp, h⟩, rfl⟩
          · rintro ⟨p, hp, rfl⟩
            obtain ⟨hp, h⟩ := List.mem_filter.1 hp
            rw [(one_join (hone p hp)).2]
            exact h
      subst hcs
      have hlen : (keysL l1 l2).length = (es.map fun e => e.2.1).length := by rw [← hk]; simp
      rw [hlen] at ho
      refine ⟨vo, vc, rfl, hbel, ho, hc, fun e => n1 ?_, n2⟩
      rw [← hk]
      have : es = [] := by simpa using e
      rw [this]; rfl
end Go.Proofs.W.Q10
namespace Go.Proofs.W.Q10
open Go Go.Proofs Go.Proofs.V Go.Proofs.V.U10 Go.Proofs.V.R10 Go.Proofs.W Go.RowKit
set_option linter.unusedVariables false
set_option linter.unusedSimpArgs false
set_option maxRecDepth 100000
theorem no_tup {cs : List AV} (h : ∀ x ∈ cs, (∃ u, x = .at u) ∨ ∃ rows nl, x = .slice rows nl .no) : ∀ x ∈ parts (.tup cs), ∀ rows nl o, x = .slice rows nl o → o = .no := by
  intro x hx rows nl o e
  subst e
  rcases h _ hx with ⟨u, hu⟩ | ⟨rows', nl', hu⟩
  · cases hu
  · cases hu; rfl
noncomputable def mergeExt : List AV → Option AV
  | [.slice r1 _ _, .slice r2 _ _] => (decL reE r1).bind fun l1 => (decL reE r2).bind fun l2 => (recon_Merge (l1, l2)).map fun y =>
      .tup [.slice (y.1.map (encR reE)) y.1.isEmpty .no, .slice (y.2.1.map (encR (.one .str))) y.2.1.isEmpty .no, I64 y.2.2]
  | _ => none
theorem merge_csound {xs : List AV} {r : AV} (h : mergeExt xs = some r) : CSound Tryz.prog 13 xs [] r [] := by
  unfold mergeExt at h
  split at h
  case h_2 => cases h
  rename_i r1 nl1 o1 r2 nl2 o2
  obtain ⟨l1, hd1, h⟩ := Option.bind_eq_some_iff.1 h
  obtain ⟨l2, hd2, h⟩ := Option.bind_eq_some_iff.1 h
  obtain ⟨y, hy, rfl⟩ := Option.map_eq_some_iff.1 h
  refine csound_walk Tryz.func13 rfl (by kernel_rfl) (no_tup fun x hx => ?_) ?_
  · simp at hx
    rcases hx with rfl | rfl | rfl
    · exact .inr ⟨_, _, rfl⟩
    · exact .inr ⟨_, _, rfl⟩
    · exact .inl ⟨_, rfl⟩
  · intro w E vs hl hR
    rcases vs with _ | ⟨v1, _ | ⟨v2, _ | ⟨_, _⟩⟩⟩ <;> first | (simp at hl; done) | skip
    have s1 := sl_of_R1 (hR 0 _ _ rfl rfl) hd1
    have s2 := sl_of_R1 (hR 1 _ _ rfl rfl) hd2
    refine (merge_calls s1 s2 hy).mono ?_
    rintro e w' ⟨vo, vc, rfl, hb, ho, hc, n1, n2⟩
    refine ⟨_, rfl, hb, R1.tup _ [vo, vc, .int .i64 y.2.2] rfl fun j x v hx hv => ?_⟩
    match j with
    | 0 => cases hx; cases hv; exact new_E ho n1
    | 1 => cases hx; cases hv; exact new_ss hc n2
    | 2 => cases hx; cases hv; exact .at _
    | j + 3 => simp at hx
theorem dec_sl {x : List V.R10.En} {a : AV} (h : WR Ono g0 (cellW (.sl reE) x) a) : ∃ rows nl o, a = .slice rows nl o ∧ decL reE rows = some x := by
  cases h with
  | sl _ _ _ rows nl own h ho => exact ⟨rows, nl, own, rfl, decL_of reE rfl _ _ h.1⟩
theorem cell_E (l : List V.R10.En) : WR Ono g0 (cellW (.sl reE) l) (.slice (l.map (encR reE)) l.isEmpty .no) := sl_args fun h => by simpa using h
theorem cell_ss (l : List (List UInt8)) : WR Ono g0 (cellW (.sl (.one .str)) l) (.slice (l.map (encR (.one .str))) l.isEmpty .no) := by
  refine .sl _ _ _ _ _ _ ⟨rows_enc (.one .str) rfl l, fun e => ?_⟩ rfl
  have : l = [] := by simpa using e
  rw [this]; rfl
theorem merge_at {r1 r2 : List (List AV)} {nl1 nl2 : Bool} {o1 o2 : V.Own} {l1 l2 : List V.R10.En} {y : List V.R10.En × (List (List UInt8) × Int)} (d1 : decL reE r1 = some l1) (d2 : decL reE r2 = some l2) (h : recon_Merge (l1, l2) = some y) :
    mergeExt [.slice r1 nl1 o1, .slice r2 nl2 o2] = some (.tup [.slice (y.1.map (encR reE)) y.1.isEmpty .no, .slice (y.2.1.map (encR (.one .str))) y.2.1.isEmpty .no, I64 y.2.2]) := by
  unfold mergeExt
  dsimp only
  rw [d1, d2, Option.bind_some, Option.bind_some, h]
  rfl
variable {z : Nat → Option (List AV → Option AV)}
theorem s_recon_Merge (hz : z 13 = some mergeExt) : FSound (cfgZ z) ⟨⟨13, [.c (.sl reE), .c (.sl reE)], [.c (.sl reE), .c (.sl (.one .str)), .c (.int .i64)]⟩, recon_Merge⟩ := by
  rintro ⟨l1, l2⟩ y hxy xs ha
  have hxy : recon_Merge (l1, l2) = some y := hxy
  obtain ⟨a1, a2, rfl, h1, h2⟩ := args2 (c1 := .sl reE) (c2 := .sl reE) ha
  obtain ⟨r1, nl1, o1, rfl, d1⟩ := dec_sl h1
  obtain ⟨r2, nl2, o2, rfl, d2⟩ := dec_sl h2
  refine ⟨_, ?_, [cellW (.sl reE) y.1, cellW (.sl (.one .str)) y.2.1, .int .i64 false y.2.2], [.slice (y.1.map (encR reE)) y.1.isEmpty .no, .slice (y.2.1.map (encR (.one .str))) y.2.1.isEmpty .no, I64 y.2.2], rfl, rfl, ⟨cell_E _, fun e => by cases e⟩, ⟨cell_ss _, fun e => by cases e⟩, ⟨.int _ _ _, fun e => by cases e⟩, trivial⟩
  have he : (cfgZ z).ext 13 = some mergeExt := hz
  unfold callQ
  rw [he]
  show mergeExt _ = _
  exact merge_at d1 d2 hxy
end Go.Proofs.W.Q10
namespace Go.Proofs.W.Q10
open Go Go.Proofs Go.Proofs.V Go.Proofs.V.U10 Go.Proofs.V.R10 Go.Proofs.W Go.RowKit
set_option linter.unusedVariables false
set_option linter.unusedSimpArgs false
set_option maxRecDepth 100000
theorem res_cx {b : Nat × Nat} {rv : AV} (h : ResR [.c (.cx .f64)] b rv) : ∀ S E v, R1 S E rv v → v = .complex .f64 b.1 b.2 := by
  obtain ⟨ws, vs, h1, rfl, h2⟩ := h
  have h1' : ws = [WV.cx .f64 false b.1 b.2] := by
    have : some ([WV.cx .f64 false b.1 b.2], ([] : List WV)) = some (ws, []) := h1
    cases this; rfl
  subst h1'
  rcases vs with _ | ⟨v, _ | ⟨_, _⟩⟩ <;> first | exact h2.elim | exact h2.2.elim | skip
  have := h2.1.1
  cases this
  intro S E u hu
  cases hu; rfl
def aggP (c : Int × Int) : AV := .agg [.at (.int .i64 c.1), .at (.int .i64 c.2)]
def wvP (c : Int × Int) : WV := .agg [.int .i64 false c.1, .int .i64 false c.2]
def valP (c : Int × Int) : Value := .agg #[.int .i64 c.1, .int .i64 c.2]
theorem wr_P (c : Int × Int) : WR Ono g0 (wvP c) (aggP c) := wr_agg ⟨.int _ _ _, .int _ _ _, trivial⟩
theorem r1_P (S : Addr → Option Value) (E : Nat → Option Nat) (c : Int × Int) : R1 S E (aggP c) (valP c) := by
  refine R1.agg (S := S) (E := E) [.at (.int .i64 c.1), .at (.int .i64 c.2)] [.int .i64 c.1, .int .i64 c.2] rfl (fun x hx => ?_) (fun j x v hx hv => ?_)
  · simp at hx; rcases hx with rfl | rfl <;> rfl
  · match j with
    | 0 => cases hx; cases hv; exact .at _
    | 1 => cases hx; cases hv; exact .at _
    | j + 2 => simp at hx
theorem r1_P_inv {S : Addr → Option Value} {E : Nat → Option Nat} {c : Int × Int} {v : Value} (h : R1 S E (aggP c) v) : v = valP c := val_R1 (u := valP c) rfl h
theorem noId_P (c : Int × Int) : NoId (aggP c) := by
  rintro n ⟨y, hy, rows', nl', rfl⟩
  simp [aggP, parts] at hy
theorem wr_P_inv {c : Int × Int} {a : AV} (h : WR Ono g0 (wvP c) a) : a = aggP c := by
  unfold wvP at h
  cases h with
  | agg _ xs hl h =>
    rcases xs with _ | ⟨a0, _ | ⟨a1, _ | ⟨a2, xs⟩⟩⟩ <;> first | (simp at hl; done) | skip
    have h0 := h 0 _ _ rfl rfl
    have h1 := h 1 _ _ rfl rfl
    cases h0; cases h1
    rfl
theorem of_calls {c : Int × Int} {z : Nat × Nat} {w : World} (hr : Q9.clock_Of c = some z) : Calls Tryz.prog 55 #[.agg #[.int .i64 c.1, .int .i64 c.2]] w fun e w' => e = .returned (.complex .f64 z.1 z.2) ∧ Below w.heap.size w w' := by
  refine calls_val (vs := [valP c]) (s_clock_Of (z := fun _ => none)) hr (xs := [aggP c]) ⟨[wvP c], rfl, wr_P c, trivial⟩ (by kernel_rfl) Tryz.func55 rfl (by kernel_rfl) (fun x hx => ?_) rfl (fun j x v hx hv => ?_) (fun rv h => res_cx h)
  · simp at hx; subst hx; exact noId_P _
  · match j with
    | 0 => cases hx; cases hv; exact r1_P _ _ _
    | j + 1 => simp at hx
theorem tick_calls {z y : Nat × Nat} {n : Int} {w : World} (hr : Q9.clock_Tick (z, n) = some y) : Calls Tryz.prog 54 #[.complex .f64 z.1 z.2, .int .i64 n] w fun e w' => e = .returned (.complex .f64 y.1 y.2) ∧ Below w.heap.size w w' := by
  refine calls_val (vs := [.complex .f64 z.1 z.2, .int .i64 n]) (s_clock_Tick (z := fun _ => none)) hr (xs := [.at (.complex .f64 z.1 z.2), .at (.int .i64 n)]) ⟨[.cx .f64 false z.1 z.2, .int .i64 false n], rfl, .cx _ _ _ _, .int _ _ _, trivial⟩ (by kernel_rfl) Tryz.func54 rfl (by kernel_rfl) (fun x hx => ?_) rfl (fun j x v hx hv => ?_) (fun rv h => res_cx h)
  · simp at hx; rcases hx with rfl | rfl <;> exact noId_at _
  · match j with
    | 0 => cases hx; cases hv; exact .at _
    | 1 => cases hx; cases hv; exact .at _
    | j + 2 => simp at hx
theorem pair_calls {z : Nat × Nat} {c : Int × Int} {w : World} (hr : Q9.clock_Pair z = some c) : Calls Tryz.prog 53 #[.complex .f64 z.1 z.2] w fun e w' => e = .returned (.agg #[.int .i64 c.1, .int .i64 c.2]) ∧ Below w.heap.size w w' := by
  refine calls_val (vs := [.complex .f64 z.1 z.2]) (s_clock_Pair (z := fun _ => none)) hr (xs := [.at (.complex .f64 z.1 z.2)]) ⟨[.cx .f64 false z.1 z.2], rfl, .cx _ _ _ _, trivial⟩ (by kernel_rfl) Tryz.func53 rfl (by kernel_rfl) (fun x hx => ?_) rfl (fun j x v hx hv => ?_) (fun rv h => ?_)
  · simp at hx; subst hx; exact noId_at _
  · match j with
    | 0 => cases hx; cases hv; exact .at _
    | j + 1 => simp at hx
  · obtain ⟨ws, vs, h1, rfl, h2⟩ := h
    have h1' : ws = [wvP c] := by
      have : some ([wvP c], ([] : List WV)) = some (ws, []) := h1
      cases this; rfl
    subst h1'
    rcases vs with _ | ⟨v, _ | ⟨_, _⟩⟩ <;> first | exact h2.elim | exact h2.2.elim | skip
    have e1 := wr_P_inv h2.1.1
    subst e1
    intro S E u hu
    exact r1_P_inv hu
theorem find_calls {v : Value} {l : List V.R10.En} {p : List UInt8} {r : Int} {w : World} (hs : Sl w v l) (hr : Q9.scan_Find (l, p) = some r) : Calls Tryz.prog 27 #[v, .string ⟨⟨p⟩⟩] w fun e w' => e = .returned (.int .i64 r) ∧ Below w.heap.size w w' := by
  obtain ⟨nl, h1, _, h2⟩ := cells_sl hs
  refine calls_val (vs := [v, .string ⟨⟨p⟩⟩]) (s_scan_Find (z := fun _ => none)) (x := (l, p)) hr (xs := [.slice (l.map (encR reE)) nl .no, .at (.string ⟨⟨p⟩⟩)]) ⟨[cellW (.sl reE) l, .str false p], rfl, sl_args h1, .str _ _, trivial⟩ (by kernel_rfl) Tryz.func27 rfl (by kernel_rfl) (fun x hx => ?_) rfl (fun j x v hx hv => ?_) (fun rv h => res_int h)
  · simp at hx; rcases hx with rfl | rfl
    · exact noId_sl _ _
    · exact noId_at _
  · match j with
    | 0 => cases hx; cases hv; exact h2
    | 1 => cases hx; cases hv; exact .at _
    | j + 2 => simp at hx
theorem cont_calls {v : Value} {cs : List (List UInt8)} {p : List UInt8} {r : Bool} {w : World} (hs : R1 (cellsOf w) noE (.slice (cs.map (encR (.one .str))) cs.isEmpty .no) v) (hr : slices_Contains_string (cs, p) = some r) : Calls Tryz.prog 50 #[v, .string ⟨⟨p⟩⟩] w fun e w' => e = .returned (.bool r) ∧ Below w.heap.size w w' := by
  refine calls_val (vs := [v, .string ⟨⟨p⟩⟩]) (s_slices_Contains_string (z := fun _ => none)) (x := (cs, p)) hr (xs := [.slice (cs.map (encR (.one .str))) cs.isEmpty .no, .at (.string ⟨⟨p⟩⟩)]) ⟨[cellW (.sl (.one .str)) cs, .str false p], rfl, cell_ss cs, .str _ _, trivial⟩ (by kernel_rfl) Tryz.func50 rfl (by kernel_rfl) (fun x hx => ?_) rfl (fun j x v hx hv => ?_) (fun rv h => res_bool h)
  · simp at hx; rcases hx with rfl | rfl
    · exact noId_sl _ _
    · exact noId_at _
  · match j with
    | 0 => cases hx; cases hv; exact hs
    | 1 => cases hx; cases hv; exact .at _
    | j + 2 => simp at hx
theorem find_lt {x : Int} {n : Nat} (h0 : ¬ x < 0) (hn : x.toNat = n) : x = (n : Int) := by omega
theorem joined_path {a b y : V.R10.En} (h : recon_joined (a.1, (a.2.1, (a.2.2.1, (a.2.2.2.1, (a.2.2.2.2, (b.1, (b.2.1, (b.2.2.1, (b.2.2.2.1, b.2.2.2.2))))))))) = some y) : y.1 = a.1 ∧ y.2.1 = a.2.1 ∧ y.2.2.1 = a.2.2.1 := by
  unfold recon_joined at h
  obtain ⟨_, _, h⟩ := Option.bind_eq_some_iff.1 h
  obtain ⟨_, _, h⟩ := Option.bind_eq_some_iff.1 h
  obtain ⟨_, _, h⟩ := Option.bind_eq_some_iff.1 h
  obtain ⟨_, _, h⟩ := Option.bind_eq_some_iff.1 h
  cases h; exact ⟨rfl, rfl, rfl⟩
theorem settle_calls {w : World} {v1 v2 : Value} {l1 l2 : List V.R10.En} {p : List UInt8} {take : Bool} {n : Int} {y : List V.R10.En × Int} (s1 : Sl w v1 l1) (s2 : Sl w v2 l2) (hy : recon_Settle (l1, (l2, (p, (take, n)))) = some y) :
    Calls Tryz.prog 22 #[v1, v2, .string ⟨⟨p⟩⟩, .bool take, .int .i64 n] w fun e w' => ∃ vo, e = .returned (.tuple #[vo, .int .i64 y.2]) ∧ Below w.heap.size w w' ∧ w'.ownsRow w.heap.size 34 5 vo y.1.length (y.1.flatMap cellsE) ∧ (y.1 = [] → vo = .slice none 0 0) := by
  unfold recon_Settle at hy
  dsimp only at hy
  obtain ⟨m, hm, hy⟩ := Option.bind_eq_some_iff.1 hy
  have hmc := merge_calls s1 s2 hm
  by_cases h0 : m.2.2 = 0
  · rw [if_pos (by simpa using h0)] at hy
    obtain ⟨is, his, hy⟩ := Option.bind_eq_some_iff.1 hy
    have hmb : Calls Tryz.prog 13 #[v1, v2] w fun e w' => ∃ vm vc, e = .returned (.tuple #[vm, vc, .int .i64 0]) ∧ Below w.heap.size w w' ∧ ∀ wr, Below w'.heap.size w' wr → Calls Tryz.prog 50 #[vc, .string ⟨⟨p⟩⟩] wr fun e w2 => e = .returned (.bool is) ∧ Below wr.heap.size wr w2 := by
      refine hmc.mono ?_
      rintro e w' ⟨vo, vc, rfl, hb, ho, hc, n1, n2⟩
      rw [h0]
      exact ⟨vo, vc, rfl, hb, fun wr hwr => cont_calls (cells_ss (hc.kept (grown_of hwr) (apart_none _)) n2) his⟩
    cases is with
    | false =>
      cases hy
      refine (settle_none w v1 v2 p take n hmb).mono ?_
      rintro e w' ⟨rfl, hb⟩
      exact ⟨_, rfl, hb, World.ownsRow_nil _ _ _ _, fun _ => rfl⟩
    | true =>
      rw [if_pos rfl] at hy
      obtain ⟨k1, hk1, hy⟩ := Option.bind_eq_some_iff.1 hy
      obtain ⟨k2, hk2, hy⟩ := Option.bind_eq_some_iff.1 hy
      split at hy
      · cases hy
      rename_i g1
      split at hy
      · cases hy
      rename_i g2
      obtain ⟨e1, he1, hy⟩ := Option.bind_eq_some_iff.1 hy
      obtain ⟨e2, he2, hy⟩ := Option.bind_eq_some_iff.1 hy
      obtain ⟨j, hj, hy⟩ := Option.bind_eq_some_iff.1 hy
      obtain ⟨z, hz, hy⟩ := Option.bind_eq_some_iff.1 hy
      obtain ⟨t, ht, hy⟩ := Option.bind_eq_some_iff.1 hy
      obtain ⟨c, hc, hy⟩ := Option.bind_eq_some_iff.1 hy
      obtain ⟨err, herr, hy⟩ := Option.bind_eq_some_iff.1 hy
      have hjp := joined_path hj
      have hb := hm
      unfold recon_Merge at hb
      dsimp only at hb
      split at hb
      case isFalse => cases hb
      rename_i hbb
      simp only [Bool.and_eq_true, decide_eq_true_eq, List.all_eq_true] at hbb
      have hj1 := find_lt g1 rfl
      have hj2 := find_lt g2 rfl
      have H : SHyp w v1 v2 l1 l2 p n k1.toNat k2.toNat e1 e2 (j.2.2.2.1, j.2.2.2.2) z t c (l1.set k1.toNat (p, (if take then e2.2.1 else e1.2.1), (if take then e2.2.2.1 else e1.2.2.1), c)) err :=
        { s1 := s1, s2 := s2, n1 := hbb.1.1.1, n2 := hbb.1.1.2, h1 := he1, h2 := he2
          find := fun v k wr hv hb => by
            rcases hv with ⟨rfl, rfl⟩ | ⟨rfl, rfl⟩
            · exact find_calls (s1.below hb) (by rw [hk1, hj1]; rfl)
            · exact find_calls (s2.below hb) (by rw [hk2, hj2]; rfl)
          joined := fun wr => by
            refine (joined_calls hj).mono fun e w' h => ⟨?_, h.2⟩
            rw [h.1, ← hjp.1, ← hjp.2.1, ← hjp.2.2]
            rfl
          of := fun wr => of_calls hz
          tick := fun wr => tick_calls ht
          may := fun v wr hs => may_calls hs herr
          pair := fun wr => pair_calls hc }
      refine (settle_walk w v1 v2 l1 l2 p take n k1.toNat k2.toNat e1 e2 (j.2.2.2.1, j.2.2.2.2) z t c err H hmb).mono ?_
      rintro e w' ⟨hb, h⟩
      rcases h with ⟨hcc, rfl⟩ | ⟨hcc, hne, rfl⟩ | ⟨hcc, he, v, rfl, ho⟩
      · rw [if_pos hcc] at hy
        cases hy
        exact ⟨_, rfl, hb, World.ownsRow_nil _ _ _ _, fun _ => rfl⟩
      · rw [if_neg hcc, if_neg (by simpa using hne)] at hy
        cases hy
        exact ⟨_, rfl, hb, World.ownsRow_nil _ _ _ _, fun _ => rfl⟩
      · rw [if_neg hcc, if_pos (by simpa using he)] at hy
        cases hy
        refine ⟨v, rfl, hb, ?_, fun e => ?_⟩
        · rw [List.length_set]; exact ho
        · have h1 := congrArg List.length e
          have h2 := (List.getElem?_eq_some_iff.1 he1).1
          simp at h1
          rw [h1] at h2
          simp at h2
  · rw [if_neg (by simpa using h0)] at hy
    cases hy
    refine (settle_err w v1 v2 p take n m.2.2 h0 (hmc.mono ?_)).mono ?_
    · rintro e w' ⟨vo, vc, rfl, hb, _⟩
      exact ⟨vo, vc, rfl, hb⟩
    · rintro e w' ⟨rfl, hb⟩
      exact ⟨_, rfl, hb, World.ownsRow_nil _ _ _ _, fun _ => rfl⟩
noncomputable def settleExt : List AV → Option AV
  | [.slice r1 _ _, .slice r2 _ _, .at (.string p), .at (.bool t), .at (.int .i64 n)] => (decL reE r1).bind fun l1 => (decL reE r2).bind fun l2 => (recon_Settle (l1, (l2, (p.data.toList, (t, n))))).map fun y =>
      .tup [.slice (y.1.map (encR reE)) y.1.isEmpty .no, I64 y.2]
  | _ => none
theorem settle_csound {xs : List AV} {r : AV} (h : settleExt xs = some r) : CSound Tryz.prog 22 xs [] r [] := by
  unfold settleExt at h
  split at h
  case h_2 => cases h
  rename_i r1 nl1 o1 r2 nl2 o2 p t n
  obtain ⟨l1, hd1, h⟩ := Option.bind_eq_some_iff.1 h
  obtain ⟨l2, hd2, h⟩ := Option.bind_eq_some_iff.1 h
  obtain ⟨y, hy, rfl⟩ := Option.map_eq_some_iff.1 h
  refine csound_walk Tryz.func22 rfl (by kernel_rfl) (no_tup fun x hx => ?_) ?_
  · simp at hx
    rcases hx with rfl | rfl
    · exact .inr ⟨_, _, rfl⟩
    · exact .inl ⟨_, rfl⟩
  · intro w E vs hl hR
    rcases vs with _ | ⟨v1, _ | ⟨v2, _ | ⟨v3, _ | ⟨v4, _ | ⟨v5, _ | ⟨_, _⟩⟩⟩⟩⟩⟩ <;> first | (simp at hl; done) | skip
    have s1 := sl_of_R1 (hR 0 _ _ rfl rfl) hd1
    have s2 := sl_of_R1 (hR 1 _ _ rfl rfl) hd2
    have k3 := hR 2 _ _ rfl rfl
    have k4 := hR 3 _ _ rfl rfl
    have k5 := hR 4 _ _ rfl rfl
    cases k3; cases k4; cases k5
    have hp : (⟨⟨p.data.toList⟩⟩ : ByteArray) = p := rfl
    have := settle_calls s1 s2 hy
    rw [hp] at this
    refine this.mono ?_
    rintro e w' ⟨vo, rfl, hb, ho, n1⟩
    refine ⟨_, rfl, hb, R1.tup _ [vo, .int .i64 y.2] rfl fun j x v hx hv => ?_⟩
    match j with
    | 0 => cases hx; cases hv; exact new_E ho n1
    | 1 => cases hx; cases hv; exact .at _
    | j + 2 => simp at hx
theorem settle_at {r1 r2 : List (List AV)} {nl1 nl2 t : Bool} {o1 o2 : V.Own} {l1 l2 : List V.R10.En} {p : List UInt8} {n : Int} {y : List V.R10.En × Int} (d1 : decL reE r1 = some l1) (d2 : decL reE r2 = some l2) (h : recon_Settle (l1, (l2, (p, (t, n)))) = some y) :
    settleExt [.slice r1 nl1 o1, .slice r2 nl2 o2, .at (.string ⟨⟨p⟩⟩), .at (.bool t), .at (.int .i64 n)] = some (.tup [.slice (y.1.map (encR reE)) y.1.isEmpty .no, I64 y.2]) := by
  unfold settleExt
  dsimp only
  rw [d1, d2, Option.bind_some, Option.bind_some]
  show Option.map _ (recon_Settle (l1, (l2, (p, (t, n))))) = _
  rw [h]
  rfl
variable {z : Nat → Option (List AV → Option AV)}
theorem s_recon_Settle (hz : z 22 = some settleExt) : FSound (cfgZ z) ⟨⟨22, [.c (.sl reE), .c (.sl reE), .c .str, .c .bool, .c (.int .i64)], [.c (.sl reE), .c (.int .i64)]⟩, recon_Settle⟩ := by
  rintro ⟨l1, l2, p, t, n⟩ y hxy xs ha
  have hxy : recon_Settle (l1, (l2, (p, (t, n)))) = some y := hxy
  obtain ⟨ws, hf, hw⟩ := ha
  cases hf
  rcases xs with _ | ⟨a1, _ | ⟨a2, _ | ⟨a3, _ | ⟨a4, _ | ⟨a5, _ | ⟨_, _⟩⟩⟩⟩⟩⟩ <;> first | exact hw.elim | exact hw.2.elim | exact hw.2.2.elim | exact hw.2.2.2.elim | exact hw.2.2.2.2.elim | exact hw.2.2.2.2.2.elim | skip
  obtain ⟨r1, nl1, o1, rfl, d1⟩ := dec_sl hw.1
  obtain ⟨r2, nl2, o2, rfl, d2⟩ := dec_sl hw.2.1
  have k3 := hw.2.2.1
  have k4 := hw.2.2.2.1
  have k5 := hw.2.2.2.2.1
  cases k3; cases k4; cases k5
  refine ⟨_, ?_, [cellW (.sl reE) y.1, .int .i64 false y.2], [.slice (y.1.map (encR reE)) y.1.isEmpty .no, I64 y.2], rfl, rfl, ⟨cell_E _, fun e => by cases e⟩, ⟨.int _ _ _, fun e => by cases e⟩, trivial⟩
  have he : (cfgZ z).ext 22 = some settleExt := hz
  unfold callQ
  rw [he]
  show settleExt _ = _
  exact settle_at d1 d2 hxy
end Go.Proofs.W.Q10

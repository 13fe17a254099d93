/- States, read: state.Read. -/
import Derived.Test.YtdgihbbekacgcaaDoorT25
namespace Go.Proofs.V
open Go Go.Proofs Go.Proofs.V.Wire
set_option linter.unusedVariables false
set_option linter.unusedSimpArgs false
set_option maxRecDepth 100000
set_option maxHeartbeats 1000000
theorem fail67e (bs : BS) (a t : Nat) (e er : Int) (he : e ≠ 0) (R : List (List AV)) : evK cfg17 67 [.hp 0 0, I64 er, I64 (t : Nat)] (O bs a e :: R) = some (.tup [], O bs a e :: R) := by
  refine evK_of Tryd.func67 rfl (of_decide_eq_true (by kernel_rfl)) (by kernel_rfl) (by kernel_rfl) rfl ?_
  unfold Tryd.f67
  dsimp only
  refine aw_sk 10 (by kernel_rfl) ?_
  refine aw_cond (t := (e == 0)) (by kernel_rfl) (fun h => absurd (by simpa using h) he) (fun _ => ?_)
  refine aw_skip ?_
  exact ⟨.inl rfl, [], by kernel_rfl, by kernel_rfl, by kernel_rfl, by kernel_rfl⟩
theorem end36 (bs : BS) (a : Nat) (e : Int) (R : List (List AV)) (ha : a ≤ bs.length) : ∃ (a' : Nat) (e' : Int), evK cfg17 36 [.hp 0 0] (O bs a e :: R) = some (I64 e', O bs a' e' :: R) ∧ (e' = 0 ↔ e = 0 ∧ a = bs.length) := by
  have hfail : ∃ (a' : Nat) (e' : Int), evK cfg17 67 [.hp 0 0, I64 4, I64 (a : Nat)] (O bs a e :: R) = some (.tup [], O bs a' e' :: R) ∧ e' ≠ 0 := by
    by_cases he : e = 0
    · subst he; exact ⟨a, 4, fail67 bs a a 4 R, by decide⟩
    · exact ⟨a, e, fail67e bs a a e 4 he R, he⟩
  obtain ⟨a', e', hf, he'⟩ := hfail
  suffices h : ∃ r H', evK cfg17 36 [.hp 0 0] (O bs a e :: R) = some (r, H') ∧ ∃ (a' : Nat) (e' : Int), (r = I64 e' ∧ H' = O bs a' e' :: R) ∧ (e' = 0 ↔ e = 0 ∧ a = bs.length) by
    obtain ⟨r, H', h, a', e', ⟨rfl, rfl⟩, h1⟩ := h
    exact ⟨a', e', h, h1⟩
  refine evK_ofE (P := fun r H' => ∃ (a' : Nat) (e' : Int), (r = I64 e' ∧ H' = O bs a' e' :: R) ∧ (e' = 0 ↔ e = 0 ∧ a = bs.length)) Tryd.func36 rfl (of_decide_eq_true (by kernel_rfl)) (by kernel_rfl) (by kernel_rfl) rfl ?_
  unfold Tryd.f36
  dsimp only
  refine aw_sk 10 (by kernel_rfl) ?_
  refine aw_assoc (aw_sk 10 (by kernel_rfl) ?_)
  refine aw_sc (decide ((a : Int) < ((bsA bs).length : Int))) (by kernel_rfl) (fun h => ?_) (fun h => ?_)
  · have hlt := of_decide_eq_true h
    rw [bsA_len] at hlt
    refine aw_sr (ow_k 5 10 (by kernel_rfl) ?_)
    refine ow_callE0 (k := 67) (first := []) (captured := []) (xs := [.hp 0 0, I64 4, I64 (a : Nat)]) (r := .tup []) hf (by kernel_rfl) (by kernel_rfl) (by kernel_rfl) (by kernel_rfl) (by kernel_rfl) (by kernel_rfl) (by kernel_rfl) (by kernel_rfl) ?_
    refine ow_nil ?_
    refine aw_sk 10 (by kernel_rfl) ?_
    refine aw_ret ?_
    exact ⟨.inr rfl, [I64 e'], by kernel_rfl, by kernel_rfl, a', e', ⟨by kernel_rfl, by kernel_rfl⟩, ⟨fun h => absurd h he', fun h => by omega⟩⟩
  · have hge := of_decide_eq_false h
    rw [bsA_len] at hge
    refine aw_sskip (aw_sk 10 (by kernel_rfl) ?_)
    refine aw_ret ?_
    exact ⟨.inr rfl, [I64 e], by kernel_rfl, by kernel_rfl, a, e, ⟨by kernel_rfl, by kernel_rfl⟩, ⟨fun h => ⟨h, by omega⟩, fun h => h.1⟩⟩
theorem wireRead23 (b : BS) (hb0 : b ≠ []) (hb : b.length ≤ 1000000000) : evK cfg17 23 [.slice (bsA b) false .no] [] = some (.hp 0 0, [O b 0 0]) := by
  have hcl : callQ cfg17 (evK cfg17) 66 [.slice (bsA b) false .no] = some (.slice (bsA b) false .fresh) := by
    have h := clone66 (bsA b) false .no (bsA_all b) (by rw [bsA_len]; omega) (fun h => by cases h)
    cases b with
    | nil => exact absurd rfl hb0
    | cons x r => exact callQ_of (by kernel_rfl) h
  refine evK_of Tryd.func23 rfl (of_decide_eq_true (by kernel_rfl)) (by kernel_rfl) (by kernel_rfl) rfl ?_
  unfold Tryd.f23
  dsimp only
  refine aw_sk 10 (by kernel_rfl) ?_
  refine aw_sr (ow_k 1 10 (by kernel_rfl) ?_)
  refine ow_callG (k := 66) (first := []) (captured := []) (xs := [.slice (bsA b) false .no]) (r := .slice (bsA b) false .fresh) (by kernel_rfl) (by kernel_rfl) (by kernel_rfl) (by kernel_rfl) (by kernel_rfl) (by kernel_rfl) hcl (by kernel_rfl) (by kernel_rfl) ?_
  refine ow_all 10 (by kernel_rfl) ?_
  refine aw_ret ?_
  exact ⟨.inr rfl, [.hp 0 0], by kernel_rfl, by kernel_rfl, by kernel_rfl, by kernel_rfl⟩
/-- A state's slices as they are read. -/
def Can {α : Type} (l : List α) (nl : Bool) (o : Own) : Prop := (l = [] ∧ nl = true ∧ o = .full) ∨ (nl = false ∧ o = .no)
theorem can_of {α : Type} {l : List α} {nl : Bool} {o : Own} (h : RO l nl o) : Can l nl (finO o) := by
  rcases h with ⟨h1, h2, rfl⟩ | ⟨h1, rfl⟩
  · exact .inl ⟨h1, h2, rfl⟩
  · exact .inr ⟨h1, rfl⟩
theorem RO.ff {α : Type} {l : List α} {nl : Bool} {o : Own} (h : RO l nl o) : o = .full ∨ o = .fresh := by
  rcases h with ⟨_, _, h⟩ | ⟨_, h⟩
  · exact .inl h
  · exact .inr h
theorem Can.ok {α : Type} {l : List α} {nl : Bool} {o : Own} (h : Can l nl o) : OkO o := by
  rcases h with ⟨_, _, h⟩ | ⟨_, h⟩
  · exact .inr h
  · exact .inl h
structure CanZ (s : Stt) (z : Nl) : Prop where
  tree : Can s.2.1 z.tree z.treeO
  arch : Can s.2.2.1 z.arch z.archO
  own : Can s.2.2.2.2.1 z.own z.ownO
  shown : Can s.2.2.2.2.2.1 z.shown z.shownO
  theirs : Can s.2.2.2.2.2.2.2.2.1 z.theirs z.theirsO
  conf : Can s.2.2.2.2.2.2.2.2.2.1 z.conf z.confO
  waits : Can s.2.2.2.2.2.2.2.2.2.2.1 z.waits z.waitsO
theorem CanZ.ok {s : Stt} {z : Nl} (h : CanZ s z) : OkZ z := ⟨h.tree.ok, h.arch.ok, h.own.ok, h.shown.ok, h.theirs.ok, h.conf.ok, h.waits.ok⟩
theorem ok_small {s : Stt} (h : cSt.ok s) : Short s ∧ Tiny s := by
  obtain ⟨h1, h2, h3, h4, h5, h6, h7, h8, h9, h10, h11, h12⟩ := h
  have st : ∀ (m : Int) (x : BS), m ≤ 1000 → (str m).ok x → x.length ≤ 1000 := fun m x hm hx => by have := hx.1; omega
  have hfi : ∀ x ∈ s.2.1, x.1.length ≤ 1000 ∧ x.2.length ≤ 1000 := fun x hx => ⟨st _ _ (by decide) (h2.2.2 x hx).1, st _ _ (by decide) (h2.2.2 x hx).2⟩
  have e3 := h3.2.2; have e6 := h6.2.2; have e9 := h9.2.2
  have hen : ∀ x : En, cEn.ok x → x.1.length ≤ 1000 ∧ x.2.2.1.length ≤ 1000 := fun x hx => ⟨st _ _ (by decide) hx.1, st _ _ (by decide) hx.2.2.1⟩
  have k2 := h2.1; have k3 := h3.1; have k5 := h5.1; have k6 := h6.1; have k9 := h9.1; have k10 := h10.1; have k11 := h11.1
  exact ⟨⟨by omega, by omega, by omega, by omega, by omega, by omega, by omega⟩, hfi, fun x hx => hen x (e3 x hx), fun x hx => hen x (e6 x hx), fun x hx => hen x (e9 x hx), fun x hx => st _ _ (by decide) (h10.2.2 x hx), fun x hx => st _ _ (by decide) (h11.2.2 x hx).2⟩
def zeroC : List AV := [I64 0, nilS, nilS, I64 0, I64 0, I64 0, I64 0, nilS, nilS, BO false, I64 0, I64 0, I64 0, I64 0, nilS, nilS, nilS, BO false]
theorem nohp_st (s : Stt) (z : Nl) (x : Int) : nohp 9 (.tup [.agg (cellsSt s z), I64 x]) = true := by
  simp [nohp, cellsSt, rowFi, rowEn, rowN, rowS, rowPu]
theorem nohp_zero (x : Int) : nohp 9 (.tup [.agg zeroC, I64 x]) = true := by kernel_rfl
theorem callQ_nohp {cfg : Cfg} {f : Nat} {xs : List AV} {r : AV} {H : List (List AV)} (he : cfg.ext f = none) (h : evK cfg f xs [] = some (r, H)) (hn : nohp 9 r = true) : callQ cfg (evK cfg) f xs = some r := by
  unfold callQ
  simp only [he, h, hn, Bool.or_true, if_true]
theorem read10e : callQ cfg17 (evK cfg17) 10 [ST []] = some (.tup [.agg zeroC, I64 4]) := callQ_at 200 (by kernel_rfl)
set_option maxHeartbeats 4000000 in
theorem read10 (b : BS) (hb0 : b ≠ []) (hb : b.length ≤ 1000000000) : ∃ (s : Stt) (z : Nl) (a' : Nat) (e' : Int), CanZ s z ∧ Rds b cSt.dec s 0 0 a' e' ∧
    ((callQ cfg17 (evK cfg17) 10 [ST b] = some (.tup [.agg (cellsSt s z), I64 0]) ∧ e' = 0 ∧ a' = b.length ∧ RP s z) ∨ (callQ cfg17 (evK cfg17) 10 [ST b] = some (.tup [.agg zeroC, I64 4]) ∧ ¬ (e' = 0 ∧ a' = b.length ∧ RP s z))) := by
  obtain ⟨v0, a0, e0, h0, p0, _⟩ := num24 b 1 0 0 [] (Nat.zero_le _) hb
  obtain ⟨tr, n1, o1, a1, e1, h1, w1, p1⟩ := rows25 b 16 (by decide) a0 e0 [] p0.1 hb
  obtain ⟨ar, n2, o2, a2, e2, h2, w2, p2⟩ := rows27 b 32 (by decide) a1 e1 [] p1.1 hb
  obtain ⟨ch, a3, e3, h3, p3⟩ := cursor29 b a2 e2 p2.1 hb
  obtain ⟨ow, n4, o4, a4, e4, h4, w4, p4⟩ := rows30 b 200 (by decide) a3 e3 [cellsCu ch, cellsCu ch] p3.1 hb
  obtain ⟨sh, n5, o5, a5, e5, h5, w5, p5⟩ := rows27 b 32 (by decide) a4 e4 [cellsCu ch, cellsCu ch] p4.1 hb
  obtain ⟨tu, a6, e6, h6, p6⟩ := set32 b a5 e5 [cellsCu ch, cellsCu ch] p5.1 hb
  obtain ⟨pe, a7, e7, h7, p7⟩ := cursor29b b a6 e6 (cellsCu ch) (cellsCu ch) p6.1 hb
  obtain ⟨th, n8, o8, a8, e8, h8, w8, p8⟩ := rows27 b 32 (by decide) a7 e7 [cellsCu ch, cellsCu ch, cellsCu pe, cellsCu pe] p7.1 hb
  obtain ⟨co, n9, o9, a9, e9, h9, w9, p9⟩ := row33 b a8 e8 [cellsCu ch, cellsCu ch, cellsCu pe, cellsCu pe] p8.1 hb
  obtain ⟨wa, n10, o10, a10, e10, h10, w10, p10⟩ := rows34 b 200 (by decide) a9 e9 [cellsCu ch, cellsCu ch, cellsCu pe, cellsCu pe] p9.1 hb
  obtain ⟨ha, a11, e11, h11, p11⟩ := set32 b a10 e10 [cellsCu ch, cellsCu ch, cellsCu pe, cellsCu pe] p10.1 hb
  obtain ⟨a12, e12, h12, hend⟩ := end36 b a11 e11 [cellsCu ch, cellsCu ch, cellsCu pe, cellsCu pe] p11.1
  have hall : Rds b cSt.dec (v0, tr, ar, ch, ow, sh, tu, pe, th, co, wa, ha) 0 0 a11 e11 := Rds.prod (c := num 1) p0 (Rds.prod (c := list 16 cFi) p1 (Rds.prod (c := list 32 cEn) p2 (Rds.prod (c := cCu) p3 (Rds.prod (c := list 200 (num maxN)) p4 (Rds.prod (c := list 32 cEn) p5 (Rds.prod (c := Wire.bool) p6 (Rds.prod (c := cCu) p7 (Rds.prod (c := list 32 cEn) p8 (Rds.prod (c := list 32 (str 52)) p9 (Rds.prod (c := list 200 cPu) (d := Wire.bool) p10 p11))))))))))
  have hcan : CanZ (v0, tr, ar, ch, ow, sh, tu, pe, th, co, wa, ha) ⟨n1, n2, n4, n5, n8, n9, n10, finO o1, finO o2, finO o4, finO o5, finO o8, finO o9, finO o10⟩ := ⟨can_of w1, can_of w2, can_of w4, can_of w5, can_of w8, can_of w9, can_of w10⟩
  have hz := hcan.ok
  refine ⟨(v0, tr, ar, ch, ow, sh, tu, pe, th, co, wa, ha), ⟨n1, n2, n4, n5, n8, n9, n10, finO o1, finO o2, finO o4, finO o5, finO o8, finO o9, finO o10⟩, a11, e11, hcan, hall, ?_⟩
  suffices h : ∃ r H', evK cfg17 10 [ST b] [] = some (r, H') ∧ ((r = .tup [.agg (cellsSt (v0, tr, ar, ch, ow, sh, tu, pe, th, co, wa, ha) ⟨n1, n2, n4, n5, n8, n9, n10, finO o1, finO o2, finO o4, finO o5, finO o8, finO o9, finO o10⟩), I64 0] ∧ e11 = 0 ∧ a11 = b.length ∧ RP (v0, tr, ar, ch, ow, sh, tu, pe, th, co, wa, ha) ⟨n1, n2, n4, n5, n8, n9, n10, finO o1, finO o2, finO o4, finO o5, finO o8, finO o9, finO o10⟩) ∨ (r = .tup [.agg zeroC, I64 4] ∧ ¬ (e11 = 0 ∧ a11 = b.length ∧ RP (v0, tr, ar, ch, ow, sh, tu, pe, th, co, wa, ha) ⟨n1, n2, n4, n5, n8, n9, n10, finO o1, finO o2, finO o4, finO o5, finO o8, finO o9, finO o10⟩))) by
    obtain ⟨r, H', h, ⟨rfl, k⟩ | ⟨rfl, k⟩⟩ := h
    · exact .inl ⟨callQ_nohp (by kernel_rfl) h (nohp_st _ _ _), k⟩
    · exact .inr ⟨callQ_nohp (by kernel_rfl) h (nohp_zero 4), k⟩
  refine evK_ofE (P := fun r H' => ((r = .tup [.agg (cellsSt (v0, tr, ar, ch, ow, sh, tu, pe, th, co, wa, ha) ⟨n1, n2, n4, n5, n8, n9, n10, finO o1, finO o2, finO o4, finO o5, finO o8, finO o9, finO o10⟩), I64 0] ∧ e11 = 0 ∧ a11 = b.length ∧ RP (v0, tr, ar, ch, ow, sh, tu, pe, th, co, wa, ha) ⟨n1, n2, n4, n5, n8, n9, n10, finO o1, finO o2, finO o4, finO o5, finO o8, finO o9, finO o10⟩) ∨ (r = .tup [.agg zeroC, I64 4] ∧ ¬ (e11 = 0 ∧ a11 = b.length ∧ RP (v0, tr, ar, ch, ow, sh, tu, pe, th, co, wa, ha) ⟨n1, n2, n4, n5, n8, n9, n10, finO o1, finO o2, finO o4, finO o5, finO o8, finO o9, finO o10⟩)))) Tryd.func10 rfl (of_decide_eq_true (by kernel_rfl)) (by kernel_rfl) (by kernel_rfl) rfl ?_
  unfold Tryd.f10
  dsimp only
  refine aw_sk 10 (by kernel_rfl) ?_
  refine aw_sr (ow_k 2 10 (by kernel_rfl) ?_)
  refine ow_callE0 (k := 23) (first := []) (captured := []) (xs := [.slice (bsA b) false .no]) (r := .hp 0 0) (wireRead23 b hb0 hb) (by kernel_rfl) (by kernel_rfl) (by kernel_rfl) (by kernel_rfl) (by kernel_rfl) (by kernel_rfl) (by kernel_rfl) (by kernel_rfl) ?_
  refine ow_all 10 (by kernel_rfl) ?_
  refine aw_sr (ow_k 1 10 (by kernel_rfl) ?_)
  refine ow_callE0 (k := 24) (first := []) (captured := []) (xs := [.hp 0 0, I64 1]) (r := I64 v0) h0 (by kernel_rfl) (by kernel_rfl) (by kernel_rfl) (by kernel_rfl) (by kernel_rfl) (by kernel_rfl) (by kernel_rfl) (by kernel_rfl) ?_
  refine ow_all 10 (by kernel_rfl) ?_
  refine aw_abs 55 (O b a0 e0 :: []) (cfg17.heap 10) [(2, .box 0 zeroC), (4, .hp 0 0), (5, .box 576 [I64 v0, nilS, nilS, I64 0, I64 0, I64 0, I64 0, nilS, nilS, BO false, I64 0, I64 0, I64 0, I64 0, nilS, nilS, nilS, BO false])] (by kernel_rfl) (fun t2 c2 l2 => ?_)
  refine aw_sr (ow_k 1 10 (by kernel_rfl) ?_)
  refine ow_callEv (k := 25) (first := []) (captured := []) (xs := [.hp 0 0, I64 16, .fn (.func 26) [] []]) (r := .slice (tr.map rowFi) n1 o1) h1 (adopt_sl _ _ _ _) (by kernel_rfl) (by kernel_rfl) (by kernel_rfl) (by kernel_rfl) (by kernel_rfl) (by kernel_rfl) (by kernel_rfl) (by kernel_rfl) ?_
  refine ow_all 10 (by kernel_rfl) ?_
  refine aw_abs 55 (O b a1 e1 :: []) (cfg17.heap 10) [(2, .box 0 zeroC), (4, .hp 0 0), (5, .box 576 [I64 v0, .slice (tr.map rowFi) n1 (adO (c2 + 64 * 1) o1), nilS, I64 0, I64 0, I64 0, I64 0, nilS, nilS, BO false, I64 0, I64 0, I64 0, I64 0, nilS, nilS, nilS, BO false])] (by kernel_rfl) (fun t3 c3 l3 => ?_)
  refine aw_sr (ow_k 1 10 (by kernel_rfl) ?_)
  refine ow_callEv (k := 27) (first := []) (captured := []) (xs := [.hp 0 0, I64 32, .fn (.func 28) [] []]) (r := .slice (ar.map rowEn) n2 o2) h2 (adopt_sl _ _ _ _) (by kernel_rfl) (by kernel_rfl) (by kernel_rfl) (by kernel_rfl) (by kernel_rfl) (by kernel_rfl) (by kernel_rfl) (by kernel_rfl) ?_
  refine ow_all 10 (by kernel_rfl) ?_
  refine aw_abs 55 (O b a2 e2 :: []) (cfg17.heap 10) [(2, .box 0 zeroC), (4, .hp 0 0), (5, .box 576 [I64 v0, .slice (tr.map rowFi) n1 (adO (c2 + 64 * 1) o1), .slice (ar.map rowEn) n2 (adO (c3 + 64 * 1) o2), I64 0, I64 0, I64 0, I64 0, nilS, nilS, BO false, I64 0, I64 0, I64 0, I64 0, nilS, nilS, nilS, BO false])] (by kernel_rfl) (fun t4 c4 l4 => ?_)
  refine aw_sr (ow_k 1 10 (by kernel_rfl) ?_)
  refine ow_callE0 (k := 29) (first := []) (captured := []) (xs := [.hp 0 0]) (r := .agg (cellsCu ch)) h3 (by kernel_rfl) (by kernel_rfl) (by kernel_rfl) (by kernel_rfl) (by kernel_rfl) (by kernel_rfl) (by kernel_rfl) (by kernel_rfl) ?_
  refine ow_all 10 (by kernel_rfl) ?_
  refine aw_abs 55 (O b a3 e3 :: [cellsCu ch, cellsCu ch]) (cfg17.heap 10) [(2, .box 0 zeroC), (4, .hp 0 0), (5, .box 576 [I64 v0, .slice (tr.map rowFi) n1 (adO (c2 + 64 * 1) o1), .slice (ar.map rowEn) n2 (adO (c3 + 64 * 1) o2), I64 ch.1, I64 ch.2.1, I64 ch.2.2.1, I64 ch.2.2.2, nilS, nilS, BO false, I64 0, I64 0, I64 0, I64 0, nilS, nilS, nilS, BO false])] (by kernel_rfl) (fun t5 c5 l5 => ?_)
  refine aw_sr (ow_k 1 10 (by kernel_rfl) ?_)
  refine ow_callEv (k := 30) (first := []) (captured := []) (xs := [.hp 0 0, I64 200, .fn (.func 31) [] []]) (r := .slice (ow.map rowN) n4 o4) h4 (adopt_sl _ _ _ _) (by kernel_rfl) (by kernel_rfl) (by kernel_rfl) (by kernel_rfl) (by kernel_rfl) (by kernel_rfl) (by kernel_rfl) (by kernel_rfl) ?_
  refine ow_all 10 (by kernel_rfl) ?_
  refine aw_abs 55 (O b a4 e4 :: [cellsCu ch, cellsCu ch]) (cfg17.heap 10) [(2, .box 0 zeroC), (4, .hp 0 0), (5, .box 576 [I64 v0, .slice (tr.map rowFi) n1 (adO (c2 + 64 * 1) o1), .slice (ar.map rowEn) n2 (adO (c3 + 64 * 1) o2), I64 ch.1, I64 ch.2.1, I64 ch.2.2.1, I64 ch.2.2.2, .slice (ow.map rowN) n4 (adO (c5 + 64 * 1) o4), nilS, BO false, I64 0, I64 0, I64 0, I64 0, nilS, nilS, nilS, BO false])] (by kernel_rfl) (fun t6 c6 l6 => ?_)
  refine aw_sr (ow_k 1 10 (by kernel_rfl) ?_)
  refine ow_callEv (k := 27) (first := []) (captured := []) (xs := [.hp 0 0, I64 32, .fn (.func 28) [] []]) (r := .slice (sh.map rowEn) n5 o5) h5 (adopt_sl _ _ _ _) (by kernel_rfl) (by kernel_rfl) (by kernel_rfl) (by kernel_rfl) (by kernel_rfl) (by kernel_rfl) (by kernel_rfl) (by kernel_rfl) ?_
  refine ow_all 10 (by kernel_rfl) ?_
  refine aw_abs 55 (O b a5 e5 :: [cellsCu ch, cellsCu ch]) (cfg17.heap 10) [(2, .box 0 zeroC), (4, .hp 0 0), (5, .box 576 [I64 v0, .slice (tr.map rowFi) n1 (adO (c2 + 64 * 1) o1), .slice (ar.map rowEn) n2 (adO (c3 + 64 * 1) o2), I64 ch.1, I64 ch.2.1, I64 ch.2.2.1, I64 ch.2.2.2, .slice (ow.map rowN) n4 (adO (c5 + 64 * 1) o4), .slice (sh.map rowEn) n5 (adO (c6 + 64 * 1) o5), BO false, I64 0, I64 0, I64 0, I64 0, nilS, nilS, nilS, BO false])] (by kernel_rfl) (fun t7 c7 l7 => ?_)
  refine aw_sr (ow_k 1 10 (by kernel_rfl) ?_)
  refine ow_callE0 (k := 32) (first := []) (captured := []) (xs := [.hp 0 0]) (r := BO tu) h6 (by kernel_rfl) (by kernel_rfl) (by kernel_rfl) (by kernel_rfl) (by kernel_rfl) (by kernel_rfl) (by kernel_rfl) (by kernel_rfl) ?_
  refine ow_all 10 (by kernel_rfl) ?_
  refine aw_abs 55 (O b a6 e6 :: [cellsCu ch, cellsCu ch]) (cfg17.heap 10) [(2, .box 0 zeroC), (4, .hp 0 0), (5, .box 576 [I64 v0, .slice (tr.map rowFi) n1 (adO (c2 + 64 * 1) o1), .slice (ar.map rowEn) n2 (adO (c3 + 64 * 1) o2), I64 ch.1, I64 ch.2.1, I64 ch.2.2.1, I64 ch.2.2.2, .slice (ow.map rowN) n4 (adO (c5 + 64 * 1) o4), .slice (sh.map rowEn) n5 (adO (c6 + 64 * 1) o5), BO tu, I64 0, I64 0, I64 0, I64 0, nilS, nilS, nilS, BO false])] (by kernel_rfl) (fun t8 c8 l8 => ?_)
  refine aw_sr (ow_k 1 10 (by kernel_rfl) ?_)
  refine ow_callE0 (k := 29) (first := []) (captured := []) (xs := [.hp 0 0]) (r := .agg (cellsCu pe)) h7 (by kernel_rfl) (by kernel_rfl) (by kernel_rfl) (by kernel_rfl) (by kernel_rfl) (by kernel_rfl) (by kernel_rfl) (by kernel_rfl) ?_
  refine ow_all 10 (by kernel_rfl) ?_
  refine aw_abs 55 (O b a7 e7 :: [cellsCu ch, cellsCu ch, cellsCu pe, cellsCu pe]) (cfg17.heap 10) [(2, .box 0 zeroC), (4, .hp 0 0), (5, .box 576 [I64 v0, .slice (tr.map rowFi) n1 (adO (c2 + 64 * 1) o1), .slice (ar.map rowEn) n2 (adO (c3 + 64 * 1) o2), I64 ch.1, I64 ch.2.1, I64 ch.2.2.1, I64 ch.2.2.2, .slice (ow.map rowN) n4 (adO (c5 + 64 * 1) o4), .slice (sh.map rowEn) n5 (adO (c6 + 64 * 1) o5), BO tu, I64 pe.1, I64 pe.2.1, I64 pe.2.2.1, I64 pe.2.2.2, nilS, nilS, nilS, BO false])] (by kernel_rfl) (fun t9 c9 l9 => ?_)
  refine aw_sr (ow_k 1 10 (by kernel_rfl) ?_)
  refine ow_callEv (k := 27) (first := []) (captured := []) (xs := [.hp 0 0, I64 32, .fn (.func 28) [] []]) (r := .slice (th.map rowEn) n8 o8) h8 (adopt_sl _ _ _ _) (by kernel_rfl) (by kernel_rfl) (by kernel_rfl) (by kernel_rfl) (by kernel_rfl) (by kernel_rfl) (by kernel_rfl) (by kernel_rfl) ?_
  refine ow_all 10 (by kernel_rfl) ?_
  refine aw_abs 55 (O b a8 e8 :: [cellsCu ch, cellsCu ch, cellsCu pe, cellsCu pe]) (cfg17.heap 10) [(2, .box 0 zeroC), (4, .hp 0 0), (5, .box 576 [I64 v0, .slice (tr.map rowFi) n1 (adO (c2 + 64 * 1) o1), .slice (ar.map rowEn) n2 (adO (c3 + 64 * 1) o2), I64 ch.1, I64 ch.2.1, I64 ch.2.2.1, I64 ch.2.2.2, .slice (ow.map rowN) n4 (adO (c5 + 64 * 1) o4), .slice (sh.map rowEn) n5 (adO (c6 + 64 * 1) o5), BO tu, I64 pe.1, I64 pe.2.1, I64 pe.2.2.1, I64 pe.2.2.2, .slice (th.map rowEn) n8 (adO (c9 + 64 * 1) o8), nilS, nilS, BO false])] (by kernel_rfl) (fun t10 c10 l10 => ?_)
  refine aw_sr (ow_k 1 10 (by kernel_rfl) ?_)
  refine ow_callEv (k := 33) (first := []) (captured := []) (xs := [.hp 0 0, I64 32, I64 52]) (r := .slice (co.map rowS) n9 o9) h9 (adopt_sl _ _ _ _) (by kernel_rfl) (by kernel_rfl) (by kernel_rfl) (by kernel_rfl) (by kernel_rfl) (by kernel_rfl) (by kernel_rfl) (by kernel_rfl) ?_
  refine ow_all 10 (by kernel_rfl) ?_
  refine aw_abs 55 (O b a9 e9 :: [cellsCu ch, cellsCu ch, cellsCu pe, cellsCu pe]) (cfg17.heap 10) [(2, .box 0 zeroC), (4, .hp 0 0), (5, .box 576 [I64 v0, .slice (tr.map rowFi) n1 (adO (c2 + 64 * 1) o1), .slice (ar.map rowEn) n2 (adO (c3 + 64 * 1) o2), I64 ch.1, I64 ch.2.1, I64 ch.2.2.1, I64 ch.2.2.2, .slice (ow.map rowN) n4 (adO (c5 + 64 * 1) o4), .slice (sh.map rowEn) n5 (adO (c6 + 64 * 1) o5), BO tu, I64 pe.1, I64 pe.2.1, I64 pe.2.2.1, I64 pe.2.2.2, .slice (th.map rowEn) n8 (adO (c9 + 64 * 1) o8), .slice (co.map rowS) n9 (adO (c10 + 64 * 1) o9), nilS, BO false])] (by kernel_rfl) (fun t11 c11 l11 => ?_)
  refine aw_sr (ow_k 1 10 (by kernel_rfl) ?_)
  refine ow_callEv (k := 34) (first := []) (captured := []) (xs := [.hp 0 0, I64 200, .fn (.func 35) [] []]) (r := .slice (wa.map rowPu) n10 o10) h10 (adopt_sl _ _ _ _) (by kernel_rfl) (by kernel_rfl) (by kernel_rfl) (by kernel_rfl) (by kernel_rfl) (by kernel_rfl) (by kernel_rfl) (by kernel_rfl) ?_
  refine ow_all 10 (by kernel_rfl) ?_
  refine aw_abs 55 (O b a10 e10 :: [cellsCu ch, cellsCu ch, cellsCu pe, cellsCu pe]) (cfg17.heap 10) [(2, .box 0 zeroC), (4, .hp 0 0), (5, .box 576 [I64 v0, .slice (tr.map rowFi) n1 (adO (c2 + 64 * 1) o1), .slice (ar.map rowEn) n2 (adO (c3 + 64 * 1) o2), I64 ch.1, I64 ch.2.1, I64 ch.2.2.1, I64 ch.2.2.2, .slice (ow.map rowN) n4 (adO (c5 + 64 * 1) o4), .slice (sh.map rowEn) n5 (adO (c6 + 64 * 1) o5), BO tu, I64 pe.1, I64 pe.2.1, I64 pe.2.2.1, I64 pe.2.2.2, .slice (th.map rowEn) n8 (adO (c9 + 64 * 1) o8), .slice (co.map rowS) n9 (adO (c10 + 64 * 1) o9), .slice (wa.map rowPu) n10 (adO (c11 + 64 * 1) o10), BO false])] (by kernel_rfl) (fun t12 c12 l12 => ?_)
  refine aw_sr (ow_k 1 10 (by kernel_rfl) ?_)
  refine ow_callE0 (k := 32) (first := []) (captured := []) (xs := [.hp 0 0]) (r := BO ha) h11 (by kernel_rfl) (by kernel_rfl) (by kernel_rfl) (by kernel_rfl) (by kernel_rfl) (by kernel_rfl) (by kernel_rfl) (by kernel_rfl) ?_
  refine ow_all 10 (by kernel_rfl) ?_
  refine aw_abs 55 (O b a11 e11 :: [cellsCu ch, cellsCu ch, cellsCu pe, cellsCu pe]) (cfg17.heap 10) [(2, .box 0 zeroC), (4, .hp 0 0), (5, .box 576 [I64 v0, .slice (tr.map rowFi) n1 (adO (c2 + 64 * 1) o1), .slice (ar.map rowEn) n2 (adO (c3 + 64 * 1) o2), I64 ch.1, I64 ch.2.1, I64 ch.2.2.1, I64 ch.2.2.2, .slice (ow.map rowN) n4 (adO (c5 + 64 * 1) o4), .slice (sh.map rowEn) n5 (adO (c6 + 64 * 1) o5), BO tu, I64 pe.1, I64 pe.2.1, I64 pe.2.2.1, I64 pe.2.2.2, .slice (th.map rowEn) n8 (adO (c9 + 64 * 1) o8), .slice (co.map rowS) n9 (adO (c10 + 64 * 1) o9), .slice (wa.map rowPu) n10 (adO (c11 + 64 * 1) o10), BO ha])] (by kernel_rfl) (fun t13 c13 l13 => ?_)
  have hC : ([I64 v0, .slice (tr.map rowFi) n1 (adO (c2 + 64 * 1) o1), .slice (ar.map rowEn) n2 (adO (c3 + 64 * 1) o2), I64 ch.1, I64 ch.2.1, I64 ch.2.2.1, I64 ch.2.2.2, .slice (ow.map rowN) n4 (adO (c5 + 64 * 1) o4), .slice (sh.map rowEn) n5 (adO (c6 + 64 * 1) o5), BO tu, I64 pe.1, I64 pe.2.1, I64 pe.2.2.1, I64 pe.2.2.2, .slice (th.map rowEn) n8 (adO (c9 + 64 * 1) o8), .slice (co.map rowS) n9 (adO (c10 + 64 * 1) o9), .slice (wa.map rowPu) n10 (adO (c11 + 64 * 1) o10), BO ha] : List AV).map strip1 = cellsSt (v0, tr, ar, ch, ow, sh, tu, pe, th, co, wa, ha) ⟨n1, n2, n4, n5, n8, n9, n10, finO o1, finO o2, finO o4, finO o5, finO o8, finO o9, finO o10⟩ := by
    simp only [List.map_cons, List.map_nil, strip1_ad w1.ff, strip1_ad w2.ff, strip1_ad w4.ff, strip1_ad w5.ff, strip1_ad w8.ff, strip1_ad w9.ff, strip1_ad w10.ff]
    rfl
  refine aw_assoc (aw_sr (ow_k 1 10 (by kernel_rfl) ?_))
  refine ow_callE0 (k := 36) (first := []) (captured := []) (xs := [.hp 0 0]) (r := I64 e12) h12 (by kernel_rfl) (by kernel_rfl) (by kernel_rfl) (by kernel_rfl) (by kernel_rfl) (by kernel_rfl) (by kernel_rfl) (by kernel_rfl) ?_
  by_cases he : e12 = 0
  · subst he
    obtain ⟨he11, ha11⟩ := hend.1 rfl
    have hok : cSt.ok (v0, tr, ar, ch, ow, sh, tu, pe, th, co, wa, ha) := by
      have := hall.2.2 rfl
      cases hd : cSt.dec (b.drop 0) with
      | none => rw [hd] at this; exact absurd he11 this
      | some p =>
        obtain ⟨s', r⟩ := p
        rw [hd] at this
        have hB := (cSt.B _ _ _ hd).2
        rw [← this.1] at hB
        exact hB
    obtain ⟨hsh, hti⟩ := ok_small hok
    obtain ⟨q, hq, gq⟩ := right9 (v0, tr, ar, ch, ow, sh, tu, pe, th, co, wa, ha) ⟨n1, n2, n4, n5, n8, n9, n10, finO o1, finO o2, finO o4, finO o5, finO o8, finO o9, finO o10⟩ hz (H := O b a12 0 :: [cellsCu ch, cellsCu ch, cellsCu pe, cellsCu pe]) hsh hti
    refine ow_k 3 10 (by kernel_rfl) ?_
    refine ow_callE0 (k := 9) (first := []) (captured := []) (xs := [.agg [I64 v0, .slice (tr.map rowFi) n1 (adO (c2 + 64 * 1) o1), .slice (ar.map rowEn) n2 (adO (c3 + 64 * 1) o2), I64 ch.1, I64 ch.2.1, I64 ch.2.2.1, I64 ch.2.2.2, .slice (ow.map rowN) n4 (adO (c5 + 64 * 1) o4), .slice (sh.map rowEn) n5 (adO (c6 + 64 * 1) o5), BO tu, I64 pe.1, I64 pe.2.1, I64 pe.2.2.1, I64 pe.2.2.2, .slice (th.map rowEn) n8 (adO (c9 + 64 * 1) o8), .slice (co.map rowS) n9 (adO (c10 + 64 * 1) o9), .slice (wa.map rowPu) n10 (adO (c11 + 64 * 1) o10), BO ha]]) (r := BO q) (by
      rw [List.map_cons, List.map_nil, show strip (.agg [I64 v0, .slice (tr.map rowFi) n1 (adO (c2 + 64 * 1) o1), .slice (ar.map rowEn) n2 (adO (c3 + 64 * 1) o2), I64 ch.1, I64 ch.2.1, I64 ch.2.2.1, I64 ch.2.2.2, .slice (ow.map rowN) n4 (adO (c5 + 64 * 1) o4), .slice (sh.map rowEn) n5 (adO (c6 + 64 * 1) o5), BO tu, I64 pe.1, I64 pe.2.1, I64 pe.2.2.1, I64 pe.2.2.2, .slice (th.map rowEn) n8 (adO (c9 + 64 * 1) o8), .slice (co.map rowS) n9 (adO (c10 + 64 * 1) o9), .slice (wa.map rowPu) n10 (adO (c11 + 64 * 1) o10), BO ha]) = .agg (cellsSt (v0, tr, ar, ch, ow, sh, tu, pe, th, co, wa, ha) ⟨n1, n2, n4, n5, n8, n9, n10, finO o1, finO o2, finO o4, finO o5, finO o8, finO o9, finO o10⟩) from congrArg AV.agg hC]
      exact hq) (by kernel_rfl) (by kernel_rfl) (by kernel_rfl) (by kernel_rfl) (by kernel_rfl) (by kernel_rfl) (by kernel_rfl) (by kernel_rfl) ?_
    cases q with
    | false =>
      refine ow_all 10 (by kernel_rfl) ?_
      refine aw_sc true (by kernel_rfl) (fun _ => ?_) (fun h => by cases h)
      refine aw_assoc (aw_sk 10 (by kernel_rfl) ?_)
      refine aw_sret ?_
      exact ⟨.inr rfl, [.agg zeroC, I64 4], by kernel_rfl, by kernel_rfl, .inr ⟨by kernel_rfl, fun k => by have := gq.2 k.2.2; cases this⟩⟩
    | true =>
      refine ow_all 10 (by kernel_rfl) ?_
      refine aw_sc false (by kernel_rfl) (fun h => by cases h) (fun _ => ?_)
      refine aw_sskip (aw_sk 10 (by kernel_rfl) ?_)
      refine aw_ret ?_
      refine ⟨.inr rfl, [.agg [I64 v0, .slice (tr.map rowFi) n1 (adO (c2 + 64 * 1) o1), .slice (ar.map rowEn) n2 (adO (c3 + 64 * 1) o2), I64 ch.1, I64 ch.2.1, I64 ch.2.2.1, I64 ch.2.2.2, .slice (ow.map rowN) n4 (adO (c5 + 64 * 1) o4), .slice (sh.map rowEn) n5 (adO (c6 + 64 * 1) o5), BO tu, I64 pe.1, I64 pe.2.1, I64 pe.2.2.1, I64 pe.2.2.2, .slice (th.map rowEn) n8 (adO (c9 + 64 * 1) o8), .slice (co.map rowS) n9 (adO (c10 + 64 * 1) o9), .slice (wa.map rowPu) n10 (adO (c11 + 64 * 1) o10), BO ha], I64 0], by kernel_rfl, by kernel_rfl, .inl ⟨?_, he11, ha11, gq.1 rfl⟩⟩
      refine Eq.trans (b := .tup [.agg (([I64 v0, .slice (tr.map rowFi) n1 (adO (c2 + 64 * 1) o1), .slice (ar.map rowEn) n2 (adO (c3 + 64 * 1) o2), I64 ch.1, I64 ch.2.1, I64 ch.2.2.1, I64 ch.2.2.2, .slice (ow.map rowN) n4 (adO (c5 + 64 * 1) o4), .slice (sh.map rowEn) n5 (adO (c6 + 64 * 1) o5), BO tu, I64 pe.1, I64 pe.2.1, I64 pe.2.2.1, I64 pe.2.2.2, .slice (th.map rowEn) n8 (adO (c9 + 64 * 1) o8), .slice (co.map rowS) n9 (adO (c10 + 64 * 1) o9), .slice (wa.map rowPu) n10 (adO (c11 + 64 * 1) o10), BO ha] : List AV).map strip1), I64 0]) (by kernel_rfl) (by rw [hC])
  · refine ow_is (x := (e12 != 0)) (w := true) (by simpa using he) (by kernel_rfl) (by kernel_rfl) (by kernel_rfl) (by kernel_rfl) (by kernel_rfl) ?_
    refine ow_all 10 (by kernel_rfl) ?_
    refine aw_sc true (by kernel_rfl) (fun _ => ?_) (fun h => by cases h)
    refine aw_assoc (aw_sk 10 (by kernel_rfl) ?_)
    refine aw_sret ?_
    exact ⟨.inr rfl, [.agg zeroC, I64 4], by kernel_rfl, by kernel_rfl, .inr ⟨by kernel_rfl, fun k => he (hend.2 ⟨k.1, k.2.1⟩)⟩⟩
end Go.Proofs.V
namespace Go.Proofs.V
open Go Go.Proofs Go.Proofs.V.Wire
set_option linter.unusedVariables false
set_option linter.unusedSimpArgs false
set_option maxRecDepth 100000
theorem Can.sem {α : Type} {l : List α} {nl : Bool} {o : Own} (h : Can l nl o) : Sem l nl o := by
  rcases h with ⟨h1, _, h2⟩ | h
  · exact .inl ⟨h1, .inr h2⟩
  · exact .inr h
theorem CanZ.sem {s : Stt} {z : Nl} (h : CanZ s z) : SemZ s z := ⟨h.tree.sem, h.arch.sem, h.own.sem, h.shown.sem, h.theirs.sem, h.conf.sem, h.waits.sem⟩
theorem S18_nil (nl : Bool) {o : Own} (h : OkO o) : S18 [] nl o := by
  rcases h with rfl | rfl <;> cases nl <;> exact callQ_at 100 (by kernel_rfl)
theorem S20_nil (nl : Bool) {o : Own} (h : OkO o) : S20 [] nl o := by
  rcases h with rfl | rfl <;> cases nl <;> exact callQ_at 100 (by kernel_rfl)
theorem S22_nil (nl : Bool) {o : Own} (h : OkO o) : S22 [] nl o := by
  rcases h with rfl | rfl <;> cases nl <;> exact callQ_at 100 (by kernel_rfl)
theorem sem_to {α : Type} {l : List α} {p : Bool → Own → Prop} (hn : l = [] → ∀ nl o, OkO o → p nl o) {nl nl' : Bool} {o o' : Own} (h : Sem l nl o) (h' : Sem l nl' o') (k : p nl o) : p nl' o' := by
  rcases h' with ⟨h0, h1⟩ | ⟨rfl, rfl⟩
  · exact hn h0 _ _ h1
  · rcases h with ⟨h0, _⟩ | ⟨rfl, rfl⟩
    · exact hn h0 _ _ (.inl rfl)
    · exact k
theorem RP_to {s : Stt} {z y : Nl} (hz : SemZ s z) (hy : SemZ s y) (h : RP s z) : RP s y := by
  obtain ⟨r1, r2, r3, r4, r5, r6, r7, r8, r9, r10⟩ := h
  exact ⟨sem_to (p := S18 _) (fun e nl o ho => e ▸ S18_nil nl ho) hz.arch hy.arch r1, sem_to (p := S18 _) (fun e nl o ho => e ▸ S18_nil nl ho) hz.shown hy.shown r2, sem_to (p := S18 _) (fun e nl o ho => e ▸ S18_nil nl ho) hz.theirs hy.theirs r3, r4, r5, r6, sem_to (p := S20 _) (fun e nl o ho => e ▸ S20_nil nl ho) hz.tree hy.tree r7, r8, sem_to (p := S22 _) (fun e nl o ho => e ▸ S22_nil nl ho) hz.conf hy.conf r9, r10⟩
theorem enc_ne (s : Stt) : encSt s ≠ [] := by
  unfold encSt encN b4
  exact List.cons_ne_nil _ _
/-- What is read whole is of these bytes. -/
theorem rds_good {b : BS} {s : Stt} {a' : Nat} (h : Rds b cSt.dec s 0 0 a' 0) (ha : a' = b.length) : b = encSt s ∧ cSt.ok s := by
  have h1 := h.2.2 rfl
  cases hd : cSt.dec (b.drop 0) with
  | none => rw [hd] at h1; exact absurd rfl h1
  | some p =>
    obtain ⟨s', r⟩ := p
    rw [hd] at h1
    obtain ⟨rfl, -, hr⟩ := h1
    obtain ⟨h2, h3⟩ := cSt.B _ _ _ hd
    rw [ha, List.drop_length] at hr
    rw [← hr, List.drop_zero, List.append_nil] at h2
    exact ⟨h2, h3⟩
/-- A right state's bytes, and more: the state is read. -/
theorem rds_enc {s s' : Stt} {more : BS} {a' : Nat} {e' : Int} (hs : cSt.ok s) (h : Rds (encSt s ++ more) cSt.dec s' 0 0 a' e') : s' = s ∧ e' = 0 ∧ (a' = (encSt s ++ more).length ↔ more = []) := by
  have h1 := h.2.2 rfl
  have hd : cSt.dec ((encSt s ++ more).drop 0) = some (s, more) := cSt.A s more hs
  rw [hd] at h1
  obtain ⟨h2, h3, h4⟩ := h1
  refine ⟨h2, h3, ?_⟩
  have hl := congrArg List.length h4
  rw [List.length_drop] at hl
  have ha := h.1
  constructor
  · intro e
    exact List.eq_nil_of_length_eq_zero (by omega)
  · intro e
    subst e
    simp only [List.length_nil] at hl
    omega
/-- A beginning of a right state's bytes is none's. -/
theorem cut_none {s s' : Stt} {cut : Nat} (hs : cSt.ok s) (hs' : cSt.ok s') (hc : cut < (encSt s).length) (h : (encSt s).take cut = encSt s') : False := by
  have h1 := cSt.A s [] hs
  have h2 := cSt.A s' ((encSt s).drop cut) hs'
  rw [encSt_c, ← h, List.take_append_drop] at h2
  rw [encSt_c, List.append_nil, h2] at h1
  have := congrArg List.length (Prod.mk.inj (Option.some.inj h1)).2
  rw [List.length_drop, List.length_nil] at this
  omega
end Go.Proofs.V

/- States, read: state.Read (seat r17 ZD). -/
import Derived.Test.YtdgihbbekacgcaaGreatDoorK41
import Derived.Test.YtdgihbbekacgcaaGreatDoorK42
import Derived.Test.YtdgihbbekacgcaaGreatDoorK37
namespace Go.Proofs.V.M17
open Go Go.Proofs Go.Proofs.V Go.Proofs.V.Wire Go.Proofs.V.L17
set_option linter.unusedVariables false
set_option linter.unusedSimpArgs false
set_option maxRecDepth 100000
set_option maxHeartbeats 1000000
def cloneA (rows : List (List AV)) (nl : Bool) : AV := if nl then nilS else if rows.isEmpty then .slice [] false .full else .slice rows false .fresh
set_option maxRecDepth 100000 in
theorem clone66 (rows : List (List AV)) (nl : Bool) (own : Own) (hall : ∀ r ∈ rows, r.length = 1) (hlen : rows.length ≤ 35184372088832) (hnl : nl = true → rows = []) : evK cfgR 99 [.slice rows nl own] [] = some (cloneA rows nl, []) := by
  refine evK_of Tryz.func99 rfl (of_decide_eq_true (by kernel_rfl)) (by kernel_rfl) (by kernel_rfl) rfl ?_
  unfold Tryz.f99
  dsimp only
  refine aw_seq (aw_region (ow_all 10 (by kernel_rfl) ?_))
  dsimp only [Then]
  cases nl with
  | true =>
    obtain rfl := hnl rfl
    refine aw_seq (aw_seq (aw_region (ow_all 10 (by kernel_rfl) ?_)))
    dsimp only [Then]
    refine (aw_cond (t := true) (by kernel_rfl) (fun _ => ?_) (fun h => by cases h))
    refine aw_seq (aw_region (ow_all 10 (by kernel_rfl) ?_))
    dsimp only [Then]
    refine aw_ret ?_
    dsimp only [Then]
    exact ⟨.inr rfl, [nilS], by kernel_rfl, by kernel_rfl, by kernel_rfl, by kernel_rfl⟩
  | false =>
    cases rows with
    | nil =>
      refine aw_seq (aw_seq (aw_region (ow_all 10 (by kernel_rfl) ?_)))
      dsimp only [Then]
      refine (aw_cond (t := false) (by kernel_rfl) (fun h => by cases h) (fun _ => ?_))
      refine aw_skip ?_
      dsimp only [Then]
      refine aw_seq (aw_region (ow_all 10 (by kernel_rfl) ?_))
      dsimp only [Then]
      refine aw_ret ?_
      exact ⟨.inr rfl, [.slice [] false .full], by kernel_rfl, by kernel_rfl, by kernel_rfl, by kernel_rfl⟩
    | cons r rs =>
      refine aw_seq (aw_seq (aw_region (ow_all 10 (by kernel_rfl) ?_)))
      dsimp only [Then]
      refine (aw_cond (t := false) (by kernel_rfl) (fun h => by cases h) (fun _ => ?_))
      refine aw_skip ?_
      dsimp only [Then]
      refine aw_seq (aw_region ?_)
      refine ow_run (l := [_, _]) 10 (by kernel_rfl) ?_
      refine ow_appendG (ty := 51) (S := .slice [] false .full) (X := .slice (r :: rs) false own) (by kernel_rfl) (by kernel_rfl) (by kernel_rfl) (by kernel_rfl) (append_full (rows := []) (ys := r :: rs) (e := 5) (sz := 1) (by_ := 1) (z := [.at (.int .u8 0)]) (by kernel_rfl) (by kernel_rfl) (by kernel_rfl) (by kernel_rfl) (by simp) hall (by decide) (by simpa using hlen) (by simp at hlen ⊢; omega) (by decide) (by kernel_rfl) rfl (by simp)) (by kernel_rfl) ?_
      refine ow_all 10 (by kernel_rfl) ?_
      dsimp only [Then]
      refine aw_ret ?_
      exact ⟨.inr rfl, [.slice (r :: rs) false (.id 320)], by kernel_rfl, by kernel_rfl, by kernel_rfl, by kernel_rfl⟩
theorem fail67e (bs : BS) (a t : Nat) (e er : Int) (he : e ≠ 0) (R : List (List AV)) : evK cfgR 102 [.hp 0 0, I64 er, I64 (t : Nat)] (O bs a e :: R) = some (.tup [], O bs a e :: R) := by
  refine evK_of Tryz.func102 rfl (of_decide_eq_true (by kernel_rfl)) (by kernel_rfl) (by kernel_rfl) rfl ?_
  unfold Tryz.f102
  dsimp only
  refine aw_sk 10 (by kernel_rfl) ?_
  refine aw_cond (t := (e == 0)) (by kernel_rfl) (fun h => absurd (by simpa using h) he) (fun _ => ?_)
  refine aw_skip ?_
  exact ⟨.inl rfl, [], by kernel_rfl, by kernel_rfl, by kernel_rfl, by kernel_rfl⟩
theorem end36 (bs : BS) (a : Nat) (e : Int) (R : List (List AV)) (ha : a ≤ bs.length) : ∃ (a' : Nat) (e' : Int), evK cfgR 75 [.hp 0 0] (O bs a e :: R) = some (I64 e', O bs a' e' :: R) ∧ (e' = 0 ↔ e = 0 ∧ a = bs.length) := by
  have hfail : ∃ (a' : Nat) (e' : Int), evK cfgR 102 [.hp 0 0, I64 4, I64 (a : Nat)] (O bs a e :: R) = some (.tup [], O bs a' e' :: R) ∧ e' ≠ 0 := by
    by_cases he : e = 0
    · subst he; exact ⟨a, 4, fail67 bs a a 4 R, by decide⟩
    · exact ⟨a, e, fail67e bs a a e 4 he R, he⟩
  obtain ⟨a', e', hf, he'⟩ := hfail
  suffices h : ∃ r H', evK cfgR 75 [.hp 0 0] (O bs a e :: R) = some (r, H') ∧ ∃ (a' : Nat) (e' : Int), (r = I64 e' ∧ H' = O bs a' e' :: R) ∧ (e' = 0 ↔ e = 0 ∧ a = bs.length) by
    obtain ⟨r, H', h, a', e', ⟨rfl, rfl⟩, h1⟩ := h
    exact ⟨a', e', h, h1⟩
  refine evK_ofE (P := fun r H' => ∃ (a' : Nat) (e' : Int), (r = I64 e' ∧ H' = O bs a' e' :: R) ∧ (e' = 0 ↔ e = 0 ∧ a = bs.length)) Tryz.func75 rfl (of_decide_eq_true (by kernel_rfl)) (by kernel_rfl) (by kernel_rfl) rfl ?_
  unfold Tryz.f75
  dsimp only
  refine aw_sk 10 (by kernel_rfl) ?_
  refine aw_assoc (aw_sk 10 (by kernel_rfl) ?_)
  refine aw_sc (decide ((a : Int) < ((bsA bs).length : Int))) (by kernel_rfl) (fun h => ?_) (fun h => ?_)
  · have hlt := of_decide_eq_true h
    rw [bsA_len] at hlt
    refine aw_sr (ow_k 5 10 (by kernel_rfl) ?_)
    refine ow_callE0 (k := 102) (first := []) (captured := []) (xs := [.hp 0 0, I64 4, I64 (a : Nat)]) (r := .tup []) hf (by kernel_rfl) (by kernel_rfl) (by kernel_rfl) (by kernel_rfl) (by kernel_rfl) (by kernel_rfl) (by kernel_rfl) (by kernel_rfl) ?_
    refine ow_nil ?_
    refine aw_sk 10 (by kernel_rfl) ?_
    refine aw_ret ?_
    exact ⟨.inr rfl, [I64 e'], by kernel_rfl, by kernel_rfl, a', e', ⟨by kernel_rfl, by kernel_rfl⟩, ⟨fun h => absurd h he', fun h => by omega⟩⟩
  · have hge := of_decide_eq_false h
    rw [bsA_len] at hge
    refine aw_sskip (aw_sk 10 (by kernel_rfl) ?_)
    refine aw_ret ?_
    exact ⟨.inr rfl, [I64 e], by kernel_rfl, by kernel_rfl, a, e, ⟨by kernel_rfl, by kernel_rfl⟩, ⟨fun h => ⟨h, by omega⟩, fun h => h.1⟩⟩
theorem wireRead23 (b : BS) (hb0 : b ≠ []) (hb : b.length ≤ 1000000000) : evK cfgR 62 [.slice (bsA b) false .no] [] = some (.hp 0 0, [O b 0 0]) := by
  have hcl : callQ cfgR (evK cfgR) 99 [.slice (bsA b) false .no] = some (.slice (bsA b) false .fresh) := by
    have h := clone66 (bsA b) false .no (bsA_all b) (by rw [bsA_len]; omega) (fun h => by cases h)
    cases b with
    | nil => exact absurd rfl hb0
    | cons x r => exact callQ_of (by kernel_rfl) h
  refine evK_of Tryz.func62 rfl (of_decide_eq_true (by kernel_rfl)) (by kernel_rfl) (by kernel_rfl) rfl ?_
  unfold Tryz.f62
  dsimp only
  refine aw_sk 10 (by kernel_rfl) ?_
  refine aw_sr (ow_k 1 10 (by kernel_rfl) ?_)
  refine ow_callG (k := 99) (first := []) (captured := []) (xs := [.slice (bsA b) false .no]) (r := .slice (bsA b) false .fresh) (by kernel_rfl) (by kernel_rfl) (by kernel_rfl) (by kernel_rfl) (by kernel_rfl) (by kernel_rfl) hcl (by kernel_rfl) (by kernel_rfl) ?_
  refine ow_all 10 (by kernel_rfl) ?_
  refine aw_ret ?_
  exact ⟨.inr rfl, [.hp 0 0], by kernel_rfl, by kernel_rfl, by kernel_rfl, by kernel_rfl⟩
/-- A state's slices as they are read. -/
def Can {α : Type} (l : List α) (nl : Bool) (o : Own) : Prop := (l = [] ∧ nl = true ∧ o = .full) ∨ (nl = false ∧ o = .no)
theorem can_of {α : Type} {l : List α} {nl : Bool} {o : Own} (h : RO l nl o) : Can l nl (finO o) := by
  rcases h with ⟨h1, h2, rfl⟩ | ⟨h1, rfl⟩
  · exact .inl ⟨h1, h2, rfl⟩
  · exact .inr ⟨h1, rfl⟩
theorem _root_.Go.Proofs.V.RO.ff {α : Type} {l : List α} {nl : Bool} {o : Own} (h : RO l nl o) : o = .full ∨ o = .fresh := by
  rcases h with ⟨_, _, h⟩ | ⟨_, h⟩
  · exact .inl h
  · exact .inr h
theorem Can.ok {α : Type} {l : List α} {nl : Bool} {o : Own} (h : Can l nl o) : OkO o := by
  rcases h with ⟨_, _, h⟩ | ⟨_, h⟩
  · exact .inr h
  · exact .inl h
structure CanZ (s : Stt) (z : Nl) : Prop where
  tree : Can s.2.1 z.tree z.treeO
  arch : Can s.2.2.1 z.arch z.archO
  own : Can s.2.2.2.2.1 z.own z.ownO
  shown : Can s.2.2.2.2.2.1 z.shown z.shownO
  theirs : Can s.2.2.2.2.2.2.2.2.1 z.theirs z.theirsO
  conf : Can s.2.2.2.2.2.2.2.2.2.1 z.conf z.confO
  waits : Can s.2.2.2.2.2.2.2.2.2.2.1 z.waits z.waitsO
theorem CanZ.ok {s : Stt} {z : Nl} (h : CanZ s z) : OkZ z := ⟨h.tree.ok, h.arch.ok, h.own.ok, h.shown.ok, h.theirs.ok, h.conf.ok, h.waits.ok⟩
/-- A state's plain form, flat. -/
def toQ (s : Stt) : Go.Proofs.W.Q17.St := (s.1, s.2.1, s.2.2.1, s.2.2.2.1.1, s.2.2.2.1.2.1, s.2.2.2.1.2.2.1, s.2.2.2.1.2.2.2, s.2.2.2.2.1, s.2.2.2.2.2.1, s.2.2.2.2.2.2.1, s.2.2.2.2.2.2.2.1.1, s.2.2.2.2.2.2.2.1.2.1, s.2.2.2.2.2.2.2.1.2.2.1, s.2.2.2.2.2.2.2.1.2.2.2, s.2.2.2.2.2.2.2.2.1, s.2.2.2.2.2.2.2.2.2.1, s.2.2.2.2.2.2.2.2.2.2.1, s.2.2.2.2.2.2.2.2.2.2.2)
def RP (s : Stt) (_z : Nl) : Prop := Go.Proofs.W.Q17.state_Right (toQ s) = some true
def RP' (s : Stt) (_z : Nl) : Prop := Go.Proofs.W.Q17.ref17_Right (toQ s) = some true
theorem wr_can (r : W.RT) (hf : W.flatRT r = true) {l : List (W.Tr r)} {nl : Bool} {o : Own} (h : Can l nl o) : W.WRL W.Ono W.g0 [W.cellW (.sl r) l] [.slice (l.map (W.encR r)) nl o] := by
  rcases h with ⟨rfl, rfl, rfl⟩ | ⟨rfl, rfl⟩
  · exact ⟨.sl _ _ _ _ _ _ ⟨trivial, fun _ => rfl⟩ rfl (fun _ e => by cases e), trivial⟩
  · exact ⟨.sl _ _ _ _ _ _ ⟨W.C.rows_enc r hf _, fun e => by cases e⟩ rfl (fun _ e => by cases e), trivial⟩
theorem wr_st {s : Stt} {z : Nl} (h : CanZ s z) : W.WRL W.Ono W.g0 (T17.stW (toQ s)) (cellsSt s z) :=
  ⟨.int _ _ _, (wr_can T17.tF rfl h.tree).1, (wr_can T17.tE rfl h.arch).1, .int _ _ _, .int _ _ _, .int _ _ _, .int _ _ _, (wr_can T17.tI rfl h.own).1, (wr_can T17.tE rfl h.shown).1, .bool _ _, .int _ _ _, .int _ _ _, .int _ _ _, .int _ _ _, (wr_can T17.tE rfl h.theirs).1, (wr_can T17.tP rfl h.conf).1, (wr_can T17.tW rfl h.waits).1, .bool _ _, trivial⟩
theorem right13 {s : Stt} {z : Nl} (h : CanZ s z) {q : Bool} (hq : Go.Proofs.W.Q17.state_Right (toQ s) = some q) : callQ cfgR (evK cfgR) 13 [.agg (cellsSt s z)] = some (BO q) := by
  have := W.C.callB Go.Proofs.W.Q17.s_state_Right hq (xs := [.agg (cellsSt s z)]) ⟨[.agg (T17.stW (toQ s))], rfl, W.wr_agg (wr_st h), trivial⟩
  show atQ (callQ cfgL (evK cfgL) 13 [.agg (cellsSt s z)]) = _
  rw [this]; rfl
theorem right14 {s : Stt} {z : Nl} (h : CanZ s z) {q : Bool} (hq : Go.Proofs.W.Q17.ref17_Right (toQ s) = some q) : callQ cfgR (evK cfgR) 14 [.agg (cellsSt s z)] = some (BO q) := by
  have := W.C.callB Go.Proofs.W.Q17.s_ref17_Right hq (xs := [.agg (cellsSt s z)]) ⟨[.agg (T17.stW (toQ s))], rfl, W.wr_agg (wr_st h), trivial⟩
  show atQ (callQ cfgL (evK cfgL) 14 [.agg (cellsSt s z)]) = _
  rw [this]; rfl
theorem nohp_a (s : Stt) (z : Nl) : [AV.agg (cellsSt s z)].all (nohp 9) = true := by
  simp [nohp, cellsSt, rowFi, rowEn, rowN, rowS, rowPu]
/-- What is read is small. -/
theorem ok_sm {s : Stt} (h : cSt.ok s) : Go.Proofs.W.Q17.Small (toQ s) := by
  obtain ⟨h1, h2, h3, h4, h5, h6, h7, h8, h9, h10, h11, h12⟩ := h
  have hen : ∀ x : En, cEn.ok x → Go.Proofs.W.Q9.okEn x = true := fun x hx => by
    have k1 := hx.1.1
    have k2 := hx.2.2.1.1
    simp only [Go.Proofs.W.Q9.okEn, Bool.and_eq_true, decide_eq_true_eq]
    omega
  have hfi : ∀ x : Fi, cFi.ok x → Go.Proofs.W.Q9.okFi x = true := fun x hx => by
    have k1 := hx.1.1
    have k2 := hx.2.1
    simp only [Go.Proofs.W.Q9.okFi, Bool.and_eq_true, decide_eq_true_eq]
    omega
  have k2 := h2.1; have k3 := h3.1; have k5 := h5.1; have k6 := h6.1; have k9 := h9.1; have k10 := h10.1; have k11 := h11.1
  have e2 := h2.2.2; have e3 := h3.2.2; have e6 := h6.2.2; have e9 := h9.2.2; have e10 := h10.2.2; have e11 := h11.2.2
  exact ⟨⟨by simp only [toQ]; omega, fun e he => hfi e (e2 e he)⟩, ⟨by simp only [toQ]; omega, fun e he => hen e (e3 e he)⟩, ⟨by simp only [toQ]; omega, fun e he => hen e (e6 e he)⟩, ⟨by simp only [toQ]; omega, fun e he => hen e (e9 e he)⟩, by simp only [toQ]; omega, ⟨by simp only [toQ]; omega, fun e he => by have := (e10 e he).1; omega⟩, ⟨by simp only [toQ]; omega, fun e he => by have := (e11 e he).2.1; omega⟩⟩
def zeroC : List AV := [I64 0, nilS, nilS, I64 0, I64 0, I64 0, I64 0, nilS, nilS, BO false, I64 0, I64 0, I64 0, I64 0, nilS, nilS, nilS, BO false]
theorem nohp_st (s : Stt) (z : Nl) (x : Int) : nohp 9 (.tup [.agg (cellsSt s z), I64 x]) = true := by
  simp [nohp, cellsSt, rowFi, rowEn, rowN, rowS, rowPu]
theorem nohp_zero (x : Int) : nohp 9 (.tup [.agg zeroC, I64 x]) = true := by kernel_rfl
theorem callQ_nohp {cfg : Cfg} {f : Nat} {xs : List AV} {r : AV} {H : List (List AV)} (he : cfg.ext f = none) (h : evK cfg f xs [] = some (r, H)) (hn : nohp 9 r = true) : callQ cfg (evK cfg) f xs = some r := by
  unfold callQ
  simp only [he, h, hn, Bool.or_true, if_true]
theorem read10e : callQ cfgR (evK cfgR) 16 [ST []] = some (.tup [.agg zeroC, I64 4]) := callQ_at 200 (by kernel_rfl)
set_option maxHeartbeats 4000000 in
theorem read10 (b : BS) (hb0 : b ≠ []) (hb : b.length ≤ 1000000000) : ∃ (s : Stt) (z : Nl) (a' : Nat) (e' : Int), CanZ s z ∧ Rds b cSt.dec s 0 0 a' e' ∧
    ((callQ cfgR (evK cfgR) 16 [ST b] = some (.tup [.agg (cellsSt s z), I64 0]) ∧ e' = 0 ∧ a' = b.length ∧ RP s z) ∨ (callQ cfgR (evK cfgR) 16 [ST b] = some (.tup [.agg zeroC, I64 4]) ∧ ¬ (e' = 0 ∧ a' = b.length ∧ RP s z))) := by
  obtain ⟨v0, a0, e0, h0, p0, _⟩ := num24 b 1 0 0 [] (Nat.zero_le _) hb
  obtain ⟨tr, n1, o1, a1, e1, h1, w1, p1⟩ := rows25 b 16 (by decide) a0 e0 [] p0.1 hb
  obtain ⟨ar, n2, o2, a2, e2, h2, w2, p2⟩ := rows27 b 32 (by decide) a1 e1 [] p1.1 hb
  obtain ⟨ch, a3, e3, h3, p3⟩ := cursor29 b a2 e2 p2.1 hb
  obtain ⟨ow, n4, o4, a4, e4, h4, w4, p4⟩ := rows30 b 200 (by decide) a3 e3 [cellsCu ch, cellsCu ch] p3.1 hb
  obtain ⟨sh, n5, o5, a5, e5, h5, w5, p5⟩ := rows27 b 32 (by decide) a4 e4 [cellsCu ch, cellsCu ch] p4.1 hb
  obtain ⟨tu, a6, e6, h6, p6⟩ := set32 b a5 e5 [cellsCu ch, cellsCu ch] p5.1 hb
  obtain ⟨pe, a7, e7, h7, p7⟩ := cursor29b b a6 e6 (cellsCu ch) (cellsCu ch) p6.1 hb
  obtain ⟨th, n8, o8, a8, e8, h8, w8, p8⟩ := rows27 b 32 (by decide) a7 e7 [cellsCu ch, cellsCu ch, cellsCu pe, cellsCu pe] p7.1 hb
  obtain ⟨co, n9, o9, a9, e9, h9, w9, p9⟩ := row33 b a8 e8 [cellsCu ch, cellsCu ch, cellsCu pe, cellsCu pe] p8.1 hb
  obtain ⟨wa, n10, o10, a10, e10, h10, w10, p10⟩ := rows34 b 200 (by decide) a9 e9 [cellsCu ch, cellsCu ch, cellsCu pe, cellsCu pe] p9.1 hb
  obtain ⟨ha, a11, e11, h11, p11⟩ := set32 b a10 e10 [cellsCu ch, cellsCu ch, cellsCu pe, cellsCu pe] p10.1 hb
  obtain ⟨a12, e12, h12, hend⟩ := end36 b a11 e11 [cellsCu ch, cellsCu ch, cellsCu pe, cellsCu pe] p11.1
  have hall : Rds b cSt.dec (v0, tr, ar, ch, ow, sh, tu, pe, th, co, wa, ha) 0 0 a11 e11 := Rds.prod (c := num 1) p0 (Rds.prod (c := list 16 cFi) p1 (Rds.prod (c := list 32 cEn) p2 (Rds.prod (c := cCu) p3 (Rds.prod (c := list 200 (num maxN)) p4 (Rds.prod (c := list 32 cEn) p5 (Rds.prod (c := Wire.bool) p6 (Rds.prod (c := cCu) p7 (Rds.prod (c := list 32 cEn) p8 (Rds.prod (c := list 32 (str 52)) p9 (Rds.prod (c := list 200 cPu) (d := Wire.bool) p10 p11))))))))))
  have hcan : CanZ (v0, tr, ar, ch, ow, sh, tu, pe, th, co, wa, ha) ⟨n1, n2, n4, n5, n8, n9, n10, finO o1, finO o2, finO o4, finO o5, finO o8, finO o9, finO o10⟩ := ⟨can_of w1, can_of w2, can_of w4, can_of w5, can_of w8, can_of w9, can_of w10⟩
  have hz := hcan.ok
  refine ⟨(v0, tr, ar, ch, ow, sh, tu, pe, th, co, wa, ha), ⟨n1, n2, n4, n5, n8, n9, n10, finO o1, finO o2, finO o4, finO o5, finO o8, finO o9, finO o10⟩, a11, e11, hcan, hall, ?_⟩
  suffices h : ∃ r H', evK cfgR 16 [ST b] [] = some (r, H') ∧ ((r = .tup [.agg (cellsSt (v0, tr, ar, ch, ow, sh, tu, pe, th, co, wa, ha) ⟨n1, n2, n4, n5, n8, n9, n10, finO o1, finO o2, finO o4, finO o5, finO o8, finO o9, finO o10⟩), I64 0] ∧ e11 = 0 ∧ a11 = b.length ∧ RP (v0, tr, ar, ch, ow, sh, tu, pe, th, co, wa, ha) ⟨n1, n2, n4, n5, n8, n9, n10, finO o1, finO o2, finO o4, finO o5, finO o8, finO o9, finO o10⟩) ∨ (r = .tup [.agg zeroC, I64 4] ∧ ¬ (e11 = 0 ∧ a11 = b.length ∧ RP (v0, tr, ar, ch, ow, sh, tu, pe, th, co, wa, ha) ⟨n1, n2, n4, n5, n8, n9, n10, finO o1, finO o2, finO o4, finO o5, finO o8, finO o9, finO o10⟩))) by
    obtain ⟨r, H', h, ⟨rfl, k⟩ | ⟨rfl, k⟩⟩ := h
    · exact .inl ⟨callQ_nohp (by kernel_rfl) h (nohp_st _ _ _), k⟩
    · exact .inr ⟨callQ_nohp (by kernel_rfl) h (nohp_zero 4), k⟩
  refine evK_ofE (P := fun r H' => ((r = .tup [.agg (cellsSt (v0, tr, ar, ch, ow, sh, tu, pe, th, co, wa, ha) ⟨n1, n2, n4, n5, n8, n9, n10, finO o1, finO o2, finO o4, finO o5, finO o8, finO o9, finO o10⟩), I64 0] ∧ e11 = 0 ∧ a11 = b.length ∧ RP (v0, tr, ar, ch, ow, sh, tu, pe, th, co, wa, ha) ⟨n1, n2, n4, n5, n8, n9, n10, finO o1, finO o2, finO o4, finO o5, finO o8, finO o9, finO o10⟩) ∨ (r = .tup [.agg zeroC, I64 4] ∧ ¬ (e11 = 0 ∧ a11 = b.length ∧ RP (v0, tr, ar, ch, ow, sh, tu, pe, th, co, wa, ha) ⟨n1, n2, n4, n5, n8, n9, n10, finO o1, finO o2, finO o4, finO o5, finO o8, finO o9, finO o10⟩)))) Tryz.func16 rfl (of_decide_eq_true (by kernel_rfl)) (by kernel_rfl) (by kernel_rfl) rfl ?_
  unfold Tryz.f16
  dsimp only
  refine aw_sk 10 (by kernel_rfl) ?_
  refine aw_sr (ow_k 2 10 (by kernel_rfl) ?_)
  refine ow_callE0 (k := 62) (first := []) (captured := []) (xs := [.slice (bsA b) false .no]) (r := .hp 0 0) (wireRead23 b hb0 hb) (by kernel_rfl) (by kernel_rfl) (by kernel_rfl) (by kernel_rfl) (by kernel_rfl) (by kernel_rfl) (by kernel_rfl) (by kernel_rfl) ?_
  refine ow_all 10 (by kernel_rfl) ?_
  refine aw_sr (ow_k 1 10 (by kernel_rfl) ?_)
  refine ow_callE0 (k := 63) (first := []) (captured := []) (xs := [.hp 0 0, I64 1]) (r := I64 v0) h0 (by kernel_rfl) (by kernel_rfl) (by kernel_rfl) (by kernel_rfl) (by kernel_rfl) (by kernel_rfl) (by kernel_rfl) (by kernel_rfl) ?_
  refine ow_all 10 (by kernel_rfl) ?_
  refine aw_abs 55 (O b a0 e0 :: []) (cfgR.heap 16) [(2, .box 0 zeroC), (4, .hp 0 0), (5, .box 576 [I64 v0, nilS, nilS, I64 0, I64 0, I64 0, I64 0, nilS, nilS, BO false, I64 0, I64 0, I64 0, I64 0, nilS, nilS, nilS, BO false])] (by kernel_rfl) (fun t2 c2 l2 => ?_)
  refine aw_sr (ow_k 1 10 (by kernel_rfl) ?_)
  refine ow_callEv (k := 64) (first := []) (captured := []) (xs := [.hp 0 0, I64 16, .fn (.func 65) [] []]) (r := .slice (tr.map rowFi) n1 o1) h1 (adopt_sl _ _ _ _) (by kernel_rfl) (by kernel_rfl) (by kernel_rfl) (by kernel_rfl) (by kernel_rfl) (by kernel_rfl) (by kernel_rfl) (by kernel_rfl) ?_
  refine ow_all 10 (by kernel_rfl) ?_
  refine aw_abs 55 (O b a1 e1 :: []) (cfgR.heap 16) [(2, .box 0 zeroC), (4, .hp 0 0), (5, .box 576 [I64 v0, .slice (tr.map rowFi) n1 (adO (c2 + 64 * 1) o1), nilS, I64 0, I64 0, I64 0, I64 0, nilS, nilS, BO false, I64 0, I64 0, I64 0, I64 0, nilS, nilS, nilS, BO false])] (by kernel_rfl) (fun t3 c3 l3 => ?_)
  refine aw_sr (ow_k 1 10 (by kernel_rfl) ?_)
  refine ow_callEv (k := 66) (first := []) (captured := []) (xs := [.hp 0 0, I64 32, .fn (.func 67) [] []]) (r := .slice (ar.map rowEn) n2 o2) h2 (adopt_sl _ _ _ _) (by kernel_rfl) (by kernel_rfl) (by kernel_rfl) (by kernel_rfl) (by kernel_rfl) (by kernel_rfl) (by kernel_rfl) (by kernel_rfl) ?_
  refine ow_all 10 (by kernel_rfl) ?_
  refine aw_abs 55 (O b a2 e2 :: []) (cfgR.heap 16) [(2, .box 0 zeroC), (4, .hp 0 0), (5, .box 576 [I64 v0, .slice (tr.map rowFi) n1 (adO (c2 + 64 * 1) o1), .slice (ar.map rowEn) n2 (adO (c3 + 64 * 1) o2), I64 0, I64 0, I64 0, I64 0, nilS, nilS, BO false, I64 0, I64 0, I64 0, I64 0, nilS, nilS, nilS, BO false])] (by kernel_rfl) (fun t4 c4 l4 => ?_)
  refine aw_sr (ow_k 1 10 (by kernel_rfl) ?_)
  refine ow_callE0 (k := 68) (first := []) (captured := []) (xs := [.hp 0 0]) (r := .agg (cellsCu ch)) h3 (by kernel_rfl) (by kernel_rfl) (by kernel_rfl) (by kernel_rfl) (by kernel_rfl) (by kernel_rfl) (by kernel_rfl) (by kernel_rfl) ?_
  refine ow_all 10 (by kernel_rfl) ?_
  refine aw_abs 55 (O b a3 e3 :: [cellsCu ch, cellsCu ch]) (cfgR.heap 16) [(2, .box 0 zeroC), (4, .hp 0 0), (5, .box 576 [I64 v0, .slice (tr.map rowFi) n1 (adO (c2 + 64 * 1) o1), .slice (ar.map rowEn) n2 (adO (c3 + 64 * 1) o2), I64 ch.1, I64 ch.2.1, I64 ch.2.2.1, I64 ch.2.2.2, nilS, nilS, BO false, I64 0, I64 0, I64 0, I64 0, nilS, nilS, nilS, BO false])] (by kernel_rfl) (fun t5 c5 l5 => ?_)
  refine aw_sr (ow_k 1 10 (by kernel_rfl) ?_)
  refine ow_callEv (k := 69) (first := []) (captured := []) (xs := [.hp 0 0, I64 200, .fn (.func 70) [] []]) (r := .slice (ow.map rowN) n4 o4) h4 (adopt_sl _ _ _ _) (by kernel_rfl) (by kernel_rfl) (by kernel_rfl) (by kernel_rfl) (by kernel_rfl) (by kernel_rfl) (by kernel_rfl) (by kernel_rfl) ?_
  refine ow_all 10 (by kernel_rfl) ?_
  refine aw_abs 55 (O b a4 e4 :: [cellsCu ch, cellsCu ch]) (cfgR.heap 16) [(2, .box 0 zeroC), (4, .hp 0 0), (5, .box 576 [I64 v0, .slice (tr.map rowFi) n1 (adO (c2 + 64 * 1) o1), .slice (ar.map rowEn) n2 (adO (c3 + 64 * 1) o2), I64 ch.1, I64 ch.2.1, I64 ch.2.2.1, I64 ch.2.2.2, .slice (ow.map rowN) n4 (adO (c5 + 64 * 1) o4), nilS, BO false, I64 0, I64 0, I64 0, I64 0, nilS, nilS, nilS, BO false])] (by kernel_rfl) (fun t6 c6 l6 => ?_)
  refine aw_sr (ow_k 1 10 (by kernel_rfl) ?_)
  refine ow_callEv (k := 66) (first := []) (captured := []) (xs := [.hp 0 0, I64 32, .fn (.func 67) [] []]) (r := .slice (sh.map rowEn) n5 o5) h5 (adopt_sl _ _ _ _) (by kernel_rfl) (by kernel_rfl) (by kernel_rfl) (by kernel_rfl) (by kernel_rfl) (by kernel_rfl) (by kernel_rfl) (by kernel_rfl) ?_
  refine ow_all 10 (by kernel_rfl) ?_
  refine aw_abs 55 (O b a5 e5 :: [cellsCu ch, cellsCu ch]) (cfgR.heap 16) [(2, .box 0 zeroC), (4, .hp 0 0), (5, .box 576 [I64 v0, .slice (tr.map rowFi) n1 (adO (c2 + 64 * 1) o1), .slice (ar.map rowEn) n2 (adO (c3 + 64 * 1) o2), I64 ch.1, I64 ch.2.1, I64 ch.2.2.1, I64 ch.2.2.2, .slice (ow.map rowN) n4 (adO (c5 + 64 * 1) o4), .slice (sh.map rowEn) n5 (adO (c6 + 64 * 1) o5), BO false, I64 0, I64 0, I64 0, I64 0, nilS, nilS, nilS, BO false])] (by kernel_rfl) (fun t7 c7 l7 => ?_)
  refine aw_sr (ow_k 1 10 (by kernel_rfl) ?_)
  refine ow_callE0 (k := 71) (first := []) (captured := []) (xs := [.hp 0 0]) (r := BO tu) h6 (by kernel_rfl) (by kernel_rfl) (by kernel_rfl) (by kernel_rfl) (by kernel_rfl) (by kernel_rfl) (by kernel_rfl) (by kernel_rfl) ?_
  refine ow_all 10 (by kernel_rfl) ?_
  refine aw_abs 55 (O b a6 e6 :: [cellsCu ch, cellsCu ch]) (cfgR.heap 16) [(2, .box 0 zeroC), (4, .hp 0 0), (5, .box 576 [I64 v0, .slice (tr.map rowFi) n1 (adO (c2 + 64 * 1) o1), .slice (ar.map rowEn) n2 (adO (c3 + 64 * 1) o2), I64 ch.1, I64 ch.2.1, I64 ch.2.2.1, I64 ch.2.2.2, .slice (ow.map rowN) n4 (adO (c5 + 64 * 1) o4), .slice (sh.map rowEn) n5 (adO (c6 + 64 * 1) o5), BO tu, I64 0, I64 0, I64 0, I64 0, nilS, nilS, nilS, BO false])] (by kernel_rfl) (fun t8 c8 l8 => ?_)
  refine aw_sr (ow_k 1 10 (by kernel_rfl) ?_)
  refine ow_callE0 (k := 68) (first := []) (captured := []) (xs := [.hp 0 0]) (r := .agg (cellsCu pe)) h7 (by kernel_rfl) (by kernel_rfl) (by kernel_rfl) (by kernel_rfl) (by kernel_rfl) (by kernel_rfl) (by kernel_rfl) (by kernel_rfl) ?_
  refine ow_all 10 (by kernel_rfl) ?_
  refine aw_abs 55 (O b a7 e7 :: [cellsCu ch, cellsCu ch, cellsCu pe, cellsCu pe]) (cfgR.heap 16) [(2, .box 0 zeroC), (4, .hp 0 0), (5, .box 576 [I64 v0, .slice (tr.map rowFi) n1 (adO (c2 + 64 * 1) o1), .slice (ar.map rowEn) n2 (adO (c3 + 64 * 1) o2), I64 ch.1, I64 ch.2.1, I64 ch.2.2.1, I64 ch.2.2.2, .slice (ow.map rowN) n4 (adO (c5 + 64 * 1) o4), .slice (sh.map rowEn) n5 (adO (c6 + 64 * 1) o5), BO tu, I64 pe.1, I64 pe.2.1, I64 pe.2.2.1, I64 pe.2.2.2, nilS, nilS, nilS, BO false])] (by kernel_rfl) (fun t9 c9 l9 => ?_)
  refine aw_sr (ow_k 1 10 (by kernel_rfl) ?_)
  refine ow_callEv (k := 66) (first := []) (captured := []) (xs := [.hp 0 0, I64 32, .fn (.func 67) [] []]) (r := .slice (th.map rowEn) n8 o8) h8 (adopt_sl _ _ _ _) (by kernel_rfl) (by kernel_rfl) (by kernel_rfl) (by kernel_rfl) (by kernel_rfl) (by kernel_rfl) (by kernel_rfl) (by kernel_rfl) ?_
  refine ow_all 10 (by kernel_rfl) ?_
  refine aw_abs 55 (O b a8 e8 :: [cellsCu ch, cellsCu ch, cellsCu pe, cellsCu pe]) (cfgR.heap 16) [(2, .box 0 zeroC), (4, .hp 0 0), (5, .box 576 [I64 v0, .slice (tr.map rowFi) n1 (adO (c2 + 64 * 1) o1), .slice (ar.map rowEn) n2 (adO (c3 + 64 * 1) o2), I64 ch.1, I64 ch.2.1, I64 ch.2.2.1, I64 ch.2.2.2, .slice (ow.map rowN) n4 (adO (c5 + 64 * 1) o4), .slice (sh.map rowEn) n5 (adO (c6 + 64 * 1) o5), BO tu, I64 pe.1, I64 pe.2.1, I64 pe.2.2.1, I64 pe.2.2.2, .slice (th.map rowEn) n8 (adO (c9 + 64 * 1) o8), nilS, nilS, BO false])] (by kernel_rfl) (fun t10 c10 l10 => ?_)
  refine aw_sr (ow_k 1 10 (by kernel_rfl) ?_)
  refine ow_callEv (k := 72) (first := []) (captured := []) (xs := [.hp 0 0, I64 32, I64 52]) (r := .slice (co.map rowS) n9 o9) h9 (adopt_sl _ _ _ _) (by kernel_rfl) (by kernel_rfl) (by kernel_rfl) (by kernel_rfl) (by kernel_rfl) (by kernel_rfl) (by kernel_rfl) (by kernel_rfl) ?_
  refine ow_all 10 (by kernel_rfl) ?_
  refine aw_abs 55 (O b a9 e9 :: [cellsCu ch, cellsCu ch, cellsCu pe, cellsCu pe]) (cfgR.heap 16) [(2, .box 0 zeroC), (4, .hp 0 0), (5, .box 576 [I64 v0, .slice (tr.map rowFi) n1 (adO (c2 + 64 * 1) o1), .slice (ar.map rowEn) n2 (adO (c3 + 64 * 1) o2), I64 ch.1, I64 ch.2.1, I64 ch.2.2.1, I64 ch.2.2.2, .slice (ow.map rowN) n4 (adO (c5 + 64 * 1) o4), .slice (sh.map rowEn) n5 (adO (c6 + 64 * 1) o5), BO tu, I64 pe.1, I64 pe.2.1, I64 pe.2.2.1, I64 pe.2.2.2, .slice (th.map rowEn) n8 (adO (c9 + 64 * 1) o8), .slice (co.map rowS) n9 (adO (c10 + 64 * 1) o9), nilS, BO false])] (by kernel_rfl) (fun t11 c11 l11 => ?_)
  refine aw_sr (ow_k 1 10 (by kernel_rfl) ?_)
  refine ow_callEv (k := 73) (first := []) (captured := []) (xs := [.hp 0 0, I64 200, .fn (.func 74) [] []]) (r := .slice (wa.map rowPu) n10 o10) h10 (adopt_sl _ _ _ _) (by kernel_rfl) (by kernel_rfl) (by kernel_rfl) (by kernel_rfl) (by kernel_rfl) (by kernel_rfl) (by kernel_rfl) (by kernel_rfl) ?_
  refine ow_all 10 (by kernel_rfl) ?_
  refine aw_abs 55 (O b a10 e10 :: [cellsCu ch, cellsCu ch, cellsCu pe, cellsCu pe]) (cfgR.heap 16) [(2, .box 0 zeroC), (4, .hp 0 0), (5, .box 576 [I64 v0, .slice (tr.map rowFi) n1 (adO (c2 + 64 * 1) o1), .slice (ar.map rowEn) n2 (adO (c3 + 64 * 1) o2), I64 ch.1, I64 ch.2.1, I64 ch.2.2.1, I64 ch.2.2.2, .slice (ow.map rowN) n4 (adO (c5 + 64 * 1) o4), .slice (sh.map rowEn) n5 (adO (c6 + 64 * 1) o5), BO tu, I64 pe.1, I64 pe.2.1, I64 pe.2.2.1, I64 pe.2.2.2, .slice (th.map rowEn) n8 (adO (c9 + 64 * 1) o8), .slice (co.map rowS) n9 (adO (c10 + 64 * 1) o9), .slice (wa.map rowPu) n10 (adO (c11 + 64 * 1) o10), BO false])] (by kernel_rfl) (fun t12 c12 l12 => ?_)
  refine aw_sr (ow_k 1 10 (by kernel_rfl) ?_)
  refine ow_callE0 (k := 71) (first := []) (captured := []) (xs := [.hp 0 0]) (r := BO ha) h11 (by kernel_rfl) (by kernel_rfl) (by kernel_rfl) (by kernel_rfl) (by kernel_rfl) (by kernel_rfl) (by kernel_rfl) (by kernel_rfl) ?_
  refine ow_all 10 (by kernel_rfl) ?_
  refine aw_abs 55 (O b a11 e11 :: [cellsCu ch, cellsCu ch, cellsCu pe, cellsCu pe]) (cfgR.heap 16) [(2, .box 0 zeroC), (4, .hp 0 0), (5, .box 576 [I64 v0, .slice (tr.map rowFi) n1 (adO (c2 + 64 * 1) o1), .slice (ar.map rowEn) n2 (adO (c3 + 64 * 1) o2), I64 ch.1, I64 ch.2.1, I64 ch.2.2.1, I64 ch.2.2.2, .slice (ow.map rowN) n4 (adO (c5 + 64 * 1) o4), .slice (sh.map rowEn) n5 (adO (c6 + 64 * 1) o5), BO tu, I64 pe.1, I64 pe.2.1, I64 pe.2.2.1, I64 pe.2.2.2, .slice (th.map rowEn) n8 (adO (c9 + 64 * 1) o8), .slice (co.map rowS) n9 (adO (c10 + 64 * 1) o9), .slice (wa.map rowPu) n10 (adO (c11 + 64 * 1) o10), BO ha])] (by kernel_rfl) (fun t13 c13 l13 => ?_)
  have hC : ([I64 v0, .slice (tr.map rowFi) n1 (adO (c2 + 64 * 1) o1), .slice (ar.map rowEn) n2 (adO (c3 + 64 * 1) o2), I64 ch.1, I64 ch.2.1, I64 ch.2.2.1, I64 ch.2.2.2, .slice (ow.map rowN) n4 (adO (c5 + 64 * 1) o4), .slice (sh.map rowEn) n5 (adO (c6 + 64 * 1) o5), BO tu, I64 pe.1, I64 pe.2.1, I64 pe.2.2.1, I64 pe.2.2.2, .slice (th.map rowEn) n8 (adO (c9 + 64 * 1) o8), .slice (co.map rowS) n9 (adO (c10 + 64 * 1) o9), .slice (wa.map rowPu) n10 (adO (c11 + 64 * 1) o10), BO ha] : List AV).map strip1 = cellsSt (v0, tr, ar, ch, ow, sh, tu, pe, th, co, wa, ha) ⟨n1, n2, n4, n5, n8, n9, n10, finO o1, finO o2, finO o4, finO o5, finO o8, finO o9, finO o10⟩ := by
    simp only [List.map_cons, List.map_nil, strip1_ad w1.ff, strip1_ad w2.ff, strip1_ad w4.ff, strip1_ad w5.ff, strip1_ad w8.ff, strip1_ad w9.ff, strip1_ad w10.ff]
    rfl
  refine aw_assoc (aw_sr (ow_k 1 10 (by kernel_rfl) ?_))
  refine ow_callE0 (k := 75) (first := []) (captured := []) (xs := [.hp 0 0]) (r := I64 e12) h12 (by kernel_rfl) (by kernel_rfl) (by kernel_rfl) (by kernel_rfl) (by kernel_rfl) (by kernel_rfl) (by kernel_rfl) (by kernel_rfl) ?_
  by_cases he : e12 = 0
  · subst he
    obtain ⟨he11, ha11⟩ := hend.1 rfl
    have hok : cSt.ok (v0, tr, ar, ch, ow, sh, tu, pe, th, co, wa, ha) := by
      have := hall.2.2 rfl
      cases hd : cSt.dec (b.drop 0) with
      | none => rw [hd] at this; exact absurd he11 this
      | some p =>
        obtain ⟨s', r⟩ := p
        rw [hd] at this
        have hB := (cSt.B _ _ _ hd).2
        rw [← this.1] at hB
        exact hB
    obtain ⟨q, hq0, _⟩ := Go.Proofs.W.Q17.right17 (ok_sm hok)
    have gq : q = true ↔ RP (v0, tr, ar, ch, ow, sh, tu, pe, th, co, wa, ha) ⟨n1, n2, n4, n5, n8, n9, n10, finO o1, finO o2, finO o4, finO o5, finO o8, finO o9, finO o10⟩ := by
      unfold RP; rw [hq0]; simp
    have hq := right13 hcan hq0
    refine ow_k 3 10 (by kernel_rfl) ?_
    refine ow_callN (k := 13) (first := []) (captured := []) (xs := [.agg [I64 v0, .slice (tr.map rowFi) n1 (adO (c2 + 64 * 1) o1), .slice (ar.map rowEn) n2 (adO (c3 + 64 * 1) o2), I64 ch.1, I64 ch.2.1, I64 ch.2.2.1, I64 ch.2.2.2, .slice (ow.map rowN) n4 (adO (c5 + 64 * 1) o4), .slice (sh.map rowEn) n5 (adO (c6 + 64 * 1) o5), BO tu, I64 pe.1, I64 pe.2.1, I64 pe.2.2.1, I64 pe.2.2.2, .slice (th.map rowEn) n8 (adO (c9 + 64 * 1) o8), .slice (co.map rowS) n9 (adO (c10 + 64 * 1) o9), .slice (wa.map rowPu) n10 (adO (c11 + 64 * 1) o10), BO ha]]) (r := BO q) (by
      rw [List.map_cons, List.map_nil, show strip (.agg [I64 v0, .slice (tr.map rowFi) n1 (adO (c2 + 64 * 1) o1), .slice (ar.map rowEn) n2 (adO (c3 + 64 * 1) o2), I64 ch.1, I64 ch.2.1, I64 ch.2.2.1, I64 ch.2.2.2, .slice (ow.map rowN) n4 (adO (c5 + 64 * 1) o4), .slice (sh.map rowEn) n5 (adO (c6 + 64 * 1) o5), BO tu, I64 pe.1, I64 pe.2.1, I64 pe.2.2.1, I64 pe.2.2.2, .slice (th.map rowEn) n8 (adO (c9 + 64 * 1) o8), .slice (co.map rowS) n9 (adO (c10 + 64 * 1) o9), .slice (wa.map rowPu) n10 (adO (c11 + 64 * 1) o10), BO ha]) = .agg (cellsSt (v0, tr, ar, ch, ow, sh, tu, pe, th, co, wa, ha) ⟨n1, n2, n4, n5, n8, n9, n10, finO o1, finO o2, finO o4, finO o5, finO o8, finO o9, finO o10⟩) from congrArg AV.agg hC]
      exact nohp_a _ _) (by
      rw [List.map_cons, List.map_nil, show strip (.agg [I64 v0, .slice (tr.map rowFi) n1 (adO (c2 + 64 * 1) o1), .slice (ar.map rowEn) n2 (adO (c3 + 64 * 1) o2), I64 ch.1, I64 ch.2.1, I64 ch.2.2.1, I64 ch.2.2.2, .slice (ow.map rowN) n4 (adO (c5 + 64 * 1) o4), .slice (sh.map rowEn) n5 (adO (c6 + 64 * 1) o5), BO tu, I64 pe.1, I64 pe.2.1, I64 pe.2.2.1, I64 pe.2.2.2, .slice (th.map rowEn) n8 (adO (c9 + 64 * 1) o8), .slice (co.map rowS) n9 (adO (c10 + 64 * 1) o9), .slice (wa.map rowPu) n10 (adO (c11 + 64 * 1) o10), BO ha]) = .agg (cellsSt (v0, tr, ar, ch, ow, sh, tu, pe, th, co, wa, ha) ⟨n1, n2, n4, n5, n8, n9, n10, finO o1, finO o2, finO o4, finO o5, finO o8, finO o9, finO o10⟩) from congrArg AV.agg hC]
      exact hq) (by kernel_rfl) (by kernel_rfl) (by kernel_rfl) (by kernel_rfl) (by kernel_rfl) (by kernel_rfl) (by kernel_rfl) ?_
    cases q with
    | false =>
      refine ow_all 10 (by kernel_rfl) ?_
      refine aw_sc true (by kernel_rfl) (fun _ => ?_) (fun h => by cases h)
      refine aw_assoc (aw_sk 10 (by kernel_rfl) ?_)
      refine aw_sret ?_
      exact ⟨.inr rfl, [.agg zeroC, I64 4], by kernel_rfl, by kernel_rfl, .inr ⟨by kernel_rfl, fun k => by have := gq.2 k.2.2; cases this⟩⟩
    | true =>
      refine ow_all 10 (by kernel_rfl) ?_
      refine aw_sc false (by kernel_rfl) (fun h => by cases h) (fun _ => ?_)
      refine aw_sskip (aw_sk 10 (by kernel_rfl) ?_)
      refine aw_ret ?_
      refine ⟨.inr rfl, [.agg [I64 v0, .slice (tr.map rowFi) n1 (adO (c2 + 64 * 1) o1), .slice (ar.map rowEn) n2 (adO (c3 + 64 * 1) o2), I64 ch.1, I64 ch.2.1, I64 ch.2.2.1, I64 ch.2.2.2, .slice (ow.map rowN) n4 (adO (c5 + 64 * 1) o4), .slice (sh.map rowEn) n5 (adO (c6 + 64 * 1) o5), BO tu, I64 pe.1, I64 pe.2.1, I64 pe.2.2.1, I64 pe.2.2.2, .slice (th.map rowEn) n8 (adO (c9 + 64 * 1) o8), .slice (co.map rowS) n9 (adO (c10 + 64 * 1) o9), .slice (wa.map rowPu) n10 (adO (c11 + 64 * 1) o10), BO ha], I64 0], by kernel_rfl, by kernel_rfl, .inl ⟨?_, he11, ha11, gq.1 rfl⟩⟩
      refine Eq.trans (b := .tup [.agg (([I64 v0, .slice (tr.map rowFi) n1 (adO (c2 + 64 * 1) o1), .slice (ar.map rowEn) n2 (adO (c3 + 64 * 1) o2), I64 ch.1, I64 ch.2.1, I64 ch.2.2.1, I64 ch.2.2.2, .slice (ow.map rowN) n4 (adO (c5 + 64 * 1) o4), .slice (sh.map rowEn) n5 (adO (c6 + 64 * 1) o5), BO tu, I64 pe.1, I64 pe.2.1, I64 pe.2.2.1, I64 pe.2.2.2, .slice (th.map rowEn) n8 (adO (c9 + 64 * 1) o8), .slice (co.map rowS) n9 (adO (c10 + 64 * 1) o9), .slice (wa.map rowPu) n10 (adO (c11 + 64 * 1) o10), BO ha] : List AV).map strip1), I64 0]) (by kernel_rfl) (by rw [hC])
  · refine ow_is (x := (e12 != 0)) (w := true) (by simpa using he) (by kernel_rfl) (by kernel_rfl) (by kernel_rfl) (by kernel_rfl) (by kernel_rfl) ?_
    refine ow_all 10 (by kernel_rfl) ?_
    refine aw_sc true (by kernel_rfl) (fun _ => ?_) (fun h => by cases h)
    refine aw_assoc (aw_sk 10 (by kernel_rfl) ?_)
    refine aw_sret ?_
    exact ⟨.inr rfl, [.agg zeroC, I64 4], by kernel_rfl, by kernel_rfl, .inr ⟨by kernel_rfl, fun k => he (hend.2 ⟨k.1, k.2.1⟩)⟩⟩
end Go.Proofs.V.M17
namespace Go.Proofs.V.M17
open Go Go.Proofs Go.Proofs.V Go.Proofs.V.Wire Go.Proofs.V.L17
set_option linter.unusedVariables false
set_option linter.unusedSimpArgs false
set_option maxRecDepth 100000
set_option maxHeartbeats 1000000
/-- The number that bytes come to. -/
def valB (l : BS) : Nat := l.foldl (fun n x => n * 256 + x.toNat) 0
theorem valB_snoc (l : BS) (x : UInt8) : valB (l ++ [x]) = valB l * 256 + x.toNat := by simp [valB]
theorem foldB_lt : ∀ (l : BS) (n : Nat), l.foldl (fun n x => n * 256 + x.toNat) n < (n + 1) * 256 ^ l.length
  | [], n => by simp
  | x :: l, n => by
    have h := foldB_lt l (n * 256 + x.toNat)
    have hx := x.toNat_lt
    rw [List.foldl_cons, List.length_cons, Nat.pow_succ]
    refine Nat.lt_of_lt_of_le h ?_
    rw [Nat.mul_comm (256 ^ l.length) 256, ← Nat.mul_assoc]
    exact Nat.mul_le_mul_right _ (by omega)
theorem valB_lt (l : BS) : valB l < 256 ^ l.length := by
  have := foldB_lt l 0
  simpa [valB] using this
theorem valB_be4 {l : BS} (h : 4 ≤ l.length) : be4 l = some (valB (l.take 4), l.drop 4) := by
  rcases l with _ | ⟨a, _ | ⟨b, _ | ⟨c, _ | ⟨d, l⟩⟩⟩⟩ <;> simp at h
  simp [be4, valB]
theorem bsA_nohp (bs : BS) (a b : Int) : [BSl bs false .no, I64 a, I64 b].all (nohp 9) = true := by
  simp [nohp, bsA, rowOfByte]
theorem row_byte (bs : BS) (i : Nat) (h : i < bs.length) : (bsA bs)[(i : Int).toNat]? = some (rowOfByte bs[i]) := by
  simp [bsA, h]
theorem num105 (bs : BS) (most : Int) (a : Nat) (ha : a ≤ bs.length) (hb : bs.length ≤ 1000000000) :
    ∃ (n : Int) (a' : Nat) (e' : Int), callQ cfgR (evK cfgR) 105 [BSl bs false .no, I64 (a : Nat), I64 most] = some (.tup [I64 n, I64 (a' : Nat), I64 e']) ∧ Rds bs (decN most) n a 0 a' e' ∧ (e' ≠ 0 → n = 0 ∧ a' = a) := by
  suffices h : ∃ r H', evK cfgR 105 [BSl bs false .no, I64 (a : Nat), I64 most] [] = some (r, H') ∧ ∃ (n : Int) (a' : Nat) (e' : Int), (r = .tup [I64 n, I64 (a' : Nat), I64 e'] ∧ H' = []) ∧ Rds bs (decN most) n a 0 a' e' ∧ (e' ≠ 0 → n = 0 ∧ a' = a) by
    obtain ⟨r, H', h, n, a', e', ⟨rfl, rfl⟩, h1, h2⟩ := h
    exact ⟨n, a', e', callQ_of (by kernel_rfl) h, h1, h2⟩
  refine evK_ofE (P := fun r H' => ∃ (n : Int) (a' : Nat) (e' : Int), (r = .tup [I64 n, I64 (a' : Nat), I64 e'] ∧ H' = []) ∧ Rds bs (decN most) n a 0 a' e' ∧ (e' ≠ 0 → n = 0 ∧ a' = a)) Tryz.func105 rfl (of_decide_eq_true (by kernel_rfl)) (by kernel_rfl) (by kernel_rfl) rfl ?_
  unfold Tryz.f105
  dsimp only
  refine aw_sk 10 (by kernel_rfl) ?_
  have hw : IntKind.i64.wrap (((bsA bs).length : Int) - (a : Int)) = ((bs.length - a : Nat) : Int) := by rw [bsA_len, wrapI (by omega) (by omega)]; omega
  refine aw_assoc (aw_sk 10 (by kernel_rfl) ?_)
  refine aw_sc (decide (IntKind.i64.wrap (((bsA bs).length : Int) - (a : Int)) < 4)) (by kernel_rfl) (fun h => ?_) (fun h => ?_)
  · have hs : (bs.drop a).length < 4 := by
      have := of_decide_eq_true h
      rw [hw] at this
      rw [List.length_drop]; omega
    refine aw_assoc (aw_sk 10 (by kernel_rfl) ?_)
    refine aw_sret ?_
    refine ⟨.inr rfl, [I64 0, I64 (a : Nat), I64 4], by kernel_rfl, by kernel_rfl, 0, a, 4, ⟨by kernel_rfl, by kernel_rfl⟩, ⟨ha, fun h => absurd rfl h, fun _ => ?_⟩, fun _ => ⟨rfl, rfl⟩⟩
    rw [show decN most (bs.drop a) = none by unfold decN; rw [be4_none.2 hs]]
    exact (by decide : (4 : Int) ≠ 0)
  have hs : 4 ≤ (bs.drop a).length := by
    have := of_decide_eq_false h
    rw [hw] at this
    rw [List.length_drop]; omega
  have hs' : a + 4 ≤ bs.length := by rw [List.length_drop] at hs; omega
  refine aw_sskip (aw_sk 10 (by kernel_rfl) ?_)
  refine aw_assoc (aw_sk 10 (by kernel_rfl) ?_)
  refine aw_sfor 4 (fun i F => Is 38 [] (cfgR.heap 105) [(0, BSl bs false .no), (1, I64 (a : Nat)), (2, I64 most), (9, I64 (valB ((bs.drop a).take i) : Nat)), (10, I64 (i : Nat))] F) ?_ ?_ ?_
  · exact is_of (by kernel_rfl)
  · rintro i F hi ⟨t, c, al, rfl⟩
    refine aw_assoc (aw_sk 10 (by kernel_rfl) ?_)
    refine aw_sc (decide ((i : Int) < 4)) (by kernel_rfl) (fun _ => ?_) (fun h => absurd (of_decide_eq_false h) (by omega))
    refine aw_sskip (aw_seq (aw_block (aw_region (ow_k 6 10 (by kernel_rfl) ?_))))
    have hai : IntKind.i64.wrap ((a : Int) + (i : Int)) = ((a + i : Nat) : Int) := by rw [wrapI (by omega) (by omega)]; omega
    have hlt : a + i < bs.length := by omega
    refine ow_at (rows := bsA bs) (nl := false) (own := .no) (row := rowOfByte bs[a + i]) (n := IntKind.i64.wrap ((a : Int) + (i : Int))) (e := 5) (by rw [hai]; exact row_byte bs (a + i) hlt) (by rw [hai]; omega) (by kernel_rfl) (by kernel_rfl) (by kernel_rfl) (by kernel_rfl) (by kernel_rfl) (by kernel_rfl) ?_
    refine ow_all 10 (by kernel_rfl) ?_
    dsimp only [Then, InBlock]
    refine aw_rk 10 (by kernel_rfl) ?_
    have hv := valB_lt ((bs.drop a).take i)
    have hl : ((bs.drop a).take i).length ≤ 3 := by rw [List.length_take]; omega
    have hv' : valB ((bs.drop a).take i) < 16777216 := Nat.lt_of_lt_of_le hv (by have := Nat.pow_le_pow_right (n := 256) (by decide) hl; simpa using this)
    have hx := bs[a + i].toNat_lt
    have e1 : valB ((bs.drop a).take (i + 1)) = valB ((bs.drop a).take i) * 256 + bs[a + i].toNat := by
      rw [List.take_succ_eq_append_getElem (by rw [List.length_drop]; omega), valB_snoc, List.getElem_drop]
    refine is_at (l' := [(0, BSl bs false .no), (1, I64 (a : Nat)), (2, I64 most), (9, I64 (IntKind.i64.wrap (IntKind.i64.wrap ((valB ((bs.drop a).take i) : Int) * 256) + IntKind.i64.wrap (bs[a + i].toNat : Int)))), (10, I64 (IntKind.i64.wrap ((i : Int) + 1)))]) (by
      rw [wrapI (x := (valB ((bs.drop a).take i) : Int) * 256) (by omega) (by omega), wrapI (x := (bs[a + i].toNat : Int)) (by omega) (by omega), wrapI (by omega) (by omega), wrapI (by omega) (by omega), e1]
      norm_cast) (by kernel_rfl)
  · rintro F ⟨t, c, al, rfl⟩
    refine aw_assoc (aw_sk 10 (by kernel_rfl) ?_)
    refine aw_sc false (by kernel_rfl) (fun h => by cases h) (fun _ => ?_)
    refine aw_sexit ?_
    dsimp only [Then, InBlock, if_true]
    have hbe := valB_be4 hs
    generalize valB ((bs.drop a).take 4) = N at hbe
    refine aw_assoc (aw_sk 10 (by kernel_rfl) ?_)
    refine aw_sc (decide (most < (N : Int))) (by kernel_rfl) (fun h => ?_) (fun h => ?_)
    · have hm := of_decide_eq_true h
      refine aw_assoc (aw_sk 10 (by kernel_rfl) ?_)
      refine aw_sret ?_
      refine ⟨.inr rfl, [I64 0, I64 (a : Nat), I64 5], by kernel_rfl, by kernel_rfl, 0, a, 5, ⟨by kernel_rfl, by kernel_rfl⟩, ⟨ha, fun h => absurd rfl h, fun _ => ?_⟩, fun _ => ⟨rfl, rfl⟩⟩
      rw [show decN most (bs.drop a) = none by unfold decN; rw [hbe]; exact if_pos hm]
      exact (by decide : (5 : Int) ≠ 0)
    · have hm := of_decide_eq_false h
      refine aw_sskip (aw_sk 10 (by kernel_rfl) ?_)
      refine aw_ret ?_
      have hw4 : IntKind.i64.wrap ((a : Int) + 4) = ((a + 4 : Nat) : Int) := by rw [wrapI (by omega) (by omega)]; omega
      refine ⟨.inr rfl, [I64 (N : Int), I64 (IntKind.i64.wrap ((a : Int) + 4)), I64 0], by kernel_rfl, by kernel_rfl, (N : Int), a + 4, 0, ⟨Eq.trans (b := .tup [I64 (N : Int), I64 (IntKind.i64.wrap ((a : Int) + 4)), I64 0]) (by kernel_rfl) (by rw [hw4]), by kernel_rfl⟩, ⟨by omega, fun h => absurd rfl h, fun _ => ?_⟩, fun h => absurd rfl h⟩
      rw [show decN most (bs.drop a) = some ((N : Int), (bs.drop a).drop 4) by unfold decN; rw [hbe]; exact if_neg (by omega)]
      exact ⟨rfl, rfl, by rw [List.drop_drop]⟩
end Go.Proofs.V.M17
namespace Go.Proofs.V.M17
open Go Go.Proofs Go.Proofs.V Go.Proofs.V.Wire Go.Proofs.V.L17
set_option linter.unusedVariables false
set_option linter.unusedSimpArgs false
set_option maxRecDepth 100000
set_option maxHeartbeats 1000000
theorem text106 (bs : BS) (most : Int) (a : Nat) (ha : a ≤ bs.length) (hb : bs.length ≤ 1000000000) :
    ∃ (s : BS) (a' : Nat) (e' : Int), callQ cfgR (evK cfgR) 106 [BSl bs false .no, I64 (a : Nat), I64 most] = some (.tup [ST s, I64 (a' : Nat), I64 e']) ∧ Rds bs (decS most) s a 0 a' e' ∧ (e' ≠ 0 → s = [] ∧ a' = a) := by
  suffices h : ∃ r H', evK cfgR 106 [BSl bs false .no, I64 (a : Nat), I64 most] [] = some (r, H') ∧ ∃ (s : BS) (a' : Nat) (e' : Int), (r = .tup [ST s, I64 (a' : Nat), I64 e'] ∧ H' = []) ∧ Rds bs (decS most) s a 0 a' e' ∧ (e' ≠ 0 → s = [] ∧ a' = a) by
    obtain ⟨r, H', h, n, a', e', ⟨rfl, rfl⟩, h1, h2⟩ := h
    exact ⟨n, a', e', callQ_of (by kernel_rfl) h, h1, h2⟩
  have hmin : (if (16384 : Int) < most then (16384 : Int) else most) = min most 16384 := by split <;> omega
  obtain ⟨n, a1, e1, hn, ⟨p1, p2, p3⟩, p4⟩ := num105 bs (if (16384 : Int) < most then (16384 : Int) else most) a ha hb
  rw [hmin] at p3
  have p3 := p3 rfl
  refine evK_ofE (P := fun r H' => ∃ (s : BS) (a' : Nat) (e' : Int), (r = .tup [ST s, I64 (a' : Nat), I64 e'] ∧ H' = []) ∧ Rds bs (decS most) s a 0 a' e' ∧ (e' ≠ 0 → s = [] ∧ a' = a)) Tryz.func106 rfl (of_decide_eq_true (by kernel_rfl)) (by kernel_rfl) (by kernel_rfl) rfl ?_
  unfold Tryz.f106
  dsimp only
  refine aw_sk 10 (by kernel_rfl) ?_
  refine aw_sr (ow_k 4 10 (by kernel_rfl) ?_)
  refine ow_callG (k := 105) (first := []) (captured := []) (xs := [BSl bs false .no, I64 (a : Nat), I64 (if (16384 : Int) < most then (16384 : Int) else most)]) (r := .tup [I64 n, I64 (a1 : Nat), I64 e1]) (by kernel_rfl) (by kernel_rfl) (by kernel_rfl) (by kernel_rfl) (by kernel_rfl) (by kernel_rfl) hn (by kernel_rfl) (by kernel_rfl) ?_
  refine ow_all 10 (by kernel_rfl) ?_
  refine aw_abs 42 [] (cfgR.heap 106) [(0, BSl bs false .no), (1, I64 (a : Nat)), (9, I64 n), (10, I64 (a1 : Nat)), (11, I64 e1)] (by kernel_rfl) (fun t1 c1 al1 => ?_)
  refine aw_assoc (aw_sk 10 (by kernel_rfl) ?_)
  refine aw_sc (e1 != 0) (by kernel_rfl) (fun h => ?_) (fun h => ?_)
  · have he1 : e1 ≠ 0 := by simpa using h
    refine aw_assoc (aw_sk 10 (by kernel_rfl) ?_)
    refine aw_sret ?_
    refine ⟨.inr rfl, [ST [], I64 (a : Nat), I64 e1], by kernel_rfl, by kernel_rfl, [], a, e1, ⟨by kernel_rfl, by kernel_rfl⟩, ⟨ha, fun h => absurd rfl h, fun _ => ?_⟩, fun _ => ⟨rfl, rfl⟩⟩
    cases hd : decN (min most 16384) (bs.drop a) with
    | some xr =>
      rw [hd] at p3
      exact absurd p3.2.1 he1
    | none =>
      rw [show decS most (bs.drop a) = none by unfold decS; rw [hd]]
      exact he1
  have he1 : e1 = 0 := by simpa using h
  subst he1
  cases hd : decN (min most 16384) (bs.drop a) with
  | none => rw [hd] at p3; exact absurd rfl p3
  | some xr =>
  obtain ⟨x, r⟩ := xr
  rw [hd] at p3
  obtain ⟨rfl, -, hr⟩ := p3
  obtain ⟨_, hn0, hn1, hn2⟩ := (num (min most 16384)).B _ _ _ hd
  have hrl : r.length = bs.length - a1 := by rw [← hr, List.length_drop]
  have hw : IntKind.i64.wrap (((bsA bs).length : Int) - (a1 : Int)) = ((bs.length - a1 : Nat) : Int) := by rw [bsA_len, wrapI (by omega) (by omega)]; omega
  refine aw_sskip (aw_assoc (aw_sk 10 (by kernel_rfl) ?_))
  refine aw_sc (decide (IntKind.i64.wrap (((bsA bs).length : Int) - (a1 : Int)) < n)) (by kernel_rfl) (fun h => ?_) (fun h => ?_)
  · have hlt := of_decide_eq_true h
    rw [hw] at hlt
    refine aw_assoc (aw_sk 10 (by kernel_rfl) ?_)
    refine aw_sret ?_
    refine ⟨.inr rfl, [ST [], I64 (a : Nat), I64 4], by kernel_rfl, by kernel_rfl, [], a, 4, ⟨by kernel_rfl, by kernel_rfl⟩, ⟨ha, fun h => absurd rfl h, fun _ => ?_⟩, fun _ => ⟨rfl, rfl⟩⟩
    rw [show decS most (bs.drop a) = none by unfold decS; rw [hd]; exact if_pos (by omega)]
    exact (by decide : (4 : Int) ≠ 0)
  · have hge := of_decide_eq_false h
    rw [hw] at hge
    have hwn : IntKind.i64.wrap ((a1 : Int) + n) = ((a1 + n.toNat : Nat) : Int) := by rw [wrapI (by omega) (by omega)]; omega
    refine aw_sskip ?_
    refine aw_sr (ow_k 5 10 (by kernel_rfl) ?_)
    refine ow_sube (rows := bsA bs) (nl := false) (own := .no) (el := 5) (sz := 1) (l := (a1 : Nat)) (u := IntKind.i64.wrap ((a1 : Int) + n)) (bsA (r.take n.toNat)) (by
      rw [hwn, Int.toNat_natCast, Int.toNat_natCast, List.drop_take, ← hr]
      simp only [bsA, ← List.map_drop, ← List.map_take]
      rw [show a1 + n.toNat - a1 = n.toNat by omega]) (by omega) (by omega) (by rw [bsA_len]; omega) (bsA_all bs) (by kernel_rfl) (by kernel_rfl) (by kernel_rfl) (by kernel_rfl) (by kernel_rfl) (by kernel_rfl) (by kernel_rfl) ?_
    refine ow_toS (bs := r.take n.toNat) (nl := false) (own := .no) (e := 5) (by kernel_rfl) (by kernel_rfl) (by kernel_rfl) (by kernel_rfl) (by kernel_rfl) (by kernel_rfl) ?_
    refine ow_all 10 (by kernel_rfl) ?_
    refine aw_ret ?_
    refine ⟨.inr rfl, [ST (r.take n.toNat), I64 (IntKind.i64.wrap ((a1 : Int) + n)), I64 0], by kernel_rfl, by kernel_rfl, r.take n.toNat, a1 + n.toNat, 0, ⟨Eq.trans (b := .tup [ST (r.take n.toNat), I64 (IntKind.i64.wrap ((a1 : Int) + n)), I64 0]) (by kernel_rfl) (by rw [hwn]), by kernel_rfl⟩, ⟨by omega, fun h => absurd rfl h, fun _ => ?_⟩, fun h => absurd rfl h⟩
    rw [show decS most (bs.drop a) = some (r.take n.toNat, r.drop n.toNat) by unfold decS; rw [hd]; exact if_neg (by omega)]
    exact ⟨rfl, rfl, by rw [← hr, List.drop_drop]⟩
theorem Rds.fail {bs : BS} {α : Type} {d : BS → Option (α × BS)} {v : α} {a a' : Nat} {e e' : Int} (h1 : a' ≤ bs.length) (h2 : e ≠ 0) (h3 : e' ≠ 0) : Rds bs d v a e a' e' := ⟨h1, fun _ => h3, fun h => absurd h h2⟩
theorem rnum76 (bs : BS) (most : Int) (a : Nat) (e : Int) (R : List (List AV)) (ha : a ≤ bs.length) (hb : bs.length ≤ 1000000000) :
    ∃ (n : Int) (a' : Nat) (e' : Int), evK cfgR 76 [.hp 0 0, I64 most] (O bs a e :: R) = some (I64 n, O bs a' e' :: R) ∧ Rds bs (decN most) n a e a' e' ∧ (e' ≠ 0 → n = 0) := by
  suffices h : ∃ r H', evK cfgR 76 [.hp 0 0, I64 most] (O bs a e :: R) = some (r, H') ∧ ∃ (n : Int) (a' : Nat) (e' : Int), (r = I64 n ∧ H' = O bs a' e' :: R) ∧ Rds bs (decN most) n a e a' e' ∧ (e' ≠ 0 → n = 0) by
    obtain ⟨r, H', h, n, a', e', ⟨rfl, rfl⟩, h1, h2⟩ := h
    exact ⟨n, a', e', h, h1, h2⟩
  refine evK_ofE (P := fun r H' => ∃ (n : Int) (a' : Nat) (e' : Int), (r = I64 n ∧ H' = O bs a' e' :: R) ∧ Rds bs (decN most) n a e a' e' ∧ (e' ≠ 0 → n = 0)) Tryz.func76 rfl (of_decide_eq_true (by kernel_rfl)) (by kernel_rfl) (by kernel_rfl) rfl ?_
  unfold Tryz.f76
  dsimp only
  refine aw_sk 10 (by kernel_rfl) ?_
  refine aw_assoc (aw_sk 10 (by kernel_rfl) ?_)
  refine aw_sc (e != 0) (by kernel_rfl) (fun h => ?_) (fun h => ?_)
  · have he : e ≠ 0 := by simpa using h
    refine aw_assoc (aw_sk 10 (by kernel_rfl) ?_)
    refine aw_sret ?_
    exact ⟨.inr rfl, [I64 0], by kernel_rfl, by kernel_rfl, 0, a, e, ⟨by kernel_rfl, by kernel_rfl⟩, ⟨ha, fun _ => he, fun h => absurd h he⟩, fun _ => rfl⟩
  have he : e = 0 := by simpa using h
  subst he
  obtain ⟨n, a1, e1, hn, p, p4⟩ := num105 bs most a ha hb
  refine aw_sskip (aw_sr (ow_k 9 10 (by kernel_rfl) ?_))
  refine ow_callDG (k := 105) (first := []) (captured := []) (xs := [BSl bs false .no, I64 (a : Nat), I64 most]) (r := .tup [I64 n, I64 (a1 : Nat), I64 e1]) (by kernel_rfl) (by kernel_rfl) (by kernel_rfl) (by kernel_rfl) (by kernel_rfl) (by rw [show ([BSl bs false .no, I64 (a : Nat), I64 most].map strip).all (nohp 9) = true from bsA_nohp bs _ _, Bool.or_true]) hn (by kernel_rfl) (by kernel_rfl) ?_
  refine ow_all 10 (by kernel_rfl) ?_
  refine aw_sk 10 (by kernel_rfl) ?_
  refine aw_sk 10 (by kernel_rfl) ?_
  refine aw_sk 10 (by kernel_rfl) ?_
  refine aw_ret ?_
  exact ⟨.inr rfl, [I64 n], by kernel_rfl, by kernel_rfl, n, a1, e1, ⟨by kernel_rfl, by kernel_rfl⟩, p, fun h => (p4 h).1⟩
theorem rstr77 (bs : BS) (most : Int) (a : Nat) (e : Int) (R : List (List AV)) (ha : a ≤ bs.length) (hb : bs.length ≤ 1000000000) :
    ∃ (n : BS) (a' : Nat) (e' : Int), evK cfgR 77 [.hp 0 0, I64 most] (O bs a e :: R) = some (ST n, O bs a' e' :: R) ∧ Rds bs (decS most) n a e a' e' ∧ (e' ≠ 0 → n = []) := by
  suffices h : ∃ r H', evK cfgR 77 [.hp 0 0, I64 most] (O bs a e :: R) = some (r, H') ∧ ∃ (n : BS) (a' : Nat) (e' : Int), (r = ST n ∧ H' = O bs a' e' :: R) ∧ Rds bs (decS most) n a e a' e' ∧ (e' ≠ 0 → n = []) by
    obtain ⟨r, H', h, n, a', e', ⟨rfl, rfl⟩, h1, h2⟩ := h
    exact ⟨n, a', e', h, h1, h2⟩
  refine evK_ofE (P := fun r H' => ∃ (n : BS) (a' : Nat) (e' : Int), (r = ST n ∧ H' = O bs a' e' :: R) ∧ Rds bs (decS most) n a e a' e' ∧ (e' ≠ 0 → n = [])) Tryz.func77 rfl (of_decide_eq_true (by kernel_rfl)) (by kernel_rfl) (by kernel_rfl) rfl ?_
  unfold Tryz.f77
  dsimp only
  refine aw_sk 10 (by kernel_rfl) ?_
  refine aw_assoc (aw_sk 10 (by kernel_rfl) ?_)
  refine aw_sc (e != 0) (by kernel_rfl) (fun h => ?_) (fun h => ?_)
  · have he : e ≠ 0 := by simpa using h
    refine aw_assoc (aw_sk 10 (by kernel_rfl) ?_)
    refine aw_sret ?_
    exact ⟨.inr rfl, [ST []], by kernel_rfl, by kernel_rfl, [], a, e, ⟨by kernel_rfl, by kernel_rfl⟩, ⟨ha, fun _ => he, fun h => absurd h he⟩, fun _ => rfl⟩
  have he : e = 0 := by simpa using h
  subst he
  obtain ⟨n, a1, e1, hn, p, p4⟩ := text106 bs most a ha hb
  refine aw_sskip (aw_sr (ow_k 9 10 (by kernel_rfl) ?_))
  refine ow_callDG (k := 106) (first := []) (captured := []) (xs := [BSl bs false .no, I64 (a : Nat), I64 most]) (r := .tup [ST n, I64 (a1 : Nat), I64 e1]) (by kernel_rfl) (by kernel_rfl) (by kernel_rfl) (by kernel_rfl) (by kernel_rfl) (by rw [show ([BSl bs false .no, I64 (a : Nat), I64 most].map strip).all (nohp 9) = true from bsA_nohp bs _ _, Bool.or_true]) hn (by kernel_rfl) (by kernel_rfl) ?_
  refine ow_all 10 (by kernel_rfl) ?_
  refine aw_sk 10 (by kernel_rfl) ?_
  refine aw_sk 10 (by kernel_rfl) ?_
  refine aw_sk 10 (by kernel_rfl) ?_
  refine aw_ret ?_
  exact ⟨.inr rfl, [ST n], by kernel_rfl, by kernel_rfl, n, a1, e1, ⟨by kernel_rfl, by kernel_rfl⟩, p, fun h => (p4 h).1⟩
theorem rend81 (bs : BS) (a : Nat) (e : Int) (R : List (List AV)) (ha : a ≤ bs.length) : ∃ (a' : Nat) (e' : Int), evK cfgR 81 [.hp 0 0] (O bs a e :: R) = some (I64 e', O bs a' e' :: R) ∧ (e' = 0 ↔ e = 0 ∧ a = bs.length) := by
  suffices h : ∃ r H', evK cfgR 81 [.hp 0 0] (O bs a e :: R) = some (r, H') ∧ ∃ (a' : Nat) (e' : Int), (r = I64 e' ∧ H' = O bs a' e' :: R) ∧ (e' = 0 ↔ e = 0 ∧ a = bs.length) by
    obtain ⟨r, H', h, a', e', ⟨rfl, rfl⟩, h1⟩ := h
    exact ⟨a', e', h, h1⟩
  refine evK_ofE (P := fun r H' => ∃ (a' : Nat) (e' : Int), (r = I64 e' ∧ H' = O bs a' e' :: R) ∧ (e' = 0 ↔ e = 0 ∧ a = bs.length)) Tryz.func81 rfl (of_decide_eq_true (by kernel_rfl)) (by kernel_rfl) (by kernel_rfl) rfl ?_
  unfold Tryz.f81
  dsimp only
  refine aw_sk 10 (by kernel_rfl) ?_
  refine aw_assoc (aw_sr (ow_k 4 10 (by kernel_rfl) ?_))
  by_cases he : e = 0
  · subst he
    refine ow_all 10 (by kernel_rfl) ?_
    refine aw_sc (decide ((a : Int) < ((bsA bs).length : Int))) (by kernel_rfl) (fun h => ?_) (fun h => ?_)
    · have hlt := of_decide_eq_true h
      rw [bsA_len] at hlt
      refine aw_sk 10 (by kernel_rfl) ?_
      refine aw_sk 10 (by kernel_rfl) ?_
      refine aw_ret ?_
      exact ⟨.inr rfl, [I64 4], by kernel_rfl, by kernel_rfl, a, 4, ⟨by kernel_rfl, by kernel_rfl⟩, ⟨fun h => absurd h (by decide), fun h => by omega⟩⟩
    · have hge := of_decide_eq_false h
      rw [bsA_len] at hge
      refine aw_sskip (aw_sk 10 (by kernel_rfl) ?_)
      refine aw_ret ?_
      exact ⟨.inr rfl, [I64 0], by kernel_rfl, by kernel_rfl, a, 0, ⟨by kernel_rfl, by kernel_rfl⟩, ⟨fun _ => ⟨rfl, by omega⟩, fun _ => rfl⟩⟩
  · refine ow_is (x := (e == 0)) (w := false) (by simpa using he) (by kernel_rfl) (by kernel_rfl) (by kernel_rfl) (by kernel_rfl) (by kernel_rfl) ?_
    refine ow_all 10 (by kernel_rfl) ?_
    refine aw_sc false (by kernel_rfl) (fun h => by cases h) (fun _ => ?_)
    refine aw_sskip (aw_sk 10 (by kernel_rfl) ?_)
    refine aw_ret ?_
    exact ⟨.inr rfl, [I64 e], by kernel_rfl, by kernel_rfl, a, e, ⟨by kernel_rfl, by kernel_rfl⟩, ⟨fun h => absurd h he, fun h => absurd h.1 he⟩⟩
end Go.Proofs.V.M17
namespace Go.Proofs.V.M17
open Go Go.Proofs Go.Proofs.V Go.Proofs.V.Wire Go.Proofs.V.L17
set_option linter.unusedVariables false
set_option linter.unusedSimpArgs false
set_option maxRecDepth 100000
set_option maxHeartbeats 1000000
def dFi : Codec Fi := prod (str 100) (str 600)
def dEn : Codec En := prod (str 100) (prod Wire.bool (prod (str 600) (prod (num maxN) (num maxN))))
def dPu : Codec Pu := prod (num maxN) (str 16)
theorem place79 (bs : BS) (a : Nat) (e : Int) (R : List (List AV)) (ha : a ≤ bs.length) (hb : bs.length ≤ 1000000000) :
    ∃ (x : Cu) (a' : Nat) (e' : Int), evK cfgR 79 [.hp 0 0] (O bs a e :: R) = some (.agg (cellsCu x), O bs a' e' :: R) ∧ Rds bs cCu.dec x a e a' e' := by
  obtain ⟨v0, a0, e0, h0, p0, _⟩ := rnum76 bs 4294967295 a e R ha hb
  obtain ⟨v1, a1, e1, h1, p1, _⟩ := rnum76 bs 4294967295 a0 e0 R p0.1 hb
  obtain ⟨v2, a2, e2, h2, p2, _⟩ := rnum76 bs 4294967295 a1 e1 R p1.1 hb
  obtain ⟨v3, a3, e3, h3, p3, _⟩ := rnum76 bs 4294967295 a2 e2 R p2.1 hb
  refine ⟨(v0, v1, v2, v3), a3, e3, ?_, Rds.prod (c := num maxN) p0 (Rds.prod (c := num maxN) p1 (Rds.prod (c := num maxN) (d := num maxN) p2 p3))⟩
  refine evK_of Tryz.func79 rfl (of_decide_eq_true (by kernel_rfl)) (by kernel_rfl) (by kernel_rfl) rfl ?_
  unfold Tryz.f79
  dsimp only
  refine aw_sk 10 (by kernel_rfl) ?_
  refine aw_sr (ow_k 1 10 (by kernel_rfl) ?_)
  refine ow_callE0 (k := 76) (first := []) (captured := []) (xs := [.hp 0 0, I64 4294967295]) (r := I64 v0) h0 (by kernel_rfl) (by kernel_rfl) (by kernel_rfl) (by kernel_rfl) (by kernel_rfl) (by kernel_rfl) (by kernel_rfl) (by kernel_rfl) ?_
  refine ow_all 10 (by kernel_rfl) ?_
  refine aw_sr (ow_k 1 10 (by kernel_rfl) ?_)
  refine ow_callE0 (k := 76) (first := []) (captured := []) (xs := [.hp 0 0, I64 4294967295]) (r := I64 v1) h1 (by kernel_rfl) (by kernel_rfl) (by kernel_rfl) (by kernel_rfl) (by kernel_rfl) (by kernel_rfl) (by kernel_rfl) (by kernel_rfl) ?_
  refine ow_all 10 (by kernel_rfl) ?_
  refine aw_sr (ow_k 1 10 (by kernel_rfl) ?_)
  refine ow_callE0 (k := 76) (first := []) (captured := []) (xs := [.hp 0 0, I64 4294967295]) (r := I64 v2) h2 (by kernel_rfl) (by kernel_rfl) (by kernel_rfl) (by kernel_rfl) (by kernel_rfl) (by kernel_rfl) (by kernel_rfl) (by kernel_rfl) ?_
  refine ow_all 10 (by kernel_rfl) ?_
  refine aw_sr (ow_k 1 10 (by kernel_rfl) ?_)
  refine ow_callE0 (k := 76) (first := []) (captured := []) (xs := [.hp 0 0, I64 4294967295]) (r := I64 v3) h3 (by kernel_rfl) (by kernel_rfl) (by kernel_rfl) (by kernel_rfl) (by kernel_rfl) (by kernel_rfl) (by kernel_rfl) (by kernel_rfl) ?_
  refine ow_all 10 (by kernel_rfl) ?_
  refine aw_sk 10 (by kernel_rfl) ?_
  refine aw_ret ?_
  exact ⟨.inr rfl, [.agg [I64 v0, I64 v1, I64 v2, I64 v3]], by kernel_rfl, by kernel_rfl, by kernel_rfl, by kernel_rfl⟩
theorem rds_none {bs : BS} {α : Type} {d : BS → Option (α × BS)} {x : α} {a a' : Nat} {e' : Int} (h : Rds bs d x a 0 a' e') (he : e' ≠ 0) : d (bs.drop a) = none := by
  have := h.2.2 rfl
  cases hd : d (bs.drop a) with
  | none => rfl
  | some p => rw [hd] at this; exact absurd this.2.1 he
theorem rds_some {bs : BS} {α : Type} {d : BS → Option (α × BS)} {x : α} {a a' : Nat} (h : Rds bs d x a 0 a' 0) : d (bs.drop a) = some (x, bs.drop a') := by
  have := h.2.2 rfl
  cases hd : d (bs.drop a) with
  | none => rw [hd] at this; exact absurd rfl this
  | some p => obtain ⟨y, r⟩ := p; rw [hd] at this; obtain ⟨rfl, _, h3⟩ := this; rw [h3]
theorem entries78 (bs : BS) (a : Nat) (e : Int) (R : List (List AV)) (ha : a ≤ bs.length) (hb : bs.length ≤ 1000000000) :
    ∃ (xs : List En) (nl : Bool) (o : Own) (a' : Nat) (e' : Int), evK cfgR 78 [.hp 0 0] (O bs a e :: R) = some (.slice (xs.map rowEn) nl o, O bs a' e' :: R) ∧ RO xs nl o ∧ Rds bs (Wire.list 32 dEn).dec xs a e a' e' := by
  suffices h : ∃ r H', evK cfgR 78 [.hp 0 0] (O bs a e :: R) = some (r, H') ∧ (∃ (xs : List En) (nl : Bool) (o : Own) (a' : Nat) (e' : Int), (r = .slice (xs.map rowEn) nl o ∧ H' = O bs a' e' :: R) ∧ RO xs nl o ∧ Rds bs (Wire.list 32 dEn).dec xs a e a' e') by
    obtain ⟨r, H', h, xs, nl, o, a', e', ⟨rfl, rfl⟩, h1, h2⟩ := h
    exact ⟨xs, nl, o, a', e', h, h1, h2⟩
  obtain ⟨n, a1, e1, hn, pn, hz⟩ := rnum76 bs 32 a e R ha hb
  have hn0 : 0 ≤ n ∧ n ≤ 1000 := by
    obtain ⟨q1, q2, q3⟩ := pn
    by_cases h : e1 = 0
    · have he : e = 0 := Classical.byContradiction fun k => q2 k h
      have q3 := q3 he
      cases hd : decN 32 (bs.drop a) with
      | none => rw [hd] at q3; exact absurd h q3
      | some xr =>
        obtain ⟨x, r⟩ := xr
        rw [hd] at q3
        obtain ⟨rfl, -, -⟩ := q3
        obtain ⟨_, k1, k2, _⟩ := (num 32).B _ _ _ hd
        exact ⟨k1, by omega⟩
    · rw [hz h]; exact ⟨by decide, by decide⟩
  obtain ⟨N, rfl⟩ := Int.eq_ofNat_of_zero_le hn0.1
  refine evK_ofE (P := fun r H' => (∃ (xs : List En) (nl : Bool) (o : Own) (a' : Nat) (e' : Int), (r = .slice (xs.map rowEn) nl o ∧ H' = O bs a' e' :: R) ∧ RO xs nl o ∧ Rds bs (Wire.list 32 dEn).dec xs a e a' e')) Tryz.func78 rfl (of_decide_eq_true (by kernel_rfl)) (by kernel_rfl) (by kernel_rfl) rfl ?_
  unfold Tryz.f78
  dsimp only
  refine aw_sk 10 (by kernel_rfl) ?_
  refine aw_sr (ow_k 1 10 (by kernel_rfl) ?_)
  refine ow_callE0 (k := 76) (first := []) (captured := []) (xs := [.hp 0 0, I64 32]) (r := I64 (N : Nat)) hn (by kernel_rfl) (by kernel_rfl) (by kernel_rfl) (by kernel_rfl) (by kernel_rfl) (by kernel_rfl) (by kernel_rfl) (by kernel_rfl) ?_
  refine ow_all 10 (by kernel_rfl) ?_
  refine aw_sk 10 (by kernel_rfl) ?_
  refine aw_assoc (aw_sk 10 (by kernel_rfl) ?_)
  refine aw_sfor N (fun i F => ∃ (xs : List En) (a' : Nat) (e2 : Int), IsG 37 (O bs a' e2 :: R) (cfgR.heap 78) 4 (xs.map rowEn) [(0, .hp 0 0), (3, I64 (N : Nat)), (5, I64 (i : Nat))] F ∧ a' ≤ bs.length ∧ xs.length = i ∧ (e2 = 0 → e1 = 0 ∧ decL dEn.dec N (bs.drop a1) = (decL dEn.dec (N - i) (bs.drop a')).map fun p => (xs ++ p.1, p.2)) ∧ (e2 ≠ 0 → e1 = 0 → decL dEn.dec N (bs.drop a1) = none)) ?_ ?_ ?_
  · exact ⟨[], a1, e1, isG_nil (by kernel_rfl) rfl, pn.1, rfl, fun h => ⟨h, by simp⟩, fun h h' => absurd h' h⟩
  · rintro i F hi ⟨xs, a2, e2, ⟨t, c, al, o3, nl3, rfl, hg⟩, ha2, hxl, hok, hbad⟩
    have hf : Fresh al o3 := freshG hg
    obtain ⟨s, a3, e3, h3, p3, _⟩ := rstr77 bs 100 a2 e2 R ha2 hb
    obtain ⟨nb, a4, e4, h4, p4, _⟩ := rnum76 bs 1 a3 e3 R p3.1 hb
    obtain ⟨d, a5, e5, h5, p5, _⟩ := rstr77 bs 600 a4 e4 R p4.1 hb
    obtain ⟨l, a6, e6, h6, p6, _⟩ := rnum76 bs 4294967295 a5 e5 R p5.1 hb
    obtain ⟨r, a7, e7, h7, p7, _⟩ := rnum76 bs 4294967295 a6 e6 R p6.1 hb
    have px : Rds bs dEn.dec (s, nb == 1, d, l, r) a2 e2 a7 e7 := Rds.prod (c := str 100) p3 (Rds.prod (c := Wire.bool) p4.bool (Rds.prod (c := str 600) p5 (Rds.prod (c := num maxN) (d := num maxN) p6 p7)))
    refine aw_assoc (aw_sk 10 (by kernel_rfl) ?_)
    refine aw_sc (decide ((i : Int) < (N : Int))) (by kernel_rfl) (fun _ => ?_) (fun h => absurd (of_decide_eq_false h) (by omega))
    refine aw_sskip (aw_seq (aw_block (aw_sr (ow_k 1 10 (by kernel_rfl) ?_))))
    refine ow_callE0 (k := 77) (first := []) (captured := []) (xs := [.hp 0 0, I64 100]) (r := ST s) h3 (by kernel_rfl) (by kernel_rfl) (by kernel_rfl) (by kernel_rfl) (by kernel_rfl) (by kernel_rfl) (by kernel_rfl) (by kernel_rfl) ?_
    refine ow_k 2 10 (by kernel_rfl) ?_
    refine ow_st 6 0 [ST [], BO false, ST [], I64 0, I64 0] (.agg [ST s, BO false, ST [], I64 0, I64 0]) (by kernel_rfl) (by kernel_rfl) (by kernel_rfl) (by kernel_rfl) (by kernel_rfl) (by kernel_rfl) (by kernel_rfl) ?_
    refine ow_nil ?_
    refine aw_sr (ow_k 1 10 (by kernel_rfl) ?_)
    refine ow_callE0 (k := 76) (first := []) (captured := []) (xs := [.hp 0 0, I64 1]) (r := I64 nb) h4 (by kernel_rfl) (by kernel_rfl) (by kernel_rfl) (by kernel_rfl) (by kernel_rfl) (by kernel_rfl) (by kernel_rfl) (by kernel_rfl) ?_
    refine ow_k 2 10 (by kernel_rfl) ?_
    refine ow_st 6 1 [ST s, BO false, ST [], I64 0, I64 0] (BO (nb == 1)) (by kernel_rfl) (by kernel_rfl) (by kernel_rfl) (by kernel_rfl) (by kernel_rfl) (by kernel_rfl) (by kernel_rfl) ?_
    refine ow_nil ?_
    refine aw_sr (ow_k 1 10 (by kernel_rfl) ?_)
    refine ow_callE0 (k := 77) (first := []) (captured := []) (xs := [.hp 0 0, I64 600]) (r := ST d) h5 (by kernel_rfl) (by kernel_rfl) (by kernel_rfl) (by kernel_rfl) (by kernel_rfl) (by kernel_rfl) (by kernel_rfl) (by kernel_rfl) ?_
    refine ow_k 1 10 (by kernel_rfl) ?_
    refine ow_st 6 2 [ST s, BO (nb == 1), ST [], I64 0, I64 0] (ST d) (by kernel_rfl) (by kernel_rfl) (by kernel_rfl) (by kernel_rfl) (by kernel_rfl) (by kernel_rfl) (by kernel_rfl) ?_
    refine ow_nil ?_
    refine aw_sr (ow_k 1 10 (by kernel_rfl) ?_)
    refine ow_callE0 (k := 76) (first := []) (captured := []) (xs := [.hp 0 0, I64 4294967295]) (r := I64 l) h6 (by kernel_rfl) (by kernel_rfl) (by kernel_rfl) (by kernel_rfl) (by kernel_rfl) (by kernel_rfl) (by kernel_rfl) (by kernel_rfl) ?_
    refine ow_k 2 10 (by kernel_rfl) ?_
    refine ow_st 6 3 [ST s, BO (nb == 1), ST d, I64 0, I64 0] (I64 l) (by kernel_rfl) (by kernel_rfl) (by kernel_rfl) (by kernel_rfl) (by kernel_rfl) (by kernel_rfl) (by kernel_rfl) ?_
    refine ow_nil ?_
    refine aw_sr (ow_k 1 10 (by kernel_rfl) ?_)
    refine ow_callE0 (k := 76) (first := []) (captured := []) (xs := [.hp 0 0, I64 4294967295]) (r := I64 r) h7 (by kernel_rfl) (by kernel_rfl) (by kernel_rfl) (by kernel_rfl) (by kernel_rfl) (by kernel_rfl) (by kernel_rfl) (by kernel_rfl) ?_
    refine ow_k 2 10 (by kernel_rfl) ?_
    refine ow_st 6 4 [ST s, BO (nb == 1), ST d, I64 l, I64 0] (I64 r) (by kernel_rfl) (by kernel_rfl) (by kernel_rfl) (by kernel_rfl) (by kernel_rfl) (by kernel_rfl) (by kernel_rfl) ?_
    refine ow_nil ?_
    refine aw_region (ow_k 1 10 (by kernel_rfl) ?_)
    refine ow_ld 6 0 [ST s, BO (nb == 1), ST d, I64 l, I64 r] (.agg (rowEn (s, nb == 1, d, l, r))) (by kernel_rfl) (by kernel_rfl) (by kernel_rfl) (by kernel_rfl) (by kernel_rfl) (by kernel_rfl) ?_
    refine ow_k 1 10 (by kernel_rfl) ?_
    refine ow_app (rows := xs.map rowEn) (ys := [rowEn (s, nb == 1, d, l, r)]) (own := o3) (nl := nl3) (X := .slice [rowEn (s, nb == 1, d, l, r)] false .full) (ty := 23) (e := 42) (sz := 5) (by_ := 56) (z := [ST [], BO false, ST [], I64 0, I64 0]) (freshE (al' := markR (c + 64 * 3 + 64 * 5 + 64 * 5 + 64 * 4 + 64 * 5 + 64 * 1) (markR (c + 64 * 3 + 64 * 5 + 64 * 5 + 64 * 4 + 64 * 1) (markR (c + 64 * 3 + 64 * 5 + 64 * 5 + 64 * 1) (markR (c + 64 * 3 + 64 * 5 + 64 * 1) (markR (c + 64 * 3 + 64 * 1) al (ST s)) (I64 nb)) (ST d)) (I64 l)) (I64 r)) (by kernel_rfl) (fresh_mark (fresh_mark (fresh_mark (fresh_mark (fresh_mark hf _ _) _ _) _ _) _ _) _ _)) (by simp) (rowEn_all _) (by simp [rowEn]) (by
      simp only [List.length_map, List.length_cons, List.length_nil]
      omega) (by kernel_rfl) (by kernel_rfl) (by kernel_rfl) (by kernel_rfl) (by kernel_rfl) (by kernel_rfl) (by kernel_rfl) (by kernel_rfl) rfl rfl rfl (by kernel_rfl) (by kernel_rfl) (fun al' ha' => ?_)
    refine ow_all 10 (by kernel_rfl) ?_
    refine aw_rk 10 (by kernel_rfl) ?_
    refine ⟨xs ++ [(s, nb == 1, d, l, r)], a7, e7, isG_id (l' := [(0, .hp 0 0), (3, I64 (N : Nat)), (5, I64 (IntKind.i64.wrap ((i : Int) + 1)))]) (rows' := xs.map rowEn ++ [rowEn (s, nb == 1, d, l, r)]) (k := (c + 64 * 3 + 64 * 5 + 64 * 5 + 64 * 4 + 64 * 5 + 64 * 5 + 64 * 3)) (al' := al') (by rw [succ64 (by omega)]) (by kernel_rfl) (by simp) (by kernel_rfl) ha', px.1, by simp [hxl], fun h7' => ?_, fun h7' h1 => ?_⟩
    · have he2 : e2 = 0 := Classical.byContradiction fun h => px.2.1 h h7'
      subst he2; subst h7'
      exact ⟨(hok rfl).1, decL_step _ hi (hok rfl).2 (rds_some px)⟩
    · by_cases he2 : e2 = 0
      · subst he2
        exact decL_fail _ hi (hok rfl).2 (rds_none px h7')
      · exact hbad he2 h1
  · rintro F ⟨xs, a2, e2, ⟨t, c, al, o3, nl3, rfl, hg⟩, ha2, hxl, hok, hbad⟩
    refine aw_assoc (aw_sk 10 (by kernel_rfl) ?_)
    refine aw_sc (decide ((N : Int) < (N : Int))) (by kernel_rfl) (fun h => absurd (of_decide_eq_true h) (by omega)) (fun _ => ?_)
    refine aw_sexit ?_
    dsimp only [Then, InBlock, if_true]
    refine aw_sk 10 (by kernel_rfl) ?_
    refine aw_ret ?_
    have hrd : Rds bs (Wire.list 32 dEn).dec xs a e a2 e2 := rds_list pn ha2 (fun h h2 => h (hok h2).1) (fun he => by
      rw [Int.toNat_natCast]
      by_cases he2 : e2 = 0
      · subst he2
        rw [(hok rfl).2, Nat.sub_self]
        simp [decL]
      · rw [hbad he2 he]
        exact he2)
    rcases hg with ⟨hx, rfl, rfl⟩ | ⟨k, rfl, hk, rfl⟩
    · have hx' : xs = [] := List.map_eq_nil_iff.1 hx
      exact ⟨.inr rfl, [.slice (xs.map rowEn) true .full], by kernel_rfl, by kernel_rfl, xs, true, .full, a2, e2, ⟨by kernel_rfl, by kernel_rfl⟩, .inl ⟨hx', rfl, rfl⟩, hrd⟩
    · exact ⟨.inr rfl, [.slice (xs.map rowEn) false (.id k)], by kernel_rfl, by kernel_rfl, xs, false, .fresh, a2, e2, ⟨leave_at (al' := al) (by kernel_rfl) hk, by kernel_rfl⟩, .inr ⟨rfl, rfl⟩, hrd⟩
end Go.Proofs.V.M17
namespace Go.Proofs.V.M17
open Go Go.Proofs Go.Proofs.V Go.Proofs.V.Wire Go.Proofs.V.L17
set_option linter.unusedVariables false
set_option linter.unusedSimpArgs false
set_option maxRecDepth 100000
set_option maxHeartbeats 1000000
theorem row80 (bs : BS) (a : Nat) (e : Int) (R : List (List AV)) (ha : a ≤ bs.length) (hb : bs.length ≤ 1000000000) :
    ∃ (xs : List BS) (nl : Bool) (o : Own) (a' : Nat) (e' : Int), evK cfgR 80 [.hp 0 0, I64 32, I64 100] (O bs a e :: R) = some (.slice (xs.map rowS) nl o, O bs a' e' :: R) ∧ RO xs nl o ∧ Rds bs (Wire.list 32 (str 100)).dec xs a e a' e' := by
  suffices h : ∃ r H', evK cfgR 80 [.hp 0 0, I64 32, I64 100] (O bs a e :: R) = some (r, H') ∧ (∃ (xs : List BS) (nl : Bool) (o : Own) (a' : Nat) (e' : Int), (r = .slice (xs.map rowS) nl o ∧ H' = O bs a' e' :: R) ∧ RO xs nl o ∧ Rds bs (Wire.list 32 (str 100)).dec xs a e a' e') by
    obtain ⟨r, H', h, xs, nl, o, a', e', ⟨rfl, rfl⟩, h1, h2⟩ := h
    exact ⟨xs, nl, o, a', e', h, h1, h2⟩
  refine evK_ofE (P := fun r H' => (∃ (xs : List BS) (nl : Bool) (o : Own) (a' : Nat) (e' : Int), (r = .slice (xs.map rowS) nl o ∧ H' = O bs a' e' :: R) ∧ RO xs nl o ∧ Rds bs (Wire.list 32 (str 100)).dec xs a e a' e')) Tryz.func80 rfl (of_decide_eq_true (by kernel_rfl)) (by kernel_rfl) (by kernel_rfl) rfl ?_
  unfold Tryz.f80
  dsimp only
  refine aw_sk 10 (by kernel_rfl) ?_
  refine aw_assoc (aw_sk 10 (by kernel_rfl) ?_)
  refine aw_sc (e != 0) (by kernel_rfl) (fun h => ?_) (fun h => ?_)
  · have he : e ≠ 0 := by simpa using h
    refine aw_assoc (aw_sk 10 (by kernel_rfl) ?_)
    refine aw_sret ?_
    exact ⟨.inr rfl, [.slice [] true .full], by kernel_rfl, by kernel_rfl, [], true, .full, a, e, ⟨by kernel_rfl, by kernel_rfl⟩, .inl ⟨rfl, rfl, rfl⟩, ⟨ha, fun _ => he, fun h => absurd h he⟩⟩
  have he : e = 0 := by simpa using h
  subst he
  obtain ⟨n, a1, e1, hn, pn, hz⟩ := num105 bs 32 a ha hb
  have hn0 : 0 ≤ n ∧ n ≤ 1000 := by
    by_cases h : e1 = 0
    · subst h
      obtain ⟨_, k1, k2, _⟩ := (num 32).B _ _ _ (rds_some pn)
      exact ⟨k1, by omega⟩
    · rw [(hz h).1]; exact ⟨by decide, by decide⟩
  obtain ⟨N, rfl⟩ := Int.eq_ofNat_of_zero_le hn0.1
  refine aw_sskip (aw_sr (ow_k 10 10 (by kernel_rfl) ?_))
  refine ow_callDG (k := 105) (first := []) (captured := []) (xs := [BSl bs false .no, I64 (a : Nat), I64 32]) (r := .tup [I64 (N : Nat), I64 (a1 : Nat), I64 e1]) (by kernel_rfl) (by kernel_rfl) (by kernel_rfl) (by kernel_rfl) (by kernel_rfl) (by rw [show ([BSl bs false .no, I64 (a : Nat), I64 32].map strip).all (nohp 9) = true from bsA_nohp bs _ _, Bool.or_true]) hn (by kernel_rfl) (by kernel_rfl) ?_
  refine ow_all 10 (by kernel_rfl) ?_
  refine aw_sk 10 (by kernel_rfl) ?_
  refine aw_assoc (aw_sk 10 (by kernel_rfl) ?_)
  refine aw_sforJ N (fun i F => ∃ (xs : List BS) (a2 : Nat) (e2 : Int), IsG 72 (O bs a 0 :: R) (cfgR.heap 80) 10 (xs.map rowS) [(0, .hp 0 0), (2, I64 100), (7, I64 (N : Nat)), (8, I64 (a2 : Nat)), (9, I64 e2), (11, I64 (i : Nat))] F ∧ a2 ≤ bs.length ∧ xs.length = i ∧ (e2 = 0 → e1 = 0 ∧ decL (str 100).dec N (bs.drop a1) = (decL (str 100).dec (N - i) (bs.drop a2)).map fun p => (xs ++ p.1, p.2)) ∧ (e2 ≠ 0 → e1 = 0 → decL (str 100).dec N (bs.drop a1) = none))
    (fun F => ∃ (xs : List BS) (a2 : Nat) (e2 : Int) (i : Nat), IsG 72 (O bs a 0 :: R) (cfgR.heap 80) 10 (xs.map rowS) [(0, .hp 0 0), (2, I64 100), (7, I64 (N : Nat)), (8, I64 (a2 : Nat)), (9, I64 e2), (11, I64 (i : Nat))] F ∧ a2 ≤ bs.length ∧ (e2 = 0 → e1 = 0 ∧ decL (str 100).dec N (bs.drop a1) = some (xs, bs.drop a2)) ∧ (e2 ≠ 0 → e1 = 0 → decL (str 100).dec N (bs.drop a1) = none)) ?_ ?_ ?_ ?_
  · exact ⟨[], a1, e1, isG_nil (by kernel_rfl) rfl, pn.1, rfl, fun h => ⟨h, by simp⟩, fun h h' => absurd h' h⟩
  · rintro i F hi ⟨xs, a2, e2, ⟨t, c, al, o3, nl3, rfl, hg⟩, ha2, hxl, hok, hbad⟩
    have hf : Fresh al o3 := freshG hg
    refine aw_assoc (aw_sr (ow_k 2 10 (by kernel_rfl) ?_))
    refine ow_is (x := decide ((i : Int) < (N : Int))) (w := true) (decide_eq_true (by omega)) (by kernel_rfl) (by kernel_rfl) (by kernel_rfl) (by kernel_rfl) (by kernel_rfl) ?_
    by_cases he2 : e2 = 0
    · subst he2
      obtain ⟨s, a3, e3, h3, p3, hz3⟩ := text106 bs 100 a2 ha2 hb
      refine ow_all 10 (by kernel_rfl) ?_
      refine aw_sc true (by kernel_rfl) (fun _ => ?_) (fun h => by cases h)
      refine aw_sskip (aw_seq (aw_block (aw_sr (ow_k 6 10 (by kernel_rfl) ?_))))
      refine ow_callN (k := 106) (first := []) (captured := []) (xs := [BSl bs false .no, I64 (a2 : Nat), I64 100]) (r := .tup [ST s, I64 (a3 : Nat), I64 e3]) (bsA_nohp bs _ _) h3 (by kernel_rfl) (by kernel_rfl) (by kernel_rfl) (by kernel_rfl) (by kernel_rfl) (by kernel_rfl) (by kernel_rfl) ?_
      refine ow_all 10 (by kernel_rfl) ?_
      refine aw_sr (ow_k 3 10 (by kernel_rfl) ?_)
      refine ow_app (rows := xs.map rowS) (ys := [rowS s]) (own := o3) (nl := nl3) (X := .slice [rowS s] false .full) (ty := 27) (e := 9) (sz := 1) (by_ := 16) (z := [ST []]) (freshE (al' := markR (c + 64 * 7 + 64 * 6) al (.tup [ST s, I64 (a3 : Nat), I64 e3])) (by kernel_rfl) (fresh_mark hf _ _)) (by simp) (rowS_all _) (by simp [rowS]) (by
        simp only [List.length_map, List.length_cons, List.length_nil]
        omega) (by kernel_rfl) (by kernel_rfl) (by kernel_rfl) (by kernel_rfl) (by kernel_rfl) (by kernel_rfl) (by kernel_rfl) (by kernel_rfl) rfl rfl rfl (by kernel_rfl) (by kernel_rfl) (fun al' ha' => ?_)
      refine ow_all 10 (by kernel_rfl) ?_
      refine aw_sk 10 (by kernel_rfl) ?_
      refine aw_rk 10 (by kernel_rfl) ?_
      refine aw_rk 10 (by kernel_rfl) ?_
      refine ⟨xs ++ [s], a3, e3, isG_id (l' := [(0, .hp 0 0), (2, I64 100), (7, I64 (N : Nat)), (8, I64 (a3 : Nat)), (9, I64 e3), (11, I64 (IntKind.i64.wrap ((i : Int) + 1)))]) (rows' := xs.map rowS ++ [rowS s]) (k := (c + 64 * 7 + 64 * 14 + 64 * 3)) (al' := al') (by rw [succ64 (by omega)]) (by kernel_rfl) (by simp) (by kernel_rfl) ha', p3.1, by simp [hxl], fun h7' => ?_, fun h7' h1 => ?_⟩
      · subst h7'
        exact ⟨(hok rfl).1, decL_step _ hi (hok rfl).2 (rds_some p3)⟩
      · exact decL_fail _ hi (hok rfl).2 (rds_none p3 h7')
    · refine ow_k 2 10 (by kernel_rfl) ?_
      refine ow_is (x := (e2 == 0)) (w := false) (by simpa using he2) (by kernel_rfl) (by kernel_rfl) (by kernel_rfl) (by kernel_rfl) (by kernel_rfl) ?_
      refine ow_all 10 (by kernel_rfl) ?_
      refine aw_sc false (by kernel_rfl) (fun h => by cases h) (fun _ => ?_)
      refine aw_sexit ?_
      refine ⟨rfl, xs, a2, e2, i, (by
      rcases hg with ⟨hx, rfl, rfl⟩ | ⟨k, rfl, hk, rfl⟩
      · have hx' : xs = [] := List.map_eq_nil_iff.1 hx
        subst hx'
        exact isG_nil (by kernel_rfl) rfl
      · exact isG_id (l' := [(0, .hp 0 0), (2, I64 100), (7, I64 (N : Nat)), (8, I64 (a2 : Nat)), (9, I64 e2), (11, I64 (i : Nat))]) (rows' := xs.map rowS) (k := k) (al' := al) rfl (by kernel_rfl) rfl (by kernel_rfl) hk), ha2, fun h => absurd h he2, hbad⟩
  · rintro F ⟨xs, a2, e2, ⟨t, c, al, o3, nl3, rfl, hg⟩, ha2, hxl, hok, hbad⟩
    refine aw_assoc (aw_sr (ow_k 2 10 (by kernel_rfl) ?_))
    refine ow_is (x := decide ((N : Int) < (N : Int))) (w := false) (decide_eq_false (by omega)) (by kernel_rfl) (by kernel_rfl) (by kernel_rfl) (by kernel_rfl) (by kernel_rfl) ?_
    refine ow_all 10 (by kernel_rfl) ?_
    refine aw_sc false (by kernel_rfl) (fun h => by cases h) (fun _ => ?_)
    refine aw_sexit ?_
    refine ⟨rfl, xs, a2, e2, N, (by
      rcases hg with ⟨hx, rfl, rfl⟩ | ⟨k, rfl, hk, rfl⟩
      · have hx' : xs = [] := List.map_eq_nil_iff.1 hx
        subst hx'
        exact isG_nil (by kernel_rfl) rfl
      · exact isG_id (l' := [(0, .hp 0 0), (2, I64 100), (7, I64 (N : Nat)), (8, I64 (a2 : Nat)), (9, I64 e2), (11, I64 (N : Nat))]) (rows' := xs.map rowS) (k := k) (al' := al) rfl (by kernel_rfl) rfl (by kernel_rfl) hk), ha2, fun h => ⟨(hok h).1, by rw [(hok h).2, Nat.sub_self]; simp [decL]⟩, hbad⟩
  · rintro F ⟨xs, a2, e2, i, ⟨t, c, al, o3, nl3, rfl, hg⟩, ha2, hok, hbad⟩
    refine aw_assoc (aw_sk 10 (by kernel_rfl) ?_)
    refine aw_sc (e2 != 0) (by kernel_rfl) (fun h => ?_) (fun h => ?_)
    · have he2 : e2 ≠ 0 := by simpa using h
      refine aw_assoc (aw_sk 10 (by kernel_rfl) ?_)
      refine aw_assoc (aw_sk 10 (by kernel_rfl) ?_)
      refine aw_sret ?_
      refine ⟨.inr rfl, [.slice [] true .full], by kernel_rfl, by kernel_rfl, [], true, .full, a, e2, ⟨by kernel_rfl, by kernel_rfl⟩, .inl ⟨rfl, rfl, rfl⟩, rds_list pn ha (fun _ => he2) (fun h1 => ?_)⟩
      rw [Int.toNat_natCast, hbad he2 h1]
      exact he2
    · have he2 : e2 = 0 := by simpa using h
      subst he2
      refine aw_sskip (aw_sk 10 (by kernel_rfl) ?_)
      refine aw_sk 10 (by kernel_rfl) ?_
      refine aw_ret ?_
      have hrd : Rds bs (Wire.list 32 (str 100)).dec xs a 0 a2 0 := rds_list pn ha2 (fun h1 h => h1 (hok rfl).1) (fun h1 => by
        rw [Int.toNat_natCast, (hok rfl).2]
        exact ⟨rfl, rfl, rfl⟩)
      rcases hg with ⟨hx, rfl, rfl⟩ | ⟨k, rfl, hk, rfl⟩
      · have hx' : xs = [] := List.map_eq_nil_iff.1 hx
        exact ⟨.inr rfl, [.slice (xs.map rowS) true .full], by kernel_rfl, by kernel_rfl, xs, true, .full, a2, 0, ⟨by kernel_rfl, by kernel_rfl⟩, .inl ⟨hx', rfl, rfl⟩, hrd⟩
      · exact ⟨.inr rfl, [.slice (xs.map rowS) false (.id k)], by kernel_rfl, by kernel_rfl, xs, false, .fresh, a2, 0, ⟨leave_at (al' := al) (by kernel_rfl) hk, by kernel_rfl⟩, .inr ⟨rfl, rfl⟩, hrd⟩
end Go.Proofs.V.M17

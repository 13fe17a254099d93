/- The document's reader of states: loops (seat r17 ZD). -/
import Derived.Test.YtdgihbbekacgcaaGreatDoorK43
namespace Go.Proofs.V.M17
open Go Go.Proofs Go.Proofs.V Go.Proofs.V.Wire Go.Proofs.V.L17
set_option linter.unusedVariables false
set_option linter.unusedSimpArgs false
set_option maxRecDepth 100000
set_option maxHeartbeats 4000000
/-- A call that turns the heap where an order is drawn. -/
theorem ow_callM {cfg : Cfg} {F : St} {Q : St → Prop} {ds : List Nat} {all : Array Oper} {rest : List Oper} {lab : Nat} {type : TypeId} {pos : String} {after : Array Edge} {g : Option (Nat × Bool)} {d : Nat} {f : Operand} {args : Array Operand} {ts : Array TypeId} {k : Nat} {first captured xs : List AV} {r : AV} {H0 H1 : List (List AV)} (hr : evK cfg k (xs.map strip) H0 = some (r, H1)) (hH : F.H = H0) (hb : blind ds = true) (hm : heavyOp cfg (.call { callee := .value f, args, argTypes := ts }) = true)
    (hg : guardA all { dst := some d, op := .call { callee := .value f, args, argTypes := ts }, type, pos, after, guard := g } F = some true) (hf : F.ev f = .fn (.func k) first captured)
    (has : first ++ evs F args.toList ++ captured = xs) (ha : xs.all AV.free = true) (he : cfg.eff k = true) (hd : Nat.blt d F.n = true)
    (h : Ow cfg true ds all rest (lab + 64) { F with t := upd F.t d (strip r), H := H1 } Q) : Ow cfg true ds all ({ dst := some d, op := .call { callee := .value f, args, argTypes := ts }, type, pos, after, guard := g } :: rest) lab F Q := by
  have hd' : d < F.n := by simpa using hd
  subst has
  subst hH
  exact ow_cons (w := true) hg (fun _ => ⟨_, by simp only [opRun, allocH, opRunV, hf, target, ha, he, hr, if_true, Option.bind_some, drawE, hb, hm, St.put, hd'], h⟩) (fun h => by cases h)
/-- A frame with a slice that grows, in a box. -/
def IsL (n : Nat) (H : List (List AV)) (m : TypeId → Bool) (l : Bool → Own → List (Nat × AV)) {α : Type} (rows : List α) (F : St) : Prop := ∃ t c al o nl, F = ⟨n, updL (l nl o) t, c, al, H, m⟩ ∧ ((rows = [] ∧ o = .full ∧ nl = true) ∨ ∃ k, o = .id k ∧ al k = true ∧ nl = false)
theorem isB {n : Nat} {H : List (List AV)} {m : TypeId → Bool} {l : List (Nat × AV)} {F : St} (h : (F.n, F.H, F.m, l.map fun p => F.t p.1) = (n, H, m, l.map fun p => p.2)) : F = ⟨n, updL l F.t, F.c, F.al, H, m⟩ := by
  simp only [Prod.mk.injEq] at h
  obtain ⟨rfl, rfl, rfl, h⟩ := h
  rw [updL_eta l F.t h]
theorem isL_nil {n : Nat} {H : List (List AV)} {m : TypeId → Bool} {l : Bool → Own → List (Nat × AV)} {α : Type} {F : St} (h : (F.n, F.H, F.m, (l true .full).map fun p => F.t p.1) = (n, H, m, (l true .full).map fun p => p.2)) : IsL n H m l ([] : List α) F :=
  ⟨F.t, F.c, F.al, .full, true, isB h, .inl ⟨rfl, rfl, rfl⟩⟩
theorem isL_id {n : Nat} {H : List (List AV)} {m : TypeId → Bool} {l : Bool → Own → List (Nat × AV)} {l' : List (Nat × AV)} {α : Type} {rows : List α} {k : Nat} {al' : Nat → Bool} {F : St} (hl : l' = l false (.id k)) (h : (F.n, F.H, F.m, l'.map fun p => F.t p.1) = (n, H, m, l'.map fun p => p.2)) (he : F.al = al') (hk : al' k = true) : IsL n H m l rows F := by
  subst hl
  exact ⟨F.t, F.c, F.al, .id k, false, isB h, .inr ⟨k, rfl, by rw [he]; exact hk, rfl⟩⟩
theorem own_ad {α : Type} {xs : List α} {al : Nat → Bool} {o : Own} {nl : Bool} (h : (xs = [] ∧ o = .full ∧ nl = true) ∨ ∃ k, o = .id k ∧ al k = true ∧ nl = false) : ∃ o' k, o = adO k o' ∧ RO xs nl o' := by
  rcases h with ⟨h1, rfl, rfl⟩ | ⟨k, rfl, _, rfl⟩
  · exact ⟨.full, 0, rfl, .inl ⟨h1, rfl, rfl⟩⟩
  · exact ⟨.fresh, k, rfl, .inr ⟨rfl, rfl⟩⟩
theorem freshL {α : Type} {al : Nat → Bool} {o : Own} {nl : Bool} {rows : List α} (h : (rows = [] ∧ o = .full ∧ nl = true) ∨ ∃ k, o = .id k ∧ al k = true ∧ nl = false) : Fresh al o := by
  rcases h with ⟨_, h, _⟩ | ⟨k, h, hk, _⟩
  · exact .inl h
  · exact .inr ⟨k, h, hk⟩
/-- What a loop that reads knows. -/
def LI {α : Type} (c : Codec α) (bs : BS) (N i a1 : Nat) (e1 : Int) (xs : List α) (a2 : Nat) (e2 : Int) : Prop := a2 ≤ bs.length ∧ xs.length = i ∧ (e2 = 0 → e1 = 0 ∧ decL c.dec N (bs.drop a1) = (decL c.dec (N - i) (bs.drop a2)).map fun p => (xs ++ p.1, p.2)) ∧ (e2 ≠ 0 → e1 = 0 → decL c.dec N (bs.drop a1) = none)
theorem LI.zero {α : Type} {c : Codec α} {bs : BS} {N a1 : Nat} {e1 : Int} (h : a1 ≤ bs.length) : LI c bs N 0 a1 e1 [] a1 e1 := ⟨h, rfl, fun h => ⟨h, by simp⟩, fun h h' => absurd h' h⟩
theorem LI.step {α : Type} {c : Codec α} {bs : BS} {N i a1 a2 a3 : Nat} {e1 e2 e3 : Int} {xs : List α} {x : α} (h : LI c bs N i a1 e1 xs a2 e2) (hi : i < N) (px : Rds bs c.dec x a2 e2 a3 e3) : LI c bs N (i + 1) a1 e1 (xs ++ [x]) a3 e3 := by
  obtain ⟨ha2, hxl, hok, hbad⟩ := h
  refine ⟨px.1, by simp [hxl], fun h7' => ?_, fun h7' h1 => ?_⟩
  · have he2 : e2 = 0 := Classical.byContradiction fun h => px.2.1 h h7'
    subst he2; subst h7'
    exact ⟨(hok rfl).1, decL_step _ hi (hok rfl).2 (rds_some px)⟩
  · by_cases he2 : e2 = 0
    · subst he2
      exact decL_fail _ hi (hok rfl).2 (rds_none px h7')
    · exact hbad he2 h1
theorem LI.done {α : Type} {c : Codec α} {bs : BS} {N a a1 a2 : Nat} {e e1 e2 most : Int} {xs : List α} (pn : Rds bs (decN most) (N : Nat) a e a1 e1) (h : LI c bs N N a1 e1 xs a2 e2) : Rds bs (Wire.list most c).dec xs a e a2 e2 := by
  obtain ⟨ha2, hxl, hok, hbad⟩ := h
  exact rds_list pn ha2 (fun h h2 => h (hok h2).1) (fun he => by
    rw [Int.toNat_natCast]
    by_cases he2 : e2 = 0
    · subst he2
      rw [(hok rfl).2, Nat.sub_self]
      simp [decL]
    · rw [hbad he2 he]
      exact he2)
theorem num_bound {bs : BS} {most n : Int} {a a1 : Nat} {e e1 : Int} (h : Rds bs (decN most) n a e a1 e1) (hz : e1 ≠ 0 → n = 0) (hm : most ≤ 1000) : ∃ N : Nat, n = (N : Int) ∧ N ≤ 1000 := by
  by_cases h1 : e1 = 0
  · have he : e = 0 := Classical.byContradiction fun k => h.2.1 k h1
    subst he; subst h1
    obtain ⟨_, k1, k2, _⟩ := (num most).B _ _ _ (rds_some h)
    exact ⟨n.toNat, by omega, by omega⟩
  · exact ⟨0, hz h1, by omega⟩
def dSt : Codec Stt := prod (num 1) (prod (list 16 dFi) (prod (list 32 dEn) (prod cCu (prod (list 200 (num maxN)) (prod (list 32 dEn) (prod Wire.bool (prod cCu (prod (list 32 dEn) (prod (list 32 (str 100)) (prod (list 200 dPu) Wire.bool))))))))))
/-- What Read comes to. -/
def PR (b : BS) (r : AV) : Prop := ∃ (s : Stt) (z : Nl) (a' : Nat) (e' : Int), CanZ s z ∧ Rds b dSt.dec s 0 0 a' e' ∧ ((r = .tup [.agg (cellsSt s z), I64 0] ∧ e' = 0 ∧ a' = b.length ∧ RP' s z) ∨ (r = .tup [.agg zeroC, I64 4] ∧ ¬ (e' = 0 ∧ a' = b.length ∧ RP' s z)))
/-- What is read is small. -/
theorem ok_smD {s : Stt} (h : dSt.ok s) : Go.Proofs.W.Q17.Small (toQ s) := by
  obtain ⟨h1, h2, h3, h4, h5, h6, h7, h8, h9, h10, h11, h12⟩ := h
  have hen : ∀ x : En, dEn.ok x → Go.Proofs.W.Q9.okEn x = true := fun x hx => by
    have k1 := hx.1.1
    have k2 := hx.2.2.1.1
    simp only [Go.Proofs.W.Q9.okEn, Bool.and_eq_true, decide_eq_true_eq]
    omega
  have hfi : ∀ x : Fi, dFi.ok x → Go.Proofs.W.Q9.okFi x = true := fun x hx => by
    have k1 := hx.1.1
    have k2 := hx.2.1
    simp only [Go.Proofs.W.Q9.okFi, Bool.and_eq_true, decide_eq_true_eq]
    omega
  have k2 := h2.1; have k3 := h3.1; have k5 := h5.1; have k6 := h6.1; have k9 := h9.1; have k10 := h10.1; have k11 := h11.1
  have e2 := h2.2.2; have e3 := h3.2.2; have e6 := h6.2.2; have e9 := h9.2.2; have e10 := h10.2.2; have e11 := h11.2.2
  exact ⟨⟨by simp only [toQ]; omega, fun e he => hfi e (e2 e he)⟩, ⟨by simp only [toQ]; omega, fun e he => hen e (e3 e he)⟩, ⟨by simp only [toQ]; omega, fun e he => hen e (e6 e he)⟩, ⟨by simp only [toQ]; omega, fun e he => hen e (e9 e he)⟩, by simp only [toQ]; omega, ⟨by simp only [toQ]; omega, fun e he => by have := (e10 e he).1; omega⟩, ⟨by simp only [toQ]; omega, fun e he => by have := (e11 e he).2.1; omega⟩⟩
set_option maxHeartbeats 8000000 in
theorem rread17 (b : BS) (hb0 : b ≠ []) (hb : b.length ≤ 1000000000) : ∃ (s : Stt) (z : Nl) (a' : Nat) (e' : Int), CanZ s z ∧ Rds b dSt.dec s 0 0 a' e' ∧
    ((callQ cfgR (evK cfgR) 17 [ST b] = some (.tup [.agg (cellsSt s z), I64 0]) ∧ e' = 0 ∧ a' = b.length ∧ RP' s z) ∨ (callQ cfgR (evK cfgR) 17 [ST b] = some (.tup [.agg zeroC, I64 4]) ∧ ¬ (e' = 0 ∧ a' = b.length ∧ RP' s z))) := by
  suffices h : ∃ r H', evK cfgR 17 [ST b] [] = some (r, H') ∧ PR b r by
    obtain ⟨r, H', h, s, z, a', e', hc, hr, ⟨rfl, k⟩ | ⟨rfl, k⟩⟩ := h
    · exact ⟨s, z, a', e', hc, hr, .inl ⟨callQ_nohp (by kernel_rfl) h (nohp_st _ _ _), k⟩⟩
    · exact ⟨s, z, a', e', hc, hr, .inr ⟨callQ_nohp (by kernel_rfl) h (nohp_zero 4), k⟩⟩
  refine evK_ofE (P := fun r H' => PR b r) Tryz.func17 rfl (of_decide_eq_true (by kernel_rfl)) (by kernel_rfl) (by kernel_rfl) rfl ?_
  unfold Tryz.f17
  dsimp only
  refine aw_sk 10 (by kernel_rfl) ?_
  refine aw_sk 10 (by kernel_rfl) ?_
  obtain ⟨v0, a0, e0, h0, p0, _⟩ := rnum76 b 1 0 0 [] (Nat.zero_le _) hb
  refine aw_sr (ow_k 1 10 (by kernel_rfl) ?_)
  refine ow_callE0 (k := 76) (first := []) (captured := []) (xs := [.hp 0 0, I64 1]) (r := I64 v0) h0 (by kernel_rfl) (by kernel_rfl) (by kernel_rfl) (by kernel_rfl) (by kernel_rfl) (by kernel_rfl) (by kernel_rfl) (by kernel_rfl) ?_
  refine ow_all 10 (by kernel_rfl) ?_
  refine aw_abs 107 (O b a0 e0 :: []) (cfgR.heap 17) [(2, .box 0 zeroC), (4, .hp 0 0), (5, .box 640 [I64 v0, nilS, nilS, I64 0, I64 0, I64 0, I64 0, nilS, nilS, BO false, I64 0, I64 0, I64 0, I64 0, nilS, nilS, nilS, BO false])] (by kernel_rfl) (fun t1 c1 l1 => ?_)
  obtain ⟨n1, a1, e1, h1, p1, z1⟩ := rnum76 b 16 a0 e0 [] p0.1 hb
  obtain ⟨N1, rfl, hN1⟩ := num_bound p1 z1 (by decide)
  refine aw_sr (ow_k 1 10 (by kernel_rfl) ?_)
  refine ow_callE0 (k := 76) (first := []) (captured := []) (xs := [.hp 0 0, I64 16]) (r := I64 (N1 : Nat)) h1 (by kernel_rfl) (by kernel_rfl) (by kernel_rfl) (by kernel_rfl) (by kernel_rfl) (by kernel_rfl) (by kernel_rfl) (by kernel_rfl) ?_
  refine ow_all 10 (by kernel_rfl) ?_
  refine aw_assoc (aw_sk 10 (by kernel_rfl) ?_)
  refine aw_sforJ N1 (fun i F => ∃ (xs : List Fi) (a' : Nat) (e' : Int), IsL 107 (O b a' e' :: []) (cfgR.heap 17) (fun nl o => [(2, .box 0 zeroC), (4, .hp 0 0), (5, .box 640 [I64 v0, .slice (xs.map rowFi) nl o, nilS, I64 0, I64 0, I64 0, I64 0, nilS, nilS, BO false, I64 0, I64 0, I64 0, I64 0, nilS, nilS, nilS, BO false]), (6, I64 (N1 : Nat)), (7, I64 (i : Nat))]) xs F ∧ LI dFi b N1 i a1 e1 xs a' e')
    (fun F => ∃ (xs : List Fi) (a' : Nat) (e' : Int), IsL 107 (O b a' e' :: []) (cfgR.heap 17) (fun nl o => [(2, .box 0 zeroC), (4, .hp 0 0), (5, .box 640 [I64 v0, .slice (xs.map rowFi) nl o, nilS, I64 0, I64 0, I64 0, I64 0, nilS, nilS, BO false, I64 0, I64 0, I64 0, I64 0, nilS, nilS, nilS, BO false])]) xs F ∧ LI dFi b N1 N1 a1 e1 xs a' e') ?_ ?_ ?_ ?_
  · exact ⟨[], a1, e1, isL_nil (by kernel_rfl), LI.zero p1.1⟩
  · rintro i F hi ⟨xs, y2, w2, ⟨t, c, al, o3, nl3, rfl, hg⟩, hLI⟩
    have hf : Fresh al o3 := freshL hg
    obtain ⟨s, y3, w3, h3, p3, _⟩ := rstr77 b 100 y2 w2 [] hLI.1 hb
    obtain ⟨d, y4, w4, h4, p4, _⟩ := rstr77 b 600 y3 w3 [] p3.1 hb
    have px : Rds b dFi.dec (s, d) y2 w2 y4 w4 := Rds.prod (c := str 100) (d := str 600) p3 p4
    refine aw_assoc (aw_sk 10 (by kernel_rfl) ?_)
    refine aw_sc (decide ((i : Int) < (N1 : Int))) (by kernel_rfl) (fun _ => ?_) (fun h => absurd (of_decide_eq_false h) (by omega))
    refine aw_sskip (aw_seq (aw_block (aw_sr (ow_k 1 10 (by kernel_rfl) ?_))))
    refine ow_callE0 (k := 77) (first := []) (captured := []) (xs := [.hp 0 0, I64 100]) (r := ST s) h3 (by kernel_rfl) (by kernel_rfl) (by kernel_rfl) (by kernel_rfl) (by kernel_rfl) (by kernel_rfl) (by kernel_rfl) (by kernel_rfl) ?_
    refine ow_k 2 10 (by kernel_rfl) ?_
    refine ow_st 8 0 [ST [], ST []] (.agg [ST s, ST []]) (by kernel_rfl) (by kernel_rfl) (by kernel_rfl) (by kernel_rfl) (by kernel_rfl) (by kernel_rfl) (by kernel_rfl) ?_
    refine ow_nil ?_
    refine aw_sr (ow_k 1 10 (by kernel_rfl) ?_)
    refine ow_callE0 (k := 77) (first := []) (captured := []) (xs := [.hp 0 0, I64 600]) (r := ST d) h4 (by kernel_rfl) (by kernel_rfl) (by kernel_rfl) (by kernel_rfl) (by kernel_rfl) (by kernel_rfl) (by kernel_rfl) (by kernel_rfl) ?_
    refine ow_k 1 10 (by kernel_rfl) ?_
    refine ow_st 8 1 [ST s, ST []] (ST d) (by kernel_rfl) (by kernel_rfl) (by kernel_rfl) (by kernel_rfl) (by kernel_rfl) (by kernel_rfl) (by kernel_rfl) ?_
    refine ow_nil ?_
    refine aw_region (ow_k 2 10 (by kernel_rfl) ?_)
    refine ow_ld 8 0 [ST s, ST d] (.agg (rowFi (s, d))) (by kernel_rfl) (by kernel_rfl) (by kernel_rfl) (by kernel_rfl) (by kernel_rfl) (by kernel_rfl) ?_
    refine ow_k 1 10 (by kernel_rfl) ?_
    refine ow_app (rows := xs.map rowFi) (ys := [rowFi (s, d)]) (own := o3) (nl := nl3) (X := .slice [rowFi (s, d)] false .full) (ty := 22) (e := 38) (sz := 2) (by_ := 32) (z := [ST [], ST []]) (freshE (al' := markR (c + 64 * 3 + 64 * 5 + 64 * 1) (markR (c + 64 * 3 + 64 * 1) al (ST s)) (ST d)) (by kernel_rfl) (fresh_mark (fresh_mark hf _ _) _ _)) (by simp) (rowFi_all _) (by simp [rowFi]) (by
      simp only [List.length_map, List.length_cons, List.length_nil]
      have := hLI.2.1
      omega) (by kernel_rfl) (by kernel_rfl) (by kernel_rfl) (by kernel_rfl) (by kernel_rfl) (by kernel_rfl) (by kernel_rfl) (by kernel_rfl) rfl rfl rfl (by kernel_rfl) (by kernel_rfl) (fun al' ha' => ?_)
    refine ow_all 10 (by kernel_rfl) ?_
    refine aw_rk 10 (by kernel_rfl) ?_
    refine ⟨xs ++ [(s, d)], y4, w4, isL_id (l' := [(2, .box 0 zeroC), (4, .hp 0 0), (5, .box 640 [I64 v0, .slice (xs.map rowFi ++ [rowFi (s, d)]) false (.id (c + 64 * 3 + 64 * 5 + 64 * 4 + 64 * 4)), nilS, I64 0, I64 0, I64 0, I64 0, nilS, nilS, BO false, I64 0, I64 0, I64 0, I64 0, nilS, nilS, nilS, BO false]), (6, I64 (N1 : Nat)), (7, I64 (IntKind.i64.wrap ((i : Int) + 1)))]) (k := c + 64 * 3 + 64 * 5 + 64 * 4 + 64 * 4) (al' := al') (by rw [succ64 (by omega), List.map_append]; rfl) (by kernel_rfl) (by kernel_rfl) ha', hLI.step hi px⟩
  · rintro F ⟨xs, y2, w2, ⟨t, c, al, o3, nl3, rfl, hg⟩, hLI⟩
    refine aw_assoc (aw_sk 10 (by kernel_rfl) ?_)
    refine aw_sc (decide ((N1 : Int) < (N1 : Int))) (by kernel_rfl) (fun h => absurd (of_decide_eq_true h) (by omega)) (fun _ => ?_)
    refine aw_sexit ?_
    refine ⟨rfl, xs, y2, w2, (by
      rcases hg with ⟨rfl, rfl, rfl⟩ | ⟨k, rfl, hk, rfl⟩
      · exact isL_nil (by kernel_rfl)
      · exact isL_id (l' := [(2, .box 0 zeroC), (4, .hp 0 0), (5, .box 640 [I64 v0, .slice (xs.map rowFi) false (.id k), nilS, I64 0, I64 0, I64 0, I64 0, nilS, nilS, BO false, I64 0, I64 0, I64 0, I64 0, nilS, nilS, nilS, BO false])]) (k := k) (al' := al) rfl (by kernel_rfl) (by kernel_rfl) hk), hLI⟩
  rintro F ⟨tr, a2, e2, ⟨t, c, al, o3, nltr, rfl, hg⟩, hLItr⟩
  obtain ⟨otr, ktr, rfl, wtr⟩ := own_ad hg
  have ptr := hLItr.done p1
  clear hg
  obtain ⟨ar, nlar, oar, a3, e3, h3, war, par⟩ := entries78 b a2 e2 [] ptr.1 hb
  refine aw_abs 107 (O b a2 e2 :: []) (cfgR.heap 17) [(2, .box 0 zeroC), (4, .hp 0 0), (5, .box 640 [I64 v0, .slice (tr.map rowFi) nltr (adO ktr otr), nilS, I64 0, I64 0, I64 0, I64 0, nilS, nilS, BO false, I64 0, I64 0, I64 0, I64 0, nilS, nilS, nilS, BO false])] (by kernel_rfl) (fun t2 c2 l2 => ?_)
  refine aw_sr (ow_k 1 10 (by kernel_rfl) ?_)
  refine ow_callEv (k := 78) (first := []) (captured := []) (xs := [.hp 0 0]) (r := .slice (ar.map rowEn) nlar oar) h3 (adopt_sl _ _ _ _) (by kernel_rfl) (by kernel_rfl) (by kernel_rfl) (by kernel_rfl) (by kernel_rfl) (by kernel_rfl) (by kernel_rfl) (by kernel_rfl) ?_
  refine ow_all 10 (by kernel_rfl) ?_
  obtain ⟨ch, a4, e4, h4, pch⟩ := place79 b a3 e3 [] par.1 hb
  refine aw_abs 107 (O b a3 e3 :: []) (cfgR.heap 17) [(2, .box 0 zeroC), (4, .hp 0 0), (5, .box 640 [I64 v0, .slice (tr.map rowFi) nltr (adO ktr otr), .slice (ar.map rowEn) nlar (adO (c2 + 64 * 1) oar), I64 0, I64 0, I64 0, I64 0, nilS, nilS, BO false, I64 0, I64 0, I64 0, I64 0, nilS, nilS, nilS, BO false])] (by kernel_rfl) (fun t3 c3 l3 => ?_)
  refine aw_sr (ow_k 1 10 (by kernel_rfl) ?_)
  refine ow_callE0 (k := 79) (first := []) (captured := []) (xs := [.hp 0 0]) (r := .agg (cellsCu ch)) h4 (by kernel_rfl) (by kernel_rfl) (by kernel_rfl) (by kernel_rfl) (by kernel_rfl) (by kernel_rfl) (by kernel_rfl) (by kernel_rfl) ?_
  refine ow_all 10 (by kernel_rfl) ?_
  obtain ⟨n5, a5, e5, h5, pn5, zn5⟩ := rnum76 b 200 a4 e4 [] pch.1 hb
  obtain ⟨N5, rfl, hN5⟩ := num_bound pn5 zn5 (by decide)
  refine aw_abs 107 (O b a4 e4 :: []) (cfgR.heap 17) [(2, .box 0 zeroC), (4, .hp 0 0), (5, .box 640 [I64 v0, .slice (tr.map rowFi) nltr (adO ktr otr), .slice (ar.map rowEn) nlar (adO (c2 + 64 * 1) oar), I64 ch.1, I64 ch.2.1, I64 ch.2.2.1, I64 ch.2.2.2, nilS, nilS, BO false, I64 0, I64 0, I64 0, I64 0, nilS, nilS, nilS, BO false])] (by kernel_rfl) (fun t4 c4 l4 => ?_)
  refine aw_sr (ow_k 1 10 (by kernel_rfl) ?_)
  refine ow_callE0 (k := 76) (first := []) (captured := []) (xs := [.hp 0 0, I64 200]) (r := I64 (N5 : Nat)) h5 (by kernel_rfl) (by kernel_rfl) (by kernel_rfl) (by kernel_rfl) (by kernel_rfl) (by kernel_rfl) (by kernel_rfl) (by kernel_rfl) ?_
  refine ow_all 10 (by kernel_rfl) ?_
  refine aw_abs 107 (O b a5 e5 :: []) (cfgR.heap 17) [(2, .box 0 zeroC), (4, .hp 0 0), (5, .box 640 [I64 v0, .slice (tr.map rowFi) nltr (adO ktr otr), .slice (ar.map rowEn) nlar (adO (c2 + 64 * 1) oar), I64 ch.1, I64 ch.2.1, I64 ch.2.2.1, I64 ch.2.2.2, nilS, nilS, BO false, I64 0, I64 0, I64 0, I64 0, nilS, nilS, nilS, BO false]), (6, I64 (N5 : Nat))] (by kernel_rfl) (fun t5 c5 l5 => ?_)
  refine aw_assoc (aw_sk 10 (by kernel_rfl) ?_)
  refine aw_sforJ N5 (fun i F => ∃ (xs : List Int) (a' : Nat) (e' : Int), IsL 107 (O b a' e' :: []) (cfgR.heap 17) (fun nl o => [(2, .box 0 zeroC), (4, .hp 0 0), (5, .box 640 [I64 v0, .slice (tr.map rowFi) nltr (adO ktr otr), .slice (ar.map rowEn) nlar (adO (c2 + 64 * 1) oar), I64 ch.1, I64 ch.2.1, I64 ch.2.2.1, I64 ch.2.2.2, .slice (xs.map rowN) nl o, nilS, BO false, I64 0, I64 0, I64 0, I64 0, nilS, nilS, nilS, BO false]), (6, I64 (N5 : Nat)), (9, I64 (i : Nat))]) xs F ∧ LI (num maxN) b N5 i a5 e5 xs a' e')
    (fun F => ∃ (xs : List Int) (a' : Nat) (e' : Int), IsL 107 (O b a' e' :: []) (cfgR.heap 17) (fun nl o => [(2, .box 0 zeroC), (4, .hp 0 0), (5, .box 640 [I64 v0, .slice (tr.map rowFi) nltr (adO ktr otr), .slice (ar.map rowEn) nlar (adO (c2 + 64 * 1) oar), I64 ch.1, I64 ch.2.1, I64 ch.2.2.1, I64 ch.2.2.2, .slice (xs.map rowN) nl o, nilS, BO false, I64 0, I64 0, I64 0, I64 0, nilS, nilS, nilS, BO false])]) xs F ∧ LI (num maxN) b N5 N5 a5 e5 xs a' e') ?_ ?_ ?_ ?_
  · exact ⟨[], a5, e5, isL_nil (by kernel_rfl), LI.zero pn5.1⟩
  · rintro i F hi ⟨xs, y2, w2, ⟨t, c, al, o3, nl3, rfl, hg⟩, hLI⟩
    have hf : Fresh al o3 := freshL hg
    obtain ⟨x, y3, w3, h3, p3, _⟩ := rnum76 b 4294967295 y2 w2 [] hLI.1 hb
    have px : Rds b (num maxN).dec x y2 w2 y3 w3 := p3
    refine aw_assoc (aw_sk 10 (by kernel_rfl) ?_)
    refine aw_sc (decide ((i : Int) < (N5 : Int))) (by kernel_rfl) (fun _ => ?_) (fun h => absurd (of_decide_eq_false h) (by omega))
    refine aw_sskip (aw_seq (aw_block (aw_region (ow_k 3 10 (by kernel_rfl) ?_))))
    refine ow_callM (k := 76) (first := []) (captured := []) (xs := [.hp 0 0, I64 4294967295]) (r := I64 x) h3 (by kernel_rfl) (by kernel_rfl) (by kernel_rfl) (by kernel_rfl) (by kernel_rfl) (by kernel_rfl) (by kernel_rfl) (by kernel_rfl) (by kernel_rfl) ?_
    refine ow_k 1 10 (by kernel_rfl) ?_
    refine ow_app (rows := xs.map rowN) (ys := [rowN x]) (own := o3) (nl := nl3) (X := .slice [rowN x] false .full) (ty := 26) (e := 3) (sz := 1) (by_ := 8) (z := [I64 0]) (freshE (al' := al) (by kernel_rfl) hf) (by simp) (rowN_all _) (by simp [rowN]) (by
      simp only [List.length_map, List.length_cons, List.length_nil]
      have := hLI.2.1
      omega) (by kernel_rfl) (by kernel_rfl) (by kernel_rfl) (by kernel_rfl) (by kernel_rfl) (by kernel_rfl) (by kernel_rfl) (by kernel_rfl) rfl rfl rfl (by kernel_rfl) (by kernel_rfl) (fun al' ha' => ?_)
    refine ow_all 10 (by kernel_rfl) ?_
    refine aw_rk 10 (by kernel_rfl) ?_
    refine ⟨xs ++ [x], y3, w3, isL_id (l' := [(2, .box 0 zeroC), (4, .hp 0 0), (5, .box 640 [I64 v0, .slice (tr.map rowFi) nltr (adO ktr otr), .slice (ar.map rowEn) nlar (adO (c2 + 64 * 1) oar), I64 ch.1, I64 ch.2.1, I64 ch.2.2.1, I64 ch.2.2.2, .slice (xs.map rowN ++ [rowN x]) false (.id (c + 64 * 3 + 64 * 5)), nilS, BO false, I64 0, I64 0, I64 0, I64 0, nilS, nilS, nilS, BO false]), (6, I64 (N5 : Nat)), (9, I64 (IntKind.i64.wrap ((i : Int) + 1)))]) (k := c + 64 * 3 + 64 * 5) (al' := al') (by rw [succ64 (by omega), List.map_append]; rfl) (by kernel_rfl) (by kernel_rfl) ha', hLI.step hi px⟩
  · rintro F ⟨xs, y2, w2, ⟨t, c, al, o3, nl3, rfl, hg⟩, hLI⟩
    refine aw_assoc (aw_sk 10 (by kernel_rfl) ?_)
    refine aw_sc (decide ((N5 : Int) < (N5 : Int))) (by kernel_rfl) (fun h => absurd (of_decide_eq_true h) (by omega)) (fun _ => ?_)
    refine aw_sexit ?_
    refine ⟨rfl, xs, y2, w2, (by
      rcases hg with ⟨rfl, rfl, rfl⟩ | ⟨k, rfl, hk, rfl⟩
      · exact isL_nil (by kernel_rfl)
      · exact isL_id (l' := [(2, .box 0 zeroC), (4, .hp 0 0), (5, .box 640 [I64 v0, .slice (tr.map rowFi) nltr (adO ktr otr), .slice (ar.map rowEn) nlar (adO (c2 + 64 * 1) oar), I64 ch.1, I64 ch.2.1, I64 ch.2.2.1, I64 ch.2.2.2, .slice (xs.map rowN) false (.id k), nilS, BO false, I64 0, I64 0, I64 0, I64 0, nilS, nilS, nilS, BO false])]) (k := k) (al' := al) rfl (by kernel_rfl) (by kernel_rfl) hk), hLI⟩
  rintro F ⟨ow, a6, e6, ⟨t, c, al, o3, nlow, rfl, hg⟩, hLIow⟩
  obtain ⟨oow, kow, rfl, wow⟩ := own_ad hg
  have pow := hLIow.done pn5
  clear hg
  obtain ⟨sh, nlsh, osh, a7, e7, h7, wsh, psh⟩ := entries78 b a6 e6 [] pow.1 hb
  refine aw_abs 107 (O b a6 e6 :: []) (cfgR.heap 17) [(2, .box 0 zeroC), (4, .hp 0 0), (5, .box 640 [I64 v0, .slice (tr.map rowFi) nltr (adO ktr otr), .slice (ar.map rowEn) nlar (adO (c2 + 64 * 1) oar), I64 ch.1, I64 ch.2.1, I64 ch.2.2.1, I64 ch.2.2.2, .slice (ow.map rowN) nlow (adO kow oow), nilS, BO false, I64 0, I64 0, I64 0, I64 0, nilS, nilS, nilS, BO false])] (by kernel_rfl) (fun t6 c6 l6 => ?_)
  refine aw_sr (ow_k 1 10 (by kernel_rfl) ?_)
  refine ow_callEv (k := 78) (first := []) (captured := []) (xs := [.hp 0 0]) (r := .slice (sh.map rowEn) nlsh osh) h7 (adopt_sl _ _ _ _) (by kernel_rfl) (by kernel_rfl) (by kernel_rfl) (by kernel_rfl) (by kernel_rfl) (by kernel_rfl) (by kernel_rfl) (by kernel_rfl) ?_
  refine ow_all 10 (by kernel_rfl) ?_
  obtain ⟨tu, a8, e8, h8, ptu, _⟩ := rnum76 b 1 a7 e7 [] psh.1 hb
  refine aw_abs 107 (O b a7 e7 :: []) (cfgR.heap 17) [(2, .box 0 zeroC), (4, .hp 0 0), (5, .box 640 [I64 v0, .slice (tr.map rowFi) nltr (adO ktr otr), .slice (ar.map rowEn) nlar (adO (c2 + 64 * 1) oar), I64 ch.1, I64 ch.2.1, I64 ch.2.2.1, I64 ch.2.2.2, .slice (ow.map rowN) nlow (adO kow oow), .slice (sh.map rowEn) nlsh (adO (c6 + 64 * 1) osh), BO false, I64 0, I64 0, I64 0, I64 0, nilS, nilS, nilS, BO false])] (by kernel_rfl) (fun t7 c7 l7 => ?_)
  refine aw_sr (ow_k 1 10 (by kernel_rfl) ?_)
  refine ow_callE0 (k := 76) (first := []) (captured := []) (xs := [.hp 0 0, I64 1]) (r := I64 tu) h8 (by kernel_rfl) (by kernel_rfl) (by kernel_rfl) (by kernel_rfl) (by kernel_rfl) (by kernel_rfl) (by kernel_rfl) (by kernel_rfl) ?_
  refine ow_all 10 (by kernel_rfl) ?_
  obtain ⟨pe, a9, e9, h9, ppe⟩ := place79 b a8 e8 [] ptu.1 hb
  refine aw_abs 107 (O b a8 e8 :: []) (cfgR.heap 17) [(2, .box 0 zeroC), (4, .hp 0 0), (5, .box 640 [I64 v0, .slice (tr.map rowFi) nltr (adO ktr otr), .slice (ar.map rowEn) nlar (adO (c2 + 64 * 1) oar), I64 ch.1, I64 ch.2.1, I64 ch.2.2.1, I64 ch.2.2.2, .slice (ow.map rowN) nlow (adO kow oow), .slice (sh.map rowEn) nlsh (adO (c6 + 64 * 1) osh), BO (tu == 1), I64 0, I64 0, I64 0, I64 0, nilS, nilS, nilS, BO false])] (by kernel_rfl) (fun t8 c8 l8 => ?_)
  refine aw_sr (ow_k 1 10 (by kernel_rfl) ?_)
  refine ow_callE0 (k := 79) (first := []) (captured := []) (xs := [.hp 0 0]) (r := .agg (cellsCu pe)) h9 (by kernel_rfl) (by kernel_rfl) (by kernel_rfl) (by kernel_rfl) (by kernel_rfl) (by kernel_rfl) (by kernel_rfl) (by kernel_rfl) ?_
  refine ow_all 10 (by kernel_rfl) ?_
  obtain ⟨th, nlth, oth, a10, e10, h10, wth, pth⟩ := entries78 b a9 e9 [] ppe.1 hb
  refine aw_abs 107 (O b a9 e9 :: []) (cfgR.heap 17) [(2, .box 0 zeroC), (4, .hp 0 0), (5, .box 640 [I64 v0, .slice (tr.map rowFi) nltr (adO ktr otr), .slice (ar.map rowEn) nlar (adO (c2 + 64 * 1) oar), I64 ch.1, I64 ch.2.1, I64 ch.2.2.1, I64 ch.2.2.2, .slice (ow.map rowN) nlow (adO kow oow), .slice (sh.map rowEn) nlsh (adO (c6 + 64 * 1) osh), BO (tu == 1), I64 pe.1, I64 pe.2.1, I64 pe.2.2.1, I64 pe.2.2.2, nilS, nilS, nilS, BO false])] (by kernel_rfl) (fun t9 c9 l9 => ?_)
  refine aw_sr (ow_k 1 10 (by kernel_rfl) ?_)
  refine ow_callEv (k := 78) (first := []) (captured := []) (xs := [.hp 0 0]) (r := .slice (th.map rowEn) nlth oth) h10 (adopt_sl _ _ _ _) (by kernel_rfl) (by kernel_rfl) (by kernel_rfl) (by kernel_rfl) (by kernel_rfl) (by kernel_rfl) (by kernel_rfl) (by kernel_rfl) ?_
  refine ow_all 10 (by kernel_rfl) ?_
  obtain ⟨co, nlco, oco, a11, e11, h11, wco, pco⟩ := row80 b a10 e10 [] pth.1 hb
  refine aw_abs 107 (O b a10 e10 :: []) (cfgR.heap 17) [(2, .box 0 zeroC), (4, .hp 0 0), (5, .box 640 [I64 v0, .slice (tr.map rowFi) nltr (adO ktr otr), .slice (ar.map rowEn) nlar (adO (c2 + 64 * 1) oar), I64 ch.1, I64 ch.2.1, I64 ch.2.2.1, I64 ch.2.2.2, .slice (ow.map rowN) nlow (adO kow oow), .slice (sh.map rowEn) nlsh (adO (c6 + 64 * 1) osh), BO (tu == 1), I64 pe.1, I64 pe.2.1, I64 pe.2.2.1, I64 pe.2.2.2, .slice (th.map rowEn) nlth (adO (c9 + 64 * 1) oth), nilS, nilS, BO false])] (by kernel_rfl) (fun t10 c10 l10 => ?_)
  refine aw_sr (ow_k 1 10 (by kernel_rfl) ?_)
  refine ow_callEv (k := 80) (first := []) (captured := []) (xs := [.hp 0 0, I64 32, I64 100]) (r := .slice (co.map rowS) nlco oco) h11 (adopt_sl _ _ _ _) (by kernel_rfl) (by kernel_rfl) (by kernel_rfl) (by kernel_rfl) (by kernel_rfl) (by kernel_rfl) (by kernel_rfl) (by kernel_rfl) ?_
  refine ow_all 10 (by kernel_rfl) ?_
  obtain ⟨n12, a12, e12, h12, pn12, zn12⟩ := rnum76 b 200 a11 e11 [] pco.1 hb
  obtain ⟨N12, rfl, hN12⟩ := num_bound pn12 zn12 (by decide)
  refine aw_abs 107 (O b a11 e11 :: []) (cfgR.heap 17) [(2, .box 0 zeroC), (4, .hp 0 0), (5, .box 640 [I64 v0, .slice (tr.map rowFi) nltr (adO ktr otr), .slice (ar.map rowEn) nlar (adO (c2 + 64 * 1) oar), I64 ch.1, I64 ch.2.1, I64 ch.2.2.1, I64 ch.2.2.2, .slice (ow.map rowN) nlow (adO kow oow), .slice (sh.map rowEn) nlsh (adO (c6 + 64 * 1) osh), BO (tu == 1), I64 pe.1, I64 pe.2.1, I64 pe.2.2.1, I64 pe.2.2.2, .slice (th.map rowEn) nlth (adO (c9 + 64 * 1) oth), .slice (co.map rowS) nlco (adO (c10 + 64 * 1) oco), nilS, BO false])] (by kernel_rfl) (fun t11 c11 l11 => ?_)
  refine aw_sr (ow_k 1 10 (by kernel_rfl) ?_)
  refine ow_callE0 (k := 76) (first := []) (captured := []) (xs := [.hp 0 0, I64 200]) (r := I64 (N12 : Nat)) h12 (by kernel_rfl) (by kernel_rfl) (by kernel_rfl) (by kernel_rfl) (by kernel_rfl) (by kernel_rfl) (by kernel_rfl) (by kernel_rfl) ?_
  refine ow_all 10 (by kernel_rfl) ?_
  refine aw_abs 107 (O b a12 e12 :: []) (cfgR.heap 17) [(2, .box 0 zeroC), (4, .hp 0 0), (5, .box 640 [I64 v0, .slice (tr.map rowFi) nltr (adO ktr otr), .slice (ar.map rowEn) nlar (adO (c2 + 64 * 1) oar), I64 ch.1, I64 ch.2.1, I64 ch.2.2.1, I64 ch.2.2.2, .slice (ow.map rowN) nlow (adO kow oow), .slice (sh.map rowEn) nlsh (adO (c6 + 64 * 1) osh), BO (tu == 1), I64 pe.1, I64 pe.2.1, I64 pe.2.2.1, I64 pe.2.2.2, .slice (th.map rowEn) nlth (adO (c9 + 64 * 1) oth), .slice (co.map rowS) nlco (adO (c10 + 64 * 1) oco), nilS, BO false]), (6, I64 (N12 : Nat))] (by kernel_rfl) (fun t12 c12 l12 => ?_)
  refine aw_assoc (aw_sk 10 (by kernel_rfl) ?_)
  refine aw_sforJ N12 (fun i F => ∃ (xs : List Pu) (a' : Nat) (e' : Int), IsL 107 (O b a' e' :: []) (cfgR.heap 17) (fun nl o => [(2, .box 0 zeroC), (4, .hp 0 0), (5, .box 640 [I64 v0, .slice (tr.map rowFi) nltr (adO ktr otr), .slice (ar.map rowEn) nlar (adO (c2 + 64 * 1) oar), I64 ch.1, I64 ch.2.1, I64 ch.2.2.1, I64 ch.2.2.2, .slice (ow.map rowN) nlow (adO kow oow), .slice (sh.map rowEn) nlsh (adO (c6 + 64 * 1) osh), BO (tu == 1), I64 pe.1, I64 pe.2.1, I64 pe.2.2.1, I64 pe.2.2.2, .slice (th.map rowEn) nlth (adO (c9 + 64 * 1) oth), .slice (co.map rowS) nlco (adO (c10 + 64 * 1) oco), .slice (xs.map rowPu) nl o, BO false]), (6, I64 (N12 : Nat)), (10, I64 (i : Nat))]) xs F ∧ LI dPu b N12 i a12 e12 xs a' e')
    (fun F => ∃ (xs : List Pu) (a' : Nat) (e' : Int), IsL 107 (O b a' e' :: []) (cfgR.heap 17) (fun nl o => [(2, .box 0 zeroC), (4, .hp 0 0), (5, .box 640 [I64 v0, .slice (tr.map rowFi) nltr (adO ktr otr), .slice (ar.map rowEn) nlar (adO (c2 + 64 * 1) oar), I64 ch.1, I64 ch.2.1, I64 ch.2.2.1, I64 ch.2.2.2, .slice (ow.map rowN) nlow (adO kow oow), .slice (sh.map rowEn) nlsh (adO (c6 + 64 * 1) osh), BO (tu == 1), I64 pe.1, I64 pe.2.1, I64 pe.2.2.1, I64 pe.2.2.2, .slice (th.map rowEn) nlth (adO (c9 + 64 * 1) oth), .slice (co.map rowS) nlco (adO (c10 + 64 * 1) oco), .slice (xs.map rowPu) nl o, BO false])]) xs F ∧ LI dPu b N12 N12 a12 e12 xs a' e') ?_ ?_ ?_ ?_
  · exact ⟨[], a12, e12, isL_nil (by kernel_rfl), LI.zero pn12.1⟩
  · rintro i F hi ⟨xs, y2, w2, ⟨t, c, al, o3, nl3, rfl, hg⟩, hLI⟩
    have hf : Fresh al o3 := freshL hg
    obtain ⟨s, y3, w3, h3, p3, _⟩ := rnum76 b 4294967295 y2 w2 [] hLI.1 hb
    obtain ⟨d, y4, w4, h4, p4, _⟩ := rstr77 b 16 y3 w3 [] p3.1 hb
    have px : Rds b dPu.dec (s, d) y2 w2 y4 w4 := Rds.prod (c := num maxN) (d := str 16) p3 p4
    refine aw_assoc (aw_sk 10 (by kernel_rfl) ?_)
    refine aw_sc (decide ((i : Int) < (N12 : Int))) (by kernel_rfl) (fun _ => ?_) (fun h => absurd (of_decide_eq_false h) (by omega))
    refine aw_sskip (aw_seq (aw_block (aw_sr (ow_k 1 10 (by kernel_rfl) ?_))))
    refine ow_callE0 (k := 76) (first := []) (captured := []) (xs := [.hp 0 0, I64 4294967295]) (r := I64 s) h3 (by kernel_rfl) (by kernel_rfl) (by kernel_rfl) (by kernel_rfl) (by kernel_rfl) (by kernel_rfl) (by kernel_rfl) (by kernel_rfl) ?_
    refine ow_k 2 10 (by kernel_rfl) ?_
    refine ow_st 11 0 [I64 0, ST []] (.agg [I64 s, ST []]) (by kernel_rfl) (by kernel_rfl) (by kernel_rfl) (by kernel_rfl) (by kernel_rfl) (by kernel_rfl) (by kernel_rfl) ?_
    refine ow_nil ?_
    refine aw_sr (ow_k 1 10 (by kernel_rfl) ?_)
    refine ow_callE0 (k := 77) (first := []) (captured := []) (xs := [.hp 0 0, I64 16]) (r := ST d) h4 (by kernel_rfl) (by kernel_rfl) (by kernel_rfl) (by kernel_rfl) (by kernel_rfl) (by kernel_rfl) (by kernel_rfl) (by kernel_rfl) ?_
    refine ow_k 1 10 (by kernel_rfl) ?_
    refine ow_st 11 1 [I64 s, ST []] (ST d) (by kernel_rfl) (by kernel_rfl) (by kernel_rfl) (by kernel_rfl) (by kernel_rfl) (by kernel_rfl) (by kernel_rfl) ?_
    refine ow_nil ?_
    refine aw_region (ow_k 2 10 (by kernel_rfl) ?_)
    refine ow_ld 11 0 [I64 s, ST d] (.agg (rowPu (s, d))) (by kernel_rfl) (by kernel_rfl) (by kernel_rfl) (by kernel_rfl) (by kernel_rfl) (by kernel_rfl) ?_
    refine ow_k 1 10 (by kernel_rfl) ?_
    refine ow_app (rows := xs.map rowPu) (ys := [rowPu (s, d)]) (own := o3) (nl := nl3) (X := .slice [rowPu (s, d)] false .full) (ty := 28) (e := 44) (sz := 2) (by_ := 24) (z := [I64 0, ST []]) (freshE (al' := markR (c + 64 * 3 + 64 * 5 + 64 * 1) (markR (c + 64 * 3 + 64 * 1) al (I64 s)) (ST d)) (by kernel_rfl) (fresh_mark (fresh_mark hf _ _) _ _)) (by simp) (rowPu_all _) (by simp [rowPu]) (by
      simp only [List.length_map, List.length_cons, List.length_nil]
      have := hLI.2.1
      omega) (by kernel_rfl) (by kernel_rfl) (by kernel_rfl) (by kernel_rfl) (by kernel_rfl) (by kernel_rfl) (by kernel_rfl) (by kernel_rfl) rfl rfl rfl (by kernel_rfl) (by kernel_rfl) (fun al' ha' => ?_)
    refine ow_all 10 (by kernel_rfl) ?_
    refine aw_rk 10 (by kernel_rfl) ?_
    refine ⟨xs ++ [(s, d)], y4, w4, isL_id (l' := [(2, .box 0 zeroC), (4, .hp 0 0), (5, .box 640 [I64 v0, .slice (tr.map rowFi) nltr (adO ktr otr), .slice (ar.map rowEn) nlar (adO (c2 + 64 * 1) oar), I64 ch.1, I64 ch.2.1, I64 ch.2.2.1, I64 ch.2.2.2, .slice (ow.map rowN) nlow (adO kow oow), .slice (sh.map rowEn) nlsh (adO (c6 + 64 * 1) osh), BO (tu == 1), I64 pe.1, I64 pe.2.1, I64 pe.2.2.1, I64 pe.2.2.2, .slice (th.map rowEn) nlth (adO (c9 + 64 * 1) oth), .slice (co.map rowS) nlco (adO (c10 + 64 * 1) oco), .slice (xs.map rowPu ++ [rowPu (s, d)]) false (.id (c + 64 * 3 + 64 * 5 + 64 * 4 + 64 * 4)), BO false]), (6, I64 (N12 : Nat)), (10, I64 (IntKind.i64.wrap ((i : Int) + 1)))]) (k := c + 64 * 3 + 64 * 5 + 64 * 4 + 64 * 4) (al' := al') (by rw [succ64 (by omega), List.map_append]; rfl) (by kernel_rfl) (by kernel_rfl) ha', hLI.step hi px⟩
  · rintro F ⟨xs, y2, w2, ⟨t, c, al, o3, nl3, rfl, hg⟩, hLI⟩
    refine aw_assoc (aw_sk 10 (by kernel_rfl) ?_)
    refine aw_sc (decide ((N12 : Int) < (N12 : Int))) (by kernel_rfl) (fun h => absurd (of_decide_eq_true h) (by omega)) (fun _ => ?_)
    refine aw_sexit ?_
    refine ⟨rfl, xs, y2, w2, (by
      rcases hg with ⟨rfl, rfl, rfl⟩ | ⟨k, rfl, hk, rfl⟩
      · exact isL_nil (by kernel_rfl)
      · exact isL_id (l' := [(2, .box 0 zeroC), (4, .hp 0 0), (5, .box 640 [I64 v0, .slice (tr.map rowFi) nltr (adO ktr otr), .slice (ar.map rowEn) nlar (adO (c2 + 64 * 1) oar), I64 ch.1, I64 ch.2.1, I64 ch.2.2.1, I64 ch.2.2.2, .slice (ow.map rowN) nlow (adO kow oow), .slice (sh.map rowEn) nlsh (adO (c6 + 64 * 1) osh), BO (tu == 1), I64 pe.1, I64 pe.2.1, I64 pe.2.2.1, I64 pe.2.2.2, .slice (th.map rowEn) nlth (adO (c9 + 64 * 1) oth), .slice (co.map rowS) nlco (adO (c10 + 64 * 1) oco), .slice (xs.map rowPu) false (.id k), BO false])]) (k := k) (al' := al) rfl (by kernel_rfl) (by kernel_rfl) hk), hLI⟩
  rintro F ⟨wa, a13, e13, ⟨t, c, al, o3, nlwa, rfl, hg⟩, hLIwa⟩
  obtain ⟨owa, kwa, rfl, wwa⟩ := own_ad hg
  have pwa := hLIwa.done pn12
  clear hg
  obtain ⟨ha, a14, e14, h14, pha, _⟩ := rnum76 b 1 a13 e13 [] pwa.1 hb
  refine aw_abs 107 (O b a13 e13 :: []) (cfgR.heap 17) [(2, .box 0 zeroC), (4, .hp 0 0), (5, .box 640 [I64 v0, .slice (tr.map rowFi) nltr (adO ktr otr), .slice (ar.map rowEn) nlar (adO (c2 + 64 * 1) oar), I64 ch.1, I64 ch.2.1, I64 ch.2.2.1, I64 ch.2.2.2, .slice (ow.map rowN) nlow (adO kow oow), .slice (sh.map rowEn) nlsh (adO (c6 + 64 * 1) osh), BO (tu == 1), I64 pe.1, I64 pe.2.1, I64 pe.2.2.1, I64 pe.2.2.2, .slice (th.map rowEn) nlth (adO (c9 + 64 * 1) oth), .slice (co.map rowS) nlco (adO (c10 + 64 * 1) oco), .slice (wa.map rowPu) nlwa (adO kwa owa), BO false])] (by kernel_rfl) (fun t13 c13 l13 => ?_)
  refine aw_sr (ow_k 1 10 (by kernel_rfl) ?_)
  refine ow_callE0 (k := 76) (first := []) (captured := []) (xs := [.hp 0 0, I64 1]) (r := I64 ha) h14 (by kernel_rfl) (by kernel_rfl) (by kernel_rfl) (by kernel_rfl) (by kernel_rfl) (by kernel_rfl) (by kernel_rfl) (by kernel_rfl) ?_
  refine ow_all 10 (by kernel_rfl) ?_
  refine aw_abs 107 (O b a14 e14 :: []) (cfgR.heap 17) [(2, .box 0 zeroC), (4, .hp 0 0), (5, .box 640 [I64 v0, .slice (tr.map rowFi) nltr (adO ktr otr), .slice (ar.map rowEn) nlar (adO (c2 + 64 * 1) oar), I64 ch.1, I64 ch.2.1, I64 ch.2.2.1, I64 ch.2.2.2, .slice (ow.map rowN) nlow (adO kow oow), .slice (sh.map rowEn) nlsh (adO (c6 + 64 * 1) osh), BO (tu == 1), I64 pe.1, I64 pe.2.1, I64 pe.2.2.1, I64 pe.2.2.2, .slice (th.map rowEn) nlth (adO (c9 + 64 * 1) oth), .slice (co.map rowS) nlco (adO (c10 + 64 * 1) oco), .slice (wa.map rowPu) nlwa (adO kwa owa), BO (ha == 1)])] (by kernel_rfl) (fun t14 c14 l14 => ?_)
  have hall : Rds b dSt.dec (v0, tr, ar, ch, ow, sh, (tu == 1), pe, th, co, wa, (ha == 1)) 0 0 a14 e14 := Rds.prod (c := num 1) p0 (Rds.prod (c := list 16 dFi) ptr (Rds.prod (c := list 32 dEn) par (Rds.prod (c := cCu) pch (Rds.prod (c := list 200 (num maxN)) pow (Rds.prod (c := list 32 dEn) psh (Rds.prod (c := Wire.bool) ptu.bool (Rds.prod (c := cCu) ppe (Rds.prod (c := list 32 dEn) pth (Rds.prod (c := list 32 (str 100)) pco (Rds.prod (c := list 200 dPu) (d := Wire.bool) pwa pha.bool))))))))))
  have hcan : CanZ (v0, tr, ar, ch, ow, sh, (tu == 1), pe, th, co, wa, (ha == 1)) ⟨nltr, nlar, nlow, nlsh, nlth, nlco, nlwa, finO otr, finO oar, finO oow, finO osh, finO oth, finO oco, finO owa⟩ := ⟨can_of wtr, can_of war, can_of wow, can_of wsh, can_of wth, can_of wco, can_of wwa⟩
  have hC : ([I64 v0, .slice (tr.map rowFi) nltr (adO ktr otr), .slice (ar.map rowEn) nlar (adO (c2 + 64 * 1) oar), I64 ch.1, I64 ch.2.1, I64 ch.2.2.1, I64 ch.2.2.2, .slice (ow.map rowN) nlow (adO kow oow), .slice (sh.map rowEn) nlsh (adO (c6 + 64 * 1) osh), BO (tu == 1), I64 pe.1, I64 pe.2.1, I64 pe.2.2.1, I64 pe.2.2.2, .slice (th.map rowEn) nlth (adO (c9 + 64 * 1) oth), .slice (co.map rowS) nlco (adO (c10 + 64 * 1) oco), .slice (wa.map rowPu) nlwa (adO kwa owa), BO (ha == 1)]).map strip1 = cellsSt (v0, tr, ar, ch, ow, sh, (tu == 1), pe, th, co, wa, (ha == 1)) ⟨nltr, nlar, nlow, nlsh, nlth, nlco, nlwa, finO otr, finO oar, finO oow, finO osh, finO oth, finO oco, finO owa⟩ := by
    simp only [List.map_cons, List.map_nil, strip1_ad wtr.ff, strip1_ad war.ff, strip1_ad wow.ff, strip1_ad wsh.ff, strip1_ad wth.ff, strip1_ad wco.ff, strip1_ad wwa.ff]
    rfl
  obtain ⟨a15, e15, h15, hend⟩ := rend81 b a14 e14 [] pha.1
  refine aw_assoc (aw_sr (ow_k 1 10 (by kernel_rfl) ?_))
  refine ow_callE0 (k := 81) (first := []) (captured := []) (xs := [.hp 0 0]) (r := I64 e15) h15 (by kernel_rfl) (by kernel_rfl) (by kernel_rfl) (by kernel_rfl) (by kernel_rfl) (by kernel_rfl) (by kernel_rfl) (by kernel_rfl) ?_
  by_cases he : e15 = 0
  · subst he
    obtain ⟨he11, ha11⟩ := hend.1 rfl
    have hok : dSt.ok (v0, tr, ar, ch, ow, sh, (tu == 1), pe, th, co, wa, (ha == 1)) := by
      have := hall.2.2 rfl
      cases hd : dSt.dec (b.drop 0) with
      | none => rw [hd] at this; exact absurd he11 this
      | some p =>
        obtain ⟨s', r⟩ := p
        rw [hd] at this
        have hB := (dSt.B _ _ _ hd).2
        rw [← this.1] at hB
        exact hB
    obtain ⟨q, _, hq0⟩ := Go.Proofs.W.Q17.right17 (ok_smD hok)
    have gq : q = true ↔ RP' (v0, tr, ar, ch, ow, sh, (tu == 1), pe, th, co, wa, (ha == 1)) ⟨nltr, nlar, nlow, nlsh, nlth, nlco, nlwa, finO otr, finO oar, finO oow, finO osh, finO oth, finO oco, finO owa⟩ := by
      unfold RP'; rw [hq0]; simp
    have hq := right14 hcan hq0
    refine ow_k 3 10 (by kernel_rfl) ?_
    refine ow_callN (k := 14) (first := []) (captured := []) (xs := [.agg [I64 v0, .slice (tr.map rowFi) nltr (adO ktr otr), .slice (ar.map rowEn) nlar (adO (c2 + 64 * 1) oar), I64 ch.1, I64 ch.2.1, I64 ch.2.2.1, I64 ch.2.2.2, .slice (ow.map rowN) nlow (adO kow oow), .slice (sh.map rowEn) nlsh (adO (c6 + 64 * 1) osh), BO (tu == 1), I64 pe.1, I64 pe.2.1, I64 pe.2.2.1, I64 pe.2.2.2, .slice (th.map rowEn) nlth (adO (c9 + 64 * 1) oth), .slice (co.map rowS) nlco (adO (c10 + 64 * 1) oco), .slice (wa.map rowPu) nlwa (adO kwa owa), BO (ha == 1)]]) (r := BO q) (by
      rw [List.map_cons, List.map_nil, show strip (.agg [I64 v0, .slice (tr.map rowFi) nltr (adO ktr otr), .slice (ar.map rowEn) nlar (adO (c2 + 64 * 1) oar), I64 ch.1, I64 ch.2.1, I64 ch.2.2.1, I64 ch.2.2.2, .slice (ow.map rowN) nlow (adO kow oow), .slice (sh.map rowEn) nlsh (adO (c6 + 64 * 1) osh), BO (tu == 1), I64 pe.1, I64 pe.2.1, I64 pe.2.2.1, I64 pe.2.2.2, .slice (th.map rowEn) nlth (adO (c9 + 64 * 1) oth), .slice (co.map rowS) nlco (adO (c10 + 64 * 1) oco), .slice (wa.map rowPu) nlwa (adO kwa owa), BO (ha == 1)]) = .agg (cellsSt (v0, tr, ar, ch, ow, sh, (tu == 1), pe, th, co, wa, (ha == 1)) ⟨nltr, nlar, nlow, nlsh, nlth, nlco, nlwa, finO otr, finO oar, finO oow, finO osh, finO oth, finO oco, finO owa⟩) from congrArg AV.agg hC]
      exact nohp_a _ _) (by
      rw [List.map_cons, List.map_nil, show strip (.agg [I64 v0, .slice (tr.map rowFi) nltr (adO ktr otr), .slice (ar.map rowEn) nlar (adO (c2 + 64 * 1) oar), I64 ch.1, I64 ch.2.1, I64 ch.2.2.1, I64 ch.2.2.2, .slice (ow.map rowN) nlow (adO kow oow), .slice (sh.map rowEn) nlsh (adO (c6 + 64 * 1) osh), BO (tu == 1), I64 pe.1, I64 pe.2.1, I64 pe.2.2.1, I64 pe.2.2.2, .slice (th.map rowEn) nlth (adO (c9 + 64 * 1) oth), .slice (co.map rowS) nlco (adO (c10 + 64 * 1) oco), .slice (wa.map rowPu) nlwa (adO kwa owa), BO (ha == 1)]) = .agg (cellsSt (v0, tr, ar, ch, ow, sh, (tu == 1), pe, th, co, wa, (ha == 1)) ⟨nltr, nlar, nlow, nlsh, nlth, nlco, nlwa, finO otr, finO oar, finO oow, finO osh, finO oth, finO oco, finO owa⟩) from congrArg AV.agg hC]
      exact hq) (by kernel_rfl) (by kernel_rfl) (by kernel_rfl) (by kernel_rfl) (by kernel_rfl) (by kernel_rfl) (by kernel_rfl) ?_
    cases q with
    | false =>
      refine ow_all 10 (by kernel_rfl) ?_
      refine aw_sc true (by kernel_rfl) (fun _ => ?_) (fun h => by cases h)
      refine aw_assoc (aw_sk 10 (by kernel_rfl) ?_)
      refine aw_sret ?_
      exact ⟨.inr rfl, [.agg zeroC, I64 4], by kernel_rfl, by kernel_rfl, (v0, tr, ar, ch, ow, sh, (tu == 1), pe, th, co, wa, (ha == 1)), ⟨nltr, nlar, nlow, nlsh, nlth, nlco, nlwa, finO otr, finO oar, finO oow, finO osh, finO oth, finO oco, finO owa⟩, a14, e14, hcan, hall, .inr ⟨by kernel_rfl, fun k => by have := gq.2 k.2.2; cases this⟩⟩
    | true =>
      refine ow_all 10 (by kernel_rfl) ?_
      refine aw_sc false (by kernel_rfl) (fun h => by cases h) (fun _ => ?_)
      refine aw_sskip (aw_sk 10 (by kernel_rfl) ?_)
      refine aw_ret ?_
      refine ⟨.inr rfl, [.agg [I64 v0, .slice (tr.map rowFi) nltr (adO ktr otr), .slice (ar.map rowEn) nlar (adO (c2 + 64 * 1) oar), I64 ch.1, I64 ch.2.1, I64 ch.2.2.1, I64 ch.2.2.2, .slice (ow.map rowN) nlow (adO kow oow), .slice (sh.map rowEn) nlsh (adO (c6 + 64 * 1) osh), BO (tu == 1), I64 pe.1, I64 pe.2.1, I64 pe.2.2.1, I64 pe.2.2.2, .slice (th.map rowEn) nlth (adO (c9 + 64 * 1) oth), .slice (co.map rowS) nlco (adO (c10 + 64 * 1) oco), .slice (wa.map rowPu) nlwa (adO kwa owa), BO (ha == 1)], I64 0], by kernel_rfl, by kernel_rfl, (v0, tr, ar, ch, ow, sh, (tu == 1), pe, th, co, wa, (ha == 1)), ⟨nltr, nlar, nlow, nlsh, nlth, nlco, nlwa, finO otr, finO oar, finO oow, finO osh, finO oth, finO oco, finO owa⟩, a14, e14, hcan, hall, .inl ⟨?_, he11, ha11, gq.1 rfl⟩⟩
      refine Eq.trans (b := .tup [.agg (([I64 v0, .slice (tr.map rowFi) nltr (adO ktr otr), .slice (ar.map rowEn) nlar (adO (c2 + 64 * 1) oar), I64 ch.1, I64 ch.2.1, I64 ch.2.2.1, I64 ch.2.2.2, .slice (ow.map rowN) nlow (adO kow oow), .slice (sh.map rowEn) nlsh (adO (c6 + 64 * 1) osh), BO (tu == 1), I64 pe.1, I64 pe.2.1, I64 pe.2.2.1, I64 pe.2.2.2, .slice (th.map rowEn) nlth (adO (c9 + 64 * 1) oth), .slice (co.map rowS) nlco (adO (c10 + 64 * 1) oco), .slice (wa.map rowPu) nlwa (adO kwa owa), BO (ha == 1)]).map strip1), I64 0]) (by kernel_rfl) (by rw [hC])
  · refine ow_is (x := (e15 != 0)) (w := true) (by simpa using he) (by kernel_rfl) (by kernel_rfl) (by kernel_rfl) (by kernel_rfl) (by kernel_rfl) ?_
    refine ow_all 10 (by kernel_rfl) ?_
    refine aw_sc true (by kernel_rfl) (fun _ => ?_) (fun h => by cases h)
    refine aw_assoc (aw_sk 10 (by kernel_rfl) ?_)
    refine aw_sret ?_
    exact ⟨.inr rfl, [.agg zeroC, I64 4], by kernel_rfl, by kernel_rfl, (v0, tr, ar, ch, ow, sh, (tu == 1), pe, th, co, wa, (ha == 1)), ⟨nltr, nlar, nlow, nlsh, nlth, nlco, nlwa, finO otr, finO oar, finO oow, finO osh, finO oth, finO oco, finO owa⟩, a14, e14, hcan, hall, .inr ⟨by kernel_rfl, fun k => he (hend.2 ⟨k.1, k.2.1⟩)⟩⟩
end Go.Proofs.V.M17
namespace Go.Proofs.V.M17
open Go Go.Proofs Go.Proofs.V Go.Proofs.V.Wire Go.Proofs.V.L17
set_option linter.unusedVariables false
set_option linter.unusedSimpArgs false
set_option maxRecDepth 100000
set_option maxHeartbeats 1000000
theorem lens_le : ∀ (l : List BS), (∀ w ∈ l, w.length ≤ 12) → E.lens l ≤ l.length * 13
  | [], _ => by simp [E.lens]
  | w :: l, h => by
    have h1 := lens_le l (fun x hx => h x (List.mem_cons_of_mem _ hx))
    have h2 := h w (List.mem_cons_self ..)
    simp only [E.lens, List.map_cons, List.sum_cons, List.length_cons] at h1 ⊢
    omega
theorem path_short {p : BS} (h : Go.Proofs.W.Q10.pathB p = true) : p.length ≤ 51 := by
  unfold Go.Proofs.W.Q10.pathB at h
  rw [Bool.and_eq_true, decide_eq_true_eq, List.all_eq_true] at h
  have h1 := lens_le (E.spl p) (fun w hw => by
    have := h.2 w hw
    unfold Go.Proofs.W.Q10.nameB at this
    simp only [Bool.and_eq_true, decide_eq_true_eq] at this
    omega)
  rw [E.lens_spl] at h1
  have := h.1
  omega
theorem arch_short {a : List En} (hs : a.length ≤ 60 ∧ ∀ e ∈ a, Go.Proofs.W.Q9.okEn e = true) (h : Go.Proofs.W.Q9.scan_Right a = some true) : ∀ e ∈ a, e.1.length ≤ 51 := by
  intro e he
  have h1 := (Go.Proofs.W.Q9.right_fwd (by omega) h).ok e he
  have h2 : e.1.length ≤ 1000000 := by
    have := hs.2 e he
    simp only [Go.Proofs.W.Q9.okEn, Bool.and_eq_true, decide_eq_true_eq] at this
    omega
  have h3 := h1.path
  rw [Go.Proofs.W.Q10.right_ok h2] at h3
  exact path_short (Option.some.inj h3)
theorem right_short {s : Go.Proofs.W.Q17.St} (h : Go.Proofs.W.Q17.Small s) (hr : Go.Proofs.W.Q17.state_Right s = some true) :
    (∀ e ∈ s.2.1, e.1.length ≤ 51) ∧ (∀ e ∈ s.2.2.1, e.1.length ≤ 51) ∧ (∀ e ∈ s.2.2.2.2.2.2.2.2.1, e.1.length ≤ 51) ∧ (∀ e ∈ s.2.2.2.2.2.2.2.2.2.2.2.2.2.2.1, e.1.length ≤ 51) ∧ (∀ p ∈ s.2.2.2.2.2.2.2.2.2.2.2.2.2.2.2.1, p.length ≤ 51) := by
  have hF : ∀ e ∈ s.2.1, e.1.length ≤ 1000000 := fun e he => by
    have : e.1.length ≤ 100 ∧ e.2.length ≤ 1000 := by simpa [Go.Proofs.W.Q9.okFi] using h.tr.2 e he
    omega
  have arch : ∀ a : List En, (a.length ≤ 60 ∧ ∀ e ∈ a, Go.Proofs.W.Q9.okEn e = true) → ∃ b, Go.Proofs.W.Q9.scan_Right a = some b := fun a ⟨h1, h2⟩ => by
    have hg : (decide (a.length ≤ 60) && a.all Go.Proofs.W.Q9.okEn) = true := by simp only [Bool.and_eq_true, decide_eq_true_eq, List.all_eq_true]; exact ⟨h1, h2⟩
    exact (Go.Proofs.W.Q10.few_small hg).mid.ends
  obtain ⟨A1, p1⟩ := arch _ h.ar
  obtain ⟨A2, p2⟩ := arch _ h.sh
  obtain ⟨A3, p3⟩ := arch _ h.th
  have hT := Go.Proofs.W.Q10.tree_dec hF
  rw [Go.Proofs.W.Q17.right_st h hT p1 p2 p3] at hr
  have hr := Option.some.inj hr
  simp only [Bool.and_eq_true] at hr
  obtain ⟨r1, r2, r3, -, -, -, -, ⟨-, rT⟩, -, -, rC, -⟩ := hr
  subst r1; subst r2; subst r3
  refine ⟨fun e he => ?_, arch_short h.ar p1, arch_short h.sh p2, arch_short h.th p3, fun p hp => ?_⟩
  · obtain ⟨i, hi, rfl⟩ := List.getElem_of_mem he
    have := List.all_eq_true.1 rT i (List.mem_range.2 hi)
    unfold Go.Proofs.W.Q10.okAt at this
    rw [dif_pos hi, Bool.and_eq_true] at this
    exact path_short this.1
  · obtain ⟨i, hi, rfl⟩ := List.getElem_of_mem hp
    have := List.all_eq_true.1 rC i (List.mem_range.2 hi)
    unfold Go.Proofs.W.Q17.sortB at this
    rw [Bool.and_eq_true] at this
    have e : (s.2.2.2.2.2.2.2.2.2.2.2.2.2.2.2.1).getD i [] = (s.2.2.2.2.2.2.2.2.2.2.2.2.2.2.2.1)[i] := by simp [List.getD, hi]
    rw [e] at this
    exact path_short this.1
theorem str_up {m n : Int} (h : m ≤ n) {x : BS} (hx : (str m).ok x) : (str n).ok x := ⟨by have := hx.1; omega, hx.2⟩
theorem str_dn {m n : Int} {x : BS} (hx : (str n).ok x) (h : (x.length : Int) ≤ m) : (str m).ok x := ⟨h, hx.2⟩
theorem ok_up {s : Stt} (h : cSt.ok s) : dSt.ok s := by
  obtain ⟨h1, h2, h3, h4, h5, h6, h7, h8, h9, h10, h11, h12⟩ := h
  have hen : ∀ {l : List En}, (list 32 cEn).ok l → (list 32 dEn).ok l := fun ⟨q1, q2, q3⟩ => ⟨q1, q2, fun x hx => ⟨str_up (by decide) (q3 x hx).1, (q3 x hx).2⟩⟩
  exact ⟨h1, ⟨h2.1, h2.2.1, fun x hx => ⟨str_up (by decide) (h2.2.2 x hx).1, (h2.2.2 x hx).2⟩⟩, hen h3, h4, h5, hen h6, h7, h8, hen h9, ⟨h10.1, h10.2.1, fun x hx => str_up (by decide) (h10.2.2 x hx)⟩, h11, h12⟩
theorem ok_dn {s : Stt} (h : dSt.ok s) (hr : Go.Proofs.W.Q17.state_Right (toQ s) = some true) : cSt.ok s := by
  obtain ⟨r1, r2, r3, r4, r5⟩ := right_short (ok_smD h) hr
  obtain ⟨h1, h2, h3, h4, h5, h6, h7, h8, h9, h10, h11, h12⟩ := h
  have hen : ∀ {l : List En}, (∀ e ∈ l, e.1.length ≤ 51) → (list 32 dEn).ok l → (list 32 cEn).ok l := fun r ⟨q1, q2, q3⟩ => ⟨q1, q2, fun x hx => ⟨str_dn (q3 x hx).1 (by have := r x hx; omega), (q3 x hx).2⟩⟩
  exact ⟨h1, ⟨h2.1, h2.2.1, fun x hx => ⟨str_dn (h2.2.2 x hx).1 (by have := r1 x hx; omega), (h2.2.2 x hx).2⟩⟩, hen r2 h3, h4, h5, hen r3 h6, h7, h8, hen r4 h9, ⟨h10.1, h10.2.1, fun x hx => str_dn (h10.2.2 x hx) (by have := r5 x hx; omega)⟩, h11, h12⟩
theorem enc_same (s : Stt) : cSt.enc s = dSt.enc s := rfl
/-- What is read whole, and what is decoded. -/
theorem rds_full {c : Codec Stt} {b : BS} {s : Stt} {a' : Nat} {e' : Int} (h : Rds b c.dec s 0 0 a' e') : (e' = 0 ∧ a' = b.length) ↔ c.dec b = some (s, []) := by
  have h1 := h.2.2 rfl
  rw [List.drop_zero] at h1
  constructor
  · rintro ⟨rfl, rfl⟩
    have := rds_some h
    rw [List.drop_zero, List.drop_length] at this
    exact this
  · intro hd
    rw [hd] at h1
    obtain ⟨-, h2, h3⟩ := h1
    have hl := congrArg List.length h3
    rw [List.length_drop] at hl
    have := h.1
    exact ⟨h2, by simp at hl; omega⟩
theorem dec_up {b : BS} {s : Stt} (h : cSt.dec b = some (s, [])) : dSt.dec b = some (s, []) := by
  obtain ⟨h1, h2⟩ := cSt.B _ _ _ h
  have := dSt.A s [] (ok_up h2)
  rw [← enc_same, ← h1] at this
  exact this
theorem dec_dn {b : BS} {s : Stt} (h : dSt.dec b = some (s, [])) (hr : Go.Proofs.W.Q17.state_Right (toQ s) = some true) : cSt.dec b = some (s, []) := by
  obtain ⟨h1, h2⟩ := dSt.B _ _ _ h
  have := cSt.A s [] (ok_dn h2 hr)
  rw [enc_same, ← h1] at this
  exact this
def zS : Stt := (0, [], [], (0, 0, 0, 0), [], [], false, (0, 0, 0, 0), [], [], [], false)
def zN : Nl := ⟨true, true, true, true, true, true, true, .full, .full, .full, .full, .full, .full, .full⟩
theorem zero_can : CanZ zS zN := ⟨.inl ⟨rfl, rfl, rfl⟩, .inl ⟨rfl, rfl, rfl⟩, .inl ⟨rfl, rfl, rfl⟩, .inl ⟨rfl, rfl, rfl⟩, .inl ⟨rfl, rfl, rfl⟩, .inl ⟨rfl, rfl, rfl⟩, .inl ⟨rfl, rfl, rfl⟩⟩
theorem rread17e : callQ cfgR (evK cfgR) 17 [ST []] = some (.tup [.agg zeroC, I64 4]) := callQ_at 200 (by kernel_rfl)
/-- Both ways of reading. -/
theorem read_same (b : BS) (hb : b.length ≤ 1000000000) : ∃ (s : Stt) (z z' : Nl) (er : Int), CanZ s z ∧ CanZ s z' ∧ Go.Proofs.W.Q17.Mild (toQ s) ∧ callQ cfgR (evK cfgR) 16 [ST b] = some (.tup [.agg (cellsSt s z), I64 er]) ∧ callQ cfgR (evK cfgR) 17 [ST b] = some (.tup [.agg (cellsSt s z'), I64 er]) := by
  have hz : Go.Proofs.W.Q17.Mild (toQ zS) := by constructor <;> decide
  by_cases hb0 : b = []
  · subst hb0
    exact ⟨zS, zN, zN, 4, zero_can, zero_can, hz, read10e, rread17e⟩
  obtain ⟨s, z, a1, e1, c1, r1, k1⟩ := read10 b hb0 hb
  obtain ⟨t, y, a2, e2, c2, r2, k2⟩ := rread17 b hb0 hb
  have key : (e1 = 0 ∧ a1 = b.length ∧ RP s z) → (e2 = 0 ∧ a2 = b.length ∧ RP' t y) ∧ s = t ∧ Go.Proofs.W.Q17.Mild (toQ s) := by
    rintro ⟨h1, h2, h3⟩
    have hd := (rds_full r1).1 ⟨h1, h2⟩
    have hu := dec_up hd
    have h4 := r2.2.2 rfl
    rw [List.drop_zero, hu] at h4
    obtain ⟨rfl, -, -⟩ := h4
    have hf := (rds_full r2).2 hu
    have hs := ok_sm (cSt.B _ _ _ hd).2
    obtain ⟨r, q1, q2⟩ := Go.Proofs.W.Q17.right17 hs
    unfold RP at h3
    rw [q1] at h3
    exact ⟨⟨hf.1, hf.2, by unfold RP'; rw [q2, h3]⟩, rfl, hs.mild⟩
  have key2 : (e2 = 0 ∧ a2 = b.length ∧ RP' t y) → (e1 = 0 ∧ a1 = b.length ∧ RP s z) := by
    rintro ⟨h1, h2, h3⟩
    have hd := (rds_full r2).1 ⟨h1, h2⟩
    have hs := ok_smD (dSt.B _ _ _ hd).2
    obtain ⟨r, q1, q2⟩ := Go.Proofs.W.Q17.right17 hs
    unfold RP' at h3
    rw [q2] at h3
    rw [h3] at q1
    have hu := dec_dn hd q1
    have h4 := r1.2.2 rfl
    rw [List.drop_zero, hu] at h4
    obtain ⟨rfl, -, -⟩ := h4
    have hf := (rds_full r1).2 hu
    exact ⟨hf.1, hf.2, q1⟩
  rcases k1 with ⟨q1, g1⟩ | ⟨q1, g1⟩
  · obtain ⟨g2, rfl, hm⟩ := key g1
    rcases k2 with ⟨q2, _⟩ | ⟨_, n2⟩
    · exact ⟨s, z, y, 0, c1, c2, hm, q1, q2⟩
    · exact absurd g2 n2
  · rcases k2 with ⟨_, g2⟩ | ⟨q2, _⟩
    · exact absurd (key2 g2) g1
    · exact ⟨zS, zN, zN, 4, zero_can, zero_can, hz, q1, q2⟩
end Go.Proofs.V.M17

/- Readers of bytes at seat r17 ZD: what they stand on. -/
import Derived.Test.YtdgihbbekacgcaaGreatDoorK34
import Derived.Test.YtdgihbbekacgcaaGreatDoorK39
import Derived.Test.YtdgihbbekacgcaaGreatDoorK40
import Derived.Test.YtdgihbbekacgcaaGreatDoorK32
import Derived.Test.YtdgihbbekacgcaaGreatDoorK11
namespace Go.Proofs.V.M17
open Go Go.Proofs Go.Proofs.V Go.Proofs.V.Wire Go.Proofs.V.L17 Go.Proofs.W Go.Proofs.W.C
set_option linter.unusedVariables false
set_option linter.unusedSimpArgs false
set_option maxRecDepth 100000
set_option maxHeartbeats 1000000
abbrev nilS : AV := .slice [] true .full
def bsA (bs : BS) : List (List AV) := bs.map rowOfByte
theorem bsA_len (a : BS) : (bsA a).length = a.length := List.length_map ..
theorem bsA_all (a : BS) : ∀ r ∈ bsA a, r.length = 1 := by
  intro r h
  obtain ⟨b, _, rfl⟩ := List.mem_map.1 h
  rfl
def cl (n : Int) : Int := if 0 < (if 4294967295 < n then 4294967295 else n) then (if 4294967295 < n then 4294967295 else n) else 0
/-- Bytes as a value. -/
abbrev BSl (bs : BS) (nl : Bool) (own : Own) : AV := .slice (bsA bs) nl own
def rowN (n : Int) : List AV := [I64 n]
def rowS (s : BS) : List AV := [ST s]
def rowFi (x : Fi) : List AV := [ST x.1, ST x.2]
def rowEn (x : En) : List AV := [ST x.1, BO x.2.1, ST x.2.2.1, I64 x.2.2.2.1, I64 x.2.2.2.2]
def rowPu (x : Pu) : List AV := [I64 x.1, ST x.2]
def cellsCu (x : Cu) : List AV := [I64 x.1, I64 x.2.1, I64 x.2.2.1, I64 x.2.2.2]
theorem row_at {α : Type} (f : α → List AV) (l : List α) (i : Nat) (h : i < l.length) : (l.map f)[(i : Int).toNat]? = some (f l[i]) := by
  simp [h]
/-- A state, as a value: whether its slices are nil, besides. -/
structure Nl where
  tree : Bool
  arch : Bool
  own : Bool
  shown : Bool
  theirs : Bool
  conf : Bool
  waits : Bool
  treeO : Own
  archO : Own
  ownO : Own
  shownO : Own
  theirsO : Own
  confO : Own
  waitsO : Own
/-- Nobody's marks. -/
def OkO (o : Own) : Prop := o = .no ∨ o = .full
structure OkZ (z : Nl) : Prop where
  tree : OkO z.treeO
  arch : OkO z.archO
  own : OkO z.ownO
  shown : OkO z.shownO
  theirs : OkO z.theirsO
  conf : OkO z.confO
  waits : OkO z.waitsO
theorem strip1_ok {o : Own} (h : OkO o) (rows : List (List AV)) (nl : Bool) : strip1 (.slice rows nl o) = .slice rows nl o := by
  rcases h with rfl | rfl <;> rfl
def cellsSt (s : Stt) (z : Nl) : List AV :=
  [I64 s.1, .slice (s.2.1.map rowFi) z.tree z.treeO, .slice (s.2.2.1.map rowEn) z.arch z.archO, I64 s.2.2.2.1.1, I64 s.2.2.2.1.2.1, I64 s.2.2.2.1.2.2.1, I64 s.2.2.2.1.2.2.2, .slice (s.2.2.2.2.1.map rowN) z.own z.ownO, .slice (s.2.2.2.2.2.1.map rowEn) z.shown z.shownO, BO s.2.2.2.2.2.2.1, I64 s.2.2.2.2.2.2.2.1.1, I64 s.2.2.2.2.2.2.2.1.2.1, I64 s.2.2.2.2.2.2.2.1.2.2.1, I64 s.2.2.2.2.2.2.2.1.2.2.2, .slice (s.2.2.2.2.2.2.2.2.1.map rowEn) z.theirs z.theirsO, .slice (s.2.2.2.2.2.2.2.2.2.1.map rowS) z.conf z.confO, .slice (s.2.2.2.2.2.2.2.2.2.2.1.map rowPu) z.waits z.waitsO, BO s.2.2.2.2.2.2.2.2.2.2.2]
theorem strip1_st (s : Stt) {z : Nl} (hz : OkZ z) : (cellsSt s z).map strip1 = cellsSt s z := by
  simp only [cellsSt, List.map_cons, List.map_nil, strip1_ok hz.tree, strip1_ok hz.arch, strip1_ok hz.own, strip1_ok hz.shown, strip1_ok hz.theirs, strip1_ok hz.conf, strip1_ok hz.waits]
  rfl
theorem strip_st (s : Stt) {z : Nl} (hz : OkZ z) : strip (.agg (cellsSt s z)) = .agg (cellsSt s z) := congrArg AV.agg (strip1_st s hz)
theorem bytesOf_bsA : ∀ bs : BS, bytesOf (bsA bs) = some bs
  | [] => rfl
  | b :: bs => by
    have h := bytesOf_bsA bs
    simp only [bsA] at h
    simp only [bsA, List.map_cons, rowOfByte, bytesOf, h, Option.map_some]
    congr 2
    apply UInt8.toNat_inj.1
    have := b.toNat_lt
    simp
/-- Bytes as a string. -/
theorem ow_toS {cfg : Cfg} {F : St} {Q : St → Prop} {draw : Bool} {ds : List Nat} {all : Array Oper} {rest : List Oper} {lab : Nat} {type : TypeId} {pos : String} {after : Array Edge} {g : Option (Nat × Bool)} {d : Nat} {s t e : TypeId} {x : Operand} {bs : BS} {nl : Bool} {own : Own} (hx : F.ev x = BSl bs nl own) (he : tel cfg.P s = some e) (h8 : isU8 cfg.P e = true) (hs : isStr cfg.P t = true)
    (hg : guardA all { dst := some d, op := .convert s t x, type, pos, after, guard := g } F = some true) (hd : Nat.blt d F.n = true)
    (h : Ow cfg draw ds all rest (lab + 64) { F with t := upd F.t d (ST bs) } Q) : Ow cfg draw ds all ({ dst := some d, op := .convert s t x, type, pos, after, guard := g } :: rest) lab F Q := by
  refine ow_val rfl hg rfl ?_ hd h
  simp only [quiet, hx, convA, he, hs, h8, if_true, bytesOf_bsA, Option.map_some]
theorem cons_of {α : Type} {l : List α} {n : Nat} (h : l.length = n + 1) : ∃ a l', l = a :: l' ∧ l'.length = n := by
  cases l with
  | nil => cases h
  | cons a l' => exact ⟨a, l', rfl, by simpa using h⟩
theorem rowFi_all (l : List Fi) : ∀ r ∈ l.map rowFi, r.length = 2 := by
  intro r h
  obtain ⟨x, _, rfl⟩ := List.mem_map.1 h
  rfl
/-- What a call leaves on the heap may be forgotten where its result is one cell. -/
theorem csound_drop {P : Program} {g : Nat} {xs : List AV} {v0 : Value} {H' : List (List AV)} (h : CSound P g xs [] (.at v0) H') : CSound P g xs [] (.at v0) [] := by
  intro w S E vs hp h1 h2 h3
  have key : ∀ (v : Value) (w' : World), (∃ S' E' φ, CPost w S E (.at v0) H' v S' E' φ w') → ∃ S' E' φ, CPost w S E (.at v0) [] v S' E' φ w' := ?_
  · rcases h w S E vs hp h1 h2 h3 with ⟨v, w', e, k⟩ | ⟨e, k⟩
    · exact .inl ⟨v, w', e, key v w' k⟩
    · exact .inr ⟨e, fun n => (k n).mono fun e' w' ⟨v, h4, h5⟩ => ⟨v, h4, key v w' h5⟩⟩
  rintro v w' ⟨S', E', φ, k⟩
  have hE : ∀ l b, E l ≠ some b := fun l b e => by have := hp.eH l b e; simp at this
  refine ⟨S', fun _ => none, φ, ⟨k.bel, k.sS, k.sN, k.mem, fun l b e => (hE l b e).elim, fun l b _ e => (by cases e), fun l b e => (by cases e), fun l cs e => (by simp at e), fun l l' b e => (by cases e), ?_, k.nid, fun j u rows nl e => ?_, fun j j' rows nl rows' nl' e => ?_⟩⟩
  · have := k.rv
    cases this
    exact .at _
  · simp [parts] at e
    cases j <;> simp at e
  · simp [parts] at e
    cases j <;> simp at e
def atQ : Option AV → Option AV
  | some (.at v) => some (.at v)
  | _ => none
noncomputable def extR (f : Nat) : Option (List AV → Option AV) := if f = 13 then some (fun xs => atQ (callQ cfgL (evK cfgL) 13 xs)) else if f = 14 then some (fun xs => atQ (callQ cfgL (evK cfgL) 14 xs)) else if f = 8 then some (fun xs => atQ (callQ cfgL (evK cfgL) 8 xs)) else if f = 5 then some (fun xs => atQ (callQ cfgSm (evK cfgSm) 5 xs)) else extL f
def effR (f : Nat) : Bool := [62,63,64,65,66,67,68,69,70,71,72,73,74,75,76,77,78,79,80,81,102,103,104].contains f
def heapR (f t : Nat) : Bool := (f == 18 && t == 26) || (f == 116 && t == 27) || (f == 62 && t == 112) || (f == 68 && t == 25) || (f == 17 && t == 98)
noncomputable def cfgR : Cfg := { P := Tryz.prog, ext := extR, eff := effR, bad := [], heap := heapR, frz := fun f => f == 116, mu := fun f => f == 76 }
theorem ext_okR : ∀ g s xs r, cfgR.ext g = some s → s xs = some r → CSound cfgR.P g xs [] r [] := by
  intro g s xs r hg hs
  have key : ∀ (k : Nat), (atQ (callQ cfgL (evK cfgL) k xs)) = some r → CSound cfgR.P k xs [] r [] := by
    intro k h
    cases hq : callQ cfgL (evK cfgL) k xs with
    | none => rw [hq] at h; cases h
    | some y =>
      rw [hq] at h
      obtain ⟨H', hc⟩ := csound_of Go.Proofs.V.T17.okL hq
      cases y <;> first | (cases h; done) | skip
      cases h
      exact csound_drop hc
  have key5 : ∀ (k : Nat), (atQ (callQ cfgSm (evK cfgSm) k xs)) = some r → CSound cfgR.P k xs [] r [] := by
    intro k h
    cases hq : callQ cfgSm (evK cfgSm) k xs with
    | none => rw [hq] at h; cases h
    | some y =>
      rw [hq] at h
      obtain ⟨H', hc⟩ := csound_of Go.Proofs.V.T17.okSm hq
      cases y <;> first | (cases h; done) | skip
      cases h
      exact csound_drop hc
  have hg : extR g = some s := hg
  unfold extR at hg
  split at hg
  · rename_i h; subst h; cases hg; exact key 13 hs
  · split at hg
    · rename_i h; subst h; cases hg; exact key 14 hs
    · split at hg
      · rename_i h; subst h; cases hg; exact key 8 hs
      · split at hg
        · rename_i h; subst h; cases hg; exact key5 5 hs
        · exact ext_ok0 g s xs r hg hs
theorem okR : C.Ok cfgR := ⟨(by kernel_rfl), ext_okR⟩
end Go.Proofs.V.M17
namespace Go.Proofs.V.M17
open Go Go.Proofs Go.Proofs.V Go.Proofs.V.Wire Go.Proofs.V.L17
set_option linter.unusedVariables false
set_option linter.unusedSimpArgs false
/-- What a reader comes to: v is what is decoded from place a on, where no error was. -/
def Rds (bs : BS) {α : Type} (d : BS → Option (α × BS)) (v : α) (a : Nat) (e : Int) (a' : Nat) (e' : Int) : Prop :=
  a' ≤ bs.length ∧ (e ≠ 0 → e' ≠ 0) ∧ (e = 0 → match d (bs.drop a) with
    | some (x, r) => v = x ∧ e' = 0 ∧ bs.drop a' = r
    | none => e' ≠ 0)
theorem Rds.prod {bs : BS} {α β : Type} {c : Codec α} {d : Codec β} {v : α} {w : β} {a a1 a2 : Nat} {e e1 e2 : Int} (h1 : Rds bs c.dec v a e a1 e1) (h2 : Rds bs d.dec w a1 e1 a2 e2) : Rds bs (Wire.prod c d).dec (v, w) a e a2 e2 := by
  obtain ⟨_, p2, p3⟩ := h1
  obtain ⟨q1, q2, q3⟩ := h2
  refine ⟨q1, fun h => q2 (p2 h), fun h => ?_⟩
  have p3 := p3 h
  simp only [Wire.prod]
  cases hc : c.dec (bs.drop a) with
  | none => rw [hc] at p3; exact q2 p3
  | some xr =>
    obtain ⟨x, r⟩ := xr
    rw [hc] at p3
    obtain ⟨rfl, he, hr⟩ := p3
    have q3 := q3 he
    rw [hr] at q3
    dsimp only
    cases hd : d.dec r with
    | none => rw [hd] at q3; exact q3
    | some ys =>
      obtain ⟨y, s⟩ := ys
      rw [hd] at q3
      obtain ⟨rfl, he2, hs⟩ := q3
      exact ⟨rfl, he2, hs⟩
theorem Rds.bool {bs : BS} {n : Int} {a a1 : Nat} {e e1 : Int} (h : Rds bs (decN 1) n a e a1 e1) : Rds bs Wire.bool.dec (n == 1) a e a1 e1 := by
  obtain ⟨p1, p2, p3⟩ := h
  refine ⟨p1, p2, fun h => ?_⟩
  have p3 := p3 h
  simp only [Wire.bool]
  cases hc : decN 1 (bs.drop a) with
  | none => rw [hc] at p3; exact p3
  | some xr =>
    obtain ⟨x, r⟩ := xr
    rw [hc] at p3
    obtain ⟨rfl, he, hr⟩ := p3
    exact ⟨rfl, he, hr⟩
/-- The reader, as an object. -/
abbrev O (bs : BS) (a : Nat) (e : Int) : List AV := [.slice (bsA bs) false .no, I64 (a : Nat), I64 e]
def or8 (n x : Int) : Int := IntKind.i64.wrap ((BitVec.ofInt 64 (IntKind.i64.wrap (n * 2 ^ 8)) ||| BitVec.ofInt 64 (IntKind.i64.wrap x)).toNat)
theorem or8_eq (n x : Nat) (hn : n < 16777216) (hx : x < 256) : or8 (n : Int) (x : Int) = ((n * 256 + x : Nat) : Int) := by
  unfold or8
  rw [wrapI (x := (n : Int) * 2 ^ 8) (by omega) (by omega), wrapI (x := (x : Int)) (by omega) (by omega)]
  rw [BitVec.toNat_or]
  have e1 : (BitVec.ofInt 64 ((n : Int) * 2 ^ 8)).toNat = n <<< 8 := by
    rw [BitVec.toNat_ofInt, Nat.shiftLeft_eq]
    have : ((n : Int) * 2 ^ 8) % ((2 ^ 64 : Nat) : Int) = ((n * 2 ^ 8 : Nat) : Int) := by omega
    rw [this]; rfl
  have e2 : (BitVec.ofInt 64 (x : Int)).toNat = x := by
    rw [BitVec.toNat_ofInt]
    have : (x : Int) % ((2 ^ 64 : Nat) : Int) = (x : Int) := by omega
    rw [this]; rfl
  rw [e1, e2, ← Nat.shiftLeft_add_eq_or_of_lt (by omega : x < 2 ^ 8), Nat.shiftLeft_eq]
  rw [wrapI (by omega) (by omega)]
set_option maxRecDepth 100000
set_option maxHeartbeats 1000000
theorem fail67 (bs : BS) (a t : Nat) (er : Int) (R : List (List AV)) : evK cfgR 102 [.hp 0 0, I64 er, I64 (t : Nat)] (O bs a 0 :: R) = some (.tup [], O bs t er :: R) := evK_at 60 (by kernel_rfl)
theorem num24 (bs : BS) (most : Int) (a : Nat) (e : Int) (R : List (List AV)) (ha : a ≤ bs.length) (hb : bs.length ≤ 1000000000) :
    ∃ (n : Int) (a' : Nat) (e' : Int), evK cfgR 63 [.hp 0 0, I64 most] (O bs a e :: R) = some (I64 n, O bs a' e' :: R) ∧ Rds bs (decN most) n a e a' e' ∧ (e' ≠ 0 → n = 0) := by
  suffices h : ∃ r H', evK cfgR 63 [.hp 0 0, I64 most] (O bs a e :: R) = some (r, H') ∧ ∃ (n : Int) (a' : Nat) (e' : Int), (r = I64 n ∧ H' = O bs a' e' :: R) ∧ Rds bs (decN most) n a e a' e' ∧ (e' ≠ 0 → n = 0) by
    obtain ⟨r, H', h, n, a', e', ⟨rfl, rfl⟩, h1, h2⟩ := h
    exact ⟨n, a', e', h, h1, h2⟩
  refine evK_ofE (P := fun r H' => ∃ (n : Int) (a' : Nat) (e' : Int), (r = I64 n ∧ H' = O bs a' e' :: R) ∧ Rds bs (decN most) n a e a' e' ∧ (e' ≠ 0 → n = 0)) Tryz.func63 rfl (of_decide_eq_true (by kernel_rfl)) (by kernel_rfl) (by kernel_rfl) rfl ?_
  unfold Tryz.f63
  dsimp only
  refine aw_sk 10 (by kernel_rfl) ?_
  refine aw_assoc (aw_sk 10 (by kernel_rfl) ?_)
  refine aw_sc (e != 0) (by kernel_rfl) (fun h => ?_) (fun h => ?_)
  · have he : e ≠ 0 := by simpa using h
    refine aw_assoc (aw_sk 10 (by kernel_rfl) ?_)
    refine aw_sret ?_
    exact ⟨.inr rfl, [I64 0], by kernel_rfl, by kernel_rfl, 0, a, e, ⟨by kernel_rfl, by kernel_rfl⟩, ⟨ha, fun _ => he, fun h => absurd h he⟩, fun _ => rfl⟩
  have he : e = 0 := by simpa using h
  subst he
  refine aw_sskip (aw_assoc (aw_sk 10 (by kernel_rfl) ?_))
  have hw : IntKind.i64.wrap (((bsA bs).length : Int) - (a : Int)) = ((bs.length - a : Nat) : Int) := by rw [bsA_len, wrapI (by omega) (by omega)]; omega
  refine aw_sc (decide (IntKind.i64.wrap (((bsA bs).length : Int) - (a : Int)) < 4)) (by kernel_rfl) (fun h => ?_) (fun h => ?_)
  · have hs : (bs.drop a).length < 4 := by
      have := of_decide_eq_true h
      rw [hw] at this
      rw [List.length_drop]; omega
    refine aw_assoc (aw_sr (ow_k 5 10 (by kernel_rfl) ?_))
    refine ow_callE0 (k := 102) (first := []) (captured := []) (xs := [.hp 0 0, I64 4, I64 (a : Nat)]) (r := .tup []) (fail67 bs a a 4 R) (by kernel_rfl) (by kernel_rfl) (by kernel_rfl) (by kernel_rfl) (by kernel_rfl) (by kernel_rfl) (by kernel_rfl) (by kernel_rfl) ?_
    refine ow_nil ?_
    refine aw_assoc (aw_sk 10 (by kernel_rfl) ?_)
    refine aw_sret ?_
    refine ⟨.inr rfl, [I64 0], by kernel_rfl, by kernel_rfl, 0, a, 4, ⟨by kernel_rfl, by kernel_rfl⟩, ⟨ha, fun h => absurd rfl h, fun _ => ?_⟩, fun _ => rfl⟩
    rw [show decN most (bs.drop a) = none by unfold decN; rw [be4_none.2 hs]]
    exact (by decide : (4 : Int) ≠ 0)
  have hs : 4 ≤ (bs.drop a).length := by
    have := of_decide_eq_false h
    rw [hw] at this
    rw [List.length_drop]; omega
  obtain ⟨x0, l0, e0, h0⟩ := cons_of (n := (bs.drop a).length - 1) (l := bs.drop a) (by omega)
  obtain ⟨x1, l1, e1, h1⟩ := cons_of (n := l0.length - 1) (l := l0) (by omega)
  obtain ⟨x2, l2, e2, h2⟩ := cons_of (n := l1.length - 1) (l := l1) (by omega)
  obtain ⟨x3, l3, e3, h3⟩ := cons_of (n := l2.length - 1) (l := l2) (by omega)
  rw [e3] at e2; rw [e2] at e1; rw [e1] at e0
  have hw4 : IntKind.i64.wrap ((a : Int) + 4) = ((a + 4 : Nat) : Int) := by rw [wrapI (by omega) (by omega)]; omega
  rw [List.length_drop] at hs
  refine aw_sskip (aw_sk 10 (by kernel_rfl) ?_)
  refine aw_assoc (aw_sr (ow_k 13 10 (by kernel_rfl) ?_))
  refine ow_sube (rows := bsA bs) (nl := false) (own := .no) (el := 5) (sz := 1) (l := (a : Nat)) (u := IntKind.i64.wrap ((a : Int) + 4)) [rowOfByte x0, rowOfByte x1, rowOfByte x2, rowOfByte x3] (by
    rw [hw4, Int.toNat_natCast, Int.toNat_natCast, List.drop_take]
    simp only [bsA, ← List.map_drop, e0]
    rw [show a + 4 - a = 4 by omega]
    rfl) (by omega) (by omega) (by rw [bsA_len]; omega) (bsA_all bs) (by kernel_rfl) (by kernel_rfl) (by kernel_rfl) (by kernel_rfl) (by kernel_rfl) (by kernel_rfl) (by kernel_rfl) ?_
  refine ow_all 10 (by kernel_rfl) ?_
  refine aw_skc 60 (by kernel_rfl) (by kernel_rfl) ?_
  have hx0 := x0.toNat_lt; have hx1 := x1.toNat_lt; have hx2 := x2.toNat_lt; have hx3 := x3.toNat_lt
  have hv : or8 (or8 (or8 (or8 0 x0.toNat) x1.toNat) x2.toNat) x3.toNat = ((((x0.toNat * 256 + x1.toNat) * 256 + x2.toNat) * 256 + x3.toNat : Nat) : Int) := by
    rw [show (0 : Int) = ((0 : Nat) : Int) from rfl, or8_eq 0 _ (by omega) hx0, or8_eq _ _ (by omega) hx1, or8_eq _ _ (by omega) hx2, or8_eq _ _ (by omega) hx3]
    congr 1; omega
  refine aw_absE 72 (O bs a 0 :: R) (O bs a 0 :: R) (cfgR.heap 63) [(0, .hp 0 0), (1, I64 most), (5, I64 ((((x0.toNat * 256 + x1.toNat) * 256 + x2.toNat) * 256 + x3.toNat : Nat) : Int))] [(0, .hp 0 0), (1, I64 most), (5, I64 (or8 (or8 (or8 (or8 0 x0.toNat) x1.toNat) x2.toNat) x3.toNat))] (by rw [hv]) rfl (by kernel_rfl) (fun t9 c9 al9 => ?_)
  have hbe : be4 (bs.drop a) = some (((x0.toNat * 256 + x1.toNat) * 256 + x2.toNat) * 256 + x3.toNat, l3) := by rw [e0]; rfl
  generalize ((x0.toNat * 256 + x1.toNat) * 256 + x2.toNat) * 256 + x3.toNat = N at hbe
  refine aw_assoc (aw_sk 10 (by kernel_rfl) ?_)
  refine aw_sc (decide (most < (N : Int))) (by kernel_rfl) (fun h => ?_) (fun h => ?_)
  · have hm := of_decide_eq_true h
    refine aw_assoc (aw_sr (ow_k 5 10 (by kernel_rfl) ?_))
    refine ow_callE0 (k := 102) (first := []) (captured := []) (xs := [.hp 0 0, I64 5, I64 (a : Nat)]) (r := .tup []) (fail67 bs a a 5 R) (by kernel_rfl) (by kernel_rfl) (by kernel_rfl) (by kernel_rfl) (by kernel_rfl) (by kernel_rfl) (by kernel_rfl) (by kernel_rfl) ?_
    refine ow_nil ?_
    refine aw_assoc (aw_sk 10 (by kernel_rfl) ?_)
    refine aw_sret ?_
    refine ⟨.inr rfl, [I64 0], by kernel_rfl, by kernel_rfl, 0, a, 5, ⟨by kernel_rfl, by kernel_rfl⟩, ⟨ha, fun h => absurd rfl h, fun _ => ?_⟩, fun _ => rfl⟩
    rw [show decN most (bs.drop a) = none by unfold decN; rw [hbe]; exact if_pos hm]
    exact (by decide : (5 : Int) ≠ 0)
  · have hm := of_decide_eq_false h
    refine aw_sskip (aw_sk 10 (by kernel_rfl) ?_)
    refine aw_sk 10 (by kernel_rfl) ?_
    refine aw_ret ?_
    refine ⟨.inr rfl, [I64 (N : Int)], by kernel_rfl, by kernel_rfl, (N : Int), a + 4, 0, ⟨by kernel_rfl, Eq.trans (b := [.slice (bsA bs) false .no, I64 (IntKind.i64.wrap ((a : Int) + 4)), I64 0] :: R) (by kernel_rfl) (by rw [hw4])⟩, ⟨by omega, fun h => absurd rfl h, fun _ => ?_⟩, fun h => absurd rfl h⟩
    rw [show decN most (bs.drop a) = some ((N : Int), l3) by unfold decN; rw [hbe]; exact if_neg (by omega)]
    refine ⟨rfl, rfl, ?_⟩
    rw [← List.drop_drop, e0]
    rfl
end Go.Proofs.V.M17
namespace Go.Proofs.V.M17
open Go Go.Proofs Go.Proofs.V Go.Proofs.V.Wire Go.Proofs.V.L17
set_option linter.unusedVariables false
set_option linter.unusedSimpArgs false
set_option maxRecDepth 100000
set_option maxHeartbeats 1000000
theorem err68 (bs : BS) (a : Nat) (e : Int) (R : List (List AV)) : evK cfgR 103 [.hp 0 0] (O bs a e :: R) = some (I64 e, O bs a e :: R) := evK_at 60 (by kernel_rfl)
theorem string69 (bs : BS) (most : Int) (a : Nat) (e : Int) (R : List (List AV)) (ha : a ≤ bs.length) (hb : bs.length ≤ 1000000000) :
    ∃ (s : BS) (a' : Nat) (e' : Int), evK cfgR 104 [.hp 0 0, I64 most] (O bs a e :: R) = some (ST s, O bs a' e' :: R) ∧ Rds bs (decS most) s a e a' e' := by
  suffices h : ∃ r H', evK cfgR 104 [.hp 0 0, I64 most] (O bs a e :: R) = some (r, H') ∧ ∃ (s : BS) (a' : Nat) (e' : Int), (r = ST s ∧ H' = O bs a' e' :: R) ∧ Rds bs (decS most) s a e a' e' by
    obtain ⟨r, H', h, n, a', e', ⟨rfl, rfl⟩, h1⟩ := h
    exact ⟨n, a', e', h, h1⟩
  have hmin : (if (16384 : Int) < most then (16384 : Int) else most) = min most 16384 := by split <;> omega
  obtain ⟨n, a1, e1, hn, ⟨p1, p2, p3⟩, p4⟩ := num24 bs (if (16384 : Int) < most then (16384 : Int) else most) a e R ha hb
  rw [hmin] at p3
  refine evK_ofE (P := fun r H' => ∃ (s : BS) (a' : Nat) (e' : Int), (r = ST s ∧ H' = O bs a' e' :: R) ∧ Rds bs (decS most) s a e a' e') Tryz.func104 rfl (of_decide_eq_true (by kernel_rfl)) (by kernel_rfl) (by kernel_rfl) rfl ?_
  unfold Tryz.f104
  dsimp only
  refine aw_sk 10 (by kernel_rfl) ?_
  refine aw_sk 10 (by kernel_rfl) ?_
  refine aw_sr (ow_k 3 10 (by kernel_rfl) ?_)
  refine ow_callE0 (k := 63) (first := []) (captured := []) (xs := [.hp 0 0, I64 (if (16384 : Int) < most then (16384 : Int) else most)]) (r := I64 n) hn (by kernel_rfl) (by kernel_rfl) (by kernel_rfl) (by kernel_rfl) (by kernel_rfl) (by kernel_rfl) (by kernel_rfl) (by kernel_rfl) ?_
  refine ow_all 10 (by kernel_rfl) ?_
  refine aw_abs 66 (O bs a1 e1 :: R) (cfgR.heap 104) [(0, .hp 0 0), (5, I64 (a : Nat)), (6, I64 n)] (by kernel_rfl) (fun t1 c1 al1 => ?_)
  by_cases he1 : e1 = 0
  · subst he1
    have he : e = 0 := Classical.byContradiction fun h => p2 h rfl
    have p3 := p3 he
    cases hd : decN (min most 16384) (bs.drop a) with
    | none => rw [hd] at p3; exact absurd rfl p3
    | some xr =>
    obtain ⟨x, r⟩ := xr
    rw [hd] at p3
    obtain ⟨rfl, -, hr⟩ := p3
    obtain ⟨_, hn0, hn1, hn2⟩ := (num (min most 16384)).B _ _ _ hd
    have hrl : r.length = bs.length - a1 := by rw [← hr, List.length_drop]
    have hw : IntKind.i64.wrap (((bsA bs).length : Int) - (a1 : Int)) = ((bs.length - a1 : Nat) : Int) := by rw [bsA_len, wrapI (by omega) (by omega)]; omega
    refine aw_assoc (aw_sk 10 (by kernel_rfl) ?_)
    refine aw_sc (decide (IntKind.i64.wrap (((bsA bs).length : Int) - (a1 : Int)) < n)) (by kernel_rfl) (fun h => ?_) (fun h => ?_)
    · have hlt := of_decide_eq_true h
      rw [hw] at hlt
      refine aw_sr (ow_k 2 10 (by kernel_rfl) ?_)
      refine ow_callE0 (k := 102) (first := []) (captured := []) (xs := [.hp 0 0, I64 4, I64 (a : Nat)]) (r := .tup []) (fail67 bs a1 a 4 R) (by kernel_rfl) (by kernel_rfl) (by kernel_rfl) (by kernel_rfl) (by kernel_rfl) (by kernel_rfl) (by kernel_rfl) (by kernel_rfl) ?_
      refine ow_nil ?_
      refine aw_assoc (aw_sk 10 (by kernel_rfl) ?_)
      refine aw_sc true (by kernel_rfl) (fun _ => ?_) (fun h => by cases h)
      refine aw_assoc (aw_sk 10 (by kernel_rfl) ?_)
      refine aw_sret ?_
      refine ⟨.inr rfl, [ST []], by kernel_rfl, by kernel_rfl, [], a, 4, ⟨by kernel_rfl, by kernel_rfl⟩, ha, fun _ => by decide, fun _ => ?_⟩
      rw [show decS most (bs.drop a) = none by unfold decS; rw [hd]; exact if_pos (by omega)]
      exact (by decide : (4 : Int) ≠ 0)
    · have hge := of_decide_eq_false h
      rw [hw] at hge
      have hwn : IntKind.i64.wrap ((a1 : Int) + n) = ((a1 + n.toNat : Nat) : Int) := by rw [wrapI (by omega) (by omega)]; omega
      refine aw_sskip (aw_assoc (aw_sk 10 (by kernel_rfl) ?_))
      refine aw_sc false (by kernel_rfl) (fun h => by cases h) (fun _ => ?_)
      refine aw_sskip (aw_sk 10 (by kernel_rfl) ?_)
      refine aw_absE 66 (O bs (a1 + n.toNat) 0 :: R) ([.slice (bsA bs) false .no, I64 (IntKind.i64.wrap ((a1 : Int) + n)), I64 0] :: R) (cfgR.heap 104) [(0, .hp 0 0), (6, I64 n)] _ rfl (by rw [hwn]) (by kernel_rfl) (fun t2 c2 al2 => ?_)
      have hwm : IntKind.i64.wrap (((a1 + n.toNat : Nat) : Int) - n) = (a1 : Int) := by rw [wrapI (by omega) (by omega)]; omega
      refine aw_sr (ow_k 14 10 (by kernel_rfl) ?_)
      refine ow_sube (rows := bsA bs) (nl := false) (own := .no) (el := 5) (sz := 1) (l := IntKind.i64.wrap (((a1 + n.toNat : Nat) : Int) - n)) (u := ((a1 + n.toNat : Nat) : Int)) (bsA (r.take n.toNat)) (by
        rw [hwm, Int.toNat_natCast, Int.toNat_natCast, List.drop_take, ← hr]
        simp only [bsA, ← List.map_drop, ← List.map_take]
        rw [show a1 + n.toNat - a1 = n.toNat by omega]) (by omega) (by omega) (by rw [bsA_len]; omega) (bsA_all bs) (by kernel_rfl) (by kernel_rfl) (by kernel_rfl) (by kernel_rfl) (by kernel_rfl) (by kernel_rfl) (by kernel_rfl) ?_
      refine ow_toS (bs := r.take n.toNat) (nl := false) (own := .no) (e := 5) (by kernel_rfl) (by kernel_rfl) (by kernel_rfl) (by kernel_rfl) (by kernel_rfl) (by kernel_rfl) ?_
      refine ow_all 10 (by kernel_rfl) ?_
      refine aw_ret ?_
      refine ⟨.inr rfl, [ST (r.take n.toNat)], by kernel_rfl, by kernel_rfl, r.take n.toNat, a1 + n.toNat, 0, ⟨by kernel_rfl, by kernel_rfl⟩, by omega, fun h => absurd he h, fun _ => ?_⟩
      rw [show decS most (bs.drop a) = some (r.take n.toNat, r.drop n.toNat) by unfold decS; rw [hd]; exact if_neg (by omega)]
      exact ⟨rfl, rfl, by rw [← hr, List.drop_drop]⟩
  · have hf : (e1 == 0) = false := by simpa using he1
    have hq : Rds bs (decS most) [] a e a1 e1 := by
      refine ⟨p1, fun _ => he1, fun h => ?_⟩
      have p3 := p3 h
      cases hd : decN (min most 16384) (bs.drop a) with
      | some xr =>
        obtain ⟨x, r⟩ := xr
        rw [hd] at p3
        exact absurd p3.2.1 he1
      | none =>
        rw [show decS most (bs.drop a) = none by unfold decS; rw [hd]]
        exact he1
    refine aw_assoc (aw_sr (ow_k 4 10 (by kernel_rfl) ?_))
    refine ow_is (x := (e1 == 0)) (w := false) hf (by kernel_rfl) (by kernel_rfl) (by kernel_rfl) (by kernel_rfl) (by kernel_rfl) ?_
    refine ow_all 10 (by kernel_rfl) ?_
    refine aw_sc false (by kernel_rfl) (fun h => by cases h) (fun _ => ?_)
    refine aw_sskip (aw_assoc (aw_sk 10 (by kernel_rfl) ?_))
    refine aw_sc (e1 != 0) (by kernel_rfl) (fun _ => ?_) (fun h => absurd (by simpa using h) he1)
    refine aw_assoc (aw_sk 10 (by kernel_rfl) ?_)
    refine aw_sret ?_
    exact ⟨.inr rfl, [ST []], by kernel_rfl, by kernel_rfl, [], a1, e1, ⟨by kernel_rfl, by kernel_rfl⟩, hq⟩
theorem number31 (bs : BS) (a : Nat) (e : Int) (R : List (List AV)) (ha : a ≤ bs.length) (hb : bs.length ≤ 1000000000) :
    ∃ (n : Int) (a' : Nat) (e' : Int), evK cfgR 70 [.hp 0 0] (O bs a e :: R) = some (I64 n, O bs a' e' :: R) ∧ Rds bs (decN maxN) n a e a' e' := by
  obtain ⟨n, a1, e1, hn, p, _⟩ := num24 bs 4294967295 a e R ha hb
  refine ⟨n, a1, e1, ?_, p⟩
  refine evK_of Tryz.func70 rfl (of_decide_eq_true (by kernel_rfl)) (by kernel_rfl) (by kernel_rfl) rfl ?_
  unfold Tryz.f70
  dsimp only
  refine aw_sk 10 (by kernel_rfl) ?_
  refine aw_sr (ow_k 1 10 (by kernel_rfl) ?_)
  refine ow_callE0 (k := 63) (first := []) (captured := []) (xs := [.hp 0 0, I64 4294967295]) (r := I64 n) hn (by kernel_rfl) (by kernel_rfl) (by kernel_rfl) (by kernel_rfl) (by kernel_rfl) (by kernel_rfl) (by kernel_rfl) (by kernel_rfl) ?_
  refine ow_all 10 (by kernel_rfl) ?_
  refine aw_ret ?_
  exact ⟨.inr rfl, [I64 n], by kernel_rfl, by kernel_rfl, by kernel_rfl, by kernel_rfl⟩
theorem set32 (bs : BS) (a : Nat) (e : Int) (R : List (List AV)) (ha : a ≤ bs.length) (hb : bs.length ≤ 1000000000) :
    ∃ (b : Bool) (a' : Nat) (e' : Int), evK cfgR 71 [.hp 0 0] (O bs a e :: R) = some (BO b, O bs a' e' :: R) ∧ Rds bs Wire.bool.dec b a e a' e' := by
  obtain ⟨n, a1, e1, hn, p, _⟩ := num24 bs 1 a e R ha hb
  refine ⟨n == 1, a1, e1, ?_, p.bool⟩
  refine evK_of Tryz.func71 rfl (of_decide_eq_true (by kernel_rfl)) (by kernel_rfl) (by kernel_rfl) rfl ?_
  unfold Tryz.f71
  dsimp only
  refine aw_sk 10 (by kernel_rfl) ?_
  refine aw_sr (ow_k 1 10 (by kernel_rfl) ?_)
  refine ow_callE0 (k := 63) (first := []) (captured := []) (xs := [.hp 0 0, I64 1]) (r := I64 n) hn (by kernel_rfl) (by kernel_rfl) (by kernel_rfl) (by kernel_rfl) (by kernel_rfl) (by kernel_rfl) (by kernel_rfl) (by kernel_rfl) ?_
  refine ow_all 10 (by kernel_rfl) ?_
  refine aw_ret ?_
  exact ⟨.inr rfl, [BO (n == 1)], by kernel_rfl, by kernel_rfl, by kernel_rfl, by kernel_rfl⟩
theorem readFile26 (bs : BS) (a : Nat) (e : Int) (R : List (List AV)) (ha : a ≤ bs.length) (hb : bs.length ≤ 1000000000) :
    ∃ (x : Fi) (a' : Nat) (e' : Int), evK cfgR 65 [.hp 0 0] (O bs a e :: R) = some (.agg (rowFi x), O bs a' e' :: R) ∧ Rds bs cFi.dec x a e a' e' := by
  obtain ⟨s, a1, e1, h1, p1⟩ := string69 bs 52 a e R ha hb
  obtain ⟨d, a2, e2, h2, p2⟩ := string69 bs 600 a1 e1 R p1.1 hb
  refine ⟨(s, d), a2, e2, ?_, Rds.prod (c := str 52) (d := str 600) p1 p2⟩
  refine evK_of Tryz.func65 rfl (of_decide_eq_true (by kernel_rfl)) (by kernel_rfl) (by kernel_rfl) rfl ?_
  unfold Tryz.f65
  dsimp only
  refine aw_sk 10 (by kernel_rfl) ?_
  refine aw_sr (ow_k 1 10 (by kernel_rfl) ?_)
  refine ow_callE0 (k := 104) (first := []) (captured := []) (xs := [.hp 0 0, I64 52]) (r := ST s) h1 (by kernel_rfl) (by kernel_rfl) (by kernel_rfl) (by kernel_rfl) (by kernel_rfl) (by kernel_rfl) (by kernel_rfl) (by kernel_rfl) ?_
  refine ow_all 10 (by kernel_rfl) ?_
  refine aw_sr (ow_k 1 10 (by kernel_rfl) ?_)
  refine ow_callE0 (k := 104) (first := []) (captured := []) (xs := [.hp 0 0, I64 600]) (r := ST d) h2 (by kernel_rfl) (by kernel_rfl) (by kernel_rfl) (by kernel_rfl) (by kernel_rfl) (by kernel_rfl) (by kernel_rfl) (by kernel_rfl) ?_
  refine ow_all 10 (by kernel_rfl) ?_
  refine aw_sk 10 (by kernel_rfl) ?_
  refine aw_ret ?_
  exact ⟨.inr rfl, [.agg [ST s, ST d]], by kernel_rfl, by kernel_rfl, by kernel_rfl, by kernel_rfl⟩
theorem readPut35 (bs : BS) (a : Nat) (e : Int) (R : List (List AV)) (ha : a ≤ bs.length) (hb : bs.length ≤ 1000000000) :
    ∃ (x : Pu) (a' : Nat) (e' : Int), evK cfgR 74 [.hp 0 0] (O bs a e :: R) = some (.agg (rowPu x), O bs a' e' :: R) ∧ Rds bs cPu.dec x a e a' e' := by
  obtain ⟨s, a1, e1, h1, p1⟩ := number31 bs a e R ha hb
  obtain ⟨d, a2, e2, h2, p2⟩ := string69 bs 16 a1 e1 R p1.1 hb
  refine ⟨(s, d), a2, e2, ?_, Rds.prod (c := num maxN) (d := str 16) p1 p2⟩
  refine evK_of Tryz.func74 rfl (of_decide_eq_true (by kernel_rfl)) (by kernel_rfl) (by kernel_rfl) rfl ?_
  unfold Tryz.f74
  dsimp only
  refine aw_sk 10 (by kernel_rfl) ?_
  refine aw_sr (ow_k 1 10 (by kernel_rfl) ?_)
  refine ow_callE0 (k := 70) (first := []) (captured := []) (xs := [.hp 0 0]) (r := I64 s) h1 (by kernel_rfl) (by kernel_rfl) (by kernel_rfl) (by kernel_rfl) (by kernel_rfl) (by kernel_rfl) (by kernel_rfl) (by kernel_rfl) ?_
  refine ow_all 10 (by kernel_rfl) ?_
  refine aw_sr (ow_k 1 10 (by kernel_rfl) ?_)
  refine ow_callE0 (k := 104) (first := []) (captured := []) (xs := [.hp 0 0, I64 16]) (r := ST d) h2 (by kernel_rfl) (by kernel_rfl) (by kernel_rfl) (by kernel_rfl) (by kernel_rfl) (by kernel_rfl) (by kernel_rfl) (by kernel_rfl) ?_
  refine ow_all 10 (by kernel_rfl) ?_
  refine aw_sk 10 (by kernel_rfl) ?_
  refine aw_ret ?_
  exact ⟨.inr rfl, [.agg [I64 s, ST d]], by kernel_rfl, by kernel_rfl, by kernel_rfl, by kernel_rfl⟩
theorem readEntry28 (bs : BS) (a : Nat) (e : Int) (R : List (List AV)) (ha : a ≤ bs.length) (hb : bs.length ≤ 1000000000) :
    ∃ (x : En) (a' : Nat) (e' : Int), evK cfgR 67 [.hp 0 0] (O bs a e :: R) = some (.agg (rowEn x), O bs a' e' :: R) ∧ Rds bs cEn.dec x a e a' e' := by
  obtain ⟨s, a1, e1, h1, p1⟩ := string69 bs 52 a e R ha hb
  obtain ⟨b, a2, e2, h2, p2⟩ := set32 bs a1 e1 R p1.1 hb
  obtain ⟨d, a3, e3, h3, p3⟩ := string69 bs 600 a2 e2 R p2.1 hb
  obtain ⟨l, a4, e4, h4, p4⟩ := number31 bs a3 e3 R p3.1 hb
  obtain ⟨r, a5, e5, h5, p5⟩ := number31 bs a4 e4 R p4.1 hb
  refine ⟨(s, b, d, l, r), a5, e5, ?_, Rds.prod (c := str 52) p1 (Rds.prod (c := Wire.bool) p2 (Rds.prod (c := str 600) p3 (Rds.prod (c := num maxN) (d := num maxN) p4 p5)))⟩
  refine evK_of Tryz.func67 rfl (of_decide_eq_true (by kernel_rfl)) (by kernel_rfl) (by kernel_rfl) rfl ?_
  unfold Tryz.f67
  dsimp only
  refine aw_sk 10 (by kernel_rfl) ?_
  refine aw_sr (ow_k 1 10 (by kernel_rfl) ?_)
  refine ow_callE0 (k := 104) (first := []) (captured := []) (xs := [.hp 0 0, I64 52]) (r := ST s) h1 (by kernel_rfl) (by kernel_rfl) (by kernel_rfl) (by kernel_rfl) (by kernel_rfl) (by kernel_rfl) (by kernel_rfl) (by kernel_rfl) ?_
  refine ow_all 10 (by kernel_rfl) ?_
  refine aw_sr (ow_k 1 10 (by kernel_rfl) ?_)
  refine ow_callE0 (k := 71) (first := []) (captured := []) (xs := [.hp 0 0]) (r := BO b) h2 (by kernel_rfl) (by kernel_rfl) (by kernel_rfl) (by kernel_rfl) (by kernel_rfl) (by kernel_rfl) (by kernel_rfl) (by kernel_rfl) ?_
  refine ow_all 10 (by kernel_rfl) ?_
  refine aw_sr (ow_k 1 10 (by kernel_rfl) ?_)
  refine ow_callE0 (k := 104) (first := []) (captured := []) (xs := [.hp 0 0, I64 600]) (r := ST d) h3 (by kernel_rfl) (by kernel_rfl) (by kernel_rfl) (by kernel_rfl) (by kernel_rfl) (by kernel_rfl) (by kernel_rfl) (by kernel_rfl) ?_
  refine ow_all 10 (by kernel_rfl) ?_
  refine aw_sr (ow_k 1 10 (by kernel_rfl) ?_)
  refine ow_callE0 (k := 70) (first := []) (captured := []) (xs := [.hp 0 0]) (r := I64 l) h4 (by kernel_rfl) (by kernel_rfl) (by kernel_rfl) (by kernel_rfl) (by kernel_rfl) (by kernel_rfl) (by kernel_rfl) (by kernel_rfl) ?_
  refine ow_all 10 (by kernel_rfl) ?_
  refine aw_sr (ow_k 1 10 (by kernel_rfl) ?_)
  refine ow_callE0 (k := 70) (first := []) (captured := []) (xs := [.hp 0 0]) (r := I64 r) h5 (by kernel_rfl) (by kernel_rfl) (by kernel_rfl) (by kernel_rfl) (by kernel_rfl) (by kernel_rfl) (by kernel_rfl) (by kernel_rfl) ?_
  refine ow_all 10 (by kernel_rfl) ?_
  refine aw_sk 10 (by kernel_rfl) ?_
  refine aw_ret ?_
  exact ⟨.inr rfl, [.agg [ST s, BO b, ST d, I64 l, I64 r]], by kernel_rfl, by kernel_rfl, by kernel_rfl, by kernel_rfl⟩
end Go.Proofs.V.M17
namespace Go.Proofs.V.M17
open Go Go.Proofs Go.Proofs.V Go.Proofs.V.Wire Go.Proofs.V.L17
set_option linter.unusedVariables false
set_option linter.unusedSimpArgs false
set_option maxRecDepth 100000
set_option maxHeartbeats 1000000
theorem fresh_mark {al : Nat → Bool} {o : Own} (h : Fresh al o) (lab : Nat) (r : AV) : Fresh (markR lab al r) o := by
  rcases h with rfl | ⟨k, rfl, hk⟩
  · exact .inl rfl
  · exact .inr ⟨k, rfl, by simp [markR, hk]⟩
theorem cursor29 (bs : BS) (a : Nat) (e : Int) (ha : a ≤ bs.length) (hb : bs.length ≤ 1000000000) :
    ∃ (x : Cu) (a' : Nat) (e' : Int), evK cfgR 68 [.hp 0 0] (O bs a e :: []) = some (.agg (cellsCu x), [O bs a' e', cellsCu x, cellsCu x]) ∧ Rds bs cCu.dec x a e a' e' := by
  obtain ⟨v0, a0, e0, h0, p0⟩ := number31 bs a e [[I64 0, I64 0, I64 0, I64 0], [I64 0, I64 0, I64 0, I64 0]] ha hb
  obtain ⟨v1, a1, e1, h1, p1⟩ := number31 bs a0 e0 [[I64 0, I64 0, I64 0, I64 0], [I64 v0, I64 0, I64 0, I64 0]] p0.1 hb
  obtain ⟨v2, a2, e2, h2, p2⟩ := number31 bs a1 e1 [[I64 0, I64 0, I64 0, I64 0], [I64 v0, I64 v1, I64 0, I64 0]] p1.1 hb
  obtain ⟨v3, a3, e3, h3, p3⟩ := number31 bs a2 e2 [[I64 0, I64 0, I64 0, I64 0], [I64 v0, I64 v1, I64 v2, I64 0]] p2.1 hb
  refine ⟨(v0, v1, v2, v3), a3, e3, ?_, Rds.prod (c := num maxN) p0 (Rds.prod (c := num maxN) p1 (Rds.prod (c := num maxN) (d := num maxN) p2 p3))⟩
  refine evK_of Tryz.func68 rfl (of_decide_eq_true (by kernel_rfl)) (by kernel_rfl) (by kernel_rfl) rfl ?_
  unfold Tryz.f68
  dsimp only
  refine aw_sk 10 (by kernel_rfl) ?_
  refine aw_sk 10 (by kernel_rfl) ?_
  refine aw_assoc (aw_sk 10 (by kernel_rfl) ?_)
  refine aw_seq (aw_block ?_)
  refine aw_abs 22 [O bs a e, [I64 0, I64 0, I64 0, I64 0], [I64 0, I64 0, I64 0, I64 0]] (cfgR.heap 68) [(0, .hp 0 0), (2, .hp 1 0), (3, .hp 2 0), (10, .slice [[.hp 2 0], [.hp 2 1], [.hp 2 2], [.hp 2 3]] false .full), (11, I64 4), (12, I64 0)] (by kernel_rfl) (fun _ _ _ => ?_)
  refine aw_loop1 (aw_sk 10 (by kernel_rfl) ?_)
  refine aw_sc true (by kernel_rfl) (fun _ => ?_) (fun h => by cases h)
  refine aw_sskip (aw_seq (aw_block (aw_sk 10 (by kernel_rfl) ?_)))
  refine aw_region (ow_k 2 10 (by kernel_rfl) ?_)
  refine ow_callE0 (k := 70) (first := []) (captured := []) (xs := [.hp 0 0]) (r := I64 v0) h0 (by kernel_rfl) (by kernel_rfl) (by kernel_rfl) (by kernel_rfl) (by kernel_rfl) (by kernel_rfl) (by kernel_rfl) (by kernel_rfl) ?_
  refine ow_all 10 (by kernel_rfl) ?_
  refine aw_rk 10 (by kernel_rfl) ?_
  refine aw_abs 22 [O bs a0 e0, [I64 0, I64 0, I64 0, I64 0], [I64 v0, I64 0, I64 0, I64 0]] (cfgR.heap 68) [(0, .hp 0 0), (2, .hp 1 0), (3, .hp 2 0), (10, .slice [[.hp 2 0], [.hp 2 1], [.hp 2 2], [.hp 2 3]] false .full), (11, I64 4), (12, I64 1)] (by kernel_rfl) (fun _ _ _ => ?_)
  refine aw_loop1 (aw_sk 10 (by kernel_rfl) ?_)
  refine aw_sc true (by kernel_rfl) (fun _ => ?_) (fun h => by cases h)
  refine aw_sskip (aw_seq (aw_block (aw_sk 10 (by kernel_rfl) ?_)))
  refine aw_region (ow_k 2 10 (by kernel_rfl) ?_)
  refine ow_callE0 (k := 70) (first := []) (captured := []) (xs := [.hp 0 0]) (r := I64 v1) h1 (by kernel_rfl) (by kernel_rfl) (by kernel_rfl) (by kernel_rfl) (by kernel_rfl) (by kernel_rfl) (by kernel_rfl) (by kernel_rfl) ?_
  refine ow_all 10 (by kernel_rfl) ?_
  refine aw_rk 10 (by kernel_rfl) ?_
  refine aw_abs 22 [O bs a1 e1, [I64 0, I64 0, I64 0, I64 0], [I64 v0, I64 v1, I64 0, I64 0]] (cfgR.heap 68) [(0, .hp 0 0), (2, .hp 1 0), (3, .hp 2 0), (10, .slice [[.hp 2 0], [.hp 2 1], [.hp 2 2], [.hp 2 3]] false .full), (11, I64 4), (12, I64 2)] (by kernel_rfl) (fun _ _ _ => ?_)
  refine aw_loop1 (aw_sk 10 (by kernel_rfl) ?_)
  refine aw_sc true (by kernel_rfl) (fun _ => ?_) (fun h => by cases h)
  refine aw_sskip (aw_seq (aw_block (aw_sk 10 (by kernel_rfl) ?_)))
  refine aw_region (ow_k 2 10 (by kernel_rfl) ?_)
  refine ow_callE0 (k := 70) (first := []) (captured := []) (xs := [.hp 0 0]) (r := I64 v2) h2 (by kernel_rfl) (by kernel_rfl) (by kernel_rfl) (by kernel_rfl) (by kernel_rfl) (by kernel_rfl) (by kernel_rfl) (by kernel_rfl) ?_
  refine ow_all 10 (by kernel_rfl) ?_
  refine aw_rk 10 (by kernel_rfl) ?_
  refine aw_abs 22 [O bs a2 e2, [I64 0, I64 0, I64 0, I64 0], [I64 v0, I64 v1, I64 v2, I64 0]] (cfgR.heap 68) [(0, .hp 0 0), (2, .hp 1 0), (3, .hp 2 0), (10, .slice [[.hp 2 0], [.hp 2 1], [.hp 2 2], [.hp 2 3]] false .full), (11, I64 4), (12, I64 3)] (by kernel_rfl) (fun _ _ _ => ?_)
  refine aw_loop1 (aw_sk 10 (by kernel_rfl) ?_)
  refine aw_sc true (by kernel_rfl) (fun _ => ?_) (fun h => by cases h)
  refine aw_sskip (aw_seq (aw_block (aw_sk 10 (by kernel_rfl) ?_)))
  refine aw_region (ow_k 2 10 (by kernel_rfl) ?_)
  refine ow_callE0 (k := 70) (first := []) (captured := []) (xs := [.hp 0 0]) (r := I64 v3) h3 (by kernel_rfl) (by kernel_rfl) (by kernel_rfl) (by kernel_rfl) (by kernel_rfl) (by kernel_rfl) (by kernel_rfl) (by kernel_rfl) ?_
  refine ow_all 10 (by kernel_rfl) ?_
  refine aw_rk 10 (by kernel_rfl) ?_
  refine aw_abs 22 [O bs a3 e3, [I64 0, I64 0, I64 0, I64 0], [I64 v0, I64 v1, I64 v2, I64 v3]] (cfgR.heap 68) [(0, .hp 0 0), (2, .hp 1 0), (3, .hp 2 0), (10, .slice [[.hp 2 0], [.hp 2 1], [.hp 2 2], [.hp 2 3]] false .full), (11, I64 4), (12, I64 4)] (by kernel_rfl) (fun _ _ _ => ?_)
  refine aw_loop1 (aw_sk 10 (by kernel_rfl) ?_)
  refine aw_sc false (by kernel_rfl) (fun h => by cases h) (fun _ => ?_)
  refine aw_sexit ?_
  dsimp only [Then, InBlock, if_true]
  refine aw_sk 10 (by kernel_rfl) ?_
  refine aw_ret ?_
  exact ⟨.inr rfl, [.agg [I64 v0, I64 v1, I64 v2, I64 v3]], by kernel_rfl, by kernel_rfl, by kernel_rfl, by kernel_rfl⟩
theorem cursor29b (bs : BS) (a : Nat) (e : Int) (r1 r2 : List AV) (ha : a ≤ bs.length) (hb : bs.length ≤ 1000000000) :
    ∃ (x : Cu) (a' : Nat) (e' : Int), evK cfgR 68 [.hp 0 0] (O bs a e :: [r1, r2]) = some (.agg (cellsCu x), [O bs a' e', r1, r2, cellsCu x, cellsCu x]) ∧ Rds bs cCu.dec x a e a' e' := by
  obtain ⟨v0, a0, e0, h0, p0⟩ := number31 bs a e [r1, r2, [I64 0, I64 0, I64 0, I64 0], [I64 0, I64 0, I64 0, I64 0]] ha hb
  obtain ⟨v1, a1, e1, h1, p1⟩ := number31 bs a0 e0 [r1, r2, [I64 0, I64 0, I64 0, I64 0], [I64 v0, I64 0, I64 0, I64 0]] p0.1 hb
  obtain ⟨v2, a2, e2, h2, p2⟩ := number31 bs a1 e1 [r1, r2, [I64 0, I64 0, I64 0, I64 0], [I64 v0, I64 v1, I64 0, I64 0]] p1.1 hb
  obtain ⟨v3, a3, e3, h3, p3⟩ := number31 bs a2 e2 [r1, r2, [I64 0, I64 0, I64 0, I64 0], [I64 v0, I64 v1, I64 v2, I64 0]] p2.1 hb
  refine ⟨(v0, v1, v2, v3), a3, e3, ?_, Rds.prod (c := num maxN) p0 (Rds.prod (c := num maxN) p1 (Rds.prod (c := num maxN) (d := num maxN) p2 p3))⟩
  refine evK_of Tryz.func68 rfl (of_decide_eq_true (by kernel_rfl)) (by kernel_rfl) (by kernel_rfl) rfl ?_
  unfold Tryz.f68
  dsimp only
  refine aw_sk 10 (by kernel_rfl) ?_
  refine aw_sk 10 (by kernel_rfl) ?_
  refine aw_assoc (aw_sk 10 (by kernel_rfl) ?_)
  refine aw_seq (aw_block ?_)
  refine aw_abs 22 [O bs a e, r1, r2, [I64 0, I64 0, I64 0, I64 0], [I64 0, I64 0, I64 0, I64 0]] (cfgR.heap 68) [(0, .hp 0 0), (2, .hp 3 0), (3, .hp 4 0), (10, .slice [[.hp 4 0], [.hp 4 1], [.hp 4 2], [.hp 4 3]] false .full), (11, I64 4), (12, I64 0)] (by kernel_rfl) (fun _ _ _ => ?_)
  refine aw_loop1 (aw_sk 10 (by kernel_rfl) ?_)
  refine aw_sc true (by kernel_rfl) (fun _ => ?_) (fun h => by cases h)
  refine aw_sskip (aw_seq (aw_block (aw_sk 10 (by kernel_rfl) ?_)))
  refine aw_region (ow_k 2 10 (by kernel_rfl) ?_)
  refine ow_callE0 (k := 70) (first := []) (captured := []) (xs := [.hp 0 0]) (r := I64 v0) h0 (by kernel_rfl) (by kernel_rfl) (by kernel_rfl) (by kernel_rfl) (by kernel_rfl) (by kernel_rfl) (by kernel_rfl) (by kernel_rfl) ?_
  refine ow_all 10 (by kernel_rfl) ?_
  refine aw_rk 10 (by kernel_rfl) ?_
  refine aw_abs 22 [O bs a0 e0, r1, r2, [I64 0, I64 0, I64 0, I64 0], [I64 v0, I64 0, I64 0, I64 0]] (cfgR.heap 68) [(0, .hp 0 0), (2, .hp 3 0), (3, .hp 4 0), (10, .slice [[.hp 4 0], [.hp 4 1], [.hp 4 2], [.hp 4 3]] false .full), (11, I64 4), (12, I64 1)] (by kernel_rfl) (fun _ _ _ => ?_)
  refine aw_loop1 (aw_sk 10 (by kernel_rfl) ?_)
  refine aw_sc true (by kernel_rfl) (fun _ => ?_) (fun h => by cases h)
  refine aw_sskip (aw_seq (aw_block (aw_sk 10 (by kernel_rfl) ?_)))
  refine aw_region (ow_k 2 10 (by kernel_rfl) ?_)
  refine ow_callE0 (k := 70) (first := []) (captured := []) (xs := [.hp 0 0]) (r := I64 v1) h1 (by kernel_rfl) (by kernel_rfl) (by kernel_rfl) (by kernel_rfl) (by kernel_rfl) (by kernel_rfl) (by kernel_rfl) (by kernel_rfl) ?_
  refine ow_all 10 (by kernel_rfl) ?_
  refine aw_rk 10 (by kernel_rfl) ?_
  refine aw_abs 22 [O bs a1 e1, r1, r2, [I64 0, I64 0, I64 0, I64 0], [I64 v0, I64 v1, I64 0, I64 0]] (cfgR.heap 68) [(0, .hp 0 0), (2, .hp 3 0), (3, .hp 4 0), (10, .slice [[.hp 4 0], [.hp 4 1], [.hp 4 2], [.hp 4 3]] false .full), (11, I64 4), (12, I64 2)] (by kernel_rfl) (fun _ _ _ => ?_)
  refine aw_loop1 (aw_sk 10 (by kernel_rfl) ?_)
  refine aw_sc true (by kernel_rfl) (fun _ => ?_) (fun h => by cases h)
  refine aw_sskip (aw_seq (aw_block (aw_sk 10 (by kernel_rfl) ?_)))
  refine aw_region (ow_k 2 10 (by kernel_rfl) ?_)
  refine ow_callE0 (k := 70) (first := []) (captured := []) (xs := [.hp 0 0]) (r := I64 v2) h2 (by kernel_rfl) (by kernel_rfl) (by kernel_rfl) (by kernel_rfl) (by kernel_rfl) (by kernel_rfl) (by kernel_rfl) (by kernel_rfl) ?_
  refine ow_all 10 (by kernel_rfl) ?_
  refine aw_rk 10 (by kernel_rfl) ?_
  refine aw_abs 22 [O bs a2 e2, r1, r2, [I64 0, I64 0, I64 0, I64 0], [I64 v0, I64 v1, I64 v2, I64 0]] (cfgR.heap 68) [(0, .hp 0 0), (2, .hp 3 0), (3, .hp 4 0), (10, .slice [[.hp 4 0], [.hp 4 1], [.hp 4 2], [.hp 4 3]] false .full), (11, I64 4), (12, I64 3)] (by kernel_rfl) (fun _ _ _ => ?_)
  refine aw_loop1 (aw_sk 10 (by kernel_rfl) ?_)
  refine aw_sc true (by kernel_rfl) (fun _ => ?_) (fun h => by cases h)
  refine aw_sskip (aw_seq (aw_block (aw_sk 10 (by kernel_rfl) ?_)))
  refine aw_region (ow_k 2 10 (by kernel_rfl) ?_)
  refine ow_callE0 (k := 70) (first := []) (captured := []) (xs := [.hp 0 0]) (r := I64 v3) h3 (by kernel_rfl) (by kernel_rfl) (by kernel_rfl) (by kernel_rfl) (by kernel_rfl) (by kernel_rfl) (by kernel_rfl) (by kernel_rfl) ?_
  refine ow_all 10 (by kernel_rfl) ?_
  refine aw_rk 10 (by kernel_rfl) ?_
  refine aw_abs 22 [O bs a3 e3, r1, r2, [I64 0, I64 0, I64 0, I64 0], [I64 v0, I64 v1, I64 v2, I64 v3]] (cfgR.heap 68) [(0, .hp 0 0), (2, .hp 3 0), (3, .hp 4 0), (10, .slice [[.hp 4 0], [.hp 4 1], [.hp 4 2], [.hp 4 3]] false .full), (11, I64 4), (12, I64 4)] (by kernel_rfl) (fun _ _ _ => ?_)
  refine aw_loop1 (aw_sk 10 (by kernel_rfl) ?_)
  refine aw_sc false (by kernel_rfl) (fun h => by cases h) (fun _ => ?_)
  refine aw_sexit ?_
  dsimp only [Then, InBlock, if_true]
  refine aw_sk 10 (by kernel_rfl) ?_
  refine aw_ret ?_
  exact ⟨.inr rfl, [.agg [I64 v0, I64 v1, I64 v2, I64 v3]], by kernel_rfl, by kernel_rfl, by kernel_rfl, by kernel_rfl⟩
theorem decL_step {α : Type} (d : BS → Option (α × BS)) {n i : Nat} (hi : i < n) {l0 l r : BS} {xs : List α} {x : α} (h : decL d n l0 = (decL d (n - i) l).map fun p => (xs ++ p.1, p.2)) (hd : d l = some (x, r)) : decL d n l0 = (decL d (n - (i + 1)) r).map fun p => (xs ++ [x] ++ p.1, p.2) := by
  rw [h, show n - i = (n - (i + 1)) + 1 by omega]
  simp only [decL, hd]
  cases decL d (n - (i + 1)) r with
  | none => rfl
  | some p => simp
theorem decL_fail {α : Type} (d : BS → Option (α × BS)) {n i : Nat} (hi : i < n) {l0 l : BS} {xs : List α} (h : decL d n l0 = (decL d (n - i) l).map fun p => (xs ++ p.1, p.2)) (hd : d l = none) : decL d n l0 = none := by
  rw [h, show n - i = (n - (i + 1)) + 1 by omega]
  simp only [decL, hd]
  rfl
/-- Rows, read: of a number of parts. -/
theorem rds_list {bs : BS} {α : Type} {c : Codec α} {most : Int} {n : Int} {xs : List α} {a a1 a' : Nat} {e e1 e' : Int} (hn : Rds bs (decN most) n a e a1 e1) (ha : a' ≤ bs.length)
    (h0 : e1 ≠ 0 → e' ≠ 0) (h1 : e1 = 0 → match decL c.dec n.toNat (bs.drop a1) with | some (ys, r) => xs = ys ∧ e' = 0 ∧ bs.drop a' = r | none => e' ≠ 0) : Rds bs (Wire.list most c).dec xs a e a' e' := by
  obtain ⟨p1, p2, p3⟩ := hn
  refine ⟨ha, fun h => h0 (p2 h), fun h => ?_⟩
  have p3 := p3 h
  simp only [Wire.list]
  cases hd : decN most (bs.drop a) with
  | none => rw [hd] at p3; exact h0 p3
  | some nr =>
    obtain ⟨m, r⟩ := nr
    rw [hd] at p3
    obtain ⟨rfl, he, hr⟩ := p3
    have := h1 he
    rw [hr] at this
    dsimp only
    cases hq : decL c.dec n.toNat r with
    | none => rw [hq] at this; exact this
    | some p => rw [hq] at this; exact this
theorem rows25 (bs : BS) (most : Int) (hmost : most ≤ 1000) (a : Nat) (e : Int) (R : List (List AV)) (ha : a ≤ bs.length) (hb : bs.length ≤ 1000000000) :
    ∃ (xs : List Fi) (nl : Bool) (o : Own) (a' : Nat) (e' : Int), evK cfgR 64 [.hp 0 0, I64 most, .fn (.func 65) [] []] (O bs a e :: R) = some (.slice (xs.map rowFi) nl o, O bs a' e' :: R) ∧ RO xs nl o ∧ Rds bs (Wire.list most cFi).dec xs a e a' e' := by
  suffices h : ∃ r H', evK cfgR 64 [.hp 0 0, I64 most, .fn (.func 65) [] []] (O bs a e :: R) = some (r, H') ∧ (∃ (xs : List Fi) (nl : Bool) (o : Own) (a' : Nat) (e' : Int), (r = .slice (xs.map rowFi) nl o ∧ H' = O bs a' e' :: R) ∧ RO xs nl o ∧ Rds bs (Wire.list most cFi).dec xs a e a' e') by
    obtain ⟨r, H', h, xs, nl, o, a', e', ⟨rfl, rfl⟩, h1, h2⟩ := h
    exact ⟨xs, nl, o, a', e', h, h1, h2⟩
  obtain ⟨n, a1, e1, hn, pn, hz⟩ := num24 bs most a e R ha hb
  have hn0 : 0 ≤ n ∧ n ≤ 1000 := by
    obtain ⟨q1, q2, q3⟩ := pn
    by_cases h : e1 = 0
    · have he : e = 0 := Classical.byContradiction fun k => q2 k h
      have q3 := q3 he
      cases hd : decN most (bs.drop a) with
      | none => rw [hd] at q3; exact absurd h q3
      | some xr =>
        obtain ⟨x, r⟩ := xr
        rw [hd] at q3
        obtain ⟨rfl, -, -⟩ := q3
        obtain ⟨_, k1, k2, _⟩ := (num most).B _ _ _ hd
        exact ⟨k1, by omega⟩
    · rw [hz h]; exact ⟨by decide, by decide⟩
  obtain ⟨N, rfl⟩ := Int.eq_ofNat_of_zero_le hn0.1
  refine evK_ofE (P := fun r H' => (∃ (xs : List Fi) (nl : Bool) (o : Own) (a' : Nat) (e' : Int), (r = .slice (xs.map rowFi) nl o ∧ H' = O bs a' e' :: R) ∧ RO xs nl o ∧ Rds bs (Wire.list most cFi).dec xs a e a' e')) Tryz.func64 rfl (of_decide_eq_true (by kernel_rfl)) (by kernel_rfl) (by kernel_rfl) rfl ?_
  unfold Tryz.f64
  dsimp only
  refine aw_sk 10 (by kernel_rfl) ?_
  refine aw_sk 10 (by kernel_rfl) ?_
  refine aw_assoc (aw_sr (ow_k 2 10 (by kernel_rfl) ?_))
  refine ow_callE0 (k := 63) (first := []) (captured := []) (xs := [.hp 0 0, I64 most]) (r := I64 (N : Nat)) hn (by kernel_rfl) (by kernel_rfl) (by kernel_rfl) (by kernel_rfl) (by kernel_rfl) (by kernel_rfl) (by kernel_rfl) (by kernel_rfl) ?_
  refine ow_all 10 (by kernel_rfl) ?_
  refine aw_sfor N (fun i F => ∃ (xs : List Fi) (a' : Nat), IsG 26 (O bs a' e1 :: R) (cfgR.heap 64) 7 (xs.map rowFi) [(0, .hp 0 0), (2, .fn (.func 65) [] []), (11, I64 (N : Nat)), (12, I64 (i : Nat))] F ∧ a' ≤ bs.length ∧ xs.length = i ∧ decL cFi.dec N (bs.drop a1) = (decL cFi.dec (N - i) (bs.drop a')).map fun p => (xs ++ p.1, p.2)) ?_ ?_ ?_
  · exact ⟨[], a1, isG_nil (by kernel_rfl) rfl, pn.1, rfl, by simp⟩
  · rintro i F hi ⟨xs, a2, ⟨t, c, al, o3, nl3, rfl, hg⟩, ha2, hxl, hdec⟩
    have hf : Fresh al o3 := freshG hg
    have he1 : e1 = 0 := Classical.byContradiction fun h => by have := hz h; omega
    subst he1
    obtain ⟨x, a3, e3, hx, px⟩ := readFile26 bs a2 0 R ha2 hb
    replace px : Rds bs cFi.dec x a2 0 a3 e3 := px
    refine aw_sk 10 (by kernel_rfl) ?_
    refine aw_sc (decide ((i : Int) < (N : Int))) (by kernel_rfl) (fun _ => ?_) (fun h => absurd (of_decide_eq_false h) (by omega))
    refine aw_sskip (aw_seq (aw_block (aw_sr (ow_k 2 10 (by kernel_rfl) ?_))))
    refine ow_callE0 (k := 65) (first := []) (captured := []) (xs := [.hp 0 0]) (r := .agg (rowFi x)) hx (by kernel_rfl) (by kernel_rfl) (by kernel_rfl) (by kernel_rfl) (by kernel_rfl) (by kernel_rfl) (by kernel_rfl) (by kernel_rfl) ?_
    refine ow_k 1 10 (by kernel_rfl) ?_
    refine ow_st 8 0 [ST [], ST []] (.agg (rowFi x)) (by kernel_rfl) (by kernel_rfl) (by kernel_rfl) (by kernel_rfl) (by kernel_rfl) (by kernel_rfl) (by kernel_rfl) ?_
    refine ow_nil ?_
    refine aw_assoc (aw_sr (ow_k 1 10 (by kernel_rfl) ?_))
    refine ow_callE0 (k := 103) (first := []) (captured := []) (xs := [.hp 0 0]) (r := I64 e3) (err68 bs a3 e3 R) (by kernel_rfl) (by kernel_rfl) (by kernel_rfl) (by kernel_rfl) (by kernel_rfl) (by kernel_rfl) (by kernel_rfl) (by kernel_rfl) ?_
    refine ow_all 10 (by kernel_rfl) ?_
    refine aw_sc (e3 != 0) (by kernel_rfl) (fun h => ?_) (fun h => ?_)
    · have he3 : e3 ≠ 0 := by simpa using h
      refine aw_assoc (aw_sk 10 (by kernel_rfl) ?_)
      refine aw_sret ?_
      refine ⟨.inr rfl, [.slice [] true .full], by kernel_rfl, by kernel_rfl, [], true, .full, a3, e3, ⟨by kernel_rfl, by kernel_rfl⟩, .inl ⟨rfl, rfl, rfl⟩, rds_list pn px.1 (fun _ => he3) (fun _ => ?_)⟩
      have hd : cFi.dec (bs.drop a2) = none := by
        have := px.2.2 rfl
        cases hd : cFi.dec (bs.drop a2) with
        | none => rfl
        | some p => rw [hd] at this; exact absurd this.2.1 he3
      rw [Int.toNat_natCast, decL_fail _ hi hdec hd]
      exact he3
    · have he3 : e3 = 0 := by simpa using h
      subst he3
      obtain ⟨r, hd, hr⟩ : ∃ r, cFi.dec (bs.drop a2) = some (x, r) ∧ bs.drop a3 = r := by
        have := px.2.2 rfl
        cases hd : cFi.dec (bs.drop a2) with
        | none => rw [hd] at this; exact absurd rfl this
        | some p => obtain ⟨y, r⟩ := p; rw [hd] at this; obtain ⟨rfl, _, h3⟩ := this; exact ⟨r, rfl, h3⟩
      refine aw_sskip (aw_region ?_)
      refine ow_k 1 10 (by kernel_rfl) ?_
      refine ow_ld 8 0 (rowFi x) (.agg (rowFi x)) (by kernel_rfl) (by kernel_rfl) (by kernel_rfl) (by kernel_rfl) (by kernel_rfl) (by kernel_rfl) ?_
      refine ow_k 1 10 (by kernel_rfl) ?_
      refine ow_app (rows := xs.map rowFi) (ys := [rowFi x]) (own := o3) (nl := nl3) (X := .slice [rowFi x] false .full) (ty := 22) (e := 38) (sz := 2) (by_ := 32) (z := [ST [], ST []]) (freshE (al' := markR (c + 64 * 1 + 64 * 5 + 64 * 1) (markR (c + 64 * 1 + 64 * 2) al (.agg (rowFi x))) (I64 0)) (by kernel_rfl) (fresh_mark (fresh_mark hf _ _) _ _)) (by simp) (rowFi_all _) (by simp [rowFi]) (by
        simp only [List.length_map, List.length_cons, List.length_nil]
        omega) (by kernel_rfl) (by kernel_rfl) (by kernel_rfl) (by kernel_rfl) (by kernel_rfl) (by kernel_rfl) (by kernel_rfl) (by kernel_rfl) rfl rfl rfl (by kernel_rfl) (by kernel_rfl) (fun al' ha' => ?_)
      refine ow_all 10 (by kernel_rfl) ?_
      refine aw_rk 10 (by kernel_rfl) ?_
      refine ⟨xs ++ [x], a3, isG_id (l' := [(0, .hp 0 0), (2, .fn (.func 65) [] []), (11, I64 (N : Nat)), (12, I64 (IntKind.i64.wrap ((i : Int) + 1)))]) (rows' := xs.map rowFi ++ [rowFi x]) (k := (c + 64 * 1 + 64 * 5 + 64 * 3 + 64 * 3)) (al' := al') (by rw [succ64 (by omega)]) (by kernel_rfl) (by simp) (by kernel_rfl) ha', px.1, by simp [hxl], ?_⟩
      rw [hr]
      exact decL_step _ hi hdec hd
  · rintro F ⟨xs, a2, ⟨t, c, al, o3, nl3, rfl, hg⟩, ha2, hxl, hdec⟩
    refine aw_sk 10 (by kernel_rfl) ?_
    refine aw_sc (decide ((N : Int) < (N : Int))) (by kernel_rfl) (fun h => absurd (of_decide_eq_true h) (by omega)) (fun _ => ?_)
    refine aw_sexit ?_
    dsimp only [Then, InBlock, if_true]
    refine aw_sk 10 (by kernel_rfl) ?_
    refine aw_ret ?_
    have hrd : Rds bs (Wire.list most cFi).dec xs a e a2 e1 := rds_list pn ha2 (fun h => h) (fun he => by
      rw [Int.toNat_natCast, hdec, Nat.sub_self]
      simp [decL, he])
    rcases hg with ⟨hx, rfl, rfl⟩ | ⟨k, rfl, hk, rfl⟩
    · have hx' : xs = [] := List.map_eq_nil_iff.1 hx
      exact ⟨.inr rfl, [.slice (xs.map rowFi) true .full], by kernel_rfl, by kernel_rfl, xs, true, .full, a2, e1, ⟨by kernel_rfl, by kernel_rfl⟩, .inl ⟨hx', rfl, rfl⟩, hrd⟩
    · exact ⟨.inr rfl, [.slice (xs.map rowFi) false (.id k)], by kernel_rfl, by kernel_rfl, xs, false, .fresh, a2, e1, ⟨leave_at (al' := al) (by kernel_rfl) hk, by kernel_rfl⟩, .inr ⟨rfl, rfl⟩, hrd⟩
theorem rowEn_all (l : List En) : ∀ r ∈ l.map rowEn, r.length = 5 := by
  intro r h
  obtain ⟨x, _, rfl⟩ := List.mem_map.1 h
  rfl
theorem rows27 (bs : BS) (most : Int) (hmost : most ≤ 1000) (a : Nat) (e : Int) (R : List (List AV)) (ha : a ≤ bs.length) (hb : bs.length ≤ 1000000000) :
    ∃ (xs : List En) (nl : Bool) (o : Own) (a' : Nat) (e' : Int), evK cfgR 66 [.hp 0 0, I64 most, .fn (.func 67) [] []] (O bs a e :: R) = some (.slice (xs.map rowEn) nl o, O bs a' e' :: R) ∧ RO xs nl o ∧ Rds bs (Wire.list most cEn).dec xs a e a' e' := by
  suffices h : ∃ r H', evK cfgR 66 [.hp 0 0, I64 most, .fn (.func 67) [] []] (O bs a e :: R) = some (r, H') ∧ (∃ (xs : List En) (nl : Bool) (o : Own) (a' : Nat) (e' : Int), (r = .slice (xs.map rowEn) nl o ∧ H' = O bs a' e' :: R) ∧ RO xs nl o ∧ Rds bs (Wire.list most cEn).dec xs a e a' e') by
    obtain ⟨r, H', h, xs, nl, o, a', e', ⟨rfl, rfl⟩, h1, h2⟩ := h
    exact ⟨xs, nl, o, a', e', h, h1, h2⟩
  obtain ⟨n, a1, e1, hn, pn, hz⟩ := num24 bs most a e R ha hb
  have hn0 : 0 ≤ n ∧ n ≤ 1000 := by
    obtain ⟨q1, q2, q3⟩ := pn
    by_cases h : e1 = 0
    · have he : e = 0 := Classical.byContradiction fun k => q2 k h
      have q3 := q3 he
      cases hd : decN most (bs.drop a) with
      | none => rw [hd] at q3; exact absurd h q3
      | some xr =>
        obtain ⟨x, r⟩ := xr
        rw [hd] at q3
        obtain ⟨rfl, -, -⟩ := q3
        obtain ⟨_, k1, k2, _⟩ := (num most).B _ _ _ hd
        exact ⟨k1, by omega⟩
    · rw [hz h]; exact ⟨by decide, by decide⟩
  obtain ⟨N, rfl⟩ := Int.eq_ofNat_of_zero_le hn0.1
  refine evK_ofE (P := fun r H' => (∃ (xs : List En) (nl : Bool) (o : Own) (a' : Nat) (e' : Int), (r = .slice (xs.map rowEn) nl o ∧ H' = O bs a' e' :: R) ∧ RO xs nl o ∧ Rds bs (Wire.list most cEn).dec xs a e a' e')) Tryz.func66 rfl (of_decide_eq_true (by kernel_rfl)) (by kernel_rfl) (by kernel_rfl) rfl ?_
  unfold Tryz.f66
  dsimp only
  refine aw_sk 10 (by kernel_rfl) ?_
  refine aw_sk 10 (by kernel_rfl) ?_
  refine aw_assoc (aw_sr (ow_k 2 10 (by kernel_rfl) ?_))
  refine ow_callE0 (k := 63) (first := []) (captured := []) (xs := [.hp 0 0, I64 most]) (r := I64 (N : Nat)) hn (by kernel_rfl) (by kernel_rfl) (by kernel_rfl) (by kernel_rfl) (by kernel_rfl) (by kernel_rfl) (by kernel_rfl) (by kernel_rfl) ?_
  refine ow_all 10 (by kernel_rfl) ?_
  refine aw_sfor N (fun i F => ∃ (xs : List En) (a' : Nat), IsG 26 (O bs a' e1 :: R) (cfgR.heap 66) 7 (xs.map rowEn) [(0, .hp 0 0), (2, .fn (.func 67) [] []), (11, I64 (N : Nat)), (12, I64 (i : Nat))] F ∧ a' ≤ bs.length ∧ xs.length = i ∧ decL cEn.dec N (bs.drop a1) = (decL cEn.dec (N - i) (bs.drop a')).map fun p => (xs ++ p.1, p.2)) ?_ ?_ ?_
  · exact ⟨[], a1, isG_nil (by kernel_rfl) rfl, pn.1, rfl, by simp⟩
  · rintro i F hi ⟨xs, a2, ⟨t, c, al, o3, nl3, rfl, hg⟩, ha2, hxl, hdec⟩
    have hf : Fresh al o3 := freshG hg
    have he1 : e1 = 0 := Classical.byContradiction fun h => by have := hz h; omega
    subst he1
    obtain ⟨x, a3, e3, hx, px⟩ := readEntry28 bs a2 0 R ha2 hb
    replace px : Rds bs cEn.dec x a2 0 a3 e3 := px
    refine aw_sk 10 (by kernel_rfl) ?_
    refine aw_sc (decide ((i : Int) < (N : Int))) (by kernel_rfl) (fun _ => ?_) (fun h => absurd (of_decide_eq_false h) (by omega))
    refine aw_sskip (aw_seq (aw_block (aw_sr (ow_k 2 10 (by kernel_rfl) ?_))))
    refine ow_callE0 (k := 67) (first := []) (captured := []) (xs := [.hp 0 0]) (r := .agg (rowEn x)) hx (by kernel_rfl) (by kernel_rfl) (by kernel_rfl) (by kernel_rfl) (by kernel_rfl) (by kernel_rfl) (by kernel_rfl) (by kernel_rfl) ?_
    refine ow_k 1 10 (by kernel_rfl) ?_
    refine ow_st 8 0 [ST [], BO false, ST [], I64 0, I64 0] (.agg (rowEn x)) (by kernel_rfl) (by kernel_rfl) (by kernel_rfl) (by kernel_rfl) (by kernel_rfl) (by kernel_rfl) (by kernel_rfl) ?_
    refine ow_nil ?_
    refine aw_assoc (aw_sr (ow_k 1 10 (by kernel_rfl) ?_))
    refine ow_callE0 (k := 103) (first := []) (captured := []) (xs := [.hp 0 0]) (r := I64 e3) (err68 bs a3 e3 R) (by kernel_rfl) (by kernel_rfl) (by kernel_rfl) (by kernel_rfl) (by kernel_rfl) (by kernel_rfl) (by kernel_rfl) (by kernel_rfl) ?_
    refine ow_all 10 (by kernel_rfl) ?_
    refine aw_sc (e3 != 0) (by kernel_rfl) (fun h => ?_) (fun h => ?_)
    · have he3 : e3 ≠ 0 := by simpa using h
      refine aw_assoc (aw_sk 10 (by kernel_rfl) ?_)
      refine aw_sret ?_
      refine ⟨.inr rfl, [.slice [] true .full], by kernel_rfl, by kernel_rfl, [], true, .full, a3, e3, ⟨by kernel_rfl, by kernel_rfl⟩, .inl ⟨rfl, rfl, rfl⟩, rds_list pn px.1 (fun _ => he3) (fun _ => ?_)⟩
      have hd : cEn.dec (bs.drop a2) = none := by
        have := px.2.2 rfl
        cases hd : cEn.dec (bs.drop a2) with
        | none => rfl
        | some p => rw [hd] at this; exact absurd this.2.1 he3
      rw [Int.toNat_natCast, decL_fail _ hi hdec hd]
      exact he3
    · have he3 : e3 = 0 := by simpa using h
      subst he3
      obtain ⟨r, hd, hr⟩ : ∃ r, cEn.dec (bs.drop a2) = some (x, r) ∧ bs.drop a3 = r := by
        have := px.2.2 rfl
        cases hd : cEn.dec (bs.drop a2) with
        | none => rw [hd] at this; exact absurd rfl this
        | some p => obtain ⟨y, r⟩ := p; rw [hd] at this; obtain ⟨rfl, _, h3⟩ := this; exact ⟨r, rfl, h3⟩
      refine aw_sskip (aw_region ?_)
      refine ow_k 1 10 (by kernel_rfl) ?_
      refine ow_ld 8 0 (rowEn x) (.agg (rowEn x)) (by kernel_rfl) (by kernel_rfl) (by kernel_rfl) (by kernel_rfl) (by kernel_rfl) (by kernel_rfl) ?_
      refine ow_k 1 10 (by kernel_rfl) ?_
      refine ow_app (rows := xs.map rowEn) (ys := [rowEn x]) (own := o3) (nl := nl3) (X := .slice [rowEn x] false .full) (ty := 23) (e := 42) (sz := 5) (by_ := 56) (z := [ST [], BO false, ST [], I64 0, I64 0]) (freshE (al' := markR (c + 64 * 1 + 64 * 5 + 64 * 1) (markR (c + 64 * 1 + 64 * 2) al (.agg (rowEn x))) (I64 0)) (by kernel_rfl) (fresh_mark (fresh_mark hf _ _) _ _)) (by simp) (rowEn_all _) (by simp [rowEn]) (by
        simp only [List.length_map, List.length_cons, List.length_nil]
        omega) (by kernel_rfl) (by kernel_rfl) (by kernel_rfl) (by kernel_rfl) (by kernel_rfl) (by kernel_rfl) (by kernel_rfl) (by kernel_rfl) rfl rfl rfl (by kernel_rfl) (by kernel_rfl) (fun al' ha' => ?_)
      refine ow_all 10 (by kernel_rfl) ?_
      refine aw_rk 10 (by kernel_rfl) ?_
      refine ⟨xs ++ [x], a3, isG_id (l' := [(0, .hp 0 0), (2, .fn (.func 67) [] []), (11, I64 (N : Nat)), (12, I64 (IntKind.i64.wrap ((i : Int) + 1)))]) (rows' := xs.map rowEn ++ [rowEn x]) (k := (c + 64 * 1 + 64 * 5 + 64 * 3 + 64 * 3)) (al' := al') (by rw [succ64 (by omega)]) (by kernel_rfl) (by simp) (by kernel_rfl) ha', px.1, by simp [hxl], ?_⟩
      rw [hr]
      exact decL_step _ hi hdec hd
  · rintro F ⟨xs, a2, ⟨t, c, al, o3, nl3, rfl, hg⟩, ha2, hxl, hdec⟩
    refine aw_sk 10 (by kernel_rfl) ?_
    refine aw_sc (decide ((N : Int) < (N : Int))) (by kernel_rfl) (fun h => absurd (of_decide_eq_true h) (by omega)) (fun _ => ?_)
    refine aw_sexit ?_
    dsimp only [Then, InBlock, if_true]
    refine aw_sk 10 (by kernel_rfl) ?_
    refine aw_ret ?_
    have hrd : Rds bs (Wire.list most cEn).dec xs a e a2 e1 := rds_list pn ha2 (fun h => h) (fun he => by
      rw [Int.toNat_natCast, hdec, Nat.sub_self]
      simp [decL, he])
    rcases hg with ⟨hx, rfl, rfl⟩ | ⟨k, rfl, hk, rfl⟩
    · have hx' : xs = [] := List.map_eq_nil_iff.1 hx
      exact ⟨.inr rfl, [.slice (xs.map rowEn) true .full], by kernel_rfl, by kernel_rfl, xs, true, .full, a2, e1, ⟨by kernel_rfl, by kernel_rfl⟩, .inl ⟨hx', rfl, rfl⟩, hrd⟩
    · exact ⟨.inr rfl, [.slice (xs.map rowEn) false (.id k)], by kernel_rfl, by kernel_rfl, xs, false, .fresh, a2, e1, ⟨leave_at (al' := al) (by kernel_rfl) hk, by kernel_rfl⟩, .inr ⟨rfl, rfl⟩, hrd⟩
theorem rowPu_all (l : List Pu) : ∀ r ∈ l.map rowPu, r.length = 2 := by
  intro r h
  obtain ⟨x, _, rfl⟩ := List.mem_map.1 h
  rfl
theorem rows34 (bs : BS) (most : Int) (hmost : most ≤ 1000) (a : Nat) (e : Int) (R : List (List AV)) (ha : a ≤ bs.length) (hb : bs.length ≤ 1000000000) :
    ∃ (xs : List Pu) (nl : Bool) (o : Own) (a' : Nat) (e' : Int), evK cfgR 73 [.hp 0 0, I64 most, .fn (.func 74) [] []] (O bs a e :: R) = some (.slice (xs.map rowPu) nl o, O bs a' e' :: R) ∧ RO xs nl o ∧ Rds bs (Wire.list most cPu).dec xs a e a' e' := by
  suffices h : ∃ r H', evK cfgR 73 [.hp 0 0, I64 most, .fn (.func 74) [] []] (O bs a e :: R) = some (r, H') ∧ (∃ (xs : List Pu) (nl : Bool) (o : Own) (a' : Nat) (e' : Int), (r = .slice (xs.map rowPu) nl o ∧ H' = O bs a' e' :: R) ∧ RO xs nl o ∧ Rds bs (Wire.list most cPu).dec xs a e a' e') by
    obtain ⟨r, H', h, xs, nl, o, a', e', ⟨rfl, rfl⟩, h1, h2⟩ := h
    exact ⟨xs, nl, o, a', e', h, h1, h2⟩
  obtain ⟨n, a1, e1, hn, pn, hz⟩ := num24 bs most a e R ha hb
  have hn0 : 0 ≤ n ∧ n ≤ 1000 := by
    obtain ⟨q1, q2, q3⟩ := pn
    by_cases h : e1 = 0
    · have he : e = 0 := Classical.byContradiction fun k => q2 k h
      have q3 := q3 he
      cases hd : decN most (bs.drop a) with
      | none => rw [hd] at q3; exact absurd h q3
      | some xr =>
        obtain ⟨x, r⟩ := xr
        rw [hd] at q3
        obtain ⟨rfl, -, -⟩ := q3
        obtain ⟨_, k1, k2, _⟩ := (num most).B _ _ _ hd
        exact ⟨k1, by omega⟩
    · rw [hz h]; exact ⟨by decide, by decide⟩
  obtain ⟨N, rfl⟩ := Int.eq_ofNat_of_zero_le hn0.1
  refine evK_ofE (P := fun r H' => (∃ (xs : List Pu) (nl : Bool) (o : Own) (a' : Nat) (e' : Int), (r = .slice (xs.map rowPu) nl o ∧ H' = O bs a' e' :: R) ∧ RO xs nl o ∧ Rds bs (Wire.list most cPu).dec xs a e a' e')) Tryz.func73 rfl (of_decide_eq_true (by kernel_rfl)) (by kernel_rfl) (by kernel_rfl) rfl ?_
  unfold Tryz.f73
  dsimp only
  refine aw_sk 10 (by kernel_rfl) ?_
  refine aw_sk 10 (by kernel_rfl) ?_
  refine aw_assoc (aw_sr (ow_k 2 10 (by kernel_rfl) ?_))
  refine ow_callE0 (k := 63) (first := []) (captured := []) (xs := [.hp 0 0, I64 most]) (r := I64 (N : Nat)) hn (by kernel_rfl) (by kernel_rfl) (by kernel_rfl) (by kernel_rfl) (by kernel_rfl) (by kernel_rfl) (by kernel_rfl) (by kernel_rfl) ?_
  refine ow_all 10 (by kernel_rfl) ?_
  refine aw_sfor N (fun i F => ∃ (xs : List Pu) (a' : Nat), IsG 26 (O bs a' e1 :: R) (cfgR.heap 73) 7 (xs.map rowPu) [(0, .hp 0 0), (2, .fn (.func 74) [] []), (11, I64 (N : Nat)), (12, I64 (i : Nat))] F ∧ a' ≤ bs.length ∧ xs.length = i ∧ decL cPu.dec N (bs.drop a1) = (decL cPu.dec (N - i) (bs.drop a')).map fun p => (xs ++ p.1, p.2)) ?_ ?_ ?_
  · exact ⟨[], a1, isG_nil (by kernel_rfl) rfl, pn.1, rfl, by simp⟩
  · rintro i F hi ⟨xs, a2, ⟨t, c, al, o3, nl3, rfl, hg⟩, ha2, hxl, hdec⟩
    have hf : Fresh al o3 := freshG hg
    have he1 : e1 = 0 := Classical.byContradiction fun h => by have := hz h; omega
    subst he1
    obtain ⟨x, a3, e3, hx, px⟩ := readPut35 bs a2 0 R ha2 hb
    replace px : Rds bs cPu.dec x a2 0 a3 e3 := px
    refine aw_sk 10 (by kernel_rfl) ?_
    refine aw_sc (decide ((i : Int) < (N : Int))) (by kernel_rfl) (fun _ => ?_) (fun h => absurd (of_decide_eq_false h) (by omega))
    refine aw_sskip (aw_seq (aw_block (aw_sr (ow_k 2 10 (by kernel_rfl) ?_))))
    refine ow_callE0 (k := 74) (first := []) (captured := []) (xs := [.hp 0 0]) (r := .agg (rowPu x)) hx (by kernel_rfl) (by kernel_rfl) (by kernel_rfl) (by kernel_rfl) (by kernel_rfl) (by kernel_rfl) (by kernel_rfl) (by kernel_rfl) ?_
    refine ow_k 1 10 (by kernel_rfl) ?_
    refine ow_st 8 0 [I64 0, ST []] (.agg (rowPu x)) (by kernel_rfl) (by kernel_rfl) (by kernel_rfl) (by kernel_rfl) (by kernel_rfl) (by kernel_rfl) (by kernel_rfl) ?_
    refine ow_nil ?_
    refine aw_assoc (aw_sr (ow_k 1 10 (by kernel_rfl) ?_))
    refine ow_callE0 (k := 103) (first := []) (captured := []) (xs := [.hp 0 0]) (r := I64 e3) (err68 bs a3 e3 R) (by kernel_rfl) (by kernel_rfl) (by kernel_rfl) (by kernel_rfl) (by kernel_rfl) (by kernel_rfl) (by kernel_rfl) (by kernel_rfl) ?_
    refine ow_all 10 (by kernel_rfl) ?_
    refine aw_sc (e3 != 0) (by kernel_rfl) (fun h => ?_) (fun h => ?_)
    · have he3 : e3 ≠ 0 := by simpa using h
      refine aw_assoc (aw_sk 10 (by kernel_rfl) ?_)
      refine aw_sret ?_
      refine ⟨.inr rfl, [.slice [] true .full], by kernel_rfl, by kernel_rfl, [], true, .full, a3, e3, ⟨by kernel_rfl, by kernel_rfl⟩, .inl ⟨rfl, rfl, rfl⟩, rds_list pn px.1 (fun _ => he3) (fun _ => ?_)⟩
      have hd : cPu.dec (bs.drop a2) = none := by
        have := px.2.2 rfl
        cases hd : cPu.dec (bs.drop a2) with
        | none => rfl
        | some p => rw [hd] at this; exact absurd this.2.1 he3
      rw [Int.toNat_natCast, decL_fail _ hi hdec hd]
      exact he3
    · have he3 : e3 = 0 := by simpa using h
      subst he3
      obtain ⟨r, hd, hr⟩ : ∃ r, cPu.dec (bs.drop a2) = some (x, r) ∧ bs.drop a3 = r := by
        have := px.2.2 rfl
        cases hd : cPu.dec (bs.drop a2) with
        | none => rw [hd] at this; exact absurd rfl this
        | some p => obtain ⟨y, r⟩ := p; rw [hd] at this; obtain ⟨rfl, _, h3⟩ := this; exact ⟨r, rfl, h3⟩
      refine aw_sskip (aw_region ?_)
      refine ow_k 1 10 (by kernel_rfl) ?_
      refine ow_ld 8 0 (rowPu x) (.agg (rowPu x)) (by kernel_rfl) (by kernel_rfl) (by kernel_rfl) (by kernel_rfl) (by kernel_rfl) (by kernel_rfl) ?_
      refine ow_k 1 10 (by kernel_rfl) ?_
      refine ow_app (rows := xs.map rowPu) (ys := [rowPu x]) (own := o3) (nl := nl3) (X := .slice [rowPu x] false .full) (ty := 28) (e := 44) (sz := 2) (by_ := 24) (z := [I64 0, ST []]) (freshE (al' := markR (c + 64 * 1 + 64 * 5 + 64 * 1) (markR (c + 64 * 1 + 64 * 2) al (.agg (rowPu x))) (I64 0)) (by kernel_rfl) (fresh_mark (fresh_mark hf _ _) _ _)) (by simp) (rowPu_all _) (by simp [rowPu]) (by
        simp only [List.length_map, List.length_cons, List.length_nil]
        omega) (by kernel_rfl) (by kernel_rfl) (by kernel_rfl) (by kernel_rfl) (by kernel_rfl) (by kernel_rfl) (by kernel_rfl) (by kernel_rfl) rfl rfl rfl (by kernel_rfl) (by kernel_rfl) (fun al' ha' => ?_)
      refine ow_all 10 (by kernel_rfl) ?_
      refine aw_rk 10 (by kernel_rfl) ?_
      refine ⟨xs ++ [x], a3, isG_id (l' := [(0, .hp 0 0), (2, .fn (.func 74) [] []), (11, I64 (N : Nat)), (12, I64 (IntKind.i64.wrap ((i : Int) + 1)))]) (rows' := xs.map rowPu ++ [rowPu x]) (k := (c + 64 * 1 + 64 * 5 + 64 * 3 + 64 * 3)) (al' := al') (by rw [succ64 (by omega)]) (by kernel_rfl) (by simp) (by kernel_rfl) ha', px.1, by simp [hxl], ?_⟩
      rw [hr]
      exact decL_step _ hi hdec hd
  · rintro F ⟨xs, a2, ⟨t, c, al, o3, nl3, rfl, hg⟩, ha2, hxl, hdec⟩
    refine aw_sk 10 (by kernel_rfl) ?_
    refine aw_sc (decide ((N : Int) < (N : Int))) (by kernel_rfl) (fun h => absurd (of_decide_eq_true h) (by omega)) (fun _ => ?_)
    refine aw_sexit ?_
    dsimp only [Then, InBlock, if_true]
    refine aw_sk 10 (by kernel_rfl) ?_
    refine aw_ret ?_
    have hrd : Rds bs (Wire.list most cPu).dec xs a e a2 e1 := rds_list pn ha2 (fun h => h) (fun he => by
      rw [Int.toNat_natCast, hdec, Nat.sub_self]
      simp [decL, he])
    rcases hg with ⟨hx, rfl, rfl⟩ | ⟨k, rfl, hk, rfl⟩
    · have hx' : xs = [] := List.map_eq_nil_iff.1 hx
      exact ⟨.inr rfl, [.slice (xs.map rowPu) true .full], by kernel_rfl, by kernel_rfl, xs, true, .full, a2, e1, ⟨by kernel_rfl, by kernel_rfl⟩, .inl ⟨hx', rfl, rfl⟩, hrd⟩
    · exact ⟨.inr rfl, [.slice (xs.map rowPu) false (.id k)], by kernel_rfl, by kernel_rfl, xs, false, .fresh, a2, e1, ⟨leave_at (al' := al) (by kernel_rfl) hk, by kernel_rfl⟩, .inr ⟨rfl, rfl⟩, hrd⟩
theorem rowN_all (l : List Int) : ∀ r ∈ l.map rowN, r.length = 1 := by
  intro r h
  obtain ⟨x, _, rfl⟩ := List.mem_map.1 h
  rfl
theorem rows30 (bs : BS) (most : Int) (hmost : most ≤ 1000) (a : Nat) (e : Int) (R : List (List AV)) (ha : a ≤ bs.length) (hb : bs.length ≤ 1000000000) :
    ∃ (xs : List Int) (nl : Bool) (o : Own) (a' : Nat) (e' : Int), evK cfgR 69 [.hp 0 0, I64 most, .fn (.func 70) [] []] (O bs a e :: R) = some (.slice (xs.map rowN) nl o, O bs a' e' :: R) ∧ RO xs nl o ∧ Rds bs (Wire.list most (num maxN)).dec xs a e a' e' := by
  suffices h : ∃ r H', evK cfgR 69 [.hp 0 0, I64 most, .fn (.func 70) [] []] (O bs a e :: R) = some (r, H') ∧ (∃ (xs : List Int) (nl : Bool) (o : Own) (a' : Nat) (e' : Int), (r = .slice (xs.map rowN) nl o ∧ H' = O bs a' e' :: R) ∧ RO xs nl o ∧ Rds bs (Wire.list most (num maxN)).dec xs a e a' e') by
    obtain ⟨r, H', h, xs, nl, o, a', e', ⟨rfl, rfl⟩, h1, h2⟩ := h
    exact ⟨xs, nl, o, a', e', h, h1, h2⟩
  obtain ⟨n, a1, e1, hn, pn, hz⟩ := num24 bs most a e R ha hb
  have hn0 : 0 ≤ n ∧ n ≤ 1000 := by
    obtain ⟨q1, q2, q3⟩ := pn
    by_cases h : e1 = 0
    · have he : e = 0 := Classical.byContradiction fun k => q2 k h
      have q3 := q3 he
      cases hd : decN most (bs.drop a) with
      | none => rw [hd] at q3; exact absurd h q3
      | some xr =>
        obtain ⟨x, r⟩ := xr
        rw [hd] at q3
        obtain ⟨rfl, -, -⟩ := q3
        obtain ⟨_, k1, k2, _⟩ := (num most).B _ _ _ hd
        exact ⟨k1, by omega⟩
    · rw [hz h]; exact ⟨by decide, by decide⟩
  obtain ⟨N, rfl⟩ := Int.eq_ofNat_of_zero_le hn0.1
  refine evK_ofE (P := fun r H' => (∃ (xs : List Int) (nl : Bool) (o : Own) (a' : Nat) (e' : Int), (r = .slice (xs.map rowN) nl o ∧ H' = O bs a' e' :: R) ∧ RO xs nl o ∧ Rds bs (Wire.list most (num maxN)).dec xs a e a' e')) Tryz.func69 rfl (of_decide_eq_true (by kernel_rfl)) (by kernel_rfl) (by kernel_rfl) rfl ?_
  unfold Tryz.f69
  dsimp only
  refine aw_sk 10 (by kernel_rfl) ?_
  refine aw_sk 10 (by kernel_rfl) ?_
  refine aw_assoc (aw_sr (ow_k 2 10 (by kernel_rfl) ?_))
  refine ow_callE0 (k := 63) (first := []) (captured := []) (xs := [.hp 0 0, I64 most]) (r := I64 (N : Nat)) hn (by kernel_rfl) (by kernel_rfl) (by kernel_rfl) (by kernel_rfl) (by kernel_rfl) (by kernel_rfl) (by kernel_rfl) (by kernel_rfl) ?_
  refine ow_all 10 (by kernel_rfl) ?_
  refine aw_sfor N (fun i F => ∃ (xs : List Int) (a' : Nat), IsG 26 (O bs a' e1 :: R) (cfgR.heap 69) 7 (xs.map rowN) [(0, .hp 0 0), (2, .fn (.func 70) [] []), (11, I64 (N : Nat)), (12, I64 (i : Nat))] F ∧ a' ≤ bs.length ∧ xs.length = i ∧ decL (num maxN).dec N (bs.drop a1) = (decL (num maxN).dec (N - i) (bs.drop a')).map fun p => (xs ++ p.1, p.2)) ?_ ?_ ?_
  · exact ⟨[], a1, isG_nil (by kernel_rfl) rfl, pn.1, rfl, by simp⟩
  · rintro i F hi ⟨xs, a2, ⟨t, c, al, o3, nl3, rfl, hg⟩, ha2, hxl, hdec⟩
    have hf : Fresh al o3 := freshG hg
    have he1 : e1 = 0 := Classical.byContradiction fun h => by have := hz h; omega
    subst he1
    obtain ⟨x, a3, e3, hx, px⟩ := number31 bs a2 0 R ha2 hb
    replace px : Rds bs (num maxN).dec x a2 0 a3 e3 := px
    refine aw_sk 10 (by kernel_rfl) ?_
    refine aw_sc (decide ((i : Int) < (N : Int))) (by kernel_rfl) (fun _ => ?_) (fun h => absurd (of_decide_eq_false h) (by omega))
    refine aw_sskip (aw_seq (aw_block (aw_sr (ow_k 2 10 (by kernel_rfl) ?_))))
    refine ow_callE0 (k := 70) (first := []) (captured := []) (xs := [.hp 0 0]) (r := I64 x) hx (by kernel_rfl) (by kernel_rfl) (by kernel_rfl) (by kernel_rfl) (by kernel_rfl) (by kernel_rfl) (by kernel_rfl) (by kernel_rfl) ?_
    refine ow_all 10 (by kernel_rfl) ?_
    refine aw_assoc (aw_sr (ow_k 1 10 (by kernel_rfl) ?_))
    refine ow_callE0 (k := 103) (first := []) (captured := []) (xs := [.hp 0 0]) (r := I64 e3) (err68 bs a3 e3 R) (by kernel_rfl) (by kernel_rfl) (by kernel_rfl) (by kernel_rfl) (by kernel_rfl) (by kernel_rfl) (by kernel_rfl) (by kernel_rfl) ?_
    refine ow_all 10 (by kernel_rfl) ?_
    refine aw_sc (e3 != 0) (by kernel_rfl) (fun h => ?_) (fun h => ?_)
    · have he3 : e3 ≠ 0 := by simpa using h
      refine aw_assoc (aw_sk 10 (by kernel_rfl) ?_)
      refine aw_sret ?_
      refine ⟨.inr rfl, [.slice [] true .full], by kernel_rfl, by kernel_rfl, [], true, .full, a3, e3, ⟨by kernel_rfl, by kernel_rfl⟩, .inl ⟨rfl, rfl, rfl⟩, rds_list pn px.1 (fun _ => he3) (fun _ => ?_)⟩
      have hd : (num maxN).dec (bs.drop a2) = none := by
        have := px.2.2 rfl
        cases hd : (num maxN).dec (bs.drop a2) with
        | none => rfl
        | some p => rw [hd] at this; exact absurd this.2.1 he3
      rw [Int.toNat_natCast, decL_fail _ hi hdec hd]
      exact he3
    · have he3 : e3 = 0 := by simpa using h
      subst he3
      obtain ⟨r, hd, hr⟩ : ∃ r, (num maxN).dec (bs.drop a2) = some (x, r) ∧ bs.drop a3 = r := by
        have := px.2.2 rfl
        cases hd : (num maxN).dec (bs.drop a2) with
        | none => rw [hd] at this; exact absurd rfl this
        | some p => obtain ⟨y, r⟩ := p; rw [hd] at this; obtain ⟨rfl, _, h3⟩ := this; exact ⟨r, rfl, h3⟩
      refine aw_sskip (aw_region ?_)
      refine ow_k 3 10 (by kernel_rfl) ?_
      refine ow_app (rows := xs.map rowN) (ys := [rowN x]) (own := o3) (nl := nl3) (X := .slice [rowN x] false .full) (ty := 26) (e := 3) (sz := 1) (by_ := 8) (z := [I64 0]) (freshE (al' := markR (c + 64 * 1 + 64 * 4 + 64 * 1) (markR (c + 64 * 1 + 64 * 2) al (I64 x)) (I64 0)) (by kernel_rfl) (fresh_mark (fresh_mark hf _ _) _ _)) (by simp) (rowN_all _) (by simp [rowN]) (by
        simp only [List.length_map, List.length_cons, List.length_nil]
        omega) (by kernel_rfl) (by kernel_rfl) (by kernel_rfl) (by kernel_rfl) (by kernel_rfl) (by kernel_rfl) (by kernel_rfl) (by kernel_rfl) rfl rfl rfl (by kernel_rfl) (by kernel_rfl) (fun al' ha' => ?_)
      refine ow_all 10 (by kernel_rfl) ?_
      refine aw_rk 10 (by kernel_rfl) ?_
      refine ⟨xs ++ [x], a3, isG_id (l' := [(0, .hp 0 0), (2, .fn (.func 70) [] []), (11, I64 (N : Nat)), (12, I64 (IntKind.i64.wrap ((i : Int) + 1)))]) (rows' := xs.map rowN ++ [rowN x]) (k := (c + 64 * 1 + 64 * 4 + 64 * 3 + 64 * 3)) (al' := al') (by rw [succ64 (by omega)]) (by kernel_rfl) (by simp) (by kernel_rfl) ha', px.1, by simp [hxl], ?_⟩
      rw [hr]
      exact decL_step _ hi hdec hd
  · rintro F ⟨xs, a2, ⟨t, c, al, o3, nl3, rfl, hg⟩, ha2, hxl, hdec⟩
    refine aw_sk 10 (by kernel_rfl) ?_
    refine aw_sc (decide ((N : Int) < (N : Int))) (by kernel_rfl) (fun h => absurd (of_decide_eq_true h) (by omega)) (fun _ => ?_)
    refine aw_sexit ?_
    dsimp only [Then, InBlock, if_true]
    refine aw_sk 10 (by kernel_rfl) ?_
    refine aw_ret ?_
    have hrd : Rds bs (Wire.list most (num maxN)).dec xs a e a2 e1 := rds_list pn ha2 (fun h => h) (fun he => by
      rw [Int.toNat_natCast, hdec, Nat.sub_self]
      simp [decL, he])
    rcases hg with ⟨hx, rfl, rfl⟩ | ⟨k, rfl, hk, rfl⟩
    · have hx' : xs = [] := List.map_eq_nil_iff.1 hx
      exact ⟨.inr rfl, [.slice (xs.map rowN) true .full], by kernel_rfl, by kernel_rfl, xs, true, .full, a2, e1, ⟨by kernel_rfl, by kernel_rfl⟩, .inl ⟨hx', rfl, rfl⟩, hrd⟩
    · exact ⟨.inr rfl, [.slice (xs.map rowN) false (.id k)], by kernel_rfl, by kernel_rfl, xs, false, .fresh, a2, e1, ⟨leave_at (al' := al) (by kernel_rfl) hk, by kernel_rfl⟩, .inr ⟨rfl, rfl⟩, hrd⟩
end Go.Proofs.V.M17
namespace Go.Proofs.V.M17
open Go Go.Proofs Go.Proofs.V Go.Proofs.V.Wire Go.Proofs.V.L17
set_option linter.unusedVariables false
set_option linter.unusedSimpArgs false
set_option maxRecDepth 100000
set_option maxHeartbeats 1000000
theorem aw_sgoto {cfg : Cfg} {F : St} {Q : X → St → Prop} {c : Code} {l : Nat} (h : Q (.goto l) F) : Aw cfg (.seq (.goto l) c) F Q := aw_seq (aw_goto h)
theorem rowS_all (l : List BS) : ∀ r ∈ l.map rowS, r.length = 1 := by
  intro r h
  obtain ⟨x, _, rfl⟩ := List.mem_map.1 h
  rfl
theorem rds_bad {bs : BS} {α : Type} {c : Codec α} {xs : List α} {a a' : Nat} {e e' : Int} (ha : a' ≤ bs.length) (he : e' ≠ 0) (hf : e = 0 → (Wire.list 32 c).dec (bs.drop a) = none) : Rds bs (Wire.list 32 c).dec xs a e a' e' :=
  ⟨ha, fun _ => he, fun h => by rw [hf h]; exact he⟩
theorem row33 (bs : BS) (a : Nat) (e : Int) (R : List (List AV)) (ha : a ≤ bs.length) (hb : bs.length ≤ 1000000000) :
    ∃ (xs : List BS) (nl : Bool) (o : Own) (a' : Nat) (e' : Int), evK cfgR 72 [.hp 0 0, I64 32, I64 52] (O bs a e :: R) = some (.slice (xs.map rowS) nl o, O bs a' e' :: R) ∧ RO xs nl o ∧ Rds bs (Wire.list 32 (str 52)).dec xs a e a' e' := by
  suffices h : ∃ r H', evK cfgR 72 [.hp 0 0, I64 32, I64 52] (O bs a e :: R) = some (r, H') ∧ (∃ (xs : List BS) (nl : Bool) (o : Own) (a' : Nat) (e' : Int), (r = .slice (xs.map rowS) nl o ∧ H' = O bs a' e' :: R) ∧ RO xs nl o ∧ Rds bs (Wire.list 32 (str 52)).dec xs a e a' e') by
    obtain ⟨r, H', h, xs, nl, o, a', e', ⟨rfl, rfl⟩, h1, h2⟩ := h
    exact ⟨xs, nl, o, a', e', h, h1, h2⟩
  obtain ⟨n, a1, e1, hn, pn, hz⟩ := num24 bs 32 a e R ha hb
  have hdn : e = 0 → e1 ≠ 0 → (Wire.list 32 (str 52)).dec (bs.drop a) = none := by
    intro he h1
    have q3 := pn.2.2 he
    simp only [Wire.list]
    cases hd : decN 32 (bs.drop a) with
    | none => rfl
    | some xr => rw [hd] at q3; exact absurd q3.2.1 h1
  have hn0 : 0 ≤ n ∧ n ≤ 1000 := by
    obtain ⟨q1, q2, q3⟩ := pn
    by_cases h : e1 = 0
    · have he : e = 0 := Classical.byContradiction fun k => q2 k h
      have q3 := q3 he
      cases hd : decN 32 (bs.drop a) with
      | none => rw [hd] at q3; exact absurd h q3
      | some xr =>
        obtain ⟨x, r⟩ := xr
        rw [hd] at q3
        obtain ⟨rfl, -, -⟩ := q3
        obtain ⟨_, k1, k2, _⟩ := (num 32).B _ _ _ hd
        exact ⟨k1, by omega⟩
    · rw [hz h]; exact ⟨by decide, by decide⟩
  obtain ⟨N, rfl⟩ := Int.eq_ofNat_of_zero_le hn0.1
  refine evK_ofE (P := fun r H' => (∃ (xs : List BS) (nl : Bool) (o : Own) (a' : Nat) (e' : Int), (r = .slice (xs.map rowS) nl o ∧ H' = O bs a' e' :: R) ∧ RO xs nl o ∧ Rds bs (Wire.list 32 (str 52)).dec xs a e a' e')) Tryz.func72 rfl (of_decide_eq_true (by kernel_rfl)) (by kernel_rfl) (by kernel_rfl) rfl ?_
  unfold Tryz.f72
  dsimp only
  refine aw_sk 10 (by kernel_rfl) ?_
  refine aw_scope ?_
  refine aw_sk 10 (by kernel_rfl) ?_
  refine aw_sk 10 (by kernel_rfl) ?_
  refine aw_sk 10 (by kernel_rfl) ?_
  refine aw_sr (ow_k 3 10 (by kernel_rfl) ?_)
  refine ow_callE0 (k := 63) (first := []) (captured := []) (xs := [.hp 0 0, I64 32]) (r := I64 (N : Nat)) hn (by kernel_rfl) (by kernel_rfl) (by kernel_rfl) (by kernel_rfl) (by kernel_rfl) (by kernel_rfl) (by kernel_rfl) (by kernel_rfl) ?_
  refine ow_all 10 (by kernel_rfl) ?_
  refine aw_abs 45 (O bs a1 e1 :: R) (cfgR.heap 72) [(0, .hp 0 0), (2, I64 52), (7, .slice [] true .full), (9, I64 (a : Nat)), (10, I64 (N : Nat))] (by kernel_rfl) (fun t0 c0 al0 => ?_)
  refine aw_assoc (aw_sk 10 (by kernel_rfl) ?_)
  refine aw_sc (e1 != 0) (by kernel_rfl) (fun h => ?_) (fun h => ?_)
  · have he1 : e1 ≠ 0 := by simpa using h
    refine aw_sgoto ?_
    refine ⟨_, rfl, aw_sskip ?_⟩
    refine aw_sk 10 (by kernel_rfl) ?_
    refine aw_sk 10 (by kernel_rfl) ?_
    refine aw_ret ?_
    refine ⟨.inr rfl, [.slice [] true .full], by kernel_rfl, by kernel_rfl, [], true, .full, a, e1, ⟨by kernel_rfl, by kernel_rfl⟩, .inl ⟨rfl, rfl, rfl⟩, rds_bad ha he1 (fun he => hdn he he1)⟩
  have he1 : e1 = 0 := by simpa using h
  subst he1
  refine aw_sskip (aw_assoc (aw_sk 10 (by kernel_rfl) ?_))
  refine aw_sfor N (fun i F => ∃ (xs : List BS) (a' : Nat), IsG 45 (O bs a' 0 :: R) (cfgR.heap 72) 7 (xs.map rowS) [(0, .hp 0 0), (2, I64 52), (9, I64 (a : Nat)), (24, I64 (N : Nat)), (25, I64 (i : Nat))] F ∧ a' ≤ bs.length ∧ xs.length = i ∧ decL (str 52).dec N (bs.drop a1) = (decL (str 52).dec (N - i) (bs.drop a')).map fun p => (xs ++ p.1, p.2)) ?_ ?_ ?_
  · exact ⟨[], a1, isG_nil (by kernel_rfl) rfl, pn.1, rfl, by simp⟩
  · rintro i F hi ⟨xs, a2, ⟨t, c, al, o3, nl3, rfl, hg⟩, ha2, hxl, hdec⟩
    have hf : Fresh al o3 := freshG hg
    obtain ⟨x, a3, e3, hx, px⟩ := string69 bs 52 a2 0 R ha2 hb
    replace px : Rds bs (str 52).dec x a2 0 a3 e3 := px
    refine aw_sk 10 (by kernel_rfl) ?_
    refine aw_sc (decide ((i : Int) < (N : Int))) (by kernel_rfl) (fun _ => ?_) (fun h => absurd (of_decide_eq_false h) (by omega))
    refine aw_sskip (aw_seq (aw_block (aw_sr (ow_k 2 10 (by kernel_rfl) ?_))))
    refine ow_callE0 (k := 104) (first := []) (captured := []) (xs := [.hp 0 0, I64 52]) (r := ST x) hx (by kernel_rfl) (by kernel_rfl) (by kernel_rfl) (by kernel_rfl) (by kernel_rfl) (by kernel_rfl) (by kernel_rfl) (by kernel_rfl) ?_
    refine ow_all 10 (by kernel_rfl) ?_
    refine aw_assoc (aw_sk 10 (by kernel_rfl) ?_)
    refine aw_sc (e3 != 0) (by kernel_rfl) (fun h => ?_) (fun h => ?_)
    · have he3 : e3 ≠ 0 := by simpa using h
      have hd : (str 52).dec (bs.drop a2) = none := by
        have := px.2.2 rfl
        cases hd : (str 52).dec (bs.drop a2) with
        | none => rfl
        | some p => rw [hd] at this; exact absurd this.2.1 he3
      have hdl := decL_fail _ hi hdec hd
      have hno : e = 0 → (Wire.list 32 (str 52)).dec (bs.drop a) = none := by
        intro he
        have q3 := pn.2.2 he
        simp only [Wire.list]
        cases hd : decN 32 (bs.drop a) with
        | none => rfl
        | some xr =>
          obtain ⟨y, r⟩ := xr
          rw [hd] at q3
          obtain ⟨rfl, _, hr⟩ := q3
          dsimp only
          rw [Int.toNat_natCast, ← hr]
          exact hdl
      refine aw_sgoto ?_
      refine ⟨_, rfl, aw_sskip ?_⟩
      refine aw_sk 10 (by kernel_rfl) ?_
      refine aw_sk 10 (by kernel_rfl) ?_
      refine aw_ret ?_
      refine ⟨.inr rfl, [.slice [] true .full], by kernel_rfl, by kernel_rfl, [], true, .full, a, e3, ⟨by kernel_rfl, by kernel_rfl⟩, .inl ⟨rfl, rfl, rfl⟩, rds_bad ha he3 hno⟩
    · have he3 : e3 = 0 := by simpa using h
      subst he3
      obtain ⟨r, hd, hr⟩ : ∃ r, (str 52).dec (bs.drop a2) = some (x, r) ∧ bs.drop a3 = r := by
        have := px.2.2 rfl
        cases hd : (str 52).dec (bs.drop a2) with
        | none => rw [hd] at this; exact absurd rfl this
        | some p => obtain ⟨y, r⟩ := p; rw [hd] at this; obtain ⟨rfl, _, h3⟩ := this; exact ⟨r, rfl, h3⟩
      refine aw_sskip (aw_region (ow_k 3 10 (by kernel_rfl) ?_))
      refine ow_app (rows := xs.map rowS) (ys := [rowS x]) (own := o3) (nl := nl3) (X := .slice [rowS x] false .full) (ty := 27) (e := 9) (sz := 1) (by_ := 16) (z := [ST []]) (freshE (al' := markR (c + 64 * 1 + 64 * 2) al (ST x)) (by kernel_rfl) (fresh_mark hf _ _)) (by simp) (rowS_all _) (by simp [rowS]) (by
        simp only [List.length_map, List.length_cons, List.length_nil]
        omega) (by kernel_rfl) (by kernel_rfl) (by kernel_rfl) (by kernel_rfl) (by kernel_rfl) (by kernel_rfl) (by kernel_rfl) (by kernel_rfl) rfl rfl rfl (by kernel_rfl) (by kernel_rfl) (fun al' ha' => ?_)
      refine ow_all 10 (by kernel_rfl) ?_
      refine aw_rk 10 (by kernel_rfl) ?_
      refine ⟨xs ++ [x], a3, isG_id (l' := [(0, .hp 0 0), (2, I64 52), (9, I64 (a : Nat)), (24, I64 (N : Nat)), (25, I64 (IntKind.i64.wrap ((i : Int) + 1)))]) (rows' := xs.map rowS ++ [rowS x]) (k := (c + 64 * 1 + 64 * 4 + 64 * 5 + 64 * 3)) (al' := al') (by rw [succ64 (by omega)]) (by kernel_rfl) (by simp) (by kernel_rfl) ha', px.1, by simp [hxl], ?_⟩
      rw [hr]
      exact decL_step _ hi hdec hd
  · rintro F ⟨xs, a2, ⟨t, c, al, o3, nl3, rfl, hg⟩, ha2, hxl, hdec⟩
    refine aw_sk 10 (by kernel_rfl) ?_
    refine aw_sc (decide ((N : Int) < (N : Int))) (by kernel_rfl) (fun h => absurd (of_decide_eq_true h) (by omega)) (fun _ => ?_)
    refine aw_sexit ?_
    dsimp only [Then, InBlock, if_true]
    refine aw_assoc (aw_sk 10 (by kernel_rfl) ?_)
    refine aw_sret ?_
    have hrd : Rds bs (Wire.list 32 (str 52)).dec xs a e a2 0 := rds_list pn ha2 (fun h => h) (fun he => by
      rw [Int.toNat_natCast, hdec, Nat.sub_self]
      simp [decL])
    rcases hg with ⟨hx, rfl, rfl⟩ | ⟨k, rfl, hk, rfl⟩
    · have hx' : xs = [] := List.map_eq_nil_iff.1 hx
      exact ⟨.inr rfl, [.slice (xs.map rowS) true .full], by kernel_rfl, by kernel_rfl, xs, true, .full, a2, 0, ⟨by kernel_rfl, by kernel_rfl⟩, .inl ⟨hx', rfl, rfl⟩, hrd⟩
    · exact ⟨.inr rfl, [.slice (xs.map rowS) false (.id k)], by kernel_rfl, by kernel_rfl, xs, false, .fresh, a2, 0, ⟨leave_at (al' := al) (by kernel_rfl) hk, by kernel_rfl⟩, .inr ⟨rfl, rfl⟩, hrd⟩
end Go.Proofs.V.M17

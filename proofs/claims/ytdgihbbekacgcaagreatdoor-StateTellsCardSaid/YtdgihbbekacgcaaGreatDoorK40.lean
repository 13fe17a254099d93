/- StateTells: those whom the law calls. -/
import Derived.Test.YtdgihbbekacgcaaGreatDoorK35
import Derived.Test.YtdgihbbekacgcaaGreatDoorK38
import Derived.Test.YtdgihbbekacgcaaGreatDoorK39
namespace Go.Proofs.V.T17
open Go Go.Proofs Go.RowKit Go.Lib Go.Proofs.V Go.Proofs.V.L17 Go.Proofs.W Go.Proofs.W.C
set_option linter.unusedVariables false
set_option linter.unusedSimpArgs false
set_option maxRecDepth 100000
abbrev St := Q17.St
abbrev tF : RT := .cons .str (.one .str)
abbrev tE : RT := .cons .str (.cons .bool (.cons .str (.cons (.int .i64) (.one (.int .i64)))))
abbrev tI : RT := .one (.int .i64)
abbrev tP : RT := .one .str
abbrev tW : RT := .cons (.int .i64) (.one .str)
theorem okL : C.Ok cfgL := ⟨mixed, ext_ok⟩
theorem okSm : C.Ok cfgSm := ⟨mixed, ext_ok0⟩
theorem bool_of {w : World} {v : Value} {b : Bool} (h : CR .bool b w v) : v = .bool b := h
theorem str_of {w : World} {v : Value} {s : List UInt8} (h : CR .str s w v) : v = .string ⟨⟨s⟩⟩ := h
theorem calls_csound {P : Program} {n : Nat} {xs0 : List AV} {rv : AV} {H' : List (List AV)} {w : World} {vs : List Value} {fn : Func} {c : Code} (hc : CSound P n xs0 [] rv H') (hf : P.funcs[n]? = some fn) (hb : fn.body = some c) (hname : (fn.name == "runtime.NumGoroutine") = false)
    (hni : ∀ x ∈ xs0, NoId x) (hl : vs.length = xs0.length) (hR : ∀ (j : Nat) (x : AV) (v : Value), xs0[j]? = some x → vs[j]? = some v → R1 (cellsOf w) noE x v) :
    Calls P n vs.toArray w fun e w' => ∃ v S' E' φ, e = .returned v ∧ CPost w (cellsOf w) noE rv H' v S' E' φ w' := by
  have hp : HPre w (cellsOf w) noE [] := ⟨mem_cellsOf w, fun l b hb => (by cases hb), fun l cs hl => (by simp at hl), fun l l' b hb => (by cases hb)⟩
  have hc := hc w (cellsOf w) noE vs hp hni hl hR
  have hcall : (callFunc n vs.toArray).run P w = .ok (.enter n vs.toArray) w := by
    simp [callFunc, Sem.run_bind, hf, hb]
    intro hn
    simp [hn] at hname
  rcases hc with ⟨v, w', h1, _⟩ | ⟨_, h3⟩
  · rw [hcall] at h1
    cases h1
  · refine callsIn_wide.1 ((h3 0).mono fun e w' he => ?_)
    obtain ⟨v, rfl, S', E', φ, hpost⟩ := he
    exact ⟨v, S', E', φ, rfl, hpost⟩
theorem small_calls (w : World) : Calls Tryz.prog 5 #[] w fun e w' => e = .returned (.bool true) ∧ Below w.heap.size w w' := by
  obtain ⟨H', hc⟩ := csound_of okSm (callQ_mono (evN_leK cfgSm 300) small5)
  refine (calls_csound (vs := []) hc Tryz.func5 rfl (by kernel_rfl) (by simp) rfl (by simp)).mono fun e w' ⟨v, S', E', φ, h1, h2⟩ => ?_
  have hv := h2.rv
  generalize v = q at h1 hv
  cases hv
  exact ⟨h1, bel_below h2.bel⟩

def stC (s : St) (vtr var vow vsh vth vco vwa : Value) : Value := .agg #[.int .i64 s.1, vtr, var, .int .i64 s.2.2.2.1, .int .i64 s.2.2.2.2.1, .int .i64 s.2.2.2.2.2.1, .int .i64 s.2.2.2.2.2.2.1, vow, vsh, .bool s.2.2.2.2.2.2.2.2.2.1, .int .i64 s.2.2.2.2.2.2.2.2.2.2.1, .int .i64 s.2.2.2.2.2.2.2.2.2.2.2.1, .int .i64 s.2.2.2.2.2.2.2.2.2.2.2.2.1, .int .i64 s.2.2.2.2.2.2.2.2.2.2.2.2.2.1, vth, vco, vwa, .bool s.2.2.2.2.2.2.2.2.2.2.2.2.2.2.2.2.2]
/-- A state's rows. -/
structure Rws (w : World) (s : St) (vtr var vow vsh vth vco vwa : Value) : Prop where
  tr : SlR tF w vtr s.2.1
  ar : SlR tE w var s.2.2.1
  ow : SlR tI w vow s.2.2.2.2.2.2.2.1
  sh : SlR tE w vsh s.2.2.2.2.2.2.2.2.1
  th : SlR tE w vth s.2.2.2.2.2.2.2.2.2.2.2.2.2.2.1
  co : SlR tP w vco s.2.2.2.2.2.2.2.2.2.2.2.2.2.2.2.1
  wa : SlR tW w vwa s.2.2.2.2.2.2.2.2.2.2.2.2.2.2.2.2.1
theorem Rws.below {w w' : World} {s : St} {vtr var vow vsh vth vco vwa : Value} (h : Rws w s vtr var vow vsh vth vco vwa) (hb : Below w.heap.size w w') : Rws w' s vtr var vow vsh vth vco vwa := ⟨h.tr.below hb, h.ar.below hb, h.ow.below hb, h.sh.below hb, h.th.below hb, h.co.below hb, h.wa.below hb⟩
def StR (w : World) (v : Value) (s : St) : Prop := ∃ vtr var vow vsh vth vco vwa, v = stC s vtr var vow vsh vth vco vwa ∧ Rws w s vtr var vow vsh vth vco vwa
theorem r1_agg {S : Addr → Option Value} {E : Nat → Option Nat} {xs0 : List AV} {vs : List Value} (h : W.All2 (R1 S E) xs0 vs) (hp : ∀ x ∈ xs0, AV.plain x = true) : R1 S E (.agg xs0) (.agg vs.toArray) :=
  .agg xs0 vs h.len.symm hp fun j x v hx hv => by
    obtain ⟨y, hy, hr⟩ := W.All2.get h hx
    rw [hv] at hy; cases hy; exact hr
theorem agg_r1 {S : Addr → Option Value} {E : Nat → Option Nat} {xs0 : List AV} {v : Value} (h : R1 S E (.agg xs0) v) : ∃ vs, v = .agg vs.toArray ∧ W.All2 (R1 S E) xs0 vs := by
  cases h with
  | agg _ vs hl hp h =>
    refine ⟨vs, rfl, ?_⟩
    clear hp
    induction xs0 generalizing vs with
    | nil => cases vs with
      | nil => trivial
      | cons => simp at hl
    | cons a xs0 ih => cases vs with
      | nil => simp at hl
      | cons v vs => exact ⟨h 0 a v rfl rfl, ih vs (by simpa using hl) fun j x v hx hv => h (j + 1) x v (by simpa using hx) (by simpa using hv)⟩
def stA (s : St) (ntr nar now nsh nth nco nwa : Bool) : List AV := [.at (.int .i64 s.1), .slice (s.2.1.map (encR tF)) ntr .no, .slice (s.2.2.1.map (encR tE)) nar .no, .at (.int .i64 s.2.2.2.1), .at (.int .i64 s.2.2.2.2.1), .at (.int .i64 s.2.2.2.2.2.1), .at (.int .i64 s.2.2.2.2.2.2.1), .slice (s.2.2.2.2.2.2.2.1.map (encR tI)) now .no, .slice (s.2.2.2.2.2.2.2.2.1.map (encR tE)) nsh .no, .at (.bool s.2.2.2.2.2.2.2.2.2.1), .at (.int .i64 s.2.2.2.2.2.2.2.2.2.2.1), .at (.int .i64 s.2.2.2.2.2.2.2.2.2.2.2.1), .at (.int .i64 s.2.2.2.2.2.2.2.2.2.2.2.2.1), .at (.int .i64 s.2.2.2.2.2.2.2.2.2.2.2.2.2.1), .slice (s.2.2.2.2.2.2.2.2.2.2.2.2.2.2.1.map (encR tE)) nth .no, .slice (s.2.2.2.2.2.2.2.2.2.2.2.2.2.2.2.1.map (encR tP)) nco .no, .slice (s.2.2.2.2.2.2.2.2.2.2.2.2.2.2.2.2.1.map (encR tW)) nwa .no, .at (.bool s.2.2.2.2.2.2.2.2.2.2.2.2.2.2.2.2.2)]
def stW (s : St) : List WV := [cellW (.int .i64) s.1, cellW (.sl tF) s.2.1, cellW (.sl tE) s.2.2.1, cellW (.int .i64) s.2.2.2.1, cellW (.int .i64) s.2.2.2.2.1, cellW (.int .i64) s.2.2.2.2.2.1, cellW (.int .i64) s.2.2.2.2.2.2.1, cellW (.sl tI) s.2.2.2.2.2.2.2.1, cellW (.sl tE) s.2.2.2.2.2.2.2.2.1, cellW .bool s.2.2.2.2.2.2.2.2.2.1, cellW (.int .i64) s.2.2.2.2.2.2.2.2.2.2.1, cellW (.int .i64) s.2.2.2.2.2.2.2.2.2.2.2.1, cellW (.int .i64) s.2.2.2.2.2.2.2.2.2.2.2.2.1, cellW (.int .i64) s.2.2.2.2.2.2.2.2.2.2.2.2.2.1, cellW (.sl tE) s.2.2.2.2.2.2.2.2.2.2.2.2.2.2.1, cellW (.sl tP) s.2.2.2.2.2.2.2.2.2.2.2.2.2.2.2.1, cellW (.sl tW) s.2.2.2.2.2.2.2.2.2.2.2.2.2.2.2.2.1, cellW .bool s.2.2.2.2.2.2.2.2.2.2.2.2.2.2.2.2.2]
theorem st_arg {w : World} {v : Value} {s : St} (h : StR w v s) : ∃ ntr nar now nsh nth nco nwa, (ntr = true → s.2.1 = []) ∧ (nar = true → s.2.2.1 = []) ∧ (now = true → s.2.2.2.2.2.2.2.1 = []) ∧ (nsh = true → s.2.2.2.2.2.2.2.2.1 = []) ∧ (nth = true → s.2.2.2.2.2.2.2.2.2.2.2.2.2.2.1 = []) ∧ (nco = true → s.2.2.2.2.2.2.2.2.2.2.2.2.2.2.2.1 = []) ∧ (nwa = true → s.2.2.2.2.2.2.2.2.2.2.2.2.2.2.2.2.1 = []) ∧ WRL Ono g0 (stW s) (stA s ntr nar now nsh nth nco nwa) ∧ NoId (.agg (stA s ntr nar now nsh nth nco nwa)) ∧ R1 (cellsOf w) noE (.agg (stA s ntr nar now nsh nth nco nwa)) v := by
  obtain ⟨vtr, var, vow, vsh, vth, vco, vwa, rfl, h⟩ := h
  obtain ⟨ntr, etr, rtr⟩ := h.tr
  obtain ⟨nar, ear, rar⟩ := h.ar
  obtain ⟨now, eow, row⟩ := h.ow
  obtain ⟨nsh, esh, rsh⟩ := h.sh
  obtain ⟨nth, eth, rth⟩ := h.th
  obtain ⟨nco, eco, rco⟩ := h.co
  obtain ⟨nwa, ewa, rwa⟩ := h.wa
  refine ⟨ntr, nar, now, nsh, nth, nco, nwa, etr, ear, eow, esh, eth, eco, ewa, ?_, ?_, ?_⟩
  · exact ⟨.int _ _ _, .sl _ _ _ _ _ _ ⟨rows_enc tF rfl _, fun e => by rw [etr e]; rfl⟩ rfl (fun _ e => by cases e), .sl _ _ _ _ _ _ ⟨rows_enc tE rfl _, fun e => by rw [ear e]; rfl⟩ rfl (fun _ e => by cases e), .int _ _ _, .int _ _ _, .int _ _ _, .int _ _ _, .sl _ _ _ _ _ _ ⟨rows_enc tI rfl _, fun e => by rw [eow e]; rfl⟩ rfl (fun _ e => by cases e), .sl _ _ _ _ _ _ ⟨rows_enc tE rfl _, fun e => by rw [esh e]; rfl⟩ rfl (fun _ e => by cases e), .bool _ _, .int _ _ _, .int _ _ _, .int _ _ _, .int _ _ _, .sl _ _ _ _ _ _ ⟨rows_enc tE rfl _, fun e => by rw [eth e]; rfl⟩ rfl (fun _ e => by cases e), .sl _ _ _ _ _ _ ⟨rows_enc tP rfl _, fun e => by rw [eco e]; rfl⟩ rfl (fun _ e => by cases e), .sl _ _ _ _ _ _ ⟨rows_enc tW rfl _, fun e => by rw [ewa e]; rfl⟩ rfl (fun _ e => by cases e), .bool _ _, trivial⟩
  · rintro n ⟨y, hy, rows, nl, rfl⟩
    simp [parts, stA] at hy
  · refine r1_agg (vs := [.int .i64 s.1, vtr, var, .int .i64 s.2.2.2.1, .int .i64 s.2.2.2.2.1, .int .i64 s.2.2.2.2.2.1, .int .i64 s.2.2.2.2.2.2.1, vow, vsh, .bool s.2.2.2.2.2.2.2.2.2.1, .int .i64 s.2.2.2.2.2.2.2.2.2.2.1, .int .i64 s.2.2.2.2.2.2.2.2.2.2.2.1, .int .i64 s.2.2.2.2.2.2.2.2.2.2.2.2.1, .int .i64 s.2.2.2.2.2.2.2.2.2.2.2.2.2.1, vth, vco, vwa, .bool s.2.2.2.2.2.2.2.2.2.2.2.2.2.2.2.2.2]) ⟨.at _, rtr, rar, .at _, .at _, .at _, .at _, row, rsh, .at _, .at _, .at _, .at _, .at _, rth, rco, rwa, .at _, trivial⟩ ?_
    intro x hx
    simp only [stA, List.mem_cons, List.not_mem_nil, or_false] at hx
    rcases hx with rfl | rfl | rfl | rfl | rfl | rfl | rfl | rfl | rfl | rfl | rfl | rfl | rfl | rfl | rfl | rfl | rfl | rfl <;> rfl
abbrev stS : SV := .agg [.c (.int .i64), .c (.sl tF), .c (.sl tE), .c (.int .i64), .c (.int .i64), .c (.int .i64), .c (.int .i64), .c (.sl tI), .c (.sl tE), .c .bool, .c (.int .i64), .c (.int .i64), .c (.int .i64), .c (.int .i64), .c (.sl tE), .c (.sl tP), .c (.sl tW), .c .bool]
theorem args_st {w : World} {v : Value} {s : St} (h : StR w v s) : Args [stS] s w [v] := by
  obtain ⟨ntr, nar, now, nsh, nth, nco, nwa, -, -, -, -, -, -, -, h1, h2, h3⟩ := st_arg h
  refine ⟨[.agg (stA s ntr nar now nsh nth nco nwa)], ⟨[.agg (stW s)], rfl, wr_agg h1, trivial⟩, fun y hy => ?_, rfl, fun j y v hy hv => ?_⟩
  · simp at hy; subst hy; exact h2
  · match j with
    | 0 => cases hy; cases hv; exact h3
    | j + 1 => simp at hy
/-- A state, xs0 a call hands it over. -/
theorem st_cells {w : World} {E : Nat → Option Nat} {s : St} {xs0 : List AV} {vs : List Value} (hw : WRL Ono g0 (stW s) xs0) (hR : W.All2 (R1 (cellsOf w) E) xs0 vs) : StR w (.agg vs.toArray) s := by
  have h : W.All2 (fun u v => ∃ a, WR Ono g0 u a ∧ R1 (cellsOf w) E a v) (stW s) vs := by
    have key : ∀ {us : List WV} {xs0 : List AV} {vs : List Value}, WRL Ono g0 us xs0 → W.All2 (R1 (cellsOf w) E) xs0 vs → W.All2 (fun u v => ∃ a, WR Ono g0 u a ∧ R1 (cellsOf w) E a v) us vs := by
      intro us
      induction us with
      | nil => intro xs0 vs h1 h2; cases xs0 with
        | nil => cases vs with
          | nil => trivial
          | cons => exact h2.elim
        | cons => exact h1.elim
      | cons u us ih => intro xs0 vs h1 h2; cases xs0 with
        | nil => exact h1.elim
        | cons a xs0 => cases vs with
          | nil => exact h2.elim
          | cons v vs => exact ⟨⟨a, h1.1, h2.1⟩, ih h1.2 h2.2⟩
    exact key hw hR
  clear hw hR
  unfold stW at h
  cases vs with
  | nil => exact h.elim
  | cons u0 vs =>
  obtain ⟨h0, h⟩ := h
  cases vs with
  | nil => exact h.elim
  | cons u1 vs =>
  obtain ⟨h1, h⟩ := h
  cases vs with
  | nil => exact h.elim
  | cons u2 vs =>
  obtain ⟨h2, h⟩ := h
  cases vs with
  | nil => exact h.elim
  | cons u3 vs =>
  obtain ⟨h3, h⟩ := h
  cases vs with
  | nil => exact h.elim
  | cons u4 vs =>
  obtain ⟨h4, h⟩ := h
  cases vs with
  | nil => exact h.elim
  | cons u5 vs =>
  obtain ⟨h5, h⟩ := h
  cases vs with
  | nil => exact h.elim
  | cons u6 vs =>
  obtain ⟨h6, h⟩ := h
  cases vs with
  | nil => exact h.elim
  | cons u7 vs =>
  obtain ⟨h7, h⟩ := h
  cases vs with
  | nil => exact h.elim
  | cons u8 vs =>
  obtain ⟨h8, h⟩ := h
  cases vs with
  | nil => exact h.elim
  | cons u9 vs =>
  obtain ⟨h9, h⟩ := h
  cases vs with
  | nil => exact h.elim
  | cons u10 vs =>
  obtain ⟨h10, h⟩ := h
  cases vs with
  | nil => exact h.elim
  | cons u11 vs =>
  obtain ⟨h11, h⟩ := h
  cases vs with
  | nil => exact h.elim
  | cons u12 vs =>
  obtain ⟨h12, h⟩ := h
  cases vs with
  | nil => exact h.elim
  | cons u13 vs =>
  obtain ⟨h13, h⟩ := h
  cases vs with
  | nil => exact h.elim
  | cons u14 vs =>
  obtain ⟨h14, h⟩ := h
  cases vs with
  | nil => exact h.elim
  | cons u15 vs =>
  obtain ⟨h15, h⟩ := h
  cases vs with
  | nil => exact h.elim
  | cons u16 vs =>
  obtain ⟨h16, h⟩ := h
  cases vs with
  | nil => exact h.elim
  | cons u17 vs =>
  obtain ⟨h17, h⟩ := h
  cases vs with
  | cons => exact h.elim
  | nil =>
  have g0 : CR (.int .i64) s.1 w u0 := by obtain ⟨a, p, q⟩ := h0; exact cr_res rfl p q
  have g1 : CR (.sl tF) s.2.1 w u1 := by obtain ⟨a, p, q⟩ := h1; exact cr_res rfl p q
  have g2 : CR (.sl tE) s.2.2.1 w u2 := by obtain ⟨a, p, q⟩ := h2; exact cr_res rfl p q
  have g3 : CR (.int .i64) s.2.2.2.1 w u3 := by obtain ⟨a, p, q⟩ := h3; exact cr_res rfl p q
  have g4 : CR (.int .i64) s.2.2.2.2.1 w u4 := by obtain ⟨a, p, q⟩ := h4; exact cr_res rfl p q
  have g5 : CR (.int .i64) s.2.2.2.2.2.1 w u5 := by obtain ⟨a, p, q⟩ := h5; exact cr_res rfl p q
  have g6 : CR (.int .i64) s.2.2.2.2.2.2.1 w u6 := by obtain ⟨a, p, q⟩ := h6; exact cr_res rfl p q
  have g7 : CR (.sl tI) s.2.2.2.2.2.2.2.1 w u7 := by obtain ⟨a, p, q⟩ := h7; exact cr_res rfl p q
  have g8 : CR (.sl tE) s.2.2.2.2.2.2.2.2.1 w u8 := by obtain ⟨a, p, q⟩ := h8; exact cr_res rfl p q
  have g9 : CR .bool s.2.2.2.2.2.2.2.2.2.1 w u9 := by obtain ⟨a, p, q⟩ := h9; exact cr_res rfl p q
  have g10 : CR (.int .i64) s.2.2.2.2.2.2.2.2.2.2.1 w u10 := by obtain ⟨a, p, q⟩ := h10; exact cr_res rfl p q
  have g11 : CR (.int .i64) s.2.2.2.2.2.2.2.2.2.2.2.1 w u11 := by obtain ⟨a, p, q⟩ := h11; exact cr_res rfl p q
  have g12 : CR (.int .i64) s.2.2.2.2.2.2.2.2.2.2.2.2.1 w u12 := by obtain ⟨a, p, q⟩ := h12; exact cr_res rfl p q
  have g13 : CR (.int .i64) s.2.2.2.2.2.2.2.2.2.2.2.2.2.1 w u13 := by obtain ⟨a, p, q⟩ := h13; exact cr_res rfl p q
  have g14 : CR (.sl tE) s.2.2.2.2.2.2.2.2.2.2.2.2.2.2.1 w u14 := by obtain ⟨a, p, q⟩ := h14; exact cr_res rfl p q
  have g15 : CR (.sl tP) s.2.2.2.2.2.2.2.2.2.2.2.2.2.2.2.1 w u15 := by obtain ⟨a, p, q⟩ := h15; exact cr_res rfl p q
  have g16 : CR (.sl tW) s.2.2.2.2.2.2.2.2.2.2.2.2.2.2.2.2.1 w u16 := by obtain ⟨a, p, q⟩ := h16; exact cr_res rfl p q
  have g17 : CR .bool s.2.2.2.2.2.2.2.2.2.2.2.2.2.2.2.2.2 w u17 := by obtain ⟨a, p, q⟩ := h17; exact cr_res rfl p q
  have e0 : u0 = .int .i64 s.1 := g0
  subst e0
  have e3 : u3 = .int .i64 s.2.2.2.1 := g3
  subst e3
  have e4 : u4 = .int .i64 s.2.2.2.2.1 := g4
  subst e4
  have e5 : u5 = .int .i64 s.2.2.2.2.2.1 := g5
  subst e5
  have e6 : u6 = .int .i64 s.2.2.2.2.2.2.1 := g6
  subst e6
  have e9 : u9 = .bool s.2.2.2.2.2.2.2.2.2.1 := g9
  subst e9
  have e10 : u10 = .int .i64 s.2.2.2.2.2.2.2.2.2.2.1 := g10
  subst e10
  have e11 : u11 = .int .i64 s.2.2.2.2.2.2.2.2.2.2.2.1 := g11
  subst e11
  have e12 : u12 = .int .i64 s.2.2.2.2.2.2.2.2.2.2.2.2.1 := g12
  subst e12
  have e13 : u13 = .int .i64 s.2.2.2.2.2.2.2.2.2.2.2.2.2.1 := g13
  subst e13
  have e17 : u17 = .bool s.2.2.2.2.2.2.2.2.2.2.2.2.2.2.2.2.2 := g17
  subst e17
  exact ⟨u1, u2, u7, u8, u14, u15, u16, rfl, g1, g2, g7, g8, g14, g15, g16⟩
theorem few_calls {w : World} {v : Value} {s : St} {r : Bool} (h : StR w v s) (hr : Q17.law17_Few s = some r) : Calls Tryz.prog 6 #[v] w fun e w' => e = .returned (.bool r) ∧ Below w.heap.size w w' :=
  (calls1 (cfg := cfgL) (n := 6) (vs := [v]) (d := .bool) (F := Q17.law17_Few) okL rfl Q17.s_law17_Few hr (args_st h) (fn := Tryz.f6) Tryz.func6 rfl (by kernel_rfl)).mono fun e w' ⟨u, h1, h2, h3⟩ => ⟨by rw [h1, bool_of h3], h2⟩
theorem refbytes_calls {w : World} {v : Value} {s : St} {r : List UInt8} (h : StR w v s) (hr : Q17.ref17_Bytes s = some r) : Calls Tryz.prog 12 #[v] w fun e w' => e = .returned (.string ⟨⟨r⟩⟩) ∧ Below w.heap.size w w' :=
  (calls1 (cfg := cfgL) (n := 12) (vs := [v]) (d := .str) (F := Q17.ref17_Bytes) okL rfl Q17.s_ref17_Bytes hr (args_st h) (fn := Tryz.f12) Tryz.func12 rfl (by kernel_rfl)).mono fun e w' ⟨u, h1, h2, h3⟩ => ⟨by rw [h1, str_of h3], h2⟩
theorem co_part {r : RT} {l : List (Tr r)} {n : Bool} {o : Own} (hf : flatRT r = true) (h : Co (l.map (encR r)) n o) (hn : n = true → l = []) : PartR (.fr r) (cellW (.sl r) l) (.slice (l.map (encR r)) n o) :=
  ⟨.sl _ _ _ _ _ _ ⟨rows_enc r hf l, fun e => by rw [hn e]; rfl⟩ rfl (fun _ e => by cases e), fun _ => ⟨_, _, _, rfl, by
    rcases h with ⟨h1, h2⟩ | ⟨_, _, h2⟩
    · exact .inl ⟨h2, h1⟩
    · exact .inr h2⟩⟩
theorem copy_calls {w : World} {v : Value} {s : St} (h : StR w v s) (hm : Q17.Mild s) : Calls Tryz.prog 7 #[v] w fun e w' => ∃ vtr var vow vsh vth vco vwa, e = .returned (stC s vtr var vow vsh vth vco vwa) ∧ Below w.heap.size w w' ∧ Rws w' s vtr var vow vsh vth vco vwa ∧ Wr w' w.heap.size s.2.1.length 2 vtr ∧ Wr w' w.heap.size s.2.2.2.2.2.2.2.1.length 1 vow ∧ Wr w' w.heap.size s.2.2.2.2.2.2.2.2.2.2.2.2.2.2.1.length 5 vth ∧ Wr w' w.heap.size s.2.2.2.2.2.2.2.2.2.2.2.2.2.2.2.2.1.length 2 vwa := by
  obtain ⟨ntr, nar, now, nsh, nth, nco, nwa, etr, ear, eow, esh, eth, eco, ewa, h1, h2, h3⟩ := st_arg h
  obtain ⟨mtr, mar, msh, mth, mow, mco, mwa⟩ := hm
  have hz : ∀ {r : RT} {z : Nat} (hf : flatRT r = true) (hz : rlen r = z) (l : List (Tr r)), ∀ x ∈ l.map (encR r), x.length = z := fun {r z} hf hz l x hx => by
    obtain ⟨y, _, rfl⟩ := List.mem_map.1 hx
    rw [rowR_len r y _ (encR_row r y hf), hz]
  obtain ⟨otr, oow, oar, osh, oth, oco, owa, ctr, cow, car, csh, cth, cco, cwa, hk⟩ := copy7 s.1 s.2.2.2.1 s.2.2.2.2.1 s.2.2.2.2.2.1 s.2.2.2.2.2.2.1 s.2.2.2.2.2.2.2.2.2.2.1 s.2.2.2.2.2.2.2.2.2.2.2.1 s.2.2.2.2.2.2.2.2.2.2.2.2.1 s.2.2.2.2.2.2.2.2.2.2.2.2.2.1 s.2.2.2.2.2.2.2.2.2.1 s.2.2.2.2.2.2.2.2.2.2.2.2.2.2.2.2.2 (s.2.1.map (encR tF)) ntr (s.2.2.2.2.2.2.2.1.map (encR tI)) now (s.2.2.1.map (encR tE)) nar (s.2.2.2.2.2.2.2.2.1.map (encR tE)) nsh (s.2.2.2.2.2.2.2.2.2.2.2.2.2.2.1.map (encR tE)) nth (s.2.2.2.2.2.2.2.2.2.2.2.2.2.2.2.1.map (encR tP)) nco (s.2.2.2.2.2.2.2.2.2.2.2.2.2.2.2.2.1.map (encR tW)) nwa (hz rfl rfl _) (by rw [List.length_map]; omega) (fun e => by rw [etr e]; rfl) (hz rfl rfl _) (by rw [List.length_map]; omega) (fun e => by rw [eow e]; rfl) (hz rfl rfl _) (by rw [List.length_map]; omega) (fun e => by rw [ear e]; rfl) (hz rfl rfl _) (by rw [List.length_map]; omega) (fun e => by rw [esh e]; rfl) (hz rfl rfl _) (by rw [List.length_map]; omega) (fun e => by rw [eth e]; rfl) (hz rfl rfl _) (by rw [List.length_map]; omega) (fun e => by rw [eco e]; rfl) (hz rfl rfl _) (by rw [List.length_map]; omega) (fun e => by rw [ewa e]; rfl)
  have hc := evK_sound okL.mixed okL.ext hk
  refine (calls_csound (vs := [v]) hc Tryz.func7 rfl (by kernel_rfl) (fun x hx => by simp at hx; subst hx; exact h2) rfl (fun j x v hx hv => by
    match j with
    | 0 => cases hx; cases hv; exact h3
    | j + 1 => simp at hx)).mono fun e w' ⟨u, S', E', φ, h4, hpost⟩ => ?_
  have hR := hpost.rv.mono (S' := cellsOf w') (fun ad u h => hpost.mem ad u h) (fun l b h => h)
  obtain ⟨us, rfl, hv⟩ := agg_r1 hR
  have ptr := co_part (r := tF) (l := s.2.1) rfl ctr etr
  have pow := co_part (r := tI) (l := s.2.2.2.2.2.2.2.1) rfl cow eow
  have par := co_part (r := tE) (l := s.2.2.1) rfl car ear
  have psh := co_part (r := tE) (l := s.2.2.2.2.2.2.2.2.1) rfl csh esh
  have pth := co_part (r := tE) (l := s.2.2.2.2.2.2.2.2.2.2.2.2.2.2.1) rfl cth eth
  have pco := co_part (r := tP) (l := s.2.2.2.2.2.2.2.2.2.2.2.2.2.2.2.1) rfl cco eco
  have pwa := co_part (r := tW) (l := s.2.2.2.2.2.2.2.2.2.2.2.2.2.2.2.2.1) rfl cwa ewa
  obtain ⟨vtr, var, vow, vsh, vth, vco, vwa, hst, hrw⟩ := st_cells (s := s) (w := w') (xs0 := [.at (.int .i64 s.1), .slice (s.2.1.map (encR tF)) ntr otr, .slice (s.2.2.1.map (encR tE)) nar oar, .at (.int .i64 s.2.2.2.1), .at (.int .i64 s.2.2.2.2.1), .at (.int .i64 s.2.2.2.2.2.1), .at (.int .i64 s.2.2.2.2.2.2.1), .slice (s.2.2.2.2.2.2.2.1.map (encR tI)) now oow, .slice (s.2.2.2.2.2.2.2.2.1.map (encR tE)) nsh osh, .at (.bool s.2.2.2.2.2.2.2.2.2.1), .at (.int .i64 s.2.2.2.2.2.2.2.2.2.2.1), .at (.int .i64 s.2.2.2.2.2.2.2.2.2.2.2.1), .at (.int .i64 s.2.2.2.2.2.2.2.2.2.2.2.2.1), .at (.int .i64 s.2.2.2.2.2.2.2.2.2.2.2.2.2.1), .slice (s.2.2.2.2.2.2.2.2.2.2.2.2.2.2.1.map (encR tE)) nth oth, .slice (s.2.2.2.2.2.2.2.2.2.2.2.2.2.2.2.1.map (encR tP)) nco oco, .slice (s.2.2.2.2.2.2.2.2.2.2.2.2.2.2.2.2.1.map (encR tW)) nwa owa, .at (.bool s.2.2.2.2.2.2.2.2.2.2.2.2.2.2.2.2.2)] ) ⟨.int _ _ _, ptr.1, par.1, .int _ _ _, .int _ _ _, .int _ _ _, .int _ _ _, pow.1, psh.1, .bool _ _, .int _ _ _, .int _ _ _, .int _ _ _, .int _ _ _, pth.1, pco.1, pwa.1, .bool _ _, trivial⟩ hv
  have hus : us = [.int .i64 s.1, vtr, var, .int .i64 s.2.2.2.1, .int .i64 s.2.2.2.2.1, .int .i64 s.2.2.2.2.2.1, .int .i64 s.2.2.2.2.2.2.1, vow, vsh, .bool s.2.2.2.2.2.2.2.2.2.1, .int .i64 s.2.2.2.2.2.2.2.2.2.2.1, .int .i64 s.2.2.2.2.2.2.2.2.2.2.2.1, .int .i64 s.2.2.2.2.2.2.2.2.2.2.2.2.1, .int .i64 s.2.2.2.2.2.2.2.2.2.2.2.2.2.1, vth, vco, vwa, .bool s.2.2.2.2.2.2.2.2.2.2.2.2.2.2.2.2.2] := by
    have := Value.agg.inj hst
    simpa using congrArg Array.toList this
  subst hus
  refine ⟨vtr, var, vow, vsh, vth, vco, vwa, h4, bel_below hpost.bel, hrw, wr_of (r := tF) hpost 1 rfl rfl ptr, wr_of (r := tI) hpost 7 rfl rfl pow, wr_of (r := tE) hpost 14 rfl rfl pth, wr_of (r := tW) hpost 16 rfl rfl pwa⟩
end Go.Proofs.V.T17

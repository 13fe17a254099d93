/- StateTells: those whom the law calls. -/
import Derived.Test.YtdgihbbekacgcaaGreatDoorK34
import Derived.Test.YtdgihbbekacgcaaGreatDoorK37
import Derived.Test.YtdgihbbekacgcaaGreatDoorK38
namespace Go.Proofs.V.T17
open Go Go.Proofs Go.RowKit Go.Lib Go.Proofs.V Go.Proofs.V.L17 Go.Proofs.W Go.Proofs.W.C
set_option linter.unusedVariables false
set_option linter.unusedSimpArgs false
set_option maxRecDepth 100000
abbrev St := Q17.St
abbrev tF : RT := .cons .str (.one .str)
abbrev tE : RT := .cons .str (.cons .bool (.cons .str (.cons (.int .i64) (.one (.int .i64)))))
abbrev tI : RT := .one (.int .i64)
abbrev tP : RT := .one .str
abbrev tW : RT := .cons (.int .i64) (.one .str)
theorem okL : C.Ok cfgL := ⟨mixed, ext_ok⟩
theorem okSm : C.Ok cfgSm := ⟨mixed, ext_ok0⟩
theorem calls_csound {P : Program} {n : Nat} {xs0 : List AV} {rv : AV} {H' : List (List AV)} {w : World} {vs : List Value} {fn : Func} {c : Code} (hc : CSound P n xs0 [] rv H') (hf : P.funcs[n]? = some fn) (hb : fn.body = some c) (hname : (fn.name == "runtime.NumGoroutine") = false)
    (hni : ∀ x ∈ xs0, NoId x) (hl : vs.length = xs0.length) (hR : ∀ (j : Nat) (x : AV) (v : Value), xs0[j]? = some x → vs[j]? = some v → R1 (cellsOf w) noE x v) :
    Calls P n vs.toArray w fun e w' => ∃ v S' E' φ, e = .returned v ∧ CPost w (cellsOf w) noE rv H' v S' E' φ w' := by
  have hp : HPre w (cellsOf w) noE [] := ⟨mem_cellsOf w, fun l b hb => (by cases hb), fun l cs hl => (by simp at hl), fun l l' b hb => (by cases hb)⟩
  have hc := hc w (cellsOf w) noE vs hp hni hl hR
  have hcall : (callFunc n vs.toArray).run P w = .ok (.enter n vs.toArray) w := by
    simp [callFunc, Sem.run_bind, hf, hb]
    intro hn
    simp [hn] at hname
  rcases hc with ⟨v, w', h1, _⟩ | ⟨_, h3⟩
  · rw [hcall] at h1
    cases h1
  · refine callsIn_wide.1 ((h3 0).mono fun e w' he => ?_)
    obtain ⟨v, rfl, S', E', φ, hpost⟩ := he
    exact ⟨v, S', E', φ, rfl, hpost⟩
def stC (s : St) (vtr var vow vsh vth vco vwa : Value) : Value := .agg #[.int .i64 s.1, vtr, var, .int .i64 s.2.2.2.1, .int .i64 s.2.2.2.2.1, .int .i64 s.2.2.2.2.2.1, .int .i64 s.2.2.2.2.2.2.1, vow, vsh, .bool s.2.2.2.2.2.2.2.2.2.1, .int .i64 s.2.2.2.2.2.2.2.2.2.2.1, .int .i64 s.2.2.2.2.2.2.2.2.2.2.2.1, .int .i64 s.2.2.2.2.2.2.2.2.2.2.2.2.1, .int .i64 s.2.2.2.2.2.2.2.2.2.2.2.2.2.1, vth, vco, vwa, .bool s.2.2.2.2.2.2.2.2.2.2.2.2.2.2.2.2.2]
/-- A state's rows. -/
structure Rws (w : World) (s : St) (vtr var vow vsh vth vco vwa : Value) : Prop where
  tr : SlR tF w vtr s.2.1
  ar : SlR tE w var s.2.2.1
  ow : SlR tI w vow s.2.2.2.2.2.2.2.1
  sh : SlR tE w vsh s.2.2.2.2.2.2.2.2.1
  th : SlR tE w vth s.2.2.2.2.2.2.2.2.2.2.2.2.2.2.1
  co : SlR tP w vco s.2.2.2.2.2.2.2.2.2.2.2.2.2.2.2.1
  wa : SlR tW w vwa s.2.2.2.2.2.2.2.2.2.2.2.2.2.2.2.2.1
theorem Rws.below {w w' : World} {s : St} {vtr var vow vsh vth vco vwa : Value} (h : Rws w s vtr var vow vsh vth vco vwa) (hb : Below w.heap.size w w') : Rws w' s vtr var vow vsh vth vco vwa := ⟨h.tr.below hb, h.ar.below hb, h.ow.below hb, h.sh.below hb, h.th.below hb, h.co.below hb, h.wa.below hb⟩
def StR (w : World) (v : Value) (s : St) : Prop := ∃ vtr var vow vsh vth vco vwa, v = stC s vtr var vow vsh vth vco vwa ∧ Rws w s vtr var vow vsh vth vco vwa
def stW (s : St) : List WV := [cellW (.int .i64) s.1, cellW (.sl tF) s.2.1, cellW (.sl tE) s.2.2.1, cellW (.int .i64) s.2.2.2.1, cellW (.int .i64) s.2.2.2.2.1, cellW (.int .i64) s.2.2.2.2.2.1, cellW (.int .i64) s.2.2.2.2.2.2.1, cellW (.sl tI) s.2.2.2.2.2.2.2.1, cellW (.sl tE) s.2.2.2.2.2.2.2.2.1, cellW .bool s.2.2.2.2.2.2.2.2.2.1, cellW (.int .i64) s.2.2.2.2.2.2.2.2.2.2.1, cellW (.int .i64) s.2.2.2.2.2.2.2.2.2.2.2.1, cellW (.int .i64) s.2.2.2.2.2.2.2.2.2.2.2.2.1, cellW (.int .i64) s.2.2.2.2.2.2.2.2.2.2.2.2.2.1, cellW (.sl tE) s.2.2.2.2.2.2.2.2.2.2.2.2.2.2.1, cellW (.sl tP) s.2.2.2.2.2.2.2.2.2.2.2.2.2.2.2.1, cellW (.sl tW) s.2.2.2.2.2.2.2.2.2.2.2.2.2.2.2.2.1, cellW .bool s.2.2.2.2.2.2.2.2.2.2.2.2.2.2.2.2.2]
end Go.Proofs.V.T17

/- What lies outside of the evaluator; runs that the kernel reckons. -/
import Derived.Test.YtdgihbbekacgcaaDoorV22
import Derived.Lib.Bytealg
import Derived.Laws.Externs
namespace Go.Proofs.V
open Go Go.RowKit
set_option linter.unusedVariables false
set_option linter.unusedSimpArgs false

theorem parts_absV_own (v : Value) : ∀ rows nl own, .slice rows nl own ∈ parts (absV v) → own = .full := by
  intro rows nl own h
  have h1 : ∀ v, .slice rows nl own = abs1 v → own = .full := by
    intro v h
    unfold abs1 at h
    split at h <;> cases h
    rfl
  unfold absV at h
  split at h
  · simp [parts] at h; exact h.2.2
  · split at h
    · simp only [parts] at h
      obtain ⟨u, _, hu⟩ := List.mem_map.1 h
      exact h1 u hu.symm
    · simp [parts] at h
  · split at h <;> simp [parts] at h
  · simp [parts] at h

/-- A callee that hands back a value without memory, and leaves the world alone. -/
theorem csound_value {P : Program} {g : Nat} {as : List AV} {us : List Value} {v : Value} (hv : vals as = some us) (hr : ∀ w, (callFunc g us.toArray).run P w = .ok (.value v) w) : CSound P g as [] (absV v) [] := by
  intro w S E vs hp hni hl hR
  have e := vals_R1 hv hl hR
  subst e
  refine .inl ⟨v, w, hr w, S, E, fun _ => ⟨0, 0, 0, 0⟩, ?_⟩
  refine ⟨Bel.refl _ _, fun _ _ h => h, fun _ h _ => h, hp.mem, fun _ _ h => h, fun l b h0 hb => ?_, hp.eH, fun l cs hl => by simp at hl, hp.inj, absV_R1 _ _ v, noId_absV v, fun j u rows nl hx hu => ?_, fun j j' rows nl rows' nl' hx => ?_⟩
  · rw [h0] at hb; cases hb
  · have := parts_absV_own v rows nl .fresh (List.mem_of_getElem? hx)
    cases this
  · have := parts_absV_own v rows nl .fresh (List.mem_of_getElem? hx)
    cases this

def extCount : List AV → Option AV
  | [.at (.string s), .at (.int .u8 c)] => some (I64 (Lib.countByte s.data.toList c.toNat.toUInt8))
  | _ => none
def extIndex : List AV → Option AV
  | [.at (.string s), .at (.int .u8 c)] => some (I64 (Lib.indexByte s.data.toList c.toNat.toUInt8))
  | _ => none
theorem extCount_sound {P : Program} {g : Nat} {fn : Func} (hf : P.funcs[g]? = some fn) (hname : (fn.name == "runtime.NumGoroutine") = false) (hb : fn.body.isNone = true) (hn : Extern.findNext fn = none) (he : Extern.find fn = some Extern.BytealgCount.count) {as : List AV} {r : AV} (h : extCount as = some r) : CSound P g as [] r [] := by
  unfold extCount at h
  split at h
  · rename_i s c
    cases h
    refine csound_value (us := [.string s, .int .u8 c]) (v := .int .i64 (Lib.countByte s.data.toList c.toNat.toUInt8)) rfl (fun w => ?_)
    rw [run_callFunc_extern hf hname hb hn he]
    have := Lib.run_countString (P := P) s c w
    rw [show [Value.string s, Value.int .u8 c].toArray = #[Value.string s, Value.int .u8 c] from rfl, this]
    rfl
  · cases h
theorem extIndex_sound {P : Program} {g : Nat} {fn : Func} (hf : P.funcs[g]? = some fn) (hname : (fn.name == "runtime.NumGoroutine") = false) (hb : fn.body.isNone = true) (hn : Extern.findNext fn = none) (he : Extern.find fn = some Extern.BytealgIndexByte.indexByte) {as : List AV} {r : AV} (h : extIndex as = some r) : CSound P g as [] r [] := by
  unfold extIndex at h
  split at h
  · rename_i s c
    cases h
    refine csound_value (us := [.string s, .int .u8 c]) (v := .int .i64 (Lib.indexByte s.data.toList c.toNat.toUInt8)) rfl (fun w => ?_)
    rw [run_callFunc_extern hf hname hb hn he]
    have := Lib.run_indexByteString (P := P) s c w
    rw [show [Value.string s, Value.int .u8 c].toArray = #[Value.string s, Value.int .u8 c] from rfl, this]
    rfl
  · cases h

/-! ### What the kernel reckons -/
theorem evK_at {cfg : Cfg} (k : Nat) {g : Nat} {as : List AV} {H : List (List AV)} {r : AV × List (List AV)} (h : (evN cfg k).2 g as H = some r) : evK cfg g as H = some r := evK_some.2 ⟨k, h⟩
theorem callQ_at {cfg : Cfg} (k : Nat) {g : Nat} {as : List AV} {r : AV} (h : callQ cfg (evN cfg k).2 g as = some r) : callQ cfg (evK cfg) g as = some r := callQ_mono (evN_leK cfg k) h
theorem opsRun_at {cfg : Cfg} (k : Nat) {draw : Bool} {ds : List Nat} {all : Array Oper} {l : List Oper} {lab : Nat} {F F' : St} (h : opsRun cfg (evN cfg k).2 draw ds all l lab F = some F') : opsRun cfg (evK cfg) draw ds all l lab F = some F' := opsRun_mono (evN_leK cfg k) l lab F F' h
theorem opsRun_append {cfg : Cfg} {K : KF} {draw : Bool} {ds : List Nat} {all : Array Oper} : ∀ (l l' : List Oper) (lab : Nat) (F : St), opsRun cfg K draw ds all (l ++ l') lab F = (opsRun cfg K draw ds all l lab F).bind fun F' => opsRun cfg K draw ds all l' (lab + 64 * l.length) F'
  | [], l', lab, F => by simp [opsRun]
  | o :: l, l', lab, F => by
    simp only [List.cons_append, opsRun, List.length_cons]
    cases guardA all o F with
    | none => rfl
    | some b =>
      simp only [Option.bind_some]
      cases (if b = true then opRun cfg K draw ds lab o F else F.put o.dst und) with
      | none => rfl
      | some F1 =>
        simp only [Option.bind_some]
        rw [opsRun_append l l', show lab + 64 + 64 * l.length = lab + 64 * (l.length + 1) by omega]
/-- A stretch of operations that the kernel carries out. -/
theorem ow_run {cfg : Cfg} (k : Nat) {draw : Bool} {ds : List Nat} {all : Array Oper} {l rest : List Oper} {lab : Nat} {F : St} {Q : St → Prop} (hs : (opsRun cfg (evN cfg k).2 draw ds all l lab F).isSome = true)
    (h : Ow cfg draw ds all rest (lab + 64 * l.length) ((opsRun cfg (evN cfg k).2 draw ds all l lab F).get hs) Q) : Ow cfg draw ds all (l ++ rest) lab F Q := by
  obtain ⟨F', e, q⟩ := h
  refine ⟨F', ?_, q⟩
  rw [opsRun_append, opsRun_at k (F' := (opsRun cfg (evN cfg k).2 draw ds all l lab F).get hs) (by simp)]
  exact e
end Go.Proofs.V

/- What lies outside of the evaluator; runs that the kernel reckons. -/
import Derived.Test.YtdgihbbekacgcaaGreatDoorK8
import Derived.Lib.Bytealg
import Derived.Laws.Externs
namespace Go.Proofs.V
open Go Go.RowKit
set_option linter.unusedVariables false
set_option linter.unusedSimpArgs false
theorem parts_absV_own (v : Value) : ∀ rows nl own, .slice rows nl own ∈ parts (absV v) → own = .full := by
  intro rows nl own h
  have h1 : ∀ v, .slice rows nl own = abs1 v → own = .full := by
    intro v h
    unfold abs1 at h
    split at h <;> cases h
    rfl
  unfold absV at h
  split at h
  · simp [parts] at h; exact h.2.2
  · split at h
    · simp only [parts] at h
      obtain ⟨u, _, hu⟩ := List.mem_map.1 h
      exact h1 u hu.symm
    · simp [parts] at h
  · split at h <;> simp [parts] at h
  · simp [parts] at h

/-- A callee that hands back a value without memory, and leaves the world alone. -/
theorem csound_value {P : Program} {g : Nat} {as : List AV} {us : List Value} {v : Value} (hv : vals as = some us) (hr : ∀ w, (callFunc g us.toArray).run P w = .ok (.value v) w) : CSound P g as [] (absV v) [] := by
  intro w S E vs hp hni hl hR
  have e := vals_R1 hv hl hR
  subst e
  refine .inl ⟨v, w, hr w, S, E, fun _ => ⟨0, 0, 0, 0⟩, ?_⟩
  refine ⟨Bel.refl _ _, fun _ _ h => h, fun _ h _ => h, hp.mem, fun _ _ h => h, fun l b h0 hb => ?_, hp.eH, fun l cs hl => by simp at hl, hp.inj, absV_R1 _ _ v, noId_absV v, fun j u rows nl hx hu => ?_, fun j j' rows nl rows' nl' hx => ?_⟩
  · rw [h0] at hb; cases hb
  · have := parts_absV_own v rows nl .fresh (List.mem_of_getElem? hx)
    cases this
  · have := parts_absV_own v rows nl .fresh (List.mem_of_getElem? hx)
    cases this

def extCount : List AV → Option AV
  | [.at (.string s), .at (.int .u8 c)] => some (I64 (Lib.countByte s.data.toList c.toNat.toUInt8))
  | _ => none
def extIndex : List AV → Option AV
  | [.at (.string s), .at (.int .u8 c)] => some (I64 (Lib.indexByte s.data.toList c.toNat.toUInt8))
  | _ => none
theorem extCount_sound {P : Program} {g : Nat} {fn : Func} (hf : P.funcs[g]? = some fn) (hname : (fn.name == "runtime.NumGoroutine") = false) (hb : fn.body.isNone = true) (hn : Extern.findNext fn = none) (he : Extern.find fn = some Extern.BytealgCount.count) {as : List AV} {r : AV} (h : extCount as = some r) : CSound P g as [] r [] := by
  unfold extCount at h
  split at h
  · rename_i s c
    cases h
    refine csound_value (us := [.string s, .int .u8 c]) (v := .int .i64 (Lib.countByte s.data.toList c.toNat.toUInt8)) rfl (fun w => ?_)
    rw [run_callFunc_extern hf hname hb hn he]
    have := Lib.run_countString (P := P) s c w
    rw [show [Value.string s, Value.int .u8 c].toArray = #[Value.string s, Value.int .u8 c] from rfl, this]
    rfl
  · cases h
theorem extIndex_sound {P : Program} {g : Nat} {fn : Func} (hf : P.funcs[g]? = some fn) (hname : (fn.name == "runtime.NumGoroutine") = false) (hb : fn.body.isNone = true) (hn : Extern.findNext fn = none) (he : Extern.find fn = some Extern.BytealgIndexByte.indexByte) {as : List AV} {r : AV} (h : extIndex as = some r) : CSound P g as [] r [] := by
  unfold extIndex at h
  split at h
  · rename_i s c
    cases h
    refine csound_value (us := [.string s, .int .u8 c]) (v := .int .i64 (Lib.indexByte s.data.toList c.toNat.toUInt8)) rfl (fun w => ?_)
    rw [run_callFunc_extern hf hname hb hn he]
    have := Lib.run_indexByteString (P := P) s c w
    rw [show [Value.string s, Value.int .u8 c].toArray = #[Value.string s, Value.int .u8 c] from rfl, this]
    rfl
  · cases h

theorem evK_at {cfg : Cfg} (k : Nat) {g : Nat} {as : List AV} {H : List (List AV)} {r : AV × List (List AV)} (h : (evN cfg k).2 g as H = some r) : evK cfg g as H = some r := evK_some.2 ⟨k, h⟩
theorem callQ_at {cfg : Cfg} (k : Nat) {g : Nat} {as : List AV} {r : AV} (h : callQ cfg (evN cfg k).2 g as = some r) : callQ cfg (evK cfg) g as = some r := callQ_mono (evN_leK cfg k) h
theorem opsRun_at {cfg : Cfg} (k : Nat) {draw : Bool} {ds : List Nat} {all : Array Oper} {l : List Oper} {lab : Nat} {F F' : St} (h : opsRun cfg (evN cfg k).2 draw ds all l lab F = some F') : opsRun cfg (evK cfg) draw ds all l lab F = some F' := opsRun_mono (evN_leK cfg k) l lab F F' h
theorem opsRun_append {cfg : Cfg} {K : KF} {draw : Bool} {ds : List Nat} {all : Array Oper} : ∀ (l l' : List Oper) (lab : Nat) (F : St), opsRun cfg K draw ds all (l ++ l') lab F = (opsRun cfg K draw ds all l lab F).bind fun F' => opsRun cfg K draw ds all l' (lab + 64 * l.length) F'
  | [], l', lab, F => by simp [opsRun]
  | o :: l, l', lab, F => by
    simp only [List.cons_append, opsRun, List.length_cons]
    cases guardA all o F with
    | none => rfl
    | some b =>
      simp only [Option.bind_some]
      cases (if b = true then opRun cfg K draw ds lab o F else F.put o.dst und) with
      | none => rfl
      | some F1 =>
        simp only [Option.bind_some]
        rw [opsRun_append l l', show lab + 64 + 64 * l.length = lab + 64 * (l.length + 1) by omega]
/-- A stretch of operations that the kernel carries out. -/
theorem ow_run {cfg : Cfg} (k : Nat) {draw : Bool} {ds : List Nat} {all : Array Oper} {l rest : List Oper} {lab : Nat} {F : St} {Q : St → Prop} (hs : (opsRun cfg (evN cfg k).2 draw ds all l lab F).isSome = true)
    (h : Ow cfg draw ds all rest (lab + 64 * l.length) ((opsRun cfg (evN cfg k).2 draw ds all l lab F).get hs) Q) : Ow cfg draw ds all (l ++ rest) lab F Q := by
  obtain ⟨F', e, q⟩ := h
  refine ⟨F', ?_, q⟩
  rw [opsRun_append, opsRun_at k (F' := (opsRun cfg (evN cfg k).2 draw ds all l lab F).get hs) (by simp)]
  exact e
end Go.Proofs.V
namespace Go.Proofs.V
open Go Go.RowKit
set_option linter.unusedVariables false
set_option linter.unusedSimpArgs false
theorem upd_eta {α : Type} {t : Nat → α} {i : Nat} {x : α} (h : t i = x) : upd t i x = t := by
  funext k
  simp only [upd_apply]
  split
  · rename_i e; rw [e, h]
  · rfl

section
variable {cfg : Cfg} {F : St} {Q : St → Prop} {draw : Bool} {ds : List Nat} {all : Array Oper} {rest : List Oper} {lab : Nat} {type : TypeId} {pos : String} {after : Array Edge} {g : Option (Nat × Bool)} {d : Nat}
/-- A whole stretch, by the kernel. -/
theorem ow_all (k : Nat) {l : List Oper} (hs : (opsRun cfg (evN cfg k).2 draw ds all l lab F).isSome = true)
    (h : Q ((opsRun cfg (evN cfg k).2 draw ds all l lab F).get hs)) : Ow cfg draw ds all l lab F Q :=
  ⟨_, opsRun_at k (F' := (opsRun cfg (evN cfg k).2 draw ds all l lab F).get hs) (by simp), h⟩
/-- A quiet operation whose value is known. -/
theorem ow_val {op : Op} {v : AV} (hc : Op.calm op = true) (hg : guardA all { dst := some d, op, type, pos, after, guard := g } F = some true) (hA : (allocH cfg.P F op).isNone = true) (hq : quiet cfg.P F ds lab op = some v) (hd : Nat.blt d F.n = true)
    (h : Ow cfg draw ds all rest (lab + 64) { F with t := upd F.t d v } Q) : Ow cfg draw ds all ({ dst := some d, op, type, pos, after, guard := g } :: rest) lab F Q := by
  have hd' : d < F.n := by simpa using hd
  have hA' : allocH cfg.P F op = none := by simpa using hA
  refine ow_cons (w := true) hg (fun _ => ⟨_, ?_, h⟩) (fun h => by cases h)
  simp only [opRun, hA']
  cases op <;> first | (cases hc; done) | (simp only [opRunV, hq, Option.bind_some, St.put, hd', if_true])
class NotHs (x : AV) : Prop where
  h : isHs x = false
instance (r : List (List AV)) (n : Bool) (o : Own) : NotHs (.slice r n o) := ⟨rfl⟩
instance (v : Value) : NotHs (.at v) := ⟨rfl⟩
theorem appendB_of {draw : Bool} {ds : List Nat} {P : Program} {F : St} {lab : Nat} {t : TypeId} {s x : AV} {xt : Option TypeId} [hx : NotHs x] : appendB draw ds P F lab t s x xt = appendA P F lab t s x xt := by
  unfold appendB
  rw [hx.h]
  rfl
theorem ow_appendG {s x : Operand} {ty : TypeId} {ts : Array TypeId} {v S X : AV} [NotHs X] {al' : Nat → Bool} (ht : ts[0]? = some ty) (hg : guardA all { dst := some d, op := .call { callee := .builtin .append, args := #[s, x], argTypes := ts }, type, pos, after, guard := g } F = some true)
    (hs : F.ev s = S) (hx : F.ev x = X) (hv : appendA cfg.P F lab ty S X ts[1]? = some (v, al')) (hd : Nat.blt d F.n = true)
    (h : Ow cfg draw ds all rest (lab + 64) { F with t := upd F.t d v, al := al' } Q) : Ow cfg draw ds all ({ dst := some d, op := .call { callee := .builtin .append, args := #[s, x], argTypes := ts }, type, pos, after, guard := g } :: rest) lab F Q := by
  have hd' : d < F.n := by simpa using hd
  subst hs; subst hx
  exact ow_cons (w := true) hg (fun _ => ⟨_, by simp only [opRun, allocH, opRunV, appendB_of, ht, hv, Option.bind_some, St.putAl, St.put, hd', if_true], h⟩) (fun h => by cases h)
/-- A call that turns nothing. -/
theorem ow_callG {f : Operand} {args : Array Operand} {ts : Array TypeId} {k : Nat} {first captured xs : List AV} {r : AV} (hg : guardA all { dst := some d, op := .call { callee := .value f, args, argTypes := ts }, type, pos, after, guard := g } F = some true) (hf : F.ev f = .fn (.func k) first captured)
    (has : first ++ evs F args.toList ++ captured = xs) (ha : xs.all AV.free = true) (he : cfg.eff k = false) (hH : (F.H.isEmpty || (xs.map strip).all (nohp 9)) = true) (hr : callQ cfg (evK cfg) k (xs.map strip) = some r) (h64 : Nat.ble (sizeR r) 64 = true) (hd : Nat.blt d F.n = true)
    (h : Ow cfg false ds all rest (lab + 64) { F with t := upd F.t d (adoptR lab r), al := markR lab F.al r } Q) : Ow cfg false ds all ({ dst := some d, op := .call { callee := .value f, args, argTypes := ts }, type, pos, after, guard := g } :: rest) lab F Q := by
  have hd' : d < F.n := by simpa using hd
  have h64' : sizeR r ≤ 64 := by simpa using h64
  subst has
  exact ow_cons (w := true) hg (fun _ => ⟨_, by simp only [opRun, allocH, opRunV, hf, target, ha, he, hr, Bool.false_and, Bool.not_false, Bool.true_and, hH, h64', if_true, Bool.false_eq_true, if_false, Option.bind_some, St.putAl, St.put, hd'], h⟩) (fun h => by cases h)
theorem ow_callDG {f : Operand} {args : Array Operand} {ts : Array TypeId} {k : Nat} {first captured xs : List AV} {r : AV} (hg : guardA all { dst := some d, op := .call { callee := .value f, args, argTypes := ts }, type, pos, after, guard := g } F = some true) (hf : F.ev f = .fn (.func k) first captured)
    (has : first ++ evs F args.toList ++ captured = xs) (ha : xs.all AV.free = true) (he : cfg.eff k = false) (hH : ((!(true && blind ds) && F.H.isEmpty) || (xs.map strip).all (nohp 9)) = true) (hr : callQ cfg (evK cfg) k (xs.map strip) = some r) (h64 : Nat.ble (sizeR r) 64 = true) (hd : Nat.blt d F.n = true)
    (h : Ow cfg true ds all rest (lab + 64) { F with t := upd F.t d (adoptR lab r), al := markR lab F.al r } Q) : Ow cfg true ds all ({ dst := some d, op := .call { callee := .value f, args, argTypes := ts }, type, pos, after, guard := g } :: rest) lab F Q := by
  have hd' : d < F.n := by simpa using hd
  have h64' : sizeR r ≤ 64 := by simpa using h64
  subst has
  exact ow_cons (w := true) hg (fun _ => ⟨_, by simp only [opRun, allocH, opRunV, hf, target, ha, he, hr, hH, h64', if_true, Bool.false_eq_true, if_false, Option.bind_some, St.putAl, St.put, hd'], h⟩) (fun h => by cases h)
/-- A call that turns the heap. -/
theorem ow_callEG {f : Operand} {args : Array Operand} {ts : Array TypeId} {k : Nat} {first captured xs : List AV} {r : AV} {H' : List (List AV)} (hg : guardA all { dst := some d, op := .call { callee := .value f, args, argTypes := ts }, type, pos, after, guard := g } F = some true) (hf : F.ev f = .fn (.func k) first captured)
    (has : first ++ evs F args.toList ++ captured = xs) (ha : xs.all AV.free = true) (he : cfg.eff k = true) (hr : evK cfg k (xs.map strip) F.H = some (r, H')) (h64 : Nat.ble (sizeR r) 64 = true) (hd : Nat.blt d F.n = true)
    (h : Ow cfg false ds all rest (lab + 64) { F with t := upd F.t d (adoptR lab r), al := markR lab F.al r, H := H' } Q) : Ow cfg false ds all ({ dst := some d, op := .call { callee := .value f, args, argTypes := ts }, type, pos, after, guard := g } :: rest) lab F Q := by
  have hd' : d < F.n := by simpa using hd
  have h64' : sizeR r ≤ 64 := by simpa using h64
  subst has
  exact ow_cons (w := true) hg (fun _ => ⟨_, by simp only [opRun, allocH, opRunV, hf, target, ha, he, hr, h64', if_true, Bool.false_eq_true, if_false, Option.bind_some, St.putAl, St.put, hd'], h⟩) (fun h => by cases h)
end
section
variable {P : Program} {F : St} {lab : Nat} {t e : TypeId} {sz by_ : Nat} {x : AV} {xt : Option TypeId} {rows ys : List (List AV)} {z : List AV}
/-- An append to a slice without spare room. -/
theorem append_full (he : tel P t = some e) (hs : tsz P e = some sz) (hb : tby P e = some by_) (hx : srcRows P F xt x = some ys) (h1 : ∀ r ∈ rows, r.length = sz) (h2 : ∀ r ∈ ys, r.length = sz) (hpos : 0 < sz) (hlen : (rows.length + ys.length) * by_ ≤ 35184372088832) (hlen' : rows.length + ys.length ≤ 4611686018427387904) (hby : 0 < by_)
    (hz : tzero P e = some z) (hzl : z.length = sz) (hne : ys ≠ []) {nl : Bool} : appendA P F lab t (.slice rows nl .full) x xt = some (.slice (rows ++ ys) false (.id lab), upd F.al lab true) := by
  unfold appendA
  simp only [he, hs, hb, hx, hz]
  have h1' : (rows.all fun r => r.length == sz) = true := List.all_eq_true.2 fun r hr => by simp [h1 r hr]
  have h2' : (ys.all fun r => r.length == sz) = true := List.all_eq_true.2 fun r hr => by simp [h2 r hr]
  have h3 : ys.isEmpty = false := by cases ys <;> simp_all
  simp [h1', h2', hpos, hlen, hlen', hby, hzl, h3]
/-- An append to a row of the frame's own. -/
theorem append_id (he : tel P t = some e) (hs : tsz P e = some sz) (hb : tby P e = some by_) (hx : srcRows P F xt x = some ys) (h1 : ∀ r ∈ rows, r.length = sz) (h2 : ∀ r ∈ ys, r.length = sz) (hpos : 0 < sz) (hlen : (rows.length + ys.length) * by_ ≤ 35184372088832) (hlen' : rows.length + ys.length ≤ 4611686018427387904) (hby : 0 < by_)
    (hz : tzero P e = some z) (hzl : z.length = sz) (hne : ys ≠ []) {nl : Bool} {n : Nat} (hal : F.al n = true) : appendA P F lab t (.slice rows nl (.id n)) x xt = some (.slice (rows ++ ys) false (.id lab), upd (upd F.al n false) lab true) := by
  unfold appendA
  simp only [he, hs, hb, hx, hz]
  have h1' : (rows.all fun r => r.length == sz) = true := List.all_eq_true.2 fun r hr => by simp [h1 r hr]
  have h2' : (ys.all fun r => r.length == sz) = true := List.all_eq_true.2 fun r hr => by simp [h2 r hr]
  have h3 : ys.isEmpty = false := by cases ys <;> simp_all
  simp [h1', h2', hpos, hlen, hlen', hby, hzl, h3, hal]
end
end Go.Proofs.V

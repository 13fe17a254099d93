/- scan.Scan at the seat of chapter 10: its contract, and its residual program. -/
import Derived.Test.YtckammfgogiplaaGreatDoorK35
import Derived.Test.YtckammfgogiplaaGreatDoorK28
namespace Go.Proofs.W.Q10
open Go Go.Proofs Go.Proofs.V Go.Proofs.V.U10 Go.Proofs.W.Q9
set_option linter.unusedVariables false
set_option linter.unusedSimpArgs false
set_option maxRecDepth 100000
noncomputable def bodyOf (f : Go.Func) : Go.Code := f.body.getD .skip
noncomputable def ig9 : IG := match bodyOf Tryz.f99 with
  | .block i0 (.loop (.seq A (.block i1 (.seq B (.seq C (.seq (.region id ops _) (.cond (.tmp dn) _ _))))))) => match ops.toList with
    | [om, p1, p2, oy, on] => ⟨99, i0, i1, id, 92, dn, 89, 90, 91, A, B, C, ops, om, [p1, p2], oy, on⟩
    | _ => ⟨0, 0, 0, 0, 0, 0, 0, 0, 0, .skip, .skip, .skip, #[], default, [], default, default⟩
  | _ => ⟨0, 0, 0, 0, 0, 0, 0, 0, 0, .skip, .skip, .skip, #[], default, [], default, default⟩
noncomputable def rf9 : RF := match bodyOf Tryz.f32 with
  | .seq r0 (.seq c1 (.seq r3 (.seq r4 (.seq (.seq r5 (.block b0 (.rangeFunc (.tmp tg) _ assign body))) (.seq c15 (.seq r17 _)))))) => ⟨32, [r0, c1, r3, r4], r5, b0, tg, 99, 24, 25, assign, body, [c15, r17]⟩
  | _ => ⟨0, [], .skip, 0, 0, 0, 0, 0, .skip, .skip, []⟩
def h9 : List HE := [.box 5 [.c (.int .i64)], .box 6 [.c (.sl (.cons .str (.cons .bool (.cons .str (.cons (.int .i64) (.one (.int .i64)))))))], .box 7 [.c (.sl (.one .str))], .box 8 [.c (.int .i64)], .box 9 [.fr (.cons .str (.cons .bool (.cons .str (.cons (.int .i64) (.one (.int .i64))))))], .box 10 [.fr (.one .str)]]
def rg9 : RG := ⟨0, 1, 21, 22, h9⟩
/-- The iterator. -/
theorem both_ok {cs0 cs1 : List AV} {xs : List (AV × AV)} (h : itIter (τ := tau9) both_step cs0 cs1 = some xs) : IterOk Tryz.prog 99 cs0 cs1 xs :=
  iter_typed (W := ⟨real, Tryz.prog, fun g => g == 64, dsOf c0, []⟩) (cfg := c0) (H := ⟨[], [], 94, []⟩) ⟨rfl, rfl, rfl, rfl, nilT⟩ mixed ext0 (fn := Tryz.f99) (g := ig9) (τ := tau9) (ty := 4) (tys := #[34, 34]) both_step 80 Tryz.func99 (by kernel_rfl) (by kernel_rfl) (by kernel_rfl) (fun t => by kernel_rfl) (by kernel_rfl) (by kernel_rfl) (by kernel_rfl) (by kernel_rfl) (by kernel_rfl) (by kernel_rfl) (by kernel_rfl)
    rfl rfl rfl rfl (fun l0 l1 => by kernel_rfl) h
/-- The call that makes the closure. -/
def R5G (F : St) (rows0 rows1 : List (List AV)) (nl0 nl1 : Bool) : Prop := ∃ F5 o0' o1', evC c0 rf9.r5 F = some (.normal, F5) ∧ F5.n = F.n ∧ F5.m = F.m ∧ F5.al = F.al ∧ F.c ≤ F5.c ∧ F5.H = [[.slice rows0 nl0 o0'], [.slice rows1 nl1 o1']] ∧ F5.ev (.tmp 23) = .fn (.func 99) [] [.hp 0 0, .hp 1 0] ∧
    (∀ i, i ≠ 21 → i ≠ 22 → i ≠ 23 → F5.t i = F.t i) ∧ (∃ o, F5.t 21 = .slice rows0 nl0 o) ∧ (∃ o, F5.t 22 = .slice rows1 nl1 o)
theorem r5_key {F : St} {rows0 rows1 : List (List AV)} {nl0 nl1 : Bool} (o0' o1' p0 p1 : V.Own) (h : (evN c0 60).1 rf9.r5 F = some (.normal, ⟨F.n, upd (upd (upd F.t 21 (.slice rows0 nl0 p0)) 22 (.slice rows1 nl1 p1)) 23 (.fn (.func 99) [] [.hp 0 0, .hp 1 0]), F.c + 192, fun n => F.al n || false, [[.slice rows0 nl0 o0'], [.slice rows1 nl1 o1']], F.m⟩)) : R5G F rows0 rows1 nl0 nl1 :=
  ⟨_, o0', o1', evC_some.2 ⟨60, h⟩, rfl, rfl, funext fun n => Bool.or_false _, Nat.le_add_right _ _, rfl, rfl, fun i h1 h2 h3 => by simp only [upd_apply, h1, h2, h3, if_false], ⟨p0, rfl⟩, ⟨p1, rfl⟩⟩
theorem r5_run (rows0 rows1 : List (List AV)) (nl0 nl1 : Bool) (o0 o1 : V.Own) (t : Nat → AV) (c : Nat) (al : Nat → Bool) (m : TypeId → Bool) : R5G ⟨58, updL [(0, .slice rows0 nl0 o0), (1, .slice rows1 nl1 o1)] t, c, al, [], m⟩ rows0 rows1 nl0 nl1 := by
  cases o0 with
  | no => cases o1 with
    | no => exact r5_key .no .no .no .no (by kernel_rfl)
    | full => exact r5_key .no .full .no .full (by kernel_rfl)
    | fresh => exact r5_key .no .no .no .fresh (by kernel_rfl)
    | id k => exact r5_key .no .no .no (.id k) (by kernel_rfl)
  | full => cases o1 with
    | no => exact r5_key .full .no .full .no (by kernel_rfl)
    | full => exact r5_key .full .full .full .full (by kernel_rfl)
    | fresh => exact r5_key .full .no .full .fresh (by kernel_rfl)
    | id k => exact r5_key .full .no .full (.id k) (by kernel_rfl)
  | fresh => cases o1 with
    | no => exact r5_key .no .no .fresh .no (by kernel_rfl)
    | full => exact r5_key .no .full .fresh .full (by kernel_rfl)
    | fresh => exact r5_key .no .no .fresh .fresh (by kernel_rfl)
    | id k => exact r5_key .no .no .fresh (.id k) (by kernel_rfl)
  | id j => cases o1 with
    | no => exact r5_key .no .no (.id j) .no (by kernel_rfl)
    | full => exact r5_key .no .full (.id j) .full (by kernel_rfl)
    | fresh => exact r5_key .no .no (.id j) .fresh (by kernel_rfl)
    | id k => exact r5_key .no .no (.id j) (.id k) (by kernel_rfl)
theorem tg9 : rf9.tg = 23 := by kernel_rfl
theorem gf9 : rf9.gf = 99 := by kernel_rfl
theorem f9 : rf9.f = 32 := by kernel_rfl
theorem updL2 (t : Nat → AV) {A B : AV} (h0 : t 0 = A) (h1 : t 1 = B) : updL [(0, A), (1, B)] t = t := by
  funext i
  simp only [updL]
  by_cases e0 : i = 0
  · subst e0; simp [upd_apply, h0]
  · by_cases e1 : i = 1
    · subst e1; simp [upd_apply, h1]
    · simp [upd_apply, e0, e1]
theorem r5_ok : R5Ok c0 58 rf9 rg9 := ⟨fun F rows0 rows1 nl0 nl1 o0 o1 hn hH ha hb => by
  obtain ⟨n, t, c, al, H, m⟩ := F
  have hn : n = 58 := hn
  have hH : H = [] := hH
  subst hn hH
  have e := updL2 t (show t 0 = _ from ha) (show t 1 = _ from hb)
  have := r5_run rows0 rows1 nl0 nl1 o0 o1 t c al m
  rw [e] at this
  rw [tg9, gf9]
  exact this⟩
noncomputable def scanExt : List AV → Option AV := rfRun c0 Tryz.f32 rf9 (itIter (τ := tau9) both_step)
theorem scan_csound {xs : List AV} {r : AV} (hr : scanExt xs = some r) : CSound Tryz.prog 32 xs [] r [] := by
  have h := rf_sound (cfg := c0) mixed ext0 (fn := Tryz.f32) (gfn := Tryz.f99) (R := rf9) (iter := itIter (τ := tau9) both_step) (by rw [f9]; exact Tryz.func32) (by kernel_rfl) (by kernel_rfl) (by rw [gf9]; exact Tryz.func99) (by kernel_rfl) (by kernel_rfl) (by kernel_rfl) (fun cs0 cs1 xs h => by rw [gf9]; exact both_ok h) hr
  rw [f9] at h
  exact h
/-- What stands for the walked functions, and for Scan. -/
noncomputable def z2 : Nat → Option (List AV → Option AV) := fun f => if f = 13 then some mergeExt else if f = 22 then some settleExt else if f = 46 then some concatExt else if f = 32 then some scanExt else none
theorem zok2 : ZOk z2 := ⟨rfl, rfl, rfl⟩
theorem z2_ok : ∀ g s xs r, z2 g = some s → s xs = some r → CSound Tryz.prog g xs [] r [] := by
  intro g s xs r hg hs
  unfold z2 at hg
  split at hg
  · rename_i h; subst h; cases hg; exact merge_csound hs
  · split at hg
    · rename_i h; subst h; cases hg; exact settle_csound hs
    · split at hg
      · rename_i h; subst h; cases hg; exact concat_csound hs
      · split at hg
        · rename_i h; subst h; cases hg; exact scan_csound hs
        · cases hg
noncomputable abbrev cfg2 : Cfg := cfgZ z2
theorem ext2 : ∀ g s xs r, cfg2.ext g = some s → s xs = some r → CSound cfg2.P g xs [] r [] := ext_ok z2_ok
theorem it_hit : ∀ (l0 : List (Tr tau9.q0)) (l1 : List (Tr tau9.q1)) xs rows0 rows1 nl0 nl1 o0 o1, itRun (τ := tau9) both_step l0 l1 = some xs → (All2 (rowR tau9.q0) l0 rows0 ∧ (nl0 = true → rows0 = [])) → (All2 (rowR tau9.q1) l1 rows1 ∧ (nl1 = true → rows1 = [])) → itIter (τ := tau9) both_step [.slice rows0 nl0 o0] [.slice rows1 nl1 o1] = some (xs.map (enc2 tau9.r1 tau9.r2)) := by
  intro l0 l1 xs rows0 rows1 nl0 nl1 o0 o1 h h0 h1
  have hc : ((!nl0 || rows0.isEmpty) && (!nl1 || rows1.isEmpty)) = true := by
    simp only [Bool.and_eq_true, Bool.or_eq_true, Bool.not_eq_true', List.isEmpty_iff]
    refine ⟨?_, ?_⟩
    · cases nl0 with
      | false => exact .inl rfl
      | true => exact .inr (h0.2 rfl)
    · cases nl1 with
      | false => exact .inl rfl
      | true => exact .inr (h1.2 rfl)
  simp only [itIter, hc, if_true, decL_of tau9.q0 rfl l0 rows0 h0.1, decL_of tau9.q1 rfl l1 rows1 h1.1, h, Option.map_some]
theorem s_scan_Scan : FSound cfg2 ⟨⟨32, [.c (.sl (.cons .str (.cons .bool (.cons .str (.cons (.int .i64) (.one (.int .i64))))))), .c (.sl (.cons .str (.one .str))), .c (.int .i64)], [.c (.sl (.cons .str (.cons .bool (.cons .str (.cons (.int .i64) (.one (.int .i64))))))), .c (.sl (.one .str)), .c (.int .i64)]⟩, Q9.scan_Scan⟩ := by
  have h := rf_fsound (W := ⟨real, Tryz.prog, fun g => g == 64, dsOf c0, [⟨⟨25, [.c (.sl (.cons .str (.cons .bool (.cons .str (.cons (.int .i64) (.one (.int .i64)))))))], [.c .bool]⟩, scan_Right⟩, ⟨⟨44, [.c (.sl (.cons .str (.one .str)))], [.c .bool]⟩, tree_Right⟩, ⟨⟨55, [.agg [.c (.int .i64), .c (.int .i64)]], [.c (.cx .f64)]⟩, clock_Of⟩, ⟨⟨54, [.c (.cx .f64), .c (.int .i64)], [.c (.cx .f64)]⟩, clock_Tick⟩, ⟨⟨53, [.c (.cx .f64)], [.agg [.c (.int .i64), .c (.int .i64)]]⟩, clock_Pair⟩]⟩) (cfg0 := c0) (cfg := cfg2) (H := ⟨[], [], 58, []⟩)
    ⟨rfl, rfl, rfl, rfl, consT s_scan_Right (consT s_tree_Right (consT s_clock_Of (consT s_clock_Tick (consT s_clock_Pair nilT))))⟩ (fn := Tryz.f32) (R := rf9) (g := rg9) (τ := tau9) (IT := itRun (τ := tau9) both_step) (iter := itIter (τ := tau9) both_step)
    (a := [.c (.sl (.cons .str (.cons .bool (.cons .str (.cons (.int .i64) (.one (.int .i64))))))), .c (.sl (.cons .str (.one .str))), .c (.int .i64)]) (rs := [.c (.sl (.cons .str (.cons .bool (.cons .str (.cons (.int .i64) (.one (.int .i64))))))), .c (.sl (.one .str)), .c (.int .i64)])
    scan_Scan 80 (by rw [f9]; rfl) (by kernel_rfl) (by kernel_rfl) (fun t => by rw [f9]; rfl) (by kernel_rfl) rfl rfl r5_ok it_hit (fun x => by kernel_rfl)
  rw [f9] at h
  exact h
end Go.Proofs.W.Q10

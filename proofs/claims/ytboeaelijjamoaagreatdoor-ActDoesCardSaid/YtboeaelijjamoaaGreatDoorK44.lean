/- The document's Put: walked where the path stands already; as an outside function. -/
import Derived.Test.YtboeaelijjamoaaGreatDoorK43
namespace Go.Proofs.V.R11
open Go Go.Proofs Go.RowKit Go.Lib Go.Proofs.V Go.Proofs.W Go.Proofs.W.C Go.Proofs.V.U11
set_option linter.unusedVariables false
set_option linter.unusedSimpArgs false
set_option maxRecDepth 100000
theorem refRight_calls {w : World} {v : Value} {t : List Fi} {r : Bool} (hs : SlR reF w v t) (hr : Q10.ref04_Right t = some r) : Calls Tryz.prog 23 #[v] w fun e w' => e = .returned (.bool r) ∧ Below w.heap.size w w' :=
  (calls1 (vs := [v]) ok0 rfl (Q11.s_ref04_Right (z := fun _ => none)) hr (args1 (c := .sl reF) rfl hs) Tryz.func23 rfl (by kernel_rfl)).mono fun e w' ⟨u, h1, h2, h3⟩ => ⟨by rw [h1, bool_of h3], h2⟩
theorem ref3Right_calls {w : World} {p : List UInt8} {r : Bool} (hr : Q10.ref03_Right p = some r) : Calls Tryz.prog 39 #[.string ⟨⟨p⟩⟩] w fun e w' => e = .returned (.bool r) ∧ Below w.heap.size w w' :=
  (calls1 (vs := [.string ⟨⟨p⟩⟩]) ok0 rfl (Q11.s_ref03_Right (z := fun _ => none)) hr (args1 (c := .str) rfl rfl) Tryz.func39 rfl (by kernel_rfl)).mono fun e w' ⟨u, h1, h2, h3⟩ => ⟨by rw [h1, bool_of h3], h2⟩
theorem under_calls {w : World} {p q : List UInt8} {r : Bool} (hr : Q10.ref03_Under (p, q) = some r) : Calls Tryz.prog 40 #[.string ⟨⟨p⟩⟩, .string ⟨⟨q⟩⟩] w fun e w' => e = .returned (.bool r) ∧ Below w.heap.size w w' :=
  (calls1 (vs := [.string ⟨⟨p⟩⟩, .string ⟨⟨q⟩⟩]) ok0 rfl (Q11.s_ref03_Under (z := fun _ => none)) hr (args2 (c1 := .str) (c2 := .str) rfl rfl rfl rfl) Tryz.func40 rfl (by kernel_rfl)).mono fun e w' ⟨u, h1, h2, h3⟩ => ⟨by rw [h1, bool_of h3], h2⟩
theorem find_calls {w : World} {v : Value} {t : List Fi} {p : List UInt8} {r : Int} (hs : SlR reF w v t) (hr : Q10.ref04_find (t, p) = some r) : Calls Tryz.prog 41 #[v, .string ⟨⟨p⟩⟩] w fun e w' => e = .returned (.int .i64 r) ∧ Below w.heap.size w w' :=
  (calls1 (vs := [v, .string ⟨⟨p⟩⟩]) ok0 rfl (Q11.s_ref04_find (z := fun _ => none)) hr (args2 (c1 := .sl reF) (c2 := .str) rfl rfl hs rfl) Tryz.func41 rfl (by kernel_rfl)).mono fun e w' ⟨u, h1, h2, h3⟩ => ⟨by rw [h1, show u = .int .i64 r from h3], h2⟩
theorem set_cell1 {t : List Fi} {k : Nat} (hk : k < t.length) (d : List UInt8) : (t.flatMap cellsF).set (k * 2 + 1) (.string ⟨⟨d⟩⟩) = (t.set k (t[k].1, d)).flatMap cellsF := by
  rw [← set_cells t k (t[k].1, d) hk]
  congr 1
  have h := kF.at t k 0 t[k] (.string ⟨⟨t[k].1⟩⟩) (List.getElem?_eq_getElem hk) rfl
  rw [Nat.add_zero] at h
  obtain ⟨hl, he⟩ := List.getElem?_eq_some_iff.1 h
  rw [← he]
  exact (List.set_getElem_self hl).symm
set_option maxHeartbeats 1600000 in
theorem putF_calls {w : World} {b off ca : Nat} {t : List Fi} {p d : List UInt8} {k : Nat} (st : SlR reF w (.slice (some ⟨b, off, none⟩) t.length ca) t) (hcells : ∀ j u, (t.flatMap cellsF)[j]? = some u → w.cell? ⟨b, off + j, none⟩ = some u) (hca : t.length ≤ ca) (hr : Q10.ref04_Right t = some true) (hp : Q10.ref03_Right p = some true)
    (hu : ∀ g ∈ t, Q10.ref03_Under (p, g.1) = some false ∧ Q10.ref03_Under (g.1, p) = some false) (hf : Q10.ref04_find (t, p) = some (k : Int)) (hk : k < t.length) (hn : t.length ≤ 1000) (hd : d.length ≤ 600) :
    Calls Tryz.prog 25 #[.slice (some ⟨b, off, none⟩) t.length ca, .string ⟨⟨p⟩⟩, .string ⟨⟨d⟩⟩] w fun e w' => ∃ v', e = .returned (.tuple #[v', .int .i64 0]) ∧ Below w.heap.size w w' ∧ w'.ownsRow w.heap.size 38 2 v' (t.set k (t[k].1, d)).length ((t.set k (t[k].1, d)).flatMap cellsF) := by
  obtain ⟨i0, hi0, hz0, hzs, hzb⟩ := info_parts info54
  have i1 : (0 : Int) ≤ (k : Int) := by omega
  have i2 : (k : Int) < (t.length : Int) := by omega
  have i3 : ¬ (600 : Int) < (d.length : Int) := by omega
  have i4 : ¬ (k : Int) < 0 := by omega
  go_enter Tryz.func25, Tryz.ntmps25
  go_wp2_with (first
    | (go_at_call 23; refine (refRight_calls st hr).mono ?_; rintro e w1 ⟨rfl, hb1⟩)
    | (go_at_call 39; refine (ref3Right_calls hp).mono ?_; rintro e w2 ⟨rfl, hb2⟩))
  have hb12 := hb1.trans (hb2.mono hb1.size)
  go_loopw [9] (fun c wr => ∃ i : Nat, i ≤ t.length ∧ c = .int .i64 i ∧ Below w.heap.size w wr)
    (fun c _ => t.length - (RowKit.intOf c).toNat)
  case atStart => exact ⟨0, Nat.zero_le _, rfl, hb12⟩
  case round =>
    obtain ⟨i, hi, rfl, hbr⟩ := hrel
    by_cases hlt : i < t.length
    · have hle := List.getElem?_eq_getElem hlt
      have r0 := hcells _ _ (kF.at t i 0 t[i] (.string ⟨⟨t[i].1⟩⟩) hle rfl)
      rw [Nat.add_zero] at r0
      have r0 := (hbr.cell (World.block_lt_of_cell? w _ r0)).trans r0
      obtain ⟨u1, u2⟩ := hu t[i] (List.getElem_mem hlt)
      generalize t[i].1 = q at r0 u1 u2
      have both : ∀ a b : List UInt8, (a = p ∧ b = q ∨ a = q ∧ b = p) → Q10.ref03_Under (a, b) = some false := by
        rintro a b (⟨rfl, rfl⟩ | ⟨rfl, rfl⟩) <;> assumption
      go_wp2_with (first
        | (go_at_call 40; refine (under_calls (both _ _ (by first | exact .inl ⟨rfl, rfl⟩ | exact .inr ⟨rfl, rfl⟩))).mono ?_; rintro e w5 ⟨rfl, hb5⟩; have r0 := keep_cell hb5 r0; have hbr := hbr.trans (hb5.mono hbr.size)))
      exact ⟨⟨i + 1, by omega, by go_num, hbr⟩, by simp [RowKit.intOf]; omega⟩
    · have hik : i = t.length := by omega
      subst hik
      clear hb12 hb2 hb1
      go_wp2_with (first
        | (go_at_call 41; refine (find_calls (st.below hbr) hf).mono ?_; rintro e w5 ⟨rfl, hb5⟩; have hbr5 := hbr.trans (hb5.mono hbr.size))
        | (at_builtin; refine wpList_append_own _ rfl _ _ 22 rfl w5.heap.size 38 i0 _ 2 32 Tryz.underlying22 hi0 hz0 hzs hzb rfl (by decide) (.slice (some ⟨w5.heap.size, 0, none⟩) 0 0) 0 [] rfl (World.ownsRow_made w5 #[] 0 (Nat.le_refl _) (Nat.zero_le _) rfl) ⟨b, off, none⟩ t.length ca (t.flatMap cellsF) rfl (kF.flen t) (fun j u hj => by rw [Addr.add_lit]; exact Lib.cell?_alloc_some _ (keep_cell hbr5 (hcells j u hj))) (oneF t) (by unfold maxLen; omega) (by omega) (by simp) (fun v7 w7 hown7 hgr7 hnil7 => ?_)
           have hb7 := (hbr5.alloc hbr5.size (.cells #[] 38)).grown hgr7 (by have := hbr5.size; simp; omega) (fun j hj => by have h1 : some w5.heap.size = some j := hj; cases h1; exact hbr5.size)
           have hown := hown7
           simp only [Nat.zero_add, List.nil_append] at hown
           obtain ⟨ac, cv, rfl, hac⟩ := own_form hown
           obtain ⟨g, rfl⟩ := hac (by omega)
           have hxl := hown.1
           have e1 : w7.cell? ⟨g, k * 2 + 1, none⟩ = some (t.flatMap cellsF)[k * 2 + 1] := (hown.cellAt (k * 2 + 1) (by omega)).trans (List.getElem?_eq_getElem (by omega))
           have z1 : w7.frozen? ⟨g, k * 2 + 1, none⟩ = false := hown.frozenAt _))
      go_ret2
      have hgb : w.heap.size ≤ g := Nat.le_trans hbr5.size (hown.lt g rfl).1
      refine ⟨_, rfl, hb7.setCell hgb _, ?_⟩
      have h1 := (hown.stored (k * 2 + 1) (.string ⟨⟨d⟩⟩)).1
      rw [set_cell1 hk d] at h1
      exact own_base h1 hbr5.size
end Go.Proofs.V.R11
namespace Go.Proofs.W.Q11
open Go Go.Proofs Go.Proofs.V Go.Proofs.V.U11 Go.Proofs.V.R11 Go.Proofs.W Go.Proofs.W.C Go.RowKit
set_option linter.unusedVariables false
set_option linter.unusedSimpArgs false
abbrev sigP : List SV := [.c (.sl reF), .c .str, .c .str]
abbrev resP : List SV := [.c (.sl reF), .c (.int .i64)]
def outP (_ : List AV) (y : List Fi × Int) : AV := .tup [outS reF y.1, .at (.int .i64 y.2)]
open Classical in
/-- What stands for ref04.Put. -/
noncomputable def putExt (xs : List AV) : Option AV :=
  if ∃ (x : Tl (dynL sigP)) (y : Tl (dynL resP)), ArgR sigP x xs ∧ ref04_PutW x = some y then callQ (cfgZ zS) (evK (cfgZ zS)) 25 xs else wExt sigP resP ref04_PutF outP xs
theorem csound_nil {xs : List AV} {rv : AV} (h : callQ (cfgZ zS) (evK (cfgZ zS)) 25 xs = some rv) : CSound Tryz.prog 25 xs [] rv [] := by
  unfold callQ at h
  have he : (cfgZ zS).ext 25 = none := by kernel_rfl
  rw [he] at h
  cases hk : evK (cfgZ zS) 25 xs [] with
  | none => rw [hk] at h; cases h
  | some p =>
    rw [hk] at h
    obtain ⟨r, H'⟩ := p
    dsimp only at h
    split at h
    · rename_i hc
      cases h
      have hs := evK_sound okS.mixed okS.ext hk
      intro w S E vs hp hni hl hR
      have hE : E = noE := funext fun l => by
        cases hl' : E l with
        | none => rfl
        | some b => have := hp.eH l b hl'; simp at this
      subst hE
      rcases hs w S noE vs hp hni hl hR with ⟨v, w', h1, S', E', φ, h2⟩ | ⟨h1, h2⟩
      · exact .inl ⟨v, w', h1, S', noE, φ, h2.drop (by simpa using hc)⟩
      · refine .inr ⟨h1, fun n => (h2 n).mono fun e w' he => ?_⟩
        obtain ⟨v, rfl, S', E', φ, h3⟩ := he
        exact ⟨v, rfl, S', noE, φ, h3.drop (by simpa using hc)⟩
    · cases h
theorem put_csound {xs : List AV} {rv : AV} (h : putExt xs = some rv) : CSound Tryz.prog 25 xs [] rv [] := by
  unfold putExt at h
  split at h
  · exact csound_nil h
  · refine wExt_csound (a := sigP) (rs := resP) (F := ref04_PutF) (out := outP) Tryz.func25 rfl (by kernel_rfl) (fun _ y => noSI y) ?_ h
    intro x y xs w E vs ha hF hl hR
    obtain ⟨v1, v2, v3, rfl, s1, s2, s3⟩ := at3 (c1 := .sl reF) (c2 := .str) (c3 := .str) rfl rfl rfl ha hl hR
    obtain ⟨t, p, d⟩ := x
    have s1 : SlR reF w v1 t := s1
    cases s2
    cases s3
    have hF : ref04_PutF (t, (p, d)) = some y := hF
    unfold ref04_PutF at hF
    dsimp only at hF
    split at hF
    · rename_i k hk
      split at hF
      · rename_i hc
        obtain ⟨⟨c1, c2, c3⟩, k0, c5, c6, c7⟩ := hc
        cases hF
        obtain ⟨k, rfl⟩ := Int.eq_ofNat_of_zero_le k0
        have c7 : k < t.length := c7
        rcases slR_form kF s1 with ⟨rfl, rfl⟩ | ⟨b, off, cap, rfl, hca, hcells⟩
        · simp at c7
        · refine (putF_calls s1 hcells hca c1 c2 c3 hk c7 c5 c6).mono ?_
          rintro e w' ⟨v', rfl, hb, hown⟩
          refine ⟨_, rfl, hb, .tup _ [v', .int .i64 0] rfl fun j x u hx hu => ?_⟩
          match j with
          | 0 =>
            cases hx; cases hu
            refine new_cells kF (Nat.le_refl _) hown (fun e => ?_) E
            have := congrArg List.length e
            simp at this
            subst this
            simp at c7
          | 1 => cases hx; cases hu; exact .at _
          | j + 2 => simp at hx
      · cases hF
    · cases hF
variable {z : Nat → Option (List AV → Option AV)}
theorem s_ref04_Put (hr : z 25 = some putExt) : FSound (cfgZ z) ⟨⟨25, sigP, resP⟩, ref04_Put⟩ := by
  intro x y hxy xs ha
  have he : (cfgZ z).ext 25 = some putExt := hr
  have hxy : ref04_Put x = some y := hxy
  unfold callQ
  rw [he]
  show ∃ rv, putExt xs = some rv ∧ ResR resP y rv
  unfold ref04_Put at hxy
  unfold putExt
  cases hw : ref04_PutW x with
  | some y' =>
    rw [hw] at hxy
    cases hxy
    rw [if_pos ⟨x, y, ha, hw⟩]
    exact s_ref04_PutW x y hw xs ha
  | none =>
    rw [hw] at hxy
    rw [if_neg (by
      rintro ⟨x', y', ha', hw'⟩
      rw [inj3 x' x xs ha' ha, hw] at hw'
      cases hw')]
    exact ⟨_, wExt_at inj3 ha hxy, resSI rfl .i64 y⟩
/-- What stands for all of them. -/
noncomputable def zT (n : Nat) : Option (List AV → Option AV) := if n = 25 then some putExt else zS n
theorem zT_ok : ZOk zT := ⟨rfl, rfl, rfl, rfl⟩
theorem zT_put : zT 25 = some putExt := rfl
theorem okT : C.Ok (cfgZ zT) := ⟨mixed, ext_ok fun g s xs r hg hs => by
  unfold zT at hg
  split at hg
  · rename_i h; subst h; cases hg; exact put_csound hs
  · exact zS_sound g s xs r hg hs⟩
end Go.Proofs.W.Q11

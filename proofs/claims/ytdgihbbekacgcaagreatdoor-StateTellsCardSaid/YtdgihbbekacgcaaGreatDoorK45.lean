/- StateTells, whole; its arguments read. -/
import Derived.Test.YtdgihbbekacgcaaGreatDoorK43
import Derived.Test.YtdgihbbekacgcaaGreatDoorK44
namespace Go.Proofs.V.T17
open Go Go.Proofs Go.RowKit Go.Lib Go.Proofs.V Go.Proofs.V.L17 Go.Proofs.W Go.Proofs.W.C
set_option linter.unusedVariables false
set_option linter.unusedSimpArgs false
set_option maxRecDepth 100000
theorem tells_calls {w : World} {v1 v2 : Value} {s t : St} {n : Int} (hs : StR w v1 s) (ht : StR w v2 t) : Calls Tryz.prog 3 #[v1, v2, .int .i64 n] w fun e w' => e = .returned (.bool true) ∧ Below w.heap.size w w' := by
  obtain ⟨b, hb, hb'⟩ := Q17.few17_ok s
  obtain ⟨c, hc, hc'⟩ := Q17.few17_ok t
  cases b with
  | false => cases c with
    | false => exact tells_false_false hs ht hb hc
    | true => exact tells_false_true hs ht hb hc
  | true => cases c with
    | false => exact tells_true_false hs ht hb hc
    | true => exact tells_true hs ht hb hc (hb' rfl) (hc' rfl)
section
variable {H : Type} {enc : TypeId × Value → H} {W : World}
theorem zc3 : Tryz.prog.cellsOf 3 = 1 := by kernel_rfl
theorem zc4 : Tryz.prog.cellsOf 4 = 1 := by kernel_rfl
theorem zc9 : Tryz.prog.cellsOf 9 = 1 := by kernel_rfl
theorem zc22 : Tryz.prog.cellsOf 22 = 1 := by kernel_rfl
theorem zc23 : Tryz.prog.cellsOf 23 = 1 := by kernel_rfl
theorem zc25 : Tryz.prog.cellsOf 25 = 4 := by kernel_rfl
theorem zc26 : Tryz.prog.cellsOf 26 = 1 := by kernel_rfl
theorem zc27 : Tryz.prog.cellsOf 27 = 1 := by kernel_rfl
theorem zc28 : Tryz.prog.cellsOf 28 = 1 := by kernel_rfl
theorem zc30 : Tryz.prog.cellsOf 30 = 18 := by kernel_rfl
theorem zc38 : Tryz.prog.cellsOf 38 = 2 := by kernel_rfl
theorem zc40 : Tryz.prog.cellsOf 40 = 2 := by kernel_rfl
theorem zc42 : Tryz.prog.cellsOf 42 = 5 := by kernel_rfl
theorem zc44 : Tryz.prog.cellsOf 44 = 2 := by kernel_rfl
theorem rdI : ∀ (n : Nat) (cs : List Value) (x : DataW H × List MemPlace), Rd Tryz.prog enc W n 3 cs x → ∃ a : Tr tI, encR tI a = cs.map AV.at ∧ ∀ v ∈ cs, Value.one v = true := by
  intro n cs x h
  obtain ⟨a, rfl⟩ := elI Tryz.underlying3 h
  exact ⟨a, rfl, by simp [Value.one]⟩
theorem rdP : ∀ (n : Nat) (cs : List Value) (x : DataW H × List MemPlace), Rd Tryz.prog enc W n 9 cs x → ∃ a : Tr tP, encR tP a = cs.map AV.at ∧ ∀ v ∈ cs, Value.one v = true := by
  intro n cs x h
  obtain ⟨a, rfl⟩ := elS Tryz.underlying9 h
  exact ⟨a, rfl, by simp [Value.one]⟩
theorem rdF : ∀ (n : Nat) (cs : List Value) (x : DataW H × List MemPlace), Rd Tryz.prog enc W n 38 cs x → ∃ a : Tr tF, encR tF a = cs.map AV.at ∧ ∀ v ∈ cs, Value.one v = true := by
  intro n cs x h
  obtain ⟨hl, hf⟩ := elF Tryz.underlying38 h
  rw [zc38] at hl
  obtain ⟨a, l0_, rfl, h0_⟩ := cons_of hl
  obtain ⟨b, l1_, rfl, h1_⟩ := cons_of h0_
  obtain rfl := nil_of h1_
  obtain ⟨_, _, k0⟩ := fld hf 0 rfl (t := 9) rfl rfl zc9 rfl
  obtain ⟨_, _, k1⟩ := fld hf 1 rfl (t := 9) rfl rfl zc9 rfl
  obtain ⟨p, hp⟩ := elS Tryz.underlying9 k0
  obtain ⟨q, hq⟩ := elS Tryz.underlying9 k1
  simp at hp hq
  subst hp; subst hq
  exact ⟨(p, q), rfl, by simp [Value.one]⟩
theorem rdW : ∀ (n : Nat) (cs : List Value) (x : DataW H × List MemPlace), Rd Tryz.prog enc W n 44 cs x → ∃ a : Tr tW, encR tW a = cs.map AV.at ∧ ∀ v ∈ cs, Value.one v = true := by
  intro n cs x h
  obtain ⟨hl, hf⟩ := elF Tryz.underlying44 h
  rw [zc44] at hl
  obtain ⟨a, l0_, rfl, h0_⟩ := cons_of hl
  obtain ⟨b, l1_, rfl, h1_⟩ := cons_of h0_
  obtain rfl := nil_of h1_
  obtain ⟨_, _, k0⟩ := fld hf 0 rfl (t := 3) rfl rfl zc3 rfl
  obtain ⟨_, _, k1⟩ := fld hf 1 rfl (t := 9) rfl rfl zc9 rfl
  obtain ⟨p, hp⟩ := elI Tryz.underlying3 k0
  obtain ⟨q, hq⟩ := elS Tryz.underlying9 k1
  simp at hp hq
  subst hp; subst hq
  exact ⟨(p, q), rfl, by simp [Value.one]⟩
theorem rdE : ∀ (n : Nat) (cs : List Value) (x : DataW H × List MemPlace), Rd Tryz.prog enc W n 42 cs x → ∃ a : Tr tE, encR tE a = cs.map AV.at ∧ ∀ v ∈ cs, Value.one v = true := by
  intro n cs x h
  obtain ⟨hl, hf⟩ := elF Tryz.underlying42 h
  rw [zc42] at hl
  obtain ⟨a, l0_, rfl, h0_⟩ := cons_of hl
  obtain ⟨b, l1_, rfl, h1_⟩ := cons_of h0_
  obtain ⟨c, l2_, rfl, h2_⟩ := cons_of h1_
  obtain ⟨d, l3_, rfl, h3_⟩ := cons_of h2_
  obtain ⟨e, l4_, rfl, h4_⟩ := cons_of h3_
  obtain rfl := nil_of h4_
  obtain ⟨_, _, k0⟩ := fld hf 0 rfl (t := 9) rfl rfl zc9 rfl
  obtain ⟨_, _, k1⟩ := fld hf 1 rfl (t := 4) rfl rfl zc4 rfl
  obtain ⟨_, _, k2⟩ := fld hf 2 rfl (t := 9) rfl rfl zc9 rfl
  obtain ⟨_, _, k3⟩ := fld hf 3 rfl (t := 40) rfl rfl zc40 rfl
  obtain ⟨_, kf⟩ := elF Tryz.underlying40 k3
  obtain ⟨_, _, k4⟩ := fld kf 0 rfl (t := 3) rfl rfl zc3 rfl
  obtain ⟨_, _, k5⟩ := fld kf 1 rfl (t := 3) rfl rfl zc3 rfl
  obtain ⟨p, hp⟩ := elS Tryz.underlying9 k0
  obtain ⟨q, hq⟩ := elB Tryz.underlying4 k1
  obtain ⟨r, hr⟩ := elS Tryz.underlying9 k2
  obtain ⟨u, hu⟩ := elI Tryz.underlying3 k4
  obtain ⟨v, hv⟩ := elI Tryz.underlying3 k5
  simp at hp hq hr hu hv
  subst hp; subst hq; subst hr; subst hu; subst hv
  exact ⟨(p, q, r, u, v), rfl, by simp [Value.one]⟩
theorem open22 {base n : Nat} {v : Value} {x : DataW H × List MemPlace} (ho : Cell.okWide Tryz.prog W .any base 22 v) (h : Rd Tryz.prog enc W n 22 [v] x) : ∃ l : List (Tr tF), SlR tF W v l := by
  obtain ⟨l, nl, _, h2, h3⟩ := open_sl (W := W) (encR tF) Tryz.underlying22 zc38 (by decide) rdF (spot_of Tryz.underlying22 ho) h
  exact ⟨l, nl, h2, h3⟩
theorem open23 {base n : Nat} {v : Value} {x : DataW H × List MemPlace} (ho : Cell.okWide Tryz.prog W .any base 23 v) (h : Rd Tryz.prog enc W n 23 [v] x) : ∃ l : List (Tr tE), SlR tE W v l := by
  obtain ⟨l, nl, _, h2, h3⟩ := open_sl (W := W) (encR tE) Tryz.underlying23 zc42 (by decide) rdE (spot_of Tryz.underlying23 ho) h
  exact ⟨l, nl, h2, h3⟩
theorem open26 {base n : Nat} {v : Value} {x : DataW H × List MemPlace} (ho : Cell.okWide Tryz.prog W .any base 26 v) (h : Rd Tryz.prog enc W n 26 [v] x) : ∃ l : List (Tr tI), SlR tI W v l := by
  obtain ⟨l, nl, _, h2, h3⟩ := open_sl (W := W) (encR tI) Tryz.underlying26 zc3 (by decide) rdI (spot_of Tryz.underlying26 ho) h
  exact ⟨l, nl, h2, h3⟩
theorem open27 {base n : Nat} {v : Value} {x : DataW H × List MemPlace} (ho : Cell.okWide Tryz.prog W .any base 27 v) (h : Rd Tryz.prog enc W n 27 [v] x) : ∃ l : List (Tr tP), SlR tP W v l := by
  obtain ⟨l, nl, _, h2, h3⟩ := open_sl (W := W) (encR tP) Tryz.underlying27 zc9 (by decide) rdP (spot_of Tryz.underlying27 ho) h
  exact ⟨l, nl, h2, h3⟩
theorem open28 {base n : Nat} {v : Value} {x : DataW H × List MemPlace} (ho : Cell.okWide Tryz.prog W .any base 28 v) (h : Rd Tryz.prog enc W n 28 [v] x) : ∃ l : List (Tr tW), SlR tW W v l := by
  obtain ⟨l, nl, _, h2, h3⟩ := open_sl (W := W) (encR tW) Tryz.underlying28 zc44 (by decide) rdW (spot_of Tryz.underlying28 ho) h
  exact ⟨l, nl, h2, h3⟩
set_option maxHeartbeats 2000000 in
theorem open_st {base : Nat} {v : Value} {d : DataW H} {p : List MemPlace} (hval : Value.okWide Tryz.prog W .any base 30 v) (h : DataW.Trod enc Tryz.prog W 0 (fun _ => true) true 30 v d p) : ∃ s : St, StR W v s := by
  obtain ⟨n, h⟩ := h
  unfold Value.okWide at hval
  rw [Tryz.underlying30] at hval
  obtain ⟨cs, rfl, hsz, ts, hts, _, hcell⟩ := hval
  rw [show Tryz.prog.cellTypes Tryz.prog.depth 30 = some [3, 22, 23, 3, 3, 3, 3, 26, 23, 4, 3, 3, 3, 3, 23, 27, 28, 4] by kernel_rfl] at hts
  obtain rfl := Option.some.inj hts
  have h' : Rd Tryz.prog enc W n 30 cs.toList _ := h
  obtain ⟨hl, hf⟩ := elF Tryz.underlying30 h'
  rw [zc30] at hl
  obtain ⟨l⟩ := cs
  dsimp only at hl hf
  obtain ⟨x0, l0_, rfl, h0_⟩ := cons_of hl
  obtain ⟨x1, l1_, rfl, h1_⟩ := cons_of h0_
  obtain ⟨x2, l2_, rfl, h2_⟩ := cons_of h1_
  obtain ⟨x3, l3_, rfl, h3_⟩ := cons_of h2_
  obtain ⟨x4, l4_, rfl, h4_⟩ := cons_of h3_
  obtain ⟨x5, l5_, rfl, h5_⟩ := cons_of h4_
  obtain ⟨x6, l6_, rfl, h6_⟩ := cons_of h5_
  obtain ⟨x7, l7_, rfl, h7_⟩ := cons_of h6_
  obtain ⟨x8, l8_, rfl, h8_⟩ := cons_of h7_
  obtain ⟨x9, l9_, rfl, h9_⟩ := cons_of h8_
  obtain ⟨x10, l10_, rfl, h10_⟩ := cons_of h9_
  obtain ⟨x11, l11_, rfl, h11_⟩ := cons_of h10_
  obtain ⟨x12, l12_, rfl, h12_⟩ := cons_of h11_
  obtain ⟨x13, l13_, rfl, h13_⟩ := cons_of h12_
  obtain ⟨x14, l14_, rfl, h14_⟩ := cons_of h13_
  obtain ⟨x15, l15_, rfl, h15_⟩ := cons_of h14_
  obtain ⟨x16, l16_, rfl, h16_⟩ := cons_of h15_
  obtain ⟨x17, l17_, rfl, h17_⟩ := cons_of h16_
  obtain rfl := nil_of h17_
  obtain ⟨_, _, k0⟩ := fld hf 0 rfl (t := 3) rfl rfl zc3 rfl
  obtain ⟨_, _, k1⟩ := fld hf 1 rfl (t := 22) rfl rfl zc22 rfl
  obtain ⟨_, _, k2⟩ := fld hf 2 rfl (t := 23) rfl rfl zc23 rfl
  obtain ⟨_, _, k3⟩ := fld hf 3 rfl (t := 25) rfl rfl zc25 rfl
  obtain ⟨_, _, k4⟩ := fld hf 4 rfl (t := 26) rfl rfl zc26 rfl
  obtain ⟨_, _, k5⟩ := fld hf 5 rfl (t := 23) rfl rfl zc23 rfl
  obtain ⟨_, _, k6⟩ := fld hf 6 rfl (t := 4) rfl rfl zc4 rfl
  obtain ⟨_, _, k7⟩ := fld hf 7 rfl (t := 25) rfl rfl zc25 rfl
  obtain ⟨_, _, k8⟩ := fld hf 8 rfl (t := 23) rfl rfl zc23 rfl
  obtain ⟨_, _, k9⟩ := fld hf 9 rfl (t := 27) rfl rfl zc27 rfl
  obtain ⟨_, _, k10⟩ := fld hf 10 rfl (t := 28) rfl rfl zc28 rfl
  obtain ⟨_, _, k11⟩ := fld hf 11 rfl (t := 4) rfl rfl zc4 rfl
  obtain ⟨_, kf3⟩ := elF Tryz.underlying25 k3
  obtain ⟨_, kf7⟩ := elF Tryz.underlying25 k7
  obtain ⟨_, _, k30⟩ := fld kf3 0 rfl (t := 3) rfl rfl zc3 rfl
  obtain ⟨_, _, k31⟩ := fld kf3 1 rfl (t := 3) rfl rfl zc3 rfl
  obtain ⟨_, _, k32⟩ := fld kf3 2 rfl (t := 3) rfl rfl zc3 rfl
  obtain ⟨_, _, k33⟩ := fld kf3 3 rfl (t := 3) rfl rfl zc3 rfl
  obtain ⟨_, _, k70⟩ := fld kf7 0 rfl (t := 3) rfl rfl zc3 rfl
  obtain ⟨_, _, k71⟩ := fld kf7 1 rfl (t := 3) rfl rfl zc3 rfl
  obtain ⟨_, _, k72⟩ := fld kf7 2 rfl (t := 3) rfl rfl zc3 rfl
  obtain ⟨_, _, k73⟩ := fld kf7 3 rfl (t := 3) rfl rfl zc3 rfl
  obtain ⟨a, ha⟩ := elI Tryz.underlying3 k0
  obtain ⟨v0, hv0⟩ := elI Tryz.underlying3 k30
  obtain ⟨v1, hv1⟩ := elI Tryz.underlying3 k31
  obtain ⟨v2, hv2⟩ := elI Tryz.underlying3 k32
  obtain ⟨v3, hv3⟩ := elI Tryz.underlying3 k33
  obtain ⟨w0, hw0⟩ := elI Tryz.underlying3 k70
  obtain ⟨w1, hw1⟩ := elI Tryz.underlying3 k71
  obtain ⟨w2, hw2⟩ := elI Tryz.underlying3 k72
  obtain ⟨w3, hw3⟩ := elI Tryz.underlying3 k73
  obtain ⟨b6, hb6⟩ := elB Tryz.underlying4 k6
  obtain ⟨b11, hb11⟩ := elB Tryz.underlying4 k11
  simp at ha hv0 hv1 hv2 hv3 hw0 hw1 hw2 hw3 hb6 hb11
  subst ha hv0 hv1 hv2 hv3 hw0 hw1 hw2 hw3 hb6 hb11
  have o1 : Cell.okWide Tryz.prog W .any base 22 x1 := by obtain ⟨u, h1, h2⟩ := hcell 1 x1 rfl; cases h1; exact h2
  have o2 : Cell.okWide Tryz.prog W .any base 23 x2 := by obtain ⟨u, h1, h2⟩ := hcell 2 x2 rfl; cases h1; exact h2
  have o7 : Cell.okWide Tryz.prog W .any base 26 x7 := by obtain ⟨u, h1, h2⟩ := hcell 7 x7 rfl; cases h1; exact h2
  have o8 : Cell.okWide Tryz.prog W .any base 23 x8 := by obtain ⟨u, h1, h2⟩ := hcell 8 x8 rfl; cases h1; exact h2
  have o14 : Cell.okWide Tryz.prog W .any base 23 x14 := by obtain ⟨u, h1, h2⟩ := hcell 14 x14 rfl; cases h1; exact h2
  have o15 : Cell.okWide Tryz.prog W .any base 27 x15 := by obtain ⟨u, h1, h2⟩ := hcell 15 x15 rfl; cases h1; exact h2
  have o16 : Cell.okWide Tryz.prog W .any base 28 x16 := by obtain ⟨u, h1, h2⟩ := hcell 16 x16 rfl; cases h1; exact h2
  obtain ⟨r1, y1⟩ := open22 o1 k1
  obtain ⟨r2, y2⟩ := open23 o2 k2
  obtain ⟨r7, y7⟩ := open26 o7 k4
  obtain ⟨r8, y8⟩ := open23 o8 k5
  obtain ⟨r14, y14⟩ := open23 o14 k8
  obtain ⟨r15, y15⟩ := open27 o15 k9
  obtain ⟨r16, y16⟩ := open28 o16 k10
  exact ⟨(a, r1, r2, v0, v1, v2, v3, r7, r8, b6, w0, w1, w2, w3, r14, r15, r16, b11), x1, x2, x7, x8, x14, x15, x16, rfl, ⟨y1, y2, y7, y8, y14, y15, y16⟩⟩
end
end Go.Proofs.V.T17

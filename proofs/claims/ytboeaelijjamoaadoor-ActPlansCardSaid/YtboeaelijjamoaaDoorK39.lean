/- The shelf's contracts on maps.Keys, slices.Sorted, slices.Sort and slices.Grow, laid at this program (written by the kit's lay-iter and lay-plain). -/
import Derived.Shelf.SlIter.Nil
import Derived.Shelf.SortM.Plain
import Derived.Shelf.SortM.SortNone
import Derived.Shelf.Spec.SlicesGrow
import Derived.Ground.GgzProg
import Derived.Ground.SlgmProg
import Derived.Ground.Names8Prog
import Derived.Test.YtboeaelijjamoaaDoorProg
namespace Go.Proofs
open Go.RowKit Go.Maps Go.Sort Go.Shelf
def Tryd.keys35_ren : Go.Shelf.Ren := ⟨fun | 7 => 35 | 10 => 51 | n => n, fun | 23 => 70 | 26 => 9 | 3 => 33 | 28 => 68 | 0 => 0 | 27 => 67 | 33 => 62 | 4 => 4 | n => n, fun | n => n⟩
theorem Tryd.keys35 : Go.Proofs.SlLaysZ.n7 Tryd.prog Tryd.keys35_ren := {
  mixed := by kernel_rfl
  f7 := ⟨Tryd.f35.name, by decide, Tryd.func35.trans (congrArg some (by kernel_rfl))⟩
  f10 := ⟨Tryd.f51.name, by decide, Tryd.func51.trans (congrArg some (by kernel_rfl))⟩
  t0 := Tryd.underlying0
  a0 := Tryd.isAgg0
  z0 := Tryd.sizeOf0
  v0 := Tryd.zeroValue0
  t4 := Tryd.underlying4
  a4 := Tryd.isAgg4
  z4 := Tryd.sizeOf4
  v4 := Tryd.zeroValue4
  t23 := Tryd.underlying70
  a23 := Tryd.isAgg70
  z23 := Tryd.sizeOf70
  v23 := Tryd.zeroValue70
  t26 := Tryd.underlying9
  a26 := Tryd.isAgg9
  z26 := Tryd.sizeOf9
  v26 := Tryd.zeroValue9
  t27 := Tryd.underlying67
  a27 := Tryd.isAgg67
  z27 := Tryd.sizeOf67
  v27 := Tryd.zeroValue67
  t28 := Tryd.underlying68
  a28 := Tryd.isAgg68
  z28 := Tryd.sizeOf68
  v28 := Tryd.zeroValue68
  t33 := Tryd.underlying62
  a33 := Tryd.isAgg62
  z33 := Tryd.sizeOf62
  v33 := Tryd.zeroValue62 }
def Tryd.sorted34_ren : Go.Shelf.Ren := ⟨fun | 6 => 34 | 8 => 49 | 9 => 50 | 11 => 63 | 13 => 65 | 12 => 64 | 23 => 80 | 24 => 81 | 14 => 71 | 15 => 72 | 16 => 73 | 17 => 74 | 18 => 75 | 19 => 76 | 20 => 77 | 21 => 78 | 22 => 79 | 25 => 87 | 26 => 88 | 27 => 89 | 28 => 90 | 29 => 91 | 30 => 92 | 31 => 99 | n => n, fun | 26 => 9 | 28 => 68 | 24 => 42 | 0 => 0 | 3 => 3 | 37 => 93 | 48 => 109 | 50 => 111 | 4 => 4 | 40 => 103 | 39 => 102 | 45 => 64 | 5 => 5 | 9 => 9 | 51 => 113 | 55 => 117 | 57 => 123 | 58 => 124 | 33 => 62 | n => n, fun | n => n⟩
theorem Tryd.sorted34 : Go.Proofs.SlLaysZ.n6 Tryd.prog Tryd.sorted34_ren := {
  mixed := by kernel_rfl
  f6 := ⟨Tryd.f34.name, by decide, Tryd.func34.trans (congrArg some (by kernel_rfl))⟩
  f8 := ⟨Tryd.f49.name, by decide, Tryd.func49.trans (congrArg some (by kernel_rfl))⟩
  f11 := ⟨Tryd.f63.name, by decide, Tryd.func63.trans (congrArg some (by kernel_rfl))⟩
  t0 := Tryd.underlying0
  a0 := Tryd.isAgg0
  z0 := Tryd.sizeOf0
  v0 := Tryd.zeroValue0
  t24 := Tryd.underlying42
  a24 := Tryd.isAgg42
  z24 := Tryd.sizeOf42
  v24 := Tryd.zeroValue42
  t26 := Tryd.underlying9
  a26 := Tryd.isAgg9
  z26 := Tryd.sizeOf9
  v26 := Tryd.zeroValue9
  t28 := Tryd.underlying68
  a28 := Tryd.isAgg68
  z28 := Tryd.sizeOf68
  v28 := Tryd.zeroValue68
  i26 := by kernel_rfl }
def Tryd.sort50_ren : Go.Shelf.Ren := ⟨fun | 6 => 50 | 8 => 65 | 9 => 64 | 19 => 80 | 20 => 81 | 21 => 71 | 22 => 72 | 23 => 73 | 24 => 74 | 25 => 75 | 26 => 76 | 27 => 77 | 28 => 78 | 29 => 79 | 36 => 87 | 31 => 88 | 32 => 89 | 37 => 90 | 38 => 91 | 39 => 92 | 41 => 99 | n => n, fun | 27 => 42 | 29 => 9 | 3 => 3 | 32 => 93 | 26 => 42 | 0 => 0 | 44 => 109 | 46 => 111 | 4 => 4 | 36 => 103 | 35 => 102 | 41 => 64 | 5 => 5 | 9 => 9 | 53 => 113 | 57 => 117 | 63 => 123 | 64 => 124 | n => n, fun | n => n⟩
theorem Tryd.sort50 : Go.Proofs.SlLaysM.n6 Tryd.prog Tryd.sort50_ren := {
  mixed := by kernel_rfl
  f6 := ⟨Tryd.f50.name, by decide, Tryd.func50.trans (congrArg some (by kernel_rfl))⟩
  f8 := Tryd.func65.trans (congrArg some (by kernel_rfl))
  f9 := ⟨Tryd.f64.name, by decide, Tryd.func64.trans (congrArg some (by kernel_rfl))⟩
  f19 := Tryd.func80.trans (congrArg some (by kernel_rfl))
  f20 := Tryd.func81.trans (congrArg some (by kernel_rfl))
  f21 := ⟨Tryd.f71.name, by decide, Tryd.func71.trans (congrArg some (by kernel_rfl))⟩
  f22 := ⟨Tryd.f72.name, by decide, Tryd.func72.trans (congrArg some (by kernel_rfl))⟩
  f23 := ⟨Tryd.f73.name, by decide, Tryd.func73.trans (congrArg some (by kernel_rfl))⟩
  f24 := ⟨Tryd.f74.name, by decide, Tryd.func74.trans (congrArg some (by kernel_rfl))⟩
  f25 := ⟨Tryd.f75.name, by decide, Tryd.func75.trans (congrArg some (by kernel_rfl))⟩
  f26 := ⟨Tryd.f76.name, by decide, Tryd.func76.trans (congrArg some (by kernel_rfl))⟩
  f27 := ⟨Tryd.f77.name, by decide, Tryd.func77.trans (congrArg some (by kernel_rfl))⟩
  f28 := ⟨Tryd.f78.name, by decide, Tryd.func78.trans (congrArg some (by kernel_rfl))⟩
  f29 := ⟨Tryd.f79.name, by decide, Tryd.func79.trans (congrArg some (by kernel_rfl))⟩
  f31 := Tryd.func88.trans (congrArg some (by kernel_rfl))
  f32 := Tryd.func89.trans (congrArg some (by kernel_rfl))
  f36 := ⟨Tryd.f87.name, by decide, Tryd.func87.trans (congrArg some (by kernel_rfl))⟩
  f37 := ⟨Tryd.f90.name, by decide, Tryd.func90.trans (congrArg some (by kernel_rfl))⟩
  f38 := ⟨Tryd.f91.name, by decide, Tryd.func91.trans (congrArg some (by kernel_rfl))⟩
  f39 := ⟨Tryd.f92.name, by decide, Tryd.func92.trans (congrArg some (by kernel_rfl))⟩
  f41 := ⟨Tryd.f99.name, by decide, Tryd.func99.trans (congrArg some (by kernel_rfl))⟩
  t0 := Tryd.underlying0
  a0 := Tryd.isAgg0
  z0 := Tryd.sizeOf0
  v0 := Tryd.zeroValue0
  t3 := Tryd.underlying3
  a3 := Tryd.isAgg3
  z3 := Tryd.sizeOf3
  v3 := Tryd.zeroValue3
  t4 := Tryd.underlying4
  a4 := Tryd.isAgg4
  z4 := Tryd.sizeOf4
  v4 := Tryd.zeroValue4
  t5 := Tryd.underlying5
  a5 := Tryd.isAgg5
  z5 := Tryd.sizeOf5
  v5 := Tryd.zeroValue5
  t9 := Tryd.underlying9
  a9 := Tryd.isAgg9
  z9 := Tryd.sizeOf9
  v9 := Tryd.zeroValue9
  t26 := Tryd.underlying42
  a26 := Tryd.isAgg42
  z26 := Tryd.sizeOf42
  v26 := Tryd.zeroValue42
  t27 := Tryd.underlying42
  a27 := Tryd.isAgg42
  z27 := Tryd.sizeOf42
  v27 := Tryd.zeroValue42
  t29 := Tryd.underlying9
  a29 := Tryd.isAgg9
  z29 := Tryd.sizeOf9
  v29 := Tryd.zeroValue9
  t32 := Tryd.underlying93
  a32 := Tryd.isAgg93
  z32 := Tryd.sizeOf93
  v32 := Tryd.zeroValue93
  t35 := Tryd.underlying102
  a35 := Tryd.isAgg102
  z35 := Tryd.sizeOf102
  v35 := Tryd.zeroValue102
  t36 := Tryd.underlying103
  a36 := Tryd.isAgg103
  z36 := Tryd.sizeOf103
  v36 := Tryd.zeroValue103
  t41 := Tryd.underlying64
  a41 := Tryd.isAgg64
  z41 := Tryd.sizeOf64
  v41 := Tryd.zeroValue64
  t44 := Tryd.underlying109
  a44 := Tryd.isAgg109
  z44 := Tryd.sizeOf109
  v44 := Tryd.zeroValue109
  t46 := Tryd.underlying111
  a46 := Tryd.isAgg111
  z46 := Tryd.sizeOf111
  v46 := Tryd.zeroValue111
  t53 := Tryd.underlying113
  a53 := Tryd.isAgg113
  z53 := Tryd.sizeOf113
  v53 := Tryd.zeroValue113
  t57 := Tryd.underlying117
  a57 := Tryd.isAgg117
  z57 := Tryd.sizeOf117
  v57 := Tryd.zeroValue117
  t63 := Tryd.underlying123
  a63 := Tryd.isAgg123
  z63 := Tryd.sizeOf123
  v63 := Tryd.zeroValue123
  t64 := Tryd.underlying124
  a64 := Tryd.isAgg124
  z64 := Tryd.sizeOf124
  v64 := Tryd.zeroValue124 }

def Tryd.grow54_ren : Go.Shelf.Ren := ⟨fun | 4 => 54 | n => n, fun | 22 => 23 | 25 => 33 | 3 => 3 | 4 => 4 | 9 => 9 | 20 => 20 | 0 => 0 | n => n, fun | n => n⟩
theorem Tryd.grow54 : Go.Proofs.Lays8.n4 Tryd.prog Tryd.grow54_ren := {
  mixed := by kernel_rfl
  f4 := ⟨Tryd.f54.name, by decide, Tryd.func54.trans (congrArg some (by kernel_rfl))⟩
  t0 := Tryd.underlying0
  a0 := Tryd.isAgg0
  z0 := Tryd.sizeOf0
  v0 := Tryd.zeroValue0
  t3 := Tryd.underlying3
  a3 := Tryd.isAgg3
  z3 := Tryd.sizeOf3
  v3 := Tryd.zeroValue3
  t4 := Tryd.underlying4
  a4 := Tryd.isAgg4
  z4 := Tryd.sizeOf4
  v4 := Tryd.zeroValue4
  t9 := Tryd.underlying9
  a9 := Tryd.isAgg9
  z9 := Tryd.sizeOf9
  v9 := Tryd.zeroValue9
  t20 := Tryd.underlying20
  a20 := Tryd.isAgg20
  z20 := Tryd.sizeOf20
  v20 := Tryd.zeroValue20
  t22 := Tryd.underlying23
  a22 := Tryd.isAgg23
  z22 := Tryd.sizeOf23
  v22 := Tryd.zeroValue23 }


/-- slices.Sort's two contracts at this dump, at the fence that asks nothing. -/
theorem Tryd.sorts34 (m : Nat) : AnyZ.SortsIn Tryd.prog Tryd.sorted34_ren Fence.wide m :=
  ⟨fun blk off cap ss W hH hblk hsz => callsIn_wide.2 (AnyM.slices_Sort_string Tryd.sort50 blk off cap ss W hH hblk hsz),
   fun p cap W => callsIn_wide.2 (AnyM.slices_Sort_string_none Tryd.sort50 p cap W)⟩

theorem Tryd.maps_Keys_35 (mb : Option Nat) (W : World) : CallsIn Fence.wide 5 Tryd.prog 35 #[.map mb] W fun e w' => e = .returned (.func (.func 51) #[] #[.pointer (some ⟨W.heap.size, 0, none⟩)]) ∧ w' = W.alloc (.cells #[.map mb] 70) :=
  AnyZ.keys_in Tryd.keys35 Fence.wide 5 trivial rfl mb W

set_option maxHeartbeats 1000000 in
theorem Tryd.slices_Sorted_keys_34_35 {H : Type} (b nn : Nat) (D0 : DataW H) (R : Value → Option (DataW H × List MemPlace)) (w : World) (hown : w.ownsMap Tryd.prog 9 R b nn D0) (hmax : Maps.size D0 ≤ maxLen) (hbytes : Maps.size D0 * 16 ≤ 140737488355328) :
    CallsIn Fence.wide 5 Tryd.prog 34 #[.func (.func 51) #[] #[.pointer (some ⟨w.heap.size, 0, none⟩)]] (w.alloc (.cells #[.map (some b)] 70)) fun e w' => ∃ (v : Value) (ss : List (List UInt8)), e = .returned v ∧ ss.Perm (strKeys D0) ∧
      w'.ownsRow (w.alloc (.cells #[.map (some b)] 70)).heap.size 9 1 v ss.length ((ss.mergeSort (fun x y => decide (x ≤ y))).map encStr) ∧ (v = .slice none 0 0 ↔ ss = []) ∧ Below (w.alloc (.cells #[.map (some b)] 70)).heap.size (w.alloc (.cells #[.map (some b)] 70)) w' := by
  have hbl := hown.lt
  have hseq : SeqGives Fence.wide 2 Tryd.prog 51 #[.pointer (some ⟨w.heap.size, 0, none⟩)] encStr (fun ss => ss.Perm (strKeys D0)) (Maps.size D0) (w.alloc (.cells #[.map (some b)] 70)) :=
    AnyZ.keys_gives (ρ := Tryd.keys35_ren) { Tryd.keys35 with } Fence.wide _ trivial rfl (by omega) w.heap.size b nn D0 _ (by simp) (by simp) (by
      obtain ⟨es, clock, hb, Ft, hs, hD⟩ := hown
      exact ⟨es, clock, (Below.heap_alloc _ _ b hbl).trans hb, Ft, hs, hD⟩)
  exact AnyZ.sorted_in Tryd.sorted34 Fence.wide 5 trivial trivial trivial trivial rfl (by omega) (Tryd.sorts34 _) (enters_of Tryd.func50 (by kernel_rfl) rfl) 51 #[.pointer (some ⟨w.heap.size, 0, none⟩)] trivial (enters_of Tryd.func51 (by kernel_rfl) rfl) _ _ hmax hbytes _ hseq

end Go.Proofs

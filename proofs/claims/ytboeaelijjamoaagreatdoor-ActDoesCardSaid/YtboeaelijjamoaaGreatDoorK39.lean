/- The shelf's contracts on maps.Keys, slices.Sorted, slices.Sort and slices.Grow, laid at this program (written by the kit's lay-iter and lay-plain). -/
import Derived.Shelf.SlIter.Nil
import Derived.Shelf.SortM.Plain
import Derived.Shelf.SortM.SortNone
import Derived.Shelf.Spec.SlicesGrow
import Derived.Ground.GgzProg
import Derived.Ground.SlgmProg
import Derived.Ground.Names8Prog
import Derived.Test.YtboeaelijjamoaaGreatDoorProg
namespace Go.Proofs
open Go.RowKit Go.Maps Go.Sort Go.Shelf
def Tryz.keys35_ren : Go.Shelf.Ren := ⟨fun | 7 => 32 | 10 => 47 | n => n, fun | 23 => 52 | 26 => 9 | 3 => 41 | 28 => 57 | 0 => 0 | 27 => 56 | 33 => 61 | 4 => 4 | n => n, fun | n => n⟩
theorem Tryz.keys35 : Go.Proofs.SlLaysZ.n7 Tryz.prog Tryz.keys35_ren := {
  mixed := by kernel_rfl
  f7 := ⟨Tryz.f32.name, by decide, Tryz.func32.trans (congrArg some (by kernel_rfl))⟩
  f10 := ⟨Tryz.f47.name, by decide, Tryz.func47.trans (congrArg some (by kernel_rfl))⟩
  t0 := Tryz.underlying0
  a0 := Tryz.isAgg0
  z0 := Tryz.sizeOf0
  v0 := Tryz.zeroValue0
  t4 := Tryz.underlying4
  a4 := Tryz.isAgg4
  z4 := Tryz.sizeOf4
  v4 := Tryz.zeroValue4
  t23 := Tryz.underlying52
  a23 := Tryz.isAgg52
  z23 := Tryz.sizeOf52
  v23 := Tryz.zeroValue52
  t26 := Tryz.underlying9
  a26 := Tryz.isAgg9
  z26 := Tryz.sizeOf9
  v26 := Tryz.zeroValue9
  t27 := Tryz.underlying56
  a27 := Tryz.isAgg56
  z27 := Tryz.sizeOf56
  v27 := Tryz.zeroValue56
  t28 := Tryz.underlying57
  a28 := Tryz.isAgg57
  z28 := Tryz.sizeOf57
  v28 := Tryz.zeroValue57
  t33 := Tryz.underlying61
  a33 := Tryz.isAgg61
  z33 := Tryz.sizeOf61
  v33 := Tryz.zeroValue61 }
def Tryz.sorted34_ren : Go.Shelf.Ren := ⟨fun | 6 => 31 | 8 => 45 | 9 => 46 | 11 => 58 | 13 => 60 | 12 => 59 | 23 => 78 | 24 => 79 | 14 => 69 | 15 => 70 | 16 => 71 | 17 => 72 | 18 => 73 | 19 => 74 | 20 => 75 | 21 => 76 | 22 => 77 | 25 => 84 | 26 => 85 | 27 => 86 | 28 => 87 | 29 => 88 | 30 => 89 | 31 => 96 | n => n, fun | 26 => 9 | 28 => 57 | 24 => 35 | 0 => 0 | 3 => 3 | 37 => 76 | 48 => 90 | 50 => 92 | 4 => 4 | 40 => 84 | 39 => 83 | 45 => 69 | 5 => 5 | 9 => 9 | 51 => 96 | 55 => 100 | 57 => 104 | 58 => 105 | 33 => 61 | n => n, fun | n => n⟩
theorem Tryz.sorted34 : Go.Proofs.SlLaysZ.n6 Tryz.prog Tryz.sorted34_ren := {
  mixed := by kernel_rfl
  f6 := ⟨Tryz.f31.name, by decide, Tryz.func31.trans (congrArg some (by kernel_rfl))⟩
  f8 := ⟨Tryz.f45.name, by decide, Tryz.func45.trans (congrArg some (by kernel_rfl))⟩
  f11 := ⟨Tryz.f58.name, by decide, Tryz.func58.trans (congrArg some (by kernel_rfl))⟩
  t0 := Tryz.underlying0
  a0 := Tryz.isAgg0
  z0 := Tryz.sizeOf0
  v0 := Tryz.zeroValue0
  t24 := Tryz.underlying35
  a24 := Tryz.isAgg35
  z24 := Tryz.sizeOf35
  v24 := Tryz.zeroValue35
  t26 := Tryz.underlying9
  a26 := Tryz.isAgg9
  z26 := Tryz.sizeOf9
  v26 := Tryz.zeroValue9
  t28 := Tryz.underlying57
  a28 := Tryz.isAgg57
  z28 := Tryz.sizeOf57
  v28 := Tryz.zeroValue57
  i26 := by kernel_rfl }
def Tryz.sort50_ren : Go.Shelf.Ren := ⟨fun | 6 => 46 | 8 => 60 | 9 => 59 | 19 => 78 | 20 => 79 | 21 => 69 | 22 => 70 | 23 => 71 | 24 => 72 | 25 => 73 | 26 => 74 | 27 => 75 | 28 => 76 | 29 => 77 | 36 => 84 | 31 => 85 | 32 => 86 | 37 => 87 | 38 => 88 | 39 => 89 | 41 => 96 | n => n, fun | 27 => 35 | 29 => 9 | 3 => 3 | 32 => 76 | 26 => 35 | 0 => 0 | 44 => 90 | 46 => 92 | 4 => 4 | 36 => 84 | 35 => 83 | 41 => 69 | 5 => 5 | 9 => 9 | 53 => 96 | 57 => 100 | 63 => 104 | 64 => 105 | n => n, fun | n => n⟩
theorem Tryz.sort50 : Go.Proofs.SlLaysM.n6 Tryz.prog Tryz.sort50_ren := {
  mixed := by kernel_rfl
  f6 := ⟨Tryz.f46.name, by decide, Tryz.func46.trans (congrArg some (by kernel_rfl))⟩
  f8 := Tryz.func60.trans (congrArg some (by kernel_rfl))
  f9 := ⟨Tryz.f59.name, by decide, Tryz.func59.trans (congrArg some (by kernel_rfl))⟩
  f19 := Tryz.func78.trans (congrArg some (by kernel_rfl))
  f20 := Tryz.func79.trans (congrArg some (by kernel_rfl))
  f21 := ⟨Tryz.f69.name, by decide, Tryz.func69.trans (congrArg some (by kernel_rfl))⟩
  f22 := ⟨Tryz.f70.name, by decide, Tryz.func70.trans (congrArg some (by kernel_rfl))⟩
  f23 := ⟨Tryz.f71.name, by decide, Tryz.func71.trans (congrArg some (by kernel_rfl))⟩
  f24 := ⟨Tryz.f72.name, by decide, Tryz.func72.trans (congrArg some (by kernel_rfl))⟩
  f25 := ⟨Tryz.f73.name, by decide, Tryz.func73.trans (congrArg some (by kernel_rfl))⟩
  f26 := ⟨Tryz.f74.name, by decide, Tryz.func74.trans (congrArg some (by kernel_rfl))⟩
  f27 := ⟨Tryz.f75.name, by decide, Tryz.func75.trans (congrArg some (by kernel_rfl))⟩
  f28 := ⟨Tryz.f76.name, by decide, Tryz.func76.trans (congrArg some (by kernel_rfl))⟩
  f29 := ⟨Tryz.f77.name, by decide, Tryz.func77.trans (congrArg some (by kernel_rfl))⟩
  f31 := Tryz.func85.trans (congrArg some (by kernel_rfl))
  f32 := Tryz.func86.trans (congrArg some (by kernel_rfl))
  f36 := ⟨Tryz.f84.name, by decide, Tryz.func84.trans (congrArg some (by kernel_rfl))⟩
  f37 := ⟨Tryz.f87.name, by decide, Tryz.func87.trans (congrArg some (by kernel_rfl))⟩
  f38 := ⟨Tryz.f88.name, by decide, Tryz.func88.trans (congrArg some (by kernel_rfl))⟩
  f39 := ⟨Tryz.f89.name, by decide, Tryz.func89.trans (congrArg some (by kernel_rfl))⟩
  f41 := ⟨Tryz.f96.name, by decide, Tryz.func96.trans (congrArg some (by kernel_rfl))⟩
  t0 := Tryz.underlying0
  a0 := Tryz.isAgg0
  z0 := Tryz.sizeOf0
  v0 := Tryz.zeroValue0
  t3 := Tryz.underlying3
  a3 := Tryz.isAgg3
  z3 := Tryz.sizeOf3
  v3 := Tryz.zeroValue3
  t4 := Tryz.underlying4
  a4 := Tryz.isAgg4
  z4 := Tryz.sizeOf4
  v4 := Tryz.zeroValue4
  t5 := Tryz.underlying5
  a5 := Tryz.isAgg5
  z5 := Tryz.sizeOf5
  v5 := Tryz.zeroValue5
  t9 := Tryz.underlying9
  a9 := Tryz.isAgg9
  z9 := Tryz.sizeOf9
  v9 := Tryz.zeroValue9
  t26 := Tryz.underlying35
  a26 := Tryz.isAgg35
  z26 := Tryz.sizeOf35
  v26 := Tryz.zeroValue35
  t27 := Tryz.underlying35
  a27 := Tryz.isAgg35
  z27 := Tryz.sizeOf35
  v27 := Tryz.zeroValue35
  t29 := Tryz.underlying9
  a29 := Tryz.isAgg9
  z29 := Tryz.sizeOf9
  v29 := Tryz.zeroValue9
  t32 := Tryz.underlying76
  a32 := Tryz.isAgg76
  z32 := Tryz.sizeOf76
  v32 := Tryz.zeroValue76
  t35 := Tryz.underlying83
  a35 := Tryz.isAgg83
  z35 := Tryz.sizeOf83
  v35 := Tryz.zeroValue83
  t36 := Tryz.underlying84
  a36 := Tryz.isAgg84
  z36 := Tryz.sizeOf84
  v36 := Tryz.zeroValue84
  t41 := Tryz.underlying69
  a41 := Tryz.isAgg69
  z41 := Tryz.sizeOf69
  v41 := Tryz.zeroValue69
  t44 := Tryz.underlying90
  a44 := Tryz.isAgg90
  z44 := Tryz.sizeOf90
  v44 := Tryz.zeroValue90
  t46 := Tryz.underlying92
  a46 := Tryz.isAgg92
  z46 := Tryz.sizeOf92
  v46 := Tryz.zeroValue92
  t53 := Tryz.underlying96
  a53 := Tryz.isAgg96
  z53 := Tryz.sizeOf96
  v53 := Tryz.zeroValue96
  t57 := Tryz.underlying100
  a57 := Tryz.isAgg100
  z57 := Tryz.sizeOf100
  v57 := Tryz.zeroValue100
  t63 := Tryz.underlying104
  a63 := Tryz.isAgg104
  z63 := Tryz.sizeOf104
  v63 := Tryz.zeroValue104
  t64 := Tryz.underlying105
  a64 := Tryz.isAgg105
  z64 := Tryz.sizeOf105
  v64 := Tryz.zeroValue105 }

def Tryz.grow54_ren : Go.Shelf.Ren := ⟨fun | 4 => 44 | n => n, fun | 22 => 23 | 25 => 41 | 3 => 3 | 4 => 4 | 9 => 9 | 20 => 20 | 0 => 0 | n => n, fun | n => n⟩
theorem Tryz.grow54 : Go.Proofs.Lays8.n4 Tryz.prog Tryz.grow54_ren := {
  mixed := by kernel_rfl
  f4 := ⟨Tryz.f44.name, by decide, Tryz.func44.trans (congrArg some (by kernel_rfl))⟩
  t0 := Tryz.underlying0
  a0 := Tryz.isAgg0
  z0 := Tryz.sizeOf0
  v0 := Tryz.zeroValue0
  t3 := Tryz.underlying3
  a3 := Tryz.isAgg3
  z3 := Tryz.sizeOf3
  v3 := Tryz.zeroValue3
  t4 := Tryz.underlying4
  a4 := Tryz.isAgg4
  z4 := Tryz.sizeOf4
  v4 := Tryz.zeroValue4
  t9 := Tryz.underlying9
  a9 := Tryz.isAgg9
  z9 := Tryz.sizeOf9
  v9 := Tryz.zeroValue9
  t20 := Tryz.underlying20
  a20 := Tryz.isAgg20
  z20 := Tryz.sizeOf20
  v20 := Tryz.zeroValue20
  t22 := Tryz.underlying23
  a22 := Tryz.isAgg23
  z22 := Tryz.sizeOf23
  v22 := Tryz.zeroValue23 }


/-- slices.Sort's two contracts at this dump, at the fence that asks nothing. -/
theorem Tryz.sorts34 (m : Nat) : AnyZ.SortsIn Tryz.prog Tryz.sorted34_ren Fence.wide m :=
  ⟨fun blk off cap ss W hH hblk hsz => callsIn_wide.2 (AnyM.slices_Sort_string Tryz.sort50 blk off cap ss W hH hblk hsz),
   fun p cap W => callsIn_wide.2 (AnyM.slices_Sort_string_none Tryz.sort50 p cap W)⟩

theorem Tryz.maps_Keys_35 (mb : Option Nat) (W : World) : CallsIn Fence.wide 5 Tryz.prog 32 #[.map mb] W fun e w' => e = .returned (.func (.func 47) #[] #[.pointer (some ⟨W.heap.size, 0, none⟩)]) ∧ w' = W.alloc (.cells #[.map mb] 52) :=
  AnyZ.keys_in Tryz.keys35 Fence.wide 5 trivial rfl mb W

set_option maxHeartbeats 1000000 in
theorem Tryz.slices_Sorted_keys_34_35 {H : Type} (b nn : Nat) (D0 : DataW H) (R : Value → Option (DataW H × List MemPlace)) (w : World) (hown : w.ownsMap Tryz.prog 9 R b nn D0) (hmax : Maps.size D0 ≤ maxLen) (hbytes : Maps.size D0 * 16 ≤ 140737488355328) :
    CallsIn Fence.wide 5 Tryz.prog 31 #[.func (.func 47) #[] #[.pointer (some ⟨w.heap.size, 0, none⟩)]] (w.alloc (.cells #[.map (some b)] 52)) fun e w' => ∃ (v : Value) (ss : List (List UInt8)), e = .returned v ∧ ss.Perm (strKeys D0) ∧
      w'.ownsRow (w.alloc (.cells #[.map (some b)] 52)).heap.size 9 1 v ss.length ((ss.mergeSort (fun x y => decide (x ≤ y))).map encStr) ∧ (v = .slice none 0 0 ↔ ss = []) ∧ Below (w.alloc (.cells #[.map (some b)] 52)).heap.size (w.alloc (.cells #[.map (some b)] 52)) w' := by
  have hbl := hown.lt
  have hseq : SeqGives Fence.wide 2 Tryz.prog 47 #[.pointer (some ⟨w.heap.size, 0, none⟩)] encStr (fun ss => ss.Perm (strKeys D0)) (Maps.size D0) (w.alloc (.cells #[.map (some b)] 52)) :=
    AnyZ.keys_gives (ρ := Tryz.keys35_ren) { Tryz.keys35 with } Fence.wide _ trivial rfl (by omega) w.heap.size b nn D0 _ (by simp) (by simp) (by
      obtain ⟨es, clock, hb, Ft, hs, hD⟩ := hown
      exact ⟨es, clock, (Below.heap_alloc _ _ b hbl).trans hb, Ft, hs, hD⟩)
  exact AnyZ.sorted_in Tryz.sorted34 Fence.wide 5 trivial trivial trivial trivial rfl (by omega) (Tryz.sorts34 _) (enters_of Tryz.func46 (by kernel_rfl) rfl) 47 #[.pointer (some ⟨w.heap.size, 0, none⟩)] trivial (enters_of Tryz.func47 (by kernel_rfl) rfl) _ _ hmax hbytes _ hseq

end Go.Proofs

/- A part of the proof. -/
import Derived.Test.YtdgihbbekacgcaaDoorProg
import Derived.Test.YtdgihbbekacgcaaDoorV23
import Derived.KernelRfl
namespace Go.Proofs.V
open Go Go.Proofs
set_option linter.unusedVariables false
set_option linter.unusedSimpArgs false
def ext17 (f : Nat) : Option (List AV → Option AV) := if f = 90 then some extCount else if f = 92 then some extIndex else none
def eff17 (f : Nat) : Bool := [9,11,12,14,15,19,21,23,24,25,26,27,28,29,30,31,32,33,34,35,36,43,50,54,61,67,68,69,76,114].contains f
def heap17 (f t : Nat) : Bool := (f == 14 && t == 26) || (f == 82 && t == 27) || (f == 23 && t == 103) || (f == 29 && t == 25)
noncomputable def cfg17 : Cfg := { P := Tryd.prog, ext := ext17, eff := eff17, bad := [], heap := heap17, frz := fun f => f == 82 }
set_option maxRecDepth 100000 in
theorem small17 : callQ cfg17 (evN cfg17 300).2 7 [] = some (BO true) := by kernel_rfl
end Go.Proofs.V

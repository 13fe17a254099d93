/- What is left of the functions of chapter 11, once memory is out of sight. -/
import Derived.Test.YtboeaelijjamoaaGreatDoorK24
import Derived.Test.YtboeaelijjamoaaGreatDoorK33
namespace Go.Proofs.W.Q11
open Go Go.Proofs.V Go.Proofs.W.Q9 Go.Proofs.W.Q10
set_option linter.unusedVariables false
set_option linter.unusedSimpArgs false
noncomputable def tree_Size (x : (List ((List UInt8) × (List UInt8)))) : Option Int :=
  fixS (S := (Int × Int)) (R := Int) (fun again1 s2 =>
    if decide (s2.2 < (x.length : Int)) then
      ixL x s2.2 fun x3 =>
      again1 ((IntKind.wrap .i64 (s2.1 + (x3.2.length : Int))), (IntKind.wrap .i64 (s2.2 + 1)))
    else
      some s2.1) fuel (0, 0)
noncomputable def law11_few (x : (List ((List UInt8) × (Bool × (List UInt8))))) : Option Bool :=
  fixS (S := Int) (R := Bool) (fun again1 s2 =>
    if decide (s2 < (x.length : Int)) then
      ixL x s2 fun x3 =>
      if decide ((x3.1.length : Int) > 100) then
        some false
      else
        ixL x s2 fun x4 =>
        if decide ((x4.2.2.length : Int) > 1000) then
          some false
        else
          again1 (IntKind.wrap .i64 (s2 + 1))
    else
      some (decide ((x.length : Int) ≤ 60))) fuel 0
noncomputable def tree_Put_1 (x : ((List UInt8) × ((List UInt8) × (List UInt8)))) : Option Bool :=
  (path_Clash (x.1, x.2.2)).bind fun r1 =>
  some r1
noncomputable def slices_IndexFunc_File_tree_Put_1 (x : ((List ((List UInt8) × (List UInt8))) × (List UInt8))) : Option Int :=
  fixS (S := Int) (R := Int) (fun again1 s2 =>
    if decide (s2 < (x.1.length : Int)) then
      ixL x.1 s2 fun x3 =>
      (tree_Put_1 (x3.1, (x3.2, x.2))).bind fun r4 =>
      if r4 then
        some s2
      else
        again1 (IntKind.wrap .i64 (s2 + 1))
    else
      some (-1)) fuel 0
noncomputable def slices_ContainsFunc_File_tree_Put_1 (x : ((List ((List UInt8) × (List UInt8))) × (List UInt8))) : Option Bool :=
  (slices_IndexFunc_File_tree_Put_1 (x.1, x.2)).bind fun r1 =>
  some (decide (r1 ≥ 0))
abbrev FiP := (List UInt8) × (List UInt8)
abbrev AcP := (List UInt8) × (Bool × (List UInt8))
/-- tree.Put, walked. -/
noncomputable def tree_Put (t : List FiP) (p d : List UInt8) : Option (List FiP × Int) :=
  (Q9.tree_Right t).bind fun r => if (!r) = true then some ([], 1) else
  (Q10.tree_place (t, p)).bind fun k =>
  (Q9.path_Right p).bind fun b => if (!b) = true then some ([], 6) else
  (slices_ContainsFunc_File_tree_Put_1 (t, p)).bind fun c => if c = true then some ([], 6) else
  if 600 < d.length ∨ (k.2 = false ∧ 16 ≤ t.length) then some ([], 2) else
  if k.2 = true then some (t.set k.1.toNat (p, d), 0) else some (t.take k.1.toNat ++ [(p, d)] ++ t.drop k.1.toNat, 0)
/-- tree.Drop, walked. -/
noncomputable def tree_Drop (t : List FiP) (p : List UInt8) : Option (List FiP × Int) :=
  (Q9.tree_Right t).bind fun r => if (!r) = true then some ([], 1) else
  (Q10.tree_place (t, p)).bind fun k => if (!k.2) = true then some ([], 3) else
  some (t.take k.1.toNat ++ t.drop (k.1.toNat + 1), 0)
noncomputable def act1 (t : List FiP) (a : AcP) : Option (List FiP × Int) := if a.2.1 = true then tree_Put t a.1 a.2.2 else tree_Drop t a.1
noncomputable def doAll : List FiP → List AcP → Option (List FiP × Int)
  | t, [] => some (t, 0)
  | t, a :: l => (act1 t a).bind fun r => if r.2 = 0 then doAll r.1 l else some ([], r.2)
/-- What a row of actions, and a tree, must be for the walk. -/
def okDo (t : List FiP) (l : List AcP) : Bool := decide (t.length ≤ 1000) && decide (l.length ≤ 1000) && t.all (fun f => decide (f.1.length ≤ 100000) && decide (f.2.length ≤ 100000)) && l.all (fun a => decide (a.1.length ≤ 100000) && decide (a.2.2.length ≤ 100000))
noncomputable def act_Do (x : List FiP × (List AcP × Int)) : Option (List FiP × Int) :=
  if okDo x.1 x.2.1 = true then
    (Q9.tree_Right x.1).bind fun r => if (!r) = true then some ([], 1) else
    (doAll x.1 x.2.1).bind fun r => if r.2 = 0 then (tree_Size r.1).bind fun n => if x.2.2 < n then some ([], 2) else some (r.1, 0) else some ([], r.2)
  else none
def okActs (l : List AcP) : Bool := decide (l.length ≤ 1000) && l.all (fun a => decide (a.1.length ≤ 100000) && decide (a.2.2.length ≤ 100000))
noncomputable def act_Paths (l : List AcP) : Option (List (List UInt8)) := if okActs l = true then some (sortP (l.map (·.1))) else none
def lastA (l : List AcP) (q : List UInt8) : AcP := (l.reverse.find? fun a => decide (a.1 = q)).getD ([], (false, []))
def netP (l : List AcP) : List AcP := ((sortP (l.map (·.1))).map (lastA l)).filter (fun a => !a.2.1) ++ ((sortP (l.map (·.1))).map (lastA l)).filter (fun a => a.2.1)
noncomputable def act_Net (l : List AcP) : Option (List AcP) := if okActs l = true then some (netP l) else none
noncomputable def act_Undo (x : ((List ((List UInt8) × (List UInt8))) × (List ((List UInt8) × (Bool × (List UInt8)))))) : Option (List ((List UInt8) × (Bool × (List UInt8)))) :=
  (tree_Right x.1).bind fun r1 =>
  if (!r1) then
    some []
  else
    (act_Paths x.2).bind fun r2 =>
    fixS (S := ((List ((List UInt8) × (Bool × (List UInt8)))) × Int)) (R := (List ((List UInt8) × (Bool × (List UInt8))))) (fun again3 s4 =>
      if decide (s4.2 < (r2.length : Int)) then
        ixL r2 s4.2 fun x5 =>
        (tree_Get (x.1, x5)).bind fun r6 =>
        if (fitsB 40 ((s4.1 ++ [(x5, (r6.2, r6.1))]).length : Int)) then
          again3 ((s4.1 ++ [(x5, (r6.2, r6.1))]), (IntKind.wrap .i64 (s4.2 + 1)))
        else none
      else
        (act_Net s4.1).bind fun r7 =>
        some r7) fuel ([], 0)
noncomputable def law11_small (x : PUnit) : Option Bool :=
  (act_Do ([([97], [49])], ([([97], (false, [])), ([97, 47, 98], (true, [50, 50]))], 9))).bind fun r1 =>
  cutL [([97], (false, [])), ([97, 47, 98], (true, [50, 50]))] 1 ([([97], (false, [])), ([97, 47, 98], (true, [50, 50]))].length : Int) fun y2 =>
  (act_Do ([([97], [49])], (y2, 9))).bind fun r3 =>
  (act_Do ([([97], [49])], ([([97], (false, [])), ([97, 47, 98], (true, [50, 50]))], 1))).bind fun r4 =>
  (act_Undo ([([97], [49])], [([97], (false, [])), ([97, 47, 98], (true, [50, 50]))])).bind fun r5 =>
  (act_Net [([122], (true, [])), ([98], (false, [])), ([122], (true, [49])), ([99], (false, []))]).bind fun r6 =>
  (act_Paths r6).bind fun r7 =>
  if ((r1.1.length : Int) != 1) then
    some false
  else
    if ((r5.length : Int) != 2) then
      some false
    else
      if ((r6.length : Int) != 3) then
        some false
      else
        if ((r7.length : Int) != 3) then
          some false
        else
          if (r1.2 == 0) then
            if (r3.2 == 6) then
              if (r4.2 == 2) then
                ixL r1.1 0 fun x8 =>
                if ((x8.1 == [97, 47, 98]) && (x8.2 == [50, 50])) then
                  ixL r5 0 fun x9 =>
                  if ((x9.1 == [97, 47, 98]) && ((x9.2.1 == false) && (x9.2.2 == []))) then
                    ixL r5 1 fun x10 =>
                    if ((x10.1 == [97]) && ((x10.2.1 == true) && (x10.2.2 == [49]))) then
                      ixL r6 2 fun x11 =>
                      if (x11.2.2 == [49]) then
                        ixL r6 0 fun x12 =>
                        if (x12.1 == [98]) then
                          ixL r7 2 fun x13 =>
                          some (x13 == [122])
                        else
                          some false
                      else
                        some false
                    else
                      some false
                  else
                    some false
                else
                  some false
              else
                some false
            else
              some false
          else
            some false
end Go.Proofs.W.Q11

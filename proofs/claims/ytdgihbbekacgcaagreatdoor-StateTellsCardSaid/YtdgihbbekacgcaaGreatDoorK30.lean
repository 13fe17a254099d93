/- What is left of the functions of chapter 11, once memory is out of sight. -/
import Derived.Test.YtdgihbbekacgcaaGreatDoorK20
import Derived.Test.YtdgihbbekacgcaaGreatDoorK29
namespace Go.Proofs.W.Q11
open Go Go.Proofs.V Go.Proofs.W.Q9 Go.Proofs.W.Q10
set_option linter.unusedVariables false
set_option linter.unusedSimpArgs false
end Go.Proofs.W.Q11
namespace Go.Proofs.W.Q11
open Go Go.Proofs.V Go.Proofs.W.Q9 Go.Proofs.W.Q10
set_option linter.unusedVariables false
set_option linter.unusedSimpArgs false
end Go.Proofs.W.Q11
namespace Go.Proofs.W.Q17
open Go Go.Proofs.V Go.Proofs.W.Q9 Go.Proofs.W.Q10 Go.Proofs.W.Q11
set_option linter.unusedVariables false
set_option linter.unusedSimpArgs false
noncomputable def ref03_Sorted (x : (List (List UInt8))) : Option Bool :=
  fixS (S := Int) (R := Bool) (fun again1 s2 =>
    if decide (s2 < (x.length : Int)) then
      ixL x s2 fun x3 =>
      (ref03_Right x3).bind fun r4 =>
      if (!r4) then
        some false
      else
        if decide (s2 > 0) then
          ixL x s2 fun x5 =>
          ixL x (IntKind.wrap .i64 (s2 - 1)) fun x6 =>
          if (Op.bytesLess x5 x6 || x5 == x6) then
            some false
          else
            again1 (IntKind.wrap .i64 (s2 + 1))
        else
          again1 (IntKind.wrap .i64 (s2 + 1))
    else
      some true) fuel 0
noncomputable def ref17_within (x : (Int × Int)) : Option Bool :=
  if decide (x.1 ≥ 0) then
    some (decide (x.1 ≤ x.2))
  else
    some false
noncomputable def ref17_Right (x : (Int × ((List ((List UInt8) × (List UInt8))) × ((List ((List UInt8) × (Bool × ((List UInt8) × (Int × Int))))) × (Int × (Int × (Int × (Int × ((List Int) × ((List ((List UInt8) × (Bool × ((List UInt8) × (Int × Int))))) × (Bool × (Int × (Int × (Int × (Int × ((List ((List UInt8) × (Bool × ((List UInt8) × (Int × Int))))) × ((List (List UInt8)) × ((List (Int × (List UInt8))) × Bool)))))))))))))))))) : Option Bool :=
  (ref04_Right x.2.1).bind fun r1 =>
  (ref09_Right x.2.2.1).bind fun r2 =>
  (ref09_Right x.2.2.2.2.2.2.2.2.1).bind fun r3 =>
  (ref09_Right x.2.2.2.2.2.2.2.2.2.2.2.2.2.2.1).bind fun r4 =>
  (ref03_Sorted x.2.2.2.2.2.2.2.2.2.2.2.2.2.2.2.1).bind fun r5 =>
  (ref17_within (x.1, 1)).bind fun r6 =>
  if (!r6) then
    some false
  else
    if (!r1) then
      some false
    else
      if (!r2) then
        some false
      else
        if (!r3) then
          some false
        else
          if (!r4) then
            some false
          else
            if (!r5) then
              some false
            else
              if decide ((x.2.2.2.2.2.2.2.2.2.2.2.2.2.2.2.1.length : Int) > 32) then
                some false
              else
                if decide ((x.2.2.2.2.2.2.2.2.2.2.2.2.2.2.2.2.1.length : Int) > 200) then
                  some false
                else
                  if decide ((x.2.2.2.2.2.2.2.1.length : Int) > 200) then
                    some false
                  else
                    fixS (S := (Int × ((List ((List UInt8) × (List UInt8))) × ((List ((List UInt8) × (Bool × ((List UInt8) × (Int × Int))))) × (Int × (Int × (Int × (Int × ((List Int) × ((List ((List UInt8) × (Bool × ((List UInt8) × (Int × Int))))) × (Bool × (Int × (Int × (Int × (Int × ((List ((List UInt8) × (Bool × ((List UInt8) × (Int × Int))))) × ((List (List UInt8)) × ((List (Int × (List UInt8))) × (Bool × (Int × Int)))))))))))))))))))) (R := Bool) (fun again7 s8 =>
                      if decide (s8.2.2.2.2.2.2.2.2.2.2.2.2.2.2.2.2.2.2.2 < (s8.2.2.2.2.2.2.2.1.length : Int)) then
                        ixL s8.2.2.2.2.2.2.2.1 s8.2.2.2.2.2.2.2.2.2.2.2.2.2.2.2.2.2.2.2 fun x9 =>
                        (ref17_within (x9, 4294967295)).bind fun r10 =>
                        if (!r10) then
                          some false
                        else
                          again7 (s8.1, (s8.2.1, (s8.2.2.1, (s8.2.2.2.1, (s8.2.2.2.2.1, (s8.2.2.2.2.2.1, (s8.2.2.2.2.2.2.1, (s8.2.2.2.2.2.2.2.1, (s8.2.2.2.2.2.2.2.2.1, (s8.2.2.2.2.2.2.2.2.2.1, (s8.2.2.2.2.2.2.2.2.2.2.1, (s8.2.2.2.2.2.2.2.2.2.2.2.1, (s8.2.2.2.2.2.2.2.2.2.2.2.2.1, (s8.2.2.2.2.2.2.2.2.2.2.2.2.2.1, (s8.2.2.2.2.2.2.2.2.2.2.2.2.2.2.1, (s8.2.2.2.2.2.2.2.2.2.2.2.2.2.2.2.1, (s8.2.2.2.2.2.2.2.2.2.2.2.2.2.2.2.2.1, (s8.2.2.2.2.2.2.2.2.2.2.2.2.2.2.2.2.2.1, (x9, (IntKind.wrap .i64 (s8.2.2.2.2.2.2.2.2.2.2.2.2.2.2.2.2.2.2.2 + 1)))))))))))))))))))))
                      else
                        if (s8.2.2.2.1 != (s8.2.2.2.2.2.2.2.1.length : Int)) then
                          some false
                        else
                          if (s8.2.2.2.2.1 != s8.2.2.2.2.2.2.2.2.2.2.2.2.2.2.2.2.2.2.1) then
                            some false
                          else
                            (ref17_within (s8.2.2.2.2.2.1, 100)).bind fun r11 =>
                            if (!r11) then
                              some false
                            else
                              if (s8.2.2.2.2.2.2.1 != 0) then
                                some false
                              else
                                (ref17_within (s8.2.2.2.2.2.2.2.2.2.2.1, 200)).bind fun r12 =>
                                if (!r12) then
                                  some false
                                else
                                  (ref17_within (s8.2.2.2.2.2.2.2.2.2.2.2.1, 4294967295)).bind fun r13 =>
                                  if (!r13) then
                                    some false
                                  else
                                    (ref17_within (s8.2.2.2.2.2.2.2.2.2.2.2.2.1, 100)).bind fun r14 =>
                                    if (!r14) then
                                      some false
                                    else
                                      (ref17_within (s8.2.2.2.2.2.2.2.2.2.2.2.2.2.1, 4294967295)).bind fun r15 =>
                                      if (!r15) then
                                        some false
                                      else
                                        fixS (S := (Int × ((List ((List UInt8) × (List UInt8))) × ((List ((List UInt8) × (Bool × ((List UInt8) × (Int × Int))))) × (Int × (Int × (Int × (Int × ((List Int) × ((List ((List UInt8) × (Bool × ((List UInt8) × (Int × Int))))) × (Bool × (Int × (Int × (Int × (Int × ((List ((List UInt8) × (Bool × ((List UInt8) × (Int × Int))))) × ((List (List UInt8)) × ((List (Int × (List UInt8))) × (Bool × Int))))))))))))))))))) (R := Bool) (fun again16 s17 =>
                                          if decide (s17.2.2.2.2.2.2.2.2.2.2.2.2.2.2.2.2.2.2 < (s17.2.2.2.2.2.2.2.2.2.2.2.2.2.2.2.2.1.length : Int)) then
                                            ixL s17.2.2.2.2.2.2.2.2.2.2.2.2.2.2.2.2.1 s17.2.2.2.2.2.2.2.2.2.2.2.2.2.2.2.2.2.2 fun x18 =>
                                            (ref17_within (x18.1, 4294967295)).bind fun r19 =>
                                            if (!r19) then
                                              some false
                                            else
                                              ixL s17.2.2.2.2.2.2.2.2.2.2.2.2.2.2.2.2.1 s17.2.2.2.2.2.2.2.2.2.2.2.2.2.2.2.2.2.2 fun x20 =>
                                              if decide ((x20.2.length : Int) > 16) then
                                                some false
                                              else
                                                again16 (s17.1, (s17.2.1, (s17.2.2.1, (s17.2.2.2.1, (s17.2.2.2.2.1, (s17.2.2.2.2.2.1, (s17.2.2.2.2.2.2.1, (s17.2.2.2.2.2.2.2.1, (s17.2.2.2.2.2.2.2.2.1, (s17.2.2.2.2.2.2.2.2.2.1, (s17.2.2.2.2.2.2.2.2.2.2.1, (s17.2.2.2.2.2.2.2.2.2.2.2.1, (s17.2.2.2.2.2.2.2.2.2.2.2.2.1, (s17.2.2.2.2.2.2.2.2.2.2.2.2.2.1, (s17.2.2.2.2.2.2.2.2.2.2.2.2.2.2.1, (s17.2.2.2.2.2.2.2.2.2.2.2.2.2.2.2.1, (s17.2.2.2.2.2.2.2.2.2.2.2.2.2.2.2.2.1, (s17.2.2.2.2.2.2.2.2.2.2.2.2.2.2.2.2.2.1, (IntKind.wrap .i64 (s17.2.2.2.2.2.2.2.2.2.2.2.2.2.2.2.2.2.2 + 1))))))))))))))))))))
                                          else
                                            some true) fuel (s8.1, (s8.2.1, (s8.2.2.1, (s8.2.2.2.1, (s8.2.2.2.2.1, (s8.2.2.2.2.2.1, (s8.2.2.2.2.2.2.1, (s8.2.2.2.2.2.2.2.1, (s8.2.2.2.2.2.2.2.2.1, (s8.2.2.2.2.2.2.2.2.2.1, (s8.2.2.2.2.2.2.2.2.2.2.1, (s8.2.2.2.2.2.2.2.2.2.2.2.1, (s8.2.2.2.2.2.2.2.2.2.2.2.2.1, (s8.2.2.2.2.2.2.2.2.2.2.2.2.2.1, (s8.2.2.2.2.2.2.2.2.2.2.2.2.2.2.1, (s8.2.2.2.2.2.2.2.2.2.2.2.2.2.2.2.1, (s8.2.2.2.2.2.2.2.2.2.2.2.2.2.2.2.2.1, (s8.2.2.2.2.2.2.2.2.2.2.2.2.2.2.2.2.2.1, 0))))))))))))))))))) fuel (x.1, (x.2.1, (x.2.2.1, (x.2.2.2.1, (x.2.2.2.2.1, (x.2.2.2.2.2.1, (x.2.2.2.2.2.2.1, (x.2.2.2.2.2.2.2.1, (x.2.2.2.2.2.2.2.2.1, (x.2.2.2.2.2.2.2.2.2.1, (x.2.2.2.2.2.2.2.2.2.2.1, (x.2.2.2.2.2.2.2.2.2.2.2.1, (x.2.2.2.2.2.2.2.2.2.2.2.2.1, (x.2.2.2.2.2.2.2.2.2.2.2.2.2.1, (x.2.2.2.2.2.2.2.2.2.2.2.2.2.2.1, (x.2.2.2.2.2.2.2.2.2.2.2.2.2.2.2.1, (x.2.2.2.2.2.2.2.2.2.2.2.2.2.2.2.2.1, (x.2.2.2.2.2.2.2.2.2.2.2.2.2.2.2.2.2, (0, 0)))))))))))))))))))
noncomputable def ref12_Ints (x : ((List Int) × (List Int))) : Option Bool :=
  if ((x.1.length : Int) != (x.2.length : Int)) then
    some false
  else
    fixS (S := Int) (R := Bool) (fun again1 s2 =>
      if decide (s2 < (x.1.length : Int)) then
        ixL x.1 s2 fun x3 =>
        ixL x.2 s2 fun x4 =>
        if (x3 != x4) then
          some false
        else
          again1 (IntKind.wrap .i64 (s2 + 1))
      else
        some true) fuel 0
noncomputable def ref14_Puts (x : ((List (Int × (List UInt8))) × (List (Int × (List UInt8))))) : Option Bool :=
  if ((x.1.length : Int) != (x.2.length : Int)) then
    some false
  else
    fixS (S := Int) (R := Bool) (fun again1 s2 =>
      if decide (s2 < (x.1.length : Int)) then
        ixL x.1 s2 fun x3 =>
        ixL x.2 s2 fun x4 =>
        if (!((x3.1 == x4.1) && (x3.2 == x4.2))) then
          some false
        else
          again1 (IntKind.wrap .i64 (s2 + 1))
      else
        some true) fuel 0
noncomputable def ref17_Same (x : (Int × ((List ((List UInt8) × (List UInt8))) × ((List ((List UInt8) × (Bool × ((List UInt8) × (Int × Int))))) × (Int × (Int × (Int × (Int × ((List Int) × ((List ((List UInt8) × (Bool × ((List UInt8) × (Int × Int))))) × (Bool × (Int × (Int × (Int × (Int × ((List ((List UInt8) × (Bool × ((List UInt8) × (Int × Int))))) × ((List (List UInt8)) × ((List (Int × (List UInt8))) × (Bool × (Int × ((List ((List UInt8) × (List UInt8))) × ((List ((List UInt8) × (Bool × ((List UInt8) × (Int × Int))))) × (Int × (Int × (Int × (Int × ((List Int) × ((List ((List UInt8) × (Bool × ((List UInt8) × (Int × Int))))) × (Bool × (Int × (Int × (Int × (Int × ((List ((List UInt8) × (Bool × ((List UInt8) × (Int × Int))))) × ((List (List UInt8)) × ((List (Int × (List UInt8))) × Bool)))))))))))))))))))))))))))))))))))) : Option Bool :=
  (ref04_Same (x.2.1, x.2.2.2.2.2.2.2.2.2.2.2.2.2.2.2.2.2.2.2.1)).bind fun r1 =>
  (ref09_Same (x.2.2.1, x.2.2.2.2.2.2.2.2.2.2.2.2.2.2.2.2.2.2.2.2.1)).bind fun r2 =>
  (ref09_Same (x.2.2.2.2.2.2.2.2.1, x.2.2.2.2.2.2.2.2.2.2.2.2.2.2.2.2.2.2.2.2.2.2.2.2.2.2.1)).bind fun r3 =>
  (ref09_Same (x.2.2.2.2.2.2.2.2.2.2.2.2.2.2.1, x.2.2.2.2.2.2.2.2.2.2.2.2.2.2.2.2.2.2.2.2.2.2.2.2.2.2.2.2.2.2.2.2.1)).bind fun r4 =>
  (ref12_Ints (x.2.2.2.2.2.2.2.1, x.2.2.2.2.2.2.2.2.2.2.2.2.2.2.2.2.2.2.2.2.2.2.2.2.2.1)).bind fun r5 =>
  (ref01_Rows (x.2.2.2.2.2.2.2.2.2.2.2.2.2.2.2.1, x.2.2.2.2.2.2.2.2.2.2.2.2.2.2.2.2.2.2.2.2.2.2.2.2.2.2.2.2.2.2.2.2.2.1)).bind fun r6 =>
  (ref14_Puts (x.2.2.2.2.2.2.2.2.2.2.2.2.2.2.2.2.1, x.2.2.2.2.2.2.2.2.2.2.2.2.2.2.2.2.2.2.2.2.2.2.2.2.2.2.2.2.2.2.2.2.2.2.1)).bind fun r7 =>
  if (x.1 == x.2.2.2.2.2.2.2.2.2.2.2.2.2.2.2.2.2.2.1) then
    if r1 then
      if r2 then
        if r3 then
          if r4 then
            if r5 then
              if r6 then
                if r7 then
                  if ((x.2.2.2.1 == x.2.2.2.2.2.2.2.2.2.2.2.2.2.2.2.2.2.2.2.2.2.1) && ((x.2.2.2.2.1 == x.2.2.2.2.2.2.2.2.2.2.2.2.2.2.2.2.2.2.2.2.2.2.1) && ((x.2.2.2.2.2.1 == x.2.2.2.2.2.2.2.2.2.2.2.2.2.2.2.2.2.2.2.2.2.2.2.1) && (x.2.2.2.2.2.2.1 == x.2.2.2.2.2.2.2.2.2.2.2.2.2.2.2.2.2.2.2.2.2.2.2.2.1)))) then
                    if ((x.2.2.2.2.2.2.2.2.2.2.1 == x.2.2.2.2.2.2.2.2.2.2.2.2.2.2.2.2.2.2.2.2.2.2.2.2.2.2.2.2.1) && ((x.2.2.2.2.2.2.2.2.2.2.2.1 == x.2.2.2.2.2.2.2.2.2.2.2.2.2.2.2.2.2.2.2.2.2.2.2.2.2.2.2.2.2.1) && ((x.2.2.2.2.2.2.2.2.2.2.2.2.1 == x.2.2.2.2.2.2.2.2.2.2.2.2.2.2.2.2.2.2.2.2.2.2.2.2.2.2.2.2.2.2.1) && (x.2.2.2.2.2.2.2.2.2.2.2.2.2.1 == x.2.2.2.2.2.2.2.2.2.2.2.2.2.2.2.2.2.2.2.2.2.2.2.2.2.2.2.2.2.2.2.1)))) then
                      if (x.2.2.2.2.2.2.2.2.2.1 == x.2.2.2.2.2.2.2.2.2.2.2.2.2.2.2.2.2.2.2.2.2.2.2.2.2.2.2.1) then
                        some (x.2.2.2.2.2.2.2.2.2.2.2.2.2.2.2.2.2.1 == x.2.2.2.2.2.2.2.2.2.2.2.2.2.2.2.2.2.2.2.2.2.2.2.2.2.2.2.2.2.2.2.2.2.2.2)
                      else
                        some false
                    else
                      some false
                  else
                    some false
                else
                  some false
              else
                some false
            else
              some false
          else
            some false
        else
          some false
      else
        some false
    else
      some false
  else
    some false
noncomputable def slices_Equal_int (x : ((List Int) × (List Int))) : Option Bool :=
  if ((x.1.length : Int) != (x.2.length : Int)) then
    some false
  else
    fixS (S := Int) (R := Bool) (fun again1 s2 =>
      if decide (s2 < (x.1.length : Int)) then
        ixL x.1 s2 fun x3 =>
        ixL x.2 s2 fun x4 =>
        if (x3 != x4) then
          some false
        else
          again1 (IntKind.wrap .i64 (s2 + 1))
      else
        some true) fuel 0
noncomputable def slices_Equal_string (x : ((List (List UInt8)) × (List (List UInt8)))) : Option Bool :=
  if ((x.1.length : Int) != (x.2.length : Int)) then
    some false
  else
    fixS (S := Int) (R := Bool) (fun again1 s2 =>
      if decide (s2 < (x.1.length : Int)) then
        ixL x.1 s2 fun x3 =>
        ixL x.2 s2 fun x4 =>
        if (!(x3 == x4)) then
          some false
        else
          again1 (IntKind.wrap .i64 (s2 + 1))
      else
        some true) fuel 0
noncomputable def slices_Equal_Put (x : ((List (Int × (List UInt8))) × (List (Int × (List UInt8))))) : Option Bool :=
  if ((x.1.length : Int) != (x.2.length : Int)) then
    some false
  else
    fixS (S := Int) (R := Bool) (fun again1 s2 =>
      if decide (s2 < (x.1.length : Int)) then
        ixL x.1 s2 fun x3 =>
        ixL x.2 s2 fun x4 =>
        if (!((x3.1 == x4.1) && (x3.2 == x4.2))) then
          some false
        else
          again1 (IntKind.wrap .i64 (s2 + 1))
      else
        some true) fuel 0
noncomputable def state_Same (x : (Int × ((List ((List UInt8) × (List UInt8))) × ((List ((List UInt8) × (Bool × ((List UInt8) × (Int × Int))))) × (Int × (Int × (Int × (Int × ((List Int) × ((List ((List UInt8) × (Bool × ((List UInt8) × (Int × Int))))) × (Bool × (Int × (Int × (Int × (Int × ((List ((List UInt8) × (Bool × ((List UInt8) × (Int × Int))))) × ((List (List UInt8)) × ((List (Int × (List UInt8))) × (Bool × (Int × ((List ((List UInt8) × (List UInt8))) × ((List ((List UInt8) × (Bool × ((List UInt8) × (Int × Int))))) × (Int × (Int × (Int × (Int × ((List Int) × ((List ((List UInt8) × (Bool × ((List UInt8) × (Int × Int))))) × (Bool × (Int × (Int × (Int × (Int × ((List ((List UInt8) × (Bool × ((List UInt8) × (Int × Int))))) × ((List (List UInt8)) × ((List (Int × (List UInt8))) × Bool)))))))))))))))))))))))))))))))))))) : Option Bool :=
  (tree_Same (x.2.1, x.2.2.2.2.2.2.2.2.2.2.2.2.2.2.2.2.2.2.2.1)).bind fun r1 =>
  if r1 then
    (scan_Same (x.2.2.1, x.2.2.2.2.2.2.2.2.2.2.2.2.2.2.2.2.2.2.2.2.1)).bind fun r2 =>
    if r2 then
      (scan_Same (x.2.2.2.2.2.2.2.2.1, x.2.2.2.2.2.2.2.2.2.2.2.2.2.2.2.2.2.2.2.2.2.2.2.2.2.2.1)).bind fun r3 =>
      if r3 then
        (scan_Same (x.2.2.2.2.2.2.2.2.2.2.2.2.2.2.1, x.2.2.2.2.2.2.2.2.2.2.2.2.2.2.2.2.2.2.2.2.2.2.2.2.2.2.2.2.2.2.2.2.1)).bind fun r4 =>
        if r4 then
          if (x.1 == x.2.2.2.2.2.2.2.2.2.2.2.2.2.2.2.2.2.2.1) then
            if ((x.2.2.2.1 == x.2.2.2.2.2.2.2.2.2.2.2.2.2.2.2.2.2.2.2.2.2.1) && ((x.2.2.2.2.1 == x.2.2.2.2.2.2.2.2.2.2.2.2.2.2.2.2.2.2.2.2.2.2.1) && ((x.2.2.2.2.2.1 == x.2.2.2.2.2.2.2.2.2.2.2.2.2.2.2.2.2.2.2.2.2.2.2.1) && (x.2.2.2.2.2.2.1 == x.2.2.2.2.2.2.2.2.2.2.2.2.2.2.2.2.2.2.2.2.2.2.2.2.1)))) then
              if ((x.2.2.2.2.2.2.2.2.2.2.1 == x.2.2.2.2.2.2.2.2.2.2.2.2.2.2.2.2.2.2.2.2.2.2.2.2.2.2.2.2.1) && ((x.2.2.2.2.2.2.2.2.2.2.2.1 == x.2.2.2.2.2.2.2.2.2.2.2.2.2.2.2.2.2.2.2.2.2.2.2.2.2.2.2.2.2.1) && ((x.2.2.2.2.2.2.2.2.2.2.2.2.1 == x.2.2.2.2.2.2.2.2.2.2.2.2.2.2.2.2.2.2.2.2.2.2.2.2.2.2.2.2.2.2.1) && (x.2.2.2.2.2.2.2.2.2.2.2.2.2.1 == x.2.2.2.2.2.2.2.2.2.2.2.2.2.2.2.2.2.2.2.2.2.2.2.2.2.2.2.2.2.2.2.1)))) then
                if (x.2.2.2.2.2.2.2.2.2.1 == x.2.2.2.2.2.2.2.2.2.2.2.2.2.2.2.2.2.2.2.2.2.2.2.2.2.2.2.1) then
                  if (x.2.2.2.2.2.2.2.2.2.2.2.2.2.2.2.2.2.1 == x.2.2.2.2.2.2.2.2.2.2.2.2.2.2.2.2.2.2.2.2.2.2.2.2.2.2.2.2.2.2.2.2.2.2.2) then
                    (slices_Equal_int (x.2.2.2.2.2.2.2.1, x.2.2.2.2.2.2.2.2.2.2.2.2.2.2.2.2.2.2.2.2.2.2.2.2.2.1)).bind fun r5 =>
                    if r5 then
                      (slices_Equal_string (x.2.2.2.2.2.2.2.2.2.2.2.2.2.2.2.1, x.2.2.2.2.2.2.2.2.2.2.2.2.2.2.2.2.2.2.2.2.2.2.2.2.2.2.2.2.2.2.2.2.2.1)).bind fun r6 =>
                      if r6 then
                        (slices_Equal_Put (x.2.2.2.2.2.2.2.2.2.2.2.2.2.2.2.2.1, x.2.2.2.2.2.2.2.2.2.2.2.2.2.2.2.2.2.2.2.2.2.2.2.2.2.2.2.2.2.2.2.2.2.2.1)).bind fun r7 =>
                        some r7
                      else
                        some false
                    else
                      some false
                  else
                    some false
                else
                  some false
              else
                some false
            else
              some false
          else
            some false
        else
          some false
      else
        some false
    else
      some false
  else
    some false
noncomputable def state_New (x : Int) : Option (Int × ((List ((List UInt8) × (List UInt8))) × ((List ((List UInt8) × (Bool × ((List UInt8) × (Int × Int))))) × (Int × (Int × (Int × (Int × ((List Int) × ((List ((List UInt8) × (Bool × ((List UInt8) × (Int × Int))))) × (Bool × (Int × (Int × (Int × (Int × ((List ((List UInt8) × (Bool × ((List UInt8) × (Int × Int))))) × ((List (List UInt8)) × ((List (Int × (List UInt8))) × Bool))))))))))))))))) :=
  some ((bitsI .and .i64 x 1), ([], ([], (0, (0, (0, (0, ([], ([], (false, (0, (0, (0, (0, ([], ([], ([], false)))))))))))))))))
noncomputable def ref17_New (x : Int) : Option (Int × ((List ((List UInt8) × (List UInt8))) × ((List ((List UInt8) × (Bool × ((List UInt8) × (Int × Int))))) × (Int × (Int × (Int × (Int × ((List Int) × ((List ((List UInt8) × (Bool × ((List UInt8) × (Int × Int))))) × (Bool × (Int × (Int × (Int × (Int × ((List ((List UInt8) × (Bool × ((List UInt8) × (Int × Int))))) × ((List (List UInt8)) × ((List (Int × (List UInt8))) × Bool))))))))))))))))) :=
  some ((bitsI .and .i64 x 1), ([], ([], (0, (0, (0, (0, ([], ([], (false, (0, (0, (0, (0, ([], ([], ([], false)))))))))))))))))
noncomputable def ref01_Number (x : ((List Int) × Int)) : Option (List Int) :=
  if (fitsB 1 (([] ++ x.1).length : Int)) then
    divG .quo .i64 (if 0 < (if 4294967295 < x.2 then 4294967295 else x.2) then (if 4294967295 < x.2 then 4294967295 else x.2) else 0) 16777216 fun n1 =>
    divG .quo .i64 (if 0 < (if 4294967295 < x.2 then 4294967295 else x.2) then (if 4294967295 < x.2 then 4294967295 else x.2) else 0) 65536 fun n2 =>
    divG .quo .i64 (if 0 < (if 4294967295 < x.2 then 4294967295 else x.2) then (if 4294967295 < x.2 then 4294967295 else x.2) else 0) 256 fun n3 =>
    if (fitsB 1 ((([] ++ x.1) ++ [(IntKind.wrap .u8 n1), (IntKind.wrap .u8 n2), (IntKind.wrap .u8 n3), (IntKind.wrap .u8 (if 0 < (if 4294967295 < x.2 then 4294967295 else x.2) then (if 4294967295 < x.2 then 4294967295 else x.2) else 0))]).length : Int)) then
      some (([] ++ x.1) ++ [(IntKind.wrap .u8 n1), (IntKind.wrap .u8 n2), (IntKind.wrap .u8 n3), (IntKind.wrap .u8 (if 0 < (if 4294967295 < x.2 then 4294967295 else x.2) then (if 4294967295 < x.2 then 4294967295 else x.2) else 0))])
    else none
  else none
noncomputable def ref17_num (x : ((List Int) × Int)) : Option (List Int) :=
  (ref01_Number (x.1, x.2)).bind fun r1 =>
  some r1
def clampN (n : Int) : Int := if 0 < (if 4294967295 < n then 4294967295 else n) then (if 4294967295 < n then 4294967295 else n) else 0
def be4 (n : Int) : List Int := [clampN n / 16777216 % 256, clampN n / 65536 % 256, clampN n / 256 % 256, clampN n % 256]
noncomputable def ref01_String (x : List Int × List UInt8) : Option (List Int) := if x.1.length ≤ 1000000000 ∧ x.2.length ≤ 16384 then some (x.1 ++ be4 x.2.length ++ toBL x.2) else none
noncomputable def ref17_str (x : ((List Int) × (List UInt8))) : Option (List Int) :=
  (ref01_String (x.1, x.2)).bind fun r1 =>
  some r1
noncomputable def ref17_flag (x : ((List Int) × Bool)) : Option (List Int) :=
  if x.2 then
    (ref17_num (x.1, 1)).bind fun r1 =>
    some r1
  else
    (ref17_num (x.1, 0)).bind fun r2 =>
    some r2
noncomputable def ref17_archive (x : ((List Int) × (List ((List UInt8) × (Bool × ((List UInt8) × (Int × Int))))))) : Option (List Int) :=
  (ref17_num (x.1, (x.2.length : Int))).bind fun r1 =>
  fixS (S := ((List Int) × Int)) (R := (List Int)) (fun again2 s3 =>
    if decide (s3.2 < (x.2.length : Int)) then
      ixL x.2 s3.2 fun x4 =>
      (ref17_str (s3.1, x4.1)).bind fun r5 =>
      (ref17_flag (r5, x4.2.1)).bind fun r6 =>
      (ref17_str (r6, x4.2.2.1)).bind fun r7 =>
      (ref17_num (r7, x4.2.2.2.1)).bind fun r8 =>
      (ref17_num (r8, x4.2.2.2.2)).bind fun r9 =>
      again2 (r9, (IntKind.wrap .i64 (s3.2 + 1)))
    else
      some s3.1) fuel (r1, 0)
noncomputable def ref17_cursor (x : ((List Int) × (Int × (Int × (Int × Int))))) : Option (List Int) :=
  (ref17_num (x.1, x.2.1)).bind fun r1 =>
  (ref17_num (r1, x.2.2.1)).bind fun r2 =>
  (ref17_num (r2, x.2.2.2.1)).bind fun r3 =>
  (ref17_num (r3, x.2.2.2.2)).bind fun r4 =>
  some r4
noncomputable def ref01_Row (x : ((List Int) × (List (List UInt8)))) : Option (List Int) :=
  (ref01_Number (x.1, (if 256 < (x.2.length : Int) then 256 else (x.2.length : Int)))).bind fun r1 =>
  fixS (S := ((List Int) × Int)) (R := (List Int)) (fun again2 s3 =>
    if decide (s3.2 < (if 256 < (x.2.length : Int) then 256 else (x.2.length : Int))) then
      ixL x.2 s3.2 fun x4 =>
      (ref01_String (s3.1, x4)).bind fun r5 =>
      again2 (r5, (IntKind.wrap .i64 (s3.2 + 1)))
    else
      some s3.1) fuel (r1, 0)
noncomputable def ref17_Bytes (x : (Int × ((List ((List UInt8) × (List UInt8))) × ((List ((List UInt8) × (Bool × ((List UInt8) × (Int × Int))))) × (Int × (Int × (Int × (Int × ((List Int) × ((List ((List UInt8) × (Bool × ((List UInt8) × (Int × Int))))) × (Bool × (Int × (Int × (Int × (Int × ((List ((List UInt8) × (Bool × ((List UInt8) × (Int × Int))))) × ((List (List UInt8)) × ((List (Int × (List UInt8))) × Bool)))))))))))))))))) : Option (List UInt8) :=
  (ref17_num ([], x.1)).bind fun r1 =>
  (ref17_num (r1, (x.2.1.length : Int))).bind fun r2 =>
  fixS (S := (Int × ((List ((List UInt8) × (List UInt8))) × ((List ((List UInt8) × (Bool × ((List UInt8) × (Int × Int))))) × (Int × (Int × (Int × (Int × ((List Int) × ((List ((List UInt8) × (Bool × ((List UInt8) × (Int × Int))))) × (Bool × (Int × (Int × (Int × (Int × ((List ((List UInt8) × (Bool × ((List UInt8) × (Int × Int))))) × ((List (List UInt8)) × ((List (Int × (List UInt8))) × (Bool × ((List Int) × Int)))))))))))))))))))) (R := (List UInt8)) (fun again3 s4 =>
    if decide (s4.2.2.2.2.2.2.2.2.2.2.2.2.2.2.2.2.2.2.2 < (s4.2.1.length : Int)) then
      ixL s4.2.1 s4.2.2.2.2.2.2.2.2.2.2.2.2.2.2.2.2.2.2.2 fun x5 =>
      (ref17_str (s4.2.2.2.2.2.2.2.2.2.2.2.2.2.2.2.2.2.2.1, x5.1)).bind fun r6 =>
      ixL s4.2.1 s4.2.2.2.2.2.2.2.2.2.2.2.2.2.2.2.2.2.2.2 fun x7 =>
      (ref17_str (r6, x7.2)).bind fun r8 =>
      again3 (s4.1, (s4.2.1, (s4.2.2.1, (s4.2.2.2.1, (s4.2.2.2.2.1, (s4.2.2.2.2.2.1, (s4.2.2.2.2.2.2.1, (s4.2.2.2.2.2.2.2.1, (s4.2.2.2.2.2.2.2.2.1, (s4.2.2.2.2.2.2.2.2.2.1, (s4.2.2.2.2.2.2.2.2.2.2.1, (s4.2.2.2.2.2.2.2.2.2.2.2.1, (s4.2.2.2.2.2.2.2.2.2.2.2.2.1, (s4.2.2.2.2.2.2.2.2.2.2.2.2.2.1, (s4.2.2.2.2.2.2.2.2.2.2.2.2.2.2.1, (s4.2.2.2.2.2.2.2.2.2.2.2.2.2.2.2.1, (s4.2.2.2.2.2.2.2.2.2.2.2.2.2.2.2.2.1, (s4.2.2.2.2.2.2.2.2.2.2.2.2.2.2.2.2.2.1, (r8, (IntKind.wrap .i64 (s4.2.2.2.2.2.2.2.2.2.2.2.2.2.2.2.2.2.2.2 + 1)))))))))))))))))))))
    else
      (ref17_archive (s4.2.2.2.2.2.2.2.2.2.2.2.2.2.2.2.2.2.2.1, s4.2.2.1)).bind fun r9 =>
      (ref17_cursor (r9, (s4.2.2.2.1, (s4.2.2.2.2.1, (s4.2.2.2.2.2.1, s4.2.2.2.2.2.2.1))))).bind fun r10 =>
      (ref17_num (r10, (s4.2.2.2.2.2.2.2.1.length : Int))).bind fun r11 =>
      fixS (S := (Int × ((List ((List UInt8) × (List UInt8))) × ((List ((List UInt8) × (Bool × ((List UInt8) × (Int × Int))))) × (Int × (Int × (Int × (Int × ((List Int) × ((List ((List UInt8) × (Bool × ((List UInt8) × (Int × Int))))) × (Bool × (Int × (Int × (Int × (Int × ((List ((List UInt8) × (Bool × ((List UInt8) × (Int × Int))))) × ((List (List UInt8)) × ((List (Int × (List UInt8))) × (Bool × ((List Int) × Int)))))))))))))))))))) (R := (List UInt8)) (fun again12 s13 =>
        if decide (s13.2.2.2.2.2.2.2.2.2.2.2.2.2.2.2.2.2.2.2 < (s13.2.2.2.2.2.2.2.1.length : Int)) then
          ixL s13.2.2.2.2.2.2.2.1 s13.2.2.2.2.2.2.2.2.2.2.2.2.2.2.2.2.2.2.2 fun x14 =>
          (ref17_num (s13.2.2.2.2.2.2.2.2.2.2.2.2.2.2.2.2.2.2.1, x14)).bind fun r15 =>
          again12 (s13.1, (s13.2.1, (s13.2.2.1, (s13.2.2.2.1, (s13.2.2.2.2.1, (s13.2.2.2.2.2.1, (s13.2.2.2.2.2.2.1, (s13.2.2.2.2.2.2.2.1, (s13.2.2.2.2.2.2.2.2.1, (s13.2.2.2.2.2.2.2.2.2.1, (s13.2.2.2.2.2.2.2.2.2.2.1, (s13.2.2.2.2.2.2.2.2.2.2.2.1, (s13.2.2.2.2.2.2.2.2.2.2.2.2.1, (s13.2.2.2.2.2.2.2.2.2.2.2.2.2.1, (s13.2.2.2.2.2.2.2.2.2.2.2.2.2.2.1, (s13.2.2.2.2.2.2.2.2.2.2.2.2.2.2.2.1, (s13.2.2.2.2.2.2.2.2.2.2.2.2.2.2.2.2.1, (s13.2.2.2.2.2.2.2.2.2.2.2.2.2.2.2.2.2.1, (r15, (IntKind.wrap .i64 (s13.2.2.2.2.2.2.2.2.2.2.2.2.2.2.2.2.2.2.2 + 1)))))))))))))))))))))
        else
          (ref17_archive (s13.2.2.2.2.2.2.2.2.2.2.2.2.2.2.2.2.2.2.1, s13.2.2.2.2.2.2.2.2.1)).bind fun r16 =>
          (ref17_flag (r16, s13.2.2.2.2.2.2.2.2.2.1)).bind fun r17 =>
          (ref17_cursor (r17, (s13.2.2.2.2.2.2.2.2.2.2.1, (s13.2.2.2.2.2.2.2.2.2.2.2.1, (s13.2.2.2.2.2.2.2.2.2.2.2.2.1, s13.2.2.2.2.2.2.2.2.2.2.2.2.2.1))))).bind fun r18 =>
          (ref17_archive (r18, s13.2.2.2.2.2.2.2.2.2.2.2.2.2.2.1)).bind fun r19 =>
          (ref01_Row (r19, s13.2.2.2.2.2.2.2.2.2.2.2.2.2.2.2.1)).bind fun r20 =>
          (ref17_num (r20, (s13.2.2.2.2.2.2.2.2.2.2.2.2.2.2.2.2.1.length : Int))).bind fun r21 =>
          fixS (S := (Int × ((List ((List UInt8) × (List UInt8))) × ((List ((List UInt8) × (Bool × ((List UInt8) × (Int × Int))))) × (Int × (Int × (Int × (Int × ((List Int) × ((List ((List UInt8) × (Bool × ((List UInt8) × (Int × Int))))) × (Bool × (Int × (Int × (Int × (Int × ((List ((List UInt8) × (Bool × ((List UInt8) × (Int × Int))))) × ((List (List UInt8)) × ((List (Int × (List UInt8))) × (Bool × ((List Int) × Int)))))))))))))))))))) (R := (List UInt8)) (fun again22 s23 =>
            if decide (s23.2.2.2.2.2.2.2.2.2.2.2.2.2.2.2.2.2.2.2 < (s23.2.2.2.2.2.2.2.2.2.2.2.2.2.2.2.2.1.length : Int)) then
              ixL s23.2.2.2.2.2.2.2.2.2.2.2.2.2.2.2.2.1 s23.2.2.2.2.2.2.2.2.2.2.2.2.2.2.2.2.2.2.2 fun x24 =>
              (ref17_num (s23.2.2.2.2.2.2.2.2.2.2.2.2.2.2.2.2.2.2.1, x24.1)).bind fun r25 =>
              ixL s23.2.2.2.2.2.2.2.2.2.2.2.2.2.2.2.2.1 s23.2.2.2.2.2.2.2.2.2.2.2.2.2.2.2.2.2.2.2 fun x26 =>
              (ref17_str (r25, x26.2)).bind fun r27 =>
              again22 (s23.1, (s23.2.1, (s23.2.2.1, (s23.2.2.2.1, (s23.2.2.2.2.1, (s23.2.2.2.2.2.1, (s23.2.2.2.2.2.2.1, (s23.2.2.2.2.2.2.2.1, (s23.2.2.2.2.2.2.2.2.1, (s23.2.2.2.2.2.2.2.2.2.1, (s23.2.2.2.2.2.2.2.2.2.2.1, (s23.2.2.2.2.2.2.2.2.2.2.2.1, (s23.2.2.2.2.2.2.2.2.2.2.2.2.1, (s23.2.2.2.2.2.2.2.2.2.2.2.2.2.1, (s23.2.2.2.2.2.2.2.2.2.2.2.2.2.2.1, (s23.2.2.2.2.2.2.2.2.2.2.2.2.2.2.2.1, (s23.2.2.2.2.2.2.2.2.2.2.2.2.2.2.2.2.1, (s23.2.2.2.2.2.2.2.2.2.2.2.2.2.2.2.2.2.1, (r27, (IntKind.wrap .i64 (s23.2.2.2.2.2.2.2.2.2.2.2.2.2.2.2.2.2.2.2 + 1)))))))))))))))))))))
            else
              (ref17_flag (s23.2.2.2.2.2.2.2.2.2.2.2.2.2.2.2.2.2.2.1, s23.2.2.2.2.2.2.2.2.2.2.2.2.2.2.2.2.2.1)).bind fun r28 =>
              some (toSL r28)) fuel (s13.1, (s13.2.1, (s13.2.2.1, (s13.2.2.2.1, (s13.2.2.2.2.1, (s13.2.2.2.2.2.1, (s13.2.2.2.2.2.2.1, (s13.2.2.2.2.2.2.2.1, (s13.2.2.2.2.2.2.2.2.1, (s13.2.2.2.2.2.2.2.2.2.1, (s13.2.2.2.2.2.2.2.2.2.2.1, (s13.2.2.2.2.2.2.2.2.2.2.2.1, (s13.2.2.2.2.2.2.2.2.2.2.2.2.1, (s13.2.2.2.2.2.2.2.2.2.2.2.2.2.1, (s13.2.2.2.2.2.2.2.2.2.2.2.2.2.2.1, (s13.2.2.2.2.2.2.2.2.2.2.2.2.2.2.2.1, (s13.2.2.2.2.2.2.2.2.2.2.2.2.2.2.2.2.1, (s13.2.2.2.2.2.2.2.2.2.2.2.2.2.2.2.2.2.1, (r21, 0)))))))))))))))))))) fuel (s4.1, (s4.2.1, (s4.2.2.1, (s4.2.2.2.1, (s4.2.2.2.2.1, (s4.2.2.2.2.2.1, (s4.2.2.2.2.2.2.1, (s4.2.2.2.2.2.2.2.1, (s4.2.2.2.2.2.2.2.2.1, (s4.2.2.2.2.2.2.2.2.2.1, (s4.2.2.2.2.2.2.2.2.2.2.1, (s4.2.2.2.2.2.2.2.2.2.2.2.1, (s4.2.2.2.2.2.2.2.2.2.2.2.2.1, (s4.2.2.2.2.2.2.2.2.2.2.2.2.2.1, (s4.2.2.2.2.2.2.2.2.2.2.2.2.2.2.1, (s4.2.2.2.2.2.2.2.2.2.2.2.2.2.2.2.1, (s4.2.2.2.2.2.2.2.2.2.2.2.2.2.2.2.2.1, (s4.2.2.2.2.2.2.2.2.2.2.2.2.2.2.2.2.2.1, (r11, 0)))))))))))))))))))) fuel (x.1, (x.2.1, (x.2.2.1, (x.2.2.2.1, (x.2.2.2.2.1, (x.2.2.2.2.2.1, (x.2.2.2.2.2.2.1, (x.2.2.2.2.2.2.2.1, (x.2.2.2.2.2.2.2.2.1, (x.2.2.2.2.2.2.2.2.2.1, (x.2.2.2.2.2.2.2.2.2.2.1, (x.2.2.2.2.2.2.2.2.2.2.2.1, (x.2.2.2.2.2.2.2.2.2.2.2.2.1, (x.2.2.2.2.2.2.2.2.2.2.2.2.2.1, (x.2.2.2.2.2.2.2.2.2.2.2.2.2.2.1, (x.2.2.2.2.2.2.2.2.2.2.2.2.2.2.2.1, (x.2.2.2.2.2.2.2.2.2.2.2.2.2.2.2.2.1, (x.2.2.2.2.2.2.2.2.2.2.2.2.2.2.2.2.2, (r2, 0)))))))))))))))))))
noncomputable def law17_Few (x : (Int × ((List ((List UInt8) × (List UInt8))) × ((List ((List UInt8) × (Bool × ((List UInt8) × (Int × Int))))) × (Int × (Int × (Int × (Int × ((List Int) × ((List ((List UInt8) × (Bool × ((List UInt8) × (Int × Int))))) × (Bool × (Int × (Int × (Int × (Int × ((List ((List UInt8) × (Bool × ((List UInt8) × (Int × Int))))) × ((List (List UInt8)) × ((List (Int × (List UInt8))) × Bool)))))))))))))))))) : Option Bool :=
  (law04_Few x.2.1).bind fun r1 =>
  (law09_Few x.2.2.1).bind fun r2 =>
  (law09_Few x.2.2.2.2.2.2.2.2.1).bind fun r3 =>
  (law09_Few x.2.2.2.2.2.2.2.2.2.2.2.2.2.2.1).bind fun r4 =>
  if (!r1) then
    some false
  else
    if (!r2) then
      some false
    else
      if (!r3) then
        some false
      else
        if (!r4) then
          some false
        else
          if decide ((x.2.2.2.2.2.2.2.1.length : Int) > 250) then
            some false
          else
            if decide ((x.2.2.2.2.2.2.2.2.2.2.2.2.2.2.2.1.length : Int) > 60) then
              some false
            else
              if decide ((x.2.2.2.2.2.2.2.2.2.2.2.2.2.2.2.2.1.length : Int) > 250) then
                some false
              else
                fixS (S := (Int × ((List ((List UInt8) × (List UInt8))) × ((List ((List UInt8) × (Bool × ((List UInt8) × (Int × Int))))) × (Int × (Int × (Int × (Int × ((List Int) × ((List ((List UInt8) × (Bool × ((List UInt8) × (Int × Int))))) × (Bool × (Int × (Int × (Int × (Int × ((List ((List UInt8) × (Bool × ((List UInt8) × (Int × Int))))) × ((List (List UInt8)) × ((List (Int × (List UInt8))) × (Bool × Int))))))))))))))))))) (R := Bool) (fun again5 s6 =>
                  if decide (s6.2.2.2.2.2.2.2.2.2.2.2.2.2.2.2.2.2.2 < (s6.2.2.2.2.2.2.2.2.2.2.2.2.2.2.2.1.length : Int)) then
                    ixL s6.2.2.2.2.2.2.2.2.2.2.2.2.2.2.2.1 s6.2.2.2.2.2.2.2.2.2.2.2.2.2.2.2.2.2.2 fun x7 =>
                    if decide ((x7.length : Int) > 100) then
                      some false
                    else
                      again5 (s6.1, (s6.2.1, (s6.2.2.1, (s6.2.2.2.1, (s6.2.2.2.2.1, (s6.2.2.2.2.2.1, (s6.2.2.2.2.2.2.1, (s6.2.2.2.2.2.2.2.1, (s6.2.2.2.2.2.2.2.2.1, (s6.2.2.2.2.2.2.2.2.2.1, (s6.2.2.2.2.2.2.2.2.2.2.1, (s6.2.2.2.2.2.2.2.2.2.2.2.1, (s6.2.2.2.2.2.2.2.2.2.2.2.2.1, (s6.2.2.2.2.2.2.2.2.2.2.2.2.2.1, (s6.2.2.2.2.2.2.2.2.2.2.2.2.2.2.1, (s6.2.2.2.2.2.2.2.2.2.2.2.2.2.2.2.1, (s6.2.2.2.2.2.2.2.2.2.2.2.2.2.2.2.2.1, (s6.2.2.2.2.2.2.2.2.2.2.2.2.2.2.2.2.2.1, (IntKind.wrap .i64 (s6.2.2.2.2.2.2.2.2.2.2.2.2.2.2.2.2.2.2 + 1))))))))))))))))))))
                  else
                    fixS (S := (Int × ((List ((List UInt8) × (List UInt8))) × ((List ((List UInt8) × (Bool × ((List UInt8) × (Int × Int))))) × (Int × (Int × (Int × (Int × ((List Int) × ((List ((List UInt8) × (Bool × ((List UInt8) × (Int × Int))))) × (Bool × (Int × (Int × (Int × (Int × ((List ((List UInt8) × (Bool × ((List UInt8) × (Int × Int))))) × ((List (List UInt8)) × ((List (Int × (List UInt8))) × (Bool × Int))))))))))))))))))) (R := Bool) (fun again8 s9 =>
                      if decide (s9.2.2.2.2.2.2.2.2.2.2.2.2.2.2.2.2.2.2 < (s9.2.2.2.2.2.2.2.2.2.2.2.2.2.2.2.2.1.length : Int)) then
                        ixL s9.2.2.2.2.2.2.2.2.2.2.2.2.2.2.2.2.1 s9.2.2.2.2.2.2.2.2.2.2.2.2.2.2.2.2.2.2 fun x10 =>
                        if decide ((x10.2.length : Int) > 100) then
                          some false
                        else
                          again8 (s9.1, (s9.2.1, (s9.2.2.1, (s9.2.2.2.1, (s9.2.2.2.2.1, (s9.2.2.2.2.2.1, (s9.2.2.2.2.2.2.1, (s9.2.2.2.2.2.2.2.1, (s9.2.2.2.2.2.2.2.2.1, (s9.2.2.2.2.2.2.2.2.2.1, (s9.2.2.2.2.2.2.2.2.2.2.1, (s9.2.2.2.2.2.2.2.2.2.2.2.1, (s9.2.2.2.2.2.2.2.2.2.2.2.2.1, (s9.2.2.2.2.2.2.2.2.2.2.2.2.2.1, (s9.2.2.2.2.2.2.2.2.2.2.2.2.2.2.1, (s9.2.2.2.2.2.2.2.2.2.2.2.2.2.2.2.1, (s9.2.2.2.2.2.2.2.2.2.2.2.2.2.2.2.2.1, (s9.2.2.2.2.2.2.2.2.2.2.2.2.2.2.2.2.2.1, (IntKind.wrap .i64 (s9.2.2.2.2.2.2.2.2.2.2.2.2.2.2.2.2.2.2 + 1))))))))))))))))))))
                      else
                        some true) fuel (s6.1, (s6.2.1, (s6.2.2.1, (s6.2.2.2.1, (s6.2.2.2.2.1, (s6.2.2.2.2.2.1, (s6.2.2.2.2.2.2.1, (s6.2.2.2.2.2.2.2.1, (s6.2.2.2.2.2.2.2.2.1, (s6.2.2.2.2.2.2.2.2.2.1, (s6.2.2.2.2.2.2.2.2.2.2.1, (s6.2.2.2.2.2.2.2.2.2.2.2.1, (s6.2.2.2.2.2.2.2.2.2.2.2.2.1, (s6.2.2.2.2.2.2.2.2.2.2.2.2.2.1, (s6.2.2.2.2.2.2.2.2.2.2.2.2.2.2.1, (s6.2.2.2.2.2.2.2.2.2.2.2.2.2.2.2.1, (s6.2.2.2.2.2.2.2.2.2.2.2.2.2.2.2.2.1, (s6.2.2.2.2.2.2.2.2.2.2.2.2.2.2.2.2.2.1, 0))))))))))))))))))) fuel (x.1, (x.2.1, (x.2.2.1, (x.2.2.2.1, (x.2.2.2.2.1, (x.2.2.2.2.2.1, (x.2.2.2.2.2.2.1, (x.2.2.2.2.2.2.2.1, (x.2.2.2.2.2.2.2.2.1, (x.2.2.2.2.2.2.2.2.2.1, (x.2.2.2.2.2.2.2.2.2.2.1, (x.2.2.2.2.2.2.2.2.2.2.2.1, (x.2.2.2.2.2.2.2.2.2.2.2.2.1, (x.2.2.2.2.2.2.2.2.2.2.2.2.2.1, (x.2.2.2.2.2.2.2.2.2.2.2.2.2.2.1, (x.2.2.2.2.2.2.2.2.2.2.2.2.2.2.2.1, (x.2.2.2.2.2.2.2.2.2.2.2.2.2.2.2.2.1, (x.2.2.2.2.2.2.2.2.2.2.2.2.2.2.2.2.2, 0))))))))))))))))))
noncomputable def state_within_1 (x : (Int × Int)) : Option Bool :=
  if decide (x.1 < 0) then
    some true
  else
    some (decide (x.1 > x.2))
noncomputable def slices_IndexFunc_int_state_within_1 (x : ((List Int) × Int)) : Option Int :=
  fixS (S := Int) (R := Int) (fun again1 s2 =>
    if decide (s2 < (x.1.length : Int)) then
      ixL x.1 s2 fun x3 =>
      (state_within_1 (x3, x.2)).bind fun r4 =>
      if r4 then
        some s2
      else
        again1 (IntKind.wrap .i64 (s2 + 1))
    else
      some (-1)) fuel 0
noncomputable def slices_ContainsFunc_int_state_within_1 (x : ((List Int) × Int)) : Option Bool :=
  (slices_IndexFunc_int_state_within_1 (x.1, x.2)).bind fun r1 =>
  some (decide (r1 ≥ 0))
noncomputable def state_within (x : (Int × (List Int))) : Option Bool :=
  (slices_ContainsFunc_int_state_within_1 (x.2, x.1)).bind fun r1 =>
  some (!r1)
noncomputable def state_chained (x : (Int × ((List ((List UInt8) × (List UInt8))) × ((List ((List UInt8) × (Bool × ((List UInt8) × (Int × Int))))) × (Int × (Int × (Int × (Int × ((List Int) × ((List ((List UInt8) × (Bool × ((List UInt8) × (Int × Int))))) × (Bool × (Int × (Int × (Int × (Int × ((List ((List UInt8) × (Bool × ((List UInt8) × (Int × Int))))) × ((List (List UInt8)) × ((List (Int × (List UInt8))) × Bool)))))))))))))))))) : Option Bool :=
  if decide ((x.2.2.2.2.2.2.2.1.length : Int) > 0) then
    ixL x.2.2.2.2.2.2.2.1 (IntKind.wrap .i64 ((x.2.2.2.2.2.2.2.1.length : Int) - 1)) fun x1 =>
    if decide ((x.2.2.2.2.2.2.2.1.length : Int) ≤ 200) then
      (state_within (4294967295, x.2.2.2.2.2.2.2.1)).bind fun r2 =>
      if r2 then
        (state_within (100, [x.2.2.2.2.2.1])).bind fun r3 =>
        if r3 then
          some ((x.2.2.2.1 == (x.2.2.2.2.2.2.2.1.length : Int)) && ((x.2.2.2.2.1 == x1) && ((x.2.2.2.2.2.1 == x.2.2.2.2.2.1) && (x.2.2.2.2.2.2.1 == 0))))
        else
          some false
      else
        some false
    else
      some false
  else
    if decide ((x.2.2.2.2.2.2.2.1.length : Int) ≤ 200) then
      (state_within (4294967295, x.2.2.2.2.2.2.2.1)).bind fun r4 =>
      if r4 then
        (state_within (100, [x.2.2.2.2.2.1])).bind fun r5 =>
        if r5 then
          some ((x.2.2.2.1 == (x.2.2.2.2.2.2.2.1.length : Int)) && ((x.2.2.2.2.1 == 0) && ((x.2.2.2.2.2.1 == x.2.2.2.2.2.1) && (x.2.2.2.2.2.2.1 == 0))))
        else
          some false
      else
        some false
    else
      some false
noncomputable def state_Right (x : (Int × ((List ((List UInt8) × (List UInt8))) × ((List ((List UInt8) × (Bool × ((List UInt8) × (Int × Int))))) × (Int × (Int × (Int × (Int × ((List Int) × ((List ((List UInt8) × (Bool × ((List UInt8) × (Int × Int))))) × (Bool × (Int × (Int × (Int × (Int × ((List ((List UInt8) × (Bool × ((List UInt8) × (Int × Int))))) × ((List (List UInt8)) × ((List (Int × (List UInt8))) × Bool)))))))))))))))))) : Option Bool :=
  (scan_Right x.2.2.1).bind fun r1 =>
  if (!r1) then
    some false
  else
    (scan_Right x.2.2.2.2.2.2.2.2.1).bind fun r2 =>
    if (!r2) then
      some false
    else
      (scan_Right x.2.2.2.2.2.2.2.2.2.2.2.2.2.2.1).bind fun r3 =>
      if (!r3) then
        some false
      else
        fixS (S := (Int × ((List ((List UInt8) × (List UInt8))) × ((List ((List UInt8) × (Bool × ((List UInt8) × (Int × Int))))) × (Int × (Int × (Int × (Int × ((List Int) × ((List ((List UInt8) × (Bool × ((List UInt8) × (Int × Int))))) × (Bool × (Int × (Int × (Int × (Int × ((List ((List UInt8) × (Bool × ((List UInt8) × (Int × Int))))) × ((List (List UInt8)) × ((List (Int × (List UInt8))) × (Bool × Int))))))))))))))))))) (R := Bool) (fun again4 s5 =>
          if decide (s5.2.2.2.2.2.2.2.2.2.2.2.2.2.2.2.2.2.2 < (x.2.2.2.2.2.2.2.2.2.2.2.2.2.2.2.2.1.length : Int)) then
            ixL x.2.2.2.2.2.2.2.2.2.2.2.2.2.2.2.2.1 s5.2.2.2.2.2.2.2.2.2.2.2.2.2.2.2.2.2.2 fun x6 =>
            (state_within (4294967295, [x6.1])).bind fun r7 =>
            if (!r7) then
              some false
            else
              if decide ((x6.2.length : Int) > 16) then
                some false
              else
                again4 (s5.1, (s5.2.1, (s5.2.2.1, (s5.2.2.2.1, (s5.2.2.2.2.1, (s5.2.2.2.2.2.1, (s5.2.2.2.2.2.2.1, (s5.2.2.2.2.2.2.2.1, (s5.2.2.2.2.2.2.2.2.1, (s5.2.2.2.2.2.2.2.2.2.1, (s5.2.2.2.2.2.2.2.2.2.2.1, (s5.2.2.2.2.2.2.2.2.2.2.2.1, (s5.2.2.2.2.2.2.2.2.2.2.2.2.1, (s5.2.2.2.2.2.2.2.2.2.2.2.2.2.1, (s5.2.2.2.2.2.2.2.2.2.2.2.2.2.2.1, (s5.2.2.2.2.2.2.2.2.2.2.2.2.2.2.2.1, (s5.2.2.2.2.2.2.2.2.2.2.2.2.2.2.2.2.1, (s5.2.2.2.2.2.2.2.2.2.2.2.2.2.2.2.2.2.1, (IntKind.wrap .i64 (s5.2.2.2.2.2.2.2.2.2.2.2.2.2.2.2.2.2.2 + 1))))))))))))))))))))
          else
            (state_within (200, [s5.2.2.2.2.2.2.2.2.2.2.1])).bind fun r8 =>
            if r8 then
              (state_within (4294967295, [s5.2.2.2.2.2.2.2.2.2.2.2.1, s5.2.2.2.2.2.2.2.2.2.2.2.2.2.1])).bind fun r9 =>
              if r9 then
                (state_within (100, [s5.2.2.2.2.2.2.2.2.2.2.2.2.1])).bind fun r10 =>
                (state_within (1, [s5.1])).bind fun r11 =>
                if r11 then
                  (tree_Right s5.2.1).bind fun r12 =>
                  if r12 then
                    (state_chained (s5.1, (s5.2.1, (s5.2.2.1, (s5.2.2.2.1, (s5.2.2.2.2.1, (s5.2.2.2.2.2.1, (s5.2.2.2.2.2.2.1, (s5.2.2.2.2.2.2.2.1, (s5.2.2.2.2.2.2.2.2.1, (s5.2.2.2.2.2.2.2.2.2.1, (s5.2.2.2.2.2.2.2.2.2.2.1, (s5.2.2.2.2.2.2.2.2.2.2.2.1, (s5.2.2.2.2.2.2.2.2.2.2.2.2.1, (s5.2.2.2.2.2.2.2.2.2.2.2.2.2.1, (s5.2.2.2.2.2.2.2.2.2.2.2.2.2.2.1, (s5.2.2.2.2.2.2.2.2.2.2.2.2.2.2.2.1, (s5.2.2.2.2.2.2.2.2.2.2.2.2.2.2.2.2.1, s5.2.2.2.2.2.2.2.2.2.2.2.2.2.2.2.2.2.1)))))))))))))))))).bind fun r13 =>
                    if r13 then
                      if r10 then
                        (path_Sorted s5.2.2.2.2.2.2.2.2.2.2.2.2.2.2.2.1).bind fun r14 =>
                        if r14 then
                          if decide ((s5.2.2.2.2.2.2.2.2.2.2.2.2.2.2.2.1.length : Int) ≤ 32) then
                            some (decide ((s5.2.2.2.2.2.2.2.2.2.2.2.2.2.2.2.2.1.length : Int) ≤ 200))
                          else
                            some false
                        else
                          some false
                      else
                        some false
                    else
                      some false
                  else
                    some false
                else
                  some false
              else
                (state_within (1, [s5.1])).bind fun r15 =>
                if r15 then
                  (tree_Right s5.2.1).bind fun r16 =>
                  if r16 then
                    (state_chained (s5.1, (s5.2.1, (s5.2.2.1, (s5.2.2.2.1, (s5.2.2.2.2.1, (s5.2.2.2.2.2.1, (s5.2.2.2.2.2.2.1, (s5.2.2.2.2.2.2.2.1, (s5.2.2.2.2.2.2.2.2.1, (s5.2.2.2.2.2.2.2.2.2.1, (s5.2.2.2.2.2.2.2.2.2.2.1, (s5.2.2.2.2.2.2.2.2.2.2.2.1, (s5.2.2.2.2.2.2.2.2.2.2.2.2.1, (s5.2.2.2.2.2.2.2.2.2.2.2.2.2.1, (s5.2.2.2.2.2.2.2.2.2.2.2.2.2.2.1, (s5.2.2.2.2.2.2.2.2.2.2.2.2.2.2.2.1, (s5.2.2.2.2.2.2.2.2.2.2.2.2.2.2.2.2.1, s5.2.2.2.2.2.2.2.2.2.2.2.2.2.2.2.2.2.1)))))))))))))))))).bind fun r17 =>
                    if r17 then
                      some false
                    else
                      some false
                  else
                    some false
                else
                  some false
            else
              (state_within (1, [s5.1])).bind fun r18 =>
              if r18 then
                (tree_Right s5.2.1).bind fun r19 =>
                if r19 then
                  (state_chained (s5.1, (s5.2.1, (s5.2.2.1, (s5.2.2.2.1, (s5.2.2.2.2.1, (s5.2.2.2.2.2.1, (s5.2.2.2.2.2.2.1, (s5.2.2.2.2.2.2.2.1, (s5.2.2.2.2.2.2.2.2.1, (s5.2.2.2.2.2.2.2.2.2.1, (s5.2.2.2.2.2.2.2.2.2.2.1, (s5.2.2.2.2.2.2.2.2.2.2.2.1, (s5.2.2.2.2.2.2.2.2.2.2.2.2.1, (s5.2.2.2.2.2.2.2.2.2.2.2.2.2.1, (s5.2.2.2.2.2.2.2.2.2.2.2.2.2.2.1, (s5.2.2.2.2.2.2.2.2.2.2.2.2.2.2.2.1, (s5.2.2.2.2.2.2.2.2.2.2.2.2.2.2.2.2.1, s5.2.2.2.2.2.2.2.2.2.2.2.2.2.2.2.2.2.1)))))))))))))))))).bind fun r20 =>
                  if r20 then
                    some false
                  else
                    some false
                else
                  some false
              else
                some false) fuel (x.1, (x.2.1, (x.2.2.1, (x.2.2.2.1, (x.2.2.2.2.1, (x.2.2.2.2.2.1, (x.2.2.2.2.2.2.1, (x.2.2.2.2.2.2.2.1, (x.2.2.2.2.2.2.2.2.1, (x.2.2.2.2.2.2.2.2.2.1, (x.2.2.2.2.2.2.2.2.2.2.1, (x.2.2.2.2.2.2.2.2.2.2.2.1, (x.2.2.2.2.2.2.2.2.2.2.2.2.1, (x.2.2.2.2.2.2.2.2.2.2.2.2.2.1, (x.2.2.2.2.2.2.2.2.2.2.2.2.2.2.1, (x.2.2.2.2.2.2.2.2.2.2.2.2.2.2.2.1, (x.2.2.2.2.2.2.2.2.2.2.2.2.2.2.2.2.1, (x.2.2.2.2.2.2.2.2.2.2.2.2.2.2.2.2.2, 0))))))))))))))))))
noncomputable def slices_Clone_byte (x : List Int) : Option (List Int) := if x.length * 1 ≤ 35184372088832 then some x else none
noncomputable def wire_Number (x : ((List Int) × Int)) : Option (List Int) :=
  (slices_Clone_byte x.1).bind fun r1 =>
  fixS (S := ((List Int) × Int)) (R := (List Int)) (fun again2 s3 =>
    if decide (s3.2 ≥ 0) then
      shG .shr .i64 (if 0 < (if 4294967295 < x.2 then 4294967295 else x.2) then (if 4294967295 < x.2 then 4294967295 else x.2) else 0) (IntKind.wrap .i64 (8 * s3.2)) fun n4 =>
      if (fitsB 1 ((s3.1 ++ [(IntKind.wrap .u8 n4)]).length : Int)) then
        again2 ((s3.1 ++ [(IntKind.wrap .u8 n4)]), (IntKind.wrap .i64 (s3.2 - 1)))
      else none
    else
      some s3.1) fuel (r1, 3)
noncomputable def wire_String (x : ((List Int) × (List UInt8))) : Option (List Int) :=
  cutL x.2 0 (if 16384 < (x.2.length : Int) then 16384 else (x.2.length : Int)) fun y1 =>
  (wire_Number (x.1, (y1.length : Int))).bind fun r2 =>
  if (fitsB 1 ((r2 ++ (toBL y1)).length : Int)) then
    some (r2 ++ (toBL y1))
  else none
noncomputable def state_file (x : ((List Int) × ((List UInt8) × (List UInt8)))) : Option (List Int) :=
  (wire_String (x.1, x.2.1)).bind fun r1 =>
  (wire_String (r1, x.2.2)).bind fun r2 =>
  some r2
noncomputable def state_row_File_state_file (x : ((List Int) × (List ((List UInt8) × (List UInt8))))) : Option (List Int) :=
  (wire_Number (x.1, (x.2.length : Int))).bind fun r1 =>
  fixS (S := ((List Int) × Int)) (R := (List Int)) (fun again2 s3 =>
    if decide (s3.2 < (x.2.length : Int)) then
      ixL x.2 s3.2 fun x4 =>
      (state_file (s3.1, (x4.1, x4.2))).bind fun r5 =>
      again2 (r5, (IntKind.wrap .i64 (s3.2 + 1)))
    else
      some s3.1) fuel (r1, 0)
noncomputable def state_flag (x : ((List Int) × Bool)) : Option (List Int) :=
  if x.2 then
    (wire_Number (x.1, 1)).bind fun r1 =>
    some r1
  else
    (wire_Number (x.1, 0)).bind fun r2 =>
    some r2
noncomputable def state_numbers (x : ((List Int) × (List Int))) : Option (List Int) :=
  fixS (S := ((List Int) × Int)) (R := (List Int)) (fun again1 s2 =>
    if decide (s2.2 < (x.2.length : Int)) then
      ixL x.2 s2.2 fun x3 =>
      (wire_Number (s2.1, x3)).bind fun r4 =>
      again1 (r4, (IntKind.wrap .i64 (s2.2 + 1)))
    else
      some s2.1) fuel (x.1, 0)
noncomputable def state_entry (x : ((List Int) × ((List UInt8) × (Bool × ((List UInt8) × (Int × Int)))))) : Option (List Int) :=
  (wire_String (x.1, x.2.1)).bind fun r1 =>
  (state_flag (r1, x.2.2.1)).bind fun r2 =>
  (wire_String (r2, x.2.2.2.1)).bind fun r3 =>
  (state_numbers (r3, [x.2.2.2.2.1, x.2.2.2.2.2])).bind fun r4 =>
  some r4
noncomputable def state_row_Entry_state_entry (x : ((List Int) × (List ((List UInt8) × (Bool × ((List UInt8) × (Int × Int))))))) : Option (List Int) :=
  (wire_Number (x.1, (x.2.length : Int))).bind fun r1 =>
  fixS (S := ((List Int) × Int)) (R := (List Int)) (fun again2 s3 =>
    if decide (s3.2 < (x.2.length : Int)) then
      ixL x.2 s3.2 fun x4 =>
      (state_entry (s3.1, (x4.1, (x4.2.1, (x4.2.2.1, (x4.2.2.2.1, x4.2.2.2.2)))))).bind fun r5 =>
      again2 (r5, (IntKind.wrap .i64 (s3.2 + 1)))
    else
      some s3.1) fuel (r1, 0)
noncomputable def state_cursor (x : ((List Int) × (Int × (Int × (Int × Int))))) : Option (List Int) :=
  (state_numbers (x.1, [x.2.1, x.2.2.1, x.2.2.2.1, x.2.2.2.2])).bind fun r1 =>
  some r1
noncomputable def state_row_int_wire_Number (x : ((List Int) × (List Int))) : Option (List Int) :=
  (wire_Number (x.1, (x.2.length : Int))).bind fun r1 =>
  fixS (S := ((List Int) × Int)) (R := (List Int)) (fun again2 s3 =>
    if decide (s3.2 < (x.2.length : Int)) then
      ixL x.2 s3.2 fun x4 =>
      (wire_Number (s3.1, x4)).bind fun r5 =>
      again2 (r5, (IntKind.wrap .i64 (s3.2 + 1)))
    else
      some s3.1) fuel (r1, 0)
noncomputable def wire_Row (x : ((List Int) × (List (List UInt8)))) : Option (List Int) :=
  cutL x.2 0 (if 256 < (x.2.length : Int) then 256 else (x.2.length : Int)) fun y1 =>
  (wire_Number (x.1, (y1.length : Int))).bind fun r2 =>
  fixS (S := ((List Int) × Int)) (R := (List Int)) (fun again3 s4 =>
    if decide (s4.2 < (y1.length : Int)) then
      ixL y1 s4.2 fun x5 =>
      (wire_String (s4.1, x5)).bind fun r6 =>
      again3 (r6, (IntKind.wrap .i64 (s4.2 + 1)))
    else
      some s4.1) fuel (r2, 0)
noncomputable def state_put (x : ((List Int) × (Int × (List UInt8)))) : Option (List Int) :=
  (wire_Number (x.1, x.2.1)).bind fun r1 =>
  (wire_String (r1, x.2.2)).bind fun r2 =>
  some r2
noncomputable def state_row_Put_state_put (x : ((List Int) × (List (Int × (List UInt8))))) : Option (List Int) :=
  (wire_Number (x.1, (x.2.length : Int))).bind fun r1 =>
  fixS (S := ((List Int) × Int)) (R := (List Int)) (fun again2 s3 =>
    if decide (s3.2 < (x.2.length : Int)) then
      ixL x.2 s3.2 fun x4 =>
      (state_put (s3.1, (x4.1, x4.2))).bind fun r5 =>
      again2 (r5, (IntKind.wrap .i64 (s3.2 + 1)))
    else
      some s3.1) fuel (r1, 0)
noncomputable def state_Bytes (x : (Int × ((List ((List UInt8) × (List UInt8))) × ((List ((List UInt8) × (Bool × ((List UInt8) × (Int × Int))))) × (Int × (Int × (Int × (Int × ((List Int) × ((List ((List UInt8) × (Bool × ((List UInt8) × (Int × Int))))) × (Bool × (Int × (Int × (Int × (Int × ((List ((List UInt8) × (Bool × ((List UInt8) × (Int × Int))))) × ((List (List UInt8)) × ((List (Int × (List UInt8))) × Bool)))))))))))))))))) : Option (List UInt8) :=
  (wire_Number ([], x.1)).bind fun r1 =>
  (state_row_File_state_file (r1, x.2.1)).bind fun r2 =>
  (state_row_Entry_state_entry (r2, x.2.2.1)).bind fun r3 =>
  (state_cursor (r3, (x.2.2.2.1, (x.2.2.2.2.1, (x.2.2.2.2.2.1, x.2.2.2.2.2.2.1))))).bind fun r4 =>
  (state_row_int_wire_Number (r4, x.2.2.2.2.2.2.2.1)).bind fun r5 =>
  (state_row_Entry_state_entry (r5, x.2.2.2.2.2.2.2.2.1)).bind fun r6 =>
  (state_flag (r6, x.2.2.2.2.2.2.2.2.2.1)).bind fun r7 =>
  (state_cursor (r7, (x.2.2.2.2.2.2.2.2.2.2.1, (x.2.2.2.2.2.2.2.2.2.2.2.1, (x.2.2.2.2.2.2.2.2.2.2.2.2.1, x.2.2.2.2.2.2.2.2.2.2.2.2.2.1))))).bind fun r8 =>
  (state_row_Entry_state_entry (r8, x.2.2.2.2.2.2.2.2.2.2.2.2.2.2.1)).bind fun r9 =>
  (wire_Row (r9, x.2.2.2.2.2.2.2.2.2.2.2.2.2.2.2.1)).bind fun r10 =>
  (state_row_Put_state_put (r10, x.2.2.2.2.2.2.2.2.2.2.2.2.2.2.2.2.1)).bind fun r11 =>
  (state_flag (r11, x.2.2.2.2.2.2.2.2.2.2.2.2.2.2.2.2.2)).bind fun r12 =>
  some (toSL r12)
end Go.Proofs.W.Q17

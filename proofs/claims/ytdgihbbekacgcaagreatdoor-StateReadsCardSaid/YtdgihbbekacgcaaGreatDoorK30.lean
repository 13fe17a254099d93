/- What is left of the functions of chapter 11, once memory is out of sight. -/
import Derived.Test.YtdgihbbekacgcaaGreatDoorK20
import Derived.Test.YtdgihbbekacgcaaGreatDoorK29
namespace Go.Proofs.W.Q11
open Go Go.Proofs.V Go.Proofs.W.Q9 Go.Proofs.W.Q10
set_option linter.unusedVariables false
set_option linter.unusedSimpArgs false
end Go.Proofs.W.Q11
namespace Go.Proofs.W.Q11
open Go Go.Proofs.V Go.Proofs.W.Q9 Go.Proofs.W.Q10
set_option linter.unusedVariables false
set_option linter.unusedSimpArgs false
end Go.Proofs.W.Q11
namespace Go.Proofs.W.Q17
open Go Go.Proofs.V Go.Proofs.W.Q9 Go.Proofs.W.Q10 Go.Proofs.W.Q11
set_option linter.unusedVariables false
set_option linter.unusedSimpArgs false
noncomputable def ref03_Sorted (x : (List (List UInt8))) : Option Bool :=
  fixS (S := Int) (R := Bool) (fun again1 s2 =>
    if decide (s2 < (x.length : Int)) then
      ixL x s2 fun x3 =>
      (ref03_Right x3).bind fun r4 =>
      if (!r4) then
        some false
      else
        if decide (s2 > 0) then
          ixL x s2 fun x5 =>
          ixL x (IntKind.wrap .i64 (s2 - 1)) fun x6 =>
          if (Op.bytesLess x5 x6 || x5 == x6) then
            some false
          else
            again1 (IntKind.wrap .i64 (s2 + 1))
        else
          again1 (IntKind.wrap .i64 (s2 + 1))
    else
      some true) fuel 0
noncomputable def ref17_within (x : (Int × Int)) : Option Bool :=
  if decide (x.1 ≥ 0) then
    some (decide (x.1 ≤ x.2))
  else
    some false
noncomputable def ref17_Right (x : (Int × ((List ((List UInt8) × (List UInt8))) × ((List ((List UInt8) × (Bool × ((List UInt8) × (Int × Int))))) × (Int × (Int × (Int × (Int × ((List Int) × ((List ((List UInt8) × (Bool × ((List UInt8) × (Int × Int))))) × (Bool × (Int × (Int × (Int × (Int × ((List ((List UInt8) × (Bool × ((List UInt8) × (Int × Int))))) × ((List (List UInt8)) × ((List (Int × (List UInt8))) × Bool)))))))))))))))))) : Option Bool :=
  (ref04_Right x.2.1).bind fun r1 =>
  (ref09_Right x.2.2.1).bind fun r2 =>
  (ref09_Right x.2.2.2.2.2.2.2.2.1).bind fun r3 =>
  (ref09_Right x.2.2.2.2.2.2.2.2.2.2.2.2.2.2.1).bind fun r4 =>
  (ref03_Sorted x.2.2.2.2.2.2.2.2.2.2.2.2.2.2.2.1).bind fun r5 =>
  (ref17_within (x.1, 1)).bind fun r6 =>
  if (!r6) then
    some false
  else
    if (!r1) then
      some false
    else
      if (!r2) then
        some false
      else
        if (!r3) then
          some false
        else
          if (!r4) then
            some false
          else
            if (!r5) then
              some false
            else
              if decide ((x.2.2.2.2.2.2.2.2.2.2.2.2.2.2.2.1.length : Int) > 32) then
                some false
              else
                if decide ((x.2.2.2.2.2.2.2.2.2.2.2.2.2.2.2.2.1.length : Int) > 200) then
                  some false
                else
                  if decide ((x.2.2.2.2.2.2.2.1.length : Int) > 200) then
                    some false
                  else
                    fixS (S := (Int × ((List ((List UInt8) × (List UInt8))) × ((List ((List UInt8) × (Bool × ((List UInt8) × (Int × Int))))) × (Int × (Int × (Int × (Int × ((List Int) × ((List ((List UInt8) × (Bool × ((List UInt8) × (Int × Int))))) × (Bool × (Int × (Int × (Int × (Int × ((List ((List UInt8) × (Bool × ((List UInt8) × (Int × Int))))) × ((List (List UInt8)) × ((List (Int × (List UInt8))) × (Bool × (Int × Int)))))))))))))))))))) (R := Bool) (fun again7 s8 =>
                      if decide (s8.2.2.2.2.2.2.2.2.2.2.2.2.2.2.2.2.2.2.2 < (s8.2.2.2.2.2.2.2.1.length : Int)) then
                        ixL s8.2.2.2.2.2.2.2.1 s8.2.2.2.2.2.2.2.2.2.2.2.2.2.2.2.2.2.2.2 fun x9 =>
                        (ref17_within (x9, 4294967295)).bind fun r10 =>
                        if (!r10) then
                          some false
                        else
                          again7 (s8.1, (s8.2.1, (s8.2.2.1, (s8.2.2.2.1, (s8.2.2.2.2.1, (s8.2.2.2.2.2.1, (s8.2.2.2.2.2.2.1, (s8.2.2.2.2.2.2.2.1, (s8.2.2.2.2.2.2.2.2.1, (s8.2.2.2.2.2.2.2.2.2.1, (s8.2.2.2.2.2.2.2.2.2.2.1, (s8.2.2.2.2.2.2.2.2.2.2.2.1, (s8.2.2.2.2.2.2.2.2.2.2.2.2.1, (s8.2.2.2.2.2.2.2.2.2.2.2.2.2.1, (s8.2.2.2.2.2.2.2.2.2.2.2.2.2.2.1, (s8.2.2.2.2.2.2.2.2.2.2.2.2.2.2.2.1, (s8.2.2.2.2.2.2.2.2.2.2.2.2.2.2.2.2.1, (s8.2.2.2.2.2.2.2.2.2.2.2.2.2.2.2.2.2.1, (x9, (IntKind.wrap .i64 (s8.2.2.2.2.2.2.2.2.2.2.2.2.2.2.2.2.2.2.2 + 1)))))))))))))))))))))
                      else
                        if (s8.2.2.2.1 != (s8.2.2.2.2.2.2.2.1.length : Int)) then
                          some false
                        else
                          if (s8.2.2.2.2.1 != s8.2.2.2.2.2.2.2.2.2.2.2.2.2.2.2.2.2.2.1) then
                            some false
                          else
                            (ref17_within (s8.2.2.2.2.2.1, 100)).bind fun r11 =>
                            if (!r11) then
                              some false
                            else
                              if (s8.2.2.2.2.2.2.1 != 0) then
                                some false
                              else
                                (ref17_within (s8.2.2.2.2.2.2.2.2.2.2.1, 200)).bind fun r12 =>
                                if (!r12) then
                                  some false
                                else
                                  (ref17_within (s8.2.2.2.2.2.2.2.2.2.2.2.1, 4294967295)).bind fun r13 =>
                                  if (!r13) then
                                    some false
                                  else
                                    (ref17_within (s8.2.2.2.2.2.2.2.2.2.2.2.2.1, 100)).bind fun r14 =>
                                    if (!r14) then
                                      some false
                                    else
                                      (ref17_within (s8.2.2.2.2.2.2.2.2.2.2.2.2.2.1, 4294967295)).bind fun r15 =>
                                      if (!r15) then
                                        some false
                                      else
                                        fixS (S := (Int × ((List ((List UInt8) × (List UInt8))) × ((List ((List UInt8) × (Bool × ((List UInt8) × (Int × Int))))) × (Int × (Int × (Int × (Int × ((List Int) × ((List ((List UInt8) × (Bool × ((List UInt8) × (Int × Int))))) × (Bool × (Int × (Int × (Int × (Int × ((List ((List UInt8) × (Bool × ((List UInt8) × (Int × Int))))) × ((List (List UInt8)) × ((List (Int × (List UInt8))) × (Bool × Int))))))))))))))))))) (R := Bool) (fun again16 s17 =>
                                          if decide (s17.2.2.2.2.2.2.2.2.2.2.2.2.2.2.2.2.2.2 < (s17.2.2.2.2.2.2.2.2.2.2.2.2.2.2.2.2.1.length : Int)) then
                                            ixL s17.2.2.2.2.2.2.2.2.2.2.2.2.2.2.2.2.1 s17.2.2.2.2.2.2.2.2.2.2.2.2.2.2.2.2.2.2 fun x18 =>
                                            (ref17_within (x18.1, 4294967295)).bind fun r19 =>
                                            if (!r19) then
                                              some false
                                            else
                                              ixL s17.2.2.2.2.2.2.2.2.2.2.2.2.2.2.2.2.1 s17.2.2.2.2.2.2.2.2.2.2.2.2.2.2.2.2.2.2 fun x20 =>
                                              if decide ((x20.2.length : Int) > 16) then
                                                some false
                                              else
                                                again16 (s17.1, (s17.2.1, (s17.2.2.1, (s17.2.2.2.1, (s17.2.2.2.2.1, (s17.2.2.2.2.2.1, (s17.2.2.2.2.2.2.1, (s17.2.2.2.2.2.2.2.1, (s17.2.2.2.2.2.2.2.2.1, (s17.2.2.2.2.2.2.2.2.2.1, (s17.2.2.2.2.2.2.2.2.2.2.1, (s17.2.2.2.2.2.2.2.2.2.2.2.1, (s17.2.2.2.2.2.2.2.2.2.2.2.2.1, (s17.2.2.2.2.2.2.2.2.2.2.2.2.2.1, (s17.2.2.2.2.2.2.2.2.2.2.2.2.2.2.1, (s17.2.2.2.2.2.2.2.2.2.2.2.2.2.2.2.1, (s17.2.2.2.2.2.2.2.2.2.2.2.2.2.2.2.2.1, (s17.2.2.2.2.2.2.2.2.2.2.2.2.2.2.2.2.2.1, (IntKind.wrap .i64 (s17.2.2.2.2.2.2.2.2.2.2.2.2.2.2.2.2.2.2 + 1))))))))))))))))))))
                                          else
                                            some true) fuel (s8.1, (s8.2.1, (s8.2.2.1, (s8.2.2.2.1, (s8.2.2.2.2.1, (s8.2.2.2.2.2.1, (s8.2.2.2.2.2.2.1, (s8.2.2.2.2.2.2.2.1, (s8.2.2.2.2.2.2.2.2.1, (s8.2.2.2.2.2.2.2.2.2.1, (s8.2.2.2.2.2.2.2.2.2.2.1, (s8.2.2.2.2.2.2.2.2.2.2.2.1, (s8.2.2.2.2.2.2.2.2.2.2.2.2.1, (s8.2.2.2.2.2.2.2.2.2.2.2.2.2.1, (s8.2.2.2.2.2.2.2.2.2.2.2.2.2.2.1, (s8.2.2.2.2.2.2.2.2.2.2.2.2.2.2.2.1, (s8.2.2.2.2.2.2.2.2.2.2.2.2.2.2.2.2.1, (s8.2.2.2.2.2.2.2.2.2.2.2.2.2.2.2.2.2.1, 0))))))))))))))))))) fuel (x.1, (x.2.1, (x.2.2.1, (x.2.2.2.1, (x.2.2.2.2.1, (x.2.2.2.2.2.1, (x.2.2.2.2.2.2.1, (x.2.2.2.2.2.2.2.1, (x.2.2.2.2.2.2.2.2.1, (x.2.2.2.2.2.2.2.2.2.1, (x.2.2.2.2.2.2.2.2.2.2.1, (x.2.2.2.2.2.2.2.2.2.2.2.1, (x.2.2.2.2.2.2.2.2.2.2.2.2.1, (x.2.2.2.2.2.2.2.2.2.2.2.2.2.1, (x.2.2.2.2.2.2.2.2.2.2.2.2.2.2.1, (x.2.2.2.2.2.2.2.2.2.2.2.2.2.2.2.1, (x.2.2.2.2.2.2.2.2.2.2.2.2.2.2.2.2.1, (x.2.2.2.2.2.2.2.2.2.2.2.2.2.2.2.2.2, (0, 0)))))))))))))))))))
noncomputable def ref12_Ints (x : ((List Int) × (List Int))) : Option Bool :=
  if ((x.1.length : Int) != (x.2.length : Int)) then
    some false
  else
    fixS (S := Int) (R := Bool) (fun again1 s2 =>
      if decide (s2 < (x.1.length : Int)) then
        ixL x.1 s2 fun x3 =>
        ixL x.2 s2 fun x4 =>
        if (x3 != x4) then
          some false
        else
          again1 (IntKind.wrap .i64 (s2 + 1))
      else
        some true) fuel 0
noncomputable def ref14_Puts (x : ((List (Int × (List UInt8))) × (List (Int × (List UInt8))))) : Option Bool :=
  if ((x.1.length : Int) != (x.2.length : Int)) then
    some false
  else
    fixS (S := Int) (R := Bool) (fun again1 s2 =>
      if decide (s2 < (x.1.length : Int)) then
        ixL x.1 s2 fun x3 =>
        ixL x.2 s2 fun x4 =>
        if (!((x3.1 == x4.1) && (x3.2 == x4.2))) then
          some false
        else
          again1 (IntKind.wrap .i64 (s2 + 1))
      else
        some true) fuel 0
noncomputable def ref17_Same (x : (Int × ((List ((List UInt8) × (List UInt8))) × ((List ((List UInt8) × (Bool × ((List UInt8) × (Int × Int))))) × (Int × (Int × (Int × (Int × ((List Int) × ((List ((List UInt8) × (Bool × ((List UInt8) × (Int × Int))))) × (Bool × (Int × (Int × (Int × (Int × ((List ((List UInt8) × (Bool × ((List UInt8) × (Int × Int))))) × ((List (List UInt8)) × ((List (Int × (List UInt8))) × (Bool × (Int × ((List ((List UInt8) × (List UInt8))) × ((List ((List UInt8) × (Bool × ((List UInt8) × (Int × Int))))) × (Int × (Int × (Int × (Int × ((List Int) × ((List ((List UInt8) × (Bool × ((List UInt8) × (Int × Int))))) × (Bool × (Int × (Int × (Int × (Int × ((List ((List UInt8) × (Bool × ((List UInt8) × (Int × Int))))) × ((List (List UInt8)) × ((List (Int × (List UInt8))) × Bool)))))))))))))))))))))))))))))))))))) : Option Bool :=
  (ref04_Same (x.2.1, x.2.2.2.2.2.2.2.2.2.2.2.2.2.2.2.2.2.2.2.1)).bind fun r1 =>
  (ref09_Same (x.2.2.1, x.2.2.2.2.2.2.2.2.2.2.2.2.2.2.2.2.2.2.2.2.1)).bind fun r2 =>
  (ref09_Same (x.2.2.2.2.2.2.2.2.1, x.2.2.2.2.2.2.2.2.2.2.2.2.2.2.2.2.2.2.2.2.2.2.2.2.2.2.1)).bind fun r3 =>
  (ref09_Same (x.2.2.2.2.2.2.2.2.2.2.2.2.2.2.1, x.2.2.2.2.2.2.2.2.2.2.2.2.2.2.2.2.2.2.2.2.2.2.2.2.2.2.2.2.2.2.2.2.1)).bind fun r4 =>
  (ref12_Ints (x.2.2.2.2.2.2.2.1, x.2.2.2.2.2.2.2.2.2.2.2.2.2.2.2.2.2.2.2.2.2.2.2.2.2.1)).bind fun r5 =>
  (ref01_Rows (x.2.2.2.2.2.2.2.2.2.2.2.2.2.2.2.1, x.2.2.2.2.2.2.2.2.2.2.2.2.2.2.2.2.2.2.2.2.2.2.2.2.2.2.2.2.2.2.2.2.2.1)).bind fun r6 =>
  (ref14_Puts (x.2.2.2.2.2.2.2.2.2.2.2.2.2.2.2.2.1, x.2.2.2.2.2.2.2.2.2.2.2.2.2.2.2.2.2.2.2.2.2.2.2.2.2.2.2.2.2.2.2.2.2.2.1)).bind fun r7 =>
  if (x.1 == x.2.2.2.2.2.2.2.2.2.2.2.2.2.2.2.2.2.2.1) then
    if r1 then
      if r2 then
        if r3 then
          if r4 then
            if r5 then
              if r6 then
                if r7 then
                  if ((x.2.2.2.1 == x.2.2.2.2.2.2.2.2.2.2.2.2.2.2.2.2.2.2.2.2.2.1) && ((x.2.2.2.2.1 == x.2.2.2.2.2.2.2.2.2.2.2.2.2.2.2.2.2.2.2.2.2.2.1) && ((x.2.2.2.2.2.1 == x.2.2.2.2.2.2.2.2.2.2.2.2.2.2.2.2.2.2.2.2.2.2.2.1) && (x.2.2.2.2.2.2.1 == x.2.2.2.2.2.2.2.2.2.2.2.2.2.2.2.2.2.2.2.2.2.2.2.2.1)))) then
                    if ((x.2.2.2.2.2.2.2.2.2.2.1 == x.2.2.2.2.2.2.2.2.2.2.2.2.2.2.2.2.2.2.2.2.2.2.2.2.2.2.2.2.1) && ((x.2.2.2.2.2.2.2.2.2.2.2.1 == x.2.2.2.2.2.2.2.2.2.2.2.2.2.2.2.2.2.2.2.2.2.2.2.2.2.2.2.2.2.1) && ((x.2.2.2.2.2.2.2.2.2.2.2.2.1 == x.2.2.2.2.2.2.2.2.2.2.2.2.2.2.2.2.2.2.2.2.2.2.2.2.2.2.2.2.2.2.1) && (x.2.2.2.2.2.2.2.2.2.2.2.2.2.1 == x.2.2.2.2.2.2.2.2.2.2.2.2.2.2.2.2.2.2.2.2.2.2.2.2.2.2.2.2.2.2.2.1)))) then
                      if (x.2.2.2.2.2.2.2.2.2.1 == x.2.2.2.2.2.2.2.2.2.2.2.2.2.2.2.2.2.2.2.2.2.2.2.2.2.2.2.1) then
                        some (x.2.2.2.2.2.2.2.2.2.2.2.2.2.2.2.2.2.1 == x.2.2.2.2.2.2.2.2.2.2.2.2.2.2.2.2.2.2.2.2.2.2.2.2.2.2.2.2.2.2.2.2.2.2.2)
                      else
                        some false
                    else
                      some false
                  else
                    some false
                else
                  some false
              else
                some false
            else
              some false
          else
            some false
        else
          some false
      else
        some false
    else
      some false
  else
    some false
def clampN (n : Int) : Int := if 0 < (if 4294967295 < n then 4294967295 else n) then (if 4294967295 < n then 4294967295 else n) else 0
def be4 (n : Int) : List Int := [clampN n / 16777216 % 256, clampN n / 65536 % 256, clampN n / 256 % 256, clampN n % 256]
noncomputable def ref01_String (x : List Int × List UInt8) : Option (List Int) := if x.1.length ≤ 1000000000 ∧ x.2.length ≤ 16384 then some (x.1 ++ be4 x.2.length ++ toBL x.2) else none
noncomputable def state_within_1 (x : (Int × Int)) : Option Bool :=
  if decide (x.1 < 0) then
    some true
  else
    some (decide (x.1 > x.2))
noncomputable def slices_IndexFunc_int_state_within_1 (x : ((List Int) × Int)) : Option Int :=
  fixS (S := Int) (R := Int) (fun again1 s2 =>
    if decide (s2 < (x.1.length : Int)) then
      ixL x.1 s2 fun x3 =>
      (state_within_1 (x3, x.2)).bind fun r4 =>
      if r4 then
        some s2
      else
        again1 (IntKind.wrap .i64 (s2 + 1))
    else
      some (-1)) fuel 0
noncomputable def slices_ContainsFunc_int_state_within_1 (x : ((List Int) × Int)) : Option Bool :=
  (slices_IndexFunc_int_state_within_1 (x.1, x.2)).bind fun r1 =>
  some (decide (r1 ≥ 0))
noncomputable def state_within (x : (Int × (List Int))) : Option Bool :=
  (slices_ContainsFunc_int_state_within_1 (x.2, x.1)).bind fun r1 =>
  some (!r1)
noncomputable def state_chained (x : (Int × ((List ((List UInt8) × (List UInt8))) × ((List ((List UInt8) × (Bool × ((List UInt8) × (Int × Int))))) × (Int × (Int × (Int × (Int × ((List Int) × ((List ((List UInt8) × (Bool × ((List UInt8) × (Int × Int))))) × (Bool × (Int × (Int × (Int × (Int × ((List ((List UInt8) × (Bool × ((List UInt8) × (Int × Int))))) × ((List (List UInt8)) × ((List (Int × (List UInt8))) × Bool)))))))))))))))))) : Option Bool :=
  if decide ((x.2.2.2.2.2.2.2.1.length : Int) > 0) then
    ixL x.2.2.2.2.2.2.2.1 (IntKind.wrap .i64 ((x.2.2.2.2.2.2.2.1.length : Int) - 1)) fun x1 =>
    if decide ((x.2.2.2.2.2.2.2.1.length : Int) ≤ 200) then
      (state_within (4294967295, x.2.2.2.2.2.2.2.1)).bind fun r2 =>
      if r2 then
        (state_within (100, [x.2.2.2.2.2.1])).bind fun r3 =>
        if r3 then
          some ((x.2.2.2.1 == (x.2.2.2.2.2.2.2.1.length : Int)) && ((x.2.2.2.2.1 == x1) && ((x.2.2.2.2.2.1 == x.2.2.2.2.2.1) && (x.2.2.2.2.2.2.1 == 0))))
        else
          some false
      else
        some false
    else
      some false
  else
    if decide ((x.2.2.2.2.2.2.2.1.length : Int) ≤ 200) then
      (state_within (4294967295, x.2.2.2.2.2.2.2.1)).bind fun r4 =>
      if r4 then
        (state_within (100, [x.2.2.2.2.2.1])).bind fun r5 =>
        if r5 then
          some ((x.2.2.2.1 == (x.2.2.2.2.2.2.2.1.length : Int)) && ((x.2.2.2.2.1 == 0) && ((x.2.2.2.2.2.1 == x.2.2.2.2.2.1) && (x.2.2.2.2.2.2.1 == 0))))
        else
          some false
      else
        some false
    else
      some false
noncomputable def state_Right (x : (Int × ((List ((List UInt8) × (List UInt8))) × ((List ((List UInt8) × (Bool × ((List UInt8) × (Int × Int))))) × (Int × (Int × (Int × (Int × ((List Int) × ((List ((List UInt8) × (Bool × ((List UInt8) × (Int × Int))))) × (Bool × (Int × (Int × (Int × (Int × ((List ((List UInt8) × (Bool × ((List UInt8) × (Int × Int))))) × ((List (List UInt8)) × ((List (Int × (List UInt8))) × Bool)))))))))))))))))) : Option Bool :=
  (scan_Right x.2.2.1).bind fun r1 =>
  if (!r1) then
    some false
  else
    (scan_Right x.2.2.2.2.2.2.2.2.1).bind fun r2 =>
    if (!r2) then
      some false
    else
      (scan_Right x.2.2.2.2.2.2.2.2.2.2.2.2.2.2.1).bind fun r3 =>
      if (!r3) then
        some false
      else
        fixS (S := (Int × ((List ((List UInt8) × (List UInt8))) × ((List ((List UInt8) × (Bool × ((List UInt8) × (Int × Int))))) × (Int × (Int × (Int × (Int × ((List Int) × ((List ((List UInt8) × (Bool × ((List UInt8) × (Int × Int))))) × (Bool × (Int × (Int × (Int × (Int × ((List ((List UInt8) × (Bool × ((List UInt8) × (Int × Int))))) × ((List (List UInt8)) × ((List (Int × (List UInt8))) × (Bool × Int))))))))))))))))))) (R := Bool) (fun again4 s5 =>
          if decide (s5.2.2.2.2.2.2.2.2.2.2.2.2.2.2.2.2.2.2 < (x.2.2.2.2.2.2.2.2.2.2.2.2.2.2.2.2.1.length : Int)) then
            ixL x.2.2.2.2.2.2.2.2.2.2.2.2.2.2.2.2.1 s5.2.2.2.2.2.2.2.2.2.2.2.2.2.2.2.2.2.2 fun x6 =>
            (state_within (4294967295, [x6.1])).bind fun r7 =>
            if (!r7) then
              some false
            else
              if decide ((x6.2.length : Int) > 16) then
                some false
              else
                again4 (s5.1, (s5.2.1, (s5.2.2.1, (s5.2.2.2.1, (s5.2.2.2.2.1, (s5.2.2.2.2.2.1, (s5.2.2.2.2.2.2.1, (s5.2.2.2.2.2.2.2.1, (s5.2.2.2.2.2.2.2.2.1, (s5.2.2.2.2.2.2.2.2.2.1, (s5.2.2.2.2.2.2.2.2.2.2.1, (s5.2.2.2.2.2.2.2.2.2.2.2.1, (s5.2.2.2.2.2.2.2.2.2.2.2.2.1, (s5.2.2.2.2.2.2.2.2.2.2.2.2.2.1, (s5.2.2.2.2.2.2.2.2.2.2.2.2.2.2.1, (s5.2.2.2.2.2.2.2.2.2.2.2.2.2.2.2.1, (s5.2.2.2.2.2.2.2.2.2.2.2.2.2.2.2.2.1, (s5.2.2.2.2.2.2.2.2.2.2.2.2.2.2.2.2.2.1, (IntKind.wrap .i64 (s5.2.2.2.2.2.2.2.2.2.2.2.2.2.2.2.2.2.2 + 1))))))))))))))))))))
          else
            (state_within (200, [s5.2.2.2.2.2.2.2.2.2.2.1])).bind fun r8 =>
            if r8 then
              (state_within (4294967295, [s5.2.2.2.2.2.2.2.2.2.2.2.1, s5.2.2.2.2.2.2.2.2.2.2.2.2.2.1])).bind fun r9 =>
              if r9 then
                (state_within (100, [s5.2.2.2.2.2.2.2.2.2.2.2.2.1])).bind fun r10 =>
                (state_within (1, [s5.1])).bind fun r11 =>
                if r11 then
                  (tree_Right s5.2.1).bind fun r12 =>
                  if r12 then
                    (state_chained (s5.1, (s5.2.1, (s5.2.2.1, (s5.2.2.2.1, (s5.2.2.2.2.1, (s5.2.2.2.2.2.1, (s5.2.2.2.2.2.2.1, (s5.2.2.2.2.2.2.2.1, (s5.2.2.2.2.2.2.2.2.1, (s5.2.2.2.2.2.2.2.2.2.1, (s5.2.2.2.2.2.2.2.2.2.2.1, (s5.2.2.2.2.2.2.2.2.2.2.2.1, (s5.2.2.2.2.2.2.2.2.2.2.2.2.1, (s5.2.2.2.2.2.2.2.2.2.2.2.2.2.1, (s5.2.2.2.2.2.2.2.2.2.2.2.2.2.2.1, (s5.2.2.2.2.2.2.2.2.2.2.2.2.2.2.2.1, (s5.2.2.2.2.2.2.2.2.2.2.2.2.2.2.2.2.1, s5.2.2.2.2.2.2.2.2.2.2.2.2.2.2.2.2.2.1)))))))))))))))))).bind fun r13 =>
                    if r13 then
                      if r10 then
                        (path_Sorted s5.2.2.2.2.2.2.2.2.2.2.2.2.2.2.2.1).bind fun r14 =>
                        if r14 then
                          if decide ((s5.2.2.2.2.2.2.2.2.2.2.2.2.2.2.2.1.length : Int) ≤ 32) then
                            some (decide ((s5.2.2.2.2.2.2.2.2.2.2.2.2.2.2.2.2.1.length : Int) ≤ 200))
                          else
                            some false
                        else
                          some false
                      else
                        some false
                    else
                      some false
                  else
                    some false
                else
                  some false
              else
                (state_within (1, [s5.1])).bind fun r15 =>
                if r15 then
                  (tree_Right s5.2.1).bind fun r16 =>
                  if r16 then
                    (state_chained (s5.1, (s5.2.1, (s5.2.2.1, (s5.2.2.2.1, (s5.2.2.2.2.1, (s5.2.2.2.2.2.1, (s5.2.2.2.2.2.2.1, (s5.2.2.2.2.2.2.2.1, (s5.2.2.2.2.2.2.2.2.1, (s5.2.2.2.2.2.2.2.2.2.1, (s5.2.2.2.2.2.2.2.2.2.2.1, (s5.2.2.2.2.2.2.2.2.2.2.2.1, (s5.2.2.2.2.2.2.2.2.2.2.2.2.1, (s5.2.2.2.2.2.2.2.2.2.2.2.2.2.1, (s5.2.2.2.2.2.2.2.2.2.2.2.2.2.2.1, (s5.2.2.2.2.2.2.2.2.2.2.2.2.2.2.2.1, (s5.2.2.2.2.2.2.2.2.2.2.2.2.2.2.2.2.1, s5.2.2.2.2.2.2.2.2.2.2.2.2.2.2.2.2.2.1)))))))))))))))))).bind fun r17 =>
                    if r17 then
                      some false
                    else
                      some false
                  else
                    some false
                else
                  some false
            else
              (state_within (1, [s5.1])).bind fun r18 =>
              if r18 then
                (tree_Right s5.2.1).bind fun r19 =>
                if r19 then
                  (state_chained (s5.1, (s5.2.1, (s5.2.2.1, (s5.2.2.2.1, (s5.2.2.2.2.1, (s5.2.2.2.2.2.1, (s5.2.2.2.2.2.2.1, (s5.2.2.2.2.2.2.2.1, (s5.2.2.2.2.2.2.2.2.1, (s5.2.2.2.2.2.2.2.2.2.1, (s5.2.2.2.2.2.2.2.2.2.2.1, (s5.2.2.2.2.2.2.2.2.2.2.2.1, (s5.2.2.2.2.2.2.2.2.2.2.2.2.1, (s5.2.2.2.2.2.2.2.2.2.2.2.2.2.1, (s5.2.2.2.2.2.2.2.2.2.2.2.2.2.2.1, (s5.2.2.2.2.2.2.2.2.2.2.2.2.2.2.2.1, (s5.2.2.2.2.2.2.2.2.2.2.2.2.2.2.2.2.1, s5.2.2.2.2.2.2.2.2.2.2.2.2.2.2.2.2.2.1)))))))))))))))))).bind fun r20 =>
                  if r20 then
                    some false
                  else
                    some false
                else
                  some false
              else
                some false) fuel (x.1, (x.2.1, (x.2.2.1, (x.2.2.2.1, (x.2.2.2.2.1, (x.2.2.2.2.2.1, (x.2.2.2.2.2.2.1, (x.2.2.2.2.2.2.2.1, (x.2.2.2.2.2.2.2.2.1, (x.2.2.2.2.2.2.2.2.2.1, (x.2.2.2.2.2.2.2.2.2.2.1, (x.2.2.2.2.2.2.2.2.2.2.2.1, (x.2.2.2.2.2.2.2.2.2.2.2.2.1, (x.2.2.2.2.2.2.2.2.2.2.2.2.2.1, (x.2.2.2.2.2.2.2.2.2.2.2.2.2.2.1, (x.2.2.2.2.2.2.2.2.2.2.2.2.2.2.2.1, (x.2.2.2.2.2.2.2.2.2.2.2.2.2.2.2.2.1, (x.2.2.2.2.2.2.2.2.2.2.2.2.2.2.2.2.2, 0))))))))))))))))))
end Go.Proofs.W.Q17

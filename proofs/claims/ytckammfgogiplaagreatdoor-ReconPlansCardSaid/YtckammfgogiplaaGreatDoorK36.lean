/- The document's own answers, chapters 02, 03, 04, 09, 10: what is left of them, once memory is out of sight. -/
import Derived.Test.YtckammfgogiplaaGreatDoorK20
namespace Go.Proofs.W.Q10
open Go Go.Proofs.V Go.Proofs.W.Q9
set_option linter.unusedVariables false
set_option linter.unusedSimpArgs false
noncomputable def ref03_cut (x : (List UInt8)) : Option (List (List UInt8)) :=
  fixS (S := ((List (List UInt8)) × (Int × Int))) (R := (List (List UInt8))) (fun again1 s2 =>
    if decide (s2.2.2 ≤ (x.length : Int)) then
      if (s2.2.2 == (x.length : Int)) then
        cutL x s2.2.1 s2.2.2 fun y3 =>
        if (fitsB 16 ((s2.1 ++ [y3]).length : Int)) then
          again1 ((s2.1 ++ [y3]), ((IntKind.wrap .i64 (s2.2.2 + 1)), (IntKind.wrap .i64 (s2.2.2 + 1))))
        else none
      else
        sixL x s2.2.2 fun b4 =>
        if (b4 == 47) then
          cutL x s2.2.1 s2.2.2 fun y5 =>
          if (fitsB 16 ((s2.1 ++ [y5]).length : Int)) then
            again1 ((s2.1 ++ [y5]), ((IntKind.wrap .i64 (s2.2.2 + 1)), (IntKind.wrap .i64 (s2.2.2 + 1))))
          else none
        else
          again1 (s2.1, (s2.2.1, (IntKind.wrap .i64 (s2.2.2 + 1))))
    else
      some s2.1) fuel ([], (0, 0))
noncomputable def ref03_Name (x : (List UInt8)) : Option Bool :=
  if decide ((x.length : Int) < 1) then
    some false
  else
    if decide ((x.length : Int) > 12) then
      some false
    else
      if (x == [46]) then
        some false
      else
        if (x == [46, 46]) then
          some false
        else
          fixS (S := Int) (R := Bool) (fun again1 s2 =>
            if decide (s2 < (x.length : Int)) then
              sixL x s2 fun b3 =>
              if decide (b3 ≥ 97) then
                if decide (b3 ≤ 122) then
                  again1 (IntKind.wrap .i64 (s2 + 1))
                else
                  if decide (b3 ≥ 48) then
                    if decide (b3 ≤ 57) then
                      again1 (IntKind.wrap .i64 (s2 + 1))
                    else
                      if (b3 == 46) then
                        again1 (IntKind.wrap .i64 (s2 + 1))
                      else
                        if (!(b3 == 45)) then
                          some false
                        else
                          again1 (IntKind.wrap .i64 (s2 + 1))
                  else
                    if (b3 == 46) then
                      again1 (IntKind.wrap .i64 (s2 + 1))
                    else
                      if (!(b3 == 45)) then
                        some false
                      else
                        again1 (IntKind.wrap .i64 (s2 + 1))
              else
                if decide (b3 ≥ 48) then
                  if decide (b3 ≤ 57) then
                    again1 (IntKind.wrap .i64 (s2 + 1))
                  else
                    if (b3 == 46) then
                      again1 (IntKind.wrap .i64 (s2 + 1))
                    else
                      if (!(b3 == 45)) then
                        some false
                      else
                        again1 (IntKind.wrap .i64 (s2 + 1))
                else
                  if (b3 == 46) then
                    again1 (IntKind.wrap .i64 (s2 + 1))
                  else
                    if (!(b3 == 45)) then
                      some false
                    else
                      again1 (IntKind.wrap .i64 (s2 + 1))
            else
              some true) fuel 0
noncomputable def ref03_Right (x : (List UInt8)) : Option Bool :=
  (ref03_cut x).bind fun r1 =>
  if decide ((r1.length : Int) > 4) then
    some false
  else
    fixS (S := Int) (R := Bool) (fun again2 s3 =>
      if decide (s3 < (r1.length : Int)) then
        ixL r1 s3 fun x4 =>
        (ref03_Name x4).bind fun r5 =>
        if (!r5) then
          some false
        else
          again2 (IntKind.wrap .i64 (s3 + 1))
      else
        some true) fuel 0
noncomputable def ref02_Right (x : (Int × Int)) : Option Bool :=
  if decide (x.1 ≥ 0) then
    if decide (x.1 ≤ 1073741824) then
      if decide (x.2 ≥ 0) then
        some (decide (x.2 ≤ 1073741824))
      else
        some false
    else
      some false
  else
    some false
noncomputable def ref09_files (x : (List ((List UInt8) × (Bool × ((List UInt8) × (Int × Int)))))) : Option (List ((List UInt8) × (List UInt8))) :=
  fixS (S := ((List ((List UInt8) × (List UInt8))) × Int)) (R := (List ((List UInt8) × (List UInt8)))) (fun again1 s2 =>
    if decide (s2.2 < (x.length : Int)) then
      ixL x s2.2 fun x3 =>
      if x3.2.1 then
        ixL x s2.2 fun x4 =>
        ixL x s2.2 fun x5 =>
        if (fitsB 32 ((s2.1 ++ [(x4.1, x5.2.2.1)]).length : Int)) then
          again1 ((s2.1 ++ [(x4.1, x5.2.2.1)]), (IntKind.wrap .i64 (s2.2 + 1)))
        else none
      else
        again1 (s2.1, (IntKind.wrap .i64 (s2.2 + 1)))
    else
      some s2.1) fuel ([], 0)
noncomputable def ref03_Under (x : ((List UInt8) × (List UInt8))) : Option Bool :=
  (ref03_Right x.1).bind fun r1 =>
  if (!r1) then
    some false
  else
    (ref03_Right x.2).bind fun r2 =>
    if (!r2) then
      some false
    else
      if decide ((x.1.length : Int) ≤ (x.2.length : Int)) then
        some false
      else
        cutL x.1 0 (x.2.length : Int) fun y3 =>
        if (y3 == x.2) then
          sixL x.1 (x.2.length : Int) fun b4 =>
          some (b4 == 47)
        else
          some false
noncomputable def ref04_Right (x : (List ((List UInt8) × (List UInt8)))) : Option Bool :=
  if decide ((x.length : Int) > 16) then
    some false
  else
    fixS (S := Int) (R := Bool) (fun again1 s2 =>
      if decide (s2 < (x.length : Int)) then
        ixL x s2 fun x3 =>
        (ref03_Right x3.1).bind fun r4 =>
        if (!r4) then
          some false
        else
          ixL x s2 fun x5 =>
          if decide ((x5.2.length : Int) > 600) then
            some false
          else
            if decide (s2 > 0) then
              ixL x s2 fun x6 =>
              ixL x (IntKind.wrap .i64 (s2 - 1)) fun x7 =>
              if (Op.bytesLess x6.1 x7.1 || x6.1 == x7.1) then
                some false
              else
                fixS (S := Int) (R := Bool) (fun again8 s9 =>
                  if decide (s9 < s2) then
                    ixL x s2 fun x10 =>
                    ixL x s9 fun x11 =>
                    (ref03_Under (x10.1, x11.1)).bind fun r12 =>
                    if r12 then
                      some false
                    else
                      again8 (IntKind.wrap .i64 (s9 + 1))
                  else
                    again1 (IntKind.wrap .i64 (s2 + 1))) fuel 0
            else
              fixS (S := Int) (R := Bool) (fun again13 s14 =>
                if decide (s14 < s2) then
                  ixL x s2 fun x15 =>
                  ixL x s14 fun x16 =>
                  (ref03_Under (x15.1, x16.1)).bind fun r17 =>
                  if r17 then
                    some false
                  else
                    again13 (IntKind.wrap .i64 (s14 + 1))
                else
                  again1 (IntKind.wrap .i64 (s2 + 1))) fuel 0
      else
        some true) fuel 0
noncomputable def ref09_Right (x : (List ((List UInt8) × (Bool × ((List UInt8) × (Int × Int)))))) : Option Bool :=
  if decide ((x.length : Int) > 32) then
    some false
  else
    fixS (S := Int) (R := Bool) (fun again1 s2 =>
      if decide (s2 < (x.length : Int)) then
        ixL x s2 fun x3 =>
        (ref03_Right x3.1).bind fun r4 =>
        (ref02_Right (x3.2.2.2.1, x3.2.2.2.2)).bind fun r5 =>
        if (!r4) then
          some false
        else
          if (!r5) then
            some false
          else
            if (x3.2.2.2.1 == 0) then
              if (x3.2.2.2.2 == 0) then
                some false
              else
                if (!x3.2.1) then
                  if (!(x3.2.2.1 == [])) then
                    some false
                  else
                    if decide (s2 > 0) then
                      ixL x (IntKind.wrap .i64 (s2 - 1)) fun x6 =>
                      if (Op.bytesLess x3.1 x6.1 || x3.1 == x6.1) then
                        some false
                      else
                        again1 (IntKind.wrap .i64 (s2 + 1))
                    else
                      again1 (IntKind.wrap .i64 (s2 + 1))
                else
                  if decide (s2 > 0) then
                    ixL x (IntKind.wrap .i64 (s2 - 1)) fun x7 =>
                    if (Op.bytesLess x3.1 x7.1 || x3.1 == x7.1) then
                      some false
                    else
                      again1 (IntKind.wrap .i64 (s2 + 1))
                  else
                    again1 (IntKind.wrap .i64 (s2 + 1))
            else
              if (!x3.2.1) then
                if (!(x3.2.2.1 == [])) then
                  some false
                else
                  if decide (s2 > 0) then
                    ixL x (IntKind.wrap .i64 (s2 - 1)) fun x8 =>
                    if (Op.bytesLess x3.1 x8.1 || x3.1 == x8.1) then
                      some false
                    else
                      again1 (IntKind.wrap .i64 (s2 + 1))
                  else
                    again1 (IntKind.wrap .i64 (s2 + 1))
              else
                if decide (s2 > 0) then
                  ixL x (IntKind.wrap .i64 (s2 - 1)) fun x9 =>
                  if (Op.bytesLess x3.1 x9.1 || x3.1 == x9.1) then
                    some false
                  else
                    again1 (IntKind.wrap .i64 (s2 + 1))
                else
                  again1 (IntKind.wrap .i64 (s2 + 1))
      else
        (ref09_files x).bind fun r10 =>
        (ref04_Right r10).bind fun r11 =>
        some r11) fuel 0
noncomputable def ref09_Tree (x : (List ((List UInt8) × (Bool × ((List UInt8) × (Int × Int)))))) : Option (List ((List UInt8) × (List UInt8))) :=
  (ref09_Right x).bind fun r1 =>
  if (!r1) then
    some []
  else
    (ref09_files x).bind fun r2 =>
    some r2
noncomputable def ref04_find (x : ((List ((List UInt8) × (List UInt8))) × (List UInt8))) : Option Int :=
  fixS (S := Int) (R := Int) (fun again1 s2 =>
    if decide (s2 < (x.1.length : Int)) then
      ixL x.1 s2 fun x3 =>
      if (x3.1 == x.2) then
        some s2
      else
        again1 (IntKind.wrap .i64 (s2 + 1))
    else
      some (-1)) fuel 0
noncomputable def ref04_Find (x : ((List ((List UInt8) × (List UInt8))) × (List UInt8))) : Option Int :=
  (ref04_Right x.1).bind fun r1 =>
  if (!r1) then
    some (-1)
  else
    (ref04_find (x.1, x.2)).bind fun r2 =>
    some r2
noncomputable def ref04_Get (x : ((List ((List UInt8) × (List UInt8))) × (List UInt8))) : Option ((List UInt8) × Bool) :=
  (ref04_Find (x.1, x.2)).bind fun r1 =>
  if decide (r1 < 0) then
    some ([], false)
  else
    ixL x.1 r1 fun x2 =>
    some (x2.2, true)
noncomputable def ref02_clamp (x : Int) : Option Int :=
  some (if 0 < (if 1073741824 < x then 1073741824 else x) then (if 1073741824 < x then 1073741824 else x) else 0)
noncomputable def ref02_Fit (x : (Int × Int)) : Option (Int × Int) :=
  (ref02_clamp x.1).bind fun r1 =>
  (ref02_clamp x.2).bind fun r2 =>
  some (r1, r2)
noncomputable def ref02_Join (x : (Int × (Int × (Int × Int)))) : Option (Int × Int) :=
  (ref02_Fit (x.1, x.2.1)).bind fun r1 =>
  (ref02_Fit (x.2.2.1, x.2.2.2)).bind fun r2 =>
  some ((if r1.1 < r2.1 then r2.1 else r1.1), (if r1.2 < r2.2 then r2.2 else r1.2))
noncomputable def ref02_Tick (x : (Int × (Int × Int))) : Option (Int × Int) :=
  (ref02_Fit (x.1, x.2.1)).bind fun r1 =>
  if ((bitsI .and .i64 x.2.2 1) == 1) then
    (ref02_clamp (IntKind.wrap .i64 (r1.2 + 1))).bind fun r2 =>
    some (r1.1, r2)
  else
    (ref02_clamp (IntKind.wrap .i64 (r1.1 + 1))).bind fun r3 =>
    some (r3, r1.2)
noncomputable def ref02_Order (x : (Int × (Int × (Int × Int)))) : Option Int :=
  (ref02_Fit (x.1, x.2.1)).bind fun r1 =>
  (ref02_Fit (x.2.2.1, x.2.2.2)).bind fun r2 =>
  if ((r1.1 == r2.1) && (r1.2 == r2.2)) then
    some 0
  else
    if decide (r1.1 ≤ r2.1) then
      if decide (r1.2 ≤ r2.2) then
        some 1
      else
        if decide (r1.1 ≥ r2.1) then
          if decide (r1.2 ≥ r2.2) then
            some 2
          else
            some 3
        else
          some 3
    else
      if decide (r1.1 ≥ r2.1) then
        if decide (r1.2 ≥ r2.2) then
          some 2
        else
          some 3
      else
        some 3
noncomputable def ref10_come (x : ((List UInt8) × (Bool × ((List UInt8) × (Int × (Int × ((List UInt8) × (Bool × ((List UInt8) × (Int × Int)))))))))) : Option ((List UInt8) × (Bool × ((List UInt8) × (Int × (Int × Bool))))) :=
  (ref02_Order (x.2.2.2.1, (x.2.2.2.2.1, (x.2.2.2.2.2.2.2.2.1, x.2.2.2.2.2.2.2.2.2)))).bind fun r1 =>
  if (x.2.1 == x.2.2.2.2.2.2.1) then
    if (r1 == 1) then
      some (x.2.2.2.2.2.1, (x.2.2.2.2.2.2.1, (x.2.2.2.2.2.2.2.1, (x.2.2.2.2.2.2.2.2.1, (x.2.2.2.2.2.2.2.2.2, false)))))
    else
      if (r1 == 2) then
        some (x.1, (x.2.1, (x.2.2.1, (x.2.2.2.1, (x.2.2.2.2.1, false)))))
      else
        if (r1 == 0) then
          if (x.2.2.1 == x.2.2.2.2.2.2.2.1) then
            some (x.1, (x.2.1, (x.2.2.1, (x.2.2.2.1, (x.2.2.2.2.1, false)))))
          else
            if (r1 == 3) then
              if (x.2.2.1 == x.2.2.2.2.2.2.2.1) then
                (ref02_Join (x.2.2.2.1, (x.2.2.2.2.1, (x.2.2.2.2.2.2.2.2.1, x.2.2.2.2.2.2.2.2.2)))).bind fun r2 =>
                some (x.1, (x.2.1, (x.2.2.1, (r2.1, (r2.2, false)))))
              else
                some (x.1, (x.2.1, (x.2.2.1, (x.2.2.2.1, (x.2.2.2.2.1, true)))))
            else
              some (x.1, (x.2.1, (x.2.2.1, (x.2.2.2.1, (x.2.2.2.2.1, true)))))
        else
          if (r1 == 3) then
            if (x.2.2.1 == x.2.2.2.2.2.2.2.1) then
              (ref02_Join (x.2.2.2.1, (x.2.2.2.2.1, (x.2.2.2.2.2.2.2.2.1, x.2.2.2.2.2.2.2.2.2)))).bind fun r3 =>
              some (x.1, (x.2.1, (x.2.2.1, (r3.1, (r3.2, false)))))
            else
              some (x.1, (x.2.1, (x.2.2.1, (x.2.2.2.1, (x.2.2.2.2.1, true)))))
          else
            some (x.1, (x.2.1, (x.2.2.1, (x.2.2.2.1, (x.2.2.2.2.1, true)))))
  else
    if (r1 == 1) then
      some (x.2.2.2.2.2.1, (x.2.2.2.2.2.2.1, (x.2.2.2.2.2.2.2.1, (x.2.2.2.2.2.2.2.2.1, (x.2.2.2.2.2.2.2.2.2, false)))))
    else
      if (r1 == 2) then
        some (x.1, (x.2.1, (x.2.2.1, (x.2.2.2.1, (x.2.2.2.2.1, false)))))
      else
        if (r1 == 0) then
          if (r1 == 3) then
            some (x.1, (x.2.1, (x.2.2.1, (x.2.2.2.1, (x.2.2.2.2.1, true)))))
          else
            some (x.1, (x.2.1, (x.2.2.1, (x.2.2.2.1, (x.2.2.2.2.1, true)))))
        else
          if (r1 == 3) then
            some (x.1, (x.2.1, (x.2.2.1, (x.2.2.2.1, (x.2.2.2.2.1, true)))))
          else
            some (x.1, (x.2.1, (x.2.2.1, (x.2.2.2.1, (x.2.2.2.2.1, true)))))
noncomputable def ref10_may (x : (List ((List UInt8) × (Bool × ((List UInt8) × (Int × Int)))))) : Option Int :=
  fixS (S := (Int × Int)) (R := Int) (fun again1 s2 =>
    if decide (s2.2 < (x.length : Int)) then
      ixL x s2.2 fun x3 =>
      if x3.2.1 then
        again1 ((IntKind.wrap .i64 (s2.1 + 1)), (IntKind.wrap .i64 (s2.2 + 1)))
      else
        again1 (s2.1, (IntKind.wrap .i64 (s2.2 + 1)))
    else
      if decide (s2.1 > 16) then
        some 2
      else
        if decide ((x.length : Int) > 32) then
          some 2
        else
          fixS (S := Int) (R := Int) (fun again4 s5 =>
            if decide (s5 < (x.length : Int)) then
              fixS (S := Int) (R := Int) (fun again6 s7 =>
                if decide (s7 < (x.length : Int)) then
                  ixL x s5 fun x8 =>
                  if x8.2.1 then
                    ixL x s7 fun x9 =>
                    if x9.2.1 then
                      ixL x s5 fun x10 =>
                      ixL x s7 fun x11 =>
                      (ref03_Under (x10.1, x11.1)).bind fun r12 =>
                      if r12 then
                        some 6
                      else
                        again6 (IntKind.wrap .i64 (s7 + 1))
                    else
                      again6 (IntKind.wrap .i64 (s7 + 1))
                  else
                    again6 (IntKind.wrap .i64 (s7 + 1))
                else
                  again4 (IntKind.wrap .i64 (s5 + 1))) fuel 0
            else
              some 0) fuel 0) fuel (0, 0)
noncomputable def ref10_place (x : ((List ((List UInt8) × (Bool × ((List UInt8) × (Int × Int))))) × (List UInt8))) : Option Int :=
  fixS (S := Int) (R := Int) (fun again1 s2 =>
    if decide (s2 < (x.1.length : Int)) then
      ixL x.1 s2 fun x3 =>
      if (x3.1 == x.2) then
        some s2
      else
        again1 (IntKind.wrap .i64 (s2 + 1))
    else
      some (-1)) fuel 0
noncomputable def ref10_Merge (x : ((List ((List UInt8) × (Bool × ((List UInt8) × (Int × Int))))) × (List ((List UInt8) × (Bool × ((List UInt8) × (Int × Int))))))) : Option ((List ((List UInt8) × (Bool × ((List UInt8) × (Int × Int))))) × ((List (List UInt8)) × Int)) :=
  (ref09_Right x.1).bind fun r1 =>
  (ref09_Right x.2).bind fun r2 =>
  if (!r1) then
    some ([], ([], 1))
  else
    if (!r2) then
      some ([], ([], 1))
    else
      fixS (S := ((List ((List UInt8) × (Bool × ((List UInt8) × (Int × Int))))) × ((List (List UInt8)) × (Int × Int)))) (R := ((List ((List UInt8) × (Bool × ((List UInt8) × (Int × Int))))) × ((List (List UInt8)) × Int))) (fun again3 s4 =>
        if decide (s4.2.2.1 < (x.1.length : Int)) then
          if (s4.2.2.2 == (x.2.length : Int)) then
            ixL x.1 s4.2.2.1 fun x5 =>
            if (fitsB 56 ((s4.1 ++ [(x5.1, (x5.2.1, (x5.2.2.1, (x5.2.2.2.1, x5.2.2.2.2))))]).length : Int)) then
              again3 ((s4.1 ++ [(x5.1, (x5.2.1, (x5.2.2.1, (x5.2.2.2.1, x5.2.2.2.2))))]), (s4.2.1, ((IntKind.wrap .i64 (s4.2.2.1 + 1)), s4.2.2.2)))
            else none
          else
            if decide (s4.2.2.1 < (x.1.length : Int)) then
              ixL x.1 s4.2.2.1 fun x6 =>
              ixL x.2 s4.2.2.2 fun x7 =>
              if (Op.bytesLess x6.1 x7.1) then
                ixL x.1 s4.2.2.1 fun x8 =>
                if (fitsB 56 ((s4.1 ++ [(x8.1, (x8.2.1, (x8.2.2.1, (x8.2.2.2.1, x8.2.2.2.2))))]).length : Int)) then
                  again3 ((s4.1 ++ [(x8.1, (x8.2.1, (x8.2.2.1, (x8.2.2.2.1, x8.2.2.2.2))))]), (s4.2.1, ((IntKind.wrap .i64 (s4.2.2.1 + 1)), s4.2.2.2)))
                else none
              else
                if (s4.2.2.1 == (x.1.length : Int)) then
                  ixL x.2 s4.2.2.2 fun x9 =>
                  if (fitsB 56 ((s4.1 ++ [(x9.1, (x9.2.1, (x9.2.2.1, (x9.2.2.2.1, x9.2.2.2.2))))]).length : Int)) then
                    again3 ((s4.1 ++ [(x9.1, (x9.2.1, (x9.2.2.1, (x9.2.2.2.1, x9.2.2.2.2))))]), (s4.2.1, (s4.2.2.1, (IntKind.wrap .i64 (s4.2.2.2 + 1)))))
                  else none
                else
                  ixL x.2 s4.2.2.2 fun x10 =>
                  ixL x.1 s4.2.2.1 fun x11 =>
                  if (Op.bytesLess x10.1 x11.1) then
                    ixL x.2 s4.2.2.2 fun x12 =>
                    if (fitsB 56 ((s4.1 ++ [(x12.1, (x12.2.1, (x12.2.2.1, (x12.2.2.2.1, x12.2.2.2.2))))]).length : Int)) then
                      again3 ((s4.1 ++ [(x12.1, (x12.2.1, (x12.2.2.1, (x12.2.2.2.1, x12.2.2.2.2))))]), (s4.2.1, (s4.2.2.1, (IntKind.wrap .i64 (s4.2.2.2 + 1)))))
                    else none
                  else
                    ixL x.1 s4.2.2.1 fun x13 =>
                    ixL x.2 s4.2.2.2 fun x14 =>
                    (ref10_come (x13.1, (x13.2.1, (x13.2.2.1, (x13.2.2.2.1, (x13.2.2.2.2, (x14.1, (x14.2.1, (x14.2.2.1, (x14.2.2.2.1, x14.2.2.2.2)))))))))).bind fun r15 =>
                    if r15.2.2.2.2.2 then
                      if (fitsB 16 ((s4.2.1 ++ [r15.1]).length : Int)) then
                        if (fitsB 56 ((s4.1 ++ [(r15.1, (r15.2.1, (r15.2.2.1, (r15.2.2.2.1, r15.2.2.2.2.1))))]).length : Int)) then
                          again3 ((s4.1 ++ [(r15.1, (r15.2.1, (r15.2.2.1, (r15.2.2.2.1, r15.2.2.2.2.1))))]), ((s4.2.1 ++ [r15.1]), ((IntKind.wrap .i64 (s4.2.2.1 + 1)), (IntKind.wrap .i64 (s4.2.2.2 + 1)))))
                        else none
                      else none
                    else
                      if (fitsB 56 ((s4.1 ++ [(r15.1, (r15.2.1, (r15.2.2.1, (r15.2.2.2.1, r15.2.2.2.2.1))))]).length : Int)) then
                        again3 ((s4.1 ++ [(r15.1, (r15.2.1, (r15.2.2.1, (r15.2.2.2.1, r15.2.2.2.2.1))))]), (s4.2.1, ((IntKind.wrap .i64 (s4.2.2.1 + 1)), (IntKind.wrap .i64 (s4.2.2.2 + 1)))))
                      else none
            else
              if (s4.2.2.1 == (x.1.length : Int)) then
                ixL x.2 s4.2.2.2 fun x16 =>
                if (fitsB 56 ((s4.1 ++ [(x16.1, (x16.2.1, (x16.2.2.1, (x16.2.2.2.1, x16.2.2.2.2))))]).length : Int)) then
                  again3 ((s4.1 ++ [(x16.1, (x16.2.1, (x16.2.2.1, (x16.2.2.2.1, x16.2.2.2.2))))]), (s4.2.1, (s4.2.2.1, (IntKind.wrap .i64 (s4.2.2.2 + 1)))))
                else none
              else
                ixL x.2 s4.2.2.2 fun x17 =>
                ixL x.1 s4.2.2.1 fun x18 =>
                if (Op.bytesLess x17.1 x18.1) then
                  ixL x.2 s4.2.2.2 fun x19 =>
                  if (fitsB 56 ((s4.1 ++ [(x19.1, (x19.2.1, (x19.2.2.1, (x19.2.2.2.1, x19.2.2.2.2))))]).length : Int)) then
                    again3 ((s4.1 ++ [(x19.1, (x19.2.1, (x19.2.2.1, (x19.2.2.2.1, x19.2.2.2.2))))]), (s4.2.1, (s4.2.2.1, (IntKind.wrap .i64 (s4.2.2.2 + 1)))))
                  else none
                else
                  ixL x.1 s4.2.2.1 fun x20 =>
                  ixL x.2 s4.2.2.2 fun x21 =>
                  (ref10_come (x20.1, (x20.2.1, (x20.2.2.1, (x20.2.2.2.1, (x20.2.2.2.2, (x21.1, (x21.2.1, (x21.2.2.1, (x21.2.2.2.1, x21.2.2.2.2)))))))))).bind fun r22 =>
                  if r22.2.2.2.2.2 then
                    if (fitsB 16 ((s4.2.1 ++ [r22.1]).length : Int)) then
                      if (fitsB 56 ((s4.1 ++ [(r22.1, (r22.2.1, (r22.2.2.1, (r22.2.2.2.1, r22.2.2.2.2.1))))]).length : Int)) then
                        again3 ((s4.1 ++ [(r22.1, (r22.2.1, (r22.2.2.1, (r22.2.2.2.1, r22.2.2.2.2.1))))]), ((s4.2.1 ++ [r22.1]), ((IntKind.wrap .i64 (s4.2.2.1 + 1)), (IntKind.wrap .i64 (s4.2.2.2 + 1)))))
                      else none
                    else none
                  else
                    if (fitsB 56 ((s4.1 ++ [(r22.1, (r22.2.1, (r22.2.2.1, (r22.2.2.2.1, r22.2.2.2.2.1))))]).length : Int)) then
                      again3 ((s4.1 ++ [(r22.1, (r22.2.1, (r22.2.2.1, (r22.2.2.2.1, r22.2.2.2.2.1))))]), (s4.2.1, ((IntKind.wrap .i64 (s4.2.2.1 + 1)), (IntKind.wrap .i64 (s4.2.2.2 + 1)))))
                    else none
        else
          if decide (s4.2.2.2 < (x.2.length : Int)) then
            if (s4.2.2.2 == (x.2.length : Int)) then
              ixL x.1 s4.2.2.1 fun x23 =>
              if (fitsB 56 ((s4.1 ++ [(x23.1, (x23.2.1, (x23.2.2.1, (x23.2.2.2.1, x23.2.2.2.2))))]).length : Int)) then
                again3 ((s4.1 ++ [(x23.1, (x23.2.1, (x23.2.2.1, (x23.2.2.2.1, x23.2.2.2.2))))]), (s4.2.1, ((IntKind.wrap .i64 (s4.2.2.1 + 1)), s4.2.2.2)))
              else none
            else
              if decide (s4.2.2.1 < (x.1.length : Int)) then
                ixL x.1 s4.2.2.1 fun x24 =>
                ixL x.2 s4.2.2.2 fun x25 =>
                if (Op.bytesLess x24.1 x25.1) then
                  ixL x.1 s4.2.2.1 fun x26 =>
                  if (fitsB 56 ((s4.1 ++ [(x26.1, (x26.2.1, (x26.2.2.1, (x26.2.2.2.1, x26.2.2.2.2))))]).length : Int)) then
                    again3 ((s4.1 ++ [(x26.1, (x26.2.1, (x26.2.2.1, (x26.2.2.2.1, x26.2.2.2.2))))]), (s4.2.1, ((IntKind.wrap .i64 (s4.2.2.1 + 1)), s4.2.2.2)))
                  else none
                else
                  if (s4.2.2.1 == (x.1.length : Int)) then
                    ixL x.2 s4.2.2.2 fun x27 =>
                    if (fitsB 56 ((s4.1 ++ [(x27.1, (x27.2.1, (x27.2.2.1, (x27.2.2.2.1, x27.2.2.2.2))))]).length : Int)) then
                      again3 ((s4.1 ++ [(x27.1, (x27.2.1, (x27.2.2.1, (x27.2.2.2.1, x27.2.2.2.2))))]), (s4.2.1, (s4.2.2.1, (IntKind.wrap .i64 (s4.2.2.2 + 1)))))
                    else none
                  else
                    ixL x.2 s4.2.2.2 fun x28 =>
                    ixL x.1 s4.2.2.1 fun x29 =>
                    if (Op.bytesLess x28.1 x29.1) then
                      ixL x.2 s4.2.2.2 fun x30 =>
                      if (fitsB 56 ((s4.1 ++ [(x30.1, (x30.2.1, (x30.2.2.1, (x30.2.2.2.1, x30.2.2.2.2))))]).length : Int)) then
                        again3 ((s4.1 ++ [(x30.1, (x30.2.1, (x30.2.2.1, (x30.2.2.2.1, x30.2.2.2.2))))]), (s4.2.1, (s4.2.2.1, (IntKind.wrap .i64 (s4.2.2.2 + 1)))))
                      else none
                    else
                      ixL x.1 s4.2.2.1 fun x31 =>
                      ixL x.2 s4.2.2.2 fun x32 =>
                      (ref10_come (x31.1, (x31.2.1, (x31.2.2.1, (x31.2.2.2.1, (x31.2.2.2.2, (x32.1, (x32.2.1, (x32.2.2.1, (x32.2.2.2.1, x32.2.2.2.2)))))))))).bind fun r33 =>
                      if r33.2.2.2.2.2 then
                        if (fitsB 16 ((s4.2.1 ++ [r33.1]).length : Int)) then
                          if (fitsB 56 ((s4.1 ++ [(r33.1, (r33.2.1, (r33.2.2.1, (r33.2.2.2.1, r33.2.2.2.2.1))))]).length : Int)) then
                            again3 ((s4.1 ++ [(r33.1, (r33.2.1, (r33.2.2.1, (r33.2.2.2.1, r33.2.2.2.2.1))))]), ((s4.2.1 ++ [r33.1]), ((IntKind.wrap .i64 (s4.2.2.1 + 1)), (IntKind.wrap .i64 (s4.2.2.2 + 1)))))
                          else none
                        else none
                      else
                        if (fitsB 56 ((s4.1 ++ [(r33.1, (r33.2.1, (r33.2.2.1, (r33.2.2.2.1, r33.2.2.2.2.1))))]).length : Int)) then
                          again3 ((s4.1 ++ [(r33.1, (r33.2.1, (r33.2.2.1, (r33.2.2.2.1, r33.2.2.2.2.1))))]), (s4.2.1, ((IntKind.wrap .i64 (s4.2.2.1 + 1)), (IntKind.wrap .i64 (s4.2.2.2 + 1)))))
                        else none
              else
                if (s4.2.2.1 == (x.1.length : Int)) then
                  ixL x.2 s4.2.2.2 fun x34 =>
                  if (fitsB 56 ((s4.1 ++ [(x34.1, (x34.2.1, (x34.2.2.1, (x34.2.2.2.1, x34.2.2.2.2))))]).length : Int)) then
                    again3 ((s4.1 ++ [(x34.1, (x34.2.1, (x34.2.2.1, (x34.2.2.2.1, x34.2.2.2.2))))]), (s4.2.1, (s4.2.2.1, (IntKind.wrap .i64 (s4.2.2.2 + 1)))))
                  else none
                else
                  ixL x.2 s4.2.2.2 fun x35 =>
                  ixL x.1 s4.2.2.1 fun x36 =>
                  if (Op.bytesLess x35.1 x36.1) then
                    ixL x.2 s4.2.2.2 fun x37 =>
                    if (fitsB 56 ((s4.1 ++ [(x37.1, (x37.2.1, (x37.2.2.1, (x37.2.2.2.1, x37.2.2.2.2))))]).length : Int)) then
                      again3 ((s4.1 ++ [(x37.1, (x37.2.1, (x37.2.2.1, (x37.2.2.2.1, x37.2.2.2.2))))]), (s4.2.1, (s4.2.2.1, (IntKind.wrap .i64 (s4.2.2.2 + 1)))))
                    else none
                  else
                    ixL x.1 s4.2.2.1 fun x38 =>
                    ixL x.2 s4.2.2.2 fun x39 =>
                    (ref10_come (x38.1, (x38.2.1, (x38.2.2.1, (x38.2.2.2.1, (x38.2.2.2.2, (x39.1, (x39.2.1, (x39.2.2.1, (x39.2.2.2.1, x39.2.2.2.2)))))))))).bind fun r40 =>
                    if r40.2.2.2.2.2 then
                      if (fitsB 16 ((s4.2.1 ++ [r40.1]).length : Int)) then
                        if (fitsB 56 ((s4.1 ++ [(r40.1, (r40.2.1, (r40.2.2.1, (r40.2.2.2.1, r40.2.2.2.2.1))))]).length : Int)) then
                          again3 ((s4.1 ++ [(r40.1, (r40.2.1, (r40.2.2.1, (r40.2.2.2.1, r40.2.2.2.2.1))))]), ((s4.2.1 ++ [r40.1]), ((IntKind.wrap .i64 (s4.2.2.1 + 1)), (IntKind.wrap .i64 (s4.2.2.2 + 1)))))
                        else none
                      else none
                    else
                      if (fitsB 56 ((s4.1 ++ [(r40.1, (r40.2.1, (r40.2.2.1, (r40.2.2.2.1, r40.2.2.2.2.1))))]).length : Int)) then
                        again3 ((s4.1 ++ [(r40.1, (r40.2.1, (r40.2.2.1, (r40.2.2.2.1, r40.2.2.2.2.1))))]), (s4.2.1, ((IntKind.wrap .i64 (s4.2.2.1 + 1)), (IntKind.wrap .i64 (s4.2.2.2 + 1)))))
                      else none
          else
            (ref10_may s4.1).bind fun r41 =>
            if (r41 != 0) then
              some ([], ([], r41))
            else
              some (s4.1, (s4.2.1, 0))) fuel ([], ([], (0, 0)))
noncomputable def ref10_Plan (x : ((List ((List UInt8) × (List UInt8))) × (List ((List UInt8) × (Bool × ((List UInt8) × (Int × Int))))))) : Option ((List ((List UInt8) × (Bool × (List UInt8)))) × Int) :=
  (ref04_Right x.1).bind fun r1 =>
  (ref09_Right x.2).bind fun r2 =>
  if (!r1) then
    some ([], 1)
  else
    if (!r2) then
      some ([], 1)
    else
      (ref09_Tree x.2).bind fun r3 =>
      fixS (S := ((List ((List UInt8) × (Bool × (List UInt8)))) × Int)) (R := ((List ((List UInt8) × (Bool × (List UInt8)))) × Int)) (fun again4 s5 =>
        if decide (s5.2 < (x.1.length : Int)) then
          ixL x.1 s5.2 fun x6 =>
          (ref04_Get (r3, x6.1)).bind fun r7 =>
          if (!r7.2) then
            ixL x.1 s5.2 fun x8 =>
            if (fitsB 40 ((s5.1 ++ [(x8.1, (false, []))]).length : Int)) then
              again4 ((s5.1 ++ [(x8.1, (false, []))]), (IntKind.wrap .i64 (s5.2 + 1)))
            else none
          else
            again4 (s5.1, (IntKind.wrap .i64 (s5.2 + 1)))
        else
          fixS (S := ((List ((List UInt8) × (Bool × (List UInt8)))) × Int)) (R := ((List ((List UInt8) × (Bool × (List UInt8)))) × Int)) (fun again9 s10 =>
            if decide (s10.2 < (r3.length : Int)) then
              ixL r3 s10.2 fun x11 =>
              (ref04_Get (x.1, x11.1)).bind fun r12 =>
              if (!r12.2) then
                ixL r3 s10.2 fun x13 =>
                ixL r3 s10.2 fun x14 =>
                if (fitsB 40 ((s10.1 ++ [(x13.1, (true, x14.2))]).length : Int)) then
                  again9 ((s10.1 ++ [(x13.1, (true, x14.2))]), (IntKind.wrap .i64 (s10.2 + 1)))
                else none
              else
                ixL r3 s10.2 fun x15 =>
                if (!(r12.1 == x15.2)) then
                  ixL r3 s10.2 fun x16 =>
                  ixL r3 s10.2 fun x17 =>
                  if (fitsB 40 ((s10.1 ++ [(x16.1, (true, x17.2))]).length : Int)) then
                    again9 ((s10.1 ++ [(x16.1, (true, x17.2))]), (IntKind.wrap .i64 (s10.2 + 1)))
                  else none
                else
                  again9 (s10.1, (IntKind.wrap .i64 (s10.2 + 1)))
            else
              some (s10.1, 0)) fuel (s5.1, 0)) fuel ([], 0)
noncomputable def ref10_Acts (x : ((List ((List UInt8) × (Bool × (List UInt8)))) × (List ((List UInt8) × (Bool × (List UInt8)))))) : Option Bool :=
  if ((x.1.length : Int) != (x.2.length : Int)) then
    some false
  else
    fixS (S := Int) (R := Bool) (fun again1 s2 =>
      if decide (s2 < (x.1.length : Int)) then
        ixL x.1 s2 fun x3 =>
        ixL x.2 s2 fun x4 =>
        if (!((x3.1 == x4.1) && ((x3.2.1 == x4.2.1) && (x3.2.2 == x4.2.2)))) then
          some false
        else
          again1 (IntKind.wrap .i64 (s2 + 1))
      else
        some true) fuel 0
noncomputable def ref09_Same (x : ((List ((List UInt8) × (Bool × ((List UInt8) × (Int × Int))))) × (List ((List UInt8) × (Bool × ((List UInt8) × (Int × Int))))))) : Option Bool :=
  if ((x.1.length : Int) != (x.2.length : Int)) then
    some false
  else
    fixS (S := Int) (R := Bool) (fun again1 s2 =>
      if decide (s2 < (x.1.length : Int)) then
        ixL x.1 s2 fun x3 =>
        ixL x.2 s2 fun x4 =>
        if (!((x3.1 == x4.1) && ((x3.2.1 == x4.2.1) && ((x3.2.2.1 == x4.2.2.1) && ((x3.2.2.2.1 == x4.2.2.2.1) && (x3.2.2.2.2 == x4.2.2.2.2)))))) then
          some false
        else
          again1 (IntKind.wrap .i64 (s2 + 1))
      else
        some true) fuel 0
end Go.Proofs.W.Q10

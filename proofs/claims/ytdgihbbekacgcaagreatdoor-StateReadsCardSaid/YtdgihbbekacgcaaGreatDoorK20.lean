/- What is left of the functions of chapter 09, once memory is out of sight. -/
import Derived.Test.YtdgihbbekacgcaaGreatDoorK18
import Derived.Test.YtdgihbbekacgcaaGreatDoorK19
namespace Go.Proofs.W.Q9
open Go Go.Proofs.V
set_option linter.unusedVariables false
set_option linter.unusedSimpArgs false
noncomputable def strings_Split (x : List UInt8 × List UInt8) : Option (List (List UInt8)) := if x.2 = [47] ∧ x.1.length ≤ 1000000 then some (E.spl x.1) else none
noncomputable def bytealg_IndexByteString (x : List UInt8 × Int) : Option Int := if 0 ≤ x.2 ∧ x.2 < 256 then some (Lib.indexByte x.1 (x.2.toNat.toUInt8)) else none
noncomputable def stringslite_IndexByte (x : ((List UInt8) × Int)) : Option Int :=
  (bytealg_IndexByteString (x.1, x.2)).bind fun r1 =>
  some r1
noncomputable def strings_IndexByte (x : ((List UInt8) × Int)) : Option Int :=
  (stringslite_IndexByte (x.1, x.2)).bind fun r1 =>
  some r1
noncomputable def path_Name (x : (List UInt8)) : Option Bool :=
  fixS (S := Int) (R := Bool) (fun again1 s2 =>
    if decide (s2 < ((toBL x).length : Int)) then
      ixL (toBL x) s2 fun x3 =>
      if decide (x3 ≥ 97) then
        if decide (x3 ≤ 122) then
          again1 (IntKind.wrap .i64 (s2 + 1))
        else
          if decide (x3 ≥ 48) then
            if (!decide (x3 ≤ 57)) then
              (strings_IndexByte ([46, 45], x3)).bind fun r4 =>
              if decide (r4 < 0) then
                some false
              else
                again1 (IntKind.wrap .i64 (s2 + 1))
            else
              again1 (IntKind.wrap .i64 (s2 + 1))
          else
            (strings_IndexByte ([46, 45], x3)).bind fun r5 =>
            if decide (r5 < 0) then
              some false
            else
              again1 (IntKind.wrap .i64 (s2 + 1))
      else
        if decide (x3 ≥ 48) then
          if (!decide (x3 ≤ 57)) then
            (strings_IndexByte ([46, 45], x3)).bind fun r6 =>
            if decide (r6 < 0) then
              some false
            else
              again1 (IntKind.wrap .i64 (s2 + 1))
          else
            again1 (IntKind.wrap .i64 (s2 + 1))
        else
          (strings_IndexByte ([46, 45], x3)).bind fun r7 =>
          if decide (r7 < 0) then
            some false
          else
            again1 (IntKind.wrap .i64 (s2 + 1))
    else
      if decide ((x.length : Int) > 0) then
        if decide ((x.length : Int) ≤ 12) then
          if (!(x == [46])) then
            some (!(x == [46, 46]))
          else
            some false
        else
          some false
      else
        some false) fuel 0
noncomputable def path_Names (x : (List UInt8)) : Option (List (List UInt8)) :=
  (strings_Split (x, [47])).bind fun r1 =>
  if decide ((r1.length : Int) > 4) then
    some []
  else
    fixS (S := Int) (R := (List (List UInt8))) (fun again2 s3 =>
      if decide (s3 < (r1.length : Int)) then
        ixL r1 s3 fun x4 =>
        (path_Name x4).bind fun r5 =>
        if (!r5) then
          some []
        else
          again2 (IntKind.wrap .i64 (s3 + 1))
      else
        some r1) fuel 0
noncomputable def path_Right (x : (List UInt8)) : Option Bool :=
  (path_Names x).bind fun r1 =>
  some (decide ((r1.length : Int) > 0))
noncomputable def clock_Right (x : (Int × Int)) : Option Bool :=
  if decide ((if x.2 < x.1 then x.2 else x.1) ≥ 0) then
    some (decide ((if x.1 < x.2 then x.2 else x.1) ≤ 1073741824))
  else
    some false
noncomputable def scan_files (x : (List ((List UInt8) × (Bool × ((List UInt8) × (Int × Int)))))) : Option (List ((List UInt8) × (List UInt8))) :=
  fixS (S := ((List ((List UInt8) × (List UInt8))) × Int)) (R := (List ((List UInt8) × (List UInt8)))) (fun again1 s2 =>
    if decide (s2.2 < (x.length : Int)) then
      ixL x s2.2 fun x3 =>
      if x3.2.1 then
        if (fitsB 32 ((s2.1 ++ [(x3.1, x3.2.2.1)]).length : Int)) then
          again1 ((s2.1 ++ [(x3.1, x3.2.2.1)]), (IntKind.wrap .i64 (s2.2 + 1)))
        else none
      else
        again1 (s2.1, (IntKind.wrap .i64 (s2.2 + 1)))
    else
      some s2.1) fuel ([], 0)
noncomputable def stringslite_HasPrefix (x : ((List UInt8) × (List UInt8))) : Option Bool :=
  if decide ((x.1.length : Int) ≥ (x.2.length : Int)) then
    cutL x.1 0 (x.2.length : Int) fun y1 =>
    some (y1 == x.2)
  else
    some false
noncomputable def strings_HasPrefix (x : ((List UInt8) × (List UInt8))) : Option Bool :=
  (stringslite_HasPrefix (x.1, x.2)).bind fun r1 =>
  some r1
noncomputable def path_Under (x : ((List UInt8) × (List UInt8))) : Option Bool :=
  (path_Right x.1).bind fun r1 =>
  if r1 then
    (path_Right x.2).bind fun r2 =>
    if r2 then
      if (fitsB 1 (x.2.length : Int)) then
        if (fitsB 1 ([47].length : Int)) then
          (strings_HasPrefix (x.1, (x.2 ++ [47]))).bind fun r3 =>
          some r3
        else none
      else none
    else
      some false
  else
    some false
noncomputable def tree_Right_1 (x : ((List UInt8) × ((List UInt8) × ((List UInt8) × (List UInt8))))) : Option Bool :=
  (path_Under (x.2.2.1, x.1)).bind fun r1 =>
  some r1
noncomputable def slices_IndexFunc_File_tree_Right_1 (x : ((List ((List UInt8) × (List UInt8))) × ((List UInt8) × (List UInt8)))) : Option Int :=
  fixS (S := Int) (R := Int) (fun again1 s2 =>
    if decide (s2 < (x.1.length : Int)) then
      ixL x.1 s2 fun x3 =>
      (tree_Right_1 (x3.1, (x3.2, (x.2.1, x.2.2)))).bind fun r4 =>
      if r4 then
        some s2
      else
        again1 (IntKind.wrap .i64 (s2 + 1))
    else
      some (-1)) fuel 0
noncomputable def slices_ContainsFunc_File_tree_Right_1 (x : ((List ((List UInt8) × (List UInt8))) × ((List UInt8) × (List UInt8)))) : Option Bool :=
  (slices_IndexFunc_File_tree_Right_1 (x.1, (x.2.1, x.2.2))).bind fun r1 =>
  some (decide (r1 ≥ 0))
noncomputable def tree_Right (x : (List ((List UInt8) × (List UInt8)))) : Option Bool :=
  if decide ((x.length : Int) > 16) then
    some false
  else
    fixS (S := Int) (R := Bool) (fun again1 s2 =>
      if decide (s2 < (x.length : Int)) then
        ixL x s2 fun x3 =>
        (path_Right x3.1).bind fun r4 =>
        if (!r4) then
          some false
        else
          if decide ((x3.2.length : Int) > 600) then
            some false
          else
            if decide (s2 > 0) then
              ixL x (IntKind.wrap .i64 (s2 - 1)) fun x5 =>
              if (Op.bytesLess x3.1 x5.1 || x3.1 == x5.1) then
                some false
              else
                (slices_ContainsFunc_File_tree_Right_1 (x, (x3.1, x3.2))).bind fun r6 =>
                if r6 then
                  some false
                else
                  again1 (IntKind.wrap .i64 (s2 + 1))
            else
              (slices_ContainsFunc_File_tree_Right_1 (x, (x3.1, x3.2))).bind fun r7 =>
              if r7 then
                some false
              else
                again1 (IntKind.wrap .i64 (s2 + 1))
      else
        some true) fuel 0
noncomputable def scan_Right (x : (List ((List UInt8) × (Bool × ((List UInt8) × (Int × Int)))))) : Option Bool :=
  fixS (S := Int) (R := Bool) (fun again1 s2 =>
    if decide (s2 < (x.length : Int)) then
      ixL x s2 fun x3 =>
      (path_Right x3.1).bind fun r4 =>
      if (!r4) then
        some false
      else
        if decide (s2 > 0) then
          ixL x (IntKind.wrap .i64 (s2 - 1)) fun x5 =>
          if (Op.bytesLess x3.1 x5.1 || x3.1 == x5.1) then
            some false
          else
            (clock_Right (x3.2.2.2.1, x3.2.2.2.2)).bind fun r6 =>
            if (!r6) then
              some false
            else
              if ((x3.2.2.2.1 == 0) && (x3.2.2.2.2 == 0)) then
                some false
              else
                if (!x3.2.1) then
                  if (!(x3.2.2.1 == [])) then
                    some false
                  else
                    again1 (IntKind.wrap .i64 (s2 + 1))
                else
                  again1 (IntKind.wrap .i64 (s2 + 1))
        else
          (clock_Right (x3.2.2.2.1, x3.2.2.2.2)).bind fun r7 =>
          if (!r7) then
            some false
          else
            if ((x3.2.2.2.1 == 0) && (x3.2.2.2.2 == 0)) then
              some false
            else
              if (!x3.2.1) then
                if (!(x3.2.2.1 == [])) then
                  some false
                else
                  again1 (IntKind.wrap .i64 (s2 + 1))
              else
                again1 (IntKind.wrap .i64 (s2 + 1))
    else
      if decide ((x.length : Int) ≤ 32) then
        (scan_files x).bind fun r8 =>
        (tree_Right r8).bind fun r9 =>
        some r9
      else
        some false) fuel 0
noncomputable def clock_clamp (x : Int) : Option Nat :=
  some (FloatKind.nearest .f64 (if 0 < (if 1073741824 < x then 1073741824 else x) then (if 1073741824 < x then 1073741824 else x) else 0))
noncomputable def clock_Of (x : (Int × Int)) : Option (Nat × Nat) :=
  (clock_clamp x.1).bind fun r1 =>
  (clock_clamp x.2).bind fun r2 =>
  some (r1, r2)
noncomputable def clock_count (x : Nat) : Option Int :=
  if (fcmpF .geq .f64 x 4742290407621132288) then
    some 1073741824
  else
    if (fcmpF .gtr .f64 x 0) then
      f2iF .f64 x .i64 fun n1 =>
      some n1
    else
      some 0
noncomputable def clock_Pair (x : (Nat × Nat)) : Option (Int × Int) :=
  (clock_count x.1).bind fun r1 =>
  (clock_count x.2).bind fun r2 =>
  some (r1, r2)
noncomputable def clock_whole (x : (Nat × Nat)) : Option (Nat × Nat) :=
  (clock_Pair (x.1, x.2)).bind fun r1 =>
  (clock_Of (r1.1, r1.2)).bind fun r2 =>
  some (r2.1, r2.2)
noncomputable def clock_Tick (x : ((Nat × Nat) × Int)) : Option (Nat × Nat) :=
  if ((bitsI .and .i64 x.2 1) == 1) then
    (clock_whole (x.1.1, x.1.2)).bind fun r1 =>
    faddF .f64 r1.1 0 fun f2 =>
    faddF .f64 r1.2 4607182418800017408 fun f3 =>
    (clock_whole (f2, f3)).bind fun r4 =>
    some (r4.1, r4.2)
  else
    (clock_whole (x.1.1, x.1.2)).bind fun r5 =>
    faddF .f64 r5.1 4607182418800017408 fun f6 =>
    faddF .f64 r5.2 0 fun f7 =>
    (clock_whole (f6, f7)).bind fun r8 =>
    some (r8.1, r8.2)
noncomputable def scan_step {R : Type} (x : (List UInt8 × (Bool × (List UInt8 × (Int × Int)))) × (List UInt8 × (Bool × (List UInt8 × (Int × Int))))) (s : Int × (List (List UInt8 × (Bool × (List UInt8 × (Int × Int)))) × (List (List UInt8) × (Int × (List (List UInt8 × (Bool × (List UInt8 × (Int × Int)))) × List (List UInt8)))))) (k kr : Int × (List (List UInt8 × (Bool × (List UInt8 × (Int × Int)))) × (List (List UInt8) × (Int × (List (List UInt8 × (Bool × (List UInt8 × (Int × Int)))) × List (List UInt8))))) → Option R) : Option R :=
  if (!((x.2.1 == x.1.1) && ((x.2.2.1 == x.1.2.1) && ((x.2.2.2.1 == x.1.2.2.1) && ((x.1.2.2.2.1 == x.1.2.2.2.1) && (x.1.2.2.2.2 == x.1.2.2.2.2)))))) then
    (clock_Of (x.1.2.2.2.1, x.1.2.2.2.2)).bind fun r1 =>
    (clock_Tick ((r1.1, r1.2), s.1)).bind fun r2 =>
    (clock_Pair (r2.1, r2.2)).bind fun r3 =>
    if (fitsB 16 ((s.2.2.2.2.2 ++ [x.2.1]).length : Int)) then
      if ((r3.1 == x.1.2.2.2.1) && (r3.2 == x.1.2.2.2.2)) then
        kr (s.1, ([], ([], (2, (s.2.2.2.2.1, (s.2.2.2.2.2 ++ [x.2.1]))))))
      else
        if (fitsB 56 ((s.2.2.2.2.1 ++ [(x.2.1, (x.2.2.1, (x.2.2.2.1, (r3.1, r3.2))))]).length : Int)) then
          k (s.1, (s.2.1, (s.2.2.1, (s.2.2.2.1, ((s.2.2.2.2.1 ++ [(x.2.1, (x.2.2.1, (x.2.2.2.1, (r3.1, r3.2))))]), (s.2.2.2.2.2 ++ [x.2.1]))))))
        else none
    else none
  else
    if (fitsB 56 ((s.2.2.2.2.1 ++ [(x.2.1, (x.2.2.1, (x.2.2.2.1, (x.1.2.2.2.1, x.1.2.2.2.2))))]).length : Int)) then
      k (s.1, (s.2.1, (s.2.2.1, (s.2.2.2.1, ((s.2.2.2.2.1 ++ [(x.2.1, (x.2.2.1, (x.2.2.2.1, (x.1.2.2.2.1, x.1.2.2.2.2))))]), s.2.2.2.2.2)))))
    else none
noncomputable def ref01_Rows (x : ((List (List UInt8)) × (List (List UInt8)))) : Option Bool :=
  if ((x.1.length : Int) != (x.2.length : Int)) then
    some false
  else
    fixS (S := Int) (R := Bool) (fun again1 s2 =>
      if decide (s2 < (x.1.length : Int)) then
        ixL x.1 s2 fun x3 =>
        ixL x.2 s2 fun x4 =>
        if (!(x3 == x4)) then
          some false
        else
          again1 (IntKind.wrap .i64 (s2 + 1))
      else
        some true) fuel 0
noncomputable def path_Sorted (x : (List (List UInt8))) : Option Bool :=
  fixS (S := Int) (R := Bool) (fun again1 s2 =>
    if decide (s2 < (x.length : Int)) then
      ixL x s2 fun x3 =>
      (path_Right x3).bind fun r4 =>
      if (!r4) then
        some false
      else
        if decide (s2 > 0) then
          ixL x (IntKind.wrap .i64 (s2 - 1)) fun x5 =>
          if (Op.bytesLess x3 x5 || x3 == x5) then
            some false
          else
            again1 (IntKind.wrap .i64 (s2 + 1))
        else
          again1 (IntKind.wrap .i64 (s2 + 1))
    else
      some true) fuel 0
end Go.Proofs.W.Q9
namespace Go.Proofs.W.Q10
open Go Go.Proofs.V Go.Proofs.W.Q9
set_option linter.unusedVariables false
set_option linter.unusedSimpArgs false
/-- The entry of a path: the last one. -/
def getL (l : List ((List UInt8) × (Bool × ((List UInt8) × (Int × Int))))) (q : List UInt8) : Option ((List UInt8) × (Bool × ((List UInt8) × (Int × Int)))) := l.reverse.find? fun e => decide (e.1 = q)
end Go.Proofs.W.Q10
namespace Go.Proofs.W.Q10
open Go Go.Proofs.V Go.Proofs.W.Q9
set_option linter.unusedVariables false
set_option linter.unusedSimpArgs false
noncomputable def ref03_cut (x : (List UInt8)) : Option (List (List UInt8)) :=
  fixS (S := ((List (List UInt8)) × (Int × Int))) (R := (List (List UInt8))) (fun again1 s2 =>
    if decide (s2.2.2 ≤ (x.length : Int)) then
      if (s2.2.2 == (x.length : Int)) then
        cutL x s2.2.1 s2.2.2 fun y3 =>
        if (fitsB 16 ((s2.1 ++ [y3]).length : Int)) then
          again1 ((s2.1 ++ [y3]), ((IntKind.wrap .i64 (s2.2.2 + 1)), (IntKind.wrap .i64 (s2.2.2 + 1))))
        else none
      else
        sixL x s2.2.2 fun b4 =>
        if (b4 == 47) then
          cutL x s2.2.1 s2.2.2 fun y5 =>
          if (fitsB 16 ((s2.1 ++ [y5]).length : Int)) then
            again1 ((s2.1 ++ [y5]), ((IntKind.wrap .i64 (s2.2.2 + 1)), (IntKind.wrap .i64 (s2.2.2 + 1))))
          else none
        else
          again1 (s2.1, (s2.2.1, (IntKind.wrap .i64 (s2.2.2 + 1))))
    else
      some s2.1) fuel ([], (0, 0))
noncomputable def ref03_Name (x : (List UInt8)) : Option Bool :=
  if decide ((x.length : Int) < 1) then
    some false
  else
    if decide ((x.length : Int) > 12) then
      some false
    else
      if (x == [46]) then
        some false
      else
        if (x == [46, 46]) then
          some false
        else
          fixS (S := Int) (R := Bool) (fun again1 s2 =>
            if decide (s2 < (x.length : Int)) then
              sixL x s2 fun b3 =>
              if decide (b3 ≥ 97) then
                if decide (b3 ≤ 122) then
                  again1 (IntKind.wrap .i64 (s2 + 1))
                else
                  if decide (b3 ≥ 48) then
                    if decide (b3 ≤ 57) then
                      again1 (IntKind.wrap .i64 (s2 + 1))
                    else
                      if (b3 == 46) then
                        again1 (IntKind.wrap .i64 (s2 + 1))
                      else
                        if (!(b3 == 45)) then
                          some false
                        else
                          again1 (IntKind.wrap .i64 (s2 + 1))
                  else
                    if (b3 == 46) then
                      again1 (IntKind.wrap .i64 (s2 + 1))
                    else
                      if (!(b3 == 45)) then
                        some false
                      else
                        again1 (IntKind.wrap .i64 (s2 + 1))
              else
                if decide (b3 ≥ 48) then
                  if decide (b3 ≤ 57) then
                    again1 (IntKind.wrap .i64 (s2 + 1))
                  else
                    if (b3 == 46) then
                      again1 (IntKind.wrap .i64 (s2 + 1))
                    else
                      if (!(b3 == 45)) then
                        some false
                      else
                        again1 (IntKind.wrap .i64 (s2 + 1))
                else
                  if (b3 == 46) then
                    again1 (IntKind.wrap .i64 (s2 + 1))
                  else
                    if (!(b3 == 45)) then
                      some false
                    else
                      again1 (IntKind.wrap .i64 (s2 + 1))
            else
              some true) fuel 0
noncomputable def ref03_Right (x : (List UInt8)) : Option Bool :=
  (ref03_cut x).bind fun r1 =>
  if decide ((r1.length : Int) > 4) then
    some false
  else
    fixS (S := Int) (R := Bool) (fun again2 s3 =>
      if decide (s3 < (r1.length : Int)) then
        ixL r1 s3 fun x4 =>
        (ref03_Name x4).bind fun r5 =>
        if (!r5) then
          some false
        else
          again2 (IntKind.wrap .i64 (s3 + 1))
      else
        some true) fuel 0
noncomputable def ref02_Right (x : (Int × Int)) : Option Bool :=
  if decide (x.1 ≥ 0) then
    if decide (x.1 ≤ 1073741824) then
      if decide (x.2 ≥ 0) then
        some (decide (x.2 ≤ 1073741824))
      else
        some false
    else
      some false
  else
    some false
noncomputable def ref09_files (x : (List ((List UInt8) × (Bool × ((List UInt8) × (Int × Int)))))) : Option (List ((List UInt8) × (List UInt8))) :=
  fixS (S := ((List ((List UInt8) × (List UInt8))) × Int)) (R := (List ((List UInt8) × (List UInt8)))) (fun again1 s2 =>
    if decide (s2.2 < (x.length : Int)) then
      ixL x s2.2 fun x3 =>
      if x3.2.1 then
        ixL x s2.2 fun x4 =>
        ixL x s2.2 fun x5 =>
        if (fitsB 32 ((s2.1 ++ [(x4.1, x5.2.2.1)]).length : Int)) then
          again1 ((s2.1 ++ [(x4.1, x5.2.2.1)]), (IntKind.wrap .i64 (s2.2 + 1)))
        else none
      else
        again1 (s2.1, (IntKind.wrap .i64 (s2.2 + 1)))
    else
      some s2.1) fuel ([], 0)
noncomputable def ref03_Under (x : ((List UInt8) × (List UInt8))) : Option Bool :=
  (ref03_Right x.1).bind fun r1 =>
  if (!r1) then
    some false
  else
    (ref03_Right x.2).bind fun r2 =>
    if (!r2) then
      some false
    else
      if decide ((x.1.length : Int) ≤ (x.2.length : Int)) then
        some false
      else
        cutL x.1 0 (x.2.length : Int) fun y3 =>
        if (y3 == x.2) then
          sixL x.1 (x.2.length : Int) fun b4 =>
          some (b4 == 47)
        else
          some false
noncomputable def ref04_Right (x : (List ((List UInt8) × (List UInt8)))) : Option Bool :=
  if decide ((x.length : Int) > 16) then
    some false
  else
    fixS (S := Int) (R := Bool) (fun again1 s2 =>
      if decide (s2 < (x.length : Int)) then
        ixL x s2 fun x3 =>
        (ref03_Right x3.1).bind fun r4 =>
        if (!r4) then
          some false
        else
          ixL x s2 fun x5 =>
          if decide ((x5.2.length : Int) > 600) then
            some false
          else
            if decide (s2 > 0) then
              ixL x s2 fun x6 =>
              ixL x (IntKind.wrap .i64 (s2 - 1)) fun x7 =>
              if (Op.bytesLess x6.1 x7.1 || x6.1 == x7.1) then
                some false
              else
                fixS (S := Int) (R := Bool) (fun again8 s9 =>
                  if decide (s9 < s2) then
                    ixL x s2 fun x10 =>
                    ixL x s9 fun x11 =>
                    (ref03_Under (x10.1, x11.1)).bind fun r12 =>
                    if r12 then
                      some false
                    else
                      again8 (IntKind.wrap .i64 (s9 + 1))
                  else
                    again1 (IntKind.wrap .i64 (s2 + 1))) fuel 0
            else
              fixS (S := Int) (R := Bool) (fun again13 s14 =>
                if decide (s14 < s2) then
                  ixL x s2 fun x15 =>
                  ixL x s14 fun x16 =>
                  (ref03_Under (x15.1, x16.1)).bind fun r17 =>
                  if r17 then
                    some false
                  else
                    again13 (IntKind.wrap .i64 (s14 + 1))
                else
                  again1 (IntKind.wrap .i64 (s2 + 1))) fuel 0
      else
        some true) fuel 0
noncomputable def ref09_Right (x : (List ((List UInt8) × (Bool × ((List UInt8) × (Int × Int)))))) : Option Bool :=
  if decide ((x.length : Int) > 32) then
    some false
  else
    fixS (S := Int) (R := Bool) (fun again1 s2 =>
      if decide (s2 < (x.length : Int)) then
        ixL x s2 fun x3 =>
        (ref03_Right x3.1).bind fun r4 =>
        (ref02_Right (x3.2.2.2.1, x3.2.2.2.2)).bind fun r5 =>
        if (!r4) then
          some false
        else
          if (!r5) then
            some false
          else
            if (x3.2.2.2.1 == 0) then
              if (x3.2.2.2.2 == 0) then
                some false
              else
                if (!x3.2.1) then
                  if (!(x3.2.2.1 == [])) then
                    some false
                  else
                    if decide (s2 > 0) then
                      ixL x (IntKind.wrap .i64 (s2 - 1)) fun x6 =>
                      if (Op.bytesLess x3.1 x6.1 || x3.1 == x6.1) then
                        some false
                      else
                        again1 (IntKind.wrap .i64 (s2 + 1))
                    else
                      again1 (IntKind.wrap .i64 (s2 + 1))
                else
                  if decide (s2 > 0) then
                    ixL x (IntKind.wrap .i64 (s2 - 1)) fun x7 =>
                    if (Op.bytesLess x3.1 x7.1 || x3.1 == x7.1) then
                      some false
                    else
                      again1 (IntKind.wrap .i64 (s2 + 1))
                  else
                    again1 (IntKind.wrap .i64 (s2 + 1))
            else
              if (!x3.2.1) then
                if (!(x3.2.2.1 == [])) then
                  some false
                else
                  if decide (s2 > 0) then
                    ixL x (IntKind.wrap .i64 (s2 - 1)) fun x8 =>
                    if (Op.bytesLess x3.1 x8.1 || x3.1 == x8.1) then
                      some false
                    else
                      again1 (IntKind.wrap .i64 (s2 + 1))
                  else
                    again1 (IntKind.wrap .i64 (s2 + 1))
              else
                if decide (s2 > 0) then
                  ixL x (IntKind.wrap .i64 (s2 - 1)) fun x9 =>
                  if (Op.bytesLess x3.1 x9.1 || x3.1 == x9.1) then
                    some false
                  else
                    again1 (IntKind.wrap .i64 (s2 + 1))
                else
                  again1 (IntKind.wrap .i64 (s2 + 1))
      else
        (ref09_files x).bind fun r10 =>
        (ref04_Right r10).bind fun r11 =>
        some r11) fuel 0
noncomputable def ref09_Same (x : ((List ((List UInt8) × (Bool × ((List UInt8) × (Int × Int))))) × (List ((List UInt8) × (Bool × ((List UInt8) × (Int × Int))))))) : Option Bool :=
  if ((x.1.length : Int) != (x.2.length : Int)) then
    some false
  else
    fixS (S := Int) (R := Bool) (fun again1 s2 =>
      if decide (s2 < (x.1.length : Int)) then
        ixL x.1 s2 fun x3 =>
        ixL x.2 s2 fun x4 =>
        if (!((x3.1 == x4.1) && ((x3.2.1 == x4.2.1) && ((x3.2.2.1 == x4.2.2.1) && ((x3.2.2.2.1 == x4.2.2.2.1) && (x3.2.2.2.2 == x4.2.2.2.2)))))) then
          some false
        else
          again1 (IntKind.wrap .i64 (s2 + 1))
      else
        some true) fuel 0
end Go.Proofs.W.Q10
namespace Go.Proofs.W.Q10
open Go Go.Proofs.V Go.Proofs.W.Q9
set_option linter.unusedVariables false
set_option linter.unusedSimpArgs false
noncomputable def ref04_Same (x : ((List ((List UInt8) × (List UInt8))) × (List ((List UInt8) × (List UInt8))))) : Option Bool :=
  if ((x.1.length : Int) != (x.2.length : Int)) then
    some false
  else
    fixS (S := Int) (R := Bool) (fun again1 s2 =>
      if decide (s2 < (x.1.length : Int)) then
        ixL x.1 s2 fun x3 =>
        ixL x.2 s2 fun x4 =>
        if (!((x3.1 == x4.1) && (x3.2 == x4.2))) then
          some false
        else
          again1 (IntKind.wrap .i64 (s2 + 1))
      else
        some true) fuel 0
end Go.Proofs.W.Q10

/- What is left of the functions of chapter 09, once memory is out of sight. -/
import Derived.Test.YtnjfjjmlonalhaaDoorK19
import Derived.Test.YtnjfjjmlonalhaaDoorK20
namespace Go.Proofs.W.Q9
open Go Go.Proofs.V
set_option linter.unusedVariables false
set_option linter.unusedSimpArgs false
abbrev reE : RT := .cons .str (.cons .bool (.cons .str (.cons (.int .i64) (.one (.int .i64)))))
abbrev rfF : RT := .cons .str (.one .str)
abbrev tau9 : RT4 := ⟨reE, rfF, reE, reE⟩
noncomputable def strings_Split (x : List UInt8 × List UInt8) : Option (List (List UInt8)) := if x.2 = [47] ∧ x.1.length ≤ 1000000 then some (E.spl x.1) else none
noncomputable def slices_Clone_Entry (x : List (List UInt8 × (Bool × (List UInt8 × (Int × Int))))) : Option (List (List UInt8 × (Bool × (List UInt8 × (Int × Int))))) := if x.length * 56 ≤ 35184372088832 then some x else none
noncomputable def bytealg_IndexByteString (x : List UInt8 × Int) : Option Int := if 0 ≤ x.2 ∧ x.2 < 256 then some (Lib.indexByte x.1 (x.2.toNat.toUInt8)) else none
noncomputable def bytealg_CountString (x : List UInt8 × Int) : Option Int := if 0 ≤ x.2 ∧ x.2 < 256 then some ((Lib.countByte x.1 (x.2.toNat.toUInt8) : Nat) : Int) else none
noncomputable def stringslite_IndexByte (x : ((List UInt8) × Int)) : Option Int :=
  (bytealg_IndexByteString (x.1, x.2)).bind fun r1 =>
  some r1
noncomputable def strings_IndexByte (x : ((List UInt8) × Int)) : Option Int :=
  (stringslite_IndexByte (x.1, x.2)).bind fun r1 =>
  some r1
noncomputable def path_Name (x : (List UInt8)) : Option Bool :=
  fixS (S := Int) (R := Bool) (fun again1 s2 =>
    if decide (s2 < ((toBL x).length : Int)) then
      ixL (toBL x) s2 fun x3 =>
      if decide (x3 ≥ 97) then
        if decide (x3 ≤ 122) then
          again1 (IntKind.wrap .i64 (s2 + 1))
        else
          if decide (x3 ≥ 48) then
            if (!decide (x3 ≤ 57)) then
              (strings_IndexByte ([46, 45], x3)).bind fun r4 =>
              if decide (r4 < 0) then
                some false
              else
                again1 (IntKind.wrap .i64 (s2 + 1))
            else
              again1 (IntKind.wrap .i64 (s2 + 1))
          else
            (strings_IndexByte ([46, 45], x3)).bind fun r5 =>
            if decide (r5 < 0) then
              some false
            else
              again1 (IntKind.wrap .i64 (s2 + 1))
      else
        if decide (x3 ≥ 48) then
          if (!decide (x3 ≤ 57)) then
            (strings_IndexByte ([46, 45], x3)).bind fun r6 =>
            if decide (r6 < 0) then
              some false
            else
              again1 (IntKind.wrap .i64 (s2 + 1))
          else
            again1 (IntKind.wrap .i64 (s2 + 1))
        else
          (strings_IndexByte ([46, 45], x3)).bind fun r7 =>
          if decide (r7 < 0) then
            some false
          else
            again1 (IntKind.wrap .i64 (s2 + 1))
    else
      if decide ((x.length : Int) > 0) then
        if decide ((x.length : Int) ≤ 12) then
          if (!(x == [46])) then
            some (!(x == [46, 46]))
          else
            some false
        else
          some false
      else
        some false) fuel 0
noncomputable def path_Names (x : (List UInt8)) : Option (List (List UInt8)) :=
  (strings_Split (x, [47])).bind fun r1 =>
  if decide ((r1.length : Int) > 4) then
    some []
  else
    fixS (S := Int) (R := (List (List UInt8))) (fun again2 s3 =>
      if decide (s3 < (r1.length : Int)) then
        ixL r1 s3 fun x4 =>
        (path_Name x4).bind fun r5 =>
        if (!r5) then
          some []
        else
          again2 (IntKind.wrap .i64 (s3 + 1))
      else
        some r1) fuel 0
noncomputable def path_Right (x : (List UInt8)) : Option Bool :=
  (path_Names x).bind fun r1 =>
  some (decide ((r1.length : Int) > 0))
noncomputable def clock_Right (x : (Int × Int)) : Option Bool :=
  if decide ((if x.2 < x.1 then x.2 else x.1) ≥ 0) then
    some (decide ((if x.1 < x.2 then x.2 else x.1) ≤ 1073741824))
  else
    some false
noncomputable def scan_files (x : (List ((List UInt8) × (Bool × ((List UInt8) × (Int × Int)))))) : Option (List ((List UInt8) × (List UInt8))) :=
  fixS (S := ((List ((List UInt8) × (List UInt8))) × Int)) (R := (List ((List UInt8) × (List UInt8)))) (fun again1 s2 =>
    if decide (s2.2 < (x.length : Int)) then
      ixL x s2.2 fun x3 =>
      if x3.2.1 then
        if (fitsB 32 ((s2.1 ++ [(x3.1, x3.2.2.1)]).length : Int)) then
          again1 ((s2.1 ++ [(x3.1, x3.2.2.1)]), (IntKind.wrap .i64 (s2.2 + 1)))
        else none
      else
        again1 (s2.1, (IntKind.wrap .i64 (s2.2 + 1)))
    else
      some s2.1) fuel ([], 0)
noncomputable def stringslite_HasPrefix (x : ((List UInt8) × (List UInt8))) : Option Bool :=
  if decide ((x.1.length : Int) ≥ (x.2.length : Int)) then
    cutL x.1 0 (x.2.length : Int) fun y1 =>
    some (y1 == x.2)
  else
    some false
noncomputable def strings_HasPrefix (x : ((List UInt8) × (List UInt8))) : Option Bool :=
  (stringslite_HasPrefix (x.1, x.2)).bind fun r1 =>
  some r1
noncomputable def path_Under (x : ((List UInt8) × (List UInt8))) : Option Bool :=
  (path_Right x.1).bind fun r1 =>
  if r1 then
    (path_Right x.2).bind fun r2 =>
    if r2 then
      if (fitsB 1 (x.2.length : Int)) then
        if (fitsB 1 ([47].length : Int)) then
          (strings_HasPrefix (x.1, (x.2 ++ [47]))).bind fun r3 =>
          some r3
        else none
      else none
    else
      some false
  else
    some false
noncomputable def tree_Right_1 (x : ((List UInt8) × ((List UInt8) × ((List UInt8) × (List UInt8))))) : Option Bool :=
  (path_Under (x.2.2.1, x.1)).bind fun r1 =>
  some r1
noncomputable def slices_IndexFunc_File_tree_Right_1 (x : ((List ((List UInt8) × (List UInt8))) × ((List UInt8) × (List UInt8)))) : Option Int :=
  fixS (S := Int) (R := Int) (fun again1 s2 =>
    if decide (s2 < (x.1.length : Int)) then
      ixL x.1 s2 fun x3 =>
      (tree_Right_1 (x3.1, (x3.2, (x.2.1, x.2.2)))).bind fun r4 =>
      if r4 then
        some s2
      else
        again1 (IntKind.wrap .i64 (s2 + 1))
    else
      some (-1)) fuel 0
noncomputable def slices_ContainsFunc_File_tree_Right_1 (x : ((List ((List UInt8) × (List UInt8))) × ((List UInt8) × (List UInt8)))) : Option Bool :=
  (slices_IndexFunc_File_tree_Right_1 (x.1, (x.2.1, x.2.2))).bind fun r1 =>
  some (decide (r1 ≥ 0))
noncomputable def tree_Right (x : (List ((List UInt8) × (List UInt8)))) : Option Bool :=
  if decide ((x.length : Int) > 16) then
    some false
  else
    fixS (S := Int) (R := Bool) (fun again1 s2 =>
      if decide (s2 < (x.length : Int)) then
        ixL x s2 fun x3 =>
        (path_Right x3.1).bind fun r4 =>
        if (!r4) then
          some false
        else
          if decide ((x3.2.length : Int) > 600) then
            some false
          else
            if decide (s2 > 0) then
              ixL x (IntKind.wrap .i64 (s2 - 1)) fun x5 =>
              if (Op.bytesLess x3.1 x5.1 || x3.1 == x5.1) then
                some false
              else
                (slices_ContainsFunc_File_tree_Right_1 (x, (x3.1, x3.2))).bind fun r6 =>
                if r6 then
                  some false
                else
                  again1 (IntKind.wrap .i64 (s2 + 1))
            else
              (slices_ContainsFunc_File_tree_Right_1 (x, (x3.1, x3.2))).bind fun r7 =>
              if r7 then
                some false
              else
                again1 (IntKind.wrap .i64 (s2 + 1))
      else
        some true) fuel 0
noncomputable def scan_Right (x : (List ((List UInt8) × (Bool × ((List UInt8) × (Int × Int)))))) : Option Bool :=
  fixS (S := Int) (R := Bool) (fun again1 s2 =>
    if decide (s2 < (x.length : Int)) then
      ixL x s2 fun x3 =>
      (path_Right x3.1).bind fun r4 =>
      if (!r4) then
        some false
      else
        if decide (s2 > 0) then
          ixL x (IntKind.wrap .i64 (s2 - 1)) fun x5 =>
          if (Op.bytesLess x3.1 x5.1 || x3.1 == x5.1) then
            some false
          else
            (clock_Right (x3.2.2.2.1, x3.2.2.2.2)).bind fun r6 =>
            if (!r6) then
              some false
            else
              if ((x3.2.2.2.1 == 0) && (x3.2.2.2.2 == 0)) then
                some false
              else
                if (!x3.2.1) then
                  if (!(x3.2.2.1 == [])) then
                    some false
                  else
                    again1 (IntKind.wrap .i64 (s2 + 1))
                else
                  again1 (IntKind.wrap .i64 (s2 + 1))
        else
          (clock_Right (x3.2.2.2.1, x3.2.2.2.2)).bind fun r7 =>
          if (!r7) then
            some false
          else
            if ((x3.2.2.2.1 == 0) && (x3.2.2.2.2 == 0)) then
              some false
            else
              if (!x3.2.1) then
                if (!(x3.2.2.1 == [])) then
                  some false
                else
                  again1 (IntKind.wrap .i64 (s2 + 1))
              else
                again1 (IntKind.wrap .i64 (s2 + 1))
    else
      if decide ((x.length : Int) ≤ 32) then
        (scan_files x).bind fun r8 =>
        (tree_Right r8).bind fun r9 =>
        some r9
      else
        some false) fuel 0
noncomputable def clock_clamp (x : Int) : Option Nat :=
  some (FloatKind.nearest .f64 (if 0 < (if 1073741824 < x then 1073741824 else x) then (if 1073741824 < x then 1073741824 else x) else 0))
noncomputable def clock_Of (x : (Int × Int)) : Option (Nat × Nat) :=
  (clock_clamp x.1).bind fun r1 =>
  (clock_clamp x.2).bind fun r2 =>
  some (r1, r2)
noncomputable def clock_count (x : Nat) : Option Int :=
  if (fcmpF .geq .f64 x 4742290407621132288) then
    some 1073741824
  else
    if (fcmpF .gtr .f64 x 0) then
      f2iF .f64 x .i64 fun n1 =>
      some n1
    else
      some 0
noncomputable def clock_Pair (x : (Nat × Nat)) : Option (Int × Int) :=
  (clock_count x.1).bind fun r1 =>
  (clock_count x.2).bind fun r2 =>
  some (r1, r2)
noncomputable def clock_whole (x : (Nat × Nat)) : Option (Nat × Nat) :=
  (clock_Pair (x.1, x.2)).bind fun r1 =>
  (clock_Of (r1.1, r1.2)).bind fun r2 =>
  some (r2.1, r2.2)
noncomputable def clock_Tick (x : ((Nat × Nat) × Int)) : Option (Nat × Nat) :=
  if ((bitsI .and .i64 x.2 1) == 1) then
    (clock_whole (x.1.1, x.1.2)).bind fun r1 =>
    faddF .f64 r1.1 0 fun f2 =>
    faddF .f64 r1.2 4607182418800017408 fun f3 =>
    (clock_whole (f2, f3)).bind fun r4 =>
    some (r4.1, r4.2)
  else
    (clock_whole (x.1.1, x.1.2)).bind fun r5 =>
    faddF .f64 r5.1 4607182418800017408 fun f6 =>
    faddF .f64 r5.2 0 fun f7 =>
    (clock_whole (f6, f7)).bind fun r8 =>
    some (r8.1, r8.2)
noncomputable def both_step (l0 : List (List UInt8 × (Bool × (List UInt8 × (Int × Int))))) (l1 : List (List UInt8 × List UInt8)) : Option (ItR tau9) :=
  if decide ((IntKind.wrap .i64 ((l0.length : Int) + (l1.length : Int))) > 0) then
    if ((l1.length : Int) == 0) then
      ixL l0 0 fun x1 =>
      ixL l0 0 fun x2 =>
      cutL l0 1 (l0.length : Int) fun y3 =>
      some (some ((x1.1, (x1.2.1, (x1.2.2.1, (x1.2.2.2.1, x1.2.2.2.2)))), ((x2.1, (false, ([], (0, 0)))), (y3, l1))))
    else
      if decide ((l0.length : Int) > 0) then
        ixL l0 0 fun x4 =>
        ixL l1 0 fun x5 =>
        if (Op.bytesLess x4.1 x5.1) then
          ixL l0 0 fun x6 =>
          ixL l0 0 fun x7 =>
          cutL l0 1 (l0.length : Int) fun y8 =>
          some (some ((x6.1, (x6.2.1, (x6.2.2.1, (x6.2.2.2.1, x6.2.2.2.2)))), ((x7.1, (false, ([], (0, 0)))), (y8, l1))))
        else
          if ((l0.length : Int) == 0) then
            ixL l1 0 fun x9 =>
            ixL l1 0 fun x10 =>
            ixL l1 0 fun x11 =>
            cutL l1 1 (l1.length : Int) fun y12 =>
            some (some ((x9.1, (false, ([], (0, 0)))), ((x10.1, (true, (x11.2, (0, 0)))), (l0, y12))))
          else
            ixL l0 0 fun x13 =>
            ixL l1 0 fun x14 =>
            if (!(Op.bytesLess x13.1 x14.1 || x13.1 == x14.1)) then
              ixL l1 0 fun x15 =>
              ixL l1 0 fun x16 =>
              ixL l1 0 fun x17 =>
              cutL l1 1 (l1.length : Int) fun y18 =>
              some (some ((x15.1, (false, ([], (0, 0)))), ((x16.1, (true, (x17.2, (0, 0)))), (l0, y18))))
            else
              ixL l0 0 fun x19 =>
              ixL l1 0 fun x20 =>
              ixL l1 0 fun x21 =>
              cutL l0 1 (l0.length : Int) fun y22 =>
              cutL l1 1 (l1.length : Int) fun y23 =>
              some (some ((x19.1, (x19.2.1, (x19.2.2.1, (x19.2.2.2.1, x19.2.2.2.2)))), ((x20.1, (true, (x21.2, (0, 0)))), (y22, y23))))
      else
        if ((l0.length : Int) == 0) then
          ixL l1 0 fun x24 =>
          ixL l1 0 fun x25 =>
          ixL l1 0 fun x26 =>
          cutL l1 1 (l1.length : Int) fun y27 =>
          some (some ((x24.1, (false, ([], (0, 0)))), ((x25.1, (true, (x26.2, (0, 0)))), (l0, y27))))
        else
          ixL l0 0 fun x28 =>
          ixL l1 0 fun x29 =>
          if (!(Op.bytesLess x28.1 x29.1 || x28.1 == x29.1)) then
            ixL l1 0 fun x30 =>
            ixL l1 0 fun x31 =>
            ixL l1 0 fun x32 =>
            cutL l1 1 (l1.length : Int) fun y33 =>
            some (some ((x30.1, (false, ([], (0, 0)))), ((x31.1, (true, (x32.2, (0, 0)))), (l0, y33))))
          else
            ixL l0 0 fun x34 =>
            ixL l1 0 fun x35 =>
            ixL l1 0 fun x36 =>
            cutL l0 1 (l0.length : Int) fun y37 =>
            cutL l1 1 (l1.length : Int) fun y38 =>
            some (some ((x34.1, (x34.2.1, (x34.2.2.1, (x34.2.2.2.1, x34.2.2.2.2)))), ((x35.1, (true, (x36.2, (0, 0)))), (y37, y38))))
  else
    some none
noncomputable def scan_step {R : Type} (x : (List UInt8 × (Bool × (List UInt8 × (Int × Int)))) × (List UInt8 × (Bool × (List UInt8 × (Int × Int))))) (s : Int × (List (List UInt8 × (Bool × (List UInt8 × (Int × Int)))) × (List (List UInt8) × (Int × (List (List UInt8 × (Bool × (List UInt8 × (Int × Int)))) × List (List UInt8)))))) (k kr : Int × (List (List UInt8 × (Bool × (List UInt8 × (Int × Int)))) × (List (List UInt8) × (Int × (List (List UInt8 × (Bool × (List UInt8 × (Int × Int)))) × List (List UInt8))))) → Option R) : Option R :=
  if (!((x.2.1 == x.1.1) && ((x.2.2.1 == x.1.2.1) && ((x.2.2.2.1 == x.1.2.2.1) && ((x.1.2.2.2.1 == x.1.2.2.2.1) && (x.1.2.2.2.2 == x.1.2.2.2.2)))))) then
    (clock_Of (x.1.2.2.2.1, x.1.2.2.2.2)).bind fun r1 =>
    (clock_Tick ((r1.1, r1.2), s.1)).bind fun r2 =>
    (clock_Pair (r2.1, r2.2)).bind fun r3 =>
    if (fitsB 16 ((s.2.2.2.2.2 ++ [x.2.1]).length : Int)) then
      if ((r3.1 == x.1.2.2.2.1) && (r3.2 == x.1.2.2.2.2)) then
        kr (s.1, ([], ([], (2, (s.2.2.2.2.1, (s.2.2.2.2.2 ++ [x.2.1]))))))
      else
        if (fitsB 56 ((s.2.2.2.2.1 ++ [(x.2.1, (x.2.2.1, (x.2.2.2.1, (r3.1, r3.2))))]).length : Int)) then
          k (s.1, (s.2.1, (s.2.2.1, (s.2.2.2.1, ((s.2.2.2.2.1 ++ [(x.2.1, (x.2.2.1, (x.2.2.2.1, (r3.1, r3.2))))]), (s.2.2.2.2.2 ++ [x.2.1]))))))
        else none
    else none
  else
    if (fitsB 56 ((s.2.2.2.2.1 ++ [(x.2.1, (x.2.2.1, (x.2.2.2.1, (x.1.2.2.2.1, x.1.2.2.2.2))))]).length : Int)) then
      k (s.1, (s.2.1, (s.2.2.1, (s.2.2.2.1, ((s.2.2.2.2.1 ++ [(x.2.1, (x.2.2.1, (x.2.2.2.1, (x.1.2.2.2.1, x.1.2.2.2.2))))]), s.2.2.2.2.2)))))
    else none
noncomputable def scan_post (s : Int × (List (List UInt8 × (Bool × (List UInt8 × (Int × Int)))) × (List (List UInt8) × (Int × (List (List UInt8 × (Bool × (List UInt8 × (Int × Int)))) × List (List UInt8)))))) : Option ((List (List UInt8 × (Bool × (List UInt8 × (Int × Int))))) × ((List (List UInt8)) × Int)) :=
  if decide ((s.2.2.2.2.1.length : Int) > 32) then
    some ([], ([], 2))
  else
    some (s.2.2.2.2.1, (s.2.2.2.2.2, 0))
noncomputable def scan_early (s : Int × (List (List UInt8 × (Bool × (List UInt8 × (Int × Int)))) × (List (List UInt8) × (Int × (List (List UInt8 × (Bool × (List UInt8 × (Int × Int)))) × List (List UInt8)))))) : Option ((List (List UInt8 × (Bool × (List UInt8 × (Int × Int))))) × ((List (List UInt8)) × Int)) :=
  some (s.2.1, (s.2.2.1, s.2.2.2.1))
noncomputable def scan_Scan (x : (List (List UInt8 × (Bool × (List UInt8 × (Int × Int))))) × ((List (List UInt8 × List UInt8)) × Int)) : Option ((List (List UInt8 × (Bool × (List UInt8 × (Int × Int))))) × ((List (List UInt8)) × Int)) :=
  (scan_Right x.1).bind fun r1 =>
  if (!r1) then
    some ([], ([], 1))
  else
    (tree_Right x.2.1).bind fun r2 =>
    if (!r2) then
      some ([], ([], 1))
    else
      (itRun (τ := tau9) both_step x.1 x.2.1).bind fun xs => rangeP scan_step xs (x.2.2, ([], ([], (0, ([], []))))) scan_post scan_early
noncomputable def slices_Equal_Entry (x : ((List ((List UInt8) × (Bool × ((List UInt8) × (Int × Int))))) × (List ((List UInt8) × (Bool × ((List UInt8) × (Int × Int))))))) : Option Bool :=
  if ((x.1.length : Int) != (x.2.length : Int)) then
    some false
  else
    fixS (S := Int) (R := Bool) (fun again1 s2 =>
      if decide (s2 < (x.1.length : Int)) then
        ixL x.1 s2 fun x3 =>
        ixL x.2 s2 fun x4 =>
        if (!((x3.1 == x4.1) && ((x3.2.1 == x4.2.1) && ((x3.2.2.1 == x4.2.2.1) && ((x3.2.2.2.1 == x4.2.2.2.1) && (x3.2.2.2.2 == x4.2.2.2.2)))))) then
          some false
        else
          again1 (IntKind.wrap .i64 (s2 + 1))
      else
        some true) fuel 0
noncomputable def scan_Same (x : ((List ((List UInt8) × (Bool × ((List UInt8) × (Int × Int))))) × (List ((List UInt8) × (Bool × ((List UInt8) × (Int × Int))))))) : Option Bool :=
  (slices_Equal_Entry (x.1, x.2)).bind fun r1 =>
  some r1
noncomputable def scan_find_1 (x : ((List UInt8) × (Bool × ((List UInt8) × (Int × (Int × (List UInt8))))))) : Option Bool :=
  some (x.1 == x.2.2.2.2.2)
noncomputable def slices_IndexFunc_Entry_scan_find_1 (x : ((List ((List UInt8) × (Bool × ((List UInt8) × (Int × Int))))) × (List UInt8))) : Option Int :=
  fixS (S := Int) (R := Int) (fun again1 s2 =>
    if decide (s2 < (x.1.length : Int)) then
      ixL x.1 s2 fun x3 =>
      (scan_find_1 (x3.1, (x3.2.1, (x3.2.2.1, (x3.2.2.2.1, (x3.2.2.2.2, x.2)))))).bind fun r4 =>
      if r4 then
        some s2
      else
        again1 (IntKind.wrap .i64 (s2 + 1))
    else
      some (-1)) fuel 0
noncomputable def scan_find (x : ((List ((List UInt8) × (Bool × ((List UInt8) × (Int × Int))))) × (List UInt8))) : Option Int :=
  (slices_IndexFunc_Entry_scan_find_1 (x.1, x.2)).bind fun r1 =>
  some r1
noncomputable def scan_Find (x : ((List ((List UInt8) × (Bool × ((List UInt8) × (Int × Int))))) × (List UInt8))) : Option Int :=
  (scan_Right x.1).bind fun r1 =>
  if (!r1) then
    some (-1)
  else
    (scan_find (x.1, x.2)).bind fun r2 =>
    some r2
noncomputable def scan_Tree (x : (List ((List UInt8) × (Bool × ((List UInt8) × (Int × Int)))))) : Option (List ((List UInt8) × (List UInt8))) :=
  (scan_Right x).bind fun r1 =>
  if (!r1) then
    some []
  else
    (scan_files x).bind fun r2 =>
    some r2
noncomputable def scan_Copy (x : (List ((List UInt8) × (Bool × ((List UInt8) × (Int × Int)))))) : Option (List ((List UInt8) × (Bool × ((List UInt8) × (Int × Int))))) :=
  (slices_Clone_Entry x).bind fun r1 =>
  some r1
noncomputable def law09_small (x : PUnit) : Option Bool :=
  (scan_Scan ([], ([([97], [49])], 0))).bind fun r1 =>
  (scan_Scan (r1.1, ([([98], [])], 1))).bind fun r2 =>
  (scan_Scan (r2.1, ([([98], [])], 0))).bind fun r3 =>
  if ((r1.1.length : Int) != 1) then
    some false
  else
    if ((r2.1.length : Int) != 2) then
      some false
    else
      if ((r1.2.1.length : Int) != 1) then
        some false
      else
        if ((r2.2.1.length : Int) != 2) then
          some false
        else
          if (r1.2.2 == 0) then
            if (r2.2.2 == 0) then
              if (r3.2.2 == 0) then
                if ((r3.2.1.length : Int) == 0) then
                  ixL r1.1 0 fun x4 =>
                  if ((x4.1 == [97]) && ((x4.2.1 == true) && ((x4.2.2.1 == [49]) && ((x4.2.2.2.1 == 1) && (x4.2.2.2.2 == 0))))) then
                    ixL r2.1 0 fun x5 =>
                    if ((x5.1 == [97]) && ((x5.2.1 == false) && ((x5.2.2.1 == []) && ((x5.2.2.2.1 == 1) && (x5.2.2.2.2 == 1))))) then
                      (scan_Same (r2.1, r3.1)).bind fun r6 =>
                      if r6 then
                        (scan_Find (r2.1, [98])).bind fun r7 =>
                        if (r7 == 1) then
                          (scan_Tree r2.1).bind fun r8 =>
                          if ((r8.length : Int) == 1) then
                            (scan_Right r2.1).bind fun r9 =>
                            if r9 then
                              (scan_Right [([97], (true, ([], (0, 0))))]).bind fun r10 =>
                              if (!r10) then
                                (scan_Copy r2.1).bind fun r11 =>
                                some ((r11.length : Int) == 2)
                              else
                                some false
                            else
                              some false
                          else
                            some false
                        else
                          some false
                      else
                        some false
                    else
                      some false
                  else
                    some false
                else
                  some false
              else
                some false
            else
              some false
          else
            some false
noncomputable def law09_Few (x : (List ((List UInt8) × (Bool × ((List UInt8) × (Int × Int)))))) : Option Bool :=
  if decide ((x.length : Int) > 60) then
    some false
  else
    fixS (S := Int) (R := Bool) (fun again1 s2 =>
      if decide (s2 < (x.length : Int)) then
        ixL x s2 fun x3 =>
        if decide ((x3.1.length : Int) > 100) then
          some false
        else
          ixL x s2 fun x4 =>
          if decide ((x4.2.2.1.length : Int) > 1000) then
            some false
          else
            again1 (IntKind.wrap .i64 (s2 + 1))
      else
        some true) fuel 0
noncomputable def law04_Few (x : (List ((List UInt8) × (List UInt8)))) : Option Bool :=
  if decide ((x.length : Int) > 40) then
    some false
  else
    fixS (S := Int) (R := Bool) (fun again1 s2 =>
      if decide (s2 < (x.length : Int)) then
        ixL x s2 fun x3 =>
        if decide ((x3.1.length : Int) > 100) then
          some false
        else
          ixL x s2 fun x4 =>
          if decide ((x4.2.length : Int) > 1000) then
            some false
          else
            again1 (IntKind.wrap .i64 (s2 + 1))
      else
        some true) fuel 0
noncomputable def clock_Mine (x : ((Nat × Nat) × Int)) : Option Int :=
  (clock_Pair (x.1.1, x.1.2)).bind fun r1 =>
  if ((bitsI .and .i64 x.2 1) == 1) then
    some r1.2
  else
    some r1.1
noncomputable def ref01_Rows (x : ((List (List UInt8)) × (List (List UInt8)))) : Option Bool :=
  if ((x.1.length : Int) != (x.2.length : Int)) then
    some false
  else
    fixS (S := Int) (R := Bool) (fun again1 s2 =>
      if decide (s2 < (x.1.length : Int)) then
        ixL x.1 s2 fun x3 =>
        ixL x.2 s2 fun x4 =>
        if (!(x3 == x4)) then
          some false
        else
          again1 (IntKind.wrap .i64 (s2 + 1))
      else
        some true) fuel 0
noncomputable def slices_Equal_File (x : ((List ((List UInt8) × (List UInt8))) × (List ((List UInt8) × (List UInt8))))) : Option Bool :=
  if ((x.1.length : Int) != (x.2.length : Int)) then
    some false
  else
    fixS (S := Int) (R := Bool) (fun again1 s2 =>
      if decide (s2 < (x.1.length : Int)) then
        ixL x.1 s2 fun x3 =>
        ixL x.2 s2 fun x4 =>
        if (!((x3.1 == x4.1) && (x3.2 == x4.2))) then
          some false
        else
          again1 (IntKind.wrap .i64 (s2 + 1))
      else
        some true) fuel 0
noncomputable def tree_Same (x : ((List ((List UInt8) × (List UInt8))) × (List ((List UInt8) × (List UInt8))))) : Option Bool :=
  (slices_Equal_File (x.1, x.2)).bind fun r1 =>
  some r1
noncomputable def path_Sorted (x : (List (List UInt8))) : Option Bool :=
  fixS (S := Int) (R := Bool) (fun again1 s2 =>
    if decide (s2 < (x.length : Int)) then
      ixL x s2 fun x3 =>
      (path_Right x3).bind fun r4 =>
      if (!r4) then
        some false
      else
        if decide (s2 > 0) then
          ixL x (IntKind.wrap .i64 (s2 - 1)) fun x5 =>
          if (Op.bytesLess x3 x5 || x3 == x5) then
            some false
          else
            again1 (IntKind.wrap .i64 (s2 + 1))
        else
          again1 (IntKind.wrap .i64 (s2 + 1))
    else
      some true) fuel 0
noncomputable def clock_Join (x : ((Nat × Nat) × (Nat × Nat))) : Option (Nat × Nat) :=
  (clock_whole (x.1.1, x.1.2)).bind fun r1 =>
  (clock_whole (x.2.1, x.2.2)).bind fun r2 =>
  fmaxF .f64 r1.1 r2.1 fun f3 =>
  fmaxF .f64 r1.2 r2.2 fun f4 =>
  some (f3, f4)
noncomputable def clock_Order (x : ((Nat × Nat) × (Nat × Nat))) : Option Int :=
  (clock_whole (x.1.1, x.1.2)).bind fun r1 =>
  (clock_whole (x.2.1, x.2.2)).bind fun r2 =>
  (clock_Join ((r1.1, r1.2), (r2.1, r2.2))).bind fun r3 =>
  if ((fcmpF .eql .f64 r3.1 r1.1) && (fcmpF .eql .f64 r3.2 r1.2)) then
    if ((fcmpF .eql .f64 r1.1 r2.1) && (fcmpF .eql .f64 r1.2 r2.2)) then
      some 0
    else
      some 2
  else
    if ((fcmpF .eql .f64 r3.1 r2.1) && (fcmpF .eql .f64 r3.2 r2.2)) then
      some 1
    else
      some 3
end Go.Proofs.W.Q9
namespace Go.Proofs.W.Q10
open Go Go.Proofs.V Go.Proofs.W.Q9
set_option linter.unusedVariables false
set_option linter.unusedSimpArgs false
noncomputable def bytealg_abigen_runtime_cmpstring (x : List UInt8 × List UInt8) : Option Int := some (Lib.compareBytes x.1 x.2)
noncomputable def recon_value (x : ((List UInt8) × (Bool × ((List UInt8) × (Int × (Int × ((List UInt8) × (Bool × ((List UInt8) × (Int × Int)))))))))) : Option Bool :=
  if (x.2.1 == x.2.2.2.2.2.2.1) then
    some (x.2.2.1 == x.2.2.2.2.2.2.2.1)
  else
    some false
noncomputable def recon_joined (x : ((List UInt8) × (Bool × ((List UInt8) × (Int × (Int × ((List UInt8) × (Bool × ((List UInt8) × (Int × Int)))))))))) : Option ((List UInt8) × (Bool × ((List UInt8) × (Int × Int)))) :=
  (clock_Of (x.2.2.2.1, x.2.2.2.2.1)).bind fun r1 =>
  (clock_Of (x.2.2.2.2.2.2.2.2.1, x.2.2.2.2.2.2.2.2.2)).bind fun r2 =>
  (clock_Join ((r1.1, r1.2), (r2.1, r2.2))).bind fun r3 =>
  (clock_Pair (r3.1, r3.2)).bind fun r4 =>
  some (x.1, (x.2.1, (x.2.2.1, (r4.1, r4.2))))
noncomputable def recon_come (x : ((List UInt8) × (Bool × ((List UInt8) × (Int × (Int × ((List UInt8) × (Bool × ((List UInt8) × (Int × Int)))))))))) : Option ((List UInt8) × (Bool × ((List UInt8) × (Int × (Int × Bool))))) :=
  (clock_Of (x.2.2.2.1, x.2.2.2.2.1)).bind fun r1 =>
  (clock_Of (x.2.2.2.2.2.2.2.2.1, x.2.2.2.2.2.2.2.2.2)).bind fun r2 =>
  (clock_Order ((r1.1, r1.2), (r2.1, r2.2))).bind fun r3 =>
  if (r3 == 1) then
    some (x.2.2.2.2.2.1, (x.2.2.2.2.2.2.1, (x.2.2.2.2.2.2.2.1, (x.2.2.2.2.2.2.2.2.1, (x.2.2.2.2.2.2.2.2.2, false)))))
  else
    if (r3 == 2) then
      some (x.1, (x.2.1, (x.2.2.1, (x.2.2.2.1, (x.2.2.2.2.1, false)))))
    else
      (recon_value (x.1, (x.2.1, (x.2.2.1, (x.2.2.2.1, (x.2.2.2.2.1, (x.2.2.2.2.2.1, (x.2.2.2.2.2.2.1, (x.2.2.2.2.2.2.2.1, (x.2.2.2.2.2.2.2.2.1, x.2.2.2.2.2.2.2.2.2)))))))))).bind fun r4 =>
      if (!r4) then
        some (x.1, (x.2.1, (x.2.2.1, (x.2.2.2.1, (x.2.2.2.2.1, true)))))
      else
        (recon_joined (x.1, (x.2.1, (x.2.2.1, (x.2.2.2.1, (x.2.2.2.2.1, (x.2.2.2.2.2.1, (x.2.2.2.2.2.2.1, (x.2.2.2.2.2.2.2.1, (x.2.2.2.2.2.2.2.2.1, x.2.2.2.2.2.2.2.2.2)))))))))).bind fun r5 =>
        some (r5.1, (r5.2.1, (r5.2.2.1, (r5.2.2.2.1, (r5.2.2.2.2, false)))))
noncomputable def slices_Index_string (x : ((List (List UInt8)) × (List UInt8))) : Option Int :=
  fixS (S := Int) (R := Int) (fun again1 s2 =>
    if decide (s2 < (x.1.length : Int)) then
      ixL x.1 s2 fun x3 =>
      if (x.2 == x3) then
        some s2
      else
        again1 (IntKind.wrap .i64 (s2 + 1))
    else
      some (-1)) fuel 0
noncomputable def slices_Contains_string (x : ((List (List UInt8)) × (List UInt8))) : Option Bool :=
  (slices_Index_string (x.1, x.2)).bind fun r1 =>
  some (decide (r1 ≥ 0))
noncomputable def path_Clash (x : ((List UInt8) × (List UInt8))) : Option Bool :=
  (path_Under (x.1, x.2)).bind fun r1 =>
  if r1 then
    some true
  else
    (path_Under (x.2, x.1)).bind fun r2 =>
    some r2
noncomputable def recon_may_1 (x : ((List UInt8) × (List UInt8))) : Option Bool :=
  (path_Clash (x.2, x.1)).bind fun r1 =>
  some r1
noncomputable def slices_IndexFunc_string_recon_may_1 (x : ((List (List UInt8)) × (List UInt8))) : Option Int :=
  fixS (S := Int) (R := Int) (fun again1 s2 =>
    if decide (s2 < (x.1.length : Int)) then
      ixL x.1 s2 fun x3 =>
      (recon_may_1 (x3, x.2)).bind fun r4 =>
      if r4 then
        some s2
      else
        again1 (IntKind.wrap .i64 (s2 + 1))
    else
      some (-1)) fuel 0
noncomputable def slices_ContainsFunc_string_recon_may_1 (x : ((List (List UInt8)) × (List UInt8))) : Option Bool :=
  (slices_IndexFunc_string_recon_may_1 (x.1, x.2)).bind fun r1 =>
  some (decide (r1 ≥ 0))
noncomputable def recon_may (x : (List ((List UInt8) × (Bool × ((List UInt8) × (Int × Int)))))) : Option Int :=
  fixS (S := ((List (List UInt8)) × Int)) (R := Int) (fun again1 s2 =>
    if decide (s2.2 < (x.length : Int)) then
      ixL x s2.2 fun x3 =>
      if x3.2.1 then
        if (fitsB 16 ((s2.1 ++ [x3.1]).length : Int)) then
          again1 ((s2.1 ++ [x3.1]), (IntKind.wrap .i64 (s2.2 + 1)))
        else none
      else
        again1 (s2.1, (IntKind.wrap .i64 (s2.2 + 1)))
    else
      if decide ((x.length : Int) > 32) then
        some 2
      else
        if decide ((s2.1.length : Int) > 16) then
          some 2
        else
          fixS (S := ((List (List UInt8)) × Int)) (R := Int) (fun again4 s5 =>
            if decide (s5.2 < (s2.1.length : Int)) then
              ixL s2.1 s5.2 fun x6 =>
              (slices_ContainsFunc_string_recon_may_1 (s5.1, x6)).bind fun r7 =>
              if r7 then
                some 6
              else
                again4 (s5.1, (IntKind.wrap .i64 (s5.2 + 1)))
            else
              some 0) fuel (s2.1, 0)) fuel ([], 0)
noncomputable def law10_has (x : ((List (List UInt8)) × (List UInt8))) : Option Bool :=
  fixS (S := Int) (R := Bool) (fun again1 s2 =>
    if decide (s2 < (x.1.length : Int)) then
      ixL x.1 s2 fun x3 =>
      if (x3 == x.2) then
        some true
      else
        again1 (IntKind.wrap .i64 (s2 + 1))
    else
      some false) fuel 0
noncomputable def bytealg_CompareString (x : ((List UInt8) × (List UInt8))) : Option Int :=
  (bytealg_abigen_runtime_cmpstring (x.1, x.2)).bind fun r1 =>
  some r1
noncomputable def strings_Compare (x : ((List UInt8) × (List UInt8))) : Option Int :=
  (bytealg_CompareString (x.1, x.2)).bind fun r1 =>
  some r1
noncomputable def tree_place_1 (x : ((List UInt8) × ((List UInt8) × (List UInt8)))) : Option Int :=
  (strings_Compare (x.1, x.2.2)).bind fun r1 =>
  some r1
noncomputable def slices_BinarySearchFunc_string_tree_place_1 (x : ((List ((List UInt8) × (List UInt8))) × (List UInt8))) : Option (Int × Bool) :=
  fixS (S := (Int × Int)) (R := (Int × Bool)) (fun again1 s2 =>
    if decide (s2.1 < s2.2) then
      shG .shr .u64 (IntKind.wrap .u64 (IntKind.wrap .i64 (s2.1 + s2.2))) 1 fun n3 =>
      ixL x.1 (IntKind.wrap .i64 n3) fun x4 =>
      (tree_place_1 (x4.1, (x4.2, x.2))).bind fun r5 =>
      if decide (r5 < 0) then
        again1 ((IntKind.wrap .i64 ((IntKind.wrap .i64 n3) + 1)), s2.2)
      else
        again1 (s2.1, (IntKind.wrap .i64 n3))
    else
      if decide (s2.1 < (x.1.length : Int)) then
        ixL x.1 s2.1 fun x6 =>
        (tree_place_1 (x6.1, (x6.2, x.2))).bind fun r7 =>
        some (s2.1, (r7 == 0))
      else
        some (s2.1, false)) fuel (0, (x.1.length : Int))
noncomputable def tree_place (x : ((List ((List UInt8) × (List UInt8))) × (List UInt8))) : Option (Int × Bool) :=
  (slices_BinarySearchFunc_string_tree_place_1 (x.1, x.2)).bind fun r1 =>
  some (r1.1, r1.2)
noncomputable def tree_Find (x : ((List ((List UInt8) × (List UInt8))) × (List UInt8))) : Option Int :=
  (tree_place (x.1, x.2)).bind fun r1 =>
  if r1.2 then
    (tree_Right x.1).bind fun r2 =>
    if r2 then
      some r1.1
    else
      some (-1)
  else
    some (-1)
noncomputable def tree_Get (x : ((List ((List UInt8) × (List UInt8))) × (List UInt8))) : Option ((List UInt8) × Bool) :=
  (tree_Find (x.1, x.2)).bind fun r1 =>
  if decide (r1 < 0) then
    some ([], false)
  else
    ixL x.1 r1 fun x2 =>
    some (x2.2, true)
noncomputable def recon_Agree (x : ((List ((List UInt8) × (Bool × ((List UInt8) × (Int × Int))))) × ((List ((List UInt8) × (Bool × ((List UInt8) × (Int × Int))))) × (List UInt8)))) : Option Bool :=
  (scan_Right x.1).bind fun r1 =>
  if (!r1) then
    some false
  else
    (scan_Right x.2.1).bind fun r2 =>
    if (!r2) then
      some false
    else
      (scan_Find (x.1, x.2.2)).bind fun r3 =>
      (scan_Find (x.2.1, x.2.2)).bind fun r4 =>
      if decide (r3 < 0) then
        some (r3 == r4)
      else
        if decide (r4 < 0) then
          some (r3 == r4)
        else
          ixL x.1 r3 fun x5 =>
          ixL x.2.1 r4 fun x6 =>
          some ((x5.1 == x6.1) && ((x5.2.1 == x6.2.1) && ((x5.2.2.1 == x6.2.2.1) && ((x5.2.2.2.1 == x6.2.2.2.1) && (x5.2.2.2.2 == x6.2.2.2.2)))))
noncomputable def slices_Index_File (x : ((List ((List UInt8) × (List UInt8))) × ((List UInt8) × (List UInt8)))) : Option Int :=
  fixS (S := ((List UInt8) × ((List UInt8) × Int))) (R := Int) (fun again1 s2 =>
    if decide (s2.2.2 < (x.1.length : Int)) then
      ixL x.1 s2.2.2 fun x3 =>
      if ((s2.1 == x3.1) && (s2.2.1 == x3.2)) then
        some s2.2.2
      else
        again1 (s2.1, (s2.2.1, (IntKind.wrap .i64 (s2.2.2 + 1))))
    else
      some (-1)) fuel (x.2.1, (x.2.2, 0))
noncomputable def slices_Contains_File (x : ((List ((List UInt8) × (List UInt8))) × ((List UInt8) × (List UInt8)))) : Option Bool :=
  (slices_Index_File (x.1, (x.2.1, x.2.2))).bind fun r1 =>
  some (decide (r1 ≥ 0))
/-- The entry of a path: the last one. -/
def getL (l : List ((List UInt8) × (Bool × ((List UInt8) × (Int × Int))))) (q : List UInt8) : Option ((List UInt8) × (Bool × ((List UInt8) × (Int × Int)))) := l.reverse.find? fun e => decide (e.1 = q)
/-- A path, put where it belongs. -/
def insK (q : List UInt8) : List (List UInt8) → List (List UInt8)
  | [] => [q]
  | k :: ks => if Op.bytesLess q k = true then q :: k :: ks else if q = k then k :: ks else k :: insK q ks
/-- Paths of both, in order, each once. -/
def keysL (a b : List ((List UInt8) × (Bool × ((List UInt8) × (Int × Int))))) : List (List UInt8) := (a ++ b).foldr (fun e ks => insK e.1 ks) []
/-- What comes of a path. -/
noncomputable def oneM (a b : List ((List UInt8) × (Bool × ((List UInt8) × (Int × Int))))) (q : List UInt8) : Option (((List UInt8) × (Bool × ((List UInt8) × (Int × Int)))) × Bool) :=
  match getL a q, getL b q with
  | some x, none => some (x, false)
  | none, some y => some (y, false)
  | some x, some y => (recon_come (x.1, (x.2.1, (x.2.2.1, (x.2.2.2.1, (x.2.2.2.2, (y.1, (y.2.1, (y.2.2.1, (y.2.2.2.1, y.2.2.2.2)))))))))).map fun r => ((r.1, (r.2.1, (r.2.2.1, (r.2.2.2.1, r.2.2.2.2.1)))), r.2.2.2.2.2)
  | none, none => none
noncomputable def allM (a b : List ((List UInt8) × (Bool × ((List UInt8) × (Int × Int))))) : List (List UInt8) → Option (List (List UInt8 × (((List UInt8) × (Bool × ((List UInt8) × (Int × Int)))) × Bool)))
  | [] => some []
  | q :: ks => (oneM a b q).bind fun e => (allM a b ks).map fun es => (q, e) :: es
noncomputable def recon_Merge (x : ((List ((List UInt8) × (Bool × ((List UInt8) × (Int × Int))))) × (List ((List UInt8) × (Bool × ((List UInt8) × (Int × Int))))))) : Option ((List ((List UInt8) × (Bool × ((List UInt8) × (Int × Int))))) × ((List (List UInt8)) × Int)) :=
  if (decide (x.1.length ≤ 64) && decide (x.2.length ≤ 64) && x.1.all (fun e => decide (e.1.length ≤ 1000000)) && x.2.all (fun e => decide (e.1.length ≤ 1000000))) = true then
    (scan_Right x.1).bind fun r1 =>
    (scan_Right x.2).bind fun r2 =>
    if (r1 && r2) = true then
      (allM x.1 x.2 (keysL x.1 x.2)).bind fun es =>
      (recon_may (es.map fun e => e.2.1)).bind fun err =>
      if (err == 0) = true then some (es.map (fun e => e.2.1), ((es.filter fun e => e.2.2).map (·.1), 0))
      else some ([], ([], err))
    else some ([], ([], 1))
  else none
noncomputable def recon_Settle (x : ((List ((List UInt8) × (Bool × ((List UInt8) × (Int × Int))))) × ((List ((List UInt8) × (Bool × ((List UInt8) × (Int × Int))))) × ((List UInt8) × (Bool × Int))))) : Option ((List ((List UInt8) × (Bool × ((List UInt8) × (Int × Int))))) × Int) :=
  (recon_Merge (x.1, x.2.1)).bind fun m =>
  if (m.2.2 == 0) = true then
    (slices_Contains_string (m.2.1, x.2.2.1)).bind fun is =>
    if is = true then
      (scan_Find (x.1, x.2.2.1)).bind fun k1 =>
      (scan_Find (x.2.1, x.2.2.1)).bind fun k2 =>
      if k1 < 0 then none else if k2 < 0 then none else
      (x.1[k1.toNat]?).bind fun e1 =>
      (x.2.1[k2.toNat]?).bind fun e2 =>
      (recon_joined (e1.1, (e1.2.1, (e1.2.2.1, (e1.2.2.2.1, (e1.2.2.2.2, (e2.1, (e2.2.1, (e2.2.2.1, (e2.2.2.2.1, e2.2.2.2.2)))))))))).bind fun j =>
      (clock_Of (j.2.2.2.1, j.2.2.2.2)).bind fun z =>
      (clock_Tick ((z.1, z.2), x.2.2.2.2)).bind fun y =>
      (clock_Pair (y.1, y.2)).bind fun c =>
      (recon_may (x.1.set k1.toNat (x.2.2.1, ((if x.2.2.2.1 then e2.2.1 else e1.2.1), ((if x.2.2.2.1 then e2.2.2.1 else e1.2.2.1), c))))).bind fun err =>
      if (c.1 = j.2.2.2.1 ∧ c.2 = j.2.2.2.2) then some ([], 2)
      else if (err == 0) = true then some (x.1.set k1.toNat (x.2.2.1, ((if x.2.2.2.1 then e2.2.1 else e1.2.1), ((if x.2.2.2.1 then e2.2.2.1 else e1.2.2.1), c))), 0)
      else some ([], err)
    else some ([], 3)
  else some ([], m.2.2)
noncomputable def slices_Concat_Action (x : List (List ((List UInt8) × (Bool × (List UInt8))))) : Option (List ((List UInt8) × (Bool × (List UInt8)))) :=
  match x with
  | [a, b] => if a.length ≤ 1000 ∧ b.length ≤ 1000 then some (a ++ b) else none
  | _ => none

noncomputable def recon_Plan (x : ((List ((List UInt8) × (List UInt8))) × (List ((List UInt8) × (Bool × ((List UInt8) × (Int × Int))))))) : Option ((List ((List UInt8) × (Bool × (List UInt8)))) × Int) :=
  (tree_Right x.1).bind fun r1 =>
  if (!r1) then
    some ([], 1)
  else
    (scan_Right x.2).bind fun r2 =>
    if (!r2) then
      some ([], 1)
    else
      (scan_Tree x.2).bind fun r3 =>
      fixS (S := ((List ((List UInt8) × (Bool × (List UInt8)))) × ((List ((List UInt8) × (Bool × (List UInt8)))) × Int))) (R := ((List ((List UInt8) × (Bool × (List UInt8)))) × Int)) (fun again4 s5 =>
        if decide (s5.2.2 < (x.1.length : Int)) then
          ixL x.1 s5.2.2 fun x6 =>
          (tree_Find (r3, x6.1)).bind fun r7 =>
          if decide (r7 < 0) then
            if (fitsB 40 ((s5.1 ++ [(x6.1, (false, []))]).length : Int)) then
              again4 ((s5.1 ++ [(x6.1, (false, []))]), (s5.2.1, (IntKind.wrap .i64 (s5.2.2 + 1))))
            else none
          else
            again4 (s5.1, (s5.2.1, (IntKind.wrap .i64 (s5.2.2 + 1))))
        else
          fixS (S := ((List ((List UInt8) × (Bool × (List UInt8)))) × ((List ((List UInt8) × (Bool × (List UInt8)))) × Int))) (R := ((List ((List UInt8) × (Bool × (List UInt8)))) × Int)) (fun again8 s9 =>
            if decide (s9.2.2 < (r3.length : Int)) then
              ixL r3 s9.2.2 fun x10 =>
              (slices_Contains_File (x.1, (x10.1, x10.2))).bind fun r11 =>
              if (!r11) then
                if (fitsB 40 ((s9.2.1 ++ [(x10.1, (true, x10.2))]).length : Int)) then
                  again8 (s9.1, ((s9.2.1 ++ [(x10.1, (true, x10.2))]), (IntKind.wrap .i64 (s9.2.2 + 1))))
                else none
              else
                again8 (s9.1, (s9.2.1, (IntKind.wrap .i64 (s9.2.2 + 1))))
            else
              (slices_Concat_Action [s9.1, s9.2.1]).bind fun r12 =>
              some (r12, 0)) fuel (s5.1, (s5.2.1, 0))) fuel ([], ([], 0))
noncomputable def law10_small (x : PUnit) : Option Bool :=
  (recon_Merge ([([102], (true, ([49], (2, 0)))), ([103], (true, ([49], (1, 0))))], [([102], (true, ([50], (1, 1)))), ([103], (false, ([], (1, 1)))), ([104], (true, ([], (0, 1))))])).bind fun r1 =>
  (scan_Tree [([102], (true, ([49], (2, 0)))), ([103], (true, ([49], (1, 0))))]).bind fun r2 =>
  (recon_Plan (r2, r1.1)).bind fun r3 =>
  (recon_Settle (r1.1, ([([102], (true, ([50], (1, 1)))), ([103], (false, ([], (1, 1)))), ([104], (true, ([], (0, 1))))], ([102], (true, 0))))).bind fun r4 =>
  (recon_Settle (r1.1, ([([102], (true, ([50], (1, 1)))), ([103], (false, ([], (1, 1)))), ([104], (true, ([], (0, 1))))], ([103], (true, 0))))).bind fun r5 =>
  if ((r1.1.length : Int) != 3) then
    some false
  else
    if ((r1.2.1.length : Int) != 1) then
      some false
    else
      if ((r3.1.length : Int) != 2) then
        some false
      else
        if ((r4.1.length : Int) != 3) then
          some false
        else
          if (r1.2.2 == 0) then
            if (r3.2 == 0) then
              if (r4.2 == 0) then
                if (r5.2 == 3) then
                  ixL r1.2.1 0 fun x6 =>
                  if (x6 == [102]) then
                    ixL r1.1 0 fun x7 =>
                    ixL [([102], (true, ([49], (2, 0)))), ([103], (true, ([49], (1, 0))))] 0 fun x8 =>
                    if ((x7.1 == x8.1) && ((x7.2.1 == x8.2.1) && ((x7.2.2.1 == x8.2.2.1) && ((x7.2.2.2.1 == x8.2.2.2.1) && (x7.2.2.2.2 == x8.2.2.2.2))))) then
                      ixL r1.1 1 fun x9 =>
                      ixL [([102], (true, ([50], (1, 1)))), ([103], (false, ([], (1, 1)))), ([104], (true, ([], (0, 1))))] 1 fun x10 =>
                      if ((x9.1 == x10.1) && ((x9.2.1 == x10.2.1) && ((x9.2.2.1 == x10.2.2.1) && ((x9.2.2.2.1 == x10.2.2.2.1) && (x9.2.2.2.2 == x10.2.2.2.2))))) then
                        ixL r3.1 0 fun x11 =>
                        if ((x11.1 == [103]) && ((x11.2.1 == false) && (x11.2.2 == []))) then
                          ixL r3.1 1 fun x12 =>
                          if ((x12.1 == [104]) && ((x12.2.1 == true) && (x12.2.2 == []))) then
                            ixL r4.1 0 fun x13 =>
                            if ((x13.1 == [102]) && ((x13.2.1 == true) && ((x13.2.2.1 == [50]) && ((x13.2.2.2.1 == 3) && (x13.2.2.2.2 == 1))))) then
                              (recon_Agree (r1.1, ([([102], (true, ([50], (1, 1)))), ([103], (false, ([], (1, 1)))), ([104], (true, ([], (0, 1))))], [103]))).bind fun r14 =>
                              if r14 then
                                (recon_Agree (r1.1, ([([102], (true, ([50], (1, 1)))), ([103], (false, ([], (1, 1)))), ([104], (true, ([], (0, 1))))], [102]))).bind fun r15 =>
                                if (!r15) then
                                  (recon_Agree (r1.1, ([([102], (true, ([50], (1, 1)))), ([103], (false, ([], (1, 1)))), ([104], (true, ([], (0, 1))))], [120]))).bind fun r16 =>
                                  some r16
                                else
                                  some false
                              else
                                some false
                            else
                              some false
                          else
                            some false
                        else
                          some false
                      else
                        some false
                    else
                      some false
                  else
                    some false
                else
                  some false
              else
                some false
            else
              some false
          else
            some false
end Go.Proofs.W.Q10
namespace Go.Proofs.W.Q10
open Go Go.Proofs.V Go.Proofs.W.Q9
set_option linter.unusedVariables false
set_option linter.unusedSimpArgs false
noncomputable def ref03_cut (x : (List UInt8)) : Option (List (List UInt8)) :=
  fixS (S := ((List (List UInt8)) × (Int × Int))) (R := (List (List UInt8))) (fun again1 s2 =>
    if decide (s2.2.2 ≤ (x.length : Int)) then
      if (s2.2.2 == (x.length : Int)) then
        cutL x s2.2.1 s2.2.2 fun y3 =>
        if (fitsB 16 ((s2.1 ++ [y3]).length : Int)) then
          again1 ((s2.1 ++ [y3]), ((IntKind.wrap .i64 (s2.2.2 + 1)), (IntKind.wrap .i64 (s2.2.2 + 1))))
        else none
      else
        sixL x s2.2.2 fun b4 =>
        if (b4 == 47) then
          cutL x s2.2.1 s2.2.2 fun y5 =>
          if (fitsB 16 ((s2.1 ++ [y5]).length : Int)) then
            again1 ((s2.1 ++ [y5]), ((IntKind.wrap .i64 (s2.2.2 + 1)), (IntKind.wrap .i64 (s2.2.2 + 1))))
          else none
        else
          again1 (s2.1, (s2.2.1, (IntKind.wrap .i64 (s2.2.2 + 1))))
    else
      some s2.1) fuel ([], (0, 0))
noncomputable def ref03_Name (x : (List UInt8)) : Option Bool :=
  if decide ((x.length : Int) < 1) then
    some false
  else
    if decide ((x.length : Int) > 12) then
      some false
    else
      if (x == [46]) then
        some false
      else
        if (x == [46, 46]) then
          some false
        else
          fixS (S := Int) (R := Bool) (fun again1 s2 =>
            if decide (s2 < (x.length : Int)) then
              sixL x s2 fun b3 =>
              if decide (b3 ≥ 97) then
                if decide (b3 ≤ 122) then
                  again1 (IntKind.wrap .i64 (s2 + 1))
                else
                  if decide (b3 ≥ 48) then
                    if decide (b3 ≤ 57) then
                      again1 (IntKind.wrap .i64 (s2 + 1))
                    else
                      if (b3 == 46) then
                        again1 (IntKind.wrap .i64 (s2 + 1))
                      else
                        if (!(b3 == 45)) then
                          some false
                        else
                          again1 (IntKind.wrap .i64 (s2 + 1))
                  else
                    if (b3 == 46) then
                      again1 (IntKind.wrap .i64 (s2 + 1))
                    else
                      if (!(b3 == 45)) then
                        some false
                      else
                        again1 (IntKind.wrap .i64 (s2 + 1))
              else
                if decide (b3 ≥ 48) then
                  if decide (b3 ≤ 57) then
                    again1 (IntKind.wrap .i64 (s2 + 1))
                  else
                    if (b3 == 46) then
                      again1 (IntKind.wrap .i64 (s2 + 1))
                    else
                      if (!(b3 == 45)) then
                        some false
                      else
                        again1 (IntKind.wrap .i64 (s2 + 1))
                else
                  if (b3 == 46) then
                    again1 (IntKind.wrap .i64 (s2 + 1))
                  else
                    if (!(b3 == 45)) then
                      some false
                    else
                      again1 (IntKind.wrap .i64 (s2 + 1))
            else
              some true) fuel 0
noncomputable def ref03_Right (x : (List UInt8)) : Option Bool :=
  (ref03_cut x).bind fun r1 =>
  if decide ((r1.length : Int) > 4) then
    some false
  else
    fixS (S := Int) (R := Bool) (fun again2 s3 =>
      if decide (s3 < (r1.length : Int)) then
        ixL r1 s3 fun x4 =>
        (ref03_Name x4).bind fun r5 =>
        if (!r5) then
          some false
        else
          again2 (IntKind.wrap .i64 (s3 + 1))
      else
        some true) fuel 0
noncomputable def ref02_Right (x : (Int × Int)) : Option Bool :=
  if decide (x.1 ≥ 0) then
    if decide (x.1 ≤ 1073741824) then
      if decide (x.2 ≥ 0) then
        some (decide (x.2 ≤ 1073741824))
      else
        some false
    else
      some false
  else
    some false
noncomputable def ref09_files (x : (List ((List UInt8) × (Bool × ((List UInt8) × (Int × Int)))))) : Option (List ((List UInt8) × (List UInt8))) :=
  fixS (S := ((List ((List UInt8) × (List UInt8))) × Int)) (R := (List ((List UInt8) × (List UInt8)))) (fun again1 s2 =>
    if decide (s2.2 < (x.length : Int)) then
      ixL x s2.2 fun x3 =>
      if x3.2.1 then
        ixL x s2.2 fun x4 =>
        ixL x s2.2 fun x5 =>
        if (fitsB 32 ((s2.1 ++ [(x4.1, x5.2.2.1)]).length : Int)) then
          again1 ((s2.1 ++ [(x4.1, x5.2.2.1)]), (IntKind.wrap .i64 (s2.2 + 1)))
        else none
      else
        again1 (s2.1, (IntKind.wrap .i64 (s2.2 + 1)))
    else
      some s2.1) fuel ([], 0)
noncomputable def ref03_Under (x : ((List UInt8) × (List UInt8))) : Option Bool :=
  (ref03_Right x.1).bind fun r1 =>
  if (!r1) then
    some false
  else
    (ref03_Right x.2).bind fun r2 =>
    if (!r2) then
      some false
    else
      if decide ((x.1.length : Int) ≤ (x.2.length : Int)) then
        some false
      else
        cutL x.1 0 (x.2.length : Int) fun y3 =>
        if (y3 == x.2) then
          sixL x.1 (x.2.length : Int) fun b4 =>
          some (b4 == 47)
        else
          some false
noncomputable def ref04_Right (x : (List ((List UInt8) × (List UInt8)))) : Option Bool :=
  if decide ((x.length : Int) > 16) then
    some false
  else
    fixS (S := Int) (R := Bool) (fun again1 s2 =>
      if decide (s2 < (x.length : Int)) then
        ixL x s2 fun x3 =>
        (ref03_Right x3.1).bind fun r4 =>
        if (!r4) then
          some false
        else
          ixL x s2 fun x5 =>
          if decide ((x5.2.length : Int) > 600) then
            some false
          else
            if decide (s2 > 0) then
              ixL x s2 fun x6 =>
              ixL x (IntKind.wrap .i64 (s2 - 1)) fun x7 =>
              if (Op.bytesLess x6.1 x7.1 || x6.1 == x7.1) then
                some false
              else
                fixS (S := Int) (R := Bool) (fun again8 s9 =>
                  if decide (s9 < s2) then
                    ixL x s2 fun x10 =>
                    ixL x s9 fun x11 =>
                    (ref03_Under (x10.1, x11.1)).bind fun r12 =>
                    if r12 then
                      some false
                    else
                      again8 (IntKind.wrap .i64 (s9 + 1))
                  else
                    again1 (IntKind.wrap .i64 (s2 + 1))) fuel 0
            else
              fixS (S := Int) (R := Bool) (fun again13 s14 =>
                if decide (s14 < s2) then
                  ixL x s2 fun x15 =>
                  ixL x s14 fun x16 =>
                  (ref03_Under (x15.1, x16.1)).bind fun r17 =>
                  if r17 then
                    some false
                  else
                    again13 (IntKind.wrap .i64 (s14 + 1))
                else
                  again1 (IntKind.wrap .i64 (s2 + 1))) fuel 0
      else
        some true) fuel 0
noncomputable def ref09_Right (x : (List ((List UInt8) × (Bool × ((List UInt8) × (Int × Int)))))) : Option Bool :=
  if decide ((x.length : Int) > 32) then
    some false
  else
    fixS (S := Int) (R := Bool) (fun again1 s2 =>
      if decide (s2 < (x.length : Int)) then
        ixL x s2 fun x3 =>
        (ref03_Right x3.1).bind fun r4 =>
        (ref02_Right (x3.2.2.2.1, x3.2.2.2.2)).bind fun r5 =>
        if (!r4) then
          some false
        else
          if (!r5) then
            some false
          else
            if (x3.2.2.2.1 == 0) then
              if (x3.2.2.2.2 == 0) then
                some false
              else
                if (!x3.2.1) then
                  if (!(x3.2.2.1 == [])) then
                    some false
                  else
                    if decide (s2 > 0) then
                      ixL x (IntKind.wrap .i64 (s2 - 1)) fun x6 =>
                      if (Op.bytesLess x3.1 x6.1 || x3.1 == x6.1) then
                        some false
                      else
                        again1 (IntKind.wrap .i64 (s2 + 1))
                    else
                      again1 (IntKind.wrap .i64 (s2 + 1))
                else
                  if decide (s2 > 0) then
                    ixL x (IntKind.wrap .i64 (s2 - 1)) fun x7 =>
                    if (Op.bytesLess x3.1 x7.1 || x3.1 == x7.1) then
                      some false
                    else
                      again1 (IntKind.wrap .i64 (s2 + 1))
                  else
                    again1 (IntKind.wrap .i64 (s2 + 1))
            else
              if (!x3.2.1) then
                if (!(x3.2.2.1 == [])) then
                  some false
                else
                  if decide (s2 > 0) then
                    ixL x (IntKind.wrap .i64 (s2 - 1)) fun x8 =>
                    if (Op.bytesLess x3.1 x8.1 || x3.1 == x8.1) then
                      some false
                    else
                      again1 (IntKind.wrap .i64 (s2 + 1))
                  else
                    again1 (IntKind.wrap .i64 (s2 + 1))
              else
                if decide (s2 > 0) then
                  ixL x (IntKind.wrap .i64 (s2 - 1)) fun x9 =>
                  if (Op.bytesLess x3.1 x9.1 || x3.1 == x9.1) then
                    some false
                  else
                    again1 (IntKind.wrap .i64 (s2 + 1))
                else
                  again1 (IntKind.wrap .i64 (s2 + 1))
      else
        (ref09_files x).bind fun r10 =>
        (ref04_Right r10).bind fun r11 =>
        some r11) fuel 0
noncomputable def ref09_Tree (x : (List ((List UInt8) × (Bool × ((List UInt8) × (Int × Int)))))) : Option (List ((List UInt8) × (List UInt8))) :=
  (ref09_Right x).bind fun r1 =>
  if (!r1) then
    some []
  else
    (ref09_files x).bind fun r2 =>
    some r2
noncomputable def ref04_find (x : ((List ((List UInt8) × (List UInt8))) × (List UInt8))) : Option Int :=
  fixS (S := Int) (R := Int) (fun again1 s2 =>
    if decide (s2 < (x.1.length : Int)) then
      ixL x.1 s2 fun x3 =>
      if (x3.1 == x.2) then
        some s2
      else
        again1 (IntKind.wrap .i64 (s2 + 1))
    else
      some (-1)) fuel 0
noncomputable def ref04_Find (x : ((List ((List UInt8) × (List UInt8))) × (List UInt8))) : Option Int :=
  (ref04_Right x.1).bind fun r1 =>
  if (!r1) then
    some (-1)
  else
    (ref04_find (x.1, x.2)).bind fun r2 =>
    some r2
noncomputable def ref04_Get (x : ((List ((List UInt8) × (List UInt8))) × (List UInt8))) : Option ((List UInt8) × Bool) :=
  (ref04_Find (x.1, x.2)).bind fun r1 =>
  if decide (r1 < 0) then
    some ([], false)
  else
    ixL x.1 r1 fun x2 =>
    some (x2.2, true)
noncomputable def ref02_clamp (x : Int) : Option Int :=
  some (if 0 < (if 1073741824 < x then 1073741824 else x) then (if 1073741824 < x then 1073741824 else x) else 0)
noncomputable def ref02_Fit (x : (Int × Int)) : Option (Int × Int) :=
  (ref02_clamp x.1).bind fun r1 =>
  (ref02_clamp x.2).bind fun r2 =>
  some (r1, r2)
noncomputable def ref02_Tick (x : (Int × (Int × Int))) : Option (Int × Int) :=
  (ref02_Fit (x.1, x.2.1)).bind fun r1 =>
  if ((bitsI .and .i64 x.2.2 1) == 1) then
    (ref02_clamp (IntKind.wrap .i64 (r1.2 + 1))).bind fun r2 =>
    some (r1.1, r2)
  else
    (ref02_clamp (IntKind.wrap .i64 (r1.1 + 1))).bind fun r3 =>
    some (r3, r1.2)
noncomputable def ref09_Same (x : ((List ((List UInt8) × (Bool × ((List UInt8) × (Int × Int))))) × (List ((List UInt8) × (Bool × ((List UInt8) × (Int × Int))))))) : Option Bool :=
  if ((x.1.length : Int) != (x.2.length : Int)) then
    some false
  else
    fixS (S := Int) (R := Bool) (fun again1 s2 =>
      if decide (s2 < (x.1.length : Int)) then
        ixL x.1 s2 fun x3 =>
        ixL x.2 s2 fun x4 =>
        if (!((x3.1 == x4.1) && ((x3.2.1 == x4.2.1) && ((x3.2.2.1 == x4.2.2.1) && ((x3.2.2.2.1 == x4.2.2.2.1) && (x3.2.2.2.2 == x4.2.2.2.2)))))) then
          some false
        else
          again1 (IntKind.wrap .i64 (s2 + 1))
      else
        some true) fuel 0
end Go.Proofs.W.Q10
namespace Go.Proofs.W.Q10
open Go Go.Proofs.V Go.Proofs.W.Q9
set_option linter.unusedVariables false
set_option linter.unusedSimpArgs false
noncomputable def ref09_find (x : ((List ((List UInt8) × (Bool × ((List UInt8) × (Int × Int))))) × (List UInt8))) : Option Int :=
  fixS (S := Int) (R := Int) (fun again1 s2 =>
    if decide (s2 < (x.1.length : Int)) then
      ixL x.1 s2 fun x3 =>
      if (x3.1 == x.2) then
        some s2
      else
        again1 (IntKind.wrap .i64 (s2 + 1))
    else
      some (-1)) fuel 0
noncomputable def ref09_Find (x : ((List ((List UInt8) × (Bool × ((List UInt8) × (Int × Int))))) × (List UInt8))) : Option Int :=
  (ref09_Right x.1).bind fun r1 =>
  if (!r1) then
    some (-1)
  else
    (ref09_find (x.1, x.2)).bind fun r2 =>
    some r2
noncomputable def ref09_paths (x : ((List ((List UInt8) × (Bool × ((List UInt8) × (Int × Int))))) × (List ((List UInt8) × (List UInt8))))) : Option (List (List UInt8)) :=
  fixS (S := ((List (List UInt8)) × Int)) (R := (List (List UInt8))) (fun again1 s2 =>
    if decide (s2.2 < (IntKind.wrap .i64 ((x.1.length : Int) + (x.2.length : Int)))) then
      if decide (s2.2 < (x.1.length : Int)) then
        ixL x.1 s2.2 fun x3 =>
        fixS (S := Int) (R := (List (List UInt8))) (fun again4 s5 =>
          if decide (s5 < (s2.1.length : Int)) then
            ixL s2.1 s5 fun x6 =>
            if (Op.bytesLess x6 x3.1) then
              again4 (IntKind.wrap .i64 (s5 + 1))
            else
              if (s5 == (s2.1.length : Int)) then
                cutL s2.1 0 s5 fun y7 =>
                if (fitsB 16 (([] ++ y7).length : Int)) then
                  if (fitsB 16 ((([] ++ y7) ++ [x3.1]).length : Int)) then
                    cutL s2.1 s5 (s2.1.length : Int) fun y8 =>
                    if (fitsB 16 (((([] ++ y7) ++ [x3.1]) ++ y8).length : Int)) then
                      again1 (((([] ++ y7) ++ [x3.1]) ++ y8), (IntKind.wrap .i64 (s2.2 + 1)))
                    else none
                  else none
                else none
              else
                ixL s2.1 s5 fun x9 =>
                if (!(x9 == x3.1)) then
                  cutL s2.1 0 s5 fun y10 =>
                  if (fitsB 16 (([] ++ y10).length : Int)) then
                    if (fitsB 16 ((([] ++ y10) ++ [x3.1]).length : Int)) then
                      cutL s2.1 s5 (s2.1.length : Int) fun y11 =>
                      if (fitsB 16 (((([] ++ y10) ++ [x3.1]) ++ y11).length : Int)) then
                        again1 (((([] ++ y10) ++ [x3.1]) ++ y11), (IntKind.wrap .i64 (s2.2 + 1)))
                      else none
                    else none
                  else none
                else
                  again1 (s2.1, (IntKind.wrap .i64 (s2.2 + 1)))
          else
            if (s5 == (s2.1.length : Int)) then
              cutL s2.1 0 s5 fun y12 =>
              if (fitsB 16 (([] ++ y12).length : Int)) then
                if (fitsB 16 ((([] ++ y12) ++ [x3.1]).length : Int)) then
                  cutL s2.1 s5 (s2.1.length : Int) fun y13 =>
                  if (fitsB 16 (((([] ++ y12) ++ [x3.1]) ++ y13).length : Int)) then
                    again1 (((([] ++ y12) ++ [x3.1]) ++ y13), (IntKind.wrap .i64 (s2.2 + 1)))
                  else none
                else none
              else none
            else
              ixL s2.1 s5 fun x14 =>
              if (!(x14 == x3.1)) then
                cutL s2.1 0 s5 fun y15 =>
                if (fitsB 16 (([] ++ y15).length : Int)) then
                  if (fitsB 16 ((([] ++ y15) ++ [x3.1]).length : Int)) then
                    cutL s2.1 s5 (s2.1.length : Int) fun y16 =>
                    if (fitsB 16 (((([] ++ y15) ++ [x3.1]) ++ y16).length : Int)) then
                      again1 (((([] ++ y15) ++ [x3.1]) ++ y16), (IntKind.wrap .i64 (s2.2 + 1)))
                    else none
                  else none
                else none
              else
                again1 (s2.1, (IntKind.wrap .i64 (s2.2 + 1)))) fuel 0
      else
        ixL x.2 (IntKind.wrap .i64 (s2.2 - (x.1.length : Int))) fun x17 =>
        fixS (S := Int) (R := (List (List UInt8))) (fun again18 s19 =>
          if decide (s19 < (s2.1.length : Int)) then
            ixL s2.1 s19 fun x20 =>
            if (Op.bytesLess x20 x17.1) then
              again18 (IntKind.wrap .i64 (s19 + 1))
            else
              if (s19 == (s2.1.length : Int)) then
                cutL s2.1 0 s19 fun y21 =>
                if (fitsB 16 (([] ++ y21).length : Int)) then
                  if (fitsB 16 ((([] ++ y21) ++ [x17.1]).length : Int)) then
                    cutL s2.1 s19 (s2.1.length : Int) fun y22 =>
                    if (fitsB 16 (((([] ++ y21) ++ [x17.1]) ++ y22).length : Int)) then
                      again1 (((([] ++ y21) ++ [x17.1]) ++ y22), (IntKind.wrap .i64 (s2.2 + 1)))
                    else none
                  else none
                else none
              else
                ixL s2.1 s19 fun x23 =>
                if (!(x23 == x17.1)) then
                  cutL s2.1 0 s19 fun y24 =>
                  if (fitsB 16 (([] ++ y24).length : Int)) then
                    if (fitsB 16 ((([] ++ y24) ++ [x17.1]).length : Int)) then
                      cutL s2.1 s19 (s2.1.length : Int) fun y25 =>
                      if (fitsB 16 (((([] ++ y24) ++ [x17.1]) ++ y25).length : Int)) then
                        again1 (((([] ++ y24) ++ [x17.1]) ++ y25), (IntKind.wrap .i64 (s2.2 + 1)))
                      else none
                    else none
                  else none
                else
                  again1 (s2.1, (IntKind.wrap .i64 (s2.2 + 1)))
          else
            if (s19 == (s2.1.length : Int)) then
              cutL s2.1 0 s19 fun y26 =>
              if (fitsB 16 (([] ++ y26).length : Int)) then
                if (fitsB 16 ((([] ++ y26) ++ [x17.1]).length : Int)) then
                  cutL s2.1 s19 (s2.1.length : Int) fun y27 =>
                  if (fitsB 16 (((([] ++ y26) ++ [x17.1]) ++ y27).length : Int)) then
                    again1 (((([] ++ y26) ++ [x17.1]) ++ y27), (IntKind.wrap .i64 (s2.2 + 1)))
                  else none
                else none
              else none
            else
              ixL s2.1 s19 fun x28 =>
              if (!(x28 == x17.1)) then
                cutL s2.1 0 s19 fun y29 =>
                if (fitsB 16 (([] ++ y29).length : Int)) then
                  if (fitsB 16 ((([] ++ y29) ++ [x17.1]).length : Int)) then
                    cutL s2.1 s19 (s2.1.length : Int) fun y30 =>
                    if (fitsB 16 (((([] ++ y29) ++ [x17.1]) ++ y30).length : Int)) then
                      again1 (((([] ++ y29) ++ [x17.1]) ++ y30), (IntKind.wrap .i64 (s2.2 + 1)))
                    else none
                  else none
                else none
              else
                again1 (s2.1, (IntKind.wrap .i64 (s2.2 + 1)))) fuel 0
    else
      some s2.1) fuel ([], 0)
noncomputable def ref09_Scan (x : ((List ((List UInt8) × (Bool × ((List UInt8) × (Int × Int))))) × ((List ((List UInt8) × (List UInt8))) × Int))) : Option ((List ((List UInt8) × (Bool × ((List UInt8) × (Int × Int))))) × ((List (List UInt8)) × Int)) :=
  (ref04_Right x.2.1).bind fun r1 =>
  if (!r1) then
    some ([], ([], 1))
  else
    (ref09_Right x.1).bind fun r2 =>
    if (!r2) then
      some ([], ([], 1))
    else
      (ref09_paths (x.1, x.2.1)).bind fun r3 =>
      if decide ((r3.length : Int) > 32) then
        some ([], ([], 2))
      else
        fixS (S := ((List ((List UInt8) × (Bool × ((List UInt8) × (Int × Int))))) × ((List (List UInt8)) × Int))) (R := ((List ((List UInt8) × (Bool × ((List UInt8) × (Int × Int))))) × ((List (List UInt8)) × Int))) (fun again4 s5 =>
          if decide (s5.2.2 < (r3.length : Int)) then
            ixL r3 s5.2.2 fun x6 =>
            (ref04_Get (x.2.1, x6)).bind fun r7 =>
            (ref09_find (x.1, x6)).bind fun r8 =>
            if decide (r8 ≥ 0) then
              ixL x.1 r8 fun x9 =>
              if decide (r8 < 0) then
                (ref02_Tick (x9.2.2.2.1, (x9.2.2.2.2, x.2.2))).bind fun r10 =>
                if ((r10.1 == x9.2.2.2.1) && (r10.2 == x9.2.2.2.2)) then
                  some ([], ([], 2))
                else
                  if (fitsB 16 ((s5.2.1 ++ [x6]).length : Int)) then
                    if (fitsB 56 ((s5.1 ++ [(x6, (r7.2, (r7.1, (r10.1, r10.2))))]).length : Int)) then
                      again4 ((s5.1 ++ [(x6, (r7.2, (r7.1, (r10.1, r10.2))))]), ((s5.2.1 ++ [x6]), (IntKind.wrap .i64 (s5.2.2 + 1))))
                    else none
                  else none
              else
                if (!(x9.2.1 == r7.2)) then
                  (ref02_Tick (x9.2.2.2.1, (x9.2.2.2.2, x.2.2))).bind fun r11 =>
                  if ((r11.1 == x9.2.2.2.1) && (r11.2 == x9.2.2.2.2)) then
                    some ([], ([], 2))
                  else
                    if (fitsB 16 ((s5.2.1 ++ [x6]).length : Int)) then
                      if (fitsB 56 ((s5.1 ++ [(x6, (r7.2, (r7.1, (r11.1, r11.2))))]).length : Int)) then
                        again4 ((s5.1 ++ [(x6, (r7.2, (r7.1, (r11.1, r11.2))))]), ((s5.2.1 ++ [x6]), (IntKind.wrap .i64 (s5.2.2 + 1))))
                      else none
                    else none
                else
                  if (!(x9.2.2.1 == r7.1)) then
                    (ref02_Tick (x9.2.2.2.1, (x9.2.2.2.2, x.2.2))).bind fun r12 =>
                    if ((r12.1 == x9.2.2.2.1) && (r12.2 == x9.2.2.2.2)) then
                      some ([], ([], 2))
                    else
                      if (fitsB 16 ((s5.2.1 ++ [x6]).length : Int)) then
                        if (fitsB 56 ((s5.1 ++ [(x6, (r7.2, (r7.1, (r12.1, r12.2))))]).length : Int)) then
                          again4 ((s5.1 ++ [(x6, (r7.2, (r7.1, (r12.1, r12.2))))]), ((s5.2.1 ++ [x6]), (IntKind.wrap .i64 (s5.2.2 + 1))))
                        else none
                      else none
                  else
                    if (fitsB 56 ((s5.1 ++ [(x9.1, (x9.2.1, (x9.2.2.1, (x9.2.2.2.1, x9.2.2.2.2))))]).length : Int)) then
                      again4 ((s5.1 ++ [(x9.1, (x9.2.1, (x9.2.2.1, (x9.2.2.2.1, x9.2.2.2.2))))]), (s5.2.1, (IntKind.wrap .i64 (s5.2.2 + 1))))
                    else none
            else
              if decide (r8 < 0) then
                (ref02_Tick (0, (0, x.2.2))).bind fun r13 =>
                if ((r13.1 == 0) && (r13.2 == 0)) then
                  some ([], ([], 2))
                else
                  if (fitsB 16 ((s5.2.1 ++ [x6]).length : Int)) then
                    if (fitsB 56 ((s5.1 ++ [(x6, (r7.2, (r7.1, (r13.1, r13.2))))]).length : Int)) then
                      again4 ((s5.1 ++ [(x6, (r7.2, (r7.1, (r13.1, r13.2))))]), ((s5.2.1 ++ [x6]), (IntKind.wrap .i64 (s5.2.2 + 1))))
                    else none
                  else none
              else
                if (!(false == r7.2)) then
                  (ref02_Tick (0, (0, x.2.2))).bind fun r14 =>
                  if ((r14.1 == 0) && (r14.2 == 0)) then
                    some ([], ([], 2))
                  else
                    if (fitsB 16 ((s5.2.1 ++ [x6]).length : Int)) then
                      if (fitsB 56 ((s5.1 ++ [(x6, (r7.2, (r7.1, (r14.1, r14.2))))]).length : Int)) then
                        again4 ((s5.1 ++ [(x6, (r7.2, (r7.1, (r14.1, r14.2))))]), ((s5.2.1 ++ [x6]), (IntKind.wrap .i64 (s5.2.2 + 1))))
                      else none
                    else none
                else
                  if (!([] == r7.1)) then
                    (ref02_Tick (0, (0, x.2.2))).bind fun r15 =>
                    if ((r15.1 == 0) && (r15.2 == 0)) then
                      some ([], ([], 2))
                    else
                      if (fitsB 16 ((s5.2.1 ++ [x6]).length : Int)) then
                        if (fitsB 56 ((s5.1 ++ [(x6, (r7.2, (r7.1, (r15.1, r15.2))))]).length : Int)) then
                          again4 ((s5.1 ++ [(x6, (r7.2, (r7.1, (r15.1, r15.2))))]), ((s5.2.1 ++ [x6]), (IntKind.wrap .i64 (s5.2.2 + 1))))
                        else none
                      else none
                  else
                    if (fitsB 56 ((s5.1 ++ [(x6, (false, ([], (0, 0))))]).length : Int)) then
                      again4 ((s5.1 ++ [(x6, (false, ([], (0, 0))))]), (s5.2.1, (IntKind.wrap .i64 (s5.2.2 + 1))))
                    else none
          else
            some (s5.1, (s5.2.1, 0))) fuel ([], ([], 0))
noncomputable def ref04_Same (x : ((List ((List UInt8) × (List UInt8))) × (List ((List UInt8) × (List UInt8))))) : Option Bool :=
  if ((x.1.length : Int) != (x.2.length : Int)) then
    some false
  else
    fixS (S := Int) (R := Bool) (fun again1 s2 =>
      if decide (s2 < (x.1.length : Int)) then
        ixL x.1 s2 fun x3 =>
        ixL x.2 s2 fun x4 =>
        if (!((x3.1 == x4.1) && (x3.2 == x4.2))) then
          some false
        else
          again1 (IntKind.wrap .i64 (s2 + 1))
      else
        some true) fuel 0
end Go.Proofs.W.Q10

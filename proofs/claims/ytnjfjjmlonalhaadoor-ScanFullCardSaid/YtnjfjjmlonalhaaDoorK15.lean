/- What is left of the functions of chapter 09, once memory is out of sight. -/
import Derived.Test.YtnjfjjmlonalhaaDoorK13
import Derived.Test.YtnjfjjmlonalhaaDoorK14
namespace Go.Proofs.W.Q9
open Go Go.Proofs.V
set_option linter.unusedVariables false
set_option linter.unusedSimpArgs false
abbrev reE : RT := .cons .str (.cons .bool (.cons .str (.cons (.int .i64) (.one (.int .i64)))))
abbrev rfF : RT := .cons .str (.one .str)
abbrev tau9 : RT4 := ⟨reE, rfF, reE, reE⟩
noncomputable def strings_Split (x : List UInt8 × List UInt8) : Option (List (List UInt8)) := if x.2 = [47] ∧ x.1.length ≤ 1000000 then some (E.spl x.1) else none
noncomputable def slices_Clone_Entry (x : List (List UInt8 × (Bool × (List UInt8 × (Int × Int))))) : Option (List (List UInt8 × (Bool × (List UInt8 × (Int × Int))))) := if x.length * 56 ≤ 35184372088832 then some x else none
noncomputable def bytealg_IndexByteString (x : List UInt8 × Int) : Option Int := if 0 ≤ x.2 ∧ x.2 < 256 then some (Lib.indexByte x.1 (x.2.toNat.toUInt8)) else none
noncomputable def bytealg_CountString (x : List UInt8 × Int) : Option Int := if 0 ≤ x.2 ∧ x.2 < 256 then some ((Lib.countByte x.1 (x.2.toNat.toUInt8) : Nat) : Int) else none
noncomputable def stringslite_IndexByte (x : ((List UInt8) × Int)) : Option Int :=
  (bytealg_IndexByteString (x.1, x.2)).bind fun r1 =>
  some r1
noncomputable def strings_IndexByte (x : ((List UInt8) × Int)) : Option Int :=
  (stringslite_IndexByte (x.1, x.2)).bind fun r1 =>
  some r1
noncomputable def path_Name (x : (List UInt8)) : Option Bool :=
  fixS (S := Int) (R := Bool) (fun again1 s2 =>
    if decide (s2 < ((toBL x).length : Int)) then
      ixL (toBL x) s2 fun x3 =>
      if decide (x3 ≥ 97) then
        if decide (x3 ≤ 122) then
          again1 (IntKind.wrap .i64 (s2 + 1))
        else
          if decide (x3 ≥ 48) then
            if (!decide (x3 ≤ 57)) then
              (strings_IndexByte ([46, 45], x3)).bind fun r4 =>
              if decide (r4 < 0) then
                some false
              else
                again1 (IntKind.wrap .i64 (s2 + 1))
            else
              again1 (IntKind.wrap .i64 (s2 + 1))
          else
            (strings_IndexByte ([46, 45], x3)).bind fun r5 =>
            if decide (r5 < 0) then
              some false
            else
              again1 (IntKind.wrap .i64 (s2 + 1))
      else
        if decide (x3 ≥ 48) then
          if (!decide (x3 ≤ 57)) then
            (strings_IndexByte ([46, 45], x3)).bind fun r6 =>
            if decide (r6 < 0) then
              some false
            else
              again1 (IntKind.wrap .i64 (s2 + 1))
          else
            again1 (IntKind.wrap .i64 (s2 + 1))
        else
          (strings_IndexByte ([46, 45], x3)).bind fun r7 =>
          if decide (r7 < 0) then
            some false
          else
            again1 (IntKind.wrap .i64 (s2 + 1))
    else
      if decide ((x.length : Int) > 0) then
        if decide ((x.length : Int) ≤ 12) then
          if (!(x == [46])) then
            some (!(x == [46, 46]))
          else
            some false
        else
          some false
      else
        some false) fuel 0
noncomputable def path_Names (x : (List UInt8)) : Option (List (List UInt8)) :=
  (strings_Split (x, [47])).bind fun r1 =>
  if decide ((r1.length : Int) > 4) then
    some []
  else
    fixS (S := Int) (R := (List (List UInt8))) (fun again2 s3 =>
      if decide (s3 < (r1.length : Int)) then
        ixL r1 s3 fun x4 =>
        (path_Name x4).bind fun r5 =>
        if (!r5) then
          some []
        else
          again2 (IntKind.wrap .i64 (s3 + 1))
      else
        some r1) fuel 0
noncomputable def path_Right (x : (List UInt8)) : Option Bool :=
  (path_Names x).bind fun r1 =>
  some (decide ((r1.length : Int) > 0))
noncomputable def clock_Right (x : (Int × Int)) : Option Bool :=
  if decide ((if x.2 < x.1 then x.2 else x.1) ≥ 0) then
    some (decide ((if x.1 < x.2 then x.2 else x.1) ≤ 1073741824))
  else
    some false
noncomputable def scan_files (x : (List ((List UInt8) × (Bool × ((List UInt8) × (Int × Int)))))) : Option (List ((List UInt8) × (List UInt8))) :=
  fixS (S := ((List ((List UInt8) × (List UInt8))) × Int)) (R := (List ((List UInt8) × (List UInt8)))) (fun again1 s2 =>
    if decide (s2.2 < (x.length : Int)) then
      ixL x s2.2 fun x3 =>
      if x3.2.1 then
        if (fitsB 32 ((s2.1 ++ [(x3.1, x3.2.2.1)]).length : Int)) then
          again1 ((s2.1 ++ [(x3.1, x3.2.2.1)]), (IntKind.wrap .i64 (s2.2 + 1)))
        else none
      else
        again1 (s2.1, (IntKind.wrap .i64 (s2.2 + 1)))
    else
      some s2.1) fuel ([], 0)
noncomputable def stringslite_HasPrefix (x : ((List UInt8) × (List UInt8))) : Option Bool :=
  if decide ((x.1.length : Int) ≥ (x.2.length : Int)) then
    cutL x.1 0 (x.2.length : Int) fun y1 =>
    some (y1 == x.2)
  else
    some false
noncomputable def strings_HasPrefix (x : ((List UInt8) × (List UInt8))) : Option Bool :=
  (stringslite_HasPrefix (x.1, x.2)).bind fun r1 =>
  some r1
noncomputable def path_Under (x : ((List UInt8) × (List UInt8))) : Option Bool :=
  (path_Right x.1).bind fun r1 =>
  if r1 then
    (path_Right x.2).bind fun r2 =>
    if r2 then
      if (fitsB 1 (x.2.length : Int)) then
        if (fitsB 1 ([47].length : Int)) then
          (strings_HasPrefix (x.1, (x.2 ++ [47]))).bind fun r3 =>
          some r3
        else none
      else none
    else
      some false
  else
    some false
noncomputable def tree_Right_1 (x : ((List UInt8) × ((List UInt8) × ((List UInt8) × (List UInt8))))) : Option Bool :=
  (path_Under (x.2.2.1, x.1)).bind fun r1 =>
  some r1
noncomputable def slices_IndexFunc_File_tree_Right_1 (x : ((List ((List UInt8) × (List UInt8))) × ((List UInt8) × (List UInt8)))) : Option Int :=
  fixS (S := Int) (R := Int) (fun again1 s2 =>
    if decide (s2 < (x.1.length : Int)) then
      ixL x.1 s2 fun x3 =>
      (tree_Right_1 (x3.1, (x3.2, (x.2.1, x.2.2)))).bind fun r4 =>
      if r4 then
        some s2
      else
        again1 (IntKind.wrap .i64 (s2 + 1))
    else
      some (-1)) fuel 0
noncomputable def slices_ContainsFunc_File_tree_Right_1 (x : ((List ((List UInt8) × (List UInt8))) × ((List UInt8) × (List UInt8)))) : Option Bool :=
  (slices_IndexFunc_File_tree_Right_1 (x.1, (x.2.1, x.2.2))).bind fun r1 =>
  some (decide (r1 ≥ 0))
noncomputable def tree_Right (x : (List ((List UInt8) × (List UInt8)))) : Option Bool :=
  if decide ((x.length : Int) > 16) then
    some false
  else
    fixS (S := Int) (R := Bool) (fun again1 s2 =>
      if decide (s2 < (x.length : Int)) then
        ixL x s2 fun x3 =>
        (path_Right x3.1).bind fun r4 =>
        if (!r4) then
          some false
        else
          if decide ((x3.2.length : Int) > 600) then
            some false
          else
            if decide (s2 > 0) then
              ixL x (IntKind.wrap .i64 (s2 - 1)) fun x5 =>
              if (Op.bytesLess x3.1 x5.1 || x3.1 == x5.1) then
                some false
              else
                (slices_ContainsFunc_File_tree_Right_1 (x, (x3.1, x3.2))).bind fun r6 =>
                if r6 then
                  some false
                else
                  again1 (IntKind.wrap .i64 (s2 + 1))
            else
              (slices_ContainsFunc_File_tree_Right_1 (x, (x3.1, x3.2))).bind fun r7 =>
              if r7 then
                some false
              else
                again1 (IntKind.wrap .i64 (s2 + 1))
      else
        some true) fuel 0
noncomputable def scan_Right (x : (List ((List UInt8) × (Bool × ((List UInt8) × (Int × Int)))))) : Option Bool :=
  fixS (S := Int) (R := Bool) (fun again1 s2 =>
    if decide (s2 < (x.length : Int)) then
      ixL x s2 fun x3 =>
      (path_Right x3.1).bind fun r4 =>
      if (!r4) then
        some false
      else
        if decide (s2 > 0) then
          ixL x (IntKind.wrap .i64 (s2 - 1)) fun x5 =>
          if (Op.bytesLess x3.1 x5.1 || x3.1 == x5.1) then
            some false
          else
            (clock_Right (x3.2.2.2.1, x3.2.2.2.2)).bind fun r6 =>
            if (!r6) then
              some false
            else
              if ((x3.2.2.2.1 == 0) && (x3.2.2.2.2 == 0)) then
                some false
              else
                if (!x3.2.1) then
                  if (!(x3.2.2.1 == [])) then
                    some false
                  else
                    again1 (IntKind.wrap .i64 (s2 + 1))
                else
                  again1 (IntKind.wrap .i64 (s2 + 1))
        else
          (clock_Right (x3.2.2.2.1, x3.2.2.2.2)).bind fun r7 =>
          if (!r7) then
            some false
          else
            if ((x3.2.2.2.1 == 0) && (x3.2.2.2.2 == 0)) then
              some false
            else
              if (!x3.2.1) then
                if (!(x3.2.2.1 == [])) then
                  some false
                else
                  again1 (IntKind.wrap .i64 (s2 + 1))
              else
                again1 (IntKind.wrap .i64 (s2 + 1))
    else
      if decide ((x.length : Int) ≤ 32) then
        (scan_files x).bind fun r8 =>
        (tree_Right r8).bind fun r9 =>
        some r9
      else
        some false) fuel 0
noncomputable def clock_clamp (x : Int) : Option Nat :=
  some (FloatKind.nearest .f64 (if 0 < (if 1073741824 < x then 1073741824 else x) then (if 1073741824 < x then 1073741824 else x) else 0))
noncomputable def clock_Of (x : (Int × Int)) : Option (Nat × Nat) :=
  (clock_clamp x.1).bind fun r1 =>
  (clock_clamp x.2).bind fun r2 =>
  some (r1, r2)
noncomputable def clock_count (x : Nat) : Option Int :=
  if (fcmpF .geq .f64 x 4742290407621132288) then
    some 1073741824
  else
    if (fcmpF .gtr .f64 x 0) then
      f2iF .f64 x .i64 fun n1 =>
      some n1
    else
      some 0
noncomputable def clock_Pair (x : (Nat × Nat)) : Option (Int × Int) :=
  (clock_count x.1).bind fun r1 =>
  (clock_count x.2).bind fun r2 =>
  some (r1, r2)
noncomputable def clock_whole (x : (Nat × Nat)) : Option (Nat × Nat) :=
  (clock_Pair (x.1, x.2)).bind fun r1 =>
  (clock_Of (r1.1, r1.2)).bind fun r2 =>
  some (r2.1, r2.2)
noncomputable def clock_Tick (x : ((Nat × Nat) × Int)) : Option (Nat × Nat) :=
  if ((bitsI .and .i64 x.2 1) == 1) then
    (clock_whole (x.1.1, x.1.2)).bind fun r1 =>
    faddF .f64 r1.1 0 fun f2 =>
    faddF .f64 r1.2 4607182418800017408 fun f3 =>
    (clock_whole (f2, f3)).bind fun r4 =>
    some (r4.1, r4.2)
  else
    (clock_whole (x.1.1, x.1.2)).bind fun r5 =>
    faddF .f64 r5.1 4607182418800017408 fun f6 =>
    faddF .f64 r5.2 0 fun f7 =>
    (clock_whole (f6, f7)).bind fun r8 =>
    some (r8.1, r8.2)
noncomputable def both_step (l0 : List (List UInt8 × (Bool × (List UInt8 × (Int × Int))))) (l1 : List (List UInt8 × List UInt8)) : Option (ItR tau9) :=
  if decide ((IntKind.wrap .i64 ((l0.length : Int) + (l1.length : Int))) > 0) then
    if ((l1.length : Int) == 0) then
      ixL l0 0 fun x1 =>
      ixL l0 0 fun x2 =>
      cutL l0 1 (l0.length : Int) fun y3 =>
      some (some ((x1.1, (x1.2.1, (x1.2.2.1, (x1.2.2.2.1, x1.2.2.2.2)))), ((x2.1, (false, ([], (0, 0)))), (y3, l1))))
    else
      if decide ((l0.length : Int) > 0) then
        ixL l0 0 fun x4 =>
        ixL l1 0 fun x5 =>
        if (Op.bytesLess x4.1 x5.1) then
          ixL l0 0 fun x6 =>
          ixL l0 0 fun x7 =>
          cutL l0 1 (l0.length : Int) fun y8 =>
          some (some ((x6.1, (x6.2.1, (x6.2.2.1, (x6.2.2.2.1, x6.2.2.2.2)))), ((x7.1, (false, ([], (0, 0)))), (y8, l1))))
        else
          if ((l0.length : Int) == 0) then
            ixL l1 0 fun x9 =>
            ixL l1 0 fun x10 =>
            ixL l1 0 fun x11 =>
            cutL l1 1 (l1.length : Int) fun y12 =>
            some (some ((x9.1, (false, ([], (0, 0)))), ((x10.1, (true, (x11.2, (0, 0)))), (l0, y12))))
          else
            ixL l0 0 fun x13 =>
            ixL l1 0 fun x14 =>
            if (!(Op.bytesLess x13.1 x14.1 || x13.1 == x14.1)) then
              ixL l1 0 fun x15 =>
              ixL l1 0 fun x16 =>
              ixL l1 0 fun x17 =>
              cutL l1 1 (l1.length : Int) fun y18 =>
              some (some ((x15.1, (false, ([], (0, 0)))), ((x16.1, (true, (x17.2, (0, 0)))), (l0, y18))))
            else
              ixL l0 0 fun x19 =>
              ixL l1 0 fun x20 =>
              ixL l1 0 fun x21 =>
              cutL l0 1 (l0.length : Int) fun y22 =>
              cutL l1 1 (l1.length : Int) fun y23 =>
              some (some ((x19.1, (x19.2.1, (x19.2.2.1, (x19.2.2.2.1, x19.2.2.2.2)))), ((x20.1, (true, (x21.2, (0, 0)))), (y22, y23))))
      else
        if ((l0.length : Int) == 0) then
          ixL l1 0 fun x24 =>
          ixL l1 0 fun x25 =>
          ixL l1 0 fun x26 =>
          cutL l1 1 (l1.length : Int) fun y27 =>
          some (some ((x24.1, (false, ([], (0, 0)))), ((x25.1, (true, (x26.2, (0, 0)))), (l0, y27))))
        else
          ixL l0 0 fun x28 =>
          ixL l1 0 fun x29 =>
          if (!(Op.bytesLess x28.1 x29.1 || x28.1 == x29.1)) then
            ixL l1 0 fun x30 =>
            ixL l1 0 fun x31 =>
            ixL l1 0 fun x32 =>
            cutL l1 1 (l1.length : Int) fun y33 =>
            some (some ((x30.1, (false, ([], (0, 0)))), ((x31.1, (true, (x32.2, (0, 0)))), (l0, y33))))
          else
            ixL l0 0 fun x34 =>
            ixL l1 0 fun x35 =>
            ixL l1 0 fun x36 =>
            cutL l0 1 (l0.length : Int) fun y37 =>
            cutL l1 1 (l1.length : Int) fun y38 =>
            some (some ((x34.1, (x34.2.1, (x34.2.2.1, (x34.2.2.2.1, x34.2.2.2.2)))), ((x35.1, (true, (x36.2, (0, 0)))), (y37, y38))))
  else
    some none
noncomputable def scan_step {R : Type} (x : (List UInt8 × (Bool × (List UInt8 × (Int × Int)))) × (List UInt8 × (Bool × (List UInt8 × (Int × Int))))) (s : Int × (List (List UInt8 × (Bool × (List UInt8 × (Int × Int)))) × (List (List UInt8) × (Int × (List (List UInt8 × (Bool × (List UInt8 × (Int × Int)))) × List (List UInt8)))))) (k kr : Int × (List (List UInt8 × (Bool × (List UInt8 × (Int × Int)))) × (List (List UInt8) × (Int × (List (List UInt8 × (Bool × (List UInt8 × (Int × Int)))) × List (List UInt8))))) → Option R) : Option R :=
  if (!((x.2.1 == x.1.1) && ((x.2.2.1 == x.1.2.1) && ((x.2.2.2.1 == x.1.2.2.1) && ((x.1.2.2.2.1 == x.1.2.2.2.1) && (x.1.2.2.2.2 == x.1.2.2.2.2)))))) then
    (clock_Of (x.1.2.2.2.1, x.1.2.2.2.2)).bind fun r1 =>
    (clock_Tick ((r1.1, r1.2), s.1)).bind fun r2 =>
    (clock_Pair (r2.1, r2.2)).bind fun r3 =>
    if (fitsB 16 ((s.2.2.2.2.2 ++ [x.2.1]).length : Int)) then
      if ((r3.1 == x.1.2.2.2.1) && (r3.2 == x.1.2.2.2.2)) then
        kr (s.1, ([], ([], (2, (s.2.2.2.2.1, (s.2.2.2.2.2 ++ [x.2.1]))))))
      else
        if (fitsB 56 ((s.2.2.2.2.1 ++ [(x.2.1, (x.2.2.1, (x.2.2.2.1, (r3.1, r3.2))))]).length : Int)) then
          k (s.1, (s.2.1, (s.2.2.1, (s.2.2.2.1, ((s.2.2.2.2.1 ++ [(x.2.1, (x.2.2.1, (x.2.2.2.1, (r3.1, r3.2))))]), (s.2.2.2.2.2 ++ [x.2.1]))))))
        else none
    else none
  else
    if (fitsB 56 ((s.2.2.2.2.1 ++ [(x.2.1, (x.2.2.1, (x.2.2.2.1, (x.1.2.2.2.1, x.1.2.2.2.2))))]).length : Int)) then
      k (s.1, (s.2.1, (s.2.2.1, (s.2.2.2.1, ((s.2.2.2.2.1 ++ [(x.2.1, (x.2.2.1, (x.2.2.2.1, (x.1.2.2.2.1, x.1.2.2.2.2))))]), s.2.2.2.2.2)))))
    else none
noncomputable def scan_post (s : Int × (List (List UInt8 × (Bool × (List UInt8 × (Int × Int)))) × (List (List UInt8) × (Int × (List (List UInt8 × (Bool × (List UInt8 × (Int × Int)))) × List (List UInt8)))))) : Option ((List (List UInt8 × (Bool × (List UInt8 × (Int × Int))))) × ((List (List UInt8)) × Int)) :=
  if decide ((s.2.2.2.2.1.length : Int) > 32) then
    some ([], ([], 2))
  else
    some (s.2.2.2.2.1, (s.2.2.2.2.2, 0))
noncomputable def scan_early (s : Int × (List (List UInt8 × (Bool × (List UInt8 × (Int × Int)))) × (List (List UInt8) × (Int × (List (List UInt8 × (Bool × (List UInt8 × (Int × Int)))) × List (List UInt8)))))) : Option ((List (List UInt8 × (Bool × (List UInt8 × (Int × Int))))) × ((List (List UInt8)) × Int)) :=
  some (s.2.1, (s.2.2.1, s.2.2.2.1))
noncomputable def scan_Scan (x : (List (List UInt8 × (Bool × (List UInt8 × (Int × Int))))) × ((List (List UInt8 × List UInt8)) × Int)) : Option ((List (List UInt8 × (Bool × (List UInt8 × (Int × Int))))) × ((List (List UInt8)) × Int)) :=
  (scan_Right x.1).bind fun r1 =>
  if (!r1) then
    some ([], ([], 1))
  else
    (tree_Right x.2.1).bind fun r2 =>
    if (!r2) then
      some ([], ([], 1))
    else
      (itRun (τ := tau9) both_step x.1 x.2.1).bind fun xs => rangeP scan_step xs (x.2.2, ([], ([], (0, ([], []))))) scan_post scan_early
noncomputable def slices_Equal_Entry (x : ((List ((List UInt8) × (Bool × ((List UInt8) × (Int × Int))))) × (List ((List UInt8) × (Bool × ((List UInt8) × (Int × Int))))))) : Option Bool :=
  if ((x.1.length : Int) != (x.2.length : Int)) then
    some false
  else
    fixS (S := Int) (R := Bool) (fun again1 s2 =>
      if decide (s2 < (x.1.length : Int)) then
        ixL x.1 s2 fun x3 =>
        ixL x.2 s2 fun x4 =>
        if (!((x3.1 == x4.1) && ((x3.2.1 == x4.2.1) && ((x3.2.2.1 == x4.2.2.1) && ((x3.2.2.2.1 == x4.2.2.2.1) && (x3.2.2.2.2 == x4.2.2.2.2)))))) then
          some false
        else
          again1 (IntKind.wrap .i64 (s2 + 1))
      else
        some true) fuel 0
noncomputable def scan_Same (x : ((List ((List UInt8) × (Bool × ((List UInt8) × (Int × Int))))) × (List ((List UInt8) × (Bool × ((List UInt8) × (Int × Int))))))) : Option Bool :=
  (slices_Equal_Entry (x.1, x.2)).bind fun r1 =>
  some r1
noncomputable def scan_find_1 (x : ((List UInt8) × (Bool × ((List UInt8) × (Int × (Int × (List UInt8))))))) : Option Bool :=
  some (x.1 == x.2.2.2.2.2)
noncomputable def slices_IndexFunc_Entry_scan_find_1 (x : ((List ((List UInt8) × (Bool × ((List UInt8) × (Int × Int))))) × (List UInt8))) : Option Int :=
  fixS (S := Int) (R := Int) (fun again1 s2 =>
    if decide (s2 < (x.1.length : Int)) then
      ixL x.1 s2 fun x3 =>
      (scan_find_1 (x3.1, (x3.2.1, (x3.2.2.1, (x3.2.2.2.1, (x3.2.2.2.2, x.2)))))).bind fun r4 =>
      if r4 then
        some s2
      else
        again1 (IntKind.wrap .i64 (s2 + 1))
    else
      some (-1)) fuel 0
noncomputable def scan_find (x : ((List ((List UInt8) × (Bool × ((List UInt8) × (Int × Int))))) × (List UInt8))) : Option Int :=
  (slices_IndexFunc_Entry_scan_find_1 (x.1, x.2)).bind fun r1 =>
  some r1
noncomputable def scan_Find (x : ((List ((List UInt8) × (Bool × ((List UInt8) × (Int × Int))))) × (List UInt8))) : Option Int :=
  (scan_Right x.1).bind fun r1 =>
  if (!r1) then
    some (-1)
  else
    (scan_find (x.1, x.2)).bind fun r2 =>
    some r2
noncomputable def scan_Tree (x : (List ((List UInt8) × (Bool × ((List UInt8) × (Int × Int)))))) : Option (List ((List UInt8) × (List UInt8))) :=
  (scan_Right x).bind fun r1 =>
  if (!r1) then
    some []
  else
    (scan_files x).bind fun r2 =>
    some r2
noncomputable def scan_Copy (x : (List ((List UInt8) × (Bool × ((List UInt8) × (Int × Int)))))) : Option (List ((List UInt8) × (Bool × ((List UInt8) × (Int × Int))))) :=
  (slices_Clone_Entry x).bind fun r1 =>
  some r1
noncomputable def law09_small (x : PUnit) : Option Bool :=
  (scan_Scan ([], ([([97], [49])], 0))).bind fun r1 =>
  (scan_Scan (r1.1, ([([98], [])], 1))).bind fun r2 =>
  (scan_Scan (r2.1, ([([98], [])], 0))).bind fun r3 =>
  if ((r1.1.length : Int) != 1) then
    some false
  else
    if ((r2.1.length : Int) != 2) then
      some false
    else
      if ((r1.2.1.length : Int) != 1) then
        some false
      else
        if ((r2.2.1.length : Int) != 2) then
          some false
        else
          if (r1.2.2 == 0) then
            if (r2.2.2 == 0) then
              if (r3.2.2 == 0) then
                if ((r3.2.1.length : Int) == 0) then
                  ixL r1.1 0 fun x4 =>
                  if ((x4.1 == [97]) && ((x4.2.1 == true) && ((x4.2.2.1 == [49]) && ((x4.2.2.2.1 == 1) && (x4.2.2.2.2 == 0))))) then
                    ixL r2.1 0 fun x5 =>
                    if ((x5.1 == [97]) && ((x5.2.1 == false) && ((x5.2.2.1 == []) && ((x5.2.2.2.1 == 1) && (x5.2.2.2.2 == 1))))) then
                      (scan_Same (r2.1, r3.1)).bind fun r6 =>
                      if r6 then
                        (scan_Find (r2.1, [98])).bind fun r7 =>
                        if (r7 == 1) then
                          (scan_Tree r2.1).bind fun r8 =>
                          if ((r8.length : Int) == 1) then
                            (scan_Right r2.1).bind fun r9 =>
                            if r9 then
                              (scan_Right [([97], (true, ([], (0, 0))))]).bind fun r10 =>
                              if (!r10) then
                                (scan_Copy r2.1).bind fun r11 =>
                                some ((r11.length : Int) == 2)
                              else
                                some false
                            else
                              some false
                          else
                            some false
                        else
                          some false
                      else
                        some false
                    else
                      some false
                  else
                    some false
                else
                  some false
              else
                some false
            else
              some false
          else
            some false
noncomputable def law09_Few (x : (List ((List UInt8) × (Bool × ((List UInt8) × (Int × Int)))))) : Option Bool :=
  if decide ((x.length : Int) > 60) then
    some false
  else
    fixS (S := Int) (R := Bool) (fun again1 s2 =>
      if decide (s2 < (x.length : Int)) then
        ixL x s2 fun x3 =>
        if decide ((x3.1.length : Int) > 100) then
          some false
        else
          ixL x s2 fun x4 =>
          if decide ((x4.2.2.1.length : Int) > 1000) then
            some false
          else
            again1 (IntKind.wrap .i64 (s2 + 1))
      else
        some true) fuel 0
noncomputable def law09_ScanBack (x : ((List ((List UInt8) × (Bool × ((List UInt8) × (Int × Int))))) × Int)) : Option Bool :=
  (law09_small ()).bind fun r1 =>
  (law09_Few x.1).bind fun r2 =>
  if (!r2) then
    some r1
  else
    (scan_Right x.1).bind fun r3 =>
    if (!r3) then
      some r1
    else
      (scan_Tree x.1).bind fun r4 =>
      (scan_Scan (x.1, (r4, x.2))).bind fun r5 =>
      if r1 then
        if (r5.2.2 == 0) then
          (scan_Same (r5.1, x.1)).bind fun r6 =>
          if r6 then
            some ((r5.2.1.length : Int) == 0)
          else
            some false
        else
          some false
      else
        some false
noncomputable def law09_ScanFull (x : (Int × Int)) : Option Bool :=
  (law09_small ()).bind fun r1 =>
  if decide (x.1 < 0) then
    some r1
  else
    if decide (x.1 > 32) then
      some r1
    else
      if decide (x.2 < 0) then
        some r1
      else
        if decide (x.2 > 16) then
          some r1
        else
          fixS (S := ((List ((List UInt8) × (Bool × ((List UInt8) × (Int × Int))))) × Int)) (R := Bool) (fun again2 s3 =>
            if decide (s3.2 < x.1) then
              divG .rem .u8 (IntKind.wrap .u8 s3.2) 26 fun n4 =>
              if (fitsB 1 ([97].length : Int)) then
                if (fitsB 1 ((toSL [(IntKind.wrap .u8 (97 + n4))]).length : Int)) then
                  divG .quo .i64 s3.2 26 fun n5 =>
                  if (fitsB 1 (([97] ++ (toSL [(IntKind.wrap .u8 (97 + n4))])).length : Int)) then
                    if (fitsB 1 ((toSL [(IntKind.wrap .u8 (97 + (IntKind.wrap .u8 n5)))]).length : Int)) then
                      if (fitsB 56 ((s3.1 ++ [((([97] ++ (toSL [(IntKind.wrap .u8 (97 + n4))])) ++ (toSL [(IntKind.wrap .u8 (97 + (IntKind.wrap .u8 n5)))])), (false, ([], (1, 0))))]).length : Int)) then
                        again2 ((s3.1 ++ [((([97] ++ (toSL [(IntKind.wrap .u8 (97 + n4))])) ++ (toSL [(IntKind.wrap .u8 (97 + (IntKind.wrap .u8 n5)))])), (false, ([], (1, 0))))]), (IntKind.wrap .i64 (s3.2 + 1)))
                      else none
                    else none
                  else none
                else none
              else none
            else
              fixS (S := ((List ((List UInt8) × (Bool × ((List UInt8) × (Int × Int))))) × ((List ((List UInt8) × (List UInt8))) × Int))) (R := Bool) (fun again6 s7 =>
                if decide (s7.2.2 < x.2) then
                  if (fitsB 1 ([98].length : Int)) then
                    if (fitsB 1 ((toSL [(IntKind.wrap .u8 (97 + (IntKind.wrap .u8 s7.2.2)))]).length : Int)) then
                      if (fitsB 32 ((s7.2.1 ++ [(([98] ++ (toSL [(IntKind.wrap .u8 (97 + (IntKind.wrap .u8 s7.2.2)))])), [])]).length : Int)) then
                        again6 (s7.1, ((s7.2.1 ++ [(([98] ++ (toSL [(IntKind.wrap .u8 (97 + (IntKind.wrap .u8 s7.2.2)))])), [])]), (IntKind.wrap .i64 (s7.2.2 + 1))))
                      else none
                    else none
                  else none
                else
                  fixS (S := ((List ((List UInt8) × (Bool × ((List UInt8) × (Int × Int))))) × ((List ((List UInt8) × (List UInt8))) × ((List ((List UInt8) × (Bool × ((List UInt8) × (Int × Int))))) × Int)))) (R := Bool) (fun again8 s9 =>
                    if decide (s9.2.2.2 < 26) then
                      fixS (S := ((List ((List UInt8) × (Bool × ((List UInt8) × (Int × Int))))) × ((List ((List UInt8) × (List UInt8))) × ((List ((List UInt8) × (Bool × ((List UInt8) × (Int × Int))))) × Int)))) (R := Bool) (fun again10 s11 =>
                        if decide (s11.2.2.2 < x.1) then
                          ixL s11.1 s11.2.2.2 fun x12 =>
                          if (fitsB 56 ((s11.2.2.1 ++ [(x12.1, (x12.2.1, (x12.2.2.1, (x12.2.2.2.1, x12.2.2.2.2))))]).length : Int)) then
                            again10 (s11.1, (s11.2.1, ((s11.2.2.1 ++ [(x12.1, (x12.2.1, (x12.2.2.1, (x12.2.2.2.1, x12.2.2.2.2))))]), (IntKind.wrap .i64 (s11.2.2.2 + 26)))))
                          else none
                        else
                          again8 (s11.1, (s11.2.1, (s11.2.2.1, (IntKind.wrap .i64 (s9.2.2.2 + 1)))))) fuel (s9.1, (s9.2.1, (s9.2.2.1, s9.2.2.2)))
                    else
                      (scan_Scan (s9.2.2.1, (s9.2.1, 0))).bind fun r13 =>
                      if decide ((IntKind.wrap .i64 (x.1 + x.2)) > 32) then
                        if r1 then
                          if (r13.2.2 == 2) then
                            if ((r13.1.length : Int) == 0) then
                              some ((r13.2.1.length : Int) == 0)
                            else
                              some false
                          else
                            some false
                        else
                          some false
                      else
                        if r1 then
                          if (r13.2.2 == 0) then
                            if ((r13.1.length : Int) == (IntKind.wrap .i64 (x.1 + x.2))) then
                              if ((r13.2.1.length : Int) == x.2) then
                                (scan_Right r13.1).bind fun r14 =>
                                some r14
                              else
                                some false
                            else
                              some false
                          else
                            some false
                        else
                          some false) fuel (s7.1, (s7.2.1, ([], 0)))) fuel (s3.1, ([], 0))) fuel ([], 0)
noncomputable def law04_Few (x : (List ((List UInt8) × (List UInt8)))) : Option Bool :=
  if decide ((x.length : Int) > 40) then
    some false
  else
    fixS (S := Int) (R := Bool) (fun again1 s2 =>
      if decide (s2 < (x.length : Int)) then
        ixL x s2 fun x3 =>
        if decide ((x3.1.length : Int) > 100) then
          some false
        else
          ixL x s2 fun x4 =>
          if decide ((x4.2.length : Int) > 1000) then
            some false
          else
            again1 (IntKind.wrap .i64 (s2 + 1))
      else
        some true) fuel 0
noncomputable def clock_Mine (x : ((Nat × Nat) × Int)) : Option Int :=
  (clock_Pair (x.1.1, x.1.2)).bind fun r1 =>
  if ((bitsI .and .i64 x.2 1) == 1) then
    some r1.2
  else
    some r1.1
noncomputable def law09_ScanTwo (x : ((List ((List UInt8) × (Bool × ((List UInt8) × (Int × Int))))) × ((List ((List UInt8) × (List UInt8))) × Int))) : Option Bool :=
  (law09_small ()).bind fun r1 =>
  (law09_Few x.1).bind fun r2 =>
  (law04_Few x.2.1).bind fun r3 =>
  if (!r2) then
    some r1
  else
    if (!r3) then
      some r1
    else
      (scan_Scan (x.1, (x.2.1, x.2.2))).bind fun r4 =>
      if (r4.2.2 != 0) then
        some r1
      else
        fixS (S := (Int × (Int × Int))) (R := Bool) (fun again5 s6 =>
          if decide (s6.2.2 < (r4.1.length : Int)) then
            ixL r4.1 s6.2.2 fun x7 =>
            (clock_Of (x7.2.2.2.1, x7.2.2.2.2)).bind fun r8 =>
            (clock_Mine ((r8.1, r8.2), x.2.2)).bind fun r9 =>
            ixL r4.1 s6.2.2 fun x10 =>
            (clock_Of (x10.2.2.2.1, x10.2.2.2.2)).bind fun r11 =>
            (clock_Mine ((r11.1, r11.2), (IntKind.wrap .i64 (x.2.2 + 1)))).bind fun r12 =>
            again5 ((IntKind.wrap .i64 (s6.1 + r9)), ((IntKind.wrap .i64 (s6.2.1 + r12)), (IntKind.wrap .i64 (s6.2.2 + 1))))
          else
            fixS (S := (Int × (Int × Int))) (R := Bool) (fun again13 s14 =>
              if decide (s14.2.2 < (x.1.length : Int)) then
                ixL x.1 s14.2.2 fun x15 =>
                (clock_Of (x15.2.2.2.1, x15.2.2.2.2)).bind fun r16 =>
                (clock_Mine ((r16.1, r16.2), x.2.2)).bind fun r17 =>
                ixL x.1 s14.2.2 fun x18 =>
                (clock_Of (x18.2.2.2.1, x18.2.2.2.2)).bind fun r19 =>
                (clock_Mine ((r19.1, r19.2), (IntKind.wrap .i64 (x.2.2 + 1)))).bind fun r20 =>
                again13 ((IntKind.wrap .i64 (s14.1 - r17)), ((IntKind.wrap .i64 (s14.2.1 - r20)), (IntKind.wrap .i64 (s14.2.2 + 1))))
              else
                if r1 then
                  if (s14.1 == (r4.2.1.length : Int)) then
                    some (s14.2.1 == 0)
                  else
                    some false
                else
                  some false) fuel (s6.1, (s6.2.1, 0))) fuel (0, (0, 0))
noncomputable def ref01_Rows (x : ((List (List UInt8)) × (List (List UInt8)))) : Option Bool :=
  if ((x.1.length : Int) != (x.2.length : Int)) then
    some false
  else
    fixS (S := Int) (R := Bool) (fun again1 s2 =>
      if decide (s2 < (x.1.length : Int)) then
        ixL x.1 s2 fun x3 =>
        ixL x.2 s2 fun x4 =>
        if (!(x3 == x4)) then
          some false
        else
          again1 (IntKind.wrap .i64 (s2 + 1))
      else
        some true) fuel 0
noncomputable def slices_Equal_File (x : ((List ((List UInt8) × (List UInt8))) × (List ((List UInt8) × (List UInt8))))) : Option Bool :=
  if ((x.1.length : Int) != (x.2.length : Int)) then
    some false
  else
    fixS (S := Int) (R := Bool) (fun again1 s2 =>
      if decide (s2 < (x.1.length : Int)) then
        ixL x.1 s2 fun x3 =>
        ixL x.2 s2 fun x4 =>
        if (!((x3.1 == x4.1) && (x3.2 == x4.2))) then
          some false
        else
          again1 (IntKind.wrap .i64 (s2 + 1))
      else
        some true) fuel 0
noncomputable def tree_Same (x : ((List ((List UInt8) × (List UInt8))) × (List ((List UInt8) × (List UInt8))))) : Option Bool :=
  (slices_Equal_File (x.1, x.2)).bind fun r1 =>
  some r1
noncomputable def law09_ScanGone (x : ((List ((List UInt8) × (List UInt8))) × Int)) : Option Bool :=
  (law09_small ()).bind fun r1 =>
  (law04_Few x.1).bind fun r2 =>
  if (!r2) then
    some r1
  else
    (tree_Right x.1).bind fun r3 =>
    if (!r3) then
      some r1
    else
      (scan_Scan ([], (x.1, x.2))).bind fun r4 =>
      (scan_Scan (r4.1, ([], x.2))).bind fun r5 =>
      (scan_Scan (r5.1, (x.1, x.2))).bind fun r6 =>
      if (r4.2.2 != 0) then
        some false
      else
        if (r5.2.2 != 0) then
          some false
        else
          if (r6.2.2 != 0) then
            some false
          else
            if ((r4.1.length : Int) != (x.1.length : Int)) then
              some false
            else
              if ((r5.1.length : Int) != (x.1.length : Int)) then
                some false
              else
                if ((r6.1.length : Int) != (x.1.length : Int)) then
                  some false
                else
                  (scan_Tree r5.1).bind fun r7 =>
                  if ((r7.length : Int) != 0) then
                    some false
                  else
                    fixS (S := Int) (R := Bool) (fun again8 s9 =>
                      if decide (s9 < (x.1.length : Int)) then
                        ixL r5.1 s9 fun x10 =>
                        if x10.2.1 then
                          some false
                        else
                          ixL r5.1 s9 fun x11 =>
                          if (!(x11.2.2.1 == [])) then
                            some false
                          else
                            ixL r5.1 s9 fun x12 =>
                            (clock_Of (x12.2.2.2.1, x12.2.2.2.2)).bind fun r13 =>
                            (clock_Mine ((r13.1, r13.2), x.2)).bind fun r14 =>
                            if (r14 != 2) then
                              some false
                            else
                              ixL r6.1 s9 fun x15 =>
                              (clock_Of (x15.2.2.2.1, x15.2.2.2.2)).bind fun r16 =>
                              (clock_Mine ((r16.1, r16.2), x.2)).bind fun r17 =>
                              if (r17 != 3) then
                                some false
                              else
                                ixL r6.1 s9 fun x18 =>
                                ixL r4.1 s9 fun x19 =>
                                if (!(x18.2.2.1 == x19.2.2.1)) then
                                  some false
                                else
                                  again8 (IntKind.wrap .i64 (s9 + 1))
                      else
                        if r1 then
                          (ref01_Rows (r4.2.1, r5.2.1)).bind fun r20 =>
                          if r20 then
                            (ref01_Rows (r4.2.1, r6.2.1)).bind fun r21 =>
                            if r21 then
                              (scan_Tree r6.1).bind fun r22 =>
                              (tree_Same (r22, x.1)).bind fun r23 =>
                              some r23
                            else
                              some false
                          else
                            some false
                        else
                          some false) fuel 0
noncomputable def path_Sorted (x : (List (List UInt8))) : Option Bool :=
  fixS (S := Int) (R := Bool) (fun again1 s2 =>
    if decide (s2 < (x.length : Int)) then
      ixL x s2 fun x3 =>
      (path_Right x3).bind fun r4 =>
      if (!r4) then
        some false
      else
        if decide (s2 > 0) then
          ixL x (IntKind.wrap .i64 (s2 - 1)) fun x5 =>
          if (Op.bytesLess x3 x5 || x3 == x5) then
            some false
          else
            again1 (IntKind.wrap .i64 (s2 + 1))
        else
          again1 (IntKind.wrap .i64 (s2 + 1))
    else
      some true) fuel 0
noncomputable def clock_Join (x : ((Nat × Nat) × (Nat × Nat))) : Option (Nat × Nat) :=
  (clock_whole (x.1.1, x.1.2)).bind fun r1 =>
  (clock_whole (x.2.1, x.2.2)).bind fun r2 =>
  fmaxF .f64 r1.1 r2.1 fun f3 =>
  fmaxF .f64 r1.2 r2.2 fun f4 =>
  some (f3, f4)
noncomputable def clock_Order (x : ((Nat × Nat) × (Nat × Nat))) : Option Int :=
  (clock_whole (x.1.1, x.1.2)).bind fun r1 =>
  (clock_whole (x.2.1, x.2.2)).bind fun r2 =>
  (clock_Join ((r1.1, r1.2), (r2.1, r2.2))).bind fun r3 =>
  if ((fcmpF .eql .f64 r3.1 r1.1) && (fcmpF .eql .f64 r3.2 r1.2)) then
    if ((fcmpF .eql .f64 r1.1 r2.1) && (fcmpF .eql .f64 r1.2 r2.2)) then
      some 0
    else
      some 2
  else
    if ((fcmpF .eql .f64 r3.1 r2.1) && (fcmpF .eql .f64 r3.2 r2.2)) then
      some 1
    else
      some 3
noncomputable def law09_ScanKeeps (x : ((List ((List UInt8) × (Bool × ((List UInt8) × (Int × Int))))) × ((List ((List UInt8) × (List UInt8))) × (Int × Int)))) : Option Bool :=
  (law09_small ()).bind fun r1 =>
  (law09_Few x.1).bind fun r2 =>
  (law04_Few x.2.1).bind fun r3 =>
  if (!r2) then
    some r1
  else
    if (!r3) then
      some r1
    else
      (scan_Scan (x.1, (x.2.1, x.2.2.1))).bind fun r4 =>
      if (r4.2.2 != 0) then
        if r1 then
          if ((r4.1.length : Int) == 0) then
            some ((r4.2.1.length : Int) == 0)
          else
            some false
        else
          some false
      else
        (scan_Scan (r4.1, (x.2.1, x.2.2.2))).bind fun r5 =>
        (scan_Right r4.1).bind fun r6 =>
        if (!r6) then
          some false
        else
          (scan_Tree r4.1).bind fun r7 =>
          (tree_Same (r7, x.2.1)).bind fun r8 =>
          if (!r8) then
            some false
          else
            if (r5.2.2 != 0) then
              some false
            else
              if ((r5.2.1.length : Int) != 0) then
                some false
              else
                (scan_Same (r4.1, r5.1)).bind fun r9 =>
                if (!r9) then
                  some false
                else
                  (path_Sorted r4.2.1).bind fun r10 =>
                  if (!r10) then
                    some false
                  else
                    fixS (S := Int) (R := Bool) (fun again11 s12 =>
                      if decide (s12 < (r4.1.length : Int)) then
                        fixS (S := (Bool × Int)) (R := Bool) (fun again13 s14 =>
                          if decide (s14.2 < (r4.2.1.length : Int)) then
                            if s14.1 then
                              again13 (true, (IntKind.wrap .i64 (s14.2 + 1)))
                            else
                              ixL r4.2.1 s14.2 fun x15 =>
                              ixL r4.1 s12 fun x16 =>
                              again13 ((x15 == x16.1), (IntKind.wrap .i64 (s14.2 + 1)))
                          else
                            ixL r4.1 s12 fun x17 =>
                            (scan_Find (x.1, x17.1)).bind fun r18 =>
                            if (!s14.1) then
                              if decide (r18 < 0) then
                                some false
                              else
                                ixL x.1 r18 fun x19 =>
                                ixL r4.1 s12 fun x20 =>
                                if (!((x19.1 == x20.1) && ((x19.2.1 == x20.2.1) && ((x19.2.2.1 == x20.2.2.1) && ((x19.2.2.2.1 == x20.2.2.2.1) && (x19.2.2.2.2 == x20.2.2.2.2)))))) then
                                  some false
                                else
                                  if s14.1 then
                                    if decide (r18 ≥ 0) then
                                      ixL x.1 r18 fun x21 =>
                                      ixL r4.1 s12 fun x22 =>
                                      if (x21.2.1 == x22.2.1) then
                                        ixL x.1 r18 fun x23 =>
                                        ixL r4.1 s12 fun x24 =>
                                        if (x23.2.2.1 == x24.2.2.1) then
                                          some false
                                        else
                                          if s14.1 then
                                            if decide (r18 ≥ 0) then
                                              ixL x.1 r18 fun x25 =>
                                              (clock_Of (x25.2.2.2.1, x25.2.2.2.2)).bind fun r26 =>
                                              ixL r4.1 s12 fun x27 =>
                                              (clock_Of (x27.2.2.2.1, x27.2.2.2.2)).bind fun r28 =>
                                              (clock_Order ((r26.1, r26.2), (r28.1, r28.2))).bind fun r29 =>
                                              if (r29 != 1) then
                                                some false
                                              else
                                                again11 (IntKind.wrap .i64 (s12 + 1))
                                            else
                                              again11 (IntKind.wrap .i64 (s12 + 1))
                                          else
                                            again11 (IntKind.wrap .i64 (s12 + 1))
                                      else
                                        if s14.1 then
                                          if decide (r18 ≥ 0) then
                                            ixL x.1 r18 fun x30 =>
                                            (clock_Of (x30.2.2.2.1, x30.2.2.2.2)).bind fun r31 =>
                                            ixL r4.1 s12 fun x32 =>
                                            (clock_Of (x32.2.2.2.1, x32.2.2.2.2)).bind fun r33 =>
                                            (clock_Order ((r31.1, r31.2), (r33.1, r33.2))).bind fun r34 =>
                                            if (r34 != 1) then
                                              some false
                                            else
                                              again11 (IntKind.wrap .i64 (s12 + 1))
                                          else
                                            again11 (IntKind.wrap .i64 (s12 + 1))
                                        else
                                          again11 (IntKind.wrap .i64 (s12 + 1))
                                    else
                                      if s14.1 then
                                        if decide (r18 ≥ 0) then
                                          ixL x.1 r18 fun x35 =>
                                          (clock_Of (x35.2.2.2.1, x35.2.2.2.2)).bind fun r36 =>
                                          ixL r4.1 s12 fun x37 =>
                                          (clock_Of (x37.2.2.2.1, x37.2.2.2.2)).bind fun r38 =>
                                          (clock_Order ((r36.1, r36.2), (r38.1, r38.2))).bind fun r39 =>
                                          if (r39 != 1) then
                                            some false
                                          else
                                            again11 (IntKind.wrap .i64 (s12 + 1))
                                        else
                                          again11 (IntKind.wrap .i64 (s12 + 1))
                                      else
                                        again11 (IntKind.wrap .i64 (s12 + 1))
                                  else
                                    if s14.1 then
                                      if decide (r18 ≥ 0) then
                                        ixL x.1 r18 fun x40 =>
                                        (clock_Of (x40.2.2.2.1, x40.2.2.2.2)).bind fun r41 =>
                                        ixL r4.1 s12 fun x42 =>
                                        (clock_Of (x42.2.2.2.1, x42.2.2.2.2)).bind fun r43 =>
                                        (clock_Order ((r41.1, r41.2), (r43.1, r43.2))).bind fun r44 =>
                                        if (r44 != 1) then
                                          some false
                                        else
                                          again11 (IntKind.wrap .i64 (s12 + 1))
                                      else
                                        again11 (IntKind.wrap .i64 (s12 + 1))
                                    else
                                      again11 (IntKind.wrap .i64 (s12 + 1))
                            else
                              if s14.1 then
                                if decide (r18 ≥ 0) then
                                  ixL x.1 r18 fun x45 =>
                                  ixL r4.1 s12 fun x46 =>
                                  if (x45.2.1 == x46.2.1) then
                                    ixL x.1 r18 fun x47 =>
                                    ixL r4.1 s12 fun x48 =>
                                    if (x47.2.2.1 == x48.2.2.1) then
                                      some false
                                    else
                                      if s14.1 then
                                        if decide (r18 ≥ 0) then
                                          ixL x.1 r18 fun x49 =>
                                          (clock_Of (x49.2.2.2.1, x49.2.2.2.2)).bind fun r50 =>
                                          ixL r4.1 s12 fun x51 =>
                                          (clock_Of (x51.2.2.2.1, x51.2.2.2.2)).bind fun r52 =>
                                          (clock_Order ((r50.1, r50.2), (r52.1, r52.2))).bind fun r53 =>
                                          if (r53 != 1) then
                                            some false
                                          else
                                            again11 (IntKind.wrap .i64 (s12 + 1))
                                        else
                                          again11 (IntKind.wrap .i64 (s12 + 1))
                                      else
                                        again11 (IntKind.wrap .i64 (s12 + 1))
                                  else
                                    if s14.1 then
                                      if decide (r18 ≥ 0) then
                                        ixL x.1 r18 fun x54 =>
                                        (clock_Of (x54.2.2.2.1, x54.2.2.2.2)).bind fun r55 =>
                                        ixL r4.1 s12 fun x56 =>
                                        (clock_Of (x56.2.2.2.1, x56.2.2.2.2)).bind fun r57 =>
                                        (clock_Order ((r55.1, r55.2), (r57.1, r57.2))).bind fun r58 =>
                                        if (r58 != 1) then
                                          some false
                                        else
                                          again11 (IntKind.wrap .i64 (s12 + 1))
                                      else
                                        again11 (IntKind.wrap .i64 (s12 + 1))
                                    else
                                      again11 (IntKind.wrap .i64 (s12 + 1))
                                else
                                  if s14.1 then
                                    if decide (r18 ≥ 0) then
                                      ixL x.1 r18 fun x59 =>
                                      (clock_Of (x59.2.2.2.1, x59.2.2.2.2)).bind fun r60 =>
                                      ixL r4.1 s12 fun x61 =>
                                      (clock_Of (x61.2.2.2.1, x61.2.2.2.2)).bind fun r62 =>
                                      (clock_Order ((r60.1, r60.2), (r62.1, r62.2))).bind fun r63 =>
                                      if (r63 != 1) then
                                        some false
                                      else
                                        again11 (IntKind.wrap .i64 (s12 + 1))
                                    else
                                      again11 (IntKind.wrap .i64 (s12 + 1))
                                  else
                                    again11 (IntKind.wrap .i64 (s12 + 1))
                              else
                                if s14.1 then
                                  if decide (r18 ≥ 0) then
                                    ixL x.1 r18 fun x64 =>
                                    (clock_Of (x64.2.2.2.1, x64.2.2.2.2)).bind fun r65 =>
                                    ixL r4.1 s12 fun x66 =>
                                    (clock_Of (x66.2.2.2.1, x66.2.2.2.2)).bind fun r67 =>
                                    (clock_Order ((r65.1, r65.2), (r67.1, r67.2))).bind fun r68 =>
                                    if (r68 != 1) then
                                      some false
                                    else
                                      again11 (IntKind.wrap .i64 (s12 + 1))
                                  else
                                    again11 (IntKind.wrap .i64 (s12 + 1))
                                else
                                  again11 (IntKind.wrap .i64 (s12 + 1))) fuel (false, 0)
                      else
                        if r1 then
                          some (decide ((r4.1.length : Int) ≥ (x.1.length : Int)))
                        else
                          some false) fuel 0
end Go.Proofs.W.Q9

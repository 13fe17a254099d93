/- The document's answers of layer 11: what is left of them, once memory is out of sight. -/
import Derived.Test.YtboeaelijjamoaaGreatDoorK34
namespace Go.Proofs.W.Q11
open Go Go.Proofs.V Go.Proofs.W.Q9 Go.Proofs.W.Q10
set_option linter.unusedVariables false
set_option linter.unusedSimpArgs false
noncomputable def ref04_Drop (x : ((List ((List UInt8) × (List UInt8))) × (List UInt8))) : Option ((List ((List UInt8) × (List UInt8))) × Int) :=
  (ref04_Right x.1).bind fun r1 =>
  if (!r1) then
    some ([], 1)
  else
    (ref04_find (x.1, x.2)).bind fun r2 =>
    if decide (r2 < 0) then
      some ([], 3)
    else
      cutL x.1 0 r2 fun y3 =>
      if (fitsB 32 (([] ++ y3).length : Int)) then
        cutL x.1 (IntKind.wrap .i64 (r2 + 1)) (x.1.length : Int) fun y4 =>
        if (fitsB 32 ((([] ++ y3) ++ y4).length : Int)) then
          some ((([] ++ y3) ++ y4), 0)
        else none
      else none
noncomputable def ref04_PutW (x : ((List ((List UInt8) × (List UInt8))) × ((List UInt8) × (List UInt8)))) : Option ((List ((List UInt8) × (List UInt8))) × Int) :=
  (ref04_Right x.1).bind fun r1 =>
  if (!r1) then
    some ([], 1)
  else
    (ref03_Right x.2.1).bind fun r2 =>
    if (!r2) then
      some ([], 6)
    else
      fixS (S := Int) (R := ((List ((List UInt8) × (List UInt8))) × Int)) (fun again3 s4 =>
        if decide (s4 < (x.1.length : Int)) then
          ixL x.1 s4 fun x5 =>
          (ref03_Under (x.2.1, x5.1)).bind fun r6 =>
          if r6 then
            some ([], 6)
          else
            ixL x.1 s4 fun x7 =>
            (ref03_Under (x7.1, x.2.1)).bind fun r8 =>
            if r8 then
              some ([], 6)
            else
              again3 (IntKind.wrap .i64 (s4 + 1))
        else
          (ref04_find (x.1, x.2.1)).bind fun r9 =>
          if decide ((x.2.2.length : Int) > 600) then
            some ([], 2)
          else
            if decide (r9 < 0) then
              if decide ((x.1.length : Int) ≥ 16) then
                some ([], 2)
              else
                if (fitsB 32 (([] ++ x.1).length : Int)) then
                  if decide (r9 ≥ 0) then
                    ixL ([] ++ x.1) r9 fun x10 =>
                    none
                  else
                    fixS (S := Int) (R := ((List ((List UInt8) × (List UInt8))) × Int)) (fun again11 s12 =>
                      if decide (s12 < (x.1.length : Int)) then
                        ixL x.1 s12 fun x13 =>
                        if (Op.bytesLess x13.1 x.2.1) then
                          again11 (IntKind.wrap .i64 (s12 + 1))
                        else
                          cutL x.1 0 s12 fun y14 =>
                          if (fitsB 32 (([] ++ y14).length : Int)) then
                            if (fitsB 32 ((([] ++ y14) ++ [(x.2.1, x.2.2)]).length : Int)) then
                              cutL x.1 s12 (x.1.length : Int) fun y15 =>
                              if (fitsB 32 (((([] ++ y14) ++ [(x.2.1, x.2.2)]) ++ y15).length : Int)) then
                                some (((([] ++ y14) ++ [(x.2.1, x.2.2)]) ++ y15), 0)
                              else none
                            else none
                          else none
                      else
                        cutL x.1 0 s12 fun y16 =>
                        if (fitsB 32 (([] ++ y16).length : Int)) then
                          if (fitsB 32 ((([] ++ y16) ++ [(x.2.1, x.2.2)]).length : Int)) then
                            cutL x.1 s12 (x.1.length : Int) fun y17 =>
                            if (fitsB 32 (((([] ++ y16) ++ [(x.2.1, x.2.2)]) ++ y17).length : Int)) then
                              some (((([] ++ y16) ++ [(x.2.1, x.2.2)]) ++ y17), 0)
                            else none
                          else none
                        else none) fuel 0
                else none
            else
              if (fitsB 32 (([] ++ x.1).length : Int)) then
                if decide (r9 ≥ 0) then
                  ixL ([] ++ x.1) r9 fun x18 =>
                  none
                else
                  fixS (S := Int) (R := ((List ((List UInt8) × (List UInt8))) × Int)) (fun again19 s20 =>
                    if decide (s20 < (x.1.length : Int)) then
                      ixL x.1 s20 fun x21 =>
                      if (Op.bytesLess x21.1 x.2.1) then
                        again19 (IntKind.wrap .i64 (s20 + 1))
                      else
                        cutL x.1 0 s20 fun y22 =>
                        if (fitsB 32 (([] ++ y22).length : Int)) then
                          if (fitsB 32 ((([] ++ y22) ++ [(x.2.1, x.2.2)]).length : Int)) then
                            cutL x.1 s20 (x.1.length : Int) fun y23 =>
                            if (fitsB 32 (((([] ++ y22) ++ [(x.2.1, x.2.2)]) ++ y23).length : Int)) then
                              some (((([] ++ y22) ++ [(x.2.1, x.2.2)]) ++ y23), 0)
                            else none
                          else none
                        else none
                    else
                      cutL x.1 0 s20 fun y24 =>
                      if (fitsB 32 (([] ++ y24).length : Int)) then
                        if (fitsB 32 ((([] ++ y24) ++ [(x.2.1, x.2.2)]).length : Int)) then
                          cutL x.1 s20 (x.1.length : Int) fun y25 =>
                          if (fitsB 32 (((([] ++ y24) ++ [(x.2.1, x.2.2)]) ++ y25).length : Int)) then
                            some (((([] ++ y24) ++ [(x.2.1, x.2.2)]) ++ y25), 0)
                          else none
                        else none
                      else none) fuel 0
              else none) fuel 0
open Classical in
/-- ref04.Put where the path stands already (an element is written). -/
noncomputable def ref04_PutF (x : List FiP × (List UInt8 × List UInt8)) : Option (List FiP × Int) :=
  match ref04_find (x.1, x.2.1) with
  | some k => if h : (Q10.ref04_Right x.1 = some true ∧ Q10.ref03_Right x.2.1 = some true ∧ (∀ g ∈ x.1, Q10.ref03_Under (x.2.1, g.1) = some false ∧ Q10.ref03_Under (g.1, x.2.1) = some false)) ∧ 0 ≤ k ∧ x.1.length ≤ 1000 ∧ x.2.2.length ≤ 600 ∧ k.toNat < x.1.length then some (x.1.set k.toNat ((x.1[k.toNat]'(h.2.2.2.2)).1, x.2.2), 0) else none
  | none => none
/-- ref04.Put. -/
noncomputable def ref04_Put (x : List FiP × (List UInt8 × List UInt8)) : Option (List FiP × Int) :=
  match ref04_PutW x with
  | some y => some y
  | none => ref04_PutF x
noncomputable def ref04_Size (x : (List ((List UInt8) × (List UInt8)))) : Option Int :=
  fixS (S := (Int × Int)) (R := Int) (fun again1 s2 =>
    if decide (s2.2 < (x.length : Int)) then
      ixL x s2.2 fun x3 =>
      again1 ((IntKind.wrap .i64 (s2.1 + (x3.2.length : Int))), (IntKind.wrap .i64 (s2.2 + 1)))
    else
      some s2.1) fuel (0, 0)
noncomputable def ref11_Paths (x : (List ((List UInt8) × (Bool × (List UInt8))))) : Option (List (List UInt8)) :=
  fixS (S := ((List (List UInt8)) × Int)) (R := (List (List UInt8))) (fun again1 s2 =>
    if decide (s2.2 < (x.length : Int)) then
      fixS (S := Int) (R := (List (List UInt8))) (fun again3 s4 =>
        if decide (s4 < (s2.1.length : Int)) then
          ixL s2.1 s4 fun x5 =>
          ixL x s2.2 fun x6 =>
          if (Op.bytesLess x5 x6.1) then
            again3 (IntKind.wrap .i64 (s4 + 1))
          else
            if (s4 == (s2.1.length : Int)) then
              cutL s2.1 0 s4 fun y7 =>
              if (fitsB 16 (([] ++ y7).length : Int)) then
                ixL x s2.2 fun x8 =>
                if (fitsB 16 ((([] ++ y7) ++ [x8.1]).length : Int)) then
                  cutL s2.1 s4 (s2.1.length : Int) fun y9 =>
                  if (fitsB 16 (((([] ++ y7) ++ [x8.1]) ++ y9).length : Int)) then
                    again1 (((([] ++ y7) ++ [x8.1]) ++ y9), (IntKind.wrap .i64 (s2.2 + 1)))
                  else none
                else none
              else none
            else
              ixL s2.1 s4 fun x10 =>
              ixL x s2.2 fun x11 =>
              if (!(x10 == x11.1)) then
                cutL s2.1 0 s4 fun y12 =>
                if (fitsB 16 (([] ++ y12).length : Int)) then
                  ixL x s2.2 fun x13 =>
                  if (fitsB 16 ((([] ++ y12) ++ [x13.1]).length : Int)) then
                    cutL s2.1 s4 (s2.1.length : Int) fun y14 =>
                    if (fitsB 16 (((([] ++ y12) ++ [x13.1]) ++ y14).length : Int)) then
                      again1 (((([] ++ y12) ++ [x13.1]) ++ y14), (IntKind.wrap .i64 (s2.2 + 1)))
                    else none
                  else none
                else none
              else
                again1 (s2.1, (IntKind.wrap .i64 (s2.2 + 1)))
        else
          if (s4 == (s2.1.length : Int)) then
            cutL s2.1 0 s4 fun y15 =>
            if (fitsB 16 (([] ++ y15).length : Int)) then
              ixL x s2.2 fun x16 =>
              if (fitsB 16 ((([] ++ y15) ++ [x16.1]).length : Int)) then
                cutL s2.1 s4 (s2.1.length : Int) fun y17 =>
                if (fitsB 16 (((([] ++ y15) ++ [x16.1]) ++ y17).length : Int)) then
                  again1 (((([] ++ y15) ++ [x16.1]) ++ y17), (IntKind.wrap .i64 (s2.2 + 1)))
                else none
              else none
            else none
          else
            ixL s2.1 s4 fun x18 =>
            ixL x s2.2 fun x19 =>
            if (!(x18 == x19.1)) then
              cutL s2.1 0 s4 fun y20 =>
              if (fitsB 16 (([] ++ y20).length : Int)) then
                ixL x s2.2 fun x21 =>
                if (fitsB 16 ((([] ++ y20) ++ [x21.1]).length : Int)) then
                  cutL s2.1 s4 (s2.1.length : Int) fun y22 =>
                  if (fitsB 16 (((([] ++ y20) ++ [x21.1]) ++ y22).length : Int)) then
                    again1 (((([] ++ y20) ++ [x21.1]) ++ y22), (IntKind.wrap .i64 (s2.2 + 1)))
                  else none
                else none
              else none
            else
              again1 (s2.1, (IntKind.wrap .i64 (s2.2 + 1)))) fuel 0
    else
      some s2.1) fuel ([], 0)
noncomputable def ref11_Net (x : (List ((List UInt8) × (Bool × (List UInt8))))) : Option (List ((List UInt8) × (Bool × (List UInt8)))) :=
  (ref11_Paths x).bind fun r1 =>
  fixS (S := ((List ((List UInt8) × (Bool × (List UInt8)))) × ((List ((List UInt8) × (Bool × (List UInt8)))) × Int))) (R := (List ((List UInt8) × (Bool × (List UInt8))))) (fun again2 s3 =>
    if decide (s3.2.2 < (r1.length : Int)) then
      fixS (S := ((List ((List UInt8) × (Bool × (List UInt8)))) × ((List ((List UInt8) × (Bool × (List UInt8)))) × ((List UInt8) × (Bool × ((List UInt8) × Int)))))) (R := (List ((List UInt8) × (Bool × (List UInt8))))) (fun again4 s5 =>
        if decide (s5.2.2.2.2.2 < (x.length : Int)) then
          ixL x s5.2.2.2.2.2 fun x6 =>
          ixL r1 s3.2.2 fun x7 =>
          if (x6.1 == x7) then
            ixL x s5.2.2.2.2.2 fun x8 =>
            again4 (s5.1, (s5.2.1, (x8.1, (x8.2.1, (x8.2.2, (IntKind.wrap .i64 (s5.2.2.2.2.2 + 1)))))))
          else
            again4 (s5.1, (s5.2.1, (s5.2.2.1, (s5.2.2.2.1, (s5.2.2.2.2.1, (IntKind.wrap .i64 (s5.2.2.2.2.2 + 1)))))))
        else
          if s5.2.2.2.1 then
            if (fitsB 40 ((s5.2.1 ++ [(s5.2.2.1, (s5.2.2.2.1, s5.2.2.2.2.1))]).length : Int)) then
              again2 (s5.1, ((s5.2.1 ++ [(s5.2.2.1, (s5.2.2.2.1, s5.2.2.2.2.1))]), (IntKind.wrap .i64 (s3.2.2 + 1))))
            else none
          else
            if (fitsB 40 ((s5.1 ++ [(s5.2.2.1, (s5.2.2.2.1, s5.2.2.2.2.1))]).length : Int)) then
              again2 ((s5.1 ++ [(s5.2.2.1, (s5.2.2.2.1, s5.2.2.2.2.1))]), (s5.2.1, (IntKind.wrap .i64 (s3.2.2 + 1))))
            else none) fuel (s3.1, (s3.2.1, ([], (false, ([], 0)))))
    else
      if (fitsB 40 ((s3.1 ++ s3.2.1).length : Int)) then
        some (s3.1 ++ s3.2.1)
      else none) fuel ([], ([], 0))
noncomputable def ref11_Undo (x : ((List ((List UInt8) × (List UInt8))) × (List ((List UInt8) × (Bool × (List UInt8)))))) : Option (List ((List UInt8) × (Bool × (List UInt8)))) :=
  (ref04_Right x.1).bind fun r1 =>
  if (!r1) then
    some []
  else
    (ref11_Paths x.2).bind fun r2 =>
    fixS (S := ((List ((List UInt8) × (Bool × (List UInt8)))) × Int)) (R := (List ((List UInt8) × (Bool × (List UInt8))))) (fun again3 s4 =>
      if decide (s4.2 < (r2.length : Int)) then
        ixL r2 s4.2 fun x5 =>
        (ref04_Get (x.1, x5)).bind fun r6 =>
        ixL r2 s4.2 fun x7 =>
        if (fitsB 40 ((s4.1 ++ [(x7, (r6.2, r6.1))]).length : Int)) then
          again3 ((s4.1 ++ [(x7, (r6.2, r6.1))]), (IntKind.wrap .i64 (s4.2 + 1)))
        else none
      else
        (ref11_Net s4.1).bind fun r8 =>
        some r8) fuel ([], 0)
noncomputable def ref11_Do (x : ((List ((List UInt8) × (List UInt8))) × ((List ((List UInt8) × (Bool × (List UInt8)))) × Int))) : Option ((List ((List UInt8) × (List UInt8))) × Int) :=
  (ref04_Right x.1).bind fun r1 =>
  if (!r1) then
    some ([], 1)
  else
    fixS (S := ((List ((List UInt8) × (List UInt8))) × Int)) (R := ((List ((List UInt8) × (List UInt8))) × Int)) (fun again2 s3 =>
      if decide (s3.2 < (x.2.1.length : Int)) then
        ixL x.2.1 s3.2 fun x4 =>
        (ref04_Drop (s3.1, x4.1)).bind fun r5 =>
        ixL x.2.1 s3.2 fun x6 =>
        if x6.2.1 then
          ixL x.2.1 s3.2 fun x7 =>
          ixL x.2.1 s3.2 fun x8 =>
          (ref04_Put (s3.1, (x7.1, x8.2.2))).bind fun r9 =>
          if (r9.2 != 0) then
            some ([], r9.2)
          else
            again2 (r9.1, (IntKind.wrap .i64 (s3.2 + 1)))
        else
          if (r5.2 != 0) then
            some ([], r5.2)
          else
            again2 (r5.1, (IntKind.wrap .i64 (s3.2 + 1)))
      else
        (ref04_Size s3.1).bind fun r10 =>
        if decide (r10 > x.2.2) then
          some ([], 2)
        else
          if (fitsB 32 (([] ++ s3.1).length : Int)) then
            some (([] ++ s3.1), 0)
          else none) fuel (x.1, 0)
end Go.Proofs.W.Q11

/- Part 9 of the claim RuleBack: GD, V7, GE, V8, GF, V9, V10, V11, V12, V13, V14 -/
import Derived.Test.YtaamhddpmbombaaGreatProg
import Derived.Test.YtaamhddpmbombaaGreatW7
import Derived.Test.YtaamhddpmbombaaGreatW8
set_option linter.unusedSimpArgs false
set_option linter.unusedVariables false
set_option linter.defProp false
set_option maxRecDepth 100000
set_option maxHeartbeats 0
set_option linter.unusedVariables false
namespace Go.Sim
open Go.Proofs
noncomputable def yH (x0 : Int) : Option Bool :=
 bif decide ((1 : Int) ≤ x0) then
  some (decide (x0 ≤ (512 : Int)))
 else some Bool.false
noncomputable def X0 : TEnt := ⟨84, .int .i64, [], [(.bool, [])], fun s => yH s⟩
theorem UC : qz Tryz.prog X0 := qj (tab := []) (loops := []) (joins := []) (un := []) _ (by intro e he; simp at he) (fun s => by kernel_rfl) (by kernel_rfl)
noncomputable def zY (x4 : Y4_) (x5 : Y4_) (x6 : (List Y0_)) : Option ((Y4_ × je) ⊕ (Unit ⊕ je)) :=
 bif decide (x4.2.2 < x4.2.1) then
  Option.bind (QK x4.1) fun x7 =>
   bif decide ((1 : Nat) = (1 : Nat)) then
    bif decide (x6.length = x6.length ∧ x6.length + (1 : Nat) ≤ (5864062014805 : Nat)) then
     bif decide (x6.length + (1 : Nat) = (x6 ++ [x7]).length) then
      some (Sum.inl ((x4.1, (x4.2.1, (Go.IntKind.i64.wrap (x4.2.2 + (1 : Int))))), ((x5.1, (x5.2.1, x5.2.2)), (x6 ++ [x7]))))
     else none
    else none
   else none
 else bif decide (x6.length = x6.length) then
   some (Sum.inr (Sum.inr ((x5.1, (x5.2.1, x5.2.2)), x6)))
  else none
noncomputable def Yg : (Y4_ × je) → Option (Unit ⊕ je) := z3 fun s => zY s.1 s.2.1 s.2.2
noncomputable def wc (x0 : Int) (x1 : Int) : Option (Unit ⊕ je) :=
 Option.bind (yH x0) fun x2 =>
  bif !x2 then
   some (Sum.inl ())
  else Option.bind (yH x1) fun x3 =>
    bif !x3 then
     some (Sum.inl ())
    else Option.bind (Yg ((x1, (x0, ((0 : Int)))), ((((0 : Int)), (((0 : Int)), x1)), []))) fun x4 =>
      some x4
noncomputable def KD : TEnt := ⟨44, .cons (.int .i64) (.int .i64), [], [(.tup (.cons (.cst (.pointer none)) (.cst (.int .i64 11))), []), (.tup (.cons (.ptr 0 0) (.cst (.int .i64 0))), [.st Y3_, .li (.sl Y1_) 104 false])], fun s => wc s.1 s.2⟩
theorem ZF : qz Tryz.prog KD := qj (tab := [v4, X0]) (loops := [(299594, [1, 6, 18, 19], (.cons (.int .i64) (.cons (.ptr 0 0) Y7_)), [.st Y3_, .li (.sl Y1_) 104 false])]) (joins := []) (un := []) _ (by
  intro e he
  simp only [List.mem_cons, List.not_mem_nil, or_false] at he
  rcases he with rfl | rfl
  ·exact Ys
  ·exact UC) (fun s => by kernel_rfl) (by kernel_rfl)
noncomputable def z9 (x0 : Y4_) (x1 : (List Y0_)) : Option (Int × je) :=
 bif decide (x1.length = x1.length) then
  bif decide (x1.length = x1.length) then
   some (((↑x1.length : Int)), ((x0.1, (x0.2.1, x0.2.2)), x1))
  else none
 else none
noncomputable def Xe : TEnt := ⟨18, .ptr 0 0, [.st Y3_, .li (.sl Y1_) 104 false], [(.int .i64, [.st Y3_, .li (.sl Y1_) 104 false])], fun s => z9 s.1 s.2⟩
theorem uR : qz Tryz.prog Xe := qj (tab := []) (loops := []) (joins := []) (un := []) _ (by intro e he; simp at he) (fun s => by kernel_rfl) (by kernel_rfl)
noncomputable def zm (x0 : Y4_) (x1 : (List Y0_)) : Option (Int × je) :=
 bif decide (x1.length = x1.length) then
  some (x0.2.2, ((x0.1, (x0.2.1, x0.2.2)), x1))
 else none
noncomputable def JD : TEnt := ⟨19, .ptr 0 0, [.st Y3_, .li (.sl Y1_) 104 false], [(.int .i64, [.st Y3_, .li (.sl Y1_) 104 false])], fun s => zm s.1 s.2⟩
theorem Wv : qz Tryz.prog JD := qj (tab := []) (loops := []) (joins := []) (un := []) _ (by intro e he; simp at he) (fun s => by kernel_rfl) (by kernel_rfl)
noncomputable def z7 (x0 : Y4_) (x1 : (List Y0_)) : Option (Int × je) :=
 bif decide (x1.length = x1.length) then
  some (x0.1, ((x0.1, (x0.2.1, x0.2.2)), x1))
 else none
noncomputable def KI : TEnt := ⟨22, .ptr 0 0, [.st Y3_, .li (.sl Y1_) 104 false], [(.int .i64, [.st Y3_, .li (.sl Y1_) 104 false])], fun s => z7 s.1 s.2⟩
theorem Zz : qz Tryz.prog KI := qj (tab := []) (loops := []) (joins := []) (un := []) _ (by intro e he; simp at he) (fun s => by kernel_rfl) (by kernel_rfl)
noncomputable def qM (x0 : Y4_) (x1 : (List Y0_)) : Option (Int × je) :=
 bif decide (x1.length = x1.length) then
  some (x0.2.1, ((x0.1, (x0.2.1, x0.2.2)), x1))
 else none
noncomputable def QO : TEnt := ⟨23, .ptr 0 0, [.st Y3_, .li (.sl Y1_) 104 false], [(.int .i64, [.st Y3_, .li (.sl Y1_) 104 false])], fun s => qM s.1 s.2⟩
theorem yx : qz Tryz.prog QO := qj (tab := []) (loops := []) (joins := []) (un := []) _ (by intro e he; simp at he) (fun s => by kernel_rfl) (by kernel_rfl)
noncomputable def yb (x0 : (Int × Int)) (x1 : Y4_) (x2 : (List Y0_)) : Option ((Ws × Bool) × je) :=
 bif decide ((0 : Int) ≤ x0.1) then
  bif decide (x2.length = x2.length) then
   bif !decide (x0.1 < (↑x2.length : Int)) then
    bif decide (x2.length = x2.length) then
     some (((((0 : Int)), (((0 : Int)), (((0 : Int)), (((0 : Int)), (((0 : Int)), (((0 : Int)), ((0 : Int)))))))), Bool.false), ((x1.1, (x1.2.1, x1.2.2)), x2))
    else none
   else bif decide (x0.2 < (0 : Int)) then
     bif decide (x2.length = x2.length) then
      some (((((0 : Int)), (((0 : Int)), (((0 : Int)), (((0 : Int)), (((0 : Int)), (((0 : Int)), ((0 : Int)))))))), Bool.false), ((x1.1, (x1.2.1, x1.2.2)), x2))
     else none
    else bif decide (x1.2.2 ≤ x0.2) then
      bif decide (x2.length = x2.length) then
       some (((((0 : Int)), (((0 : Int)), (((0 : Int)), (((0 : Int)), (((0 : Int)), (((0 : Int)), ((0 : Int)))))))), Bool.false), ((x1.1, (x1.2.1, x1.2.2)), x2))
      else none
     else bif decide ((0 : Int) ≤ x0.1) then
       bif decide (x0.1.toNat < x2.length ∧ x2.length = x2.length) then
        bif decide (x2.length = x2.length) then
         Option.bind (x2[x0.1.toNat]?) fun x3 =>
          bif decide ((0 : Int) ≤ x0.2) then
           Option.bind (x3[x0.2.toNat]?) fun x4 =>
            bif decide (x2.length = x2.length) then
             some (((x4.1, (x4.2.1.1, (x4.2.1.2, (x4.2.2.1, (x4.2.2.2.1, (x4.2.2.2.2.1, x4.2.2.2.2.2)))))), Bool.true), ((x1.1, (x1.2.1, x1.2.2)), x2))
            else none
          else none
        else none
       else none
      else none
  else none
 else bif decide (x2.length = x2.length) then
   some (((((0 : Int)), (((0 : Int)), (((0 : Int)), (((0 : Int)), (((0 : Int)), (((0 : Int)), ((0 : Int)))))))), Bool.false), ((x1.1, (x1.2.1, x1.2.2)), x2))
  else none
noncomputable def Vv : TEnt := ⟨48, .cons (.ptr 0 0) Y7_, [.st Y3_, .li (.sl Y1_) 104 false], [(.tup (.cons (.agg Xr) .bool), [.st Y3_, .li (.sl Y1_) 104 false])], fun s => yb s.1 s.2.1 s.2.2⟩
theorem Vn : qz Tryz.prog Vv := qj (tab := []) (loops := []) (joins := []) (un := []) _ (by intro e he; simp at he) (fun s => by kernel_rfl) (by kernel_rfl)
noncomputable def JL (x0 : Int) (x1 : Y4_) (x2 : (List Y0_)) : Option (Y0_ × je) :=
 bif decide ((0 : Int) ≤ x0) then
  bif decide (x2.length = x2.length) then
   bif !decide (x0 < (↑x2.length : Int)) then
    bif decide (x2.length = x2.length) then
     some ([], ((x1.1, (x1.2.1, x1.2.2)), x2))
    else none
   else bif decide ((0 : Int) ≤ x0) then
     bif decide (Int.toNat x0 < x2.length ∧ x2.length = x2.length) then
      bif decide (x2.length = x2.length) then
       Option.bind (x2[Int.toNat x0]?) fun x3 =>
        Option.bind (qL x3) fun x4 =>
         bif decide (x2.length = x2.length) then
          bif decide (List.length x4 = List.length x4) then
           some (x4, ((x1.1, (x1.2.1, x1.2.2)), x2))
          else none
         else none
      else none
     else none
    else none
  else none
 else bif decide (x2.length = x2.length) then
   some ([], ((x1.1, (x1.2.1, x1.2.2)), x2))
  else none
noncomputable def QN (x0 : (Int × (Int × Ws))) (x1 : Y4_) (x2 : (List Y0_)) : Option (Bool × je) :=
 bif decide ((0 : Int) ≤ x0.1) then
  bif decide (x2.length = x2.length) then
   bif !decide (x0.1 < (↑x2.length : Int)) then
    bif decide (x2.length = x2.length) then
     some (Bool.false, ((x1.1, (x1.2.1, x1.2.2)), x2))
    else none
   else bif decide ((0 : Int) ≤ x0.1) then
     bif decide (x0.1.toNat < x2.length ∧ x2.length = x2.length) then
      bif decide (x2.length = x2.length) then
       Option.bind (x2[x0.1.toNat]?) fun x3 =>
        Option.bind (KF x3 x0.2.1 x0.2.2.1 x0.2.2.2.1 x0.2.2.2.2.1 x0.2.2.2.2.2.1 x0.2.2.2.2.2.2.1 x0.2.2.2.2.2.2.2.1 x0.2.2.2.2.2.2.2.2) fun x4 =>
         bif x4.2 then
          bif decide ((0 : Int) ≤ x0.1) then
           bif decide (x0.1.toNat < x2.length ∧ x2.length = x2.length) then
            bif decide (x2.length = x2.length) then
             Option.bind (x2[x0.1.toNat]?) fun x5 =>
              bif decide (x2.length = (x2.set x0.1.toNat x4.1).length) then
               some (x4.2, ((x1.1, (x1.2.1, x1.2.2)), (x2.set x0.1.toNat x4.1)))
              else none
            else none
           else none
          else none
         else bif decide (x2.length = x2.length) then
           some (x4.2, ((x1.1, (x1.2.1, x1.2.2)), x2))
          else none
      else none
     else none
    else none
  else none
 else bif decide (x2.length = x2.length) then
   some (Bool.false, ((x1.1, (x1.2.1, x1.2.2)), x2))
  else none
noncomputable def Kf : TEnt := ⟨51, .cons (.ptr 0 0) (.cons (.int .i64) (.cons (.int .i64) (.agg Xr))), [.st Y3_, .li (.sl Y1_) 104 false], [(.bool, [.st Y3_, .li (.sl Y1_) 104 false])], fun s => QN s.1 s.2.1 s.2.2⟩
theorem ZC : qz Tryz.prog Kf := qj (tab := [U3]) (loops := []) (joins := []) (un := []) _ (by
  intro e he
  simp only [List.mem_cons, List.not_mem_nil, or_false] at he
  rcases he with rfl
  ·exact a0i) (fun s => by kernel_rfl) (by kernel_rfl)
noncomputable def Z4 (x0 : Y4_) (x1 : Y4_) (x2 : (List Y0_)) : Option (Bool × je) :=
 bif decide ((0 : Int) ≤ x0.1) then
  bif decide (x2.length = x2.length) then
   bif !decide (x0.1 < (↑x2.length : Int)) then
    bif decide (x2.length = x2.length) then
     some (Bool.false, ((x1.1, (x1.2.1, x1.2.2)), x2))
    else none
   else bif decide ((0 : Int) ≤ x0.1) then
     bif decide (x0.1.toNat < x2.length ∧ x2.length = x2.length) then
      bif decide (x2.length = x2.length) then
       Option.bind (x2[x0.1.toNat]?) fun x3 =>
        Option.bind (Zl x3 x0.2.1 x0.2.2) fun x4 =>
         bif x4.2 then
          bif decide ((0 : Int) ≤ x0.1) then
           bif decide (x0.1.toNat < x2.length ∧ x2.length = x2.length) then
            bif decide (x2.length = x2.length) then
             Option.bind (x2[x0.1.toNat]?) fun x5 =>
              bif decide (x2.length = (x2.set x0.1.toNat x4.1).length) then
               some (x4.2, ((x1.1, (x1.2.1, x1.2.2)), (x2.set x0.1.toNat x4.1)))
              else none
            else none
           else none
          else none
         else bif decide (x2.length = x2.length) then
           some (x4.2, ((x1.1, (x1.2.1, x1.2.2)), x2))
          else none
      else none
     else none
    else none
  else none
 else bif decide (x2.length = x2.length) then
   some (Bool.false, ((x1.1, (x1.2.1, x1.2.2)), x2))
  else none
noncomputable def xV : TEnt := ⟨88, .cons (.ptr 0 0) (.cons (.int .i64) a5U), [.st Y3_, .li (.sl Y1_) 104 false], [(.bool, [.st Y3_, .li (.sl Y1_) 104 false])], fun s => Z4 s.1 s.2.1 s.2.2⟩
theorem UA : qz Tryz.prog xV := qj (tab := [xN]) (loops := []) (joins := []) (un := []) _ (by
  intro e he
  simp only [List.mem_cons, List.not_mem_nil, or_false] at he
  rcases he with rfl
  ·exact Ul) (fun s => by kernel_rfl) (by kernel_rfl)
noncomputable def Qb (x0 : (Int × (Int × (Int × Y4_)))) (x1 : Y4_) (x2 : (List Y0_)) : Option je :=
 bif decide ((0 : Int) ≤ x0.1) then
  bif decide (x2.length = x2.length) then
   bif !decide (x0.1 < (↑x2.length : Int)) then
    bif decide (x2.length = x2.length) then
     some ((x1.1, (x1.2.1, x1.2.2)), x2)
    else none
   else bif decide ((0 : Int) ≤ x0.1) then
     bif decide (x0.1.toNat < x2.length ∧ x2.length = x2.length) then
      bif decide (x2.length = x2.length) then
       Option.bind (x2[x0.1.toNat]?) fun x3 =>
        Option.bind (wz x3 x0.2.1 x0.2.2.1 x0.2.2.2.1 x0.2.2.2.2.1 x0.2.2.2.2.2) fun x4 =>
         Option.bind (wi x0.2.2.2.1 x0.2.2.2.2.1 x0.2.2.2.2.2) fun x5 =>
          bif x5 then
           bif decide ((0 : Int) ≤ x0.1) then
            bif decide (x0.1.toNat < x2.length ∧ x2.length = x2.length) then
             bif decide (x2.length = x2.length) then
              Option.bind (x2[x0.1.toNat]?) fun x6 =>
               bif decide (x2.length = (x2.set x0.1.toNat x4).length) then
                some ((x1.1, (x1.2.1, x1.2.2)), (x2.set x0.1.toNat x4))
               else none
             else none
            else none
           else none
          else bif decide (x2.length = x2.length) then
            some ((x1.1, (x1.2.1, x1.2.2)), x2)
           else none
      else none
     else none
    else none
  else none
 else bif decide (x2.length = x2.length) then
   some ((x1.1, (x1.2.1, x1.2.2)), x2)
  else none
noncomputable def vo : TEnt := ⟨89, .cons (.ptr 0 0) (.cons (.int .i64) afp), [.st Y3_, .li (.sl Y1_) 104 false], [(.tup .nil, [.st Y3_, .li (.sl Y1_) 104 false])], fun s => Qb s.1 s.2.1 s.2.2⟩
theorem Xo : qz Tryz.prog vo := qj (tab := [QX, KE]) (loops := []) (joins := []) (un := []) _ (by
  intro e he
  simp only [List.mem_cons, List.not_mem_nil, or_false] at he
  rcases he with rfl | rfl
  ·exact QM
  ·exact J6) (fun s => by kernel_rfl) (by kernel_rfl)
noncomputable def Kk (x0 : (Int × Y0_)) (x1 : Y4_) (x2 : (List Y0_)) : Option (Bool × je) :=
 bif decide ((0 : Int) ≤ x0.1) then
  bif decide (x2.length = x2.length) then
   bif !decide (x0.1 < (↑x2.length : Int)) then
    bif decide (x2.length = x2.length) then
     some (Bool.false, ((x1.1, (x1.2.1, x1.2.2)), x2))
    else none
   else bif decide ((0 : Int) ≤ x0.1) then
     bif decide (x0.1.toNat < x2.length ∧ x2.length = x2.length) then
      bif decide (x2.length = x2.length) then
       Option.bind (x2[x0.1.toNat]?) fun x3 =>
        Option.bind (qL x0.2) fun x4 =>
         bif (↑x0.2.length : Int) == x1.2.2 then
          Option.bind (wy x0.2) fun x5 =>
           bif x5 then
            bif decide ((0 : Int) ≤ x0.1) then
             bif decide (x0.1.toNat < x2.length ∧ x2.length = x2.length) then
              bif decide (x2.length = x2.length) then
               Option.bind (x2[x0.1.toNat]?) fun x6 =>
                bif decide (List.length x4 = List.length x4) then
                 bif decide (x2.length = (x2.set x0.1.toNat x4).length) then
                  some (x5, ((x1.1, (x1.2.1, x1.2.2)), (x2.set x0.1.toNat x4)))
                 else none
                else none
              else none
             else none
            else none
           else bif decide (x2.length = x2.length) then
             some (x5, ((x1.1, (x1.2.1, x1.2.2)), x2))
            else none
         else bif decide (x2.length = x2.length) then
           some (Bool.false, ((x1.1, (x1.2.1, x1.2.2)), x2))
          else none
      else none
     else none
    else none
  else none
 else bif decide (x2.length = x2.length) then
   some (Bool.false, ((x1.1, (x1.2.1, x1.2.2)), x2))
  else none
noncomputable def uw : TEnt := ⟨94, .cons (.ptr 0 0) (.cons (.int .i64) (.sl Y1_)), [.st Y3_, .li (.sl Y1_) 104 false], [(.bool, [.st Y3_, .li (.sl Y1_) 104 false])], fun s => Kk s.1 s.2.1 s.2.2⟩
theorem a0p : qz Tryz.prog uw := qj (tab := [j9, KU]) (loops := []) (joins := []) (un := []) _ (by
  intro e he
  simp only [List.mem_cons, List.not_mem_nil, or_false] at he
  rcases he with rfl | rfl
  ·exact kM
  ·exact Jj) (fun s => by kernel_rfl) (by kernel_rfl)
noncomputable def kz (x0 : (Int × Int)) (x1 : Y4_) (x2 : (List Y0_)) : Option je :=
 bif decide (x2.length = x2.length) then
  bif decide (x2.length = x2.length) then
   some (((if Go.IntKind.i64.wrap ((↑x2.length : Int) - (1 : Int)) < if (0 : Int) > x0.1 then (0 : Int) else x0.1 then Go.IntKind.i64.wrap ((↑x2.length : Int) - (1 : Int)) else if (0 : Int) > x0.1 then (0 : Int) else x0.1), ((if Go.IntKind.i64.wrap (x1.2.2 - (1 : Int)) < if (0 : Int) > x0.2 then (0 : Int) else x0.2 then Go.IntKind.i64.wrap (x1.2.2 - (1 : Int)) else if (0 : Int) > x0.2 then (0 : Int) else x0.2), x1.2.2)), x2)
  else none
 else none
noncomputable def jq : TEnt := ⟨24, .cons (.ptr 0 0) Y7_, [.st Y3_, .li (.sl Y1_) 104 false], [(.tup .nil, [.st Y3_, .li (.sl Y1_) 104 false])], fun s => kz s.1 s.2.1 s.2.2⟩
theorem kI : qz Tryz.prog jq := qj (tab := []) (loops := []) (joins := []) (un := []) _ (by intro e he; simp at he) (fun s => by kernel_rfl) (by kernel_rfl)
noncomputable def zp (x4 : (Int × Y4_)) (x5 : Y4_) (x6 : (List Y0_)) (x7 : Y4_) (x8 : (List Y0_)) : Option (((Int × Y4_) × K5) ⊕ je) :=
 bif decide (x4.2.2.2 < x4.2.2.1) then
  Option.bind (QK x5.2.2) fun x9 =>
   Option.bind (wz x9 (0 : Int) x5.2.2 x7.1 x7.2.1 x7.2.2) fun x10 =>
    bif decide ((1 : Nat) = (1 : Nat)) then
     bif decide (x8.length = x8.length ∧ x8.length + (1 : Nat) ≤ (5864062014805 : Nat)) then
      bif decide (List.length x6 = List.length x6) then
       bif decide (x8.length + (1 : Nat) = (x8 ++ [x10]).length) then
        some (Sum.inl ((x4.1, (x4.2.1, (x4.2.2.1, (Go.IntKind.i64.wrap (x4.2.2.2 + (1 : Int)))))), ((x5.1, (x5.2.1, x5.2.2)), (x6, ((x7.1, (x7.2.1, x7.2.2)), (x8 ++ [x10]))))))
       else none
      else none
     else none
    else none
 else bif decide ((0 : Int) ≤ x4.1) then
   bif decide (List.length x6 = List.length x6) then
    bif decide (List.length x6 = List.length x6) then
     bif decide (List.length x6 = List.length x6 ∧ (0 : Int) ≤ (Option.some x4.1).getD (0 : Int) ∧ (Option.some x4.1).getD (0 : Int) ≤ (↑(List.length x6) : Int) ∧ (↑(List.length x6) : Int) = (↑(List.length x6) : Int) ∧ (↑(List.length x6) : Int).toNat ≤ List.length x6) then
      bif decide ((Option.some x4.1).getD (0 : Int) = (↑(List.length x6) : Int)) then
       bif decide (x8.length = x8.length) then
        bif decide ((0 : Nat) = (0 : Nat) ∧ (0 : Nat) + x8.length ≤ (5864062014805 : Nat)) then
         bif decide ((0 : Nat) + x8.length = ([] ++ x8).length) then
          some (Sum.inr ((x5.1, (x5.2.1, x5.2.2)), ([] ++ x8)))
         else none
        else none
       else none
      else bif decide ((Option.some x4.1).getD (0 : Int) = (0 : Int) ∧ (↑(List.length x6) : Int) = (↑(List.length x6) : Int)) then
        bif decide (x8.length = x8.length) then
         bif decide (List.length x6 = List.length x6 ∧ List.length x6 + x8.length ≤ (5864062014805 : Nat)) then
          bif decide (List.length x6 + x8.length = (x6 ++ x8).length) then
           some (Sum.inr ((x5.1, (x5.2.1, x5.2.2)), (x6 ++ x8)))
          else none
         else none
        else none
       else bif decide (x8.length = x8.length) then
         bif decide ((List.take ((↑(List.length x6) : Int).toNat - ((Option.some x4.1).getD (0 : Int)).toNat) (List.drop ((Option.some x4.1).getD (0 : Int)).toNat x6)).length + x8.length ≤ (5864062014805 : Nat)) then
          bif decide (x8.length = (0 : Nat)) then
           none
          else bif decide ((List.take ((↑(List.length x6) : Int).toNat - ((Option.some x4.1).getD (0 : Int)).toNat) (List.drop ((Option.some x4.1).getD (0 : Int)).toNat x6)).length + x8.length = (List.take ((↑(List.length x6) : Int).toNat - ((Option.some x4.1).getD (0 : Int)).toNat) (List.drop ((Option.some x4.1).getD (0 : Int)).toNat x6) ++ x8).length) then
            some (Sum.inr ((x5.1, (x5.2.1, x5.2.2)), (List.take ((↑(List.length x6) : Int).toNat - ((Option.some x4.1).getD (0 : Int)).toNat) (List.drop ((Option.some x4.1).getD (0 : Int)).toNat x6) ++ x8)))
           else none
         else none
        else none
     else none
    else none
   else none
  else bif decide ((0 : Nat) < List.length x6 ∧ List.length x6 = List.length x6) then
    bif decide ((0 : Int) ≤ Go.IntKind.i64.wrap (x4.2.1 + x4.1) ∧ (Go.IntKind.i64.wrap (x4.2.1 + x4.1)).toNat ≤ List.length x6) then
     bif decide (List.length x6 = List.length x6) then
      bif decide (x8.length = x8.length ∧ x8.length + (List.take (Go.IntKind.i64.wrap (x4.2.1 + x4.1)).toNat (List.drop (0 : Nat) x6)).length ≤ (5864062014805 : Nat)) then
       bif decide (x8.length + (List.take (Go.IntKind.i64.wrap (x4.2.1 + x4.1)).toNat (List.drop (0 : Nat) x6)).length = (x8 ++ List.take (Go.IntKind.i64.wrap (x4.2.1 + x4.1)).toNat (List.drop (0 : Nat) x6)).length) then
        some (Sum.inr ((x5.1, (x5.2.1, x5.2.2)), (x8 ++ List.take (Go.IntKind.i64.wrap (x4.2.1 + x4.1)).toNat (List.drop (0 : Nat) x6))))
       else none
      else none
     else none
    else none
   else none
noncomputable def ZP : ((Int × Y4_) × K5) → Option je := z3 fun s => zp s.1 s.2.1 s.2.2.1 s.2.2.2.1 s.2.2.2.2
noncomputable def yr (x0 : (Int × Y4_)) (x1 : Y4_) (x2 : (List Y0_)) : Option je :=
 Option.bind (wi x0.2.1 x0.2.2.1 x0.2.2.2) fun x3 =>
  bif !x3 then
   bif decide (x2.length = x2.length) then
    some ((x1.1, (x1.2.1, x1.2.2)), x2)
   else none
  else bif decide (x2.length = x2.length) then
    bif decide (x2.length = x2.length) then
     Option.bind (ZP (((if (↑x2.length : Int) < if Go.IntKind.i64.wrap ((0 : Int) - (↑x2.length : Int)) > x0.1 then Go.IntKind.i64.wrap ((0 : Int) - (↑x2.length : Int)) else x0.1 then (↑x2.length : Int) else if Go.IntKind.i64.wrap ((0 : Int) - (↑x2.length : Int)) > x0.1 then Go.IntKind.i64.wrap ((0 : Int) - (↑x2.length : Int)) else x0.1), (((↑x2.length : Int)), ((if Go.IntKind.i64.wrap ((0 : Int) - if (↑x2.length : Int) < if Go.IntKind.i64.wrap ((0 : Int) - (↑x2.length : Int)) > x0.1 then Go.IntKind.i64.wrap ((0 : Int) - (↑x2.length : Int)) else x0.1 then (↑x2.length : Int) else if Go.IntKind.i64.wrap ((0 : Int) - (↑x2.length : Int)) > x0.1 then Go.IntKind.i64.wrap ((0 : Int) - (↑x2.length : Int)) else x0.1) > if (↑x2.length : Int) < if Go.IntKind.i64.wrap ((0 : Int) - (↑x2.length : Int)) > x0.1 then Go.IntKind.i64.wrap ((0 : Int) - (↑x2.length : Int)) else x0.1 then (↑x2.length : Int) else if Go.IntKind.i64.wrap ((0 : Int) - (↑x2.length : Int)) > x0.1 then Go.IntKind.i64.wrap ((0 : Int) - (↑x2.length : Int)) else x0.1 then Go.IntKind.i64.wrap ((0 : Int) - if (↑x2.length : Int) < if Go.IntKind.i64.wrap ((0 : Int) - (↑x2.length : Int)) > x0.1 then Go.IntKind.i64.wrap ((0 : Int) - (↑x2.length : Int)) else x0.1 then (↑x2.length : Int) else if Go.IntKind.i64.wrap ((0 : Int) - (↑x2.length : Int)) > x0.1 then Go.IntKind.i64.wrap ((0 : Int) - (↑x2.length : Int)) else x0.1) else if (↑x2.length : Int) < if Go.IntKind.i64.wrap ((0 : Int) - (↑x2.length : Int)) > x0.1 then Go.IntKind.i64.wrap ((0 : Int) - (↑x2.length : Int)) else x0.1 then (↑x2.length : Int) else if Go.IntKind.i64.wrap ((0 : Int) - (↑x2.length : Int)) > x0.1 then Go.IntKind.i64.wrap ((0 : Int) - (↑x2.length : Int)) else x0.1), ((0 : Int))))), ((x1.1, (x1.2.1, x1.2.2)), (x2, ((x0.2.1, (x0.2.2.1, x0.2.2.2)), []))))) fun x4 =>
      some x4
    else none
   else none
noncomputable def Ym : TEnt := ⟨95, .cons (.ptr 0 0) (.cons (.int .i64) (.agg Y6_)), [.st Y3_, .li (.sl Y1_) 104 false], [(.tup .nil, [.st Y3_, .li (.sl Y1_) 104 false])], fun s => yr s.1 s.2.1 s.2.2⟩
theorem xf : qz Tryz.prog Ym := qj (tab := [QX, v4, KE]) (loops := [(19173962, [0, 1, 5, 6, 7, 29, 30], (.cons (.ptr 0 0) (.cons (.int .i64) (.cons (.ptr 2 0) (.cons (.int .i64) (.cons (.own 3) Y7_))))), [.st Y3_, .li (.sl Y1_) 104 false, .st Y6_, .li (.sl Y1_) 104 false])]) (joins := []) (un := []) _ (by
  intro e he
  simp only [List.mem_cons, List.not_mem_nil, or_false] at he
  rcases he with rfl | rfl | rfl
  ·exact QM
  ·exact Ys
  ·exact J6) (fun s => by kernel_rfl) (by kernel_rfl)
end Go.Sim
set_option maxRecDepth 100000
set_option maxHeartbeats 4000000
set_option linter.unusedVariables false
namespace Go.Sim
abbrev qh : Type := List (List qc)
def zP (L : qh) (k : Int) (f : List qc → List qc × Bool) : Bool × qh :=
 if 0 ≤ k ∧ k < L.length then (match L[k.toNat]? with
  | some l => if (f l).2 = true then (true, L.set k.toNat (f l).1) else (false, L)
  | none => (false, L)) else (false, L)
theorem zJ {L : qh} {k : Int} (f : List qc → List qc × Bool) (h : ¬ (0 ≤ k ∧ k < L.length)) : zP L k f = (false, L) := by unfold zP; rw [if_neg h]
theorem Ky {L : qh} {n : Nat} {l : List qc} (f : List qc → List qc × Bool) (h : L[n]? = some l) : zP L (n : Int) f = if (f l).2 = true then (true, L.set n (f l).1) else (false, L) := by
 have := (List.getElem?_eq_some_iff.1 h).1
 unfold zP
 rw [if_pos ⟨by omega, by omega⟩, Int.toNat_natCast]
 simp only [h]
def jL (L : qh) : Prop := ∀ l ∈ L, l.length ≤ 1000000
def Y9 (n : Int) : Prop := -9223372036854775808 ≤ n ∧ n < 9223372036854775808
theorem a1I {L : qh} (hL : jL L) (k at' : Int) (ha : Y9 at') {c : qc} (hc : OkC c) (g : Int × (Int × Int)) :
  QN (k, at', c.1, c.2.1.1, c.2.1.2, c.2.2.1, c.2.2.2.1, c.2.2.2.2.1, c.2.2.2.2.2) g L = some ((zP L k fun l => jj l at' c).1, (g, (zP L k fun l => jj l at' c).2)) := by
 unfold QN
 by_cases h1 : 0 ≤ k
 ·by_cases h2 : k < L.length
  ·obtain ⟨n, rfl⟩ : ∃ n : Nat, k = n := ⟨k.toNat, by omega⟩
   obtain ⟨l, hl⟩ := qn (l := L) (i := n) (by omega)
   have hp := abQ (k := at') (hL l (List.mem_of_getElem? hl)) ha hc
   rw [Ky _ hl]
   cases hb : (jj l at' c).2
   ·simp (disch := omega) only [qf, cond_true, cond_false, Option.bind_some, Int.toNat_natCast, Bool.not_true, decide_true, and_true, hl, hp, hb, Bool.false_eq_true, if_false]
   ·simp (disch := omega) only [qf, cond_true, cond_false, Option.bind_some, Int.toNat_natCast, Bool.not_true, decide_true, and_true, hl, hp, hb, List.length_set, if_true]
  ·rw [zJ _ (by omega)]
   simp (disch := omega) only [qf, ql, cond_true, cond_false, Bool.not_false, decide_true, and_true]
 ·rw [zJ _ (by omega)]
  simp (disch := omega) only [qf, ql, cond_true, cond_false, Bool.not_true, decide_true, and_true]
theorem a7u {L : qh} (hL : jL L) (k at' m : Int) (ha : Y9 at') (g : Int × (Int × Int)) :
  Z4 (k, at', m) g L = some ((zP L k fun l => jS l at' m).1, (g, (zP L k fun l => jS l at' m).2)) := by
 unfold Z4
 by_cases h1 : 0 ≤ k
 ·by_cases h2 : k < L.length
  ·obtain ⟨n, rfl⟩ : ∃ n : Nat, k = n := ⟨k.toNat, by omega⟩
   obtain ⟨l, hl⟩ := qn (l := L) (i := n) (by omega)
   have hp := a5H (hL l (List.mem_of_getElem? hl)) at' m ha
   rw [Ky _ hl]
   cases hb : (jS l at' m).2
   ·simp (disch := omega) only [qf, cond_true, cond_false, Option.bind_some, Int.toNat_natCast, Bool.not_true, decide_true, and_true, hl, hp, hb, Bool.false_eq_true, if_false]
   ·simp (disch := omega) only [qf, cond_true, cond_false, Option.bind_some, Int.toNat_natCast, Bool.not_true, decide_true, and_true, hl, hp, hb, List.length_set, if_true]
  ·rw [zJ _ (by omega)]
   simp (disch := omega) only [qf, ql, cond_true, cond_false, Bool.not_false, decide_true, and_true]
 ·rw [zJ _ (by omega)]
  simp (disch := omega) only [qf, ql, cond_true, cond_false, Bool.not_true, decide_true, and_true]
theorem a4M {L : qh} (hL : jL L) (k f t a b c : Int) (g : Int × (Int × Int)) :
  Qb (k, f, t, a, b, c) g L = some (g, (zP L k fun l => (zy (wb l f t a b c), Qv a b c)).2) := by
 unfold Qb
 by_cases h1 : 0 ≤ k
 ·by_cases h2 : k < L.length
  ·obtain ⟨n, rfl⟩ : ∃ n : Nat, k = n := ⟨k.toNat, by omega⟩
   obtain ⟨l, hl⟩ := qn (l := L) (i := n) (by omega)
   have hp := a58 (hL l (List.mem_of_getElem? hl)) f t a b c
   have hq := U6 a b c
   rw [Ky _ hl]
   cases hb : Qv a b c
   ·simp (disch := omega) only [qf, cond_true, cond_false, Option.bind_some, Int.toNat_natCast, Bool.not_true, decide_true, and_true, hl, hp, hq, hb, Bool.false_eq_true, if_false]
   ·simp (disch := omega) only [qf, cond_true, cond_false, Option.bind_some, Int.toNat_natCast, Bool.not_true, decide_true, and_true, hl, hp, hq, hb, List.length_set, if_true]
  ·rw [zJ _ (by omega)]
   simp (disch := omega) only [qf, ql, cond_true, cond_false, Bool.not_false, decide_true, and_true]
 ·rw [zJ _ (by omega)]
  simp (disch := omega) only [qf, ql, cond_true, cond_false, Bool.not_true, decide_true, and_true]
theorem aaK {L : qh} (hL : jL L) (k : Int) (s : List qc) (hs : s.length ≤ 1000000) (ok : ∀ c ∈ s, OkC c) (g : Int × (Int × Int)) :
  Kk (k, s) g L = some ((zP L k fun l => (s, decide ((s.length : Int) = g.2.2) && z8 s)).1, (g, (zP L k fun l => (s, decide ((s.length : Int) = g.2.2) && z8 s)).2)) := by
 unfold Kk
 have hcl := yj s hs
 have hr := Xf hs ok
 by_cases h1 : 0 ≤ k
 ·by_cases h2 : k < L.length
  ·obtain ⟨n, rfl⟩ : ∃ n : Nat, k = n := ⟨k.toNat, by omega⟩
   obtain ⟨l, hl⟩ := qn (l := L) (i := n) (by omega)
   rw [Ky _ hl]
   by_cases hq : (s.length : Int) = g.2.2
   ·cases hb : z8 s
    ·simp (disch := omega) only [qf, ke, cond_true, cond_false, Option.bind_some, Int.toNat_natCast, Bool.not_true, decide_true, and_true, hl, hcl, hr, hb, hq, Bool.and_false, Bool.false_eq_true, if_false]
    ·simp (disch := omega) only [qf, ke, cond_true, cond_false, Option.bind_some, Int.toNat_natCast, Bool.not_true, decide_true, and_true, hl, hcl, hr, hb, hq, Bool.and_true, List.length_set, if_true]
   ·simp (disch := omega) only [qf, zg, cond_true, cond_false, Option.bind_some, Int.toNat_natCast, Bool.not_true, decide_true, decide_false, and_true, hl, hcl, hr, hq, Bool.false_and, Bool.false_eq_true, if_false]
  ·rw [zJ _ (by omega)]
   simp (disch := omega) only [qf, ql, cond_true, cond_false, Bool.not_false, decide_true, and_true]
 ·rw [zJ _ (by omega)]
  simp (disch := omega) only [qf, ql, cond_true, cond_false, Bool.not_true, decide_true, and_true]
end Go.Sim
set_option maxRecDepth 100000
set_option maxHeartbeats 0
set_option linter.unusedVariables false
namespace Go.Sim
open Go.Proofs
noncomputable def zK (x2 : (Int × Int)) (x3 : Y4_) (x4 : (List Y0_)) (x5 : Y4_) (x6 : (List Y0_)) : Option (((Int × Int) × K5) ⊕ K5) :=
 bif decide (x2.2 < x2.1) then
  bif decide ((0 : Int) ≤ x2.2) then
   bif decide (x2.2.toNat < List.length x4 ∧ List.length x4 = List.length x4) then
    bif decide (List.length x4 = List.length x4) then
     Option.bind (x4[x2.2.toNat]?) fun x7 =>
      Option.bind (qL x7) fun x8 =>
       bif decide (List.length x8 = List.length x8) then
        bif decide ((1 : Nat) = (1 : Nat)) then
         bif decide (x6.length = x6.length ∧ x6.length + (1 : Nat) ≤ (5864062014805 : Nat)) then
          bif decide (x6.length + (1 : Nat) = (x6 ++ [x8]).length) then
           bif decide (List.length x4 = List.length x4) then
            bif decide (List.length x4 = List.length x4) then
             some (Sum.inl ((x2.1, (Go.IntKind.i64.wrap (x2.2 + (1 : Int)))), ((x3.1, (x3.2.1, x3.2.2)), (x4, ((x5.1, (x5.2.1, x5.2.2)), (x6 ++ [x8]))))))
            else none
           else none
          else none
         else none
        else none
       else none
    else none
   else none
  else none
 else bif decide (x6.length = x6.length) then
   bif decide (List.length x4 = List.length x4) then
    some (Sum.inr ((x3.1, (x3.2.1, x3.2.2)), (x4, ((x5.1, (x5.2.1, x5.2.2)), x6))))
   else none
  else none
noncomputable def Wt : ((Int × Int) × K5) → Option K5 := z3 fun s => zK s.1 s.2.1 s.2.2.1 s.2.2.2.1 s.2.2.2.2
noncomputable def jn (x0 : Y4_) (x1 : (List Y0_)) : Option K5 :=
 bif decide (x1.length = x1.length) then
  bif decide (x1.length = x1.length) then
   bif decide (x1.length = x1.length) then
    Option.bind (Wt ((((↑x1.length : Int)), ((0 : Int))), ((x0.1, (x0.2.1, x0.2.2)), (x1, ((x0.1, (x0.2.1, x0.2.2)), []))))) fun x2 =>
     some x2
   else none
  else none
 else none
noncomputable def wp : TEnt := ⟨47, .ptr 0 0, [.st Y3_, .li (.sl Y1_) 104 false], [(.ptr 2 0, [.st Y3_, .li (.sl Y1_) 104 false, .st xh, .li (.sl Y1_) 104 false])], fun s => jn s.1 s.2⟩
theorem jo : qz Tryz.prog wp := qj (tab := [j9]) (loops := [(299594, [3, 21, 22, 23], (.cons (.ptr 2 0) (.cons (.own 1) Y7_)), [.st Y3_, .li (.sl Y1_) 104 false, .st xh, .li (.sl Y1_) 104 false])]) (joins := []) (un := []) _ (by
  intro e he
  simp only [List.mem_cons, List.not_mem_nil, or_false] at he
  rcases he with rfl
  ·exact kM) (fun s => by kernel_rfl) (by kernel_rfl)
noncomputable def zZ (x2 : Y0_) (x3 : Y0_) (x4 : Int) : Option ((Y0_ × (Y0_ × Int)) ⊕ Bool) :=
 bif decide (x4 < (↑(List.length x2) : Int)) then
  bif decide ((0 : Int) ≤ x4) then
   Option.bind (x2[x4.toNat]?) fun x5 =>
    bif decide ((0 : Int) ≤ x4) then
     Option.bind (x3[x4.toNat]?) fun x6 =>
      bif !(x5.1 == x6.1 && (x5.2.1.1 == x6.2.1.1 && (x5.2.1.2 == x6.2.1.2 && Bool.true) && (x5.2.2.1 == x6.2.2.1 && (x5.2.2.2.1 == x6.2.2.2.1 && (x5.2.2.2.2.1 == x6.2.2.2.2.1 && (x5.2.2.2.2.2 == x6.2.2.2.2.2 && Bool.true)) && Bool.true)))) then
       some (Sum.inr Bool.false)
      else some (Sum.inl (x2, (x3, (Go.IntKind.i64.wrap (x4 + (1 : Int))))))
    else none
  else none
 else some (Sum.inr Bool.true)
noncomputable def Yw : (Y0_ × (Y0_ × Int)) → Option Bool := z3 fun s => zZ s.1 s.2.1 s.2.2
noncomputable def YH (x0 : Y0_) (x1 : Y0_) : Option Bool :=
 bif (↑(List.length x0) : Int) != (↑x1.length : Int) then
  some Bool.false
 else Option.bind (Yw (x0, (x1, ((0 : Int))))) fun x2 =>
   some x2
noncomputable def QQ (x0 : Int) (x1 : Int) : Option Bool :=
 bif decide ((1 : Int) ≤ x0) then
  bif decide (x0 ≤ (512 : Int)) then
   bif decide ((1 : Int) ≤ x1) then
    some (decide (x1 ≤ (512 : Int)))
   else some Bool.false
  else some Bool.false
 else some Bool.false
noncomputable def a09 : TEnt := ⟨28, .cons (.int .i64) (.int .i64), [], [(.bool, [])], fun s => QQ s.1 s.2⟩
theorem a0L : qz Tryz.prog a09 := qj (tab := []) (loops := []) (joins := []) (un := []) _ (by intro e he; simp at he) (fun s => by kernel_rfl) (by kernel_rfl)
noncomputable def kA (x2 : Y4_) (x3 : (Int × Int)) (x4 : (Int × Int)) (x5 : (List Y0_)) : Option ((Y4_ × a4d) ⊕ a5K) :=
 bif decide (x2.2.2 < x2.1) then
  Option.bind (ym x2.2.1) fun x6 =>
   bif decide ((1 : Nat) = (1 : Nat)) then
    bif decide (x5.length = x5.length ∧ x5.length + (1 : Nat) ≤ (5864062014805 : Nat)) then
     bif decide (x5.length + (1 : Nat) = (x5 ++ [x6]).length) then
      some (Sum.inl ((x2.1, (x2.2.1, (Go.IntKind.i64.wrap (x2.2.2 + (1 : Int))))), ((x3.1, x3.2), ((x4.1, x4.2), (x5 ++ [x6])))))
     else none
    else none
   else none
 else bif decide (x5.length = x5.length) then
   some (Sum.inr ((x4.1, x4.2), x5))
  else none
noncomputable def vS : (Y4_ × a4d) → Option a5K := z3 fun s => kA s.1 s.2.1 s.2.2.1 s.2.2.2
noncomputable def WK (x0 : Int) (x1 : Int) : Option a5K :=
 Option.bind (vS ((x0, (x1, ((0 : Int)))), ((((0 : Int)), ((0 : Int))), ((((0 : Int)), ((0 : Int))), [])))) fun x2 =>
  some x2
noncomputable def a1J : TEnt := ⟨45, .cons (.int .i64) (.int .i64), [], [(.agg (.cons (.own 0) Y7_), [.li (.sl Y2_) 118 false])], fun s => WK s.1 s.2⟩
theorem a33 : qz Tryz.prog a1J := qj (tab := [WE]) (loops := [(4682, [0, 1, 4, 5, 6], (.cons (.int .i64) (.cons (.int .i64) (.cons (.ptr 0 0) (.cons (.ptr 1 0) (.int .i64))))), [.st a6I, .st (.cons (.own 2) Y7_), .li (.sl Y2_) 118 false])]) (joins := []) (un := []) _ (by
  intro e he
  simp only [List.mem_cons, List.not_mem_nil, or_false] at he
  rcases he with rfl
  ·exact Kd) (fun s => by kernel_rfl) (by kernel_rfl)
noncomputable def kD (x0 : (List Y0_)) (x1 : Int) (x2 : Int) : Option Int :=
 bif (↑(List.length x0) : Int) == (0 : Int) then
  some ((0 : Int))
 else Option.bind (x0[(0 : Nat)]?) fun x3 =>
   some ((↑(List.length x3) : Int))
noncomputable def KA : TEnt := ⟨54, .agg yV, [], [(.int .i64, [])], fun s => kD s.1 s.2.1 s.2.2⟩
theorem Zy : qz Tryz.prog KA := qj (tab := []) (loops := []) (joins := []) (un := []) _ (by intro e he; simp at he) (fun s => by kernel_rfl) (by kernel_rfl)
noncomputable def jG (x0 : Y8_) (x1 : Int) : Option Bool :=
 bif decide ((0 : Int) ≤ x1) then
  some (decide (x1 < (↑x0.1.length : Int)))
 else some Bool.false
noncomputable def ZT : TEnt := ⟨108, .cons (.agg yV) (.int .i64), [], [(.bool, [])], fun s => jG s.1 s.2⟩
theorem Qd : qz Tryz.prog ZT := qj (tab := []) (loops := []) (joins := []) (un := []) _ (by intro e he; simp at he) (fun s => by kernel_rfl) (by kernel_rfl)
noncomputable def k9 (x3 : (Int × (Y0_ × Int))) (x4 : Y8_) (x5 : (Int × Int)) (x6 : (List Y0_)) : Option (((Int × (Y0_ × Int)) × (Y8_ × a5K)) ⊕ Y8_) :=
 bif decide (x3.2.2 < (↑x4.1.length : Int)) then
  bif x3.2.2 == x3.1 then
   bif decide ((0 : Nat) = (0 : Nat) ∧ (0 : Nat) + x3.2.1.length ≤ (4398046511104 : Nat)) then
    bif decide (([] ++ x3.2.1).length = (0 : Nat) + x3.2.1.length) then
     bif decide ((1 : Nat) = (1 : Nat)) then
      bif decide (x6.length = x6.length ∧ x6.length + (1 : Nat) ≤ (5864062014805 : Nat)) then
       bif decide (x6.length + (1 : Nat) = (x6 ++ [[] ++ x3.2.1]).length) then
        some (Sum.inl ((x3.1, (x3.2.1, (Go.IntKind.i64.wrap (x3.2.2 + (1 : Int))))), ((x4.1, (x4.2.1, x4.2.2)), ((x5.1, x5.2), (x6 ++ [[] ++ x3.2.1])))))
       else none
      else none
     else none
    else none
   else none
  else bif decide ((0 : Int) ≤ x3.2.2) then
    Option.bind (x4.1[x3.2.2.toNat]?) fun x7 =>
     bif decide ((1 : Nat) = (1 : Nat)) then
      bif decide (x6.length = x6.length ∧ x6.length + (1 : Nat) ≤ (5864062014805 : Nat)) then
       bif decide (x6.length + (1 : Nat) = (x6 ++ [x7]).length) then
        some (Sum.inl ((x3.1, (x3.2.1, (Go.IntKind.i64.wrap (x3.2.2 + (1 : Int))))), ((x4.1, (x4.2.1, x4.2.2)), ((x5.1, x5.2), (x6 ++ [x7])))))
       else none
      else none
     else none
   else none
 else bif decide (x6.length = x6.length) then
   some (Sum.inr (x6, (x4.2.1, x4.2.2)))
  else none
noncomputable def Yc : ((Int × (Y0_ × Int)) × (Y8_ × a5K)) → Option Y8_ := z3 fun s => k9 s.1 s.2.1 s.2.2.1 s.2.2.2
noncomputable def w7 (x0 : Y8_) (x1 : Int) (x2 : Y0_) : Option Y8_ :=
 Option.bind (Yc ((x1, (x2, ((0 : Int)))), ((x0.1, (x0.2.1, x0.2.2)), ((((0 : Int)), ((0 : Int))), [])))) fun x3 =>
  some x3
noncomputable def QT : TEnt := ⟨112, .cons (.agg yV) (.cons (.int .i64) (.sl Y2_)), [], [(.agg yV, [])], fun s => w7 s.1 s.2.1 s.2.2⟩
theorem yv : qz Tryz.prog QT := qj (tab := []) (loops := [(4682, [1, 2, 3, 6, 7, 8], (.cons (.int .i64) (.cons (.sl Y2_) (.cons (.ptr 0 0) (.cons (.ptr 1 0) (.cons (.own 2) (.int .i64)))))), [.st yV, .st a6I, .li (.sl Y2_) 118 false])]) (joins := []) (un := []) _ (by intro e he; simp at he) (fun s => by kernel_rfl) (by kernel_rfl)
noncomputable def Ka (x0 : Y8_) (x1 : Int) (x2 : Int) (x3 : Int) (x4 : Int) (x5 : Int) (x6 : Int) (x7 : Int) (x8 : Int) (x9 : Int) : Option (Y8_ × Bool) :=
 Option.bind (jG (x0.1, x0.2.1, x0.2.2) x1) fun x10 =>
  bif !x10 then
   some ((x0.1, (x0.2.1, x0.2.2)), Bool.false)
  else bif decide ((0 : Int) ≤ x1) then
    Option.bind (x0.1[Int.toNat x1]?) fun x11 =>
     Option.bind (WX x11 x2 x3 x4 x5 x6 x7 x8 x9) fun x12 =>
      Option.bind (w7 (x0.1, x0.2.1, x0.2.2) x1 x12.1) fun x13 =>
       some ((x13.1, (x13.2.1, x13.2.2)), x12.2)
   else none
noncomputable def a1N : TEnt := ⟨60, .cons (.agg yV) (.cons (.int .i64) (.cons (.int .i64) (.agg Us))), [], [(.tup aac, [])], fun s => Ka s.1 s.2.1 s.2.2.1 s.2.2.2.1 s.2.2.2.2.1 s.2.2.2.2.2.1 s.2.2.2.2.2.2.1 s.2.2.2.2.2.2.2.1 s.2.2.2.2.2.2.2.2.1 s.2.2.2.2.2.2.2.2.2⟩
theorem a24 : qz Tryz.prog a1N := qj (tab := [a1b, ZT, QT]) (loops := []) (joins := []) (un := []) _ (by
  intro e he
  simp only [List.mem_cons, List.not_mem_nil, or_false] at he
  rcases he with rfl | rfl | rfl
  ·exact a2G
  ·exact Qd
  ·exact yv) (fun s => by kernel_rfl) (by kernel_rfl)
noncomputable def KS (x0 : Y8_) (x1 : Int) (x2 : Int) (x3 : Int) : Option (Y8_ × Bool) :=
 Option.bind (jG (x0.1, x0.2.1, x0.2.2) x1) fun x4 =>
  bif !x4 then
   some ((x0.1, (x0.2.1, x0.2.2)), Bool.false)
  else bif decide ((0 : Int) ≤ x1) then
    Option.bind (x0.1[Int.toNat x1]?) fun x5 =>
     Option.bind (J1 x5 x2 x3) fun x6 =>
      Option.bind (w7 (x0.1, x0.2.1, x0.2.2) x1 x6.1) fun x7 =>
       some ((x7.1, (x7.2.1, x7.2.2)), x6.2)
   else none
noncomputable def Ue : TEnt := ⟨87, .cons (.agg yV) (.cons (.int .i64) Y7_), [], [(.tup aac, [])], fun s => KS s.1 s.2.1 s.2.2.1 s.2.2.2⟩
theorem a10 : qz Tryz.prog Ue := qj (tab := [uh, ZT, QT]) (loops := []) (joins := []) (un := []) _ (by
  intro e he
  simp only [List.mem_cons, List.not_mem_nil, or_false] at he
  rcases he with rfl | rfl | rfl
  ·exact a0n
  ·exact Qd
  ·exact yv) (fun s => by kernel_rfl) (by kernel_rfl)
noncomputable def Zj (x0 : Y8_) (x1 : Int) (x2 : Int) (x3 : Int) (x4 : Int) (x5 : Int) (x6 : Int) : Option Y8_ :=
 Option.bind (jG (x0.1, x0.2.1, x0.2.2) x1) fun x7 =>
  bif !x7 then
   some (x0.1, (x0.2.1, x0.2.2))
  else Option.bind (wu x4 x5 x6) fun x8 =>
    bif !x8 then
     some (x0.1, (x0.2.1, x0.2.2))
    else bif decide ((0 : Int) ≤ x1) then
      Option.bind (x0.1[Int.toNat x1]?) fun x9 =>
       Option.bind (wx x9 x2 x3 x4 x5 x6) fun x10 =>
        Option.bind (w7 (x0.1, x0.2.1, x0.2.2) x1 x10) fun x11 =>
         some (x11.1, (x11.2.1, x11.2.2))
     else none
noncomputable def xF : TEnt := ⟨90, .cons (.agg yV) (.cons (.int .i64) afp), [], [(.agg yV, [])], fun s => Zj s.1 s.2.1 s.2.2.1 s.2.2.2.1 s.2.2.2.2.1 s.2.2.2.2.2.1 s.2.2.2.2.2.2⟩
theorem uJ : qz Tryz.prog xF := qj (tab := [Z9, JT, ZT, QT]) (loops := []) (joins := []) (un := []) _ (by
  intro e he
  simp only [List.mem_cons, List.not_mem_nil, or_false] at he
  rcases he with rfl | rfl | rfl | rfl
  ·exact QH
  ·exact JG
  ·exact Qd
  ·exact yv) (fun s => by kernel_rfl) (by kernel_rfl)
noncomputable def Y2 (x0 : Y8_) (x1 : Int) (x2 : Y0_) : Option (Y8_ × Bool) :=
 Option.bind (jG (x0.1, x0.2.1, x0.2.2) x1) fun x3 =>
  bif !x3 then
   some ((x0.1, (x0.2.1, x0.2.2)), Bool.false)
  else Option.bind (kD x0.1 x0.2.1 x0.2.2) fun x4 =>
    bif (↑x2.length : Int) != x4 then
     some ((x0.1, (x0.2.1, x0.2.2)), Bool.false)
    else Option.bind (Za x2) fun x5 =>
      bif !x5 then
       some ((x0.1, (x0.2.1, x0.2.2)), Bool.false)
      else Option.bind (w7 (x0.1, x0.2.1, x0.2.2) x1 x2) fun x6 =>
        some ((x6.1, (x6.2.1, x6.2.2)), Bool.true)
noncomputable def a15 : TEnt := ⟨92, .cons (.agg yV) (.cons (.int .i64) (.sl Y2_)), [], [(.tup aac, [])], fun s => Y2 s.1 s.2.1 s.2.2⟩
theorem a37 : qz Tryz.prog a15 := qj (tab := [xX, KA, ZT, QT]) (loops := []) (joins := []) (un := []) _ (by
  intro e he
  simp only [List.mem_cons, List.not_mem_nil, or_false] at he
  rcases he with rfl | rfl | rfl | rfl
  ·exact U8
  ·exact Zy
  ·exact Qd
  ·exact yv) (fun s => by kernel_rfl) (by kernel_rfl)
noncomputable def yR (x0 : Int) (x1 : Int) : Option Int :=
 bif decide (x1 ≤ x0) then
  bif decide (Go.IntKind.i64.wrap (x1 - (1 : Int)) < (0 : Int)) then
   some ((0 : Int))
  else some (Go.IntKind.i64.wrap (x1 - (1 : Int)))
 else bif decide (x0 < (0 : Int)) then
   some ((0 : Int))
  else some x0
noncomputable def Xd : TEnt := ⟨109, .cons (.int .i64) (.int .i64), [], [(.int .i64, [])], fun s => yR s.1 s.2⟩
theorem uj : qz Tryz.prog Xd := qj (tab := []) (loops := []) (joins := []) (un := []) _ (by intro e he; simp at he) (fun s => by kernel_rfl) (by kernel_rfl)
noncomputable def jz (x0 : Y8_) (x1 : Int) (x2 : Int) : Option Y8_ :=
 bif (↑x0.1.length : Int) == (0 : Int) then
  some (x0.1, (x0.2.1, x0.2.2))
 else Option.bind (yR x1 (↑x0.1.length : Int)) fun x3 =>
   Option.bind (kD x0.1 x0.2.1 x0.2.2) fun x4 =>
    Option.bind (yR x2 x4) fun x5 =>
     some (x0.1, (x3, x5))
noncomputable def YG : TEnt := ⟨56, .cons (.agg yV) Y7_, [], [(.agg yV, [])], fun s => jz s.1 s.2.1 s.2.2⟩
theorem Yo : qz Tryz.prog YG := qj (tab := [KA, Xd]) (loops := []) (joins := []) (un := []) _ (by
  intro e he
  simp only [List.mem_cons, List.not_mem_nil, or_false] at he
  rcases he with rfl | rfl
  ·exact Zy
  ·exact uj) (fun s => by kernel_rfl) (by kernel_rfl)
noncomputable def zF (x8 : Y4_) (x9 : Y8_) (x10 : Y4_) (x11 : (Int × Int)) (x12 : (List Y0_)) : Option ((Y4_ × (Y8_ × (Y4_ × a5K))) ⊕ Y8_) :=
 bif decide (x8.2.2 < x8.2.1) then
  bif decide ((0 : Int) ≤ Go.IntKind.i64.wrap (x8.2.2 + x8.1)) then
   bif decide (Go.IntKind.i64.wrap (x8.2.2 + x8.1) < x8.2.1) then
    bif decide ((0 : Int) ≤ Go.IntKind.i64.wrap (x8.2.2 + x8.1)) then
     Option.bind (x9.1[(Go.IntKind.i64.wrap (x8.2.2 + x8.1)).toNat]?) fun x13 =>
      bif decide ((1 : Nat) = (1 : Nat)) then
       bif decide (x12.length = x12.length ∧ x12.length + (1 : Nat) ≤ (5864062014805 : Nat)) then
        bif decide (x12.length + (1 : Nat) = (x12 ++ [x13]).length) then
         some (Sum.inl ((x8.1, (x8.2.1, (Go.IntKind.i64.wrap (x8.2.2 + (1 : Int))))), ((x9.1, (x9.2.1, x9.2.2)), ((x10.1, (x10.2.1, x10.2.2)), ((x11.1, x11.2), (x12 ++ [x13]))))))
        else none
       else none
      else none
    else none
   else Option.bind (kD x9.1 x9.2.1 x9.2.2) fun x13 =>
     Option.bind (ym x13) fun x14 =>
      Option.bind (kD x9.1 x9.2.1 x9.2.2) fun x15 =>
       Option.bind (wx x14 (0 : Int) x15 x10.1 x10.2.1 x10.2.2) fun x16 =>
        bif decide ((1 : Nat) = (1 : Nat)) then
         bif decide (x12.length = x12.length ∧ x12.length + (1 : Nat) ≤ (5864062014805 : Nat)) then
          bif decide (x12.length + (1 : Nat) = (x12 ++ [x16]).length) then
           some (Sum.inl ((x8.1, (x8.2.1, (Go.IntKind.i64.wrap (x8.2.2 + (1 : Int))))), ((x9.1, (x9.2.1, x9.2.2)), ((x10.1, (x10.2.1, x10.2.2)), ((x11.1, x11.2), (x12 ++ [x16]))))))
          else none
         else none
        else none
  else Option.bind (kD x9.1 x9.2.1 x9.2.2) fun x13 =>
    Option.bind (ym x13) fun x14 =>
     Option.bind (kD x9.1 x9.2.1 x9.2.2) fun x15 =>
      Option.bind (wx x14 (0 : Int) x15 x10.1 x10.2.1 x10.2.2) fun x16 =>
       bif decide ((1 : Nat) = (1 : Nat)) then
        bif decide (x12.length = x12.length ∧ x12.length + (1 : Nat) ≤ (5864062014805 : Nat)) then
         bif decide (x12.length + (1 : Nat) = (x12 ++ [x16]).length) then
          some (Sum.inl ((x8.1, (x8.2.1, (Go.IntKind.i64.wrap (x8.2.2 + (1 : Int))))), ((x9.1, (x9.2.1, x9.2.2)), ((x10.1, (x10.2.1, x10.2.2)), ((x11.1, x11.2), (x12 ++ [x16]))))))
         else none
        else none
       else none
 else bif decide (x12.length = x12.length) then
   some (Sum.inr (x12, (x9.2.1, x9.2.2)))
  else none
noncomputable def yX : (Y4_ × (Y8_ × (Y4_ × a5K))) → Option Y8_ := z3 fun s => zF s.1 s.2.1 s.2.2.1 s.2.2.2.1 s.2.2.2.2
noncomputable def Q7 (x0 : Y8_) (x1 : Int) (x2 : Int) (x3 : Int) (x4 : Int) : Option Y8_ :=
 Option.bind (wu x2 x3 x4) fun x5 =>
  bif !x5 then
   some (x0.1, (x0.2.1, x0.2.2))
  else Option.bind (
    bif decide ((↑x0.1.length : Int) < x1) then
     some (Sum.inl ((((↑x0.1.length : Int)), ((↑x0.1.length : Int))), ((x0.1, (x0.2.1, x0.2.2)), ((x2, (x3, x4)), (((0 : Int)), ((0 : Int)))))))
    else some (Sum.inl ((x1, ((↑x0.1.length : Int))), ((x0.1, (x0.2.1, x0.2.2)), ((x2, (x3, x4)), (((0 : Int)), ((0 : Int)))))))) fun (x6 : (((Int × Int) × (Y8_ × (Y4_ × (Int × Int)))) ⊕ Y8_)) =>
    match x6 with
    | Sum.inl x7 =>
      bif decide (x7.1.1 < Go.IntKind.i64.wrap ((0 : Int) - x7.1.2)) then
       Option.bind (yX (((Go.IntKind.i64.wrap ((0 : Int) - x7.1.2)), (x7.1.2, ((0 : Int)))), ((x7.2.1.1, (x7.2.1.2.1, x7.2.1.2.2)), ((x7.2.2.1.1, (x7.2.2.1.2.1, x7.2.2.1.2.2)), ((x7.2.2.2.1, x7.2.2.2.2), []))))) fun x8 =>
        some x8
      else Option.bind (yX ((x7.1.1, (x7.1.2, ((0 : Int)))), ((x7.2.1.1, (x7.2.1.2.1, x7.2.1.2.2)), ((x7.2.2.1.1, (x7.2.2.1.2.1, x7.2.2.1.2.2)), ((x7.2.2.2.1, x7.2.2.2.2), []))))) fun x8 =>
        some x8
    | Sum.inr x7 =>
      some x7
noncomputable def vJ : TEnt := ⟨96, .cons (.agg yV) (.cons (.int .i64) (.agg Y6_)), [], [(.agg yV, [])], fun s => Q7 s.1 s.2.1 s.2.2.1 s.2.2.2.1 s.2.2.2.2⟩
theorem Xm : qz Tryz.prog vJ := qj (tab := [Z9, WE, JT, KA]) (loops := [(9817068106, [1, 3, 5, 6, 7, 8, 9], (.cons (.int .i64) (.cons (.ptr 0 0) (.cons (.ptr 1 0) (.cons (.ptr 2 0) (.cons (.int .i64) (.cons (.own 3) (.int .i64))))))), [.st yV, .st Y6_, .st a6I, .li (.sl Y2_) 118 false])]) (joins := [(37449, [1, 3, 5, 6, 7], (.cons (.int .i64) ahQ), [.st yV, .st Y6_, .st a6I])]) (un := []) _ (by
  intro e he
  simp only [List.mem_cons, List.not_mem_nil, or_false] at he
  rcases he with rfl | rfl | rfl | rfl
  ·exact QH
  ·exact Kd
  ·exact JG
  ·exact Zy) (fun s => by kernel_rfl) (by kernel_rfl)
noncomputable def kq (x4 : Y4_) (x5 : Y8_) (x6 : (Int × Int)) (x7 : (Int × Int)) (x8 : (List Y0_)) : Option ((Y4_ × (Y8_ × a4d)) ⊕ Y8_) :=
 bif decide (x4.2.2 < x4.1) then
  bif decide (x4.2.2 < (↑x5.1.length : Int)) then
   bif decide ((0 : Int) ≤ x4.2.2) then
    Option.bind (x5.1[x4.2.2.toNat]?) fun x9 =>
     Option.bind (WL x9 x4.2.1) fun x10 =>
      bif decide ((0 : Int) ≤ x4.2.2) then
       bif decide (x4.2.2.toNat < x8.length ∧ x8.length = x8.length) then
        bif decide (x8.length = x8.length) then
         Option.bind (x8[x4.2.2.toNat]?) fun x11 =>
          bif decide (x8.length = (x8.set x4.2.2.toNat x10).length) then
           some (Sum.inl ((x4.1, (x4.2.1, (Go.IntKind.i64.wrap (x4.2.2 + (1 : Int))))), ((x5.1, (x5.2.1, x5.2.2)), ((x6.1, x6.2), ((x7.1, x7.2), (x8.set x4.2.2.toNat x10))))))
          else none
        else none
       else none
      else none
   else none
  else bif decide (x8.length = x8.length) then
    Option.bind (jz (x8, x7.1, x7.2) x5.2.1 x5.2.2) fun x9 =>
     some (Sum.inr (x9.1, (x9.2.1, x9.2.2)))
   else none
 else bif decide (x8.length = x8.length) then
   Option.bind (jz (x8, x7.1, x7.2) x5.2.1 x5.2.2) fun x9 =>
    some (Sum.inr (x9.1, (x9.2.1, x9.2.2)))
  else none
noncomputable def V6 : (Y4_ × (Y8_ × a4d)) → Option Y8_ := z3 fun s => kq s.1 s.2.1 s.2.2.1 s.2.2.2.1 s.2.2.2.2
noncomputable def ZL (x0 : Y8_) (x1 : Int) (x2 : Int) : Option Y8_ :=
 Option.bind (WK x1 x2) fun x3 =>
  bif decide (x3.2.length = x3.2.length) then
   Option.bind (V6 ((x1, (x2, ((0 : Int)))), ((x0.1, (x0.2.1, x0.2.2)), ((((0 : Int)), ((0 : Int))), ((x3.1.1, x3.1.2), x3.2))))) fun x4 =>
    some x4
  else none
noncomputable def a16 : TEnt := ⟨81, .cons (.agg yV) Y7_, [], [(.agg yV, [])], fun s => ZL s.1 s.2.1 s.2.2⟩
theorem a3x : qz Tryz.prog a16 := qj (tab := [a1H, a1J, YG]) (loops := [(4682, [1, 2, 3, 6, 7, 8], (.cons (.int .i64) (.cons (.int .i64) ahQ)), [.st yV, .st a6I, .st (.cons (.own 3) Y7_), .li (.sl Y2_) 118 false])]) (joins := []) (un := []) _ (by
  intro e he
  simp only [List.mem_cons, List.not_mem_nil, or_false] at he
  rcases he with rfl | rfl | rfl
  ·exact a3M
  ·exact a33
  ·exact Yo) (fun s => by kernel_rfl) (by kernel_rfl)
noncomputable def kf (x4 : Int) (x5 : Y8_) (x6 : (List Y0_)) (x7 : Int) (x8 : Int) : Option ((Int × (Y8_ × Y8_)) ⊕ Bool) :=
 bif decide (x4 < (↑x5.1.length : Int)) then
  bif decide ((0 : Int) ≤ x4) then
   Option.bind (x5.1[Int.toNat x4]?) fun x9 =>
    bif decide ((0 : Int) ≤ x4) then
     Option.bind (x6[Int.toNat x4]?) fun x10 =>
      Option.bind (YH x9 x10) fun x11 =>
       bif !x11 then
        some (Sum.inr Bool.false)
       else some (Sum.inl ((Go.IntKind.i64.wrap (x4 + (1 : Int))), ((x5.1, (x5.2.1, x5.2.2)), (x6, (x7, x8)))))
    else none
  else none
 else some (Sum.inr Bool.true)
noncomputable def Yk : (Int × (Y8_ × Y8_)) → Option Bool := z3 fun s => kf s.1 s.2.1 s.2.2.1 s.2.2.2.1 s.2.2.2.2
noncomputable def YU (x0 : Y8_) (x1 : (List Y0_)) (x2 : Int) (x3 : Int) : Option Bool :=
 bif (↑x0.1.length : Int) != (↑(List.length x1) : Int) then
  some Bool.false
 else bif x0.2.1 != x2 then
   some Bool.false
  else bif x0.2.2 != x3 then
    some Bool.false
   else Option.bind (Yk (((0 : Int)), ((x0.1, (x0.2.1, x0.2.2)), (x1, (x2, x3))))) fun x4 =>
     some x4
noncomputable def W5 (x0 : Int) (x1 : Int) (x2 : Int) (x3 : Int) (x4 : Int) (x5 : Int) (x6 : Int) : Option Ws :=
 some ((Go.IntKind.i64.wrap x0), ((Go.IntKind.i64.wrap x1), ((Go.IntKind.i64.wrap x2), (x3, (x4, (x5, x6))))))
noncomputable def a06 : TEnt := ⟨57, .agg Xr, [], [(.agg Us, [])], fun s => W5 s.1 s.2.1 s.2.2.1 s.2.2.2.1 s.2.2.2.2.1 s.2.2.2.2.2.1 s.2.2.2.2.2.2⟩
theorem xB : qz Tryz.prog a06 := qj (tab := []) (loops := []) (joins := []) (un := []) _ (by intro e he; simp at he) (fun s => by kernel_rfl) (by kernel_rfl)
noncomputable def kL (x1 : (Y0_ × Int)) (x2 : Y0_) : Option (((Y0_ × Int) × Y0_) ⊕ Y0_) :=
 bif decide (x1.2 < (↑x1.1.length : Int)) then
  bif decide ((0 : Int) ≤ x1.2) then
   Option.bind (x1.1[x1.2.toNat]?) fun x3 =>
    Option.bind (W5 x3.1 x3.2.1.1 x3.2.1.2 x3.2.2.1 x3.2.2.2.1 x3.2.2.2.2.1 x3.2.2.2.2.2) fun x4 =>
     bif decide ((1 : Nat) = (1 : Nat)) then
      bif decide (x2.length = x2.length ∧ x2.length + (1 : Nat) ≤ (4398046511104 : Nat)) then
       bif decide (x2.length + (1 : Nat) = (x2 ++ [(x4.1, (x4.2.1, x4.2.2.1), x4.2.2.2.1, x4.2.2.2.2.1, x4.2.2.2.2.2.1, x4.2.2.2.2.2.2)]).length) then
        some (Sum.inl ((x1.1, (Go.IntKind.i64.wrap (x1.2 + (1 : Int)))), (x2 ++ [(x4.1, (x4.2.1, x4.2.2.1), x4.2.2.2.1, x4.2.2.2.2.1, x4.2.2.2.2.2.1, x4.2.2.2.2.2.2)])))
       else none
      else none
     else none
  else none
 else bif decide (x2.length = x2.length) then
   some (Sum.inr x2)
  else none
noncomputable def xR : ((Y0_ × Int) × Y0_) → Option Y0_ := z3 fun s => kL s.1 s.2
noncomputable def JN (x0 : Y0_) : Option Y0_ :=
 Option.bind (xR ((x0, ((0 : Int))), [])) fun x1 =>
  some x1
noncomputable def a4G : TEnt := ⟨93, .sl Y1_, [], [(.sl Y2_, [])], fun s => JN s⟩
theorem a5Q : qz Tryz.prog a4G := qj (tab := [a06]) (loops := [(4682, [0, 3, 4], (.cons (.sl Y1_) (.cons (.own 0) (.int .i64))), [.li Y2_ 47 false])]) (joins := []) (un := []) _ (by
  intro e he
  simp only [List.mem_cons, List.not_mem_nil, or_false] at he
  rcases he with rfl
  ·exact xB) (fun s => by kernel_rfl) (by kernel_rfl)
noncomputable def WF (x0 : Y0_) : Option Y0_ :=
 bif decide (((0 : Int) ≤ if (30 : Int) < (↑x0.length : Int) then (30 : Int) else (↑x0.length : Int)) ∧ (if (30 : Int) < (↑x0.length : Int) then (30 : Int) else (↑x0.length : Int)).toNat ≤ x0.length) then
  bif decide ((0 : Nat) = (0 : Nat) ∧ (0 : Nat) + (List.take (if (30 : Int) < (↑x0.length : Int) then (30 : Int) else (↑x0.length : Int)).toNat x0).length ≤ (8796093022208 : Nat)) then
   bif decide (([] ++ List.take (if (30 : Int) < (↑x0.length : Int) then (30 : Int) else (↑x0.length : Int)).toNat x0).length = (0 : Nat) + (List.take (if (30 : Int) < (↑x0.length : Int) then (30 : Int) else (↑x0.length : Int)).toNat x0).length) then
    some ([] ++ List.take (if (30 : Int) < (↑x0.length : Int) then (30 : Int) else (↑x0.length : Int)).toNat x0)
   else none
  else none
 else none
noncomputable def a1p : TEnt := ⟨91, .sl Y1_, [], [(.sl Y1_, [])], fun s => WF s⟩
theorem a3r : qz Tryz.prog a1p := qj (tab := []) (loops := []) (joins := []) (un := []) _ (by intro e he; simp at he) (fun s => by kernel_rfl) (by kernel_rfl)
noncomputable def zd (x0 : Int) : Option Int :=
 bif decide ((30 : Int) < x0) then
  bif decide (x0 ≤ (512 : Int)) then
   some ((30 : Int))
  else some x0
 else some x0
noncomputable def xz : TEnt := ⟨97, .int .i64, [], [(.int .i64, [])], fun s => zd s⟩
theorem a02 : qz Tryz.prog xz := qj (tab := []) (loops := []) (joins := []) (un := []) _ (by intro e he; simp at he) (fun s => by kernel_rfl) (by kernel_rfl)
noncomputable def yM (x0 : Int) : Option Int :=
 bif decide ((30 : Int) < x0) then
  bif decide (x0 ≤ (512 : Int)) then
   some ((30 : Int))
  else some x0
 else some x0
noncomputable def X7 : TEnt := ⟨43, .int .i64, [], [(.int .i64, [])], fun s => yM s⟩
theorem uI : qz Tryz.prog X7 := qj (tab := []) (loops := []) (joins := []) (un := []) _ (by intro e he; simp at he) (fun s => by kernel_rfl) (by kernel_rfl)
noncomputable def wU (x0 : Y9_) (x1 : (List Y0_)) (x2 : Int) (x3 : Int) : Option Y8_ :=
 bif x0.1 then
  some (x1, (x2, x3))
 else bif x0.2.2.1 then
   Option.bind (Ka (x1, x2, x3) x0.2.2.2.1 x0.2.2.2.2.1 x0.2.2.2.2.2.1 x0.2.2.2.2.2.2.1 x0.2.2.2.2.2.2.2.1 x0.2.2.2.2.2.2.2.2.1 x0.2.2.2.2.2.2.2.2.2.1 x0.2.2.2.2.2.2.2.2.2.2.1 x0.2.2.2.2.2.2.2.2.2.2.2.1) fun x4 =>
    Option.bind (jz (x4.1.1, x4.1.2.1, x4.1.2.2) x0.2.2.2.2.2.2.2.2.2.2.2.2.2.2.2.2.2.2.2.1 x0.2.2.2.2.2.2.2.2.2.2.2.2.2.2.2.2.2.2.2.2) fun x5 =>
     some (x5.1, (x5.2.1, x5.2.2))
  else Option.bind (jz (x1, x2, x3) x0.2.2.2.2.2.2.2.2.2.2.2.2.2.2.2.2.2.2.2.1 x0.2.2.2.2.2.2.2.2.2.2.2.2.2.2.2.2.2.2.2.2) fun x4 =>
    some (x4.1, (x4.2.1, x4.2.2))
end Go.Sim
set_option maxRecDepth 100000
set_option maxHeartbeats 4000000
set_option linter.unusedVariables false
namespace Go.Sim
theorem a4m {α : Type} {l : List α} {n : Nat} {x : α} (h : l[n]? = some x) : l.set n x = l := by
 refine List.ext_getElem? fun i => ?_
 by_cases q : i = n
 ·subst q; rw [List.getElem?_set_self (List.getElem?_eq_some_iff.1 h).1, h]
 ·rw [List.getElem?_set_ne (Ne.symm q)]
theorem a57 {L : qh} {n : Nat} {l : List qc} (f : List qc → List qc × Bool) (h : L[n]? = some l) (hf : (f l).2 = false → (f l).1 = l) : zP L (n : Int) f = ((f l).2, L.set n (f l).1) := by
 rw [Ky f h]
 cases hb : (f l).2
 ·rw [hf hb, a4m h]; simp
 ·simp
theorem a6Z {l : List qc} {k : Int} {c : qc} (h : (jj l k c).2 = false) : (jj l k c).1 = l := by
 unfold jj at h ⊢
 split at h
 ·cases h
 ·rename_i q; rw [if_neg q]
theorem a5j {c : qc} {m : Int} (h : (j5 c m).2 = false) : (j5 c m).1 = c := by
 unfold j5 at h ⊢
 split
 ·rename_i q
  rw [if_pos q] at h
  split
  ·rename_i q2; rw [if_pos q2] at h; cases h
  ·rename_i q2
   rw [if_neg q2] at h
   split
   ·rename_i q3; rw [if_pos q3] at h; cases h
   ·rfl
 ·rfl
theorem a45 {l : List qc} {k m : Int} (h : (jS l k m).2 = false) : (jS l k m).1 = l := by
 unfold jS at h ⊢
 split
 ·rename_i q
  rw [if_pos q] at h
  split
  ·rename_i c hc
   simp only [hc] at h
   rw [a5j h, a4m hc]
  ·rfl
 ·rfl
theorem Vf {L : qh} (hL : L.length ≤ 1000000) {n : Nat} (hn : n < L.length) {l : List qc} (hl : l.length ≤ 1000000) (r c : Int) : w7 (L, r, c) (n : Int) l = some (L.set n l, r, c) := by
 unfold w7
 have hT : (L.set n l).length = L.length := List.length_set ..
 have : Yc (((n : Int), l, (0 : Int)), (L, r, c), ((0 : Int), (0 : Int)), []) = some (L.set n l, r, c) := by
  refine zh (st := fun i => (((n : Int), l, ((i : Nat) : Int)), (L, r, c), ((0 : Int), (0 : Int)), (L.set n l).take i)) (n := L.length) (fun i hi => ?_) ?_ 0 (by omega)
  ·obtain ⟨x, hx⟩ := qn hi
   have ht : ((L.set n l).take i).length = i := by rw [List.length_take, hT]; omega
   have ht1 : ((L.set n l).take (i + 1)).length = i + 1 := by rw [List.length_take, hT]; omega
   have e : ((i : Int) + 1) = ((i + 1 : Nat) : Int) := by omega
   have en : ([] : List qc) ++ l = l := rfl
   show k9 _ _ _ _ = _
   unfold k9
   by_cases h1 : i = n
   ·subst h1
    have e3 : (L.set i l).take i ++ [l] = (L.set i l).take (i + 1) := (kg (List.getElem?_set_self hi)).symm
    simp (disch := omega) only [qf, ke, q9, cond_true, Int.toNat_natCast, List.length_append, List.length_cons, List.length_nil, decide_true, true_and, ht, en, e3, ht1, e]
   ·have e3 : (L.set n l).take i ++ [x] = (L.set n l).take (i + 1) := (kg (by rw [List.getElem?_set_ne (Ne.symm h1)]; exact hx)).symm
    simp (disch := omega) only [qf, zg, q9, cond_true, cond_false, Option.bind_some, Int.toNat_natCast, List.length_append, List.length_cons, List.length_nil, decide_true, true_and, hx, ht, e3, e]
  ·show k9 _ _ _ _ = _
   unfold k9
   have ht : (L.set n l).take L.length = L.set n l := List.take_of_length_le (by rw [hT]; omega)
   simp (disch := omega) only [qf, ql, zg, q9, cond_true, cond_false, Int.toNat_natCast, List.length_append, List.length_cons, List.length_nil, decide_true, true_and, ht]
 rw [this]
 rfl
theorem putP_len {l : List qc} {k : Int} {c : qc} : (jj l k c).1.length = l.length := by
 unfold jj; split
 ·rw [zX, UB]
 ·rfl
theorem markP_len {l : List qc} {k m : Int} : (jS l k m).1.length = l.length := by
 unfold jS; split
 ·split
  ·simp
  ·rfl
 ·rfl
theorem a5D {L : qh} (hL : jL L) (hn : L.length ≤ 1000000) (k at' : Int) (ha : Y9 at') {c : qc} (hc : OkC c) (r cc : Int) :
  Ka (L, r, cc) k at' c.1 c.2.1.1 c.2.1.2 c.2.2.1 c.2.2.2.1 c.2.2.2.2.1 c.2.2.2.2.2 = some (((zP L k fun l => jj l at' c).2, r, cc), (zP L k fun l => jj l at' c).1) := by
 unfold Ka jG
 by_cases h1 : 0 ≤ k
 ·by_cases h2 : k < L.length
  ·obtain ⟨n, rfl⟩ : ∃ n : Nat, k = n := ⟨k.toNat, by omega⟩
   obtain ⟨l, hl⟩ := qn (l := L) (i := n) (by omega)
   have hll := hL l (List.mem_of_getElem? hl)
   have hp := afT (k := at') hll ha hc
   have hw := Vf hn (n := n) (by omega) (l := (jj l at' c).1) (by rw [putP_len]; omega) r cc
   rw [a57 (fun l => jj l at' c) hl a6Z]
   simp (disch := omega) only [qf, cond_true, cond_false, Option.bind_some, Int.toNat_natCast, Bool.not_true, hl, hp, hw]
  ·rw [zJ _ (by omega)]
   simp (disch := omega) only [qf, ql, cond_true, Option.bind_some, Bool.not_false]
 ·rw [zJ _ (by omega)]
  simp (disch := omega) only [qf, ql, cond_true, cond_false, Option.bind_some, Bool.not_false]
theorem aaO {L : qh} (hL : jL L) (hn : L.length ≤ 1000000) (k at' m : Int) (ha : Y9 at') (r cc : Int) :
  KS (L, r, cc) k at' m = some (((zP L k fun l => jS l at' m).2, r, cc), (zP L k fun l => jS l at' m).1) := by
 unfold KS jG
 by_cases h1 : 0 ≤ k
 ·by_cases h2 : k < L.length
  ·obtain ⟨n, rfl⟩ : ∃ n : Nat, k = n := ⟨k.toNat, by omega⟩
   obtain ⟨l, hl⟩ := qn (l := L) (i := n) (by omega)
   have hll := hL l (List.mem_of_getElem? hl)
   have hp := a6C hll at' m ha
   have hw := Vf hn (n := n) (by omega) (l := (jS l at' m).1) (by rw [markP_len]; omega) r cc
   rw [a57 (fun l => jS l at' m) hl a45]
   simp (disch := omega) only [qf, cond_true, cond_false, Option.bind_some, Int.toNat_natCast, Bool.not_true, hl, hp, hw]
  ·rw [zJ _ (by omega)]
   simp (disch := omega) only [qf, ql, cond_true, Option.bind_some, Bool.not_false]
 ·rw [zJ _ (by omega)]
  simp (disch := omega) only [qf, ql, cond_true, cond_false, Option.bind_some, Bool.not_false]
theorem a6H {L : qh} (hL : jL L) (hn : L.length ≤ 1000000) (k f t a b c : Int) (r cc : Int) :
  Zj (L, r, cc) k f t a b c = some ((zP L k fun l => (zy (wb l f t a b c), Qv a b c)).2, r, cc) := by
 unfold Zj jG
 by_cases h1 : 0 ≤ k
 ·by_cases h2 : k < L.length
  ·obtain ⟨n, rfl⟩ : ∃ n : Nat, k = n := ⟨k.toNat, by omega⟩
   obtain ⟨l, hl⟩ := qn (l := L) (i := n) (by omega)
   have hll := hL l (List.mem_of_getElem? hl)
   have hp := a9G hll f t a b c
   have hq := a2K a b c
   have hw := Vf hn (n := n) (by omega) (l := zy (wb l f t a b c)) (by rw [zX, ZH]; omega) r cc
   rw [Ky _ hl]
   cases hb : Qv a b c
   ·simp (disch := omega) only [qf, cond_true, cond_false, Option.bind_some, Int.toNat_natCast, Bool.not_true, Bool.not_false, hq, hb, Bool.false_eq_true, if_false]
   ·simp (disch := omega) only [qf, cond_true, cond_false, Option.bind_some, Int.toNat_natCast, Bool.not_true, hl, hp, hq, hb, hw, if_true]
  ·rw [zJ _ (by omega)]
   simp (disch := omega) only [qf, ql, cond_true, Option.bind_some, Bool.not_false]
 ·rw [zJ _ (by omega)]
  simp (disch := omega) only [qf, ql, cond_true, cond_false, Option.bind_some, Bool.not_false]
theorem vI {L : qh} {l : List qc} (h : L[0]? = some l) (r c : Int) : kD L r c = some (l.length : Int) := by
 have hp := (List.getElem?_eq_some_iff.1 h).1
 unfold kD
 simp (disch := omega) only [zg, cond_false, Option.bind_some, h]
theorem abO {L : qh} (hL : jL L) (hn : L.length ≤ 1000000) {l0 : List qc} (h0 : L[0]? = some l0) (k : Int) (s : List qc) (hs : s.length ≤ 1000000) (ok : ∀ c ∈ s, OkC c) (r cc : Int) :
  Y2 (L, r, cc) k s = some (((zP L k fun l => (s, decide ((s.length : Int) = (l0.length : Int)) && z8 s)).2, r, cc), (zP L k fun l => (s, decide ((s.length : Int) = (l0.length : Int)) && z8 s)).1) := by
 unfold Y2 jG
 have hr := a8f hs ok
 have hc := vI h0 r cc
 by_cases h1 : 0 ≤ k
 ·by_cases h2 : k < L.length
  ·obtain ⟨n, rfl⟩ : ∃ n : Nat, k = n := ⟨k.toNat, by omega⟩
   obtain ⟨l, hl⟩ := qn (l := L) (i := n) (by omega)
   have hw := Vf hn (n := n) (by omega) hs r cc
   rw [Ky _ hl]
   by_cases hq : (s.length : Int) = (l0.length : Int)
   ·cases hb : z8 s
    ·simp (disch := omega) only [qf, a3D, cond_true, cond_false, Option.bind_some, Bool.not_true, Bool.not_false, decide_true, hc, hr, hb, hq, Bool.and_false, Bool.false_eq_true, if_false]
    ·simp (disch := omega) only [qf, a3D, cond_true, cond_false, Option.bind_some, Bool.not_true, decide_true, hc, hr, hb, hq, hw, Bool.and_true, if_true]
   ·simp (disch := omega) only [qf, aeK, cond_true, cond_false, Option.bind_some, Bool.not_true, decide_false, hc, hr, hq, Bool.false_and, Bool.false_eq_true, if_false]
  ·rw [zJ _ (by omega)]
   simp (disch := omega) only [qf, ql, cond_true, Option.bind_some, Bool.not_false]
 ·rw [zJ _ (by omega)]
  simp (disch := omega) only [qf, ql, cond_true, cond_false, Option.bind_some, Bool.not_false]
def qF (n : Int) (k : Nat) : Nat := min n.toNat (k - 1)
theorem a1Y {k : Nat} (hk : 1 ≤ k ∧ k ≤ 1000000) (n : Int) : yR n (k : Int) = some (qF n k : Int) := by
 have hw : IntKind.i64.wrap ((k : Int) - 1) = (k : Int) - 1 := q9 (by omega) (by omega)
 unfold yR qF
 rw [hw]
 by_cases h1 : (k : Int) ≤ n
 ·simp (disch := omega) only [qf, ql, cond_true, cond_false]
  congr 1; omega
 ·by_cases h2 : n < 0
  ·simp (disch := omega) only [qf, ql, cond_true, cond_false]
   congr 1; omega
  ·simp (disch := omega) only [ql, cond_false]
   congr 1; omega
theorem WJ {L : qh} (hn : L.length ≤ 1000000) {l0 : List qc} (h0 : L[0]? = some l0) (hl : 1 ≤ l0.length ∧ l0.length ≤ 1000000) (r c a b : Int) : jz (L, a, b) r c = some (L, (qF r L.length : Int), (qF c l0.length : Int)) := by
 have hp := (List.getElem?_eq_some_iff.1 h0).1
 have e1 := a1Y (k := L.length) ⟨by omega, hn⟩ r
 have e2 := a1Y hl c
 unfold jz
 simp (disch := omega) only [zg, cond_false, Option.bind_some, vI h0, e1, e2]
theorem yk {L : qh} (hn : 1 ≤ L.length ∧ L.length ≤ 1000000) {cols : Nat} (hc : 1 ≤ cols ∧ cols ≤ 1000000) (r c a b : Int) : kz (r, c) (a, b, (cols : Int)) L = some (((qF r L.length : Int), (qF c cols : Int), (cols : Int)), L) := by
 have hw : ∀ k : Nat, 1 ≤ k → k ≤ 1000000 → IntKind.i64.wrap ((k : Int) - 1) = (k : Int) - 1 := fun k _ _ => q9 (by omega) (by omega)
 have hm : ∀ (k : Nat) (n : Int), 1 ≤ k → (if (k : Int) - 1 < if (0 : Int) > n then (0 : Int) else n then (k : Int) - 1 else if (0 : Int) > n then (0 : Int) else n) = (qF n k : Int) := by
  intro k n hk
  unfold qF
  by_cases h1 : (0 : Int) > n
  ·simp only [h1, if_true]; rw [if_neg (by omega)]; omega
  ·simp only [h1, if_false]; split <;> omega
 unfold kz
 simp only [hw _ hn.1 hn.2, hw _ hc.1 hc.2, hm _ _ hn.1, hm _ _ hc.1]
 simp (disch := omega) only [cond_true, decide_true]
end Go.Sim
set_option maxRecDepth 100000
set_option maxHeartbeats 0
set_option linter.unusedVariables false
namespace Go.Sim
open Go.Proofs
noncomputable def zu (x2 : Y0_) (x3 : Y0_) (x4 : Int) (x5 : Int) : Option ((Y0_ × xk) ⊕ Bool) :=
 bif decide (x5 < x4) then
  bif decide ((0 : Int) ≤ x5) then
   Option.bind (x2[x5.toNat]?) fun x6 =>
    bif decide ((0 : Int) ≤ x5) then
     Option.bind (x3[x5.toNat]?) fun x7 =>
      bif !(x6.1 == x7.1 && (x6.2.1.1 == x7.2.1.1 && (x6.2.1.2 == x7.2.1.2 && Bool.true) && (x6.2.2.1 == x7.2.2.1 && (x6.2.2.2.1 == x7.2.2.2.1 && (x6.2.2.2.2.1 == x7.2.2.2.2.1 && (x6.2.2.2.2.2 == x7.2.2.2.2.2 && Bool.true)) && Bool.true)))) then
       some (Sum.inr Bool.false)
      else some (Sum.inl (x2, (x3, (x4, (Go.IntKind.i64.wrap (x5 + (1 : Int)))))))
    else none
  else none
 else some (Sum.inr Bool.true)
noncomputable def ZY : (Y0_ × xk) → Option Bool := z3 fun s => zu s.1 s.2.1 s.2.2.1 s.2.2.2
noncomputable def yq (x0 : Y0_) (x1 : Y0_) : Option Bool :=
 bif (↑(List.length x0) : Int) != (↑x1.length : Int) then
  some Bool.false
 else Option.bind (ZY (x0, (x1, (((↑(List.length x0) : Int)), ((0 : Int)))))) fun x2 =>
   some x2
noncomputable def Ye : TEnt := ⟨116, .cons (.sl Y1_) (.sl Y1_), [], [(.bool, [])], fun s => yq s.1 s.2⟩
theorem xp : qz Tryz.prog Ye := qj (tab := []) (loops := [(37450, [0, 1, 12, 13], (.cons (.sl Y1_) (.cons (.sl Y1_) Y7_)), [])]) (joins := []) (un := []) _ (by intro e he; simp at he) (fun s => by kernel_rfl) (by kernel_rfl)
noncomputable def Zi (x0 : Y0_) (x1 : Y0_) : Option Bool :=
 Option.bind (yq x0 x1) fun x2 =>
  some x2
noncomputable def Wa : TEnt := ⟨65, .cons (.sl Y1_) (.sl Y1_), [], [(.bool, [])], fun s => Zi s.1 s.2⟩
theorem JF : qz Tryz.prog Wa := qj (tab := [Ye]) (loops := []) (joins := []) (un := []) _ (by
  intro e he
  simp only [List.mem_cons, List.not_mem_nil, or_false] at he
  rcases he with rfl
  ·exact xp) (fun s => by kernel_rfl) (by kernel_rfl)
noncomputable def qZ (x2 : (List Y0_)) (x3 : (List Y0_)) (x4 : Int) (x5 : Int) : Option (((List Y0_) × Y8_) ⊕ Bool) :=
 bif decide (x5 < x4) then
  bif decide ((0 : Int) ≤ x5) then
   Option.bind (x3[x5.toNat]?) fun x6 =>
    bif decide ((0 : Int) ≤ x5) then
     Option.bind (x2[x5.toNat]?) fun x7 =>
      Option.bind (Zi x6 x7) fun x8 =>
       bif !x8 then
        some (Sum.inr Bool.false)
       else some (Sum.inl (x2, (x3, (x4, (Go.IntKind.i64.wrap (x5 + (1 : Int)))))))
    else none
  else none
 else some (Sum.inr Bool.true)
noncomputable def yD : ((List Y0_) × Y8_) → Option Bool := z3 fun s => qZ s.1 s.2.1 s.2.2.1 s.2.2.2
noncomputable def ji (x0 : (List Y0_)) (x1 : (List Y0_)) : Option Bool :=
 bif (↑(List.length x0) : Int) != (↑x1.length : Int) then
  some Bool.false
 else Option.bind (yD (x1, (x0, (((↑(List.length x0) : Int)), ((0 : Int)))))) fun x2 =>
   some x2
noncomputable def Zh : TEnt := ⟨64, .cons (.sl (.sl Y1_)) (.cons (.sl (.sl Y1_)) (.fn 65 .nil .nil)), [], [(.bool, [])], fun s => ji s.1 s.2⟩
theorem Wf : qz Tryz.prog Zh := qj (tab := [Wa]) (loops := [(37450, [1, 2, 15, 16, 17], (.cons (.sl (.sl Y1_)) (.cons (.fn 65 .nil .nil) (.cons (.sl (.sl Y1_)) Y7_))), [])]) (joins := []) (un := []) _ (by
  intro e he
  simp only [List.mem_cons, List.not_mem_nil, or_false] at he
  rcases he with rfl
  ·exact JF) (fun s => by kernel_rfl) (by kernel_rfl)
noncomputable def wj (x0 : Y4_) (x1 : (List Y0_)) (x2 : Y4_) (x3 : (List Y0_)) : Option (Bool × K5) :=
 bif x0.1 == x2.1 && (x0.2.1 == x2.2.1 && Bool.true) then
  bif x0.2.2 == x2.2.2 then
   bif decide (x3.length = x3.length) then
    bif decide (List.length x1 = List.length x1) then
     Option.bind (ji x1 x3) fun x4 =>
      bif decide (x3.length = x3.length) then
       bif decide (List.length x1 = List.length x1) then
        some (x4, ((x0.1, (x0.2.1, x0.2.2)), (x1, ((x2.1, (x2.2.1, x2.2.2)), x3))))
       else none
      else none
    else none
   else none
  else bif decide (x3.length = x3.length) then
    bif decide (List.length x1 = List.length x1) then
     some (Bool.false, ((x0.1, (x0.2.1, x0.2.2)), (x1, ((x2.1, (x2.2.1, x2.2.2)), x3))))
    else none
   else none
 else bif decide (x3.length = x3.length) then
   bif decide (List.length x1 = List.length x1) then
    some (Bool.false, ((x0.1, (x0.2.1, x0.2.2)), (x1, ((x2.1, (x2.2.1, x2.2.2)), x3))))
   else none
  else none
noncomputable def JE : TEnt := ⟨21, .cons (.ptr 0 0) (.ptr 2 0), [.st Y3_, .li (.sl Y1_) 104 false, .st xh, .li (.sl Y1_) 104 false], [(.bool, [.st Y3_, .li (.sl Y1_) 104 false, .st xh, .li (.sl Y1_) 104 false])], fun s => wj s.1 s.2.1 s.2.2.1 s.2.2.2⟩
theorem JP : qz Tryz.prog JE := qj (tab := [Wa, Zh]) (loops := []) (joins := []) (un := []) _ (by
  intro e he
  simp only [List.mem_cons, List.not_mem_nil, or_false] at he
  rcases he with rfl | rfl
  ·exact JF
  ·exact Wf) (fun s => by kernel_rfl) (by kernel_rfl)
noncomputable def wE (x0 : Y0_) : Option Bool :=
 Option.bind (wy x0) fun x1 =>
  some !x1
noncomputable def QP : TEnt := ⟨62, .sl Y1_, [], [(.bool, [])], fun s => wE s⟩
theorem Zm : qz Tryz.prog QP := qj (tab := [KU]) (loops := []) (joins := []) (un := []) _ (by
  intro e he
  simp only [List.mem_cons, List.not_mem_nil, or_false] at he
  rcases he with rfl
  ·exact Jj) (fun s => by kernel_rfl) (by kernel_rfl)
noncomputable def qY (x1 : (List Y0_)) (x2 : Int) (x3 : Int) : Option (Y8_ ⊕ Int) :=
 bif decide (x3 < x2) then
  bif decide ((0 : Int) ≤ x3) then
   Option.bind (x1[x3.toNat]?) fun x4 =>
    Option.bind (wE x4) fun x5 =>
     bif x5 then
      some (Sum.inr x3)
     else some (Sum.inl (x1, (x2, (Go.IntKind.i64.wrap (x3 + (1 : Int))))))
  else none
 else some (Sum.inr ((-1 : Int)))
noncomputable def yK : Y8_ → Option Int := z3 fun s => qY s.1 s.2.1 s.2.2
noncomputable def wG (x0 : (List Y0_)) : Option Int :=
 Option.bind (yK (x0, (((↑x0.length : Int)), ((0 : Int))))) fun x1 =>
  some x1
noncomputable def Z8 : TEnt := ⟨113, .cons (.sl (.sl Y1_)) (.fn 62 .nil .nil), [], [(.int .i64, [])], fun s => wG s⟩
theorem W6 : qz Tryz.prog Z8 := qj (tab := [QP]) (loops := [(586, [0, 1, 7, 8], (.cons (.sl (.sl Y1_)) (.cons (.fn 62 .nil .nil) Y7_)), [])]) (joins := []) (un := []) _ (by
  intro e he
  simp only [List.mem_cons, List.not_mem_nil, or_false] at he
  rcases he with rfl
  ·exact Zm) (fun s => by kernel_rfl) (by kernel_rfl)
noncomputable def wQ (x0 : Y4_) (x1 : (List Y0_)) : Option (Bool × je) :=
 bif decide (x1.length = x1.length) then
  Option.bind (wG x1) fun x2 =>
   bif decide (x1.length = x1.length) then
    some ((!decide ((0 : Int) ≤ x2)), ((x0.1, (x0.2.1, x0.2.2)), x1))
   else none
 else none
noncomputable def vC : TEnt := ⟨20, .ptr 0 0, [.st Y3_, .li (.sl Y1_) 104 false], [(.bool, [.st Y3_, .li (.sl Y1_) 104 false])], fun s => wQ s.1 s.2⟩
theorem Xt : qz Tryz.prog vC := qj (tab := [QP, Z8]) (loops := []) (joins := []) (un := []) _ (by
  intro e he
  simp only [List.mem_cons, List.not_mem_nil, or_false] at he
  rcases he with rfl | rfl
  ·exact Zm
  ·exact W6) (fun s => by kernel_rfl) (by kernel_rfl)
noncomputable def zW (x5 : (Int × ((Nat × Nat) × (Int × Int)))) (x6 : Y4_) (x7 : (List Y0_)) (x8 : Y4_) (x9 : (List Y0_)) : Option (((Int × ((Nat × Nat) × (Int × Int))) × K5) ⊕ (je ⊕ K5)) :=
 bif decide (x5.2.2.2 < x5.2.2.1) then
  bif decide ((0 : Int) ≤ x5.2.2.2 ∧ x5.2.2.2.toNat < x5.2.1.2) then
   bif decide (x5.2.1.1 + x5.2.2.2.toNat < List.length x7 ∧ List.length x7 = List.length x7) then
    bif decide (List.length x7 = List.length x7) then
     Option.bind (x7[x5.2.1.1 + x5.2.2.2.toNat]?) fun x10 =>
      Option.bind (KG x10 x5.1) fun x11 =>
       bif decide ((0 : Int) ≤ x5.2.2.2) then
        bif decide (x5.2.2.2.toNat < x9.length ∧ x9.length = x9.length) then
         bif decide (x9.length = x9.length) then
          Option.bind (x9[x5.2.2.2.toNat]?) fun x12 =>
           bif decide (x9.length = (x9.set x5.2.2.2.toNat x11).length) then
            bif decide (List.length x7 = List.length x7) then
             bif decide (List.length x7 = List.length x7) then
              some (Sum.inl ((x5.1, ((x5.2.1.1, x5.2.1.2), (x5.2.2.1, (Go.IntKind.i64.wrap (x5.2.2.2 + (1 : Int)))))), ((x6.1, (x6.2.1, x6.2.2)), (x7, ((x8.1, (x8.2.1, x8.2.2)), (x9.set x5.2.2.2.toNat x11))))))
             else none
            else none
           else none
         else none
        else none
       else none
    else none
   else none
  else none
 else bif decide (x9.length = x9.length) then
   Option.bind (kz (x6.1, x6.2.1) (x8.1, x8.2.1, x8.2.2) x9) fun x10 =>
    bif decide (x10.2.length = x10.2.length) then
     bif decide (List.length x7 = List.length x7) then
      some (Sum.inr (Sum.inr ((x6.1, (x6.2.1, x6.2.2)), (x7, ((x10.1.1, (x10.1.2.1, x10.1.2.2)), x10.2)))))
     else none
    else none
  else none
noncomputable def Yi : ((Int × ((Nat × Nat) × (Int × Int))) × K5) → Option (je ⊕ K5) := z3 fun s => zW s.1 s.2.1 s.2.2.1 s.2.2.2.1 s.2.2.2.2
noncomputable def yf (x0 : (Int × Int)) (x1 : Y4_) (x2 : (List Y0_)) : Option (je ⊕ K5) :=
 Option.bind (wc x0.1 x0.2) fun x3 =>
  match x3 with
  | Sum.inl x4 =>
    bif decide (x2.length = x2.length) then
     some (Sum.inl ((x1.1, (x1.2.1, x1.2.2)), x2))
    else none
  | Sum.inr x4 =>
    bif decide (x2.length = x2.length) then
     bif decide ((0 : Nat) < x2.length ∧ x2.length = x2.length) then
      bif decide (((0 : Int) ≤ if (↑x2.length : Int) < x0.1 then (↑x2.length : Int) else x0.1) ∧ (if (↑x2.length : Int) < x0.1 then (↑x2.length : Int) else x0.1).toNat ≤ x2.length) then
       bif decide (x2.length = x2.length) then
        bif decide (x4.2.length = x4.2.length) then
         bif decide (x2.length = x2.length) then
          bif decide (x2.length = x2.length) then
           Option.bind (Yi ((x0.2, ((((0 : Nat)), ((if (↑x2.length : Int) < x0.1 then (↑x2.length : Int) else x0.1).toNat)), (((↑(if (↑x2.length : Int) < x0.1 then (↑x2.length : Int) else x0.1).toNat : Int)), ((0 : Int))))), ((x1.1, (x1.2.1, x1.2.2)), (x2, ((x4.1.1, (x4.1.2.1, x4.1.2.2)), x4.2))))) fun x5 =>
            some x5
          else none
         else none
        else none
       else none
      else none
     else none
    else none
noncomputable def u5 : TEnt := ⟨80, .cons (.ptr 0 0) Y7_, [.st Y3_, .li (.sl Y1_) 104 false], [(.tup (.cons (.cst (.pointer none)) (.cst (.int .i64 11))), [.st Y3_, .li (.sl Y1_) 104 false]), (.tup (.cons (.ptr 2 0) (.cst (.int .i64 0))), [.st Y3_, .li (.sl Y1_) 104 false, .st xh, .li (.sl Y1_) 104 false])], fun s => yf s.1 s.2.1 s.2.2⟩
theorem a0O : qz Tryz.prog u5 := qj (tab := [UH, KD, jq]) (loops := [(19173962, [0, 2, 8, 34, 35, 36], (.cons (.ptr 0 0) (.cons (.int .i64) (.cons (.ptr 2 0) (.cons (.part 1) Y7_)))), [.st Y3_, .li (.sl Y1_) 104 false, .st xh, .li (.sl Y1_) 104 false])]) (joins := []) (un := []) _ (by
  intro e he
  simp only [List.mem_cons, List.not_mem_nil, or_false] at he
  rcases he with rfl | rfl | rfl
  ·exact a0N
  ·exact ZF
  ·exact kI) (fun s => by kernel_rfl) (by kernel_rfl)
noncomputable def kJ (x2 : Int) (x3 : Y4_) (x4 : (List Y0_)) (x5 : (Int × Int)) (x6 : (Int × Int)) (x7 : (List Y0_)) : Option ((Int × (Y4_ × ((List Y0_) × a4d))) ⊕ (Y8_ × je)) :=
 bif decide (List.length x4 = List.length x4) then
  Option.bind (z9 (x3.1, x3.2.1, x3.2.2) x4) fun x8 =>
   bif decide (x2 < x8.1) then
    bif decide (x8.2.2.length = x8.2.2.length) then
     Option.bind (JL x2 (x8.2.1.1, x8.2.1.2.1, x8.2.1.2.2) x8.2.2) fun x9 =>
      Option.bind (JN x9.1) fun x10 =>
       bif decide ((1 : Nat) = (1 : Nat)) then
        bif decide (x7.length = x7.length ∧ x7.length + (1 : Nat) ≤ (5864062014805 : Nat)) then
         bif decide (x7.length + (1 : Nat) = (x7 ++ [x10]).length) then
          bif decide (x9.2.2.length = x9.2.2.length) then
           some (Sum.inl ((Go.IntKind.i64.wrap (x2 + (1 : Int))), ((x9.2.1.1, (x9.2.1.2.1, x9.2.1.2.2)), (x9.2.2, ((x5.1, x5.2), ((x6.1, x6.2), (x7 ++ [x10])))))))
          else none
         else none
        else none
       else none
    else none
   else bif decide (x8.2.2.length = x8.2.2.length) then
     Option.bind (z7 (x8.2.1.1, x8.2.1.2.1, x8.2.1.2.2) x8.2.2) fun x9 =>
      bif decide (x9.2.2.length = x9.2.2.length) then
       Option.bind (qM (x9.2.1.1, x9.2.1.2.1, x9.2.1.2.2) x9.2.2) fun x10 =>
        bif decide (x10.2.2.length = x10.2.2.length) then
         bif decide (x7.length = x7.length) then
          some (Sum.inr ((x7, (x9.1, x10.1)), ((x10.2.1.1, (x10.2.1.2.1, x10.2.1.2.2)), x10.2.2)))
         else none
        else none
      else none
    else none
 else none
noncomputable def xD : (Int × (Y4_ × ((List Y0_) × a4d))) → Option (Y8_ × je) := z3 fun s => kJ s.1 s.2.1 s.2.2.1 s.2.2.2.1 s.2.2.2.2.1 s.2.2.2.2.2
noncomputable def Uu (x0 : Y4_) (x1 : (List Y0_)) : Option (Y8_ × je) :=
 bif decide (x1.length = x1.length) then
  Option.bind (xD (((0 : Int)), ((x0.1, (x0.2.1, x0.2.2)), (x1, ((((0 : Int)), ((0 : Int))), ((((0 : Int)), ((0 : Int))), [])))))) fun x2 =>
   some x2
 else none
noncomputable def YK (x0 : Y8_) (x1 : Y4_) (x2 : (List Y0_)) : Option (Bool × je) :=
 bif decide (x2.length = x2.length) then
  Option.bind (z9 (x1.1, x1.2.1, x1.2.2) x2) fun x3 =>
   bif x3.1 == (↑x0.1.length : Int) then
    bif decide (x3.2.2.length = x3.2.2.length) then
     Option.bind (zm (x3.2.1.1, x3.2.1.2.1, x3.2.1.2.2) x3.2.2) fun x4 =>
      Option.bind (kD x0.1 x0.2.1 x0.2.2) fun x5 =>
       bif x4.1 == x5 then
        bif decide (x4.2.2.length = x4.2.2.length) then
         Option.bind (Uu (x4.2.1.1, x4.2.1.2.1, x4.2.1.2.2) x4.2.2) fun x6 =>
          Option.bind (YU (x6.1.1, x6.1.2.1, x6.1.2.2) x0.1 x0.2.1 x0.2.2) fun x7 =>
           bif decide (x6.2.2.length = x6.2.2.length) then
            some (x7, ((x6.2.1.1, (x6.2.1.2.1, x6.2.1.2.2)), x6.2.2))
           else none
        else none
       else bif decide (x4.2.2.length = x4.2.2.length) then
         some (Bool.false, ((x4.2.1.1, (x4.2.1.2.1, x4.2.1.2.2)), x4.2.2))
        else none
    else none
   else bif decide (x3.2.2.length = x3.2.2.length) then
     some (Bool.false, ((x3.2.1.1, (x3.2.1.2.1, x3.2.1.2.2)), x3.2.2))
    else none
 else none
noncomputable def vb (x0 : (Y8_ × (Int × (Int × (Int × (Int × (Int × (Int × (Int × (Int × (Int × (Int × (Int × (Int × (Int × (Int × (Int × Y0_))))))))))))))))) (x1 : Y4_) (x2 : (List Y0_)) : Option (((Y8_ × Bool) × je) ⊕ (((Y8_ × Bool) × K5) ⊕ ((Y8_ × Bool) × je))) :=
 bif x0.2.1 == (0 : Int) then
  Option.bind (W5 x0.2.2.2.2.2.1 x0.2.2.2.2.2.2.1 x0.2.2.2.2.2.2.2.1 x0.2.2.2.2.2.2.2.2.1 x0.2.2.2.2.2.2.2.2.2.1 x0.2.2.2.2.2.2.2.2.2.2.1 x0.2.2.2.2.2.2.2.2.2.2.2.1) fun x3 =>
   Option.bind (Ka (x0.1.1, x0.1.2.1, x0.1.2.2) x0.2.2.1 x0.2.2.2.1 x3.1 x3.2.1 x3.2.2.1 x3.2.2.2.1 x3.2.2.2.2.1 x3.2.2.2.2.2.1 x3.2.2.2.2.2.2) fun x4 =>
    bif decide (x2.length = x2.length) then
     Option.bind (QN (x0.2.2.1, x0.2.2.2.1, x0.2.2.2.2.2.1, x0.2.2.2.2.2.2.1, x0.2.2.2.2.2.2.2.1, x0.2.2.2.2.2.2.2.2.1, x0.2.2.2.2.2.2.2.2.2.1, x0.2.2.2.2.2.2.2.2.2.2.1, x0.2.2.2.2.2.2.2.2.2.2.2.1) (x1.1, x1.2.1, x1.2.2) x2) fun x5 =>
      bif decide (x5.2.2.length = x5.2.2.length) then
       some (Sum.inl (((x4.1.1, (x4.1.2.1, x4.1.2.2)), (x5.1 == x4.2)), ((x5.2.1.1, (x5.2.1.2.1, x5.2.1.2.2)), x5.2.2)))
      else none
    else none
 else bif x0.2.1 == (1 : Int) then
   Option.bind (KS (x0.1.1, x0.1.2.1, x0.1.2.2) x0.2.2.1 x0.2.2.2.1 (Go.IntKind.i64.wrap x0.2.2.2.2.2.2.2.2.2.2.2.2.1)) fun x3 =>
    bif decide (x2.length = x2.length) then
     Option.bind (Z4 (x0.2.2.1, x0.2.2.2.1, x0.2.2.2.2.2.2.2.2.2.2.2.2.1) (x1.1, x1.2.1, x1.2.2) x2) fun x4 =>
      bif decide (x4.2.2.length = x4.2.2.length) then
       some (Sum.inl (((x3.1.1, (x3.1.2.1, x3.1.2.2)), (x4.1 == x3.2)), ((x4.2.1.1, (x4.2.1.2.1, x4.2.1.2.2)), x4.2.2)))
      else none
    else none
  else bif x0.2.1 == (2 : Int) then
    bif decide (x2.length = x2.length) then
     Option.bind (Qb (x0.2.2.1, x0.2.2.2.1, x0.2.2.2.2.1, x0.2.2.2.2.2.2.2.2.2.2.2.2.2.1, x0.2.2.2.2.2.2.2.2.2.2.2.2.2.2.1, x0.2.2.2.2.2.2.2.2.2.2.2.2.2.2.2.1) (x1.1, x1.2.1, x1.2.2) x2) fun x3 =>
      Option.bind (Zj (x0.1.1, x0.1.2.1, x0.1.2.2) x0.2.2.1 x0.2.2.2.1 x0.2.2.2.2.1 x0.2.2.2.2.2.2.2.2.2.2.2.2.2.1 x0.2.2.2.2.2.2.2.2.2.2.2.2.2.2.1 x0.2.2.2.2.2.2.2.2.2.2.2.2.2.2.2.1) fun x4 =>
       bif decide (x3.2.length = x3.2.length) then
        some (Sum.inl (((x4.1, (x4.2.1, x4.2.2)), Bool.true), ((x3.1.1, (x3.1.2.1, x3.1.2.2)), x3.2)))
       else none
    else none
   else bif x0.2.1 == (3 : Int) then
     Option.bind (WF x0.2.2.2.2.2.2.2.2.2.2.2.2.2.2.2.2) fun x3 =>
      Option.bind (JN x3) fun x4 =>
       Option.bind (Y2 (x0.1.1, x0.1.2.1, x0.1.2.2) x0.2.2.1 x4) fun x5 =>
        bif decide (x2.length = x2.length) then
         Option.bind (Kk (x0.2.2.1, x3) (x1.1, x1.2.1, x1.2.2) x2) fun x6 =>
          bif decide (x6.2.2.length = x6.2.2.length) then
           some (Sum.inl (((x5.1.1, (x5.1.2.1, x5.1.2.2)), (x6.1 == x5.2)), ((x6.2.1.1, (x6.2.1.2.1, x6.2.1.2.2)), x6.2.2)))
          else none
        else none
    else bif x0.2.1 == (4 : Int) then
      bif decide (x2.length = x2.length) then
       Option.bind (kz (x0.2.2.1, x0.2.2.2.1) (x1.1, x1.2.1, x1.2.2) x2) fun x3 =>
        Option.bind (jz (x0.1.1, x0.1.2.1, x0.1.2.2) x0.2.2.1 x0.2.2.2.1) fun x4 =>
         bif decide (x3.2.length = x3.2.length) then
          some (Sum.inl (((x4.1, (x4.2.1, x4.2.2)), Bool.true), ((x3.1.1, (x3.1.2.1, x3.1.2.2)), x3.2)))
         else none
      else none
     else bif x0.2.1 == (5 : Int) then
       bif decide (x2.length = x2.length) then
        Option.bind (yr (x0.2.2.1, x0.2.2.2.2.2.2.2.2.2.2.2.2.2.1, x0.2.2.2.2.2.2.2.2.2.2.2.2.2.2.1, x0.2.2.2.2.2.2.2.2.2.2.2.2.2.2.2.1) (x1.1, x1.2.1, x1.2.2) x2) fun x3 =>
         Option.bind (Q7 (x0.1.1, x0.1.2.1, x0.1.2.2) x0.2.2.1 x0.2.2.2.2.2.2.2.2.2.2.2.2.2.1 x0.2.2.2.2.2.2.2.2.2.2.2.2.2.2.1 x0.2.2.2.2.2.2.2.2.2.2.2.2.2.2.2.1) fun x4 =>
          bif decide (x3.2.length = x3.2.length) then
           some (Sum.inl (((x4.1, (x4.2.1, x4.2.2)), Bool.true), ((x3.1.1, (x3.1.2.1, x3.1.2.2)), x3.2)))
          else none
       else none
      else bif x0.2.1 == (6 : Int) then
        Option.bind (zd x0.2.2.1) fun x3 =>
         Option.bind (zd x0.2.2.2.1) fun x4 =>
          bif decide (x2.length = x2.length) then
           Option.bind (yf (x3, x4) (x1.1, x1.2.1, x1.2.2) x2) fun x5 =>
            match x5 with
            | Sum.inl x6 =>
              Option.bind (zd x0.2.2.1) fun x7 =>
               Option.bind (zd x0.2.2.2.1) fun x8 =>
                Option.bind (QQ x7 x8) fun x9 =>
                 bif !x9 then
                  bif decide (x6.2.length = x6.2.length) then
                   some (Sum.inl (((x0.1.1, (x0.1.2.1, x0.1.2.2)), Bool.true), ((x6.1.1, (x6.1.2.1, x6.1.2.2)), x6.2)))
                  else none
                 else Option.bind (zd x0.2.2.1) fun x10 =>
                   Option.bind (zd x0.2.2.2.1) fun x11 =>
                    Option.bind (ZL (x0.1.1, x0.1.2.1, x0.1.2.2) x10 x11) fun x12 =>
                     bif decide (x6.2.length = x6.2.length) then
                      some (Sum.inr (Sum.inr (((x12.1, (x12.2.1, x12.2.2)), Bool.false), ((x6.1.1, (x6.1.2.1, x6.1.2.2)), x6.2))))
                     else none
            | Sum.inr x6 =>
              Option.bind (zd x0.2.2.1) fun x7 =>
               Option.bind (zd x0.2.2.2.1) fun x8 =>
                Option.bind (QQ x7 x8) fun x9 =>
                 bif !x9 then
                  bif decide (x6.2.1.length = x6.2.1.length) then
                   some (Sum.inl (((x0.1.1, (x0.1.2.1, x0.1.2.2)), Bool.false), ((x6.1.1, (x6.1.2.1, x6.1.2.2)), x6.2.1)))
                  else none
                 else Option.bind (zd x0.2.2.1) fun x10 =>
                   Option.bind (zd x0.2.2.2.1) fun x11 =>
                    Option.bind (ZL (x0.1.1, x0.1.2.1, x0.1.2.2) x10 x11) fun x12 =>
                     bif decide (x6.2.2.2.length = x6.2.2.2.length) then
                      bif decide (x6.2.1.length = x6.2.1.length) then
                       some (Sum.inr (Sum.inl (((x12.1, (x12.2.1, x12.2.2)), Bool.true), ((x6.1.1, (x6.1.2.1, x6.1.2.2)), (x6.2.1, ((x6.2.2.1.1, (x6.2.2.1.2.1, x6.2.2.1.2.2)), x6.2.2.2))))))
                      else none
                     else none
          else none
       else bif x0.2.1 == (7 : Int) then
         bif decide (x2.length = x2.length) then
          Option.bind (jn (x1.1, x1.2.1, x1.2.2) x2) fun x3 =>
           bif decide (x3.2.1.length = x3.2.1.length) then
            bif decide (x3.2.2.2.length = x3.2.2.2.length) then
             Option.bind (wj (x3.2.2.1.1, x3.2.2.1.2.1, x3.2.2.1.2.2) x3.2.2.2 (x3.1.1, x3.1.2.1, x3.1.2.2) x3.2.1) fun x4 =>
              bif decide (x4.2.2.1.length = x4.2.2.1.length) then
               bif decide (x4.2.2.2.2.length = x4.2.2.2.2.length) then
                some (Sum.inr (Sum.inl (((x0.1.1, (x0.1.2.1, x0.1.2.2)), x4.1), ((x4.2.2.2.1.1, (x4.2.2.2.1.2.1, x4.2.2.2.1.2.2)), (x4.2.2.2.2, ((x4.2.1.1, (x4.2.1.2.1, x4.2.1.2.2)), x4.2.2.1))))))
               else none
              else none
            else none
           else none
         else none
        else bif decide (x2.length = x2.length) then
          some (Sum.inl (((x0.1.1, (x0.1.2.1, x0.1.2.2)), Bool.true), ((x1.1, (x1.2.1, x1.2.2)), x2)))
         else none
noncomputable def a4q : TEnt := ⟨46, .cons (.ptr 0 0) (.cons (.agg yV) (.agg (.cons (.int .i64) (.cons (.int .i64) (.cons (.int .i64) (.cons (.int .i64) (.cons (.int .i32) (.cons (.int .i32) (.cons (.int .i32) (.cons (.int .u8) (.cons (.int .u8) (.cons (.int .u8) (.cons (.int .u8) (.cons (.int .i32) (.cons (.int .u8) (.cons (.int .u8) (.cons (.int .u8) (.sl Y1_)))))))))))))))))), [.st Y3_, .li (.sl Y1_) 104 false], [(.tup (.cons (.ptr 0 0) aac), [.st Y3_, .li (.sl Y1_) 104 false]), (.tup (.cons (.ptr 2 0) aac), [.st Y3_, .li (.sl Y1_) 104 false, .st xh, .li (.sl Y1_) 104 false]), (.tup (.cons (.cst (.pointer none)) aac), [.st Y3_, .li (.sl Y1_) 104 false])], fun s => vb s.1 s.2.1 s.2.2⟩
theorem a4l : qz Tryz.prog a4q := qj (tab := [Kf, xV, vo, uw, jq, Ym, wp, a09, a1N, Ue, xF, a15, YG, vJ, a16, a06, a4G, a1p, xz, JE, u5]) (loops := []) (joins := []) (un := []) _ (by
  intro e he
  simp only [List.mem_cons, List.not_mem_nil, or_false] at he
  rcases he with rfl | rfl | rfl | rfl | rfl | rfl | rfl | rfl | rfl | rfl | rfl | rfl | rfl | rfl | rfl | rfl | rfl | rfl | rfl | rfl | rfl
  ·exact ZC
  ·exact UA
  ·exact Xo
  ·exact a0p
  ·exact kI
  ·exact xf
  ·exact jo
  ·exact a0L
  ·exact a24
  ·exact a10
  ·exact uJ
  ·exact a37
  ·exact Yo
  ·exact Xm
  ·exact a3x
  ·exact xB
  ·exact a5Q
  ·exact a3r
  ·exact a02
  ·exact JP
  ·exact a0O) (fun s => by kernel_rfl) (by kernel_rfl)
end Go.Sim
set_option maxRecDepth 100000
set_option maxHeartbeats 4000000
set_option linter.unusedVariables false
namespace Go.Sim
def qD (n : Int) : Bool := decide (1 ≤ n) && decide (n ≤ 512)
theorem a1B (n : Int) : yH n = some (qD n) := by
 unfold yH qD
 by_cases h : 1 ≤ n <;> simp [h]
theorem a6j (r c : Int) : QQ r c = some (qD r && qD c) := by
 unfold QQ qD
 by_cases h1 : 1 ≤ r <;> by_cases h2 : r ≤ 512 <;> by_cases h3 : 1 ≤ c <;> by_cases h4 : c ≤ 512 <;> simp [h1, h2, h3, h4]
theorem adM {n : Nat} (hn : n ≤ 1000000) (c : Int) : WK (n : Int) c = some (((0, 0) : Int × Int), List.replicate n (km c)) := by
 unfold WK
 have : vS (((n : Int), c, (0 : Int)), ((0 : Int), (0 : Int)), ((0 : Int), (0 : Int)), []) = some (((0, 0) : Int × Int), List.replicate n (km c)) := by
  refine zh (st := fun i => (((n : Int), c, ((i : Nat) : Int)), ((0 : Int), (0 : Int)), ((0 : Int), (0 : Int)), List.replicate i (km c))) (n := n) (fun i hi => ?_) ?_ 0 (by omega)
  ·show kA _ _ _ _ = _
   unfold kA
   have e : ((i : Int) + 1) = ((i + 1 : Nat) : Int) := by omega
   have hnl := u9 c
   have e2 : List.replicate i (km c) ++ [km c] = List.replicate (i + 1) (km c) := K2 i _
   simp (disch := omega) only [qf, q9, cond_true, Option.bind_some, List.length_append, List.length_cons, List.length_nil, decide_true, true_and, hnl, List.length_replicate, e2, e]
  ·show kA _ _ _ _ = _
   unfold kA
   simp (disch := omega) only [ql, q9, cond_true, cond_false, List.length_append, List.length_cons, List.length_nil, decide_true, true_and]
 rw [this]
 rfl
theorem WW (r c : Int) : wc r c = some (if qD r = true ∧ qD c = true then Sum.inr ((0, 0, c), List.replicate r.toNat (km c)) else Sum.inl ()) := by
 unfold wc
 rw [a1B, a1B]
 cases h1 : qD r
 ·simp (disch := omega) only [cond_true, Option.bind_some, Bool.not_false]
  rfl
 ·cases h2 : qD c
  ·simp (disch := omega) only [cond_true, cond_false, Option.bind_some, Bool.not_true, Bool.not_false, true_and]
   rfl
  ·have hr : 1 ≤ r ∧ r ≤ 512 := by unfold qD at h1; simpa using h1
   obtain ⟨n, rfl⟩ : ∃ n : Nat, r = n := ⟨r.toNat, by omega⟩
   have : Yg ((c, (n : Int), (0 : Int)), ((0 : Int), (0 : Int), c), []) = some (Sum.inr (((0, 0, c) : Int × Int × Int), List.replicate n (km c))) := by
    refine zh (st := fun i => ((c, (n : Int), ((i : Nat) : Int)), ((0 : Int), (0 : Int), c), List.replicate i (km c))) (n := n) (fun i hi => ?_) ?_ 0 (by omega)
    ·show zY _ _ _ = _
     unfold zY
     have e : ((i : Int) + 1) = ((i + 1 : Nat) : Int) := by omega
     have hnl := a1Q c
     have e2 : List.replicate i (km c) ++ [km c] = List.replicate (i + 1) (km c) := K2 i _
     simp (disch := omega) only [qf, q9, cond_true, Option.bind_some, List.length_append, List.length_cons, List.length_nil, decide_true, true_and, hnl, List.length_replicate, e2, e]
    ·show zY _ _ _ = _
     unfold zY
     simp (disch := omega) only [ql, q9, cond_true, cond_false, List.length_append, List.length_cons, List.length_nil, decide_true, true_and]
   simp (disch := omega) only [cond_false, Option.bind_some, Int.toNat_natCast, Bool.not_true, and_self, this]
   simp
theorem Qk {L : qh} (hL : jL L) (hn : L.length ≤ 1000000) (g : Int × (Int × Int)) : jn g L = some (g, L, g, L) := by
 unfold jn
 have : Wt (((L.length : Int), (0 : Int)), g, L, g, []) = some (g, L, g, L) := by
  refine zh (st := fun i => (((L.length : Int), ((i : Nat) : Int)), g, L, g, L.take i)) (n := L.length) (fun i hi => ?_) ?_ 0 (by omega)
  ·obtain ⟨l, hl⟩ := qn hi
   have hcl := yj l (hL l (List.mem_of_getElem? hl))
   have ht : (L.take i).length = i := by rw [List.length_take]; omega
   have ht1 : (L.take (i + 1)).length = i + 1 := by rw [List.length_take]; omega
   have e : ((i : Int) + 1) = ((i + 1 : Nat) : Int) := by omega
   have e3 : L.take i ++ [l] = L.take (i + 1) := (kg hl).symm
   show zK _ _ _ _ _ = _
   unfold zK
   simp (disch := omega) only [qf, q9, cond_true, Option.bind_some, Int.toNat_natCast, List.length_append, List.length_cons, List.length_nil, decide_true, true_and, and_true, hl, hcl, ht, e3, e]
  ·show zK _ _ _ _ _ = _
   unfold zK
   have ht : L.take L.length = L := List.take_of_length_le (Nat.le_refl _)
   simp (disch := omega) only [qf, ql, q9, cond_true, cond_false, Int.toNat_natCast, List.length_append, List.length_cons, List.length_nil, decide_true, true_and, and_true, ht]
 simp (disch := omega) only [cond_true, Option.bind_some, decide_true, this]
theorem ahX {c : qc} (h : OkC c) : W5 c.1 c.2.1.1 c.2.1.2 c.2.2.1 c.2.2.2.1 c.2.2.2.2.1 c.2.2.2.2.2 = some (jk c) := by
 have h1 := h.r
 have h2 := h.m1
 have h3 := h.m2
 simp only [kx] at h1 h2 h3
 unfold W5
 rw [q9 (by omega) (by omega), q9 (by omega) (by omega), q9 (by omega) (by omega)]
 rfl
theorem aiC {l : List qc} (hl : l.length ≤ 1000000) (ok : ∀ c ∈ l, OkC c) : JN l = some l := by
 unfold JN
 have : xR ((l, (0 : Int)), []) = some l := by
  refine zh (st := fun i => ((l, ((i : Nat) : Int)), l.take i)) (n := l.length) (fun i hi => ?_) ?_ 0 (by omega)
  ·obtain ⟨c, hc⟩ := qn hi
   have ho := ahX (ok c (List.mem_of_getElem? hc))
   unfold jk at ho
   have ht : (l.take i).length = i := by rw [List.length_take]; omega
   have ht1 : (l.take (i + 1)).length = i + 1 := by rw [List.length_take]; omega
   have e : ((i : Int) + 1) = ((i + 1 : Nat) : Int) := by omega
   have e3 : l.take i ++ [(c.1, (c.2.1.1, c.2.1.2), c.2.2.1, c.2.2.2.1, c.2.2.2.2.1, c.2.2.2.2.2)] = l.take (i + 1) := (kg hc).symm
   show kL _ _ = _
   unfold kL
   simp (disch := omega) only [qf, q9, cond_true, Option.bind_some, Int.toNat_natCast, List.length_append, List.length_cons, List.length_nil, decide_true, true_and, hc, ho, ht, e3, e]
  ·show kL _ _ = _
   unfold kL
   have ht : l.take l.length = l := List.take_of_length_le (Nat.le_refl _)
   simp (disch := omega) only [qf, ql, q9, cond_true, cond_false, Int.toNat_natCast, List.length_append, List.length_cons, List.length_nil, decide_true, true_and, ht]
 rw [this]
 rfl
theorem ahE {l : List qc} (hl : l.length ≤ 1000000) : YH l l = some true := by
 unfold YH
 have : Yw (l, l, (0 : Int)) = some true := by
  refine zh (st := fun i => (l, l, ((i : Nat) : Int))) (n := l.length) (fun i hi => ?_) ?_ 0 (by omega)
  ·obtain ⟨c, hc⟩ := qn hi
   have e : ((i : Int) + 1) = ((i + 1 : Nat) : Int) := by omega
   show zZ _ _ _ = _
   unfold zZ
   simp (disch := omega) only [qf, q9, cond_true, cond_false, Option.bind_some, Int.toNat_natCast, Bool.not_true, hc, e, beq_self_eq_true, Bool.and_true]
  ·show zZ _ _ _ = _
   unfold zZ
   simp (disch := omega) only [qf, ql, q9, cond_true, cond_false, Int.toNat_natCast]
 simp (disch := omega) only [a3D, cond_false, Option.bind_some, this]
theorem ahU {L : qh} (hL : jL L) (hn : L.length ≤ 1000000) (r c : Int) : YU (L, r, c) L r c = some true := by
 unfold YU
 have : Yk ((0 : Int), (L, r, c), L, r, c) = some true := by
  refine zh (st := fun i => (((i : Nat) : Int), (L, r, c), L, r, c)) (n := L.length) (fun i hi => ?_) ?_ 0 (by omega)
  ·obtain ⟨l, hl⟩ := qn hi
   have hs := ahE (hL l (List.mem_of_getElem? hl))
   have e : ((i : Int) + 1) = ((i + 1 : Nat) : Int) := by omega
   show kf _ _ _ _ _ = _
   unfold kf
   simp (disch := omega) only [qf, q9, cond_true, cond_false, Option.bind_some, Int.toNat_natCast, Bool.not_true, hl, hs, e]
  ·show kf _ _ _ _ _ = _
   unfold kf
   simp (disch := omega) only [qf, ql, q9, cond_true, cond_false, Int.toNat_natCast]
 simp (disch := omega) only [a3D, cond_false, Option.bind_some, this]
theorem a77 {l : List qc} (hl : l.length ≤ 1000000) : yq l l = some true := by
 unfold yq
 have : ZY (l, l, (l.length : Int), (0 : Int)) = some true := by
  refine zh (st := fun i => (l, l, (l.length : Int), ((i : Nat) : Int))) (n := l.length) (fun i hi => ?_) ?_ 0 (by omega)
  ·obtain ⟨c, hc⟩ := qn hi
   have e : ((i : Int) + 1) = ((i + 1 : Nat) : Int) := by omega
   show zu _ _ _ _ = _
   unfold zu
   simp (disch := omega) only [qf, q9, cond_true, cond_false, Option.bind_some, Int.toNat_natCast, Bool.not_true, hc, e, beq_self_eq_true, Bool.and_true]
  ·show zu _ _ _ _ = _
   unfold zu
   simp (disch := omega) only [qf, ql, q9, cond_true, cond_false, Int.toNat_natCast]
 simp (disch := omega) only [a3D, cond_false, Option.bind_some, this]
theorem a6l {L : qh} (hL : jL L) (hn : L.length ≤ 1000000) : ji L L = some true := by
 unfold ji
 have : yD (L, L, (L.length : Int), (0 : Int)) = some true := by
  refine zh (st := fun i => (L, L, (L.length : Int), ((i : Nat) : Int))) (n := L.length) (fun i hi => ?_) ?_ 0 (by omega)
  ·obtain ⟨l, hl⟩ := qn hi
   have hs : Zi l l = some true := by unfold Zi; rw [a77 (hL l (List.mem_of_getElem? hl))]; rfl
   have e : ((i : Int) + 1) = ((i + 1 : Nat) : Int) := by omega
   show qZ _ _ _ _ = _
   unfold qZ
   simp (disch := omega) only [qf, q9, cond_true, cond_false, Option.bind_some, Int.toNat_natCast, Bool.not_true, hl, hs, e]
  ·show qZ _ _ _ _ = _
   unfold qZ
   simp (disch := omega) only [qf, ql, q9, cond_true, cond_false, Int.toNat_natCast]
 simp (disch := omega) only [a3D, cond_false, Option.bind_some, this]
theorem UV {L : qh} (hL : jL L) (hn : L.length ≤ 1000000) (g : Int × (Int × Int)) : wj g L g L = some (true, g, L, g, L) := by
 unfold wj
 have := a6l hL hn
 simp (disch := omega) only [cond_true, Option.bind_some, decide_true, this, beq_self_eq_true, Bool.and_true]
theorem W4 {L : qh} (hL : jL L) (hn : L.length ≤ 1000000) (ok : ∀ l ∈ L, ∀ c ∈ l, OkC c) (hr : ∀ l ∈ L, z8 l = true) (g : Int × (Int × Int)) : wQ g L = some (true, g, L) := by
 unfold wQ wG
 have : yK (L, (L.length : Int), (0 : Int)) = some (-1 : Int) := by
  refine zh (st := fun i => (L, (L.length : Int), ((i : Nat) : Int))) (n := L.length) (fun i hi => ?_) ?_ 0 (by omega)
  ·obtain ⟨l, hl⟩ := qn hi
   have hm := List.mem_of_getElem? hl
   have hs : wE l = some false := by unfold wE; rw [Xf (hL l hm) (ok l hm), hr l hm]; rfl
   have e : ((i : Int) + 1) = ((i + 1 : Nat) : Int) := by omega
   show qY _ _ _ = _
   unfold qY
   simp (disch := omega) only [qf, q9, cond_true, cond_false, Option.bind_some, Int.toNat_natCast, hl, hs, e]
  ·show qY _ _ _ = _
   unfold qY
   simp (disch := omega) only [qf, ql, q9, cond_true, cond_false, Int.toNat_natCast]
 simp (disch := omega) only [ql, cond_true, Option.bind_some, Bool.not_false, decide_true, this]
end Go.Sim
set_option maxRecDepth 100000
set_option maxHeartbeats 4000000
set_option linter.unusedVariables false
namespace Go.Sim
theorem aeL {L : qh} (hL : jL L) {n : Nat} {l : List qc} (h : L[n]? = some l) (g : Int × (Int × Int)) : JL (n : Int) g L = some (l, g, L) := by
 have hlt := (List.getElem?_eq_some_iff.1 h).1
 have hcl := yj l (hL l (List.mem_of_getElem? h))
 unfold JL
 simp (disch := omega) only [qf, cond_true, cond_false, Option.bind_some, Int.toNat_natCast, Bool.not_true, decide_true, and_true, h, hcl]
theorem aiP {L : qh} (hL : jL L) (hn : L.length ≤ 1000000) (ok : ∀ l ∈ L, ∀ c ∈ l, OkC c) (g : Int × (Int × Int)) : Uu g L = some ((L, g.1, g.2.1), g, L) := by
 unfold Uu
 have : xD ((0 : Int), g, L, ((0 : Int), (0 : Int)), ((0 : Int), (0 : Int)), []) = some ((L, g.1, g.2.1), g, L) := by
  refine zh (st := fun i => (((i : Nat) : Int), g, L, ((0 : Int), (0 : Int)), ((0 : Int), (0 : Int)), L.take i)) (n := L.length) (fun i hi => ?_) ?_ 0 (by omega)
  ·obtain ⟨l, hl⟩ := qn hi
   have hm := List.mem_of_getElem? hl
   have hli := aeL hL hl g
   have ho := aiC (hL l hm) (ok l hm)
   have ht : (L.take i).length = i := by rw [List.length_take]; omega
   have ht1 : (L.take (i + 1)).length = i + 1 := by rw [List.length_take]; omega
   have e : ((i : Int) + 1) = ((i + 1 : Nat) : Int) := by omega
   have e3 : L.take i ++ [l] = L.take (i + 1) := (kg hl).symm
   show kJ _ _ _ _ _ _ = _
   unfold kJ z9
   simp (disch := omega) only [qf, q9, cond_true, Option.bind_some, List.length_append, List.length_cons, List.length_nil, decide_true, true_and, hli, ho, ht, e3, e]
  ·show kJ _ _ _ _ _ _ = _
   unfold kJ z9 z7 qM
   have ht : L.take L.length = L := List.take_of_length_le (Nat.le_refl _)
   simp (disch := omega) only [qf, ql, q9, cond_true, cond_false, Option.bind_some, List.length_append, List.length_cons, List.length_nil, decide_true, true_and, ht]
 simp (disch := omega) only [cond_true, Option.bind_some, decide_true, this]
theorem afD {L : qh} (hL : jL L) (hn : L.length ≤ 1000000) (ok : ∀ l ∈ L, ∀ c ∈ l, OkC c) {l0 : List qc} (h0 : L[0]? = some l0) (r c : Int) : YK (L, r, c) (r, c, (l0.length : Int)) L = some (true, (r, c, (l0.length : Int)), L) := by
 unfold YK z9 zm
 have h1 := aiP hL hn ok (r, c, (l0.length : Int))
 have h2 := ahU hL hn r c
 have h3 := vI h0 r c
 simp (disch := omega) only [ke, cond_true, Option.bind_some, decide_true, h1, h2, h3]
def atP (L : qh) (cols : Nat) (k j : Int) : qc × Bool :=
 if 0 ≤ k ∧ k < L.length ∧ 0 ≤ j ∧ j < cols then (match (L[k.toNat]?.bind fun l => l[j.toNat]?) with
  | some c => (c, true)
  | none => ((0, (0, 0), 0, 0, 0, 0), false)) else ((0, (0, 0), 0, 0, 0, 0), false)
theorem a3K {L : qh} {cols : Nat} (hc : ∀ l ∈ L, l.length = cols) (k j a b : Int) : yb (k, j) (a, b, (cols : Int)) L = some ((jk (atP L cols k j).1, (atP L cols k j).2), (a, b, (cols : Int)), L) := by
 unfold yb atP
 by_cases h1 : 0 ≤ k
 ·by_cases h2 : k < L.length
  ·obtain ⟨n, rfl⟩ : ∃ n : Nat, k = n := ⟨k.toNat, by omega⟩
   obtain ⟨l, hl⟩ := qn (l := L) (i := n) (by omega)
   by_cases h3 : j < 0
   ·rw [if_neg (by omega)]
    simp (disch := omega) only [qf, ql, cond_true, cond_false, Int.toNat_natCast, Bool.not_true, decide_true, and_true]
    rfl
   ·by_cases h4 : (cols : Int) ≤ j
    ·rw [if_neg (by omega)]
     simp (disch := omega) only [qf, ql, cond_true, cond_false, Int.toNat_natCast, Bool.not_true, decide_true, and_true]
     rfl
    ·obtain ⟨m, rfl⟩ : ∃ m : Nat, j = m := ⟨j.toNat, by omega⟩
     have hlc := hc l (List.mem_of_getElem? hl)
     obtain ⟨c, hcc⟩ := qn (l := l) (i := m) (by omega)
     rw [if_pos ⟨by omega, by omega, by omega, by omega⟩]
     simp (disch := omega) only [qf, ql, cond_true, cond_false, Option.bind_some, Int.toNat_natCast, Bool.not_true, decide_true, and_true, hl, hcc]
     rfl
  ·rw [if_neg (by omega)]
   simp (disch := omega) only [qf, ql, cond_true, cond_false, Bool.not_false, decide_true, and_true]
   rfl
 ·rw [if_neg (by omega)]
  simp (disch := omega) only [qf, ql, cond_true, cond_false, Bool.not_true, decide_true, and_true]
  rfl
def Zd (L : qh) (rows : Nat) (cols : Int) (i : Nat) : qh := (List.range rows).map fun r => match L[r]? with
 | some l => if r < i then zy (yF l (kQ cols)) else km cols
 | none => km cols
theorem zH (L : qh) (rows : Nat) (cols : Int) (i : Nat) : (Zd L rows cols i).length = rows := by simp [Zd]
theorem a9i (L : qh) (rows : Nat) (cols : Int) : Zd L rows cols 0 = List.replicate rows (km cols) := by
 refine List.ext_getElem? fun i => ?_
 unfold Zd
 by_cases h : i < rows
 ·rw [List.getElem?_map, List.getElem?_range h, List.getElem?_replicate, if_pos h]
  simp only [Option.map_some]
  cases L[i]? <;> simp
 ·rw [List.getElem?_eq_none (by simp; omega), List.getElem?_eq_none (by simp; omega)]
theorem y7 {L : qh} {rows i k : Nat} {cols : Int} (h : k < rows) : (Zd L rows cols i)[k]? = some (match L[k]? with
 | some l => if k < i then zy (yF l (kQ cols)) else km cols
 | none => km cols) := by
 unfold Zd
 rw [List.getElem?_map, List.getElem?_range h]; rfl
theorem a1u {L : qh} {rows i : Nat} {cols : Int} {l : List qc} (hi : i < rows) (hl : L[i]? = some l) : (Zd L rows cols i).set i (zy (yF l (kQ cols))) = Zd L rows cols (i + 1) := by
 refine List.ext_getElem? fun k => ?_
 by_cases hk : k < rows
 ·by_cases q : k = i
  ·subst q
   rw [List.getElem?_set_self (by rw [zH]; exact hk), y7 hk, hl]
   simp
  ·rw [List.getElem?_set_ne (Ne.symm q), y7 hk, y7 hk]
   cases hx : L[k]? with
   | none => rfl
   | some x =>
    simp only
    by_cases h2 : k < i
    ·rw [if_pos h2, if_pos (by omega)]
    ·rw [if_neg h2, if_neg (by omega)]
 ·rw [List.getElem?_eq_none (by rw [List.length_set, zH]; omega), List.getElem?_eq_none (by rw [zH]; omega)]
end Go.Sim
set_option maxRecDepth 100000
set_option maxHeartbeats 4000000
set_option linter.unusedVariables false
namespace Go.Sim
theorem a4s {c : Int} (h : qD c = true) : (km c).length = c.toNat := by
 unfold qD at h
 simp only [Bool.and_eq_true, decide_eq_true_eq] at h
 unfold km kQ
 rw [List.length_replicate, if_neg (by omega), if_neg (by omega)]
def QV (L : qh) (rows : Nat) (cols : Int) : qh := Zd L rows cols L.length
theorem a1A (L : qh) (rows : Nat) (cols : Int) {i : Nat} (h : min rows L.length ≤ i) : Zd L rows cols i = QV L rows cols := by
 refine List.ext_getElem? fun k => ?_
 unfold QV
 by_cases hk : k < rows
 ·rw [y7 hk, y7 hk]
  cases hx : L[k]? with
  | none => rfl
  | some x =>
   have := (List.getElem?_eq_some_iff.1 hx).1
   simp only
   rw [if_pos (by omega), if_pos (by omega)]
 ·rw [List.getElem?_eq_none (by rw [zH]; omega), List.getElem?_eq_none (by rw [zH]; omega)]
theorem ahB {L : qh} {rows : Nat} {cols : Int} (hr : 1 ≤ rows) (hc : qD cols = true) : ∃ l0, (QV L rows cols)[0]? = some l0 ∧ (l0.length : Int) = cols := by
 have hp := hc
 unfold qD at hp
 simp only [Bool.and_eq_true, decide_eq_true_eq] at hp
 have h1 : (km cols).length = cols.toNat := a4s hc
 unfold QV
 refine ⟨_, y7 (by omega), ?_⟩
 cases hx : L[0]? with
 | none => simp only; omega
 | some x =>
  simp only
  split
  ·rw [zX, wI]
   unfold kQ
   rw [if_neg (by omega), if_neg (by omega)]; omega
  ·omega
theorem adC {L : qh} (hL : jL L) (hn : L.length ≤ 1000000) {rows cols : Nat} (hr : qD (rows : Int) = true) (hc : qD (cols : Int) = true) (a b : Int) :
  ZL (L, a, b) (rows : Int) (cols : Int) = some (QV L rows (cols : Int), (qF a rows : Int), (qF b cols : Int)) := by
 have hr' : 1 ≤ (rows : Int) ∧ (rows : Int) ≤ 512 := by unfold qD at hr; simpa using hr
 have hc' : 1 ≤ (cols : Int) ∧ (cols : Int) ≤ 512 := by unfold qD at hc; simpa using hc
 obtain ⟨l0, h0, h0l⟩ := ahB (L := L) (rows := rows) (cols := (cols : Int)) (by omega) hc
 have hmv := WJ (L := QV L rows (cols : Int)) (by unfold QV; rw [zH]; omega) h0 ⟨by omega, by omega⟩ a b 0 0
 have hfl : (QV L rows (cols : Int)).length = rows := by unfold QV; rw [zH]
 have hl0 : l0.length = cols := by omega
 rw [hfl, hl0] at hmv
 unfold ZL
 rw [adM (by omega)]
 have : V6 (((rows : Int), (cols : Int), (0 : Int)), (L, a, b), ((0 : Int), (0 : Int)), ((0 : Int), (0 : Int)), List.replicate rows (km (cols : Int))) = some (QV L rows (cols : Int), (qF a rows : Int), (qF b cols : Int)) := by
  rw [← a9i L rows]
  refine zh (st := fun i => (((rows : Int), (cols : Int), ((i : Nat) : Int)), (L, a, b), ((0 : Int), (0 : Int)), ((0 : Int), (0 : Int)), Zd L rows (cols : Int) i)) (n := min rows L.length) (fun i hi => ?_) ?_ 0 (by omega)
  ·obtain ⟨l, hl⟩ := qn (l := L) (i := i) (by omega)
   have hf := afg (hL l (List.mem_of_getElem? hl)) (cols : Int)
   have e : ((i : Int) + 1) = ((i + 1 : Nat) : Int) := by omega
   have e3 := a1u (rows := rows) (cols := (cols : Int)) (by omega) hl
   have ht := zH L rows (cols : Int) i
   have ht1 := zH L rows (cols : Int) (i + 1)
   obtain ⟨x, hx⟩ := qn (l := Zd L rows (cols : Int) i) (i := i) (by omega)
   show kq _ _ _ _ _ = _
   unfold kq
   simp (disch := omega) only [qf, q9, cond_true, Option.bind_some, Int.toNat_natCast, decide_true, and_true, hl, hf, hx, ht, e3, ht1, e]
  ·show kq _ _ _ _ _ = _
   unfold kq
   rw [a1A L rows (cols : Int) (Nat.le_refl _)]
   by_cases hq : rows ≤ L.length
   ·rw [show min rows L.length = rows by omega]
    simp (disch := omega) only [qf, ql, q9, cond_true, cond_false, Option.bind_some, Int.toNat_natCast, decide_true, and_true, hmv]
   ·rw [show min rows L.length = L.length by omega]
    simp (disch := omega) only [qf, ql, q9, cond_true, cond_false, Option.bind_some, Int.toNat_natCast, decide_true, and_true, hmv]
 simp (disch := omega) only [cond_true, Option.bind_some, decide_true, this]
theorem aay {L : qh} (hL : jL L) (hn : 1 ≤ L.length ∧ L.length ≤ 1000000) {rows cols : Nat} (hr : qD (rows : Int) = true) (hc : qD (cols : Int) = true) (a b c : Int) :
  yf ((rows : Int), (cols : Int)) (a, b, c) L = some (Sum.inr ((a, b, c), L, ((qF a rows : Int), (qF b cols : Int), (cols : Int)), QV L rows (cols : Int))) := by
 have hr' : 1 ≤ (rows : Int) ∧ (rows : Int) ≤ 512 := by unfold qD at hr; simpa using hr
 have hc' : 1 ≤ (cols : Int) ∧ (cols : Int) ≤ 512 := by unfold qD at hc; simpa using hc
 have hfl : (QV L rows (cols : Int)).length = rows := by unfold QV; rw [zH]
 have hmv := yk (L := QV L rows (cols : Int)) (cols := cols) ⟨by omega, by omega⟩ ⟨by omega, by omega⟩ a b 0 0
 rw [hfl] at hmv
 have hmin : (if (L.length : Int) < (rows : Int) then (L.length : Int) else (rows : Int)) = ((min rows L.length : Nat) : Int) := by split <;> omega
 unfold yf
 simp only [WW, hr, hc, and_self, if_true, Option.bind_some, hmin, Int.toNat_natCast]
 have : Yi (((cols : Int), ((0 : Nat), min rows L.length), ((min rows L.length : Nat) : Int), (0 : Int)), (a, b, c), L, ((0 : Int), (0 : Int), (cols : Int)), List.replicate rows (km (cols : Int))) = some (Sum.inr ((a, b, c), L, ((qF a rows : Int), (qF b cols : Int), (cols : Int)), QV L rows (cols : Int))) := by
  rw [← a9i L rows]
  refine zh (st := fun i => (((cols : Int), ((0 : Nat), min rows L.length), ((min rows L.length : Nat) : Int), ((i : Nat) : Int)), (a, b, c), L, ((0 : Int), (0 : Int), (cols : Int)), Zd L rows (cols : Int) i)) (n := min rows L.length) (fun i hi => ?_) ?_ 0 (by omega)
  ·obtain ⟨l, hl⟩ := qn (l := L) (i := i) (by omega)
   have hf := acQ (hL l (List.mem_of_getElem? hl)) (cols : Int)
   have e : ((i : Int) + 1) = ((i + 1 : Nat) : Int) := by omega
   have e3 := a1u (rows := rows) (cols := (cols : Int)) (by omega) hl
   have ht := zH L rows (cols : Int) i
   have ht1 := zH L rows (cols : Int) (i + 1)
   obtain ⟨x, hx⟩ := qn (l := Zd L rows (cols : Int) i) (i := i) (by omega)
   show zW _ _ _ _ _ = _
   unfold zW
   simp (disch := omega) only [qf, q9, cond_true, Option.bind_some, Int.toNat_natCast, decide_true, and_true, Nat.zero_add, hl, hf, hx, ht, e3, ht1, e]
  ·show zW _ _ _ _ _ = _
   unfold zW
   rw [a1A L rows (cols : Int) (Nat.le_refl _)]
   simp (disch := omega) only [qf, ql, q9, cond_true, cond_false, Option.bind_some, Int.toNat_natCast, decide_true, and_true, hmv]
 simp (disch := omega) only [qf, cond_true, Option.bind_some, decide_true, and_true, this]
theorem acH {L : qh} {r c : Int} (h : ¬ (qD r = true ∧ qD c = true)) (g : Int × (Int × Int)) : yf (r, c) g L = some (Sum.inl (g, L)) := by
 unfold yf
 simp only [WW, Option.bind_some]
 rw [if_neg h]
 simp (disch := omega) only [cond_true, decide_true]
end Go.Sim
set_option maxRecDepth 100000
set_option maxHeartbeats 4000000
set_option linter.unusedVariables false
namespace Go.Sim
def jc (rows : Nat) (n : Int) : Int := if (rows : Int) < n then rows else if n < -(rows : Int) then -(rows : Int) else n
theorem a1q (rows : Nat) (n : Int) : -(rows : Int) ≤ jc rows n ∧ jc rows n ≤ rows := by
 unfold jc; split
 ·omega
 ·split <;> omega
def QU (L : qh) (n : Int) (bl : List qc) : qh := (List.range L.length).map fun (r : Nat) => if 0 ≤ (r : Int) + n ∧ (r : Int) + n < L.length then L[((r : Int) + n).toNat]?.getD bl else bl
theorem QF (L : qh) (n : Int) (bl : List qc) : (QU L n bl).length = L.length := by simp [QU]
theorem vU {L : qh} {n : Int} {bl : List qc} {i : Nat} (h : i < L.length) : (QU L n bl)[i]? = some (if 0 ≤ (i : Int) + n ∧ (i : Int) + n < L.length then L[((i : Int) + n).toNat]?.getD bl else bl) := by
 unfold QU
 rw [List.getElem?_map, List.getElem?_range h]; rfl
def blL (cols : Nat) (a b c : Int) : List qc := zy (wb (km (cols : Int)) 0 (cols : Int) a b c)
theorem ae9 {L : qh} {k : Nat} (hk : k ≤ L.length) (bl : List qc) : L.drop k ++ List.replicate k bl = QU L (k : Int) bl := by
 refine List.ext_getElem? fun i => ?_
 by_cases hi : i < L.length
 ·rw [vU hi]
  by_cases h2 : i + k < L.length
  ·obtain ⟨l, hl⟩ := qn h2
   rw [if_pos (by omega), show ((i : Int) + (k : Int)).toNat = i + k by omega, hl, List.getElem?_append_left (by rw [List.length_drop]; omega), List.getElem?_drop, show k + i = i + k by omega, hl]; rfl
  ·rw [if_neg (by omega), List.getElem?_append_right (by rw [List.length_drop]; omega), List.getElem?_replicate, if_pos (by rw [List.length_drop]; omega)]
 ·rw [List.getElem?_eq_none (by rw [List.length_append, List.length_drop, List.length_replicate]; omega), List.getElem?_eq_none (by rw [QF]; omega)]
theorem ahh {L : qh} {k : Nat} (hk : k ≤ L.length) (bl : List qc) : List.replicate k bl ++ L.take (L.length - k) = QU L (-(k : Int)) bl := by
 refine List.ext_getElem? fun i => ?_
 by_cases hi : i < L.length
 ·rw [vU hi]
  by_cases h2 : k ≤ i
  ·obtain ⟨l, hl⟩ := qn (l := L) (i := i - k) (by omega)
   rw [if_pos (by omega), show ((i : Int) + -(k : Int)).toNat = i - k by omega, hl, List.getElem?_append_right (by rw [List.length_replicate]; omega), List.length_replicate, List.getElem?_take, if_pos (by omega), hl]; rfl
  ·rw [if_neg (by omega), List.getElem?_append_left (by rw [List.length_replicate]; omega), List.getElem?_replicate, if_pos (by omega)]
 ·rw [List.getElem?_eq_none (by rw [List.length_append, List.length_take, List.length_replicate]; omega), List.getElem?_eq_none (by rw [QF]; omega)]
theorem u0 (n : Int) : (km n).length ≤ 1000000 := by unfold km; rw [List.length_replicate]; have := vM n; omega
theorem a5y {L : qh} (hL : jL L) (hn : L.length ≤ 1000000) {l0 : List qc} (h0 : L[0]? = some l0) (n a b c r cc : Int) :
  Q7 (L, r, cc) n a b c = some (if Qv a b c = true then QU L (jc L.length n) (blL l0.length a b c) else L, r, cc) := by
 unfold Q7
 rw [a2K]
 cases hp : Qv a b c
 ·simp (disch := omega) only [cond_true, Option.bind_some, Bool.not_false, Bool.false_eq_true, if_false]
 ·have hcl := a1q L.length n
  have hwn : IntKind.i64.wrap ((0 : Int) - (L.length : Int)) = -(L.length : Int) := by rw [q9 (by omega) (by omega)]; omega
  have loop : yX ((jc L.length n, (L.length : Int), (0 : Int)), (L, r, cc), (a, b, c), ((0 : Int), (0 : Int)), []) = some (QU L (jc L.length n) (blL l0.length a b c), r, cc) := by
   generalize hq : jc L.length n = q at hcl
   have hT := QF L q (blL l0.length a b c)
   refine zh (st := fun i => ((q, (L.length : Int), ((i : Nat) : Int)), (L, r, cc), (a, b, c), ((0 : Int), (0 : Int)), (QU L q (blL l0.length a b c)).take i)) (n := L.length) (fun i hi => ?_) ?_ 0 (by omega)
   ·have ht : ((QU L q (blL l0.length a b c)).take i).length = i := by rw [List.length_take, hT]; omega
    have ht1 : ((QU L q (blL l0.length a b c)).take (i + 1)).length = i + 1 := by rw [List.length_take, hT]; omega
    have e : ((i : Int) + 1) = ((i + 1 : Nat) : Int) := by omega
    have hw : IntKind.i64.wrap ((i : Int) + q) = (i : Int) + q := q9 (by omega) (by omega)
    have hcr := vI h0 r cc
    have hnl := u9 (l0.length : Int)
    have her := a9G (u0 (l0.length : Int)) 0 (l0.length : Int) a b c
    have hg := vU (n := q) (bl := blL l0.length a b c) hi
    show zF _ _ _ _ _ = _
    unfold zF
    by_cases h1 : 0 ≤ (i : Int) + q
    ·by_cases h2 : (i : Int) + q < L.length
     ·obtain ⟨l, hl⟩ := qn (l := L) (i := ((i : Int) + q).toNat) (by omega)
      rw [if_pos ⟨h1, h2⟩, hl] at hg
      have e3 : (QU L q (blL l0.length a b c)).take i ++ [l] = (QU L q (blL l0.length a b c)).take (i + 1) := (kg hg).symm
      simp only [hw]
      simp (disch := omega) only [qf, q9, cond_true, Option.bind_some, List.length_append, List.length_cons, List.length_nil, decide_true, true_and, hl, ht, e3, e]
     ·rw [if_neg (by omega)] at hg
      have e3 : (QU L q (blL l0.length a b c)).take i ++ [zy (wb (km (l0.length : Int)) 0 (l0.length : Int) a b c)] = (QU L q (blL l0.length a b c)).take (i + 1) := (kg hg).symm
      simp only [hw]
      simp (disch := omega) only [qf, ql, q9, cond_true, cond_false, Option.bind_some, List.length_append, List.length_cons, List.length_nil, decide_true, true_and, hcr, hnl, her, ht, e3, e]
    ·rw [if_neg (by omega)] at hg
     have e3 : (QU L q (blL l0.length a b c)).take i ++ [zy (wb (km (l0.length : Int)) 0 (l0.length : Int) a b c)] = (QU L q (blL l0.length a b c)).take (i + 1) := (kg hg).symm
     simp only [hw]
     simp (disch := omega) only [qf, ql, q9, cond_true, cond_false, Option.bind_some, List.length_append, List.length_cons, List.length_nil, decide_true, true_and, hcr, hnl, her, ht, e3, e]
   ·show zF _ _ _ _ _ = _
    unfold zF
    have ht : (QU L q (blL l0.length a b c)).take L.length = QU L q (blL l0.length a b c) := List.take_of_length_le (by rw [hT]; omega)
    simp (disch := omega) only [qf, ql, q9, cond_true, cond_false, List.length_append, List.length_cons, List.length_nil, decide_true, true_and, ht]
  by_cases h1 : (L.length : Int) < n
  ·have hc : jc L.length n = (L.length : Int) := by unfold jc; rw [if_pos h1]
   rw [hc] at loop
   rw [hc]
   simp (disch := omega) only [qf, ql, cond_true, cond_false, Option.bind_some, Bool.not_true, hwn, loop, if_true]
  ·by_cases h2 : n < -(L.length : Int)
   ·have hc : jc L.length n = -(L.length : Int) := by unfold jc; rw [if_neg h1, if_pos h2]
    rw [hc] at loop
    rw [hc]
    simp (disch := omega) only [qf, ql, cond_true, cond_false, Option.bind_some, Bool.not_true, hwn, loop, if_true]
   ·have hc : jc L.length n = n := by unfold jc; rw [if_neg h1, if_neg h2]
    rw [hc] at loop
    rw [hc]
    simp (disch := omega) only [ql, cond_false, Option.bind_some, Bool.not_true, hwn, loop, if_true]
theorem a2t {L : qh} (hL : jL L) (hn : 1 ≤ L.length ∧ L.length ≤ 1000000) {cols : Nat} (n a b c r cc : Int) :
  yr (n, a, b, c) (r, cc, (cols : Int)) L = some ((r, cc, (cols : Int)), if Qv a b c = true then QU L (jc L.length n) (blL cols a b c) else L) := by
 unfold yr
 rw [U6]
 cases hp : Qv a b c
 ·simp (disch := omega) only [q9, cond_true, Option.bind_some, Bool.not_false, decide_true, Bool.false_eq_true, if_false]
 ·have hcl := a1q L.length n
  have hwn : IntKind.i64.wrap ((0 : Int) - (L.length : Int)) = -(L.length : Int) := by rw [q9 (by omega) (by omega)]; omega
  have hcm : (if (L.length : Int) < if -(L.length : Int) > n then -(L.length : Int) else n then (L.length : Int) else if -(L.length : Int) > n then -(L.length : Int) else n) = jc L.length n := by
   unfold jc
   by_cases h1 : -(L.length : Int) > n
   ·simp only [h1, if_true]; repeat' split
    all_goals first | rfl | omega
   ·simp only [h1, if_false]
  simp only [hwn, hcm]
  generalize hq : jc L.length n = q at hcl
  have hwq : IntKind.i64.wrap ((0 : Int) - q) = -q := by rw [q9 (by omega) (by omega)]; omega
  obtain ⟨k, hk⟩ : ∃ k : Nat, (if -q > q then -q else q) = (k : Int) := ⟨(if -q > q then -q else q).toNat, by split <;> omega⟩
  have hkq : (q = k ∨ q = -(k : Int)) ∧ k ≤ L.length := by split at hk <;> omega
  simp only [hwq, hk]
  have hnl := a1Q (cols : Int)
  have her := a58 (u0 (cols : Int)) 0 (cols : Int) a b c
  have hT := QF L q (blL cols a b c)
  have loop : ZP ((q, (L.length : Int), (k : Int), (0 : Int)), (r, cc, (cols : Int)), L, (a, b, c), []) = some ((r, cc, (cols : Int)), QU L q (blL cols a b c)) := by
   refine zh (st := fun i => ((q, (L.length : Int), (k : Int), ((i : Nat) : Int)), (r, cc, (cols : Int)), L, (a, b, c), List.replicate i (blL cols a b c))) (n := k) (fun i hi => ?_) ?_ 0 (by omega)
   ·have e : ((i : Int) + 1) = ((i + 1 : Nat) : Int) := by omega
    have e3 : List.replicate i (blL cols a b c) ++ [zy (wb (km (cols : Int)) 0 (cols : Int) a b c)] = List.replicate (i + 1) (blL cols a b c) := K2 i _
    show zp _ _ _ _ _ = _
    unfold zp
    simp (disch := omega) only [qf, q9, cond_true, Option.bind_some, Int.toNat_natCast, List.length_append, List.length_cons, List.length_nil, decide_true, true_and, and_true, hnl, her, List.length_replicate, e3, e]
   ·show zp _ _ _ _ _ = _
    unfold zp
    by_cases hpos : 0 ≤ q
    ·have hqk : q = (k : Int) := by omega
     rw [hqk] at hT ⊢
     have hs := ae9 (L := L) (k := k) hkq.2 (blL cols a b c)
     simp only [Option.getD_some, Int.toNat_natCast]
     by_cases h1 : k = L.length
     ·have hd : L.drop k = [] := List.drop_eq_nil_of_le (by omega)
      rw [hd] at hs
      simp (disch := omega) only [qf, ql, q9, cond_true, cond_false, List.length_append, List.length_cons, List.length_nil, decide_true, true_and, and_true, List.length_replicate, hs, hT]
     ·by_cases h2 : k = 0
      ·subst h2
       simp only [List.replicate_zero, List.drop_zero, List.append_nil] at hs ⊢
       simp (disch := omega) only [qf, ql, q9, cond_true, cond_false, List.length_append, List.length_cons, List.length_nil, decide_true, true_and, and_true]
       rw [← hs]
      ·have htk : List.take (L.length - k) (List.drop k L) = L.drop k := List.take_of_length_le (by rw [List.length_drop]; omega)
       simp (disch := omega) only [qf, ql, q9, cond_true, cond_false, List.length_append, List.length_cons, List.length_nil, decide_true, true_and, and_true, List.length_replicate, htk, List.length_drop, hs, hT]
    ·have hqk : q = -(k : Int) := by omega
     have hs := ahh (L := L) (k := k) hkq.2 (blL cols a b c)
     have hw : IntKind.i64.wrap ((L.length : Int) + q) = ((L.length - k : Nat) : Int) := by rw [q9 (by omega) (by omega)]; omega
     simp only [hw, Int.toNat_natCast, List.drop_zero]
     rw [hqk] at hT ⊢
     simp (disch := omega) only [qf, ql, q9, cond_true, cond_false, List.length_append, List.length_cons, List.length_nil, decide_true, true_and, and_true, List.length_replicate, List.length_take, hs, hT]
  simp (disch := omega) only [cond_true, cond_false, Option.bind_some, Bool.not_true, decide_true, loop, if_true]
end Go.Sim
set_option maxRecDepth 100000
set_option maxHeartbeats 4000000
set_option linter.unusedVariables false
namespace Go.Sim
structure LineOk (n : Nat) (l : List qc) : Prop where
 len : l.length = n
 ok : ∀ c ∈ l, OkC c
 right : z8 l = true
theorem WH {a b c : Int} (ha : u8r a) (hb : u8r b) (hc : u8r c) : OkC (zf a b c) :=
 ⟨(by unfold kx zf; simp), (by unfold kx zf; simp), (by unfold kx zf; simp), (by unfold u8r zf; simp), ha, hb, hc⟩
theorem Jz : u8r 0 := by unfold u8r; omega
theorem aej {c : qc} (h : OkC c) : OkC (J8 c) :=
 ⟨(by unfold kx J8; simp), (by unfold kx J8; simp), (by unfold kx J8; simp), Jz, h.p1, h.p2, h.p3⟩
theorem a3g {l : List qc} (h : ∀ c ∈ l, OkC c) : ∀ c ∈ zy l, OkC c := by
 intro c hc
 obtain ⟨i, hi⟩ := List.mem_iff_getElem?.1 hc
 have hlt : i < l.length := by have := (List.getElem?_eq_some_iff.1 hi).1; rwa [zX] at this
 obtain ⟨d, hd⟩ := qn hlt
 rw [vE hd] at hi
 cases hi
 have hk := h d (List.mem_of_getElem? hd)
 unfold Yl
 split
 ·exact WH hk.p1 hk.p2 hk.p3
 ·exact hk
theorem a3o {l : List qc} (h : ∀ c ∈ l, OkC c) {n : Nat} {d : qc} (hd : OkC d) : ∀ c ∈ l.set n d, OkC c := by
 intro c hc
 rcases List.mem_or_eq_of_mem_set hc with q | rfl
 ·exact h c q
 ·exact hd
theorem Uc {n : Nat} {l : List qc} (h : LineOk n l) {c : qc} (hc : OkC c) (k : Int) : LineOk n (jj l k c).1 := by
 refine ⟨putP_len.trans h.len, ?_, a8M h.right hc⟩
 unfold jj
 split
 ·refine a3g ?_
  unfold jX
  split
  ·exact a3o (a3o h.ok hc) (aej hc)
  ·exact a3o h.ok hc
 ·exact h.ok
theorem adO {c : qc} (h : OkC c) {m : Int} (hm : kx m) : OkC (j5 c m).1 := by
 unfold j5
 split
 ·split
  ·exact ⟨h.r, hm, h.m2, h.w, h.p1, h.p2, h.p3⟩
  ·split
   ·exact ⟨h.r, h.m1, hm, h.w, h.p1, h.p2, h.p3⟩
   ·exact h
 ·exact h
theorem aaI {n : Nat} {l : List qc} (h : LineOk n l) {m : Int} (hm : kx m) (k : Int) : LineOk n (jS l k m).1 := by
 refine ⟨markP_len.trans h.len, ?_, a5V h.right⟩
 unfold jS
 split
 ·split
  ·rename_i c hc
   exact a3o h.ok (adO (h.ok c (List.mem_of_getElem? hc)) hm)
  ·exact h.ok
 ·exact h.ok
theorem a46 {n : Nat} {l : List qc} (h : LineOk n l) {f t a b c : Int} (ha : u8r a) (hb : u8r b) (hc : u8r c) (hp : Qv a b c = true) : LineOk n (zy (wb l f t a b c)) := by
 refine ⟨by rw [zX, ZH]; exact h.len, a3g fun d hd => ?_, aaw h.right hp⟩
 obtain ⟨i, hi⟩ := List.mem_iff_getElem?.1 hd
 have hlt : i < l.length := by have := (List.getElem?_eq_some_iff.1 hi).1; rwa [ZH] at this
 obtain ⟨e, he⟩ := qn hlt
 rw [Vp he] at hi
 cases hi
 split
 ·exact WH ha hb hc
 ·exact h.ok e (List.mem_of_getElem? he)
theorem aeF {m : Int} (h : qD m = true) : kQ m = m.toNat := by
 unfold qD at h
 simp only [Bool.and_eq_true, decide_eq_true_eq] at h
 unfold kQ
 rw [if_neg (by omega), if_neg (by omega)]
theorem adU {n : Nat} {l : List qc} (h : LineOk n l) {m : Int} (hm : qD m = true) : LineOk m.toNat (zy (yF l (kQ m))) := by
 refine ⟨by rw [zX, wI, aeF hm], a3g fun d hd => ?_, aa6 h.right⟩
 obtain ⟨i, hi⟩ := List.mem_iff_getElem?.1 hd
 have hlt : i < kQ m := by have := (List.getElem?_eq_some_iff.1 hi).1; rwa [wI] at this
 rw [W3 l hlt] at hi
 cases hi
 cases hx : l[i]? with
 | none => exact WH Jz Jz Jz
 | some e => exact h.ok e (List.mem_of_getElem? hx)
theorem vO {m : Int} (hm : qD m = true) : LineOk m.toNat (km m) := by
 refine ⟨a4s hm, fun d hd => ?_, a8E m⟩
 unfold km at hd
 rw [List.eq_of_mem_replicate hd]
 exact WH Jz Jz Jz
structure GOk (L : qh) (cols : Nat) : Prop where
 rows : 1 ≤ L.length ∧ L.length ≤ 512
 wide : 1 ≤ cols ∧ cols ≤ 512
 line : ∀ l ∈ L, LineOk cols l
theorem GOk.small {L : qh} {cols : Nat} (h : GOk L cols) : jL L := fun l hl => by have := (h.line l hl).len; have := h.wide; omega
theorem GOk.first {L : qh} {cols : Nat} (h : GOk L cols) : ∃ l0, L[0]? = some l0 ∧ l0.length = cols := by
 obtain ⟨l0, h0⟩ := qn (l := L) (i := 0) (by have := h.rows; omega)
 exact ⟨l0, h0, (h.line l0 (List.mem_of_getElem? h0)).len⟩
theorem GOk.ok {L : qh} {cols : Nat} (h : GOk L cols) : ∀ l ∈ L, ∀ c ∈ l, OkC c := fun l hl => (h.line l hl).ok
theorem GOk.set {L : qh} {cols n : Nat} (h : GOk L cols) {l : List qc} (hl : LineOk cols l) : GOk (L.set n l) cols := by
 refine ⟨by rw [List.length_set]; exact h.rows, h.wide, fun x hx => ?_⟩
 rcases List.mem_or_eq_of_mem_set hx with q | rfl
 ·exact h.line x q
 ·exact hl
theorem GOk.turn {L : qh} {cols : Nat} (h : GOk L cols) (k : Int) (f : List qc → List qc × Bool) (hf : ∀ l, LineOk cols l → (f l).2 = true → LineOk cols (f l).1) : GOk (zP L k f).2 cols := by
 unfold zP
 split
 ·split
  ·rename_i l hl
   split
   ·rename_i hb
    exact h.set (hf l (h.line l (List.mem_of_getElem? hl)) hb)
   ·exact h
  ·exact h
 ·exact h
theorem GOk.fit {L : qh} {cols0 : Nat} (h : GOk L cols0) {rows cols : Nat} (hr : qD (rows : Int) = true) (hc : qD (cols : Int) = true) : GOk (QV L rows (cols : Int)) cols := by
 have hr' : 1 ≤ (rows : Int) ∧ (rows : Int) ≤ 512 := by unfold qD at hr; simpa using hr
 have hc' : 1 ≤ (cols : Int) ∧ (cols : Int) ≤ 512 := by unfold qD at hc; simpa using hc
 have hlen : (QV L rows (cols : Int)).length = rows := by unfold QV; rw [zH]
 refine ⟨by omega, by omega, fun x hx => ?_⟩
 obtain ⟨i, hi⟩ := List.mem_iff_getElem?.1 hx
 have hlt : i < rows := by have := (List.getElem?_eq_some_iff.1 hi).1; omega
 unfold QV at hi
 rw [y7 hlt] at hi
 cases hi
 cases hq : L[i]? with
 | none => exact vO hc
 | some l =>
  simp only
  split
  ·exact adU (h.line l (List.mem_of_getElem? hq)) hc
  ·exact vO hc
theorem GOk.scroll {L : qh} {cols : Nat} (h : GOk L cols) (n : Int) {a b c : Int} (ha : u8r a) (hb : u8r b) (hc : u8r c) (hp : Qv a b c = true) : GOk (QU L n (blL cols a b c)) cols := by
 have hs : qD (cols : Int) = true := by have := h.wide; unfold qD; simp; omega
 have hbl : LineOk cols (blL cols a b c) := a46 (vO hs) ha hb hc hp
 refine ⟨by rw [QF]; exact h.rows, h.wide, fun x hx => ?_⟩
 obtain ⟨i, hi⟩ := List.mem_iff_getElem?.1 hx
 have hlt : i < L.length := by have := (List.getElem?_eq_some_iff.1 hi).1; rwa [QF] at this
 rw [vU hlt] at hi
 cases hi
 split
 ·cases hq : L[((i : Int) + n).toNat]? with
  | none => exact hbl
  | some l => exact h.line l (List.mem_of_getElem? hq)
 ·exact hbl
theorem GOk.new {rows cols : Nat} (hr : qD (rows : Int) = true) (hc : qD (cols : Int) = true) : GOk (List.replicate rows (km (cols : Int))) cols := by
 have hr' : 1 ≤ (rows : Int) ∧ (rows : Int) ≤ 512 := by unfold qD at hr; simpa using hr
 have hc' : 1 ≤ (cols : Int) ∧ (cols : Int) ≤ 512 := by unfold qD at hc; simpa using hc
 refine ⟨by rw [List.length_replicate]; omega, by omega, fun x hx => ?_⟩
 rw [List.eq_of_mem_replicate hx]
 exact vO hc
end Go.Sim
set_option maxRecDepth 100000
set_option maxHeartbeats 4000000
set_option linter.unusedVariables false
namespace Go.Sim
def Did (x : Option ((((qh × (Int × Int)) × Bool) × (Y4_ × qh)) ⊕ ((((qh × (Int × Int)) × Bool) × (Y4_ × (qh × (Y4_ × qh)))) ⊕ (((qh × (Int × Int)) × Bool) × (Y4_ × qh))))) (g0 : Int × (Int × Int)) (L0 : qh) : Prop :=
 ∃ (L' : qh) (cols' row' col' : Nat), GOk L' cols' ∧ row' < L'.length ∧ col' < cols' ∧
  (x = some (.inl (((L', (row' : Int), (col' : Int)), true), (((row' : Int), (col' : Int), (cols' : Int)), L'))) ∨
   x = some (.inr (.inl (((L', (row' : Int), (col' : Int)), true), (g0, L0, ((row' : Int), (col' : Int), (cols' : Int)), L')))))
theorem wn (L : qh) (k : Int) (f : List qc → List qc × Bool) : (zP L k f).2.length = L.length := by
 unfold zP
 split
 ·split
  ·split
   ·simp
   ·rfl
  ·rfl
 ·rfl
theorem jW {n : Int} {k : Nat} (h : 1 ≤ k) : qF n k < k := by unfold qF; omega
theorem adq (l : List qc) : WF l = some (l.take 30) := by
 unfold WF
 have e : (if (30 : Int) < (l.length : Int) then (30 : Int) else (l.length : Int)).toNat = min 30 l.length := by split <;> omega
 have e2 : (0 : Int) ≤ (if (30 : Int) < (l.length : Int) then (30 : Int) else (l.length : Int)) := by split <;> omega
 have e3 : l.take (min 30 l.length) = l.take 30 := by
  by_cases h : 30 ≤ l.length
  ·rw [show min 30 l.length = 30 by omega]
  ·rw [show min 30 l.length = l.length by omega, List.take_of_length_le (Nat.le_refl _), List.take_of_length_le (by omega)]
 have en : ([] : List qc) ++ l.take 30 = l.take 30 := rfl
 simp only [e, e3, en]
 rw [decide_eq_true (p := _ ∧ _) ⟨e2, by omega⟩]
 simp (disch := omega) only [qf, cond_true, true_and, List.length_take]
theorem a2L (n : Int) : ∃ k : Int, zd n = some k ∧ yM n = some k ∧ (qD k = true → 1 ≤ k ∧ k ≤ 512) := by
 unfold zd yM
 by_cases h1 : 30 < n
 ·by_cases h2 : n ≤ 512
  ·exact ⟨30, by simp (disch := omega) only [qf, cond_true], by simp (disch := omega) only [qf, cond_true], fun h => by omega⟩
  ·refine ⟨n, by simp (disch := omega) only [qf, ql, cond_true, cond_false], by simp (disch := omega) only [qf, ql, cond_true, cond_false], fun h => ?_⟩
   unfold qD at h; simpa using h
 ·refine ⟨n, by simp (disch := omega) only [qf, ql, cond_true, cond_false], by simp (disch := omega) only [qf, ql, cond_true, cond_false], fun h => ?_⟩
  unfold qD at h; simpa using h
theorem did {L : qh} {cols row col : Nat} (hG : GOk L cols) (hr : row < L.length) (hc : col < cols) {kind R C T M p1 p2 p3 : Int} {X : qc} {al : List qc}
  (hX : OkC X) (hR : Y9 R) (hC : Y9 C) (hM : kx M) (h1 : u8r p1) (h2 : u8r p2) (h3 : u8r p3) (hal : ∀ c ∈ al, OkC c) :
  Did (vb ((L, (row : Int), (col : Int)), kind, R, C, T, X.1, X.2.1.1, X.2.1.2, X.2.2.1, X.2.2.2.1, X.2.2.2.2.1, X.2.2.2.2.2, M, p1, p2, p3, al) ((row : Int), (col : Int), (cols : Int)) L) ((row : Int), (col : Int), (cols : Int)) L := by
 have hrows := hG.rows
 have hwide := hG.wide
 have hS := hG.small
 have hn : L.length ≤ 1000000 := by omega
 obtain ⟨l0, h0, h0l⟩ := hG.first
 unfold vb
 by_cases k0 : kind = 0
 ·have e5 := ahX hX
  unfold jk at e5
  have a1 := a5D hS hn R C hC hX (row : Int) (col : Int)
  have a2 := a1I hS R C hC hX ((row : Int), (col : Int), (cols : Int))
  refine ⟨_, cols, row, col, hG.turn R (fun l => jj l C X) (fun l hl _ => Uc hl hX C), by rw [wn]; exact hr, hc, .inl ?_⟩
  simp (disch := omega) only [ke, zg, cond_true, cond_false, Option.bind_some, decide_true, e5, a1, a2, beq_self_eq_true]
 ·by_cases k1 : kind = 1
  ·have a1 := aaO hS hn R C M hC (row : Int) (col : Int)
   have a2 := a7u hS R C M hC ((row : Int), (col : Int), (cols : Int))
   have hM' := hM
   simp only [kx] at hM'
   refine ⟨_, cols, row, col, hG.turn R (fun l => jS l C M) (fun l hl _ => aaI hl hM C), by rw [wn]; exact hr, hc, .inl ?_⟩
   simp (disch := omega) only [ke, zg, q9, cond_true, cond_false, Option.bind_some, decide_true, a1, a2, beq_self_eq_true]
  ·by_cases k2 : kind = 2
   ·have a1 := a6H hS hn R C T p1 p2 p3 (row : Int) (col : Int)
    have a2 := a4M hS R C T p1 p2 p3 ((row : Int), (col : Int), (cols : Int))
    refine ⟨_, cols, row, col, hG.turn R (fun l => (zy (wb l C T p1 p2 p3), Qv p1 p2 p3)) (fun l hl hp => a46 hl h1 h2 h3 hp), by rw [wn]; exact hr, hc, .inl ?_⟩
    simp (disch := omega) only [ke, zg, cond_true, cond_false, Option.bind_some, decide_true, a1, a2]
   ·by_cases k3 : kind = 3
    ·have hal' : ∀ c ∈ al.take 30, OkC c := fun c q => hal c (List.mem_of_mem_take q)
     have hsl : (al.take 30).length ≤ 1000000 := by rw [List.length_take]; omega
     have e6 := aiC hsl hal'
     have a1 := abO hS hn h0 R (al.take 30) hsl hal' (row : Int) (col : Int)
     have a2 := aaK hS R (al.take 30) hsl hal' ((row : Int), (col : Int), (cols : Int))
     rw [h0l] at a1
     refine ⟨_, cols, row, col, hG.turn R (fun l => (al.take 30, decide (((al.take 30).length : Int) = (cols : Int)) && z8 (al.take 30))) (fun l hl hp => ?_), by rw [wn]; exact hr, hc, .inl ?_⟩
     ·simp only [Bool.and_eq_true, decide_eq_true_eq] at hp
      exact ⟨(by show (al.take 30).length = cols; omega), hal', hp.2⟩
     ·simp (disch := omega) only [ke, zg, cond_true, cond_false, Option.bind_some, decide_true, adq, e6, a1, a2, beq_self_eq_true]
    ·by_cases k4 : kind = 4
     ·have a1 := WJ hn h0 ⟨by omega, by omega⟩ R C (row : Int) (col : Int)
      have a2 := yk (L := L) (cols := cols) ⟨by omega, hn⟩ ⟨by omega, by omega⟩ R C (row : Int) (col : Int)
      rw [h0l] at a1
      refine ⟨L, cols, qF R L.length, qF C cols, hG, jW (by omega), jW (by omega), .inl ?_⟩
      simp (disch := omega) only [ke, zg, cond_true, cond_false, Option.bind_some, decide_true, a1, a2]
     ·by_cases k5 : kind = 5
      ·have a1 := a5y hS hn h0 R p1 p2 p3 (row : Int) (col : Int)
       have a2 := a2t (L := L) (cols := cols) hS ⟨by omega, hn⟩ R p1 p2 p3 (row : Int) (col : Int)
       rw [h0l] at a1
       cases hp : Qv p1 p2 p3
       ·rw [hp] at a1 a2
        simp only [Bool.false_eq_true, if_false] at a1 a2
        refine ⟨L, cols, row, col, hG, hr, hc, .inl ?_⟩
        simp (disch := omega) only [ke, zg, cond_true, cond_false, Option.bind_some, decide_true, a1, a2]
       ·rw [hp] at a1 a2
        simp only [if_true] at a1 a2
        refine ⟨_, cols, row, col, hG.scroll (jc L.length R) h1 h2 h3 hp, by rw [QF]; exact hr, hc, .inl ?_⟩
        simp (disch := omega) only [ke, zg, cond_true, cond_false, Option.bind_some, decide_true, a1, a2]
      ·by_cases k6 : kind = 6
       ·obtain ⟨r', s1, _, s2⟩ := a2L R
        obtain ⟨c', t1, _, t2⟩ := a2L C
        by_cases hs : qD r' = true ∧ qD c' = true
        ·obtain ⟨u1, u2⟩ := s2 hs.1
         obtain ⟨u3, u4⟩ := t2 hs.2
         obtain ⟨nr, rfl⟩ : ∃ n : Nat, r' = n := ⟨r'.toNat, by omega⟩
         obtain ⟨nc, rfl⟩ : ∃ n : Nat, c' = n := ⟨c'.toNat, by omega⟩
         have a1 := adC hS hn hs.1 hs.2 (row : Int) (col : Int)
         have a2 := aay hS ⟨by omega, hn⟩ hs.1 hs.2 (row : Int) (col : Int) (cols : Int)
         have hfl : (QV L nr (nc : Int)).length = nr := by unfold QV; rw [zH]
         have az := a6j (nr : Int) (nc : Int)
         rw [hs.1, hs.2] at az
         refine ⟨QV L nr (nc : Int), nc, qF (row : Int) nr, qF (col : Int) nc, hG.fit hs.1 hs.2, by rw [hfl]; exact jW (by omega), jW (by omega), .inr ?_⟩
         simp (disch := omega) only [ke, zg, cond_true, cond_false, Option.bind_some, Bool.not_true, decide_true, s1, t1, a2, a1, az, Bool.and_self]
        ·have a2 := acH (L := L) hs ((row : Int), (col : Int), (cols : Int))
         have az := a6j r' c'
         have hb : (qD r' && qD c') = false := by
          cases q : (qD r' && qD c')
          ·rfl
          ·simp only [Bool.and_eq_true] at q; exact absurd q hs
         rw [hb] at az
         refine ⟨L, cols, row, col, hG, hr, hc, .inl ?_⟩
         simp (disch := omega) only [ke, zg, cond_true, cond_false, Option.bind_some, Bool.not_false, decide_true, s1, t1, a2, az]
       ·by_cases k7 : kind = 7
        ·have a1 := Qk hS hn ((row : Int), (col : Int), (cols : Int))
         have a2 := UV hS hn ((row : Int), (col : Int), (cols : Int))
         refine ⟨L, cols, row, col, hG, hr, hc, .inr ?_⟩
         simp (disch := omega) only [ke, zg, cond_true, cond_false, Option.bind_some, decide_true, a1, a2]
        ·refine ⟨L, cols, row, col, hG, hr, hc, .inl ?_⟩
         simp (disch := omega) only [zg, cond_true, cond_false, decide_true]
end Go.Sim

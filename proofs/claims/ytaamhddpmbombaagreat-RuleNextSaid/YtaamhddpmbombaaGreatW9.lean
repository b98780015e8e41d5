/- Part 9 of the claim RuleNext: GD, V7, GE, V8, GF, V9, V10, V11, V12, V13, V14 -/
import Derived.Test.YtaamhddpmbombaaGreatProg
import Derived.Test.YtaamhddpmbombaaGreatW7
import Derived.Test.YtaamhddpmbombaaGreatW8
set_option linter.unusedSimpArgs false
set_option linter.unusedVariables false
set_option linter.defProp false
set_option maxRecDepth 100000
set_option maxHeartbeats 0
namespace Go.Sim
open Go.Proofs
noncomputable def yT (x0 : Int) : Option Bool :=
 bif decide (1 ≤ x0) then
  some (decide (x0 ≤ 512))
 else some false
noncomputable def xK : TEnt := ⟨84, .int .i64, [], [(.bool, [])], fun s => yT s⟩
theorem a05 : qu Tryz.prog xK := qh (tab := []) (loops := []) (joins := []) (un := []) _ (by intro e he; simp at he) (fun s => by kernel_rfl) (by kernel_rfl)
noncomputable def zX (x4 : Y3_) (x5 : Y3_) (x6 : (List Y0_)) : Option ((Y3_ × jm) ⊕ (Unit ⊕ jm)) :=
 bif decide (x4.2.2 < x4.2.1) then
  Option.bind (Z2 x4.1) fun x7 =>
   bif decide ((1 : Nat) = (1 : Nat)) then
    bif decide (x6.length = x6.length ∧ x6.length + (1 : Nat) ≤ (5864062014805 : Nat)) then
     bif decide (x6.length + (1 : Nat) = (x6 ++ [x7]).length) then
      some (Sum.inl ((x4.1, (x4.2.1, (IntKind.i64.wrap (x4.2.2 + (1 : Int))))), ((x5.1, (x5.2.1, x5.2.2)), (x6 ++ [x7]))))
     else none
    else none
   else none
 else bif decide (x6.length = x6.length) then
   some (Sum.inr (Sum.inr ((x5.1, (x5.2.1, x5.2.2)), x6)))
  else none
noncomputable def YJ : (Y3_ × jm) → Option (Unit ⊕ jm) := qT fun s => zX s.1 s.2.1 s.2.2
noncomputable def wp (x0 : Int) (x1 : Int) : Option (Unit ⊕ jm) :=
 Option.bind (yT x0) fun x2 =>
  bif !x2 then
   some (Sum.inl ())
  else Option.bind (yT x1) fun x3 =>
    bif !x3 then
     some (Sum.inl ())
    else Option.bind (YJ ((x1, (x0, ((0 : Int)))), ((((0 : Int)), (((0 : Int)), x1)), []))) fun x4 =>
      some x4
noncomputable def KR : TEnt := ⟨44, .cons (.int .i64) (.int .i64), [], [(.tup (.cons (.cst (.pointer none)) (.cst (.int .i64 11))), []), (.tup (.cons (.ptr 0 0) (.cst (.int .i64 0))), [.st Y4_, .li (.sl Y1_) 104 false])], fun s => wp s.1 s.2⟩
theorem ZP : qu Tryz.prog KR := qh (tab := [vj, xK]) (loops := [(299594, [1, 6, 18, 19], (.cons (.int .i64) (.cons (.ptr 0 0) Y7_)), [.st Y4_, .li (.sl Y1_) 104 false])]) (joins := []) (un := []) _ (by
  intro e he
  simp only [List.mem_cons, List.not_mem_nil, or_false] at he
  rcases he with rfl | rfl
  ·exact Yy
  ·exact a05) (fun s => by kernel_rfl) (by kernel_rfl)
noncomputable def zR (x0 : Y3_) (x1 : (List Y0_)) : Option (Int × jm) :=
 bif decide (x1.length = x1.length) then
  bif decide (x1.length = x1.length) then
   some (((↑x1.length : Int)), ((x0.1, (x0.2.1, x0.2.2)), x1))
  else none
 else none
noncomputable def JG : TEnt := ⟨18, .ptr 0 0, [.st Y4_, .li (.sl Y1_) 104 false], [(.int .i64, [.st Y4_, .li (.sl Y1_) 104 false])], fun s => zR s.1 s.2⟩
theorem Wo : qu Tryz.prog JG := qh (tab := []) (loops := []) (joins := []) (un := []) _ (by intro e he; simp at he) (fun s => by kernel_rfl) (by kernel_rfl)
noncomputable def kC (x0 : Y3_) (x1 : (List Y0_)) : Option (Int × jm) :=
 bif decide (x1.length = x1.length) then
  some (x0.2.2, ((x0.1, (x0.2.1, x0.2.2)), x1))
 else none
noncomputable def Wt : TEnt := ⟨19, .ptr 0 0, [.st Y4_, .li (.sl Y1_) 104 false], [(.int .i64, [.st Y4_, .li (.sl Y1_) 104 false])], fun s => kC s.1 s.2⟩
theorem Ww : qu Tryz.prog Wt := qh (tab := []) (loops := []) (joins := []) (un := []) _ (by intro e he; simp at he) (fun s => by kernel_rfl) (by kernel_rfl)
noncomputable def zx (x0 : Y3_) (x1 : (List Y0_)) : Option (Int × jm) :=
 bif decide (x1.length = x1.length) then
  some (x0.1, ((x0.1, (x0.2.1, x0.2.2)), x1))
 else none
noncomputable def KK : TEnt := ⟨22, .ptr 0 0, [.st Y4_, .li (.sl Y1_) 104 false], [(.int .i64, [.st Y4_, .li (.sl Y1_) 104 false])], fun s => zx s.1 s.2⟩
theorem ZT : qu Tryz.prog KK := qh (tab := []) (loops := []) (joins := []) (un := []) _ (by intro e he; simp at he) (fun s => by kernel_rfl) (by kernel_rfl)
noncomputable def z4 (x0 : Y3_) (x1 : (List Y0_)) : Option (Int × jm) :=
 bif decide (x1.length = x1.length) then
  some (x0.2.1, ((x0.1, (x0.2.1, x0.2.2)), x1))
 else none
noncomputable def QU : TEnt := ⟨23, .ptr 0 0, [.st Y4_, .li (.sl Y1_) 104 false], [(.int .i64, [.st Y4_, .li (.sl Y1_) 104 false])], fun s => z4 s.1 s.2⟩
theorem yI : qu Tryz.prog QU := qh (tab := []) (loops := []) (joins := []) (un := []) _ (by intro e he; simp at he) (fun s => by kernel_rfl) (by kernel_rfl)
noncomputable def yu (x0 : (Int × Int)) (x1 : Y3_) (x2 : (List Y0_)) : Option ((Jd × Bool) × jm) :=
 bif decide (0 ≤ x0.1) then
  bif decide (x2.length = x2.length) then
   bif !decide (x0.1 < (↑x2.length : Int)) then
    bif decide (x2.length = x2.length) then
     some (((((0 : Int)), (((0 : Int)), (((0 : Int)), (((0 : Int)), (((0 : Int)), (((0 : Int)), ((0 : Int)))))))), false), ((x1.1, (x1.2.1, x1.2.2)), x2))
    else none
   else bif decide (x0.2 < 0) then
     bif decide (x2.length = x2.length) then
      some (((((0 : Int)), (((0 : Int)), (((0 : Int)), (((0 : Int)), (((0 : Int)), (((0 : Int)), ((0 : Int)))))))), false), ((x1.1, (x1.2.1, x1.2.2)), x2))
     else none
    else bif decide (x1.2.2 ≤ x0.2) then
      bif decide (x2.length = x2.length) then
       some (((((0 : Int)), (((0 : Int)), (((0 : Int)), (((0 : Int)), (((0 : Int)), (((0 : Int)), ((0 : Int)))))))), false), ((x1.1, (x1.2.1, x1.2.2)), x2))
      else none
     else bif decide (0 ≤ x0.1) then
       bif decide (x0.1.toNat < x2.length ∧ x2.length = x2.length) then
        bif decide (x2.length = x2.length) then
         Option.bind (x2[x0.1.toNat]?) fun x3 =>
          bif decide (0 ≤ x0.2) then
           Option.bind (x3[x0.2.toNat]?) fun x4 =>
            bif decide (x2.length = x2.length) then
             some (((x4.1, (x4.2.1.1, (x4.2.1.2, (x4.2.2.1, (x4.2.2.2.1, (x4.2.2.2.2.1, x4.2.2.2.2.2)))))), true), ((x1.1, (x1.2.1, x1.2.2)), x2))
            else none
          else none
        else none
       else none
      else none
  else none
 else bif decide (x2.length = x2.length) then
   some (((((0 : Int)), (((0 : Int)), (((0 : Int)), (((0 : Int)), (((0 : Int)), (((0 : Int)), ((0 : Int)))))))), false), ((x1.1, (x1.2.1, x1.2.2)), x2))
  else none
noncomputable def VN : TEnt := ⟨48, .cons (.ptr 0 0) Y7_, [.st Y4_, .li (.sl Y1_) 104 false], [(.tup (.cons (.agg XC) .bool), [.st Y4_, .li (.sl Y1_) 104 false])], fun s => yu s.1 s.2.1 s.2.2⟩
theorem Vj : qu Tryz.prog VN := qh (tab := []) (loops := []) (joins := []) (un := []) _ (by intro e he; simp at he) (fun s => by kernel_rfl) (by kernel_rfl)
noncomputable def Zt (x0 : Int) (x1 : Y3_) (x2 : (List Y0_)) : Option (Y0_ × jm) :=
 bif decide (0 ≤ x0) then
  bif decide (x2.length = x2.length) then
   bif !decide (x0 < (↑x2.length : Int)) then
    bif decide (x2.length = x2.length) then
     some ([], ((x1.1, (x1.2.1, x1.2.2)), x2))
    else none
   else bif decide (0 ≤ x0) then
     bif decide (Int.toNat x0 < x2.length ∧ x2.length = x2.length) then
      bif decide (x2.length = x2.length) then
       Option.bind (x2[Int.toNat x0]?) fun x3 =>
        Option.bind (qN x3) fun x4 =>
         bif decide (x2.length = x2.length) then
          bif decide (List.length x4 = List.length x4) then
           some (x4, ((x1.1, (x1.2.1, x1.2.2)), x2))
          else none
         else none
      else none
     else none
    else none
  else none
 else bif decide (x2.length = x2.length) then
   some ([], ((x1.1, (x1.2.1, x1.2.2)), x2))
  else none
noncomputable def xT : TEnt := ⟨67, .cons (.ptr 0 0) (.int .i64), [.st Y4_, .li (.sl Y1_) 104 false], [(.sl Y1_, [.st Y4_, .li (.sl Y1_) 104 false])], fun s => Zt s.1 s.2.1 s.2.2⟩
theorem a00 : qu Tryz.prog xT := qh (tab := [kG]) (loops := []) (joins := []) (un := []) _ (by
  intro e he
  simp only [List.mem_cons, List.not_mem_nil, or_false] at he
  rcases he with rfl
  ·exact zT) (fun s => by kernel_rfl) (by kernel_rfl)
noncomputable def QJ (x0 : (Int × (Int × Jd))) (x1 : Y3_) (x2 : (List Y0_)) : Option (Bool × jm) :=
 bif decide (0 ≤ x0.1) then
  bif decide (x2.length = x2.length) then
   bif !decide (x0.1 < (↑x2.length : Int)) then
    bif decide (x2.length = x2.length) then
     some (false, ((x1.1, (x1.2.1, x1.2.2)), x2))
    else none
   else bif decide (0 ≤ x0.1) then
     bif decide (x0.1.toNat < x2.length ∧ x2.length = x2.length) then
      bif decide (x2.length = x2.length) then
       Option.bind (x2[x0.1.toNat]?) fun x3 =>
        Option.bind (Ky x3 x0.2.1 x0.2.2.1 x0.2.2.2.1 x0.2.2.2.2.1 x0.2.2.2.2.2.1 x0.2.2.2.2.2.2.1 x0.2.2.2.2.2.2.2.1 x0.2.2.2.2.2.2.2.2) fun x4 =>
         bif x4.2 then
          bif decide (0 ≤ x0.1) then
           bif decide (x0.1.toNat < x2.length ∧ x2.length = x2.length) then
            bif decide (x2.length = x2.length) then
             Option.bind (x2[x0.1.toNat]?) fun x5 =>
              bif decide (x2.length = (x2.set x0.1.toNat x4.1).length) then
               some (x4.2, ((x1.1, (x1.2.1, x1.2.2)), (x2.set x0.1.toNat x4.1)))
              else none
            else none
           else none
          else none
         else bif decide (x2.length = x2.length) then
           some (x4.2, ((x1.1, (x1.2.1, x1.2.2)), x2))
          else none
      else none
     else none
    else none
  else none
 else bif decide (x2.length = x2.length) then
   some (false, ((x1.1, (x1.2.1, x1.2.2)), x2))
  else none
noncomputable def J4 : TEnt := ⟨51, .cons (.ptr 0 0) (.cons (.int .i64) (.cons (.int .i64) (.agg XC))), [.st Y4_, .li (.sl Y1_) 104 false], [(.bool, [.st Y4_, .li (.sl Y1_) 104 false])], fun s => QJ s.1 s.2.1 s.2.2⟩
theorem ZH : qu Tryz.prog J4 := qh (tab := [US]) (loops := []) (joins := []) (un := []) _ (by
  intro e he
  simp only [List.mem_cons, List.not_mem_nil, or_false] at he
  rcases he with rfl
  ·exact a0T) (fun s => by kernel_rfl) (by kernel_rfl)
noncomputable def Zc (x0 : Y3_) (x1 : Y3_) (x2 : (List Y0_)) : Option (Bool × jm) :=
 bif decide (0 ≤ x0.1) then
  bif decide (x2.length = x2.length) then
   bif !decide (x0.1 < (↑x2.length : Int)) then
    bif decide (x2.length = x2.length) then
     some (false, ((x1.1, (x1.2.1, x1.2.2)), x2))
    else none
   else bif decide (0 ≤ x0.1) then
     bif decide (x0.1.toNat < x2.length ∧ x2.length = x2.length) then
      bif decide (x2.length = x2.length) then
       Option.bind (x2[x0.1.toNat]?) fun x3 =>
        Option.bind (ZE x3 x0.2.1 x0.2.2) fun x4 =>
         bif x4.2 then
          bif decide (0 ≤ x0.1) then
           bif decide (x0.1.toNat < x2.length ∧ x2.length = x2.length) then
            bif decide (x2.length = x2.length) then
             Option.bind (x2[x0.1.toNat]?) fun x5 =>
              bif decide (x2.length = (x2.set x0.1.toNat x4.1).length) then
               some (x4.2, ((x1.1, (x1.2.1, x1.2.2)), (x2.set x0.1.toNat x4.1)))
              else none
            else none
           else none
          else none
         else bif decide (x2.length = x2.length) then
           some (x4.2, ((x1.1, (x1.2.1, x1.2.2)), x2))
          else none
      else none
     else none
    else none
  else none
 else bif decide (x2.length = x2.length) then
   some (false, ((x1.1, (x1.2.1, x1.2.2)), x2))
  else none
noncomputable def xY : TEnt := ⟨88, .cons (.ptr 0 0) (.cons (.int .i64) a7M), [.st Y4_, .li (.sl Y1_) 104 false], [(.bool, [.st Y4_, .li (.sl Y1_) 104 false])], fun s => Zc s.1 s.2.1 s.2.2⟩
theorem U6 : qu Tryz.prog xY := qh (tab := [xM]) (loops := []) (joins := []) (un := []) _ (by
  intro e he
  simp only [List.mem_cons, List.not_mem_nil, or_false] at he
  rcases he with rfl
  ·exact U9) (fun s => by kernel_rfl) (by kernel_rfl)
noncomputable def Qn (x0 : (Int × (Int × (Int × Y3_)))) (x1 : Y3_) (x2 : (List Y0_)) : Option jm :=
 bif decide (0 ≤ x0.1) then
  bif decide (x2.length = x2.length) then
   bif !decide (x0.1 < (↑x2.length : Int)) then
    bif decide (x2.length = x2.length) then
     some ((x1.1, (x1.2.1, x1.2.2)), x2)
    else none
   else bif decide (0 ≤ x0.1) then
     bif decide (x0.1.toNat < x2.length ∧ x2.length = x2.length) then
      bif decide (x2.length = x2.length) then
       Option.bind (x2[x0.1.toNat]?) fun x3 =>
        Option.bind (wX x3 x0.2.1 x0.2.2.1 x0.2.2.2.1 x0.2.2.2.2.1 x0.2.2.2.2.2) fun x4 =>
         Option.bind (wJ x0.2.2.2.1 x0.2.2.2.2.1 x0.2.2.2.2.2) fun x5 =>
          bif x5 then
           bif decide (0 ≤ x0.1) then
            bif decide (x0.1.toNat < x2.length ∧ x2.length = x2.length) then
             bif decide (x2.length = x2.length) then
              Option.bind (x2[x0.1.toNat]?) fun x6 =>
               bif decide (x2.length = (x2.set x0.1.toNat x4).length) then
                some ((x1.1, (x1.2.1, x1.2.2)), (x2.set x0.1.toNat x4))
               else none
             else none
            else none
           else none
          else bif decide (x2.length = x2.length) then
            some ((x1.1, (x1.2.1, x1.2.2)), x2)
           else none
      else none
     else none
    else none
  else none
 else bif decide (x2.length = x2.length) then
   some ((x1.1, (x1.2.1, x1.2.2)), x2)
  else none
noncomputable def VA : TEnt := ⟨89, .cons (.ptr 0 0) (.cons (.int .i64) agl), [.st Y4_, .li (.sl Y1_) 104 false], [(.tup .nil, [.st Y4_, .li (.sl Y1_) 104 false])], fun s => Qn s.1 s.2.1 s.2.2⟩
theorem XI : qu Tryz.prog VA := qh (tab := [ZF, KJ]) (loops := []) (joins := []) (un := []) _ (by
  intro e he
  simp only [List.mem_cons, List.not_mem_nil, or_false] at he
  rcases he with rfl | rfl
  ·exact QN
  ·exact Jz) (fun s => by kernel_rfl) (by kernel_rfl)
noncomputable def KE (x0 : (Int × Y0_)) (x1 : Y3_) (x2 : (List Y0_)) : Option (Bool × jm) :=
 bif decide (0 ≤ x0.1) then
  bif decide (x2.length = x2.length) then
   bif !decide (x0.1 < (↑x2.length : Int)) then
    bif decide (x2.length = x2.length) then
     some (false, ((x1.1, (x1.2.1, x1.2.2)), x2))
    else none
   else bif decide (0 ≤ x0.1) then
     bif decide (x0.1.toNat < x2.length ∧ x2.length = x2.length) then
      bif decide (x2.length = x2.length) then
       Option.bind (x2[x0.1.toNat]?) fun x3 =>
        Option.bind (qN x0.2) fun x4 =>
         bif (↑x0.2.length : Int) == x1.2.2 then
          Option.bind (wR x0.2) fun x5 =>
           bif x5 then
            bif decide (0 ≤ x0.1) then
             bif decide (x0.1.toNat < x2.length ∧ x2.length = x2.length) then
              bif decide (x2.length = x2.length) then
               Option.bind (x2[x0.1.toNat]?) fun x6 =>
                bif decide (List.length x4 = List.length x4) then
                 bif decide (x2.length = (x2.set x0.1.toNat x4).length) then
                  some (x5, ((x1.1, (x1.2.1, x1.2.2)), (x2.set x0.1.toNat x4)))
                 else none
                else none
              else none
             else none
            else none
           else bif decide (x2.length = x2.length) then
             some (x5, ((x1.1, (x1.2.1, x1.2.2)), x2))
            else none
         else bif decide (x2.length = x2.length) then
           some (false, ((x1.1, (x1.2.1, x1.2.2)), x2))
          else none
      else none
     else none
    else none
  else none
 else bif decide (x2.length = x2.length) then
   some (false, ((x1.1, (x1.2.1, x1.2.2)), x2))
  else none
noncomputable def uj : TEnt := ⟨94, .cons (.ptr 0 0) (.cons (.int .i64) (.sl Y1_)), [.st Y4_, .li (.sl Y1_) 104 false], [(.bool, [.st Y4_, .li (.sl Y1_) 104 false])], fun s => KE s.1 s.2.1 s.2.2⟩
theorem a10 : qu Tryz.prog uj := qh (tab := [kG, Vn]) (loops := []) (joins := []) (un := []) _ (by
  intro e he
  simp only [List.mem_cons, List.not_mem_nil, or_false] at he
  rcases he with rfl | rfl
  ·exact zT
  ·exact XF) (fun s => by kernel_rfl) (by kernel_rfl)
noncomputable def kz (x0 : (Int × Int)) (x1 : Y3_) (x2 : (List Y0_)) : Option jm :=
 bif decide (x2.length = x2.length) then
  bif decide (x2.length = x2.length) then
   some (((if IntKind.i64.wrap ((↑x2.length : Int) - (1 : Int)) < if (0 : Int) > x0.1 then (0 : Int) else x0.1 then IntKind.i64.wrap ((↑x2.length : Int) - (1 : Int)) else if (0 : Int) > x0.1 then (0 : Int) else x0.1), ((if IntKind.i64.wrap (x1.2.2 - (1 : Int)) < if (0 : Int) > x0.2 then (0 : Int) else x0.2 then IntKind.i64.wrap (x1.2.2 - (1 : Int)) else if (0 : Int) > x0.2 then (0 : Int) else x0.2), x1.2.2)), x2)
  else none
 else none
noncomputable def wB : TEnt := ⟨24, .cons (.ptr 0 0) Y7_, [.st Y4_, .li (.sl Y1_) 104 false], [(.tup .nil, [.st Y4_, .li (.sl Y1_) 104 false])], fun s => kz s.1 s.2.1 s.2.2⟩
theorem jD : qu Tryz.prog wB := qh (tab := []) (loops := []) (joins := []) (un := []) _ (by intro e he; simp at he) (fun s => by kernel_rfl) (by kernel_rfl)
noncomputable def zn (x4 : (Int × Y3_)) (x5 : Y3_) (x6 : (List Y0_)) (x7 : Y3_) (x8 : (List Y0_)) : Option (((Int × Y3_) × Kh) ⊕ jm) :=
 bif decide (x4.2.2.2 < x4.2.2.1) then
  Option.bind (Z2 x5.2.2) fun x9 =>
   Option.bind (wX x9 (0 : Int) x5.2.2 x7.1 x7.2.1 x7.2.2) fun x10 =>
    bif decide ((1 : Nat) = (1 : Nat)) then
     bif decide (x8.length = x8.length ∧ x8.length + (1 : Nat) ≤ (5864062014805 : Nat)) then
      bif decide (List.length x6 = List.length x6) then
       bif decide (x8.length + (1 : Nat) = (x8 ++ [x10]).length) then
        some (Sum.inl ((x4.1, (x4.2.1, (x4.2.2.1, (IntKind.i64.wrap (x4.2.2.2 + (1 : Int)))))), ((x5.1, (x5.2.1, x5.2.2)), (x6, ((x7.1, (x7.2.1, x7.2.2)), (x8 ++ [x10]))))))
       else none
      else none
     else none
    else none
 else bif decide (0 ≤ x4.1) then
   bif decide (List.length x6 = List.length x6) then
    bif decide (List.length x6 = List.length x6) then
     bif decide (List.length x6 = List.length x6 ∧ 0 ≤ (Option.some x4.1).getD (0 : Int) ∧ (Option.some x4.1).getD 0 ≤ (↑(List.length x6) : Int) ∧ (↑(List.length x6) : Int) = (↑(List.length x6) : Int) ∧ (↑(List.length x6) : Int).toNat ≤ List.length x6) then
      bif decide ((Option.some x4.1).getD (0 : Int) = (↑(List.length x6) : Int)) then
       bif decide (x8.length = x8.length) then
        bif decide ((0 : Nat) = (0 : Nat) ∧ (0 : Nat) + x8.length ≤ (5864062014805 : Nat)) then
         bif decide ((0 : Nat) + x8.length = ([] ++ x8).length) then
          some (Sum.inr ((x5.1, (x5.2.1, x5.2.2)), ([] ++ x8)))
         else none
        else none
       else none
      else bif decide ((Option.some x4.1).getD (0 : Int) = (0 : Int) ∧ (↑(List.length x6) : Int) = (↑(List.length x6) : Int)) then
        bif decide (x8.length = x8.length) then
         bif decide (List.length x6 = List.length x6 ∧ List.length x6 + x8.length ≤ (5864062014805 : Nat)) then
          bif decide (List.length x6 + x8.length = (x6 ++ x8).length) then
           some (Sum.inr ((x5.1, (x5.2.1, x5.2.2)), (x6 ++ x8)))
          else none
         else none
        else none
       else bif decide (x8.length = x8.length) then
         bif decide ((List.take ((↑(List.length x6) : Int).toNat - ((Option.some x4.1).getD (0 : Int)).toNat) (List.drop ((Option.some x4.1).getD (0 : Int)).toNat x6)).length + x8.length ≤ (5864062014805 : Nat)) then
          bif decide (x8.length = (0 : Nat)) then
           none
          else bif decide ((List.take ((↑(List.length x6) : Int).toNat - ((Option.some x4.1).getD (0 : Int)).toNat) (List.drop ((Option.some x4.1).getD (0 : Int)).toNat x6)).length + x8.length = (List.take ((↑(List.length x6) : Int).toNat - ((Option.some x4.1).getD (0 : Int)).toNat) (List.drop ((Option.some x4.1).getD (0 : Int)).toNat x6) ++ x8).length) then
            some (Sum.inr ((x5.1, (x5.2.1, x5.2.2)), (List.take ((↑(List.length x6) : Int).toNat - ((Option.some x4.1).getD (0 : Int)).toNat) (List.drop ((Option.some x4.1).getD (0 : Int)).toNat x6) ++ x8)))
           else none
         else none
        else none
     else none
    else none
   else none
  else bif decide ((0 : Nat) < List.length x6 ∧ List.length x6 = List.length x6) then
    bif decide ((0 : Int) ≤ IntKind.i64.wrap (x4.2.1 + x4.1) ∧ (IntKind.i64.wrap (x4.2.1 + x4.1)).toNat ≤ List.length x6) then
     bif decide (List.length x6 = List.length x6) then
      bif decide (x8.length = x8.length ∧ x8.length + (List.take (IntKind.i64.wrap (x4.2.1 + x4.1)).toNat (List.drop (0 : Nat) x6)).length ≤ (5864062014805 : Nat)) then
       bif decide (x8.length + (List.take (IntKind.i64.wrap (x4.2.1 + x4.1)).toNat (List.drop (0 : Nat) x6)).length = (x8 ++ List.take (IntKind.i64.wrap (x4.2.1 + x4.1)).toNat (List.drop (0 : Nat) x6)).length) then
        some (Sum.inr ((x5.1, (x5.2.1, x5.2.2)), (x8 ++ List.take (IntKind.i64.wrap (x4.2.1 + x4.1)).toNat (List.drop (0 : Nat) x6))))
       else none
      else none
     else none
    else none
   else none
noncomputable def K3 : ((Int × Y3_) × Kh) → Option jm := qT fun s => zn s.1 s.2.1 s.2.2.1 s.2.2.2.1 s.2.2.2.2
noncomputable def yB (x0 : (Int × Y3_)) (x1 : Y3_) (x2 : (List Y0_)) : Option jm :=
 Option.bind (wJ x0.2.1 x0.2.2.1 x0.2.2.2) fun x3 =>
  bif !x3 then
   bif decide (x2.length = x2.length) then
    some ((x1.1, (x1.2.1, x1.2.2)), x2)
   else none
  else bif decide (x2.length = x2.length) then
    bif decide (x2.length = x2.length) then
     Option.bind (K3 (((if (↑x2.length : Int) < if IntKind.i64.wrap ((0 : Int) - (↑x2.length : Int)) > x0.1 then IntKind.i64.wrap ((0 : Int) - (↑x2.length : Int)) else x0.1 then (↑x2.length : Int) else if IntKind.i64.wrap ((0 : Int) - (↑x2.length : Int)) > x0.1 then IntKind.i64.wrap ((0 : Int) - (↑x2.length : Int)) else x0.1), (((↑x2.length : Int)), ((if IntKind.i64.wrap ((0 : Int) - if (↑x2.length : Int) < if IntKind.i64.wrap ((0 : Int) - (↑x2.length : Int)) > x0.1 then IntKind.i64.wrap ((0 : Int) - (↑x2.length : Int)) else x0.1 then (↑x2.length : Int) else if IntKind.i64.wrap ((0 : Int) - (↑x2.length : Int)) > x0.1 then IntKind.i64.wrap ((0 : Int) - (↑x2.length : Int)) else x0.1) > if (↑x2.length : Int) < if IntKind.i64.wrap ((0 : Int) - (↑x2.length : Int)) > x0.1 then IntKind.i64.wrap ((0 : Int) - (↑x2.length : Int)) else x0.1 then (↑x2.length : Int) else if IntKind.i64.wrap ((0 : Int) - (↑x2.length : Int)) > x0.1 then IntKind.i64.wrap ((0 : Int) - (↑x2.length : Int)) else x0.1 then IntKind.i64.wrap ((0 : Int) - if (↑x2.length : Int) < if IntKind.i64.wrap ((0 : Int) - (↑x2.length : Int)) > x0.1 then IntKind.i64.wrap ((0 : Int) - (↑x2.length : Int)) else x0.1 then (↑x2.length : Int) else if IntKind.i64.wrap ((0 : Int) - (↑x2.length : Int)) > x0.1 then IntKind.i64.wrap ((0 : Int) - (↑x2.length : Int)) else x0.1) else if (↑x2.length : Int) < if IntKind.i64.wrap ((0 : Int) - (↑x2.length : Int)) > x0.1 then IntKind.i64.wrap ((0 : Int) - (↑x2.length : Int)) else x0.1 then (↑x2.length : Int) else if IntKind.i64.wrap ((0 : Int) - (↑x2.length : Int)) > x0.1 then IntKind.i64.wrap ((0 : Int) - (↑x2.length : Int)) else x0.1), ((0 : Int))))), ((x1.1, (x1.2.1, x1.2.2)), (x2, ((x0.2.1, (x0.2.2.1, x0.2.2.2)), []))))) fun x4 =>
      some x4
    else none
   else none
noncomputable def Yr : TEnt := ⟨95, .cons (.ptr 0 0) (.cons (.int .i64) (.agg Y8_)), [.st Y4_, .li (.sl Y1_) 104 false], [(.tup .nil, [.st Y4_, .li (.sl Y1_) 104 false])], fun s => yB s.1 s.2.1 s.2.2⟩
theorem xa : qu Tryz.prog Yr := qh (tab := [ZF, vj, KJ]) (loops := [(19173962, [0, 1, 5, 6, 7, 29, 30], (.cons (.ptr 0 0) (.cons (.int .i64) (.cons (.ptr 2 0) (.cons (.int .i64) (.cons (.own 3) Y7_))))), [.st Y4_, .li (.sl Y1_) 104 false, .st Y8_, .li (.sl Y1_) 104 false])]) (joins := []) (un := []) _ (by
  intro e he
  simp only [List.mem_cons, List.not_mem_nil, or_false] at he
  rcases he with rfl | rfl | rfl
  ·exact QN
  ·exact Yy
  ·exact Jz) (fun s => by kernel_rfl) (by kernel_rfl)
end Go.Sim
set_option maxRecDepth 100000
set_option maxHeartbeats 4000000
namespace Go.Sim
abbrev qg : Type := List (List qc)
def zW (L : qg) (k : Int) (f : List qc → List qc × Bool) : Bool × qg :=
 if 0 ≤ k ∧ k < L.length then (match L[k.toNat]? with
  | some l => if (f l).2 = true then (true, L.set k.toNat (f l).1) else (false, L)
  | none => (false, L)) else (false, L)
theorem zM {L : qg} {k : Int} (f : List qc → List qc × Bool) (h : ¬ (0 ≤ k ∧ k < L.length)) : zW L k f = (false, L) := by unfold zW; rw [if_neg h]
theorem KL {L : qg} {n : Nat} {l : List qc} (f : List qc → List qc × Bool) (h : L[n]? = some l) : zW L (n : Int) f = if (f l).2 = true then (true, L.set n (f l).1) else (false, L) := by
 have := (List.getElem?_eq_some_iff.1 h).1
 unfold zW
 rw [if_pos ⟨by omega, by omega⟩, Int.toNat_natCast]
 simp only [h]
def w5 (L : qg) : Prop := ∀ l ∈ L, l.length ≤ 1000000
def va (n : Int) : Prop := -9223372036854775808 ≤ n ∧ n < 9223372036854775808
theorem a2s {L : qg} (hL : w5 L) (k at' : Int) (ha : va at') {c : qc} (hc : OkC c) (g : Int × (Int × Int)) :
  QJ (k, at', c.1, c.2.1.1, c.2.1.2, c.2.2.1, c.2.2.2.1, c.2.2.2.2.1, c.2.2.2.2.2) g L = some ((zW L k fun l => jY l at' c).1, (g, (zW L k fun l => jY l at' c).2)) := by
 unfold QJ
 by_cases h1 : 0 ≤ k
 ·by_cases h2 : k < L.length
  ·obtain ⟨n, rfl⟩ : ∃ n : Nat, k = n := ⟨k.toNat, by omega⟩
   obtain ⟨l, hl⟩ := qm (l := L) (i := n) (by omega)
   have hp := acW (k := at') (hL l (List.mem_of_getElem? hl)) ha hc
   rw [KL _ hl]
   cases hb : (jY l at' c).2
   ·simp (disch := omega) only [qe, cond_true, cond_false, Option.bind_some, Int.toNat_natCast, Bool.not_true, decide_true, and_true, hl, hp, hb, Bool.false_eq_true, if_false]
   ·simp (disch := omega) only [qe, cond_true, cond_false, Option.bind_some, Int.toNat_natCast, Bool.not_true, decide_true, and_true, hl, hp, hb, List.length_set, if_true]
  ·rw [zM _ (by omega)]
   simp (disch := omega) only [qe, qk, cond_true, cond_false, Bool.not_false, decide_true, and_true]
 ·rw [zM _ (by omega)]
  simp (disch := omega) only [qe, qk, cond_true, cond_false, Bool.not_true, decide_true, and_true]
theorem a7Y {L : qg} (hL : w5 L) (k at' m : Int) (ha : va at') (g : Int × (Int × Int)) :
  Zc (k, at', m) g L = some ((zW L k fun l => wg l at' m).1, (g, (zW L k fun l => wg l at' m).2)) := by
 unfold Zc
 by_cases h1 : 0 ≤ k
 ·by_cases h2 : k < L.length
  ·obtain ⟨n, rfl⟩ : ∃ n : Nat, k = n := ⟨k.toNat, by omega⟩
   obtain ⟨l, hl⟩ := qm (l := L) (i := n) (by omega)
   have hp := a77 (hL l (List.mem_of_getElem? hl)) at' m ha
   rw [KL _ hl]
   cases hb : (wg l at' m).2
   ·simp (disch := omega) only [qe, cond_true, cond_false, Option.bind_some, Int.toNat_natCast, Bool.not_true, decide_true, and_true, hl, hp, hb, Bool.false_eq_true, if_false]
   ·simp (disch := omega) only [qe, cond_true, cond_false, Option.bind_some, Int.toNat_natCast, Bool.not_true, decide_true, and_true, hl, hp, hb, List.length_set, if_true]
  ·rw [zM _ (by omega)]
   simp (disch := omega) only [qe, qk, cond_true, cond_false, Bool.not_false, decide_true, and_true]
 ·rw [zM _ (by omega)]
  simp (disch := omega) only [qe, qk, cond_true, cond_false, Bool.not_true, decide_true, and_true]
theorem a4S {L : qg} (hL : w5 L) (k f t a b c : Int) (g : Int × (Int × Int)) :
  Qn (k, f, t, a, b, c) g L = some (g, (zW L k fun l => (zu (wt l f t a b c), QG a b c)).2) := by
 unfold Qn
 by_cases h1 : 0 ≤ k
 ·by_cases h2 : k < L.length
  ·obtain ⟨n, rfl⟩ : ∃ n : Nat, k = n := ⟨k.toNat, by omega⟩
   obtain ⟨l, hl⟩ := qm (l := L) (i := n) (by omega)
   have hp := a6Z (hL l (List.mem_of_getElem? hl)) f t a b c
   have hq := a07 a b c
   rw [KL _ hl]
   cases hb : QG a b c
   ·simp (disch := omega) only [qe, cond_true, cond_false, Option.bind_some, Int.toNat_natCast, Bool.not_true, decide_true, and_true, hl, hp, hq, hb, Bool.false_eq_true, if_false]
   ·simp (disch := omega) only [qe, cond_true, cond_false, Option.bind_some, Int.toNat_natCast, Bool.not_true, decide_true, and_true, hl, hp, hq, hb, List.length_set, if_true]
  ·rw [zM _ (by omega)]
   simp (disch := omega) only [qe, qk, cond_true, cond_false, Bool.not_false, decide_true, and_true]
 ·rw [zM _ (by omega)]
  simp (disch := omega) only [qe, qk, cond_true, cond_false, Bool.not_true, decide_true, and_true]
theorem ab7 {L : qg} (hL : w5 L) (k : Int) (s : List qc) (hs : s.length ≤ 1000000) (ok : ∀ c ∈ s, OkC c) (g : Int × (Int × Int)) :
  KE (k, s) g L = some ((zW L k fun l => (s, decide ((s.length : Int) = g.2.2) && zd s)).1, (g, (zW L k fun l => (s, decide ((s.length : Int) = g.2.2) && zd s)).2)) := by
 unfold KE
 have hcl := yx s hs
 have hr := a6C hs ok
 by_cases h1 : 0 ≤ k
 ·by_cases h2 : k < L.length
  ·obtain ⟨n, rfl⟩ : ∃ n : Nat, k = n := ⟨k.toNat, by omega⟩
   obtain ⟨l, hl⟩ := qm (l := L) (i := n) (by omega)
   rw [KL _ hl]
   by_cases hq : (s.length : Int) = g.2.2
   ·cases hb : zd s
    ·simp (disch := omega) only [qe, ze, cond_true, cond_false, Option.bind_some, Int.toNat_natCast, Bool.not_true, decide_true, and_true, hl, hcl, hr, hb, hq, Bool.and_false, Bool.false_eq_true, if_false]
    ·simp (disch := omega) only [qe, ze, cond_true, cond_false, Option.bind_some, Int.toNat_natCast, Bool.not_true, decide_true, and_true, hl, hcl, hr, hb, hq, Bool.and_true, List.length_set, if_true]
   ·simp (disch := omega) only [qe, qL, cond_true, cond_false, Option.bind_some, Int.toNat_natCast, Bool.not_true, decide_true, decide_false, and_true, hl, hcl, hr, hq, Bool.false_and, Bool.false_eq_true, if_false]
  ·rw [zM _ (by omega)]
   simp (disch := omega) only [qe, qk, cond_true, cond_false, Bool.not_false, decide_true, and_true]
 ·rw [zM _ (by omega)]
  simp (disch := omega) only [qe, qk, cond_true, cond_false, Bool.not_true, decide_true, and_true]
end Go.Sim
set_option maxRecDepth 100000
set_option maxHeartbeats 0
namespace Go.Sim
open Go.Proofs
noncomputable def zN (x2 : (Int × Int)) (x3 : Y3_) (x4 : (List Y0_)) (x5 : Y3_) (x6 : (List Y0_)) : Option (((Int × Int) × Kh) ⊕ Kh) :=
 bif decide (x2.2 < x2.1) then
  bif decide (0 ≤ x2.2) then
   bif decide (x2.2.toNat < List.length x4 ∧ List.length x4 = List.length x4) then
    bif decide (List.length x4 = List.length x4) then
     Option.bind (x4[x2.2.toNat]?) fun x7 =>
      Option.bind (qN x7) fun x8 =>
       bif decide (List.length x8 = List.length x8) then
        bif decide ((1 : Nat) = (1 : Nat)) then
         bif decide (x6.length = x6.length ∧ x6.length + (1 : Nat) ≤ (5864062014805 : Nat)) then
          bif decide (x6.length + (1 : Nat) = (x6 ++ [x8]).length) then
           bif decide (List.length x4 = List.length x4) then
            bif decide (List.length x4 = List.length x4) then
             some (Sum.inl ((x2.1, (IntKind.i64.wrap (x2.2 + (1 : Int)))), ((x3.1, (x3.2.1, x3.2.2)), (x4, ((x5.1, (x5.2.1, x5.2.2)), (x6 ++ [x8]))))))
            else none
           else none
          else none
         else none
        else none
       else none
    else none
   else none
  else none
 else bif decide (x6.length = x6.length) then
   bif decide (List.length x4 = List.length x4) then
    some (Sum.inr ((x3.1, (x3.2.1, x3.2.2)), (x4, ((x5.1, (x5.2.1, x5.2.2)), x6))))
   else none
  else none
noncomputable def W5 : ((Int × Int) × Kh) → Option Kh := qT fun s => zN s.1 s.2.1 s.2.2.1 s.2.2.2.1 s.2.2.2.2
noncomputable def jN (x0 : Y3_) (x1 : (List Y0_)) : Option Kh :=
 bif decide (x1.length = x1.length) then
  bif decide (x1.length = x1.length) then
   bif decide (x1.length = x1.length) then
    Option.bind (W5 ((((↑x1.length : Int)), ((0 : Int))), ((x0.1, (x0.2.1, x0.2.2)), (x1, ((x0.1, (x0.2.1, x0.2.2)), []))))) fun x2 =>
     some x2
   else none
  else none
 else none
noncomputable def jw : TEnt := ⟨47, .ptr 0 0, [.st Y4_, .li (.sl Y1_) 104 false], [(.ptr 2 0, [.st Y4_, .li (.sl Y1_) 104 false, .st U3, .li (.sl Y1_) 104 false])], fun s => jN s.1 s.2⟩
theorem kW : qu Tryz.prog jw := qh (tab := [kG]) (loops := [(299594, [3, 21, 22, 23], (.cons (.ptr 2 0) (.cons (.own 1) Y7_)), [.st Y4_, .li (.sl Y1_) 104 false, .st U3, .li (.sl Y1_) 104 false])]) (joins := []) (un := []) _ (by
  intro e he
  simp only [List.mem_cons, List.not_mem_nil, or_false] at he
  rcases he with rfl
  ·exact zT) (fun s => by kernel_rfl) (by kernel_rfl)
noncomputable def km (x2 : Y0_) (x3 : Y0_) (x4 : Int) : Option ((Y0_ × (Y0_ × Int)) ⊕ Bool) :=
 bif decide (x4 < (↑(List.length x2) : Int)) then
  bif decide (0 ≤ x4) then
   Option.bind (x2[x4.toNat]?) fun x5 =>
    bif decide (0 ≤ x4) then
     Option.bind (x3[x4.toNat]?) fun x6 =>
      bif !(x5.1 == x6.1 && (x5.2.1.1 == x6.2.1.1 && (x5.2.1.2 == x6.2.1.2 && true) && (x5.2.2.1 == x6.2.2.1 && (x5.2.2.2.1 == x6.2.2.2.1 && (x5.2.2.2.2.1 == x6.2.2.2.2.1 && (x5.2.2.2.2.2 == x6.2.2.2.2.2 && true)) && true)))) then
       some (Sum.inr false)
      else some (Sum.inl (x2, (x3, (IntKind.i64.wrap (x4 + (1 : Int))))))
    else none
  else none
 else some (Sum.inr true)
noncomputable def Yo : (Y0_ × (Y0_ × Int)) → Option Bool := qT fun s => km s.1 s.2.1 s.2.2
noncomputable def KG (x0 : Y0_) (x1 : Y0_) : Option Bool :=
 bif (↑(List.length x0) : Int) != (↑x1.length : Int) then
  some false
 else Option.bind (Yo (x0, (x1, ((0 : Int))))) fun x2 =>
   some x2
noncomputable def uw : TEnt := ⟨110, .cons (.sl Y2_) (.sl Y2_), [], [(.bool, [])], fun s => KG s.1 s.2⟩
theorem a1i : qu Tryz.prog uw := qh (tab := []) (loops := [(37450, [0, 1, 5], (.cons (.sl Y2_) (.cons (.sl Y2_) (.int .i64))), [])]) (joins := []) (un := []) _ (by intro e he; simp at he) (fun s => by kernel_rfl) (by kernel_rfl)
noncomputable def QP (x0 : Int) (x1 : Int) : Option Bool :=
 bif decide (1 ≤ x0) then
  bif decide (x0 ≤ 512) then
   bif decide (1 ≤ x1) then
    some (decide (x1 ≤ 512))
   else some false
  else some false
 else some false
noncomputable def UO : TEnt := ⟨28, .cons (.int .i64) (.int .i64), [], [(.bool, [])], fun s => QP s.1 s.2⟩
theorem a14 : qu Tryz.prog UO := qh (tab := []) (loops := []) (joins := []) (un := []) _ (by intro e he; simp at he) (fun s => by kernel_rfl) (by kernel_rfl)
noncomputable def kE (x2 : Y3_) (x3 : (Int × Int)) (x4 : (Int × Int)) (x5 : (List Y0_)) : Option ((Y3_ × a6O) ⊕ a5U) :=
 bif decide (x2.2.2 < x2.1) then
  Option.bind (yg x2.2.1) fun x6 =>
   bif decide ((1 : Nat) = (1 : Nat)) then
    bif decide (x5.length = x5.length ∧ x5.length + (1 : Nat) ≤ (5864062014805 : Nat)) then
     bif decide (x5.length + (1 : Nat) = (x5 ++ [x6]).length) then
      some (Sum.inl ((x2.1, (x2.2.1, (IntKind.i64.wrap (x2.2.2 + (1 : Int))))), ((x3.1, x3.2), ((x4.1, x4.2), (x5 ++ [x6])))))
     else none
    else none
   else none
 else bif decide (x5.length = x5.length) then
   some (Sum.inr ((x4.1, x4.2), x5))
  else none
noncomputable def vV : (Y3_ × a6O) → Option a5U := qT fun s => kE s.1 s.2.1 s.2.2.1 s.2.2.2
noncomputable def Y0 (x0 : Int) (x1 : Int) : Option a5U :=
 Option.bind (vV ((x0, (x1, ((0 : Int)))), ((((0 : Int)), ((0 : Int))), ((((0 : Int)), ((0 : Int))), [])))) fun x2 =>
  some x2
noncomputable def a29 : TEnt := ⟨45, .cons (.int .i64) (.int .i64), [], [(.agg (.cons (.own 0) Y7_), [.li (.sl Y2_) 118 false])], fun s => Y0 s.1 s.2⟩
theorem a41 : qu Tryz.prog a29 := qh (tab := [Y5]) (loops := [(4682, [0, 1, 4, 5, 6], (.cons (.int .i64) (.cons (.int .i64) aik)), [.st a6V, .st (.cons (.own 2) Y7_), .li (.sl Y2_) 118 false])]) (joins := []) (un := []) _ (by
  intro e he
  simp only [List.mem_cons, List.not_mem_nil, or_false] at he
  rcases he with rfl
  ·exact Jj) (fun s => by kernel_rfl) (by kernel_rfl)
noncomputable def zJ (x0 : (List Y0_)) (x1 : Int) (x2 : Int) : Option Int :=
 bif (↑(List.length x0) : Int) == 0 then
  some ((0 : Int))
 else Option.bind (x0[(0 : Nat)]?) fun x3 =>
   some ((↑(List.length x3) : Int))
noncomputable def wn : TEnt := ⟨54, .agg kL, [], [(.int .i64, [])], fun s => zJ s.1 s.2.1 s.2.2⟩
theorem jh : qu Tryz.prog wn := qh (tab := []) (loops := []) (joins := []) (un := []) _ (by intro e he; simp at he) (fun s => by kernel_rfl) (by kernel_rfl)
noncomputable def kS (x0 : Y9_) (x1 : Int) : Option Bool :=
 bif decide (0 ≤ x1) then
  some (decide (x1 < (↑x0.1.length : Int)))
 else some false
noncomputable def QE : TEnt := ⟨108, .cons (.agg kL) (.int .i64), [], [(.bool, [])], fun s => kS s.1 s.2⟩
theorem wY : qu Tryz.prog QE := qh (tab := []) (loops := []) (joins := []) (un := []) _ (by intro e he; simp at he) (fun s => by kernel_rfl) (by kernel_rfl)
noncomputable def vp (x0 : Y9_) (x1 : Int) (x2 : Int) : Option (Jd × Bool) :=
 Option.bind (kS (x0.1, x0.2.1, x0.2.2) x1) fun x3 =>
  bif !x3 then
   some ((((0 : Int)), (((0 : Int)), (((0 : Int)), (((0 : Int)), (((0 : Int)), (((0 : Int)), ((0 : Int)))))))), false)
  else bif decide (x2 < 0) then
    some ((((0 : Int)), (((0 : Int)), (((0 : Int)), (((0 : Int)), (((0 : Int)), (((0 : Int)), ((0 : Int)))))))), false)
   else Option.bind (zJ x0.1 x0.2.1 x0.2.2) fun x4 =>
     bif decide (x4 ≤ x2) then
      some ((((0 : Int)), (((0 : Int)), (((0 : Int)), (((0 : Int)), (((0 : Int)), (((0 : Int)), ((0 : Int)))))))), false)
     else bif decide (0 ≤ x1) then
       Option.bind (x0.1[Int.toNat x1]?) fun x5 =>
        bif decide (0 ≤ x2) then
         Option.bind (x5[x2.toNat]?) fun x6 =>
          some ((x6.1, (x6.2.1.1, (x6.2.1.2, (x6.2.2.1, (x6.2.2.2.1, (x6.2.2.2.2.1, x6.2.2.2.2.2)))))), true)
        else none
      else none
noncomputable def a5D : TEnt := ⟨53, .cons (.agg kL) Y7_, [], [(.tup (.cons (.agg xA) .bool), [])], fun s => vp s.1 s.2.1 s.2.2⟩
theorem a6k : qu Tryz.prog a5D := qh (tab := [wn, QE]) (loops := []) (joins := []) (un := []) _ (by
  intro e he
  simp only [List.mem_cons, List.not_mem_nil, or_false] at he
  rcases he with rfl | rfl
  ·exact jh
  ·exact wY) (fun s => by kernel_rfl) (by kernel_rfl)
noncomputable def zV (x3 : (Int × (Y0_ × Int))) (x4 : Y9_) (x5 : (Int × Int)) (x6 : (List Y0_)) : Option (((Int × (Y0_ × Int)) × (Y9_ × a5U)) ⊕ Y9_) :=
 bif decide (x3.2.2 < (↑x4.1.length : Int)) then
  bif x3.2.2 == x3.1 then
   bif decide ((0 : Nat) = (0 : Nat) ∧ (0 : Nat) + x3.2.1.length ≤ (4398046511104 : Nat)) then
    bif decide (([] ++ x3.2.1).length = (0 : Nat) + x3.2.1.length) then
     bif decide ((1 : Nat) = (1 : Nat)) then
      bif decide (x6.length = x6.length ∧ x6.length + (1 : Nat) ≤ (5864062014805 : Nat)) then
       bif decide (x6.length + (1 : Nat) = (x6 ++ [[] ++ x3.2.1]).length) then
        some (Sum.inl ((x3.1, (x3.2.1, (IntKind.i64.wrap (x3.2.2 + (1 : Int))))), ((x4.1, (x4.2.1, x4.2.2)), ((x5.1, x5.2), (x6 ++ [[] ++ x3.2.1])))))
       else none
      else none
     else none
    else none
   else none
  else bif decide (0 ≤ x3.2.2) then
    Option.bind (x4.1[x3.2.2.toNat]?) fun x7 =>
     bif decide ((1 : Nat) = (1 : Nat)) then
      bif decide (x6.length = x6.length ∧ x6.length + (1 : Nat) ≤ (5864062014805 : Nat)) then
       bif decide (x6.length + (1 : Nat) = (x6 ++ [x7]).length) then
        some (Sum.inl ((x3.1, (x3.2.1, (IntKind.i64.wrap (x3.2.2 + (1 : Int))))), ((x4.1, (x4.2.1, x4.2.2)), ((x5.1, x5.2), (x6 ++ [x7])))))
       else none
      else none
     else none
   else none
 else bif decide (x6.length = x6.length) then
   some (Sum.inr (x6, (x4.2.1, x4.2.2)))
  else none
noncomputable def Yv : ((Int × (Y0_ × Int)) × (Y9_ × a5U)) → Option Y9_ := qT fun s => zV s.1 s.2.1 s.2.2.1 s.2.2.2
noncomputable def wq (x0 : Y9_) (x1 : Int) (x2 : Y0_) : Option Y9_ :=
 Option.bind (Yv ((x1, (x2, ((0 : Int)))), ((x0.1, (x0.2.1, x0.2.2)), ((((0 : Int)), ((0 : Int))), [])))) fun x3 =>
  some x3
noncomputable def QL : TEnt := ⟨112, .cons (.agg kL) (.cons (.int .i64) (.sl Y2_)), [], [(.agg kL, [])], fun s => wq s.1 s.2.1 s.2.2⟩
theorem yJ : qu Tryz.prog QL := qh (tab := []) (loops := [(4682, [1, 2, 3, 6, 7, 8], (.cons (.int .i64) (.cons (.sl Y2_) (.cons (.ptr 0 0) (.cons (.ptr 1 0) (.cons (.own 2) (.int .i64)))))), [.st kL, .st a6V, .li (.sl Y2_) 118 false])]) (joins := []) (un := []) _ (by intro e he; simp at he) (fun s => by kernel_rfl) (by kernel_rfl)
noncomputable def Kl (x0 : Y9_) (x1 : Int) (x2 : Int) (x3 : Int) (x4 : Int) (x5 : Int) (x6 : Int) (x7 : Int) (x8 : Int) (x9 : Int) : Option (Y9_ × Bool) :=
 Option.bind (kS (x0.1, x0.2.1, x0.2.2) x1) fun x10 =>
  bif !x10 then
   some ((x0.1, (x0.2.1, x0.2.2)), false)
  else bif decide (0 ≤ x1) then
    Option.bind (x0.1[Int.toNat x1]?) fun x11 =>
     Option.bind (WP x11 x2 x3 x4 x5 x6 x7 x8 x9) fun x12 =>
      Option.bind (wq (x0.1, x0.2.1, x0.2.2) x1 x12.1) fun x13 =>
       some ((x13.1, (x13.2.1, x13.2.2)), x12.2)
   else none
noncomputable def VP : TEnt := ⟨60, .cons (.agg kL) (.cons (.int .i64) (.cons (.int .i64) (.agg xA))), [], [(.tup acj, [])], fun s => Kl s.1 s.2.1 s.2.2.1 s.2.2.2.1 s.2.2.2.2.1 s.2.2.2.2.2.1 s.2.2.2.2.2.2.1 s.2.2.2.2.2.2.2.1 s.2.2.2.2.2.2.2.2.1 s.2.2.2.2.2.2.2.2.2⟩
theorem vt : qu Tryz.prog VP := qh (tab := [a1M, QE, QL]) (loops := []) (joins := []) (un := []) _ (by
  intro e he
  simp only [List.mem_cons, List.not_mem_nil, or_false] at he
  rcases he with rfl | rfl | rfl
  ·exact a47
  ·exact wY
  ·exact yJ) (fun s => by kernel_rfl) (by kernel_rfl)
noncomputable def Jk (x0 : Y9_) (x1 : Int) (x2 : Int) (x3 : Int) : Option (Y9_ × Bool) :=
 Option.bind (kS (x0.1, x0.2.1, x0.2.2) x1) fun x4 =>
  bif !x4 then
   some ((x0.1, (x0.2.1, x0.2.2)), false)
  else bif decide (0 ≤ x1) then
    Option.bind (x0.1[Int.toNat x1]?) fun x5 =>
     Option.bind (KA x5 x2 x3) fun x6 =>
      Option.bind (wq (x0.1, x0.2.1, x0.2.2) x1 x6.1) fun x7 =>
       some ((x7.1, (x7.2.1, x7.2.2)), x6.2)
   else none
noncomputable def uC : TEnt := ⟨87, .cons (.agg kL) (.cons (.int .i64) Y7_), [], [(.tup acj, [])], fun s => Jk s.1 s.2.1 s.2.2.1 s.2.2.2⟩
theorem a1r : qu Tryz.prog uC := qh (tab := [uf, QE, QL]) (loops := []) (joins := []) (un := []) _ (by
  intro e he
  simp only [List.mem_cons, List.not_mem_nil, or_false] at he
  rcases he with rfl | rfl | rfl
  ·exact a0L
  ·exact wY
  ·exact yJ) (fun s => by kernel_rfl) (by kernel_rfl)
noncomputable def Zw (x0 : Y9_) (x1 : Int) (x2 : Int) (x3 : Int) (x4 : Int) (x5 : Int) (x6 : Int) : Option Y9_ :=
 Option.bind (kS (x0.1, x0.2.1, x0.2.2) x1) fun x7 =>
  bif !x7 then
   some (x0.1, (x0.2.1, x0.2.2))
  else Option.bind (wF x4 x5 x6) fun x8 =>
    bif !x8 then
     some (x0.1, (x0.2.1, x0.2.2))
    else bif decide (0 ≤ x1) then
      Option.bind (x0.1[Int.toNat x1]?) fun x9 =>
       Option.bind (wA x9 x2 x3 x4 x5 x6) fun x10 =>
        Option.bind (wq (x0.1, x0.2.1, x0.2.2) x1 x10) fun x11 =>
         some (x11.1, (x11.2.1, x11.2.2))
     else none
noncomputable def X2 : TEnt := ⟨90, .cons (.agg kL) (.cons (.int .i64) agl), [], [(.agg kL, [])], fun s => Zw s.1 s.2.1 s.2.2.1 s.2.2.2.1 s.2.2.2.2.1 s.2.2.2.2.2.1 s.2.2.2.2.2.2⟩
theorem ui : qu Tryz.prog X2 := qh (tab := [Ze, Wq, QE, QL]) (loops := []) (joins := []) (un := []) _ (by
  intro e he
  simp only [List.mem_cons, List.not_mem_nil, or_false] at he
  rcases he with rfl | rfl | rfl | rfl
  ·exact QH
  ·exact Ws
  ·exact wY
  ·exact yJ) (fun s => by kernel_rfl) (by kernel_rfl)
noncomputable def WS (x0 : Y9_) (x1 : Int) (x2 : Y0_) : Option (Y9_ × Bool) :=
 Option.bind (kS (x0.1, x0.2.1, x0.2.2) x1) fun x3 =>
  bif !x3 then
   some ((x0.1, (x0.2.1, x0.2.2)), false)
  else Option.bind (zJ x0.1 x0.2.1 x0.2.2) fun x4 =>
    bif (↑x2.length : Int) != x4 then
     some ((x0.1, (x0.2.1, x0.2.2)), false)
    else Option.bind (Zp x2) fun x5 =>
      bif !x5 then
       some ((x0.1, (x0.2.1, x0.2.2)), false)
      else Option.bind (wq (x0.1, x0.2.1, x0.2.2) x1 x2) fun x6 =>
        some ((x6.1, (x6.2.1, x6.2.2)), true)
noncomputable def a1X : TEnt := ⟨92, .cons (.agg kL) (.cons (.int .i64) (.sl Y2_)), [], [(.tup acj, [])], fun s => WS s.1 s.2.1 s.2.2⟩
theorem a36 : qu Tryz.prog a1X := qh (tab := [xQ, wn, QE, QL]) (loops := []) (joins := []) (un := []) _ (by
  intro e he
  simp only [List.mem_cons, List.not_mem_nil, or_false] at he
  rcases he with rfl | rfl | rfl | rfl
  ·exact uk
  ·exact jh
  ·exact wY
  ·exact yJ) (fun s => by kernel_rfl) (by kernel_rfl)
noncomputable def yY (x0 : Int) (x1 : Int) : Option Int :=
 bif decide (x1 ≤ x0) then
  bif decide (IntKind.i64.wrap (x1 - (1 : Int)) < 0) then
   some ((0 : Int))
  else some (IntKind.i64.wrap (x1 - (1 : Int)))
 else bif decide (x0 < 0) then
   some ((0 : Int))
  else some x0
noncomputable def Xo : TEnt := ⟨109, .cons (.int .i64) (.int .i64), [], [(.int .i64, [])], fun s => yY s.1 s.2⟩
theorem UJ : qu Tryz.prog Xo := qh (tab := []) (loops := []) (joins := []) (un := []) _ (by intro e he; simp at he) (fun s => by kernel_rfl) (by kernel_rfl)
noncomputable def jd (x0 : Y9_) (x1 : Int) (x2 : Int) : Option Y9_ :=
 bif (↑x0.1.length : Int) == 0 then
  some (x0.1, (x0.2.1, x0.2.2))
 else Option.bind (yY x1 (↑x0.1.length : Int)) fun x3 =>
   Option.bind (zJ x0.1 x0.2.1 x0.2.2) fun x4 =>
    Option.bind (yY x2 x4) fun x5 =>
     some (x0.1, (x3, x5))
noncomputable def QQ : TEnt := ⟨56, .cons (.agg kL) Y7_, [], [(.agg kL, [])], fun s => jd s.1 s.2.1 s.2.2⟩
theorem yA : qu Tryz.prog QQ := qh (tab := [wn, Xo]) (loops := []) (joins := []) (un := []) _ (by
  intro e he
  simp only [List.mem_cons, List.not_mem_nil, or_false] at he
  rcases he with rfl | rfl
  ·exact jh
  ·exact UJ) (fun s => by kernel_rfl) (by kernel_rfl)
noncomputable def zF (x8 : Y3_) (x9 : Y9_) (x10 : Y3_) (x11 : (Int × Int)) (x12 : (List Y0_)) : Option ((Y3_ × (Y9_ × (Y3_ × a5U))) ⊕ Y9_) :=
 bif decide (x8.2.2 < x8.2.1) then
  bif decide ((0 : Int) ≤ IntKind.i64.wrap (x8.2.2 + x8.1)) then
   bif decide (IntKind.i64.wrap (x8.2.2 + x8.1) < x8.2.1) then
    bif decide ((0 : Int) ≤ IntKind.i64.wrap (x8.2.2 + x8.1)) then
     Option.bind (x9.1[(IntKind.i64.wrap (x8.2.2 + x8.1)).toNat]?) fun x13 =>
      bif decide ((1 : Nat) = (1 : Nat)) then
       bif decide (x12.length = x12.length ∧ x12.length + (1 : Nat) ≤ (5864062014805 : Nat)) then
        bif decide (x12.length + (1 : Nat) = (x12 ++ [x13]).length) then
         some (Sum.inl ((x8.1, (x8.2.1, (IntKind.i64.wrap (x8.2.2 + (1 : Int))))), ((x9.1, (x9.2.1, x9.2.2)), ((x10.1, (x10.2.1, x10.2.2)), ((x11.1, x11.2), (x12 ++ [x13]))))))
        else none
       else none
      else none
    else none
   else Option.bind (zJ x9.1 x9.2.1 x9.2.2) fun x13 =>
     Option.bind (yg x13) fun x14 =>
      Option.bind (zJ x9.1 x9.2.1 x9.2.2) fun x15 =>
       Option.bind (wA x14 (0 : Int) x15 x10.1 x10.2.1 x10.2.2) fun x16 =>
        bif decide ((1 : Nat) = (1 : Nat)) then
         bif decide (x12.length = x12.length ∧ x12.length + (1 : Nat) ≤ (5864062014805 : Nat)) then
          bif decide (x12.length + (1 : Nat) = (x12 ++ [x16]).length) then
           some (Sum.inl ((x8.1, (x8.2.1, (IntKind.i64.wrap (x8.2.2 + (1 : Int))))), ((x9.1, (x9.2.1, x9.2.2)), ((x10.1, (x10.2.1, x10.2.2)), ((x11.1, x11.2), (x12 ++ [x16]))))))
          else none
         else none
        else none
  else Option.bind (zJ x9.1 x9.2.1 x9.2.2) fun x13 =>
    Option.bind (yg x13) fun x14 =>
     Option.bind (zJ x9.1 x9.2.1 x9.2.2) fun x15 =>
      Option.bind (wA x14 (0 : Int) x15 x10.1 x10.2.1 x10.2.2) fun x16 =>
       bif decide ((1 : Nat) = (1 : Nat)) then
        bif decide (x12.length = x12.length ∧ x12.length + (1 : Nat) ≤ (5864062014805 : Nat)) then
         bif decide (x12.length + (1 : Nat) = (x12 ++ [x16]).length) then
          some (Sum.inl ((x8.1, (x8.2.1, (IntKind.i64.wrap (x8.2.2 + (1 : Int))))), ((x9.1, (x9.2.1, x9.2.2)), ((x10.1, (x10.2.1, x10.2.2)), ((x11.1, x11.2), (x12 ++ [x16]))))))
         else none
        else none
       else none
 else bif decide (x12.length = x12.length) then
   some (Sum.inr (x12, (x9.2.1, x9.2.2)))
  else none
noncomputable def Q6 : (Y3_ × (Y9_ × (Y3_ × a5U))) → Option Y9_ := qT fun s => zF s.1 s.2.1 s.2.2.1 s.2.2.2.1 s.2.2.2.2
noncomputable def Qm (x0 : Y9_) (x1 : Int) (x2 : Int) (x3 : Int) (x4 : Int) : Option Y9_ :=
 Option.bind (wF x2 x3 x4) fun x5 =>
  bif !x5 then
   some (x0.1, (x0.2.1, x0.2.2))
  else Option.bind (
    bif decide ((↑x0.1.length : Int) < x1) then
     some (Sum.inl ((((↑x0.1.length : Int)), ((↑x0.1.length : Int))), ((x0.1, (x0.2.1, x0.2.2)), ((x2, (x3, x4)), (((0 : Int)), ((0 : Int)))))))
    else some (Sum.inl ((x1, ((↑x0.1.length : Int))), ((x0.1, (x0.2.1, x0.2.2)), ((x2, (x3, x4)), (((0 : Int)), ((0 : Int)))))))) fun (x6 : (((Int × Int) × (Y9_ × (Y3_ × (Int × Int)))) ⊕ Y9_)) =>
    match x6 with
    | Sum.inl x7 =>
      bif decide (x7.1.1 < IntKind.i64.wrap ((0 : Int) - x7.1.2)) then
       Option.bind (Q6 (((IntKind.i64.wrap ((0 : Int) - x7.1.2)), (x7.1.2, ((0 : Int)))), ((x7.2.1.1, (x7.2.1.2.1, x7.2.1.2.2)), ((x7.2.2.1.1, (x7.2.2.1.2.1, x7.2.2.1.2.2)), ((x7.2.2.2.1, x7.2.2.2.2), []))))) fun x8 =>
        some x8
      else Option.bind (Q6 ((x7.1.1, (x7.1.2, ((0 : Int)))), ((x7.2.1.1, (x7.2.1.2.1, x7.2.1.2.2)), ((x7.2.2.1.1, (x7.2.2.1.2.1, x7.2.2.1.2.2)), ((x7.2.2.2.1, x7.2.2.2.2), []))))) fun x8 =>
        some x8
    | Sum.inr x7 =>
      some x7
noncomputable def VD : TEnt := ⟨96, .cons (.agg kL) (.cons (.int .i64) (.agg Y8_)), [], [(.agg kL, [])], fun s => Qm s.1 s.2.1 s.2.2.1 s.2.2.2.1 s.2.2.2.2⟩
theorem XB : qu Tryz.prog VD := qh (tab := [Ze, Y5, Wq, wn]) (loops := [(9817068106, [1, 3, 5, 6, 7, 8, 9], (.cons (.int .i64) (.cons (.ptr 0 0) (.cons (.ptr 1 0) (.cons (.ptr 2 0) (.cons (.int .i64) (.cons (.own 3) (.int .i64))))))), [.st kL, .st Y8_, .st a6V, .li (.sl Y2_) 118 false])]) (joins := [(37449, [1, 3, 5, 6, 7], (.cons (.int .i64) ahR), [.st kL, .st Y8_, .st a6V])]) (un := []) _ (by
  intro e he
  simp only [List.mem_cons, List.not_mem_nil, or_false] at he
  rcases he with rfl | rfl | rfl | rfl
  ·exact QH
  ·exact Jj
  ·exact Ws
  ·exact jh) (fun s => by kernel_rfl) (by kernel_rfl)
noncomputable def kr (x4 : Y3_) (x5 : Y9_) (x6 : (Int × Int)) (x7 : (Int × Int)) (x8 : (List Y0_)) : Option ((Y3_ × (Y9_ × a6O)) ⊕ Y9_) :=
 bif decide (x4.2.2 < x4.1) then
  bif decide (x4.2.2 < (↑x5.1.length : Int)) then
   bif decide (0 ≤ x4.2.2) then
    Option.bind (x5.1[x4.2.2.toNat]?) fun x9 =>
     Option.bind (Yf x9 x4.2.1) fun x10 =>
      bif decide (0 ≤ x4.2.2) then
       bif decide (x4.2.2.toNat < x8.length ∧ x8.length = x8.length) then
        bif decide (x8.length = x8.length) then
         Option.bind (x8[x4.2.2.toNat]?) fun x11 =>
          bif decide (x8.length = (x8.set x4.2.2.toNat x10).length) then
           some (Sum.inl ((x4.1, (x4.2.1, (IntKind.i64.wrap (x4.2.2 + (1 : Int))))), ((x5.1, (x5.2.1, x5.2.2)), ((x6.1, x6.2), ((x7.1, x7.2), (x8.set x4.2.2.toNat x10))))))
          else none
        else none
       else none
      else none
   else none
  else bif decide (x8.length = x8.length) then
    Option.bind (jd (x8, x7.1, x7.2) x5.2.1 x5.2.2) fun x9 =>
     some (Sum.inr (x9.1, (x9.2.1, x9.2.2)))
   else none
 else bif decide (x8.length = x8.length) then
   Option.bind (jd (x8, x7.1, x7.2) x5.2.1 x5.2.2) fun x9 =>
    some (Sum.inr (x9.1, (x9.2.1, x9.2.2)))
  else none
noncomputable def Vt : (Y3_ × (Y9_ × a6O)) → Option Y9_ := qT fun s => kr s.1 s.2.1 s.2.2.1 s.2.2.2.1 s.2.2.2.2
noncomputable def K8 (x0 : Y9_) (x1 : Int) (x2 : Int) : Option Y9_ :=
 Option.bind (Y0 x1 x2) fun x3 =>
  bif decide (x3.2.length = x3.2.length) then
   Option.bind (Vt ((x1, (x2, ((0 : Int)))), ((x0.1, (x0.2.1, x0.2.2)), ((((0 : Int)), ((0 : Int))), ((x3.1.1, x3.1.2), x3.2))))) fun x4 =>
    some x4
  else none
noncomputable def a2d : TEnt := ⟨81, .cons (.agg kL) Y7_, [], [(.agg kL, [])], fun s => K8 s.1 s.2.1 s.2.2⟩
theorem a3g : qu Tryz.prog a2d := qh (tab := [a1Q, a29, QQ]) (loops := [(4682, [1, 2, 3, 6, 7, 8], (.cons (.int .i64) (.cons (.int .i64) ahR)), [.st kL, .st a6V, .st (.cons (.own 3) Y7_), .li (.sl Y2_) 118 false])]) (joins := []) (un := []) _ (by
  intro e he
  simp only [List.mem_cons, List.not_mem_nil, or_false] at he
  rcases he with rfl | rfl | rfl
  ·exact a3X
  ·exact a41
  ·exact yA) (fun s => by kernel_rfl) (by kernel_rfl)
noncomputable def kf (x4 : Int) (x5 : Y9_) (x6 : (List Y0_)) (x7 : Int) (x8 : Int) : Option ((Int × (Y9_ × Y9_)) ⊕ Bool) :=
 bif decide (x4 < (↑x5.1.length : Int)) then
  bif decide (0 ≤ x4) then
   Option.bind (x5.1[Int.toNat x4]?) fun x9 =>
    bif decide (0 ≤ x4) then
     Option.bind (x6[Int.toNat x4]?) fun x10 =>
      Option.bind (KG x9 x10) fun x11 =>
       bif !x11 then
        some (Sum.inr false)
       else some (Sum.inl ((IntKind.i64.wrap (x4 + (1 : Int))), ((x5.1, (x5.2.1, x5.2.2)), (x6, (x7, x8)))))
    else none
  else none
 else some (Sum.inr true)
noncomputable def YE : (Int × (Y9_ × Y9_)) → Option Bool := qT fun s => kf s.1 s.2.1 s.2.2.1 s.2.2.2.1 s.2.2.2.2
noncomputable def KF (x0 : Y9_) (x1 : (List Y0_)) (x2 : Int) (x3 : Int) : Option Bool :=
 bif (↑x0.1.length : Int) != (↑(List.length x1) : Int) then
  some false
 else bif x0.2.1 != x2 then
   some false
  else bif x0.2.2 != x3 then
    some false
   else Option.bind (YE (((0 : Int)), ((x0.1, (x0.2.1, x0.2.2)), (x1, (x2, x3))))) fun x4 =>
     some x4
noncomputable def uB : TEnt := ⟨58, .cons (.agg kL) (.agg kL), [], [(.bool, [])], fun s => KF s.1 s.2.1 s.2.2.1 s.2.2.2⟩
theorem a16 : qu Tryz.prog uB := qh (tab := [uw]) (loops := [(37450, [2, 3, 5], aik, [.st kL, .st kL])]) (joins := []) (un := []) _ (by
  intro e he
  simp only [List.mem_cons, List.not_mem_nil, or_false] at he
  rcases he with rfl
  ·exact a1i) (fun s => by kernel_rfl) (by kernel_rfl)
noncomputable def wP (x0 : Int) (x1 : Int) (x2 : Int) (x3 : Int) (x4 : Int) (x5 : Int) (x6 : Int) : Option Jd :=
 some ((IntKind.i64.wrap x0), ((IntKind.i64.wrap x1), ((IntKind.i64.wrap x2), (x3, (x4, (x5, x6))))))
noncomputable def vK : TEnt := ⟨57, .agg XC, [], [(.agg xA, [])], fun s => wP s.1 s.2.1 s.2.2.1 s.2.2.2.1 s.2.2.2.2.1 s.2.2.2.2.2.1 s.2.2.2.2.2.2⟩
theorem JW : qu Tryz.prog vK := qh (tab := []) (loops := []) (joins := []) (un := []) _ (by intro e he; simp at he) (fun s => by kernel_rfl) (by kernel_rfl)
noncomputable def kV (x1 : (Y0_ × Int)) (x2 : Y0_) : Option (((Y0_ × Int) × Y0_) ⊕ Y0_) :=
 bif decide (x1.2 < (↑x1.1.length : Int)) then
  bif decide (0 ≤ x1.2) then
   Option.bind (x1.1[x1.2.toNat]?) fun x3 =>
    Option.bind (wP x3.1 x3.2.1.1 x3.2.1.2 x3.2.2.1 x3.2.2.2.1 x3.2.2.2.2.1 x3.2.2.2.2.2) fun x4 =>
     bif decide ((1 : Nat) = (1 : Nat)) then
      bif decide (x2.length = x2.length ∧ x2.length + (1 : Nat) ≤ (4398046511104 : Nat)) then
       bif decide (x2.length + (1 : Nat) = (x2 ++ [(x4.1, (x4.2.1, x4.2.2.1), x4.2.2.2.1, x4.2.2.2.2.1, x4.2.2.2.2.2.1, x4.2.2.2.2.2.2)]).length) then
        some (Sum.inl ((x1.1, (IntKind.i64.wrap (x1.2 + (1 : Int)))), (x2 ++ [(x4.1, (x4.2.1, x4.2.2.1), x4.2.2.2.1, x4.2.2.2.2.1, x4.2.2.2.2.2.1, x4.2.2.2.2.2.2)])))
       else none
      else none
     else none
  else none
 else bif decide (x2.length = x2.length) then
   some (Sum.inr x2)
  else none
noncomputable def Xq : ((Y0_ × Int) × Y0_) → Option Y0_ := qT fun s => kV s.1 s.2
noncomputable def JU (x0 : Y0_) : Option Y0_ :=
 Option.bind (Xq ((x0, ((0 : Int))), [])) fun x1 =>
  some x1
noncomputable def Uc : TEnt := ⟨93, .sl Y1_, [], [(.sl Y2_, [])], fun s => JU s⟩
theorem Xn : qu Tryz.prog Uc := qh (tab := [vK]) (loops := [(4682, [0, 3, 4], (.cons (.sl Y1_) (.cons (.own 0) (.int .i64))), [.li Y2_ 47 false])]) (joins := []) (un := []) _ (by
  intro e he
  simp only [List.mem_cons, List.not_mem_nil, or_false] at he
  rcases he with rfl
  ·exact JW) (fun s => by kernel_rfl) (by kernel_rfl)
noncomputable def Y7 (x0 : Y0_) : Option Y0_ :=
 bif decide (((0 : Int) ≤ if 30 < (↑x0.length : Int) then (30 : Int) else (↑x0.length : Int)) ∧ (if 30 < (↑x0.length : Int) then (30 : Int) else (↑x0.length : Int)).toNat ≤ x0.length) then
  bif decide ((0 : Nat) = (0 : Nat) ∧ (0 : Nat) + (List.take (if 30 < (↑x0.length : Int) then (30 : Int) else (↑x0.length : Int)).toNat x0).length ≤ (8796093022208 : Nat)) then
   bif decide (([] ++ List.take (if 30 < (↑x0.length : Int) then (30 : Int) else (↑x0.length : Int)).toNat x0).length = (0 : Nat) + (List.take (if 30 < (↑x0.length : Int) then (30 : Int) else (↑x0.length : Int)).toNat x0).length) then
    some ([] ++ List.take (if 30 < (↑x0.length : Int) then (30 : Int) else (↑x0.length : Int)).toNat x0)
   else none
  else none
 else none
noncomputable def a2n : TEnt := ⟨91, .sl Y1_, [], [(.sl Y1_, [])], fun s => Y7 s⟩
theorem a2F : qu Tryz.prog a2n := qh (tab := []) (loops := []) (joins := []) (un := []) _ (by intro e he; simp at he) (fun s => by kernel_rfl) (by kernel_rfl)
noncomputable def z9 (x0 : Int) : Option Int :=
 bif decide (30 < x0) then
  bif decide (x0 ≤ 512) then
   some ((30 : Int))
  else some x0
 else some x0
noncomputable def xW : TEnt := ⟨97, .int .i64, [], [(.int .i64, [])], fun s => z9 s⟩
theorem UV : qu Tryz.prog xW := qh (tab := []) (loops := []) (joins := []) (un := []) _ (by intro e he; simp at he) (fun s => by kernel_rfl) (by kernel_rfl)
noncomputable def yV (x0 : Int) : Option Int :=
 bif decide (30 < x0) then
  bif decide (x0 ≤ 512) then
   some ((30 : Int))
  else some x0
 else some x0
noncomputable def xP : TEnt := ⟨43, .int .i64, [], [(.int .i64, [])], fun s => yV s⟩
theorem a0t : qu Tryz.prog xP := qh (tab := []) (loops := []) (joins := []) (un := []) _ (by intro e he; simp at he) (fun s => by kernel_rfl) (by kernel_rfl)
noncomputable def vQ (x0 : Int) (x1 : Int) : Option (Int × Int) :=
 some (x0, (IntKind.i64.wrap x1))
noncomputable def a5u : TEnt := ⟨14, .agg a7M, [], [(.agg Y7_, [])], fun s => vQ s.1 s.2⟩
theorem a5J : qu Tryz.prog a5u := qh (tab := []) (loops := []) (joins := []) (un := []) _ (by intro e he; simp at he) (fun s => by kernel_rfl) (by kernel_rfl)
noncomputable def Zg (x0 : Int) (x1 : Int) : Option (Int × Int) :=
 Option.bind (
  bif x0 == 1 then
   Option.bind (jM x1) fun x2 =>
    bif x2 == 1 then
     some (Sum.inl (true, (x0, x1)))
    else some (Sum.inl ((x0 == 4), (x0, x1)))
  else some (Sum.inl ((x0 == 4), (x0, x1)))) fun (x2 : ((Bool × (Int × Int)) ⊕ (Int × Int))) =>
  match x2 with
  | Sum.inl x3 =>
    bif x3.1 then
     some (((0 : Int)), ((1 : Int)))
    else bif x3.2.1 == 2 then
      some (((0 : Int)), ((-1 : Int)))
     else bif x3.2.1 == 3 then
       some (((0 : Int)), ((-1 : Int)))
      else bif x3.2.1 == 5 then
        some (((-1 : Int)), ((0 : Int)))
       else bif x3.2.1 == 6 then
         some (((1 : Int)), ((0 : Int)))
        else some (((0 : Int)), ((0 : Int)))
  | Sum.inr x3 =>
    some x3
noncomputable def Xl : TEnt := ⟨55, .agg Y7_, [], [(.tup Y7_, [])], fun s => Zg s.1 s.2⟩
theorem ub : qu Tryz.prog Xl := qh (tab := [WE]) (loops := []) (joins := [(74, [1, 4], (.cons (.ptr 0 0) .bool), [.st Y7_])]) (un := []) _ (by
  intro e he
  simp only [List.mem_cons, List.not_mem_nil, or_false] at he
  rcases he with rfl
  ·exact Zf) (fun s => by kernel_rfl) (by kernel_rfl)
noncomputable def ja (x0 : (Int × Int)) (x1 : (List Y0_)) (x2 : Int) (x3 : Int) : Option Y6_ :=
 Option.bind (
  bif decide (x0.1 < 1) then
   some (Sum.inl (true, ((x0.1, x0.2), ((x1, (x2, x3)), (false, (false, (false, (((0 : Int)), (((0 : Int)), (((0 : Int)), (((0 : Int)), (((0 : Int)), (((0 : Int)), (((0 : Int)), (((0 : Int)), (((0 : Int)), (((0 : Int)), (((0 : Int)), (((0 : Int)), (((0 : Int)), (((0 : Int)), (((0 : Int)), (((0 : Int)), (((0 : Int)), ((0 : Int))))))))))))))))))))))))))
  else some (Sum.inl ((decide (7 < x0.1)), ((x0.1, x0.2), ((x1, (x2, x3)), (false, (false, (false, (((0 : Int)), (((0 : Int)), (((0 : Int)), (((0 : Int)), (((0 : Int)), (((0 : Int)), (((0 : Int)), (((0 : Int)), (((0 : Int)), (((0 : Int)), (((0 : Int)), (((0 : Int)), (((0 : Int)), (((0 : Int)), (((0 : Int)), (((0 : Int)), (((0 : Int)), ((0 : Int))))))))))))))))))))))))))) fun (x4 : ((Bool × ((Int × Int) × (Y9_ × Y6_))) ⊕ Y6_)) =>
  match x4 with
  | Sum.inl x5 =>
    bif x5.1 then
     some (true, (false, (false, (((0 : Int)), (((0 : Int)), (((0 : Int)), (((0 : Int)), (((0 : Int)), (((0 : Int)), (((0 : Int)), (((0 : Int)), (((0 : Int)), (((0 : Int)), (((0 : Int)), (((0 : Int)), (((0 : Int)), (((0 : Int)), (((0 : Int)), (((0 : Int)), (((0 : Int)), ((0 : Int))))))))))))))))))))))
    else bif x5.2.1.1 == 1 then
      Option.bind (Vf x5.2.1.2 (0 : Int) (0 : Int) (0 : Int)) fun x6 =>
       Option.bind (vp (x5.2.2.1.1, x5.2.2.1.2.1, x5.2.2.1.2.2) x5.2.2.1.2.1 x5.2.2.1.2.2) fun x7 =>
        bif !x6.2 then
         some (true, (false, (false, (((0 : Int)), (((0 : Int)), (((0 : Int)), (((0 : Int)), (((0 : Int)), (((0 : Int)), (((0 : Int)), (((0 : Int)), (((0 : Int)), (((0 : Int)), (((0 : Int)), (((0 : Int)), (((0 : Int)), (((0 : Int)), (((0 : Int)), (((0 : Int)), (((0 : Int)), ((0 : Int))))))))))))))))))))))
        else bif x6.1.2.2.2.1 != 1 then
          some (true, (false, (false, (((0 : Int)), (((0 : Int)), (((0 : Int)), (((0 : Int)), (((0 : Int)), (((0 : Int)), (((0 : Int)), (((0 : Int)), (((0 : Int)), (((0 : Int)), (((0 : Int)), (((0 : Int)), (((0 : Int)), (((0 : Int)), (((0 : Int)), (((0 : Int)), (((0 : Int)), ((0 : Int))))))))))))))))))))))
         else Option.bind (zJ x5.2.2.1.1 x5.2.2.1.2.1 x5.2.2.1.2.2) fun x8 =>
           bif IntKind.i64.wrap (x5.2.2.1.2.2 + (1 : Int)) == x8 then
            some (true, (false, (false, (((0 : Int)), (((0 : Int)), (((0 : Int)), (((0 : Int)), (((0 : Int)), (((0 : Int)), (((0 : Int)), (((0 : Int)), (((0 : Int)), (((0 : Int)), (((0 : Int)), (((0 : Int)), (((0 : Int)), (((0 : Int)), (((0 : Int)), (((0 : Int)), (((0 : Int)), ((0 : Int))))))))))))))))))))))
           else bif x7.1.2.2.2.1 != 1 then
             some (true, (false, (false, (((0 : Int)), (((0 : Int)), (((0 : Int)), (((0 : Int)), (((0 : Int)), (((0 : Int)), (((0 : Int)), (((0 : Int)), (((0 : Int)), (((0 : Int)), (((0 : Int)), (((0 : Int)), (((0 : Int)), (((0 : Int)), (((0 : Int)), (((0 : Int)), (((0 : Int)), ((0 : Int))))))))))))))))))))))
            else bif decide (0 < x5.2.2.1.2.2) then
              bif decide (0 ≤ x5.2.2.1.2.1) then
               Option.bind (x5.2.2.1.1[x5.2.2.1.2.1.toNat]?) fun x9 =>
                bif decide ((0 : Int) ≤ IntKind.i64.wrap (x5.2.2.1.2.2 - (1 : Int))) then
                 Option.bind (x9[(IntKind.i64.wrap (x5.2.2.1.2.2 - (1 : Int))).toNat]?) fun x10 =>
                  some (false, (false, (true, (x5.2.2.1.2.1, (x5.2.2.1.2.2, (x6.1.1, (x6.1.2.1, (x6.1.2.2.1, (x6.1.2.2.2.1, (x10.2.2.2.1, (x10.2.2.2.2.1, (x10.2.2.2.2.2, (x7.1.1, (x7.1.2.1, (x7.1.2.2.1, (x7.1.2.2.2.1, (x7.1.2.2.2.2.1, (x7.1.2.2.2.2.2.1, (x7.1.2.2.2.2.2.2, (x5.2.2.1.2.1, (IntKind.i64.wrap (x5.2.2.1.2.2 + (1 : Int)))))))))))))))))))))))
                else none
              else none
             else some (false, (false, (true, (x5.2.2.1.2.1, (x5.2.2.1.2.2, (x6.1.1, (x6.1.2.1, (x6.1.2.2.1, (x6.1.2.2.2.1, (x6.1.2.2.2.2.1, (x6.1.2.2.2.2.2.1, (x6.1.2.2.2.2.2.2, (x7.1.1, (x7.1.2.1, (x7.1.2.2.1, (x7.1.2.2.2.1, (x7.1.2.2.2.2.1, (x7.1.2.2.2.2.2.1, (x7.1.2.2.2.2.2.2, (x5.2.2.1.2.1, (IntKind.i64.wrap (x5.2.2.1.2.2 + (1 : Int)))))))))))))))))))))))
     else Option.bind (Zg x5.2.1.1 x5.2.1.2) fun x6 =>
       Option.bind (jd (x5.2.2.1.1, x5.2.2.1.2.1, x5.2.2.1.2.2) (IntKind.i64.wrap (x5.2.2.1.2.1 + x6.1)) (IntKind.i64.wrap (x5.2.2.1.2.2 + x6.2))) fun x7 =>
        bif x5.2.1.1 == 7 then
         some (false, ((decide (5 ≤ x5.2.1.1)), (false, (((0 : Int)), (((0 : Int)), (((0 : Int)), (((0 : Int)), (((0 : Int)), (((0 : Int)), (((0 : Int)), (((0 : Int)), (((0 : Int)), (((0 : Int)), (((0 : Int)), (((0 : Int)), (((0 : Int)), (((0 : Int)), (((0 : Int)), (((0 : Int)), (x7.2.1, ((0 : Int))))))))))))))))))))))
        else some (false, ((decide (5 ≤ x5.2.1.1)), (false, (((0 : Int)), (((0 : Int)), (((0 : Int)), (((0 : Int)), (((0 : Int)), (((0 : Int)), (((0 : Int)), (((0 : Int)), (((0 : Int)), (((0 : Int)), (((0 : Int)), (((0 : Int)), (((0 : Int)), (((0 : Int)), (((0 : Int)), (((0 : Int)), (x7.2.1, x7.2.2))))))))))))))))))))
  | Sum.inr x5 =>
    some x5
noncomputable def um : TEnt := ⟨13, .cons (.agg Y7_) (.agg kL), [], [(.agg abV, [])], fun s => ja s.1 s.2.1 s.2.2.1 s.2.2.2⟩
theorem a17 : qu Tryz.prog um := qh (tab := [a6d, wn, a5D, QQ, Xl]) (loops := []) (joins := [(9, [2, 3, 4, 20], (.cons (.ptr 0 0) (.cons (.ptr 1 0) (.cons (.ptr 2 0) .bool))), [.st Y7_, .st kL, .st abV])]) (un := []) _ (by
  intro e he
  simp only [List.mem_cons, List.not_mem_nil, or_false] at he
  rcases he with rfl | rfl | rfl | rfl | rfl
  ·exact a5t
  ·exact jh
  ·exact a6k
  ·exact yA
  ·exact ub) (fun s => by kernel_rfl) (by kernel_rfl)
noncomputable def kX (x0 : Y6_) (x1 : (List Y0_)) (x2 : Int) (x3 : Int) : Option Y9_ :=
 bif x0.1 then
  some (x1, (x2, x3))
 else bif x0.2.2.1 then
   Option.bind (Kl (x1, x2, x3) x0.2.2.2.1 x0.2.2.2.2.1 x0.2.2.2.2.2.1 x0.2.2.2.2.2.2.1 x0.2.2.2.2.2.2.2.1 x0.2.2.2.2.2.2.2.2.1 x0.2.2.2.2.2.2.2.2.2.1 x0.2.2.2.2.2.2.2.2.2.2.1 x0.2.2.2.2.2.2.2.2.2.2.2.1) fun x4 =>
    Option.bind (jd (x4.1.1, x4.1.2.1, x4.1.2.2) x0.2.2.2.2.2.2.2.2.2.2.2.2.2.2.2.2.2.2.2.1 x0.2.2.2.2.2.2.2.2.2.2.2.2.2.2.2.2.2.2.2.2) fun x5 =>
     some (x5.1, (x5.2.1, x5.2.2))
  else Option.bind (jd (x1, x2, x3) x0.2.2.2.2.2.2.2.2.2.2.2.2.2.2.2.2.2.2.2.1 x0.2.2.2.2.2.2.2.2.2.2.2.2.2.2.2.2.2.2.2.2) fun x4 =>
    some (x4.1, (x4.2.1, x4.2.2))
noncomputable def a5G : TEnt := ⟨17, .cons (.agg abV) (.agg kL), [], [(.agg kL, [])], fun s => kX s.1 s.2.1 s.2.2.1 s.2.2.2⟩
theorem a5M : qu Tryz.prog a5G := qh (tab := [VP, QQ]) (loops := []) (joins := []) (un := []) _ (by
  intro e he
  simp only [List.mem_cons, List.not_mem_nil, or_false] at he
  rcases he with rfl | rfl
  ·exact vt
  ·exact yA) (fun s => by kernel_rfl) (by kernel_rfl)
noncomputable def Q2 (x0 : Bool) (x1 : Bool) (x2 : Bool) (x3 : Int) (x4 : Int) (x5 : Int) (x6 : Int) (x7 : Int) (x8 : Int) (x9 : Int) (x10 : Int) (x11 : Int) (x12 : Int) (x13 : Int) (x14 : Int) (x15 : Int) (x16 : Int) (x17 : Int) (x18 : Int) (x19 : Int) (x20 : Int) : Option Y6_ :=
 Option.bind (wP x5 x6 x7 x8 x9 x10 x11) fun x21 =>
  Option.bind (wP x12 x13 x14 x15 x16 x17 x18) fun x22 =>
   some (x0, (x1, (x2, (x3, (x4, (x21.1, (x21.2.1, (x21.2.2.1, (x21.2.2.2.1, (x21.2.2.2.2.1, (x21.2.2.2.2.2.1, (x21.2.2.2.2.2.2, (x22.1, (x22.2.1, (x22.2.2.1, (x22.2.2.2.1, (x22.2.2.2.2.1, (x22.2.2.2.2.2.1, (x22.2.2.2.2.2.2, (x19, x20))))))))))))))))))))
noncomputable def a4A : TEnt := ⟨15, .agg Y5_, [], [(.agg abV, [])], fun s => Q2 s.1 s.2.1 s.2.2.1 s.2.2.2.1 s.2.2.2.2.1 s.2.2.2.2.2.1 s.2.2.2.2.2.2.1 s.2.2.2.2.2.2.2.1 s.2.2.2.2.2.2.2.2.1 s.2.2.2.2.2.2.2.2.2.1 s.2.2.2.2.2.2.2.2.2.2.1 s.2.2.2.2.2.2.2.2.2.2.2.1 s.2.2.2.2.2.2.2.2.2.2.2.2.1 s.2.2.2.2.2.2.2.2.2.2.2.2.2.1 s.2.2.2.2.2.2.2.2.2.2.2.2.2.2.1 s.2.2.2.2.2.2.2.2.2.2.2.2.2.2.2.1 s.2.2.2.2.2.2.2.2.2.2.2.2.2.2.2.2.1 s.2.2.2.2.2.2.2.2.2.2.2.2.2.2.2.2.2.1 s.2.2.2.2.2.2.2.2.2.2.2.2.2.2.2.2.2.2.1 s.2.2.2.2.2.2.2.2.2.2.2.2.2.2.2.2.2.2.2.1 s.2.2.2.2.2.2.2.2.2.2.2.2.2.2.2.2.2.2.2.2⟩
theorem a5F : qu Tryz.prog a4A := qh (tab := [vK]) (loops := []) (joins := []) (un := []) _ (by
  intro e he
  simp only [List.mem_cons, List.not_mem_nil, or_false] at he
  rcases he with rfl
  ·exact JW) (fun s => by kernel_rfl) (by kernel_rfl)
end Go.Sim
set_option maxRecDepth 100000
set_option maxHeartbeats 4000000
namespace Go.Sim
theorem a5r {α : Type} {l : List α} {n : Nat} {x : α} (h : l[n]? = some x) : l.set n x = l := by
 refine List.ext_getElem? fun i => ?_
 by_cases q : i = n
 ·subst q; rw [List.getElem?_set_self (List.getElem?_eq_some_iff.1 h).1, h]
 ·rw [List.getElem?_set_ne (Ne.symm q)]
theorem a5l {L : qg} {n : Nat} {l : List qc} (f : List qc → List qc × Bool) (h : L[n]? = some l) (hf : (f l).2 = false → (f l).1 = l) : zW L (n : Int) f = ((f l).2, L.set n (f l).1) := by
 rw [KL f h]
 cases hb : (f l).2
 ·rw [hf hb, a5r h]; simp
 ·simp
theorem a9j {l : List qc} {k : Int} {c : qc} (h : (jY l k c).2 = false) : (jY l k c).1 = l := by
 unfold jY at h ⊢
 split at h
 ·cases h
 ·rename_i q; rw [if_neg q]
theorem a5q {c : qc} {m : Int} (h : (jg c m).2 = false) : (jg c m).1 = c := by
 unfold jg at h ⊢
 split
 ·rename_i q
  rw [if_pos q] at h
  split
  ·rename_i q2; rw [if_pos q2] at h; cases h
  ·rename_i q2
   rw [if_neg q2] at h
   split
   ·rename_i q3; rw [if_pos q3] at h; cases h
   ·rfl
 ·rfl
theorem a6y {l : List qc} {k m : Int} (h : (wg l k m).2 = false) : (wg l k m).1 = l := by
 unfold wg at h ⊢
 split
 ·rename_i q
  rw [if_pos q] at h
  split
  ·rename_i c hc
   simp only [hc] at h
   rw [a5q h, a5r hc]
  ·rfl
 ·rfl
theorem vI {L : qg} (hL : L.length ≤ 1000000) {n : Nat} (hn : n < L.length) {l : List qc} (hl : l.length ≤ 1000000) (r c : Int) : wq (L, r, c) (n : Int) l = some (L.set n l, r, c) := by
 unfold wq
 have hT : (L.set n l).length = L.length := List.length_set ..
 have : Yv (((n : Int), l, (0 : Int)), (L, r, c), ((0 : Int), (0 : Int)), []) = some (L.set n l, r, c) := by
  refine zk (st := fun i => (((n : Int), l, ((i : Nat) : Int)), (L, r, c), ((0 : Int), (0 : Int)), (L.set n l).take i)) (n := L.length) (fun i hi => ?_) ?_ 0 (by omega)
  ·obtain ⟨x, hx⟩ := qm hi
   have ht : ((L.set n l).take i).length = i := by rw [List.length_take, hT]; omega
   have ht1 : ((L.set n l).take (i + 1)).length = i + 1 := by rw [List.length_take, hT]; omega
   have e : ((i : Int) + 1) = ((i + 1 : Nat) : Int) := by omega
   have en : ([] : List qc) ++ l = l := rfl
   show zV _ _ _ _ = _
   unfold zV
   by_cases h1 : i = n
   ·subst h1
    have e3 : (L.set i l).take i ++ [l] = (L.set i l).take (i + 1) := (kn (List.getElem?_set_self hi)).symm
    simp (disch := omega) only [qe, ze, q9, cond_true, Int.toNat_natCast, List.length_append, List.length_cons, List.length_nil, decide_true, true_and, ht, en, e3, ht1, e]
   ·have e3 : (L.set n l).take i ++ [x] = (L.set n l).take (i + 1) := (kn (by rw [List.getElem?_set_ne (Ne.symm h1)]; exact hx)).symm
    simp (disch := omega) only [qe, qL, q9, cond_true, cond_false, Option.bind_some, Int.toNat_natCast, List.length_append, List.length_cons, List.length_nil, decide_true, true_and, hx, ht, e3, e]
  ·show zV _ _ _ _ = _
   unfold zV
   have ht : (L.set n l).take L.length = L.set n l := List.take_of_length_le (by rw [hT]; omega)
   simp (disch := omega) only [qe, qk, qL, q9, cond_true, cond_false, Int.toNat_natCast, List.length_append, List.length_cons, List.length_nil, decide_true, true_and, ht]
 rw [this]
 rfl
theorem putP_len {l : List qc} {k : Int} {c : qc} : (jY l k c).1.length = l.length := by
 unfold jY; split
 ·rw [zY, ux]
 ·rfl
theorem markP_len {l : List qc} {k m : Int} : (wg l k m).1.length = l.length := by
 unfold wg; split
 ·split
  ·simp
  ·rfl
 ·rfl
theorem a6f {L : qg} (hL : w5 L) (hn : L.length ≤ 1000000) (k at' : Int) (ha : va at') {c : qc} (hc : OkC c) (r cc : Int) :
  Kl (L, r, cc) k at' c.1 c.2.1.1 c.2.1.2 c.2.2.1 c.2.2.2.1 c.2.2.2.2.1 c.2.2.2.2.2 = some (((zW L k fun l => jY l at' c).2, r, cc), (zW L k fun l => jY l at' c).1) := by
 unfold Kl kS
 by_cases h1 : 0 ≤ k
 ·by_cases h2 : k < L.length
  ·obtain ⟨n, rfl⟩ : ∃ n : Nat, k = n := ⟨k.toNat, by omega⟩
   obtain ⟨l, hl⟩ := qm (l := L) (i := n) (by omega)
   have hll := hL l (List.mem_of_getElem? hl)
   have hp := afn (k := at') hll ha hc
   have hw := vI hn (n := n) (by omega) (l := (jY l at' c).1) (by rw [putP_len]; omega) r cc
   rw [a5l (fun l => jY l at' c) hl a9j]
   simp (disch := omega) only [qe, cond_true, cond_false, Option.bind_some, Int.toNat_natCast, Bool.not_true, hl, hp, hw]
  ·rw [zM _ (by omega)]
   simp (disch := omega) only [qe, qk, cond_true, Option.bind_some, Bool.not_false]
 ·rw [zM _ (by omega)]
  simp (disch := omega) only [qe, qk, cond_true, cond_false, Option.bind_some, Bool.not_false]
theorem acq {L : qg} (hL : w5 L) (hn : L.length ≤ 1000000) (k at' m : Int) (ha : va at') (r cc : Int) :
  Jk (L, r, cc) k at' m = some (((zW L k fun l => wg l at' m).2, r, cc), (zW L k fun l => wg l at' m).1) := by
 unfold Jk kS
 by_cases h1 : 0 ≤ k
 ·by_cases h2 : k < L.length
  ·obtain ⟨n, rfl⟩ : ∃ n : Nat, k = n := ⟨k.toNat, by omega⟩
   obtain ⟨l, hl⟩ := qm (l := L) (i := n) (by omega)
   have hll := hL l (List.mem_of_getElem? hl)
   have hp := a9q hll at' m ha
   have hw := vI hn (n := n) (by omega) (l := (wg l at' m).1) (by rw [markP_len]; omega) r cc
   rw [a5l (fun l => wg l at' m) hl a6y]
   simp (disch := omega) only [qe, cond_true, cond_false, Option.bind_some, Int.toNat_natCast, Bool.not_true, hl, hp, hw]
  ·rw [zM _ (by omega)]
   simp (disch := omega) only [qe, qk, cond_true, Option.bind_some, Bool.not_false]
 ·rw [zM _ (by omega)]
  simp (disch := omega) only [qe, qk, cond_true, cond_false, Option.bind_some, Bool.not_false]
theorem a9C {L : qg} (hL : w5 L) (hn : L.length ≤ 1000000) (k f t a b c : Int) (r cc : Int) :
  Zw (L, r, cc) k f t a b c = some ((zW L k fun l => (zu (wt l f t a b c), QG a b c)).2, r, cc) := by
 unfold Zw kS
 by_cases h1 : 0 ≤ k
 ·by_cases h2 : k < L.length
  ·obtain ⟨n, rfl⟩ : ∃ n : Nat, k = n := ⟨k.toNat, by omega⟩
   obtain ⟨l, hl⟩ := qm (l := L) (i := n) (by omega)
   have hll := hL l (List.mem_of_getElem? hl)
   have hp := a9G hll f t a b c
   have hq := a4j a b c
   have hw := vI hn (n := n) (by omega) (l := zu (wt l f t a b c)) (by rw [zY, Ku]; omega) r cc
   rw [KL _ hl]
   cases hb : QG a b c
   ·simp (disch := omega) only [qe, cond_true, cond_false, Option.bind_some, Int.toNat_natCast, Bool.not_true, Bool.not_false, hq, hb, Bool.false_eq_true, if_false]
   ·simp (disch := omega) only [qe, cond_true, cond_false, Option.bind_some, Int.toNat_natCast, Bool.not_true, hl, hp, hq, hb, hw, if_true]
  ·rw [zM _ (by omega)]
   simp (disch := omega) only [qe, qk, cond_true, Option.bind_some, Bool.not_false]
 ·rw [zM _ (by omega)]
  simp (disch := omega) only [qe, qk, cond_true, cond_false, Option.bind_some, Bool.not_false]
theorem Ko {L : qg} {l : List qc} (h : L[0]? = some l) (r c : Int) : zJ L r c = some (l.length : Int) := by
 have hp := (List.getElem?_eq_some_iff.1 h).1
 unfold zJ
 simp (disch := omega) only [qL, cond_false, Option.bind_some, h]
theorem adg {L : qg} (hL : w5 L) (hn : L.length ≤ 1000000) {l0 : List qc} (h0 : L[0]? = some l0) (k : Int) (s : List qc) (hs : s.length ≤ 1000000) (ok : ∀ c ∈ s, OkC c) (r cc : Int) :
  WS (L, r, cc) k s = some (((zW L k fun l => (s, decide ((s.length : Int) = (l0.length : Int)) && zd s)).2, r, cc), (zW L k fun l => (s, decide ((s.length : Int) = (l0.length : Int)) && zd s)).1) := by
 unfold WS kS
 have hr := a8B hs ok
 have hc := Ko h0 r cc
 by_cases h1 : 0 ≤ k
 ·by_cases h2 : k < L.length
  ·obtain ⟨n, rfl⟩ : ∃ n : Nat, k = n := ⟨k.toNat, by omega⟩
   obtain ⟨l, hl⟩ := qm (l := L) (i := n) (by omega)
   have hw := vI hn (n := n) (by omega) hs r cc
   rw [KL _ hl]
   by_cases hq : (s.length : Int) = (l0.length : Int)
   ·cases hb : zd s
    ·simp (disch := omega) only [qe, uR, cond_true, cond_false, Option.bind_some, Bool.not_true, Bool.not_false, decide_true, hc, hr, hb, hq, Bool.and_false, Bool.false_eq_true, if_false]
    ·simp (disch := omega) only [qe, uR, cond_true, cond_false, Option.bind_some, Bool.not_true, decide_true, hc, hr, hb, hq, hw, Bool.and_true, if_true]
   ·simp (disch := omega) only [qe, aaq, cond_true, cond_false, Option.bind_some, Bool.not_true, decide_false, hc, hr, hq, Bool.false_and, Bool.false_eq_true, if_false]
  ·rw [zM _ (by omega)]
   simp (disch := omega) only [qe, qk, cond_true, Option.bind_some, Bool.not_false]
 ·rw [zM _ (by omega)]
  simp (disch := omega) only [qe, qk, cond_true, cond_false, Option.bind_some, Bool.not_false]
def qM (n : Int) (k : Nat) : Nat := min n.toNat (k - 1)
theorem a2q {k : Nat} (hk : 1 ≤ k ∧ k ≤ 1000000) (n : Int) : yY n (k : Int) = some (qM n k : Int) := by
 have hw : IntKind.i64.wrap ((k : Int) - 1) = (k : Int) - 1 := q9 (by omega) (by omega)
 unfold yY qM
 rw [hw]
 by_cases h1 : (k : Int) ≤ n
 ·simp (disch := omega) only [qe, qk, cond_true, cond_false]
  congr 1; omega
 ·by_cases h2 : n < 0
  ·simp (disch := omega) only [qe, qk, cond_true, cond_false]
   congr 1; omega
  ·simp (disch := omega) only [qk, cond_false]
   congr 1; omega
theorem ZZ {L : qg} (hn : L.length ≤ 1000000) {l0 : List qc} (h0 : L[0]? = some l0) (hl : 1 ≤ l0.length ∧ l0.length ≤ 1000000) (r c a b : Int) : jd (L, a, b) r c = some (L, (qM r L.length : Int), (qM c l0.length : Int)) := by
 have hp := (List.getElem?_eq_some_iff.1 h0).1
 have e1 := a2q (k := L.length) ⟨by omega, hn⟩ r
 have e2 := a2q hl c
 unfold jd
 simp (disch := omega) only [qL, cond_false, Option.bind_some, Ko h0, e1, e2]
theorem QV {L : qg} (hn : 1 ≤ L.length ∧ L.length ≤ 1000000) {cols : Nat} (hc : 1 ≤ cols ∧ cols ≤ 1000000) (r c a b : Int) : kz (r, c) (a, b, (cols : Int)) L = some (((qM r L.length : Int), (qM c cols : Int), (cols : Int)), L) := by
 have hw : ∀ k : Nat, 1 ≤ k → k ≤ 1000000 → IntKind.i64.wrap ((k : Int) - 1) = (k : Int) - 1 := fun k _ _ => q9 (by omega) (by omega)
 have hm : ∀ (k : Nat) (n : Int), 1 ≤ k → (if (k : Int) - 1 < if (0 : Int) > n then (0 : Int) else n then (k : Int) - 1 else if (0 : Int) > n then (0 : Int) else n) = (qM n k : Int) := by
  intro k n hk
  unfold qM
  by_cases h1 : (0 : Int) > n
  ·simp only [h1, if_true]; rw [if_neg (by omega)]; omega
  ·simp only [h1, if_false]; split <;> omega
 unfold kz
 simp only [hw _ hn.1 hn.2, hw _ hc.1 hc.2, hm _ _ hn.1, hm _ _ hc.1]
 simp (disch := omega) only [cond_true, decide_true]
end Go.Sim
set_option maxRecDepth 100000
set_option maxHeartbeats 0
namespace Go.Sim
open Go.Proofs
noncomputable def zq (x2 : Y0_) (x3 : Y0_) (x4 : Int) (x5 : Int) : Option ((Y0_ × VX) ⊕ Bool) :=
 bif decide (x5 < x4) then
  bif decide (0 ≤ x5) then
   Option.bind (x2[x5.toNat]?) fun x6 =>
    bif decide (0 ≤ x5) then
     Option.bind (x3[x5.toNat]?) fun x7 =>
      bif !(x6.1 == x7.1 && (x6.2.1.1 == x7.2.1.1 && (x6.2.1.2 == x7.2.1.2 && true) && (x6.2.2.1 == x7.2.2.1 && (x6.2.2.2.1 == x7.2.2.2.1 && (x6.2.2.2.2.1 == x7.2.2.2.2.1 && (x6.2.2.2.2.2 == x7.2.2.2.2.2 && true)) && true)))) then
       some (Sum.inr false)
      else some (Sum.inl (x2, (x3, (x4, (IntKind.i64.wrap (x5 + (1 : Int)))))))
    else none
  else none
 else some (Sum.inr true)
noncomputable def Km : (Y0_ × VX) → Option Bool := qT fun s => zq s.1 s.2.1 s.2.2.1 s.2.2.2
noncomputable def yD (x0 : Y0_) (x1 : Y0_) : Option Bool :=
 bif (↑(List.length x0) : Int) != (↑x1.length : Int) then
  some false
 else Option.bind (Km (x0, (x1, (((↑(List.length x0) : Int)), ((0 : Int)))))) fun x2 =>
   some x2
noncomputable def Yn : TEnt := ⟨116, .cons (.sl Y1_) (.sl Y1_), [], [(.bool, [])], fun s => yD s.1 s.2⟩
theorem xg : qu Tryz.prog Yn := qh (tab := []) (loops := [(37450, [0, 1, 12, 13], (.cons (.sl Y1_) (.cons (.sl Y1_) Y7_)), [])]) (joins := []) (un := []) _ (by intro e he; simp at he) (fun s => by kernel_rfl) (by kernel_rfl)
noncomputable def Zi (x0 : Y0_) (x1 : Y0_) : Option Bool :=
 Option.bind (yD x0 x1) fun x2 =>
  some x2
noncomputable def WF : TEnt := ⟨65, .cons (.sl Y1_) (.sl Y1_), [], [(.bool, [])], fun s => Zi s.1 s.2⟩
theorem JR : qu Tryz.prog WF := qh (tab := [Yn]) (loops := []) (joins := []) (un := []) _ (by
  intro e he
  simp only [List.mem_cons, List.not_mem_nil, or_false] at he
  rcases he with rfl
  ·exact xg) (fun s => by kernel_rfl) (by kernel_rfl)
noncomputable def z3 (x2 : (List Y0_)) (x3 : (List Y0_)) (x4 : Int) (x5 : Int) : Option (((List Y0_) × Y9_) ⊕ Bool) :=
 bif decide (x5 < x4) then
  bif decide (0 ≤ x5) then
   Option.bind (x3[x5.toNat]?) fun x6 =>
    bif decide (0 ≤ x5) then
     Option.bind (x2[x5.toNat]?) fun x7 =>
      Option.bind (Zi x6 x7) fun x8 =>
       bif !x8 then
        some (Sum.inr false)
       else some (Sum.inl (x2, (x3, (x4, (IntKind.i64.wrap (x5 + (1 : Int)))))))
    else none
  else none
 else some (Sum.inr true)
noncomputable def Q1 : ((List Y0_) × Y9_) → Option Bool := qT fun s => z3 s.1 s.2.1 s.2.2.1 s.2.2.2
noncomputable def ju (x0 : (List Y0_)) (x1 : (List Y0_)) : Option Bool :=
 bif (↑(List.length x0) : Int) != (↑x1.length : Int) then
  some false
 else Option.bind (Q1 (x1, (x0, (((↑(List.length x0) : Int)), ((0 : Int)))))) fun x2 =>
   some x2
noncomputable def Zl : TEnt := ⟨64, .cons (.sl (.sl Y1_)) (.cons (.sl (.sl Y1_)) (.fn 65 .nil .nil)), [], [(.bool, [])], fun s => ju s.1 s.2⟩
theorem W6 : qu Tryz.prog Zl := qh (tab := [WF]) (loops := [(37450, [1, 2, 15, 16, 17], (.cons (.sl (.sl Y1_)) (.cons (.fn 65 .nil .nil) (.cons (.sl (.sl Y1_)) Y7_))), [])]) (joins := []) (un := []) _ (by
  intro e he
  simp only [List.mem_cons, List.not_mem_nil, or_false] at he
  rcases he with rfl
  ·exact JR) (fun s => by kernel_rfl) (by kernel_rfl)
noncomputable def wK (x0 : Y3_) (x1 : (List Y0_)) (x2 : Y3_) (x3 : (List Y0_)) : Option (Bool × Kh) :=
 bif x0.1 == x2.1 && (x0.2.1 == x2.2.1 && true) then
  bif x0.2.2 == x2.2.2 then
   bif decide (x3.length = x3.length) then
    bif decide (List.length x1 = List.length x1) then
     Option.bind (ju x1 x3) fun x4 =>
      bif decide (x3.length = x3.length) then
       bif decide (List.length x1 = List.length x1) then
        some (x4, ((x0.1, (x0.2.1, x0.2.2)), (x1, ((x2.1, (x2.2.1, x2.2.2)), x3))))
       else none
      else none
    else none
   else none
  else bif decide (x3.length = x3.length) then
    bif decide (List.length x1 = List.length x1) then
     some (false, ((x0.1, (x0.2.1, x0.2.2)), (x1, ((x2.1, (x2.2.1, x2.2.2)), x3))))
    else none
   else none
 else bif decide (x3.length = x3.length) then
   bif decide (List.length x1 = List.length x1) then
    some (false, ((x0.1, (x0.2.1, x0.2.2)), (x1, ((x2.1, (x2.2.1, x2.2.2)), x3))))
   else none
  else none
noncomputable def X5 : TEnt := ⟨21, .cons (.ptr 0 0) (.ptr 2 0), [.st Y4_, .li (.sl Y1_) 104 false, .st U3, .li (.sl Y1_) 104 false], [(.bool, [.st Y4_, .li (.sl Y1_) 104 false, .st U3, .li (.sl Y1_) 104 false])], fun s => wK s.1 s.2.1 s.2.2.1 s.2.2.2⟩
theorem a0g : qu Tryz.prog X5 := qh (tab := [WF, Zl]) (loops := []) (joins := []) (un := []) _ (by
  intro e he
  simp only [List.mem_cons, List.not_mem_nil, or_false] at he
  rcases he with rfl | rfl
  ·exact JR
  ·exact W6) (fun s => by kernel_rfl) (by kernel_rfl)
noncomputable def a0e (x0 : Y0_) : Option Bool :=
 Option.bind (wR x0) fun x1 =>
  some !x1
noncomputable def Z9 (x1 : (List Y0_)) (x2 : Int) (x3 : Int) : Option (Y9_ ⊕ Int) :=
 bif decide (x3 < x2) then
  bif decide (0 ≤ x3) then
   Option.bind (x1[x3.toNat]?) fun x4 =>
    Option.bind (a0e x4) fun x5 =>
     bif x5 then
      some (Sum.inr x3)
     else some (Sum.inl (x1, (x2, (IntKind.i64.wrap (x3 + (1 : Int))))))
  else none
 else some (Sum.inr ((-1 : Int)))
noncomputable def WJ : Y9_ → Option Int := qT fun s => Z9 s.1 s.2.1 s.2.2
noncomputable def vv (x0 : (List Y0_)) : Option Int :=
 Option.bind (WJ (x0, (((↑x0.length : Int)), ((0 : Int))))) fun x1 =>
  some x1
noncomputable def vE (x0 : Y3_) (x1 : (List Y0_)) : Option (Bool × jm) :=
 bif decide (x1.length = x1.length) then
  Option.bind (vv x1) fun x2 =>
   bif decide (x1.length = x1.length) then
    some ((!decide (0 ≤ x2)), ((x0.1, (x0.2.1, x0.2.2)), x1))
   else none
 else none
noncomputable def zZ (x5 : (Int × ((Nat × Nat) × (Int × Int)))) (x6 : Y3_) (x7 : (List Y0_)) (x8 : Y3_) (x9 : (List Y0_)) : Option (((Int × ((Nat × Nat) × (Int × Int))) × Kh) ⊕ (jm ⊕ Kh)) :=
 bif decide (x5.2.2.2 < x5.2.2.1) then
  bif decide (0 ≤ x5.2.2.2 ∧ x5.2.2.2.toNat < x5.2.1.2) then
   bif decide (x5.2.1.1 + x5.2.2.2.toNat < List.length x7 ∧ List.length x7 = List.length x7) then
    bif decide (List.length x7 = List.length x7) then
     Option.bind (x7[x5.2.1.1 + x5.2.2.2.toNat]?) fun x10 =>
      Option.bind (KS x10 x5.1) fun x11 =>
       bif decide (0 ≤ x5.2.2.2) then
        bif decide (x5.2.2.2.toNat < x9.length ∧ x9.length = x9.length) then
         bif decide (x9.length = x9.length) then
          Option.bind (x9[x5.2.2.2.toNat]?) fun x12 =>
           bif decide (x9.length = (x9.set x5.2.2.2.toNat x11).length) then
            bif decide (List.length x7 = List.length x7) then
             bif decide (List.length x7 = List.length x7) then
              some (Sum.inl ((x5.1, ((x5.2.1.1, x5.2.1.2), (x5.2.2.1, (IntKind.i64.wrap (x5.2.2.2 + (1 : Int)))))), ((x6.1, (x6.2.1, x6.2.2)), (x7, ((x8.1, (x8.2.1, x8.2.2)), (x9.set x5.2.2.2.toNat x11))))))
             else none
            else none
           else none
         else none
        else none
       else none
    else none
   else none
  else none
 else bif decide (x9.length = x9.length) then
   Option.bind (kz (x6.1, x6.2.1) (x8.1, x8.2.1, x8.2.2) x9) fun x10 =>
    bif decide (x10.2.length = x10.2.length) then
     bif decide (List.length x7 = List.length x7) then
      some (Sum.inr (Sum.inr ((x6.1, (x6.2.1, x6.2.2)), (x7, ((x10.1.1, (x10.1.2.1, x10.1.2.2)), x10.2)))))
     else none
    else none
  else none
noncomputable def YK : ((Int × ((Nat × Nat) × (Int × Int))) × Kh) → Option (jm ⊕ Kh) := qT fun s => zZ s.1 s.2.1 s.2.2.1 s.2.2.2.1 s.2.2.2.2
noncomputable def yw (x0 : (Int × Int)) (x1 : Y3_) (x2 : (List Y0_)) : Option (jm ⊕ Kh) :=
 Option.bind (wp x0.1 x0.2) fun x3 =>
  match x3 with
  | Sum.inl x4 =>
    bif decide (x2.length = x2.length) then
     some (Sum.inl ((x1.1, (x1.2.1, x1.2.2)), x2))
    else none
  | Sum.inr x4 =>
    bif decide (x2.length = x2.length) then
     bif decide ((0 : Nat) < x2.length ∧ x2.length = x2.length) then
      bif decide (((0 : Int) ≤ if (↑x2.length : Int) < x0.1 then (↑x2.length : Int) else x0.1) ∧ (if (↑x2.length : Int) < x0.1 then (↑x2.length : Int) else x0.1).toNat ≤ x2.length) then
       bif decide (x2.length = x2.length) then
        bif decide (x4.2.length = x4.2.length) then
         bif decide (x2.length = x2.length) then
          bif decide (x2.length = x2.length) then
           Option.bind (YK ((x0.2, ((((0 : Nat)), ((if (↑x2.length : Int) < x0.1 then (↑x2.length : Int) else x0.1).toNat)), (((↑(if (↑x2.length : Int) < x0.1 then (↑x2.length : Int) else x0.1).toNat : Int)), ((0 : Int))))), ((x1.1, (x1.2.1, x1.2.2)), (x2, ((x4.1.1, (x4.1.2.1, x4.1.2.2)), x4.2))))) fun x5 =>
            some x5
          else none
         else none
        else none
       else none
      else none
     else none
    else none
noncomputable def a0p : TEnt := ⟨80, .cons (.ptr 0 0) Y7_, [.st Y4_, .li (.sl Y1_) 104 false], [(.tup (.cons (.cst (.pointer none)) (.cst (.int .i64 11))), [.st Y4_, .li (.sl Y1_) 104 false]), (.tup (.cons (.ptr 2 0) (.cst (.int .i64 0))), [.st Y4_, .li (.sl Y1_) 104 false, .st U3, .li (.sl Y1_) 104 false])], fun s => yw s.1 s.2.1 s.2.2⟩
theorem a0z : qu Tryz.prog a0p := qh (tab := [U2, KR, wB]) (loops := [(19173962, [0, 2, 8, 34, 35, 36], (.cons (.ptr 0 0) (.cons (.int .i64) (.cons (.ptr 2 0) (.cons (.part 1) Y7_)))), [.st Y4_, .li (.sl Y1_) 104 false, .st U3, .li (.sl Y1_) 104 false])]) (joins := []) (un := []) _ (by
  intro e he
  simp only [List.mem_cons, List.not_mem_nil, or_false] at he
  rcases he with rfl | rfl | rfl
  ·exact a0F
  ·exact ZP
  ·exact jD) (fun s => by kernel_rfl) (by kernel_rfl)
noncomputable def kP (x2 : Int) (x3 : Y3_) (x4 : (List Y0_)) (x5 : (Int × Int)) (x6 : (Int × Int)) (x7 : (List Y0_)) : Option ((Int × (Y3_ × ((List Y0_) × a6O))) ⊕ (Y9_ × jm)) :=
 bif decide (List.length x4 = List.length x4) then
  Option.bind (zR (x3.1, x3.2.1, x3.2.2) x4) fun x8 =>
   bif decide (x2 < x8.1) then
    bif decide (x8.2.2.length = x8.2.2.length) then
     Option.bind (Zt x2 (x8.2.1.1, x8.2.1.2.1, x8.2.1.2.2) x8.2.2) fun x9 =>
      Option.bind (JU x9.1) fun x10 =>
       bif decide ((1 : Nat) = (1 : Nat)) then
        bif decide (x7.length = x7.length ∧ x7.length + (1 : Nat) ≤ (5864062014805 : Nat)) then
         bif decide (x7.length + (1 : Nat) = (x7 ++ [x10]).length) then
          bif decide (x9.2.2.length = x9.2.2.length) then
           some (Sum.inl ((IntKind.i64.wrap (x2 + (1 : Int))), ((x9.2.1.1, (x9.2.1.2.1, x9.2.1.2.2)), (x9.2.2, ((x5.1, x5.2), ((x6.1, x6.2), (x7 ++ [x10])))))))
          else none
         else none
        else none
       else none
    else none
   else bif decide (x8.2.2.length = x8.2.2.length) then
     Option.bind (zx (x8.2.1.1, x8.2.1.2.1, x8.2.1.2.2) x8.2.2) fun x9 =>
      bif decide (x9.2.2.length = x9.2.2.length) then
       Option.bind (z4 (x9.2.1.1, x9.2.1.2.1, x9.2.1.2.2) x9.2.2) fun x10 =>
        bif decide (x10.2.2.length = x10.2.2.length) then
         bif decide (x7.length = x7.length) then
          some (Sum.inr ((x7, (x9.1, x10.1)), ((x10.2.1.1, (x10.2.1.2.1, x10.2.1.2.2)), x10.2.2)))
         else none
        else none
      else none
    else none
 else none
noncomputable def xJ : (Int × (Y3_ × ((List Y0_) × a6O))) → Option (Y9_ × jm) := qT fun s => kP s.1 s.2.1 s.2.2.1 s.2.2.2.1 s.2.2.2.2.1 s.2.2.2.2.2
noncomputable def V4 (x0 : Y3_) (x1 : (List Y0_)) : Option (Y9_ × jm) :=
 bif decide (x1.length = x1.length) then
  Option.bind (xJ (((0 : Int)), ((x0.1, (x0.2.1, x0.2.2)), (x1, ((((0 : Int)), ((0 : Int))), ((((0 : Int)), ((0 : Int))), [])))))) fun x2 =>
   some x2
 else none
noncomputable def a6I : TEnt := ⟨59, .ptr 0 0, [.st Y4_, .li (.sl Y1_) 104 false], [((.agg kL), [.st Y4_, .li (.sl Y1_) 104 false])], fun s => V4 s.1 s.2⟩
theorem a6n : qu Tryz.prog a6I := qh (tab := [JG, KK, QU, xT, Uc]) (loops := [(4682, [0, 2, 3, 4], (.cons (.ptr 0 0) (.cons (.ptr 2 0) (.cons (.ptr 3 0) (.int .i64)))), [.st Y4_, .li (.sl Y1_) 104 false, .st a6V, .st (.cons (.own 4) Y7_), .li (.sl Y2_) 118 false])]) (joins := []) (un := []) _ (by
  intro e he
  simp only [List.mem_cons, List.not_mem_nil, or_false] at he
  rcases he with rfl | rfl | rfl | rfl | rfl
  ·exact Wo
  ·exact ZT
  ·exact yI
  ·exact a00
  ·exact Xn) (fun s => by kernel_rfl) (by kernel_rfl)
noncomputable def jx (x0 : Y9_) (x1 : Y3_) (x2 : (List Y0_)) : Option (Bool × jm) :=
 bif decide (x2.length = x2.length) then
  Option.bind (zR (x1.1, x1.2.1, x1.2.2) x2) fun x3 =>
   bif x3.1 == (↑x0.1.length : Int) then
    bif decide (x3.2.2.length = x3.2.2.length) then
     Option.bind (kC (x3.2.1.1, x3.2.1.2.1, x3.2.1.2.2) x3.2.2) fun x4 =>
      Option.bind (zJ x0.1 x0.2.1 x0.2.2) fun x5 =>
       bif x4.1 == x5 then
        bif decide (x4.2.2.length = x4.2.2.length) then
         Option.bind (V4 (x4.2.1.1, x4.2.1.2.1, x4.2.1.2.2) x4.2.2) fun x6 =>
          Option.bind (KF (x6.1.1, x6.1.2.1, x6.1.2.2) x0.1 x0.2.1 x0.2.2) fun x7 =>
           bif decide (x6.2.2.length = x6.2.2.length) then
            some (x7, ((x6.2.1.1, (x6.2.1.2.1, x6.2.1.2.2)), x6.2.2))
           else none
        else none
       else bif decide (x4.2.2.length = x4.2.2.length) then
         some (false, ((x4.2.1.1, (x4.2.1.2.1, x4.2.1.2.2)), x4.2.2))
        else none
    else none
   else bif decide (x3.2.2.length = x3.2.2.length) then
     some (false, ((x3.2.1.1, (x3.2.1.2.1, x3.2.1.2.2)), x3.2.2))
    else none
 else none
noncomputable def U8 : TEnt := ⟨16, .cons (.ptr 0 0) (.agg kL), [.st Y4_, .li (.sl Y1_) 104 false], [(.bool, [.st Y4_, .li (.sl Y1_) 104 false])], fun s => jx s.1 s.2.1 s.2.2⟩
theorem a13 : qu Tryz.prog U8 := qh (tab := [JG, Wt, wn, uB, a6I]) (loops := []) (joins := []) (un := []) _ (by
  intro e he
  simp only [List.mem_cons, List.not_mem_nil, or_false] at he
  rcases he with rfl | rfl | rfl | rfl | rfl
  ·exact Wo
  ·exact Ww
  ·exact jh
  ·exact a16
  ·exact a6n) (fun s => by kernel_rfl) (by kernel_rfl)
noncomputable def V8 (x0 : (Y9_ × (Int × (Int × (Int × (Int × (Int × (Int × (Int × (Int × (Int × (Int × (Int × (Int × (Int × (Int × (Int × Y0_))))))))))))))))) (x1 : Y3_) (x2 : (List Y0_)) : Option (((Y9_ × Bool) × jm) ⊕ (((Y9_ × Bool) × Kh) ⊕ ((Y9_ × Bool) × jm))) :=
 bif x0.2.1 == 0 then
  Option.bind (wP x0.2.2.2.2.2.1 x0.2.2.2.2.2.2.1 x0.2.2.2.2.2.2.2.1 x0.2.2.2.2.2.2.2.2.1 x0.2.2.2.2.2.2.2.2.2.1 x0.2.2.2.2.2.2.2.2.2.2.1 x0.2.2.2.2.2.2.2.2.2.2.2.1) fun x3 =>
   Option.bind (Kl (x0.1.1, x0.1.2.1, x0.1.2.2) x0.2.2.1 x0.2.2.2.1 x3.1 x3.2.1 x3.2.2.1 x3.2.2.2.1 x3.2.2.2.2.1 x3.2.2.2.2.2.1 x3.2.2.2.2.2.2) fun x4 =>
    bif decide (x2.length = x2.length) then
     Option.bind (QJ (x0.2.2.1, x0.2.2.2.1, x0.2.2.2.2.2.1, x0.2.2.2.2.2.2.1, x0.2.2.2.2.2.2.2.1, x0.2.2.2.2.2.2.2.2.1, x0.2.2.2.2.2.2.2.2.2.1, x0.2.2.2.2.2.2.2.2.2.2.1, x0.2.2.2.2.2.2.2.2.2.2.2.1) (x1.1, x1.2.1, x1.2.2) x2) fun x5 =>
      bif decide (x5.2.2.length = x5.2.2.length) then
       some (Sum.inl (((x4.1.1, (x4.1.2.1, x4.1.2.2)), (x5.1 == x4.2)), ((x5.2.1.1, (x5.2.1.2.1, x5.2.1.2.2)), x5.2.2)))
      else none
    else none
 else bif x0.2.1 == 1 then
   Option.bind (Jk (x0.1.1, x0.1.2.1, x0.1.2.2) x0.2.2.1 x0.2.2.2.1 (IntKind.i64.wrap x0.2.2.2.2.2.2.2.2.2.2.2.2.1)) fun x3 =>
    bif decide (x2.length = x2.length) then
     Option.bind (Zc (x0.2.2.1, x0.2.2.2.1, x0.2.2.2.2.2.2.2.2.2.2.2.2.1) (x1.1, x1.2.1, x1.2.2) x2) fun x4 =>
      bif decide (x4.2.2.length = x4.2.2.length) then
       some (Sum.inl (((x3.1.1, (x3.1.2.1, x3.1.2.2)), (x4.1 == x3.2)), ((x4.2.1.1, (x4.2.1.2.1, x4.2.1.2.2)), x4.2.2)))
      else none
    else none
  else bif x0.2.1 == 2 then
    bif decide (x2.length = x2.length) then
     Option.bind (Qn (x0.2.2.1, x0.2.2.2.1, x0.2.2.2.2.1, x0.2.2.2.2.2.2.2.2.2.2.2.2.2.1, x0.2.2.2.2.2.2.2.2.2.2.2.2.2.2.1, x0.2.2.2.2.2.2.2.2.2.2.2.2.2.2.2.1) (x1.1, x1.2.1, x1.2.2) x2) fun x3 =>
      Option.bind (Zw (x0.1.1, x0.1.2.1, x0.1.2.2) x0.2.2.1 x0.2.2.2.1 x0.2.2.2.2.1 x0.2.2.2.2.2.2.2.2.2.2.2.2.2.1 x0.2.2.2.2.2.2.2.2.2.2.2.2.2.2.1 x0.2.2.2.2.2.2.2.2.2.2.2.2.2.2.2.1) fun x4 =>
       bif decide (x3.2.length = x3.2.length) then
        some (Sum.inl (((x4.1, (x4.2.1, x4.2.2)), true), ((x3.1.1, (x3.1.2.1, x3.1.2.2)), x3.2)))
       else none
    else none
   else bif x0.2.1 == 3 then
     Option.bind (Y7 x0.2.2.2.2.2.2.2.2.2.2.2.2.2.2.2.2) fun x3 =>
      Option.bind (JU x3) fun x4 =>
       Option.bind (WS (x0.1.1, x0.1.2.1, x0.1.2.2) x0.2.2.1 x4) fun x5 =>
        bif decide (x2.length = x2.length) then
         Option.bind (KE (x0.2.2.1, x3) (x1.1, x1.2.1, x1.2.2) x2) fun x6 =>
          bif decide (x6.2.2.length = x6.2.2.length) then
           some (Sum.inl (((x5.1.1, (x5.1.2.1, x5.1.2.2)), (x6.1 == x5.2)), ((x6.2.1.1, (x6.2.1.2.1, x6.2.1.2.2)), x6.2.2)))
          else none
        else none
    else bif x0.2.1 == 4 then
      bif decide (x2.length = x2.length) then
       Option.bind (kz (x0.2.2.1, x0.2.2.2.1) (x1.1, x1.2.1, x1.2.2) x2) fun x3 =>
        Option.bind (jd (x0.1.1, x0.1.2.1, x0.1.2.2) x0.2.2.1 x0.2.2.2.1) fun x4 =>
         bif decide (x3.2.length = x3.2.length) then
          some (Sum.inl (((x4.1, (x4.2.1, x4.2.2)), true), ((x3.1.1, (x3.1.2.1, x3.1.2.2)), x3.2)))
         else none
      else none
     else bif x0.2.1 == 5 then
       bif decide (x2.length = x2.length) then
        Option.bind (yB (x0.2.2.1, x0.2.2.2.2.2.2.2.2.2.2.2.2.2.1, x0.2.2.2.2.2.2.2.2.2.2.2.2.2.2.1, x0.2.2.2.2.2.2.2.2.2.2.2.2.2.2.2.1) (x1.1, x1.2.1, x1.2.2) x2) fun x3 =>
         Option.bind (Qm (x0.1.1, x0.1.2.1, x0.1.2.2) x0.2.2.1 x0.2.2.2.2.2.2.2.2.2.2.2.2.2.1 x0.2.2.2.2.2.2.2.2.2.2.2.2.2.2.1 x0.2.2.2.2.2.2.2.2.2.2.2.2.2.2.2.1) fun x4 =>
          bif decide (x3.2.length = x3.2.length) then
           some (Sum.inl (((x4.1, (x4.2.1, x4.2.2)), true), ((x3.1.1, (x3.1.2.1, x3.1.2.2)), x3.2)))
          else none
       else none
      else bif x0.2.1 == 6 then
        Option.bind (z9 x0.2.2.1) fun x3 =>
         Option.bind (z9 x0.2.2.2.1) fun x4 =>
          bif decide (x2.length = x2.length) then
           Option.bind (yw (x3, x4) (x1.1, x1.2.1, x1.2.2) x2) fun x5 =>
            match x5 with
            | Sum.inl x6 =>
              Option.bind (z9 x0.2.2.1) fun x7 =>
               Option.bind (z9 x0.2.2.2.1) fun x8 =>
                Option.bind (QP x7 x8) fun x9 =>
                 bif !x9 then
                  bif decide (x6.2.length = x6.2.length) then
                   some (Sum.inl (((x0.1.1, (x0.1.2.1, x0.1.2.2)), true), ((x6.1.1, (x6.1.2.1, x6.1.2.2)), x6.2)))
                  else none
                 else Option.bind (z9 x0.2.2.1) fun x10 =>
                   Option.bind (z9 x0.2.2.2.1) fun x11 =>
                    Option.bind (K8 (x0.1.1, x0.1.2.1, x0.1.2.2) x10 x11) fun x12 =>
                     bif decide (x6.2.length = x6.2.length) then
                      some (Sum.inr (Sum.inr (((x12.1, (x12.2.1, x12.2.2)), false), ((x6.1.1, (x6.1.2.1, x6.1.2.2)), x6.2))))
                     else none
            | Sum.inr x6 =>
              Option.bind (z9 x0.2.2.1) fun x7 =>
               Option.bind (z9 x0.2.2.2.1) fun x8 =>
                Option.bind (QP x7 x8) fun x9 =>
                 bif !x9 then
                  bif decide (x6.2.1.length = x6.2.1.length) then
                   some (Sum.inl (((x0.1.1, (x0.1.2.1, x0.1.2.2)), false), ((x6.1.1, (x6.1.2.1, x6.1.2.2)), x6.2.1)))
                  else none
                 else Option.bind (z9 x0.2.2.1) fun x10 =>
                   Option.bind (z9 x0.2.2.2.1) fun x11 =>
                    Option.bind (K8 (x0.1.1, x0.1.2.1, x0.1.2.2) x10 x11) fun x12 =>
                     bif decide (x6.2.2.2.length = x6.2.2.2.length) then
                      bif decide (x6.2.1.length = x6.2.1.length) then
                       some (Sum.inr (Sum.inl (((x12.1, (x12.2.1, x12.2.2)), true), ((x6.1.1, (x6.1.2.1, x6.1.2.2)), (x6.2.1, ((x6.2.2.1.1, (x6.2.2.1.2.1, x6.2.2.1.2.2)), x6.2.2.2))))))
                      else none
                     else none
          else none
       else bif x0.2.1 == 7 then
         bif decide (x2.length = x2.length) then
          Option.bind (jN (x1.1, x1.2.1, x1.2.2) x2) fun x3 =>
           bif decide (x3.2.1.length = x3.2.1.length) then
            bif decide (x3.2.2.2.length = x3.2.2.2.length) then
             Option.bind (wK (x3.2.2.1.1, x3.2.2.1.2.1, x3.2.2.1.2.2) x3.2.2.2 (x3.1.1, x3.1.2.1, x3.1.2.2) x3.2.1) fun x4 =>
              bif decide (x4.2.2.1.length = x4.2.2.1.length) then
               bif decide (x4.2.2.2.2.length = x4.2.2.2.2.length) then
                some (Sum.inr (Sum.inl (((x0.1.1, (x0.1.2.1, x0.1.2.2)), x4.1), ((x4.2.2.2.1.1, (x4.2.2.2.1.2.1, x4.2.2.2.1.2.2)), (x4.2.2.2.2, ((x4.2.1.1, (x4.2.1.2.1, x4.2.1.2.2)), x4.2.2.1))))))
               else none
              else none
            else none
           else none
         else none
        else bif decide (x2.length = x2.length) then
          some (Sum.inl (((x0.1.1, (x0.1.2.1, x0.1.2.2)), true), ((x1.1, (x1.2.1, x1.2.2)), x2)))
         else none
noncomputable def a4x : TEnt := ⟨46, .cons (.ptr 0 0) (.cons (.agg kL) (.agg (.cons (.int .i64) (.cons (.int .i64) (.cons (.int .i64) (.cons (.int .i64) (.cons (.int .i32) (.cons (.int .i32) (.cons (.int .i32) (.cons (.int .u8) (.cons (.int .u8) (.cons (.int .u8) (.cons (.int .u8) (.cons (.int .i32) (.cons (.int .u8) (.cons (.int .u8) (.cons (.int .u8) (.sl Y1_)))))))))))))))))), [.st Y4_, .li (.sl Y1_) 104 false], [(.tup (.cons (.ptr 0 0) acj), [.st Y4_, .li (.sl Y1_) 104 false]), (.tup (.cons (.ptr 2 0) acj), [.st Y4_, .li (.sl Y1_) 104 false, .st U3, .li (.sl Y1_) 104 false]), (.tup (.cons (.cst (.pointer none)) acj), [.st Y4_, .li (.sl Y1_) 104 false])], fun s => V8 s.1 s.2.1 s.2.2⟩
theorem a5C : qu Tryz.prog a4x := qh (tab := [J4, xY, VA, uj, wB, Yr, jw, UO, VP, uC, X2, a1X, QQ, VD, a2d, vK, Uc, a2n, xW, X5, a0p]) (loops := []) (joins := []) (un := []) _ (by
  intro e he
  simp only [List.mem_cons, List.not_mem_nil, or_false] at he
  rcases he with rfl | rfl | rfl | rfl | rfl | rfl | rfl | rfl | rfl | rfl | rfl | rfl | rfl | rfl | rfl | rfl | rfl | rfl | rfl | rfl | rfl
  ·exact ZH
  ·exact U6
  ·exact XI
  ·exact a10
  ·exact jD
  ·exact xa
  ·exact kW
  ·exact a14
  ·exact vt
  ·exact a1r
  ·exact ui
  ·exact a36
  ·exact yA
  ·exact XB
  ·exact a3g
  ·exact JW
  ·exact Xn
  ·exact a2F
  ·exact UV
  ·exact a0g
  ·exact a0z) (fun s => by kernel_rfl) (by kernel_rfl)
end Go.Sim
set_option maxRecDepth 100000
set_option maxHeartbeats 4000000
namespace Go.Sim
def qD (n : Int) : Bool := decide (1 ≤ n) && decide (n ≤ 512)
theorem a22 (n : Int) : yT n = some (qD n) := by
 unfold yT qD
 by_cases h : 1 ≤ n <;> simp [h]
theorem a5P (r c : Int) : QP r c = some (qD r && qD c) := by
 unfold QP qD
 by_cases h1 : 1 ≤ r <;> by_cases h2 : r ≤ 512 <;> by_cases h3 : 1 ≤ c <;> by_cases h4 : c ≤ 512 <;> simp [h1, h2, h3, h4]
theorem ad2 {n : Nat} (hn : n ≤ 1000000) (c : Int) : Y0 (n : Int) c = some (((0, 0) : Int × Int), List.replicate n (kq c)) := by
 unfold Y0
 have : vV (((n : Int), c, (0 : Int)), ((0 : Int), (0 : Int)), ((0 : Int), (0 : Int)), []) = some (((0, 0) : Int × Int), List.replicate n (kq c)) := by
  refine zk (st := fun i => (((n : Int), c, ((i : Nat) : Int)), ((0 : Int), (0 : Int)), ((0 : Int), (0 : Int)), List.replicate i (kq c))) (n := n) (fun i hi => ?_) ?_ 0 (by omega)
  ·show kE _ _ _ _ = _
   unfold kE
   have e : ((i : Int) + 1) = ((i + 1 : Nat) : Int) := by omega
   have hnl := Ut c
   have e2 : List.replicate i (kq c) ++ [kq c] = List.replicate (i + 1) (kq c) := K9 i _
   simp (disch := omega) only [qe, q9, cond_true, Option.bind_some, List.length_append, List.length_cons, List.length_nil, decide_true, true_and, hnl, List.length_replicate, e2, e]
  ·show kE _ _ _ _ = _
   unfold kE
   simp (disch := omega) only [qk, q9, cond_true, cond_false, List.length_append, List.length_cons, List.length_nil, decide_true, true_and]
 rw [this]
 rfl
theorem Y4 (r c : Int) : wp r c = some (if qD r = true ∧ qD c = true then Sum.inr ((0, 0, c), List.replicate r.toNat (kq c)) else Sum.inl ()) := by
 unfold wp
 rw [a22, a22]
 cases h1 : qD r
 ·simp (disch := omega) only [cond_true, Option.bind_some, Bool.not_false]
  rfl
 ·cases h2 : qD c
  ·simp (disch := omega) only [cond_true, cond_false, Option.bind_some, Bool.not_true, Bool.not_false, true_and]
   rfl
  ·have hr : 1 ≤ r ∧ r ≤ 512 := by unfold qD at h1; simpa using h1
   obtain ⟨n, rfl⟩ : ∃ n : Nat, r = n := ⟨r.toNat, by omega⟩
   have : YJ ((c, (n : Int), (0 : Int)), ((0 : Int), (0 : Int), c), []) = some (Sum.inr (((0, 0, c) : Int × Int × Int), List.replicate n (kq c))) := by
    refine zk (st := fun i => ((c, (n : Int), ((i : Nat) : Int)), ((0 : Int), (0 : Int), c), List.replicate i (kq c))) (n := n) (fun i hi => ?_) ?_ 0 (by omega)
    ·show zX _ _ _ = _
     unfold zX
     have e : ((i : Int) + 1) = ((i + 1 : Nat) : Int) := by omega
     have hnl := a1z c
     have e2 : List.replicate i (kq c) ++ [kq c] = List.replicate (i + 1) (kq c) := K9 i _
     simp (disch := omega) only [qe, q9, cond_true, Option.bind_some, List.length_append, List.length_cons, List.length_nil, decide_true, true_and, hnl, List.length_replicate, e2, e]
    ·show zX _ _ _ = _
     unfold zX
     simp (disch := omega) only [qk, q9, cond_true, cond_false, List.length_append, List.length_cons, List.length_nil, decide_true, true_and]
   simp (disch := omega) only [cond_false, Option.bind_some, Int.toNat_natCast, Bool.not_true, and_self, this]
   simp
theorem Qv {L : qg} (hL : w5 L) (hn : L.length ≤ 1000000) (g : Int × (Int × Int)) : jN g L = some (g, L, g, L) := by
 unfold jN
 have : W5 (((L.length : Int), (0 : Int)), g, L, g, []) = some (g, L, g, L) := by
  refine zk (st := fun i => (((L.length : Int), ((i : Nat) : Int)), g, L, g, L.take i)) (n := L.length) (fun i hi => ?_) ?_ 0 (by omega)
  ·obtain ⟨l, hl⟩ := qm hi
   have hcl := yx l (hL l (List.mem_of_getElem? hl))
   have ht : (L.take i).length = i := by rw [List.length_take]; omega
   have ht1 : (L.take (i + 1)).length = i + 1 := by rw [List.length_take]; omega
   have e : ((i : Int) + 1) = ((i + 1 : Nat) : Int) := by omega
   have e3 : L.take i ++ [l] = L.take (i + 1) := (kn hl).symm
   show zN _ _ _ _ _ = _
   unfold zN
   simp (disch := omega) only [qe, q9, cond_true, Option.bind_some, Int.toNat_natCast, List.length_append, List.length_cons, List.length_nil, decide_true, true_and, and_true, hl, hcl, ht, e3, e]
  ·show zN _ _ _ _ _ = _
   unfold zN
   have ht : L.take L.length = L := List.take_of_length_le (Nat.le_refl _)
   simp (disch := omega) only [qe, qk, q9, cond_true, cond_false, Int.toNat_natCast, List.length_append, List.length_cons, List.length_nil, decide_true, true_and, and_true, ht]
 simp (disch := omega) only [cond_true, Option.bind_some, decide_true, this]
theorem afW {c : qc} (h : OkC c) : wP c.1 c.2.1.1 c.2.1.2 c.2.2.1 c.2.2.2.1 c.2.2.2.2.1 c.2.2.2.2.2 = some (zD c) := by
 have h1 := h.r
 have h2 := h.m1
 have h3 := h.m2
 simp only [zU] at h1 h2 h3
 unfold wP
 rw [q9 (by omega) (by omega), q9 (by omega) (by omega), q9 (by omega) (by omega)]
 rfl
theorem aiU {l : List qc} (hl : l.length ≤ 1000000) (ok : ∀ c ∈ l, OkC c) : JU l = some l := by
 unfold JU
 have : Xq ((l, (0 : Int)), []) = some l := by
  refine zk (st := fun i => ((l, ((i : Nat) : Int)), l.take i)) (n := l.length) (fun i hi => ?_) ?_ 0 (by omega)
  ·obtain ⟨c, hc⟩ := qm hi
   have ho := afW (ok c (List.mem_of_getElem? hc))
   unfold zD at ho
   have ht : (l.take i).length = i := by rw [List.length_take]; omega
   have ht1 : (l.take (i + 1)).length = i + 1 := by rw [List.length_take]; omega
   have e : ((i : Int) + 1) = ((i + 1 : Nat) : Int) := by omega
   have e3 : l.take i ++ [(c.1, (c.2.1.1, c.2.1.2), c.2.2.1, c.2.2.2.1, c.2.2.2.2.1, c.2.2.2.2.2)] = l.take (i + 1) := (kn hc).symm
   show kV _ _ = _
   unfold kV
   simp (disch := omega) only [qe, q9, cond_true, Option.bind_some, Int.toNat_natCast, List.length_append, List.length_cons, List.length_nil, decide_true, true_and, hc, ho, ht, e3, e]
  ·show kV _ _ = _
   unfold kV
   have ht : l.take l.length = l := List.take_of_length_le (Nat.le_refl _)
   simp (disch := omega) only [qe, qk, q9, cond_true, cond_false, Int.toNat_natCast, List.length_append, List.length_cons, List.length_nil, decide_true, true_and, ht]
 rw [this]
 rfl
theorem ahV {l : List qc} (hl : l.length ≤ 1000000) : KG l l = some true := by
 unfold KG
 have : Yo (l, l, (0 : Int)) = some true := by
  refine zk (st := fun i => (l, l, ((i : Nat) : Int))) (n := l.length) (fun i hi => ?_) ?_ 0 (by omega)
  ·obtain ⟨c, hc⟩ := qm hi
   have e : ((i : Int) + 1) = ((i + 1 : Nat) : Int) := by omega
   show km _ _ _ = _
   unfold km
   simp (disch := omega) only [qe, q9, cond_true, cond_false, Option.bind_some, Int.toNat_natCast, Bool.not_true, hc, e, beq_self_eq_true, Bool.and_true]
  ·show km _ _ _ = _
   unfold km
   simp (disch := omega) only [qe, qk, q9, cond_true, cond_false, Int.toNat_natCast]
 simp (disch := omega) only [uR, cond_false, Option.bind_some, this]
theorem ai6 {L : qg} (hL : w5 L) (hn : L.length ≤ 1000000) (r c : Int) : KF (L, r, c) L r c = some true := by
 unfold KF
 have : YE ((0 : Int), (L, r, c), L, r, c) = some true := by
  refine zk (st := fun i => (((i : Nat) : Int), (L, r, c), L, r, c)) (n := L.length) (fun i hi => ?_) ?_ 0 (by omega)
  ·obtain ⟨l, hl⟩ := qm hi
   have hs := ahV (hL l (List.mem_of_getElem? hl))
   have e : ((i : Int) + 1) = ((i + 1 : Nat) : Int) := by omega
   show kf _ _ _ _ _ = _
   unfold kf
   simp (disch := omega) only [qe, q9, cond_true, cond_false, Option.bind_some, Int.toNat_natCast, Bool.not_true, hl, hs, e]
  ·show kf _ _ _ _ _ = _
   unfold kf
   simp (disch := omega) only [qe, qk, q9, cond_true, cond_false, Int.toNat_natCast]
 simp (disch := omega) only [uR, cond_false, Option.bind_some, this]
theorem a8w {l : List qc} (hl : l.length ≤ 1000000) : yD l l = some true := by
 unfold yD
 have : Km (l, l, (l.length : Int), (0 : Int)) = some true := by
  refine zk (st := fun i => (l, l, (l.length : Int), ((i : Nat) : Int))) (n := l.length) (fun i hi => ?_) ?_ 0 (by omega)
  ·obtain ⟨c, hc⟩ := qm hi
   have e : ((i : Int) + 1) = ((i + 1 : Nat) : Int) := by omega
   show zq _ _ _ _ = _
   unfold zq
   simp (disch := omega) only [qe, q9, cond_true, cond_false, Option.bind_some, Int.toNat_natCast, Bool.not_true, hc, e, beq_self_eq_true, Bool.and_true]
  ·show zq _ _ _ _ = _
   unfold zq
   simp (disch := omega) only [qe, qk, q9, cond_true, cond_false, Int.toNat_natCast]
 simp (disch := omega) only [uR, cond_false, Option.bind_some, this]
theorem a6e {L : qg} (hL : w5 L) (hn : L.length ≤ 1000000) : ju L L = some true := by
 unfold ju
 have : Q1 (L, L, (L.length : Int), (0 : Int)) = some true := by
  refine zk (st := fun i => (L, L, (L.length : Int), ((i : Nat) : Int))) (n := L.length) (fun i hi => ?_) ?_ 0 (by omega)
  ·obtain ⟨l, hl⟩ := qm hi
   have hs : Zi l l = some true := by unfold Zi; rw [a8w (hL l (List.mem_of_getElem? hl))]; rfl
   have e : ((i : Int) + 1) = ((i + 1 : Nat) : Int) := by omega
   show z3 _ _ _ _ = _
   unfold z3
   simp (disch := omega) only [qe, q9, cond_true, cond_false, Option.bind_some, Int.toNat_natCast, Bool.not_true, hl, hs, e]
  ·show z3 _ _ _ _ = _
   unfold z3
   simp (disch := omega) only [qe, qk, q9, cond_true, cond_false, Int.toNat_natCast]
 simp (disch := omega) only [uR, cond_false, Option.bind_some, this]
theorem a7L {L : qg} (hL : w5 L) (hn : L.length ≤ 1000000) (g : Int × (Int × Int)) : wK g L g L = some (true, g, L, g, L) := by
 unfold wK
 have := a6e hL hn
 simp (disch := omega) only [cond_true, Option.bind_some, decide_true, this, beq_self_eq_true, Bool.and_true]
end Go.Sim
set_option maxRecDepth 100000
set_option maxHeartbeats 4000000
namespace Go.Sim
theorem agR {L : qg} (hL : w5 L) {n : Nat} {l : List qc} (h : L[n]? = some l) (g : Int × (Int × Int)) : Zt (n : Int) g L = some (l, g, L) := by
 have hlt := (List.getElem?_eq_some_iff.1 h).1
 have hcl := yx l (hL l (List.mem_of_getElem? h))
 unfold Zt
 simp (disch := omega) only [qe, cond_true, cond_false, Option.bind_some, Int.toNat_natCast, Bool.not_true, decide_true, and_true, h, hcl]
theorem ajA {L : qg} (hL : w5 L) (hn : L.length ≤ 1000000) (ok : ∀ l ∈ L, ∀ c ∈ l, OkC c) (g : Int × (Int × Int)) : V4 g L = some ((L, g.1, g.2.1), g, L) := by
 unfold V4
 have : xJ ((0 : Int), g, L, ((0 : Int), (0 : Int)), ((0 : Int), (0 : Int)), []) = some ((L, g.1, g.2.1), g, L) := by
  refine zk (st := fun i => (((i : Nat) : Int), g, L, ((0 : Int), (0 : Int)), ((0 : Int), (0 : Int)), L.take i)) (n := L.length) (fun i hi => ?_) ?_ 0 (by omega)
  ·obtain ⟨l, hl⟩ := qm hi
   have hm := List.mem_of_getElem? hl
   have hli := agR hL hl g
   have ho := aiU (hL l hm) (ok l hm)
   have ht : (L.take i).length = i := by rw [List.length_take]; omega
   have ht1 : (L.take (i + 1)).length = i + 1 := by rw [List.length_take]; omega
   have e : ((i : Int) + 1) = ((i + 1 : Nat) : Int) := by omega
   have e3 : L.take i ++ [l] = L.take (i + 1) := (kn hl).symm
   show kP _ _ _ _ _ _ = _
   unfold kP zR
   simp (disch := omega) only [qe, q9, cond_true, Option.bind_some, List.length_append, List.length_cons, List.length_nil, decide_true, true_and, hli, ho, ht, e3, e]
  ·show kP _ _ _ _ _ _ = _
   unfold kP zR zx z4
   have ht : L.take L.length = L := List.take_of_length_le (Nat.le_refl _)
   simp (disch := omega) only [qe, qk, q9, cond_true, cond_false, Option.bind_some, List.length_append, List.length_cons, List.length_nil, decide_true, true_and, ht]
 simp (disch := omega) only [cond_true, Option.bind_some, decide_true, this]
theorem afv {L : qg} (hL : w5 L) (hn : L.length ≤ 1000000) (ok : ∀ l ∈ L, ∀ c ∈ l, OkC c) {l0 : List qc} (h0 : L[0]? = some l0) (r c : Int) : jx (L, r, c) (r, c, (l0.length : Int)) L = some (true, (r, c, (l0.length : Int)), L) := by
 unfold jx zR kC
 have h1 := ajA hL hn ok (r, c, (l0.length : Int))
 have h2 := ai6 hL hn r c
 have h3 := Ko h0 r c
 simp (disch := omega) only [ze, cond_true, Option.bind_some, decide_true, h1, h2, h3]
def atP (L : qg) (cols : Nat) (k j : Int) : qc × Bool :=
 if 0 ≤ k ∧ k < L.length ∧ 0 ≤ j ∧ j < cols then (match (L[k.toNat]?.bind fun l => l[j.toNat]?) with
  | some c => (c, true)
  | none => ((0, (0, 0), 0, 0, 0, 0), false)) else ((0, (0, 0), 0, 0, 0, 0), false)
theorem a35 {L : qg} {cols : Nat} (hc : ∀ l ∈ L, l.length = cols) (k j a b : Int) : yu (k, j) (a, b, (cols : Int)) L = some ((zD (atP L cols k j).1, (atP L cols k j).2), (a, b, (cols : Int)), L) := by
 unfold yu atP
 by_cases h1 : 0 ≤ k
 ·by_cases h2 : k < L.length
  ·obtain ⟨n, rfl⟩ : ∃ n : Nat, k = n := ⟨k.toNat, by omega⟩
   obtain ⟨l, hl⟩ := qm (l := L) (i := n) (by omega)
   by_cases h3 : j < 0
   ·rw [if_neg (by omega)]
    simp (disch := omega) only [qe, qk, cond_true, cond_false, Int.toNat_natCast, Bool.not_true, decide_true, and_true]
    rfl
   ·by_cases h4 : (cols : Int) ≤ j
    ·rw [if_neg (by omega)]
     simp (disch := omega) only [qe, qk, cond_true, cond_false, Int.toNat_natCast, Bool.not_true, decide_true, and_true]
     rfl
    ·obtain ⟨m, rfl⟩ : ∃ m : Nat, j = m := ⟨j.toNat, by omega⟩
     have hlc := hc l (List.mem_of_getElem? hl)
     obtain ⟨c, hcc⟩ := qm (l := l) (i := m) (by omega)
     rw [if_pos ⟨by omega, by omega, by omega, by omega⟩]
     simp (disch := omega) only [qe, qk, cond_true, cond_false, Option.bind_some, Int.toNat_natCast, Bool.not_true, decide_true, and_true, hl, hcc]
     rfl
  ·rw [if_neg (by omega)]
   simp (disch := omega) only [qe, qk, cond_true, cond_false, Bool.not_false, decide_true, and_true]
   rfl
 ·rw [if_neg (by omega)]
  simp (disch := omega) only [qe, qk, cond_true, cond_false, Bool.not_true, decide_true, and_true]
  rfl
theorem aix {L : qg} {cols : Nat} (hc : ∀ l ∈ L, l.length = cols) (k j a b : Int) : vp (L, a, b) k j = some (zD (atP L cols k j).1, (atP L cols k j).2) := by
 unfold vp kS atP
 by_cases h1 : 0 ≤ k
 ·by_cases h2 : k < L.length
  ·obtain ⟨n, rfl⟩ : ∃ n : Nat, k = n := ⟨k.toNat, by omega⟩
   obtain ⟨l, hl⟩ := qm (l := L) (i := n) (by omega)
   obtain ⟨l0, hl0⟩ := qm (l := L) (i := 0) (by omega)
   have h0c := hc l0 (List.mem_of_getElem? hl0)
   have hcr := Ko hl0 a b
   by_cases h3 : j < 0
   ·rw [if_neg (by omega)]
    simp (disch := omega) only [qe, qk, cond_true, cond_false, Option.bind_some, Int.toNat_natCast, Bool.not_true]
    rfl
   ·by_cases h4 : (cols : Int) ≤ j
    ·rw [if_neg (by omega)]
     simp (disch := omega) only [qe, qk, cond_true, cond_false, Option.bind_some, Int.toNat_natCast, Bool.not_true, hcr]
     rfl
    ·obtain ⟨m, rfl⟩ : ∃ m : Nat, j = m := ⟨j.toNat, by omega⟩
     have hlc := hc l (List.mem_of_getElem? hl)
     obtain ⟨c, hcc⟩ := qm (l := l) (i := m) (by omega)
     rw [if_pos ⟨by omega, by omega, by omega, by omega⟩]
     simp (disch := omega) only [qe, qk, cond_true, cond_false, Option.bind_some, Int.toNat_natCast, Bool.not_true, hl, hcc, hcr]
     rfl
  ·rw [if_neg (by omega)]
   simp (disch := omega) only [qe, qk, cond_true, Option.bind_some, Bool.not_false]
   rfl
 ·rw [if_neg (by omega)]
  simp (disch := omega) only [qe, qk, cond_true, cond_false, Option.bind_some, Bool.not_false]
  rfl
def Zk (L : qg) (rows : Nat) (cols : Int) (i : Nat) : qg := (List.range rows).map fun r => match L[r]? with
 | some l => if r < i then zu (yP l (kT cols)) else kq cols
 | none => kq cols
theorem zG (L : qg) (rows : Nat) (cols : Int) (i : Nat) : (Zk L rows cols i).length = rows := by simp [Zk]
theorem a9J (L : qg) (rows : Nat) (cols : Int) : Zk L rows cols 0 = List.replicate rows (kq cols) := by
 refine List.ext_getElem? fun i => ?_
 unfold Zk
 by_cases h : i < rows
 ·rw [List.getElem?_map, List.getElem?_range h, List.getElem?_replicate, if_pos h]
  simp only [Option.map_some]
  cases L[i]? <;> simp
 ·rw [List.getElem?_eq_none (by simp; omega), List.getElem?_eq_none (by simp; omega)]
theorem yj {L : qg} {rows i k : Nat} {cols : Int} (h : k < rows) : (Zk L rows cols i)[k]? = some (match L[k]? with
 | some l => if k < i then zu (yP l (kT cols)) else kq cols
 | none => kq cols) := by
 unfold Zk
 rw [List.getElem?_map, List.getElem?_range h]; rfl
theorem a2j {L : qg} {rows i : Nat} {cols : Int} {l : List qc} (hi : i < rows) (hl : L[i]? = some l) : (Zk L rows cols i).set i (zu (yP l (kT cols))) = Zk L rows cols (i + 1) := by
 refine List.ext_getElem? fun k => ?_
 by_cases hk : k < rows
 ·by_cases q : k = i
  ·subst q
   rw [List.getElem?_set_self (by rw [zG]; exact hk), yj hk, hl]
   simp
  ·rw [List.getElem?_set_ne (Ne.symm q), yj hk, yj hk]
   cases hx : L[k]? with
   | none => rfl
   | some x =>
    simp only
    by_cases h2 : k < i
    ·rw [if_pos h2, if_pos (by omega)]
    ·rw [if_neg h2, if_neg (by omega)]
 ·rw [List.getElem?_eq_none (by rw [List.length_set, zG]; omega), List.getElem?_eq_none (by rw [zG]; omega)]
end Go.Sim
set_option maxRecDepth 100000
set_option maxHeartbeats 4000000
namespace Go.Sim
theorem a5c {c : Int} (h : qD c = true) : (kq c).length = c.toNat := by
 unfold qD at h
 simp only [Bool.and_eq_true, decide_eq_true_eq] at h
 unfold kq kT
 rw [List.length_replicate, if_neg (by omega), if_neg (by omega)]
def Za (L : qg) (rows : Nat) (cols : Int) : qg := Zk L rows cols L.length
theorem a24 (L : qg) (rows : Nat) (cols : Int) {i : Nat} (h : min rows L.length ≤ i) : Zk L rows cols i = Za L rows cols := by
 refine List.ext_getElem? fun k => ?_
 unfold Za
 by_cases hk : k < rows
 ·rw [yj hk, yj hk]
  cases hx : L[k]? with
  | none => rfl
  | some x =>
   have := (List.getElem?_eq_some_iff.1 hx).1
   simp only
   rw [if_pos (by omega), if_pos (by omega)]
 ·rw [List.getElem?_eq_none (by rw [zG]; omega), List.getElem?_eq_none (by rw [zG]; omega)]
theorem aiu {L : qg} {rows : Nat} {cols : Int} (hr : 1 ≤ rows) (hc : qD cols = true) : ∃ l0, (Za L rows cols)[0]? = some l0 ∧ (l0.length : Int) = cols := by
 have hp := hc
 unfold qD at hp
 simp only [Bool.and_eq_true, decide_eq_true_eq] at hp
 have h1 : (kq cols).length = cols.toNat := a5c hc
 unfold Za
 refine ⟨_, yj (by omega), ?_⟩
 cases hx : L[0]? with
 | none => simp only; omega
 | some x =>
  simp only
  split
  ·rw [zY, wO]
   unfold kT
   rw [if_neg (by omega), if_neg (by omega)]; omega
  ·omega
theorem adj {L : qg} (hL : w5 L) (hn : L.length ≤ 1000000) {rows cols : Nat} (hr : qD (rows : Int) = true) (hc : qD (cols : Int) = true) (a b : Int) :
  K8 (L, a, b) (rows : Int) (cols : Int) = some (Za L rows (cols : Int), (qM a rows : Int), (qM b cols : Int)) := by
 have hr' : 1 ≤ (rows : Int) ∧ (rows : Int) ≤ 512 := by unfold qD at hr; simpa using hr
 have hc' : 1 ≤ (cols : Int) ∧ (cols : Int) ≤ 512 := by unfold qD at hc; simpa using hc
 obtain ⟨l0, h0, h0l⟩ := aiu (L := L) (rows := rows) (cols := (cols : Int)) (by omega) hc
 have hmv := ZZ (L := Za L rows (cols : Int)) (by unfold Za; rw [zG]; omega) h0 ⟨by omega, by omega⟩ a b 0 0
 have hfl : (Za L rows (cols : Int)).length = rows := by unfold Za; rw [zG]
 have hl0 : l0.length = cols := by omega
 rw [hfl, hl0] at hmv
 unfold K8
 rw [ad2 (by omega)]
 have : Vt (((rows : Int), (cols : Int), (0 : Int)), (L, a, b), ((0 : Int), (0 : Int)), ((0 : Int), (0 : Int)), List.replicate rows (kq (cols : Int))) = some (Za L rows (cols : Int), (qM a rows : Int), (qM b cols : Int)) := by
  rw [← a9J L rows]
  refine zk (st := fun i => (((rows : Int), (cols : Int), ((i : Nat) : Int)), (L, a, b), ((0 : Int), (0 : Int)), ((0 : Int), (0 : Int)), Zk L rows (cols : Int) i)) (n := min rows L.length) (fun i hi => ?_) ?_ 0 (by omega)
  ·obtain ⟨l, hl⟩ := qm (l := L) (i := i) (by omega)
   have hf := agH (hL l (List.mem_of_getElem? hl)) (cols : Int)
   have e : ((i : Int) + 1) = ((i + 1 : Nat) : Int) := by omega
   have e3 := a2j (rows := rows) (cols := (cols : Int)) (by omega) hl
   have ht := zG L rows (cols : Int) i
   have ht1 := zG L rows (cols : Int) (i + 1)
   obtain ⟨x, hx⟩ := qm (l := Zk L rows (cols : Int) i) (i := i) (by omega)
   show kr _ _ _ _ _ = _
   unfold kr
   simp (disch := omega) only [qe, q9, cond_true, Option.bind_some, Int.toNat_natCast, decide_true, and_true, hl, hf, hx, ht, e3, ht1, e]
  ·show kr _ _ _ _ _ = _
   unfold kr
   rw [a24 L rows (cols : Int) (Nat.le_refl _)]
   by_cases hq : rows ≤ L.length
   ·rw [show min rows L.length = rows by omega]
    simp (disch := omega) only [qe, qk, q9, cond_true, cond_false, Option.bind_some, Int.toNat_natCast, decide_true, and_true, hmv]
   ·rw [show min rows L.length = L.length by omega]
    simp (disch := omega) only [qe, qk, q9, cond_true, cond_false, Option.bind_some, Int.toNat_natCast, decide_true, and_true, hmv]
 simp (disch := omega) only [cond_true, Option.bind_some, decide_true, this]
theorem ab8 {L : qg} (hL : w5 L) (hn : 1 ≤ L.length ∧ L.length ≤ 1000000) {rows cols : Nat} (hr : qD (rows : Int) = true) (hc : qD (cols : Int) = true) (a b c : Int) :
  yw ((rows : Int), (cols : Int)) (a, b, c) L = some (Sum.inr ((a, b, c), L, ((qM a rows : Int), (qM b cols : Int), (cols : Int)), Za L rows (cols : Int))) := by
 have hr' : 1 ≤ (rows : Int) ∧ (rows : Int) ≤ 512 := by unfold qD at hr; simpa using hr
 have hc' : 1 ≤ (cols : Int) ∧ (cols : Int) ≤ 512 := by unfold qD at hc; simpa using hc
 have hfl : (Za L rows (cols : Int)).length = rows := by unfold Za; rw [zG]
 have hmv := QV (L := Za L rows (cols : Int)) (cols := cols) ⟨by omega, by omega⟩ ⟨by omega, by omega⟩ a b 0 0
 rw [hfl] at hmv
 have hmin : (if (L.length : Int) < (rows : Int) then (L.length : Int) else (rows : Int)) = ((min rows L.length : Nat) : Int) := by split <;> omega
 unfold yw
 simp only [Y4, hr, hc, and_self, if_true, Option.bind_some, hmin, Int.toNat_natCast]
 have : YK (((cols : Int), ((0 : Nat), min rows L.length), ((min rows L.length : Nat) : Int), (0 : Int)), (a, b, c), L, ((0 : Int), (0 : Int), (cols : Int)), List.replicate rows (kq (cols : Int))) = some (Sum.inr ((a, b, c), L, ((qM a rows : Int), (qM b cols : Int), (cols : Int)), Za L rows (cols : Int))) := by
  rw [← a9J L rows]
  refine zk (st := fun i => (((cols : Int), ((0 : Nat), min rows L.length), ((min rows L.length : Nat) : Int), ((i : Nat) : Int)), (a, b, c), L, ((0 : Int), (0 : Int), (cols : Int)), Zk L rows (cols : Int) i)) (n := min rows L.length) (fun i hi => ?_) ?_ 0 (by omega)
  ·obtain ⟨l, hl⟩ := qm (l := L) (i := i) (by omega)
   have hf := afa (hL l (List.mem_of_getElem? hl)) (cols : Int)
   have e : ((i : Int) + 1) = ((i + 1 : Nat) : Int) := by omega
   have e3 := a2j (rows := rows) (cols := (cols : Int)) (by omega) hl
   have ht := zG L rows (cols : Int) i
   have ht1 := zG L rows (cols : Int) (i + 1)
   obtain ⟨x, hx⟩ := qm (l := Zk L rows (cols : Int) i) (i := i) (by omega)
   show zZ _ _ _ _ _ = _
   unfold zZ
   simp (disch := omega) only [qe, q9, cond_true, Option.bind_some, Int.toNat_natCast, decide_true, and_true, Nat.zero_add, hl, hf, hx, ht, e3, ht1, e]
  ·show zZ _ _ _ _ _ = _
   unfold zZ
   rw [a24 L rows (cols : Int) (Nat.le_refl _)]
   simp (disch := omega) only [qe, qk, q9, cond_true, cond_false, Option.bind_some, Int.toNat_natCast, decide_true, and_true, hmv]
 simp (disch := omega) only [qe, cond_true, Option.bind_some, decide_true, and_true, this]
theorem af5 {L : qg} {r c : Int} (h : ¬ (qD r = true ∧ qD c = true)) (g : Int × (Int × Int)) : yw (r, c) g L = some (Sum.inl (g, L)) := by
 unfold yw
 simp only [Y4, Option.bind_some]
 rw [if_neg h]
 simp (disch := omega) only [cond_true, decide_true]
end Go.Sim
set_option maxRecDepth 100000
set_option maxHeartbeats 4000000
namespace Go.Sim
def jn (rows : Nat) (n : Int) : Int := if (rows : Int) < n then rows else if n < -(rows : Int) then -(rows : Int) else n
theorem a2k (rows : Nat) (n : Int) : -(rows : Int) ≤ jn rows n ∧ jn rows n ≤ rows := by
 unfold jn; split
 ·omega
 ·split <;> omega
def Zb (L : qg) (n : Int) (bl : List qc) : qg := (List.range L.length).map fun (r : Nat) => if 0 ≤ (r : Int) + n ∧ (r : Int) + n < L.length then L[((r : Int) + n).toNat]?.getD bl else bl
theorem Z5 (L : qg) (n : Int) (bl : List qc) : (Zb L n bl).length = L.length := by simp [Zb]
theorem VF {L : qg} {n : Int} {bl : List qc} {i : Nat} (h : i < L.length) : (Zb L n bl)[i]? = some (if 0 ≤ (i : Int) + n ∧ (i : Int) + n < L.length then L[((i : Int) + n).toNat]?.getD bl else bl) := by
 unfold Zb
 rw [List.getElem?_map, List.getElem?_range h]; rfl
def blL (cols : Nat) (a b c : Int) : List qc := zu (wt (kq (cols : Int)) 0 (cols : Int) a b c)
theorem acM {L : qg} {k : Nat} (hk : k ≤ L.length) (bl : List qc) : L.drop k ++ List.replicate k bl = Zb L (k : Int) bl := by
 refine List.ext_getElem? fun i => ?_
 by_cases hi : i < L.length
 ·rw [VF hi]
  by_cases h2 : i + k < L.length
  ·obtain ⟨l, hl⟩ := qm h2
   rw [if_pos (by omega), show ((i : Int) + (k : Int)).toNat = i + k by omega, hl, List.getElem?_append_left (by rw [List.length_drop]; omega), List.getElem?_drop, show k + i = i + k by omega, hl]; rfl
  ·rw [if_neg (by omega), List.getElem?_append_right (by rw [List.length_drop]; omega), List.getElem?_replicate, if_pos (by rw [List.length_drop]; omega)]
 ·rw [List.getElem?_eq_none (by rw [List.length_append, List.length_drop, List.length_replicate]; omega), List.getElem?_eq_none (by rw [Z5]; omega)]
theorem ais {L : qg} {k : Nat} (hk : k ≤ L.length) (bl : List qc) : List.replicate k bl ++ L.take (L.length - k) = Zb L (-(k : Int)) bl := by
 refine List.ext_getElem? fun i => ?_
 by_cases hi : i < L.length
 ·rw [VF hi]
  by_cases h2 : k ≤ i
  ·obtain ⟨l, hl⟩ := qm (l := L) (i := i - k) (by omega)
   rw [if_pos (by omega), show ((i : Int) + -(k : Int)).toNat = i - k by omega, hl, List.getElem?_append_right (by rw [List.length_replicate]; omega), List.length_replicate, List.getElem?_take, if_pos (by omega), hl]; rfl
  ·rw [if_neg (by omega), List.getElem?_append_left (by rw [List.length_replicate]; omega), List.getElem?_replicate, if_pos (by omega)]
 ·rw [List.getElem?_eq_none (by rw [List.length_append, List.length_take, List.length_replicate]; omega), List.getElem?_eq_none (by rw [Z5]; omega)]
theorem Up (n : Int) : (kq n).length ≤ 1000000 := by unfold kq; rw [List.length_replicate]; have := Vv n; omega
theorem a6H {L : qg} (hL : w5 L) (hn : L.length ≤ 1000000) {l0 : List qc} (h0 : L[0]? = some l0) (n a b c r cc : Int) :
  Qm (L, r, cc) n a b c = some (if QG a b c = true then Zb L (jn L.length n) (blL l0.length a b c) else L, r, cc) := by
 unfold Qm
 rw [a4j]
 cases hp : QG a b c
 ·simp (disch := omega) only [cond_true, Option.bind_some, Bool.not_false, Bool.false_eq_true, if_false]
 ·have hcl := a2k L.length n
  have hwn : IntKind.i64.wrap ((0 : Int) - (L.length : Int)) = -(L.length : Int) := by rw [q9 (by omega) (by omega)]; omega
  have loop : Q6 ((jn L.length n, (L.length : Int), (0 : Int)), (L, r, cc), (a, b, c), ((0 : Int), (0 : Int)), []) = some (Zb L (jn L.length n) (blL l0.length a b c), r, cc) := by
   generalize hq : jn L.length n = q at hcl
   have hT := Z5 L q (blL l0.length a b c)
   refine zk (st := fun i => ((q, (L.length : Int), ((i : Nat) : Int)), (L, r, cc), (a, b, c), ((0 : Int), (0 : Int)), (Zb L q (blL l0.length a b c)).take i)) (n := L.length) (fun i hi => ?_) ?_ 0 (by omega)
   ·have ht : ((Zb L q (blL l0.length a b c)).take i).length = i := by rw [List.length_take, hT]; omega
    have ht1 : ((Zb L q (blL l0.length a b c)).take (i + 1)).length = i + 1 := by rw [List.length_take, hT]; omega
    have e : ((i : Int) + 1) = ((i + 1 : Nat) : Int) := by omega
    have hw : IntKind.i64.wrap ((i : Int) + q) = (i : Int) + q := q9 (by omega) (by omega)
    have hcr := Ko h0 r cc
    have hnl := Ut (l0.length : Int)
    have her := a9G (Up (l0.length : Int)) 0 (l0.length : Int) a b c
    have hg := VF (n := q) (bl := blL l0.length a b c) hi
    show zF _ _ _ _ _ = _
    unfold zF
    by_cases h1 : 0 ≤ (i : Int) + q
    ·by_cases h2 : (i : Int) + q < L.length
     ·obtain ⟨l, hl⟩ := qm (l := L) (i := ((i : Int) + q).toNat) (by omega)
      rw [if_pos ⟨h1, h2⟩, hl] at hg
      have e3 : (Zb L q (blL l0.length a b c)).take i ++ [l] = (Zb L q (blL l0.length a b c)).take (i + 1) := (kn hg).symm
      simp only [hw]
      simp (disch := omega) only [qe, q9, cond_true, Option.bind_some, List.length_append, List.length_cons, List.length_nil, decide_true, true_and, hl, ht, e3, e]
     ·rw [if_neg (by omega)] at hg
      have e3 : (Zb L q (blL l0.length a b c)).take i ++ [zu (wt (kq (l0.length : Int)) 0 (l0.length : Int) a b c)] = (Zb L q (blL l0.length a b c)).take (i + 1) := (kn hg).symm
      simp only [hw]
      simp (disch := omega) only [qe, qk, q9, cond_true, cond_false, Option.bind_some, List.length_append, List.length_cons, List.length_nil, decide_true, true_and, hcr, hnl, her, ht, e3, e]
    ·rw [if_neg (by omega)] at hg
     have e3 : (Zb L q (blL l0.length a b c)).take i ++ [zu (wt (kq (l0.length : Int)) 0 (l0.length : Int) a b c)] = (Zb L q (blL l0.length a b c)).take (i + 1) := (kn hg).symm
     simp only [hw]
     simp (disch := omega) only [qe, qk, q9, cond_true, cond_false, Option.bind_some, List.length_append, List.length_cons, List.length_nil, decide_true, true_and, hcr, hnl, her, ht, e3, e]
   ·show zF _ _ _ _ _ = _
    unfold zF
    have ht : (Zb L q (blL l0.length a b c)).take L.length = Zb L q (blL l0.length a b c) := List.take_of_length_le (by rw [hT]; omega)
    simp (disch := omega) only [qe, qk, q9, cond_true, cond_false, List.length_append, List.length_cons, List.length_nil, decide_true, true_and, ht]
  by_cases h1 : (L.length : Int) < n
  ·have hc : jn L.length n = (L.length : Int) := by unfold jn; rw [if_pos h1]
   rw [hc] at loop
   rw [hc]
   simp (disch := omega) only [qe, qk, cond_true, cond_false, Option.bind_some, Bool.not_true, hwn, loop, if_true]
  ·by_cases h2 : n < -(L.length : Int)
   ·have hc : jn L.length n = -(L.length : Int) := by unfold jn; rw [if_neg h1, if_pos h2]
    rw [hc] at loop
    rw [hc]
    simp (disch := omega) only [qe, qk, cond_true, cond_false, Option.bind_some, Bool.not_true, hwn, loop, if_true]
   ·have hc : jn L.length n = n := by unfold jn; rw [if_neg h1, if_neg h2]
    rw [hc] at loop
    rw [hc]
    simp (disch := omega) only [qk, cond_false, Option.bind_some, Bool.not_true, hwn, loop, if_true]
theorem a3r {L : qg} (hL : w5 L) (hn : 1 ≤ L.length ∧ L.length ≤ 1000000) {cols : Nat} (n a b c r cc : Int) :
  yB (n, a, b, c) (r, cc, (cols : Int)) L = some ((r, cc, (cols : Int)), if QG a b c = true then Zb L (jn L.length n) (blL cols a b c) else L) := by
 unfold yB
 rw [a07]
 cases hp : QG a b c
 ·simp (disch := omega) only [q9, cond_true, Option.bind_some, Bool.not_false, decide_true, Bool.false_eq_true, if_false]
 ·have hcl := a2k L.length n
  have hwn : IntKind.i64.wrap ((0 : Int) - (L.length : Int)) = -(L.length : Int) := by rw [q9 (by omega) (by omega)]; omega
  have hcm : (if (L.length : Int) < if -(L.length : Int) > n then -(L.length : Int) else n then (L.length : Int) else if -(L.length : Int) > n then -(L.length : Int) else n) = jn L.length n := by
   unfold jn
   by_cases h1 : -(L.length : Int) > n
   ·simp only [h1, if_true]; repeat' split
    all_goals first | rfl | omega
   ·simp only [h1, if_false]
  simp only [hwn, hcm]
  generalize hq : jn L.length n = q at hcl
  have hwq : IntKind.i64.wrap ((0 : Int) - q) = -q := by rw [q9 (by omega) (by omega)]; omega
  obtain ⟨k, hk⟩ : ∃ k : Nat, (if -q > q then -q else q) = (k : Int) := ⟨(if -q > q then -q else q).toNat, by split <;> omega⟩
  have hkq : (q = k ∨ q = -(k : Int)) ∧ k ≤ L.length := by split at hk <;> omega
  simp only [hwq, hk]
  have hnl := a1z (cols : Int)
  have her := a6Z (Up (cols : Int)) 0 (cols : Int) a b c
  have hT := Z5 L q (blL cols a b c)
  have loop : K3 ((q, (L.length : Int), (k : Int), (0 : Int)), (r, cc, (cols : Int)), L, (a, b, c), []) = some ((r, cc, (cols : Int)), Zb L q (blL cols a b c)) := by
   refine zk (st := fun i => ((q, (L.length : Int), (k : Int), ((i : Nat) : Int)), (r, cc, (cols : Int)), L, (a, b, c), List.replicate i (blL cols a b c))) (n := k) (fun i hi => ?_) ?_ 0 (by omega)
   ·have e : ((i : Int) + 1) = ((i + 1 : Nat) : Int) := by omega
    have e3 : List.replicate i (blL cols a b c) ++ [zu (wt (kq (cols : Int)) 0 (cols : Int) a b c)] = List.replicate (i + 1) (blL cols a b c) := K9 i _
    show zn _ _ _ _ _ = _
    unfold zn
    simp (disch := omega) only [qe, q9, cond_true, Option.bind_some, Int.toNat_natCast, List.length_append, List.length_cons, List.length_nil, decide_true, true_and, and_true, hnl, her, List.length_replicate, e3, e]
   ·show zn _ _ _ _ _ = _
    unfold zn
    by_cases hpos : 0 ≤ q
    ·have hqk : q = (k : Int) := by omega
     rw [hqk] at hT ⊢
     have hs := acM (L := L) (k := k) hkq.2 (blL cols a b c)
     simp only [Option.getD_some, Int.toNat_natCast]
     by_cases h1 : k = L.length
     ·have hd : L.drop k = [] := List.drop_eq_nil_of_le (by omega)
      rw [hd] at hs
      simp (disch := omega) only [qe, qk, q9, cond_true, cond_false, List.length_append, List.length_cons, List.length_nil, decide_true, true_and, and_true, List.length_replicate, hs, hT]
     ·by_cases h2 : k = 0
      ·subst h2
       simp only [List.replicate_zero, List.drop_zero, List.append_nil] at hs ⊢
       simp (disch := omega) only [qe, qk, q9, cond_true, cond_false, List.length_append, List.length_cons, List.length_nil, decide_true, true_and, and_true]
       rw [← hs]
      ·have htk : List.take (L.length - k) (List.drop k L) = L.drop k := List.take_of_length_le (by rw [List.length_drop]; omega)
       simp (disch := omega) only [qe, qk, q9, cond_true, cond_false, List.length_append, List.length_cons, List.length_nil, decide_true, true_and, and_true, List.length_replicate, htk, List.length_drop, hs, hT]
    ·have hqk : q = -(k : Int) := by omega
     have hs := ais (L := L) (k := k) hkq.2 (blL cols a b c)
     have hw : IntKind.i64.wrap ((L.length : Int) + q) = ((L.length - k : Nat) : Int) := by rw [q9 (by omega) (by omega)]; omega
     simp only [hw, Int.toNat_natCast, List.drop_zero]
     rw [hqk] at hT ⊢
     simp (disch := omega) only [qe, qk, q9, cond_true, cond_false, List.length_append, List.length_cons, List.length_nil, decide_true, true_and, and_true, List.length_replicate, List.length_take, hs, hT]
  simp (disch := omega) only [cond_true, cond_false, Option.bind_some, Bool.not_true, decide_true, loop, if_true]
end Go.Sim
set_option maxRecDepth 100000
set_option maxHeartbeats 4000000
namespace Go.Sim
structure LineOk (n : Nat) (l : List qc) : Prop where
 len : l.length = n
 ok : ∀ c ∈ l, OkC c
 right : zd l = true
theorem Yh {a b c : Int} (ha : u8r a) (hb : u8r b) (hc : u8r c) : OkC (zb a b c) :=
 ⟨(by unfold zU zb; simp), (by unfold zU zb; simp), (by unfold zU zb; simp), (by unfold u8r zb; simp), ha, hb, hc⟩
theorem W7 : u8r 0 := by unfold u8r; omega
theorem aem {c : qc} (h : OkC c) : OkC (Jv c) :=
 ⟨(by unfold zU Jv; simp), (by unfold zU Jv; simp), (by unfold zU Jv; simp), W7, h.p1, h.p2, h.p3⟩
theorem a49 {l : List qc} (h : ∀ c ∈ l, OkC c) : ∀ c ∈ zu l, OkC c := by
 intro c hc
 obtain ⟨i, hi⟩ := List.mem_iff_getElem?.1 hc
 have hlt : i < l.length := by have := (List.getElem?_eq_some_iff.1 hi).1; rwa [zY] at this
 obtain ⟨d, hd⟩ := qm hlt
 rw [vS hd] at hi
 cases hi
 have hk := h d (List.mem_of_getElem? hd)
 unfold Yp
 split
 ·exact Yh hk.p1 hk.p2 hk.p3
 ·exact hk
theorem a4i {l : List qc} (h : ∀ c ∈ l, OkC c) {n : Nat} {d : qc} (hd : OkC d) : ∀ c ∈ l.set n d, OkC c := by
 intro c hc
 rcases List.mem_or_eq_of_mem_set hc with q | rfl
 ·exact h c q
 ·exact hd
theorem uM {n : Nat} {l : List qc} (h : LineOk n l) {c : qc} (hc : OkC c) (k : Int) : LineOk n (jY l k c).1 := by
 refine ⟨putP_len.trans h.len, ?_, a7D h.right hc⟩
 unfold jY
 split
 ·refine a49 ?_
  unfold w9
  split
  ·exact a4i (a4i h.ok hc) (aem hc)
  ·exact a4i h.ok hc
 ·exact h.ok
theorem aeG {c : qc} (h : OkC c) {m : Int} (hm : zU m) : OkC (jg c m).1 := by
 unfold jg
 split
 ·split
  ·exact ⟨h.r, hm, h.m2, h.w, h.p1, h.p2, h.p3⟩
  ·split
   ·exact ⟨h.r, h.m1, hm, h.w, h.p1, h.p2, h.p3⟩
   ·exact h
 ·exact h
theorem ace {n : Nat} {l : List qc} (h : LineOk n l) {m : Int} (hm : zU m) (k : Int) : LineOk n (wg l k m).1 := by
 refine ⟨markP_len.trans h.len, ?_, a5k h.right⟩
 unfold wg
 split
 ·split
  ·rename_i c hc
   exact a4i h.ok (aeG (h.ok c (List.mem_of_getElem? hc)) hm)
  ·exact h.ok
 ·exact h.ok
theorem a6u {n : Nat} {l : List qc} (h : LineOk n l) {f t a b c : Int} (ha : u8r a) (hb : u8r b) (hc : u8r c) (hp : QG a b c = true) : LineOk n (zu (wt l f t a b c)) := by
 refine ⟨by rw [zY, Ku]; exact h.len, a49 fun d hd => ?_, abG h.right hp⟩
 obtain ⟨i, hi⟩ := List.mem_iff_getElem?.1 hd
 have hlt : i < l.length := by have := (List.getElem?_eq_some_iff.1 hi).1; rwa [Ku] at this
 obtain ⟨e, he⟩ := qm hlt
 rw [Vs he] at hi
 cases hi
 split
 ·exact Yh ha hb hc
 ·exact h.ok e (List.mem_of_getElem? he)
theorem aft {m : Int} (h : qD m = true) : kT m = m.toNat := by
 unfold qD at h
 simp only [Bool.and_eq_true, decide_eq_true_eq] at h
 unfold kT
 rw [if_neg (by omega), if_neg (by omega)]
theorem adi {n : Nat} {l : List qc} (h : LineOk n l) {m : Int} (hm : qD m = true) : LineOk m.toNat (zu (yP l (kT m))) := by
 refine ⟨by rw [zY, wO, aft hm], a49 fun d hd => ?_, aaz h.right⟩
 obtain ⟨i, hi⟩ := List.mem_iff_getElem?.1 hd
 have hlt : i < kT m := by have := (List.getElem?_eq_some_iff.1 hi).1; rwa [wO] at this
 rw [Wf l hlt] at hi
 cases hi
 cases hx : l[i]? with
 | none => exact Yh W7 W7 W7
 | some e => exact h.ok e (List.mem_of_getElem? hx)
theorem Vl {m : Int} (hm : qD m = true) : LineOk m.toNat (kq m) := by
 refine ⟨a5c hm, fun d hd => ?_, a8L m⟩
 unfold kq at hd
 rw [List.eq_of_mem_replicate hd]
 exact Yh W7 W7 W7
structure GOk (L : qg) (cols : Nat) : Prop where
 rows : 1 ≤ L.length ∧ L.length ≤ 512
 wide : 1 ≤ cols ∧ cols ≤ 512
 line : ∀ l ∈ L, LineOk cols l
theorem GOk.small {L : qg} {cols : Nat} (h : GOk L cols) : w5 L := fun l hl => by have := (h.line l hl).len; have := h.wide; omega
theorem GOk.first {L : qg} {cols : Nat} (h : GOk L cols) : ∃ l0, L[0]? = some l0 ∧ l0.length = cols := by
 obtain ⟨l0, h0⟩ := qm (l := L) (i := 0) (by have := h.rows; omega)
 exact ⟨l0, h0, (h.line l0 (List.mem_of_getElem? h0)).len⟩
theorem GOk.ok {L : qg} {cols : Nat} (h : GOk L cols) : ∀ l ∈ L, ∀ c ∈ l, OkC c := fun l hl => (h.line l hl).ok
theorem GOk.set {L : qg} {cols n : Nat} (h : GOk L cols) {l : List qc} (hl : LineOk cols l) : GOk (L.set n l) cols := by
 refine ⟨by rw [List.length_set]; exact h.rows, h.wide, fun x hx => ?_⟩
 rcases List.mem_or_eq_of_mem_set hx with q | rfl
 ·exact h.line x q
 ·exact hl
theorem GOk.turn {L : qg} {cols : Nat} (h : GOk L cols) (k : Int) (f : List qc → List qc × Bool) (hf : ∀ l, LineOk cols l → (f l).2 = true → LineOk cols (f l).1) : GOk (zW L k f).2 cols := by
 unfold zW
 split
 ·split
  ·rename_i l hl
   split
   ·rename_i hb
    exact h.set (hf l (h.line l (List.mem_of_getElem? hl)) hb)
   ·exact h
  ·exact h
 ·exact h
theorem GOk.fit {L : qg} {cols0 : Nat} (h : GOk L cols0) {rows cols : Nat} (hr : qD (rows : Int) = true) (hc : qD (cols : Int) = true) : GOk (Za L rows (cols : Int)) cols := by
 have hr' : 1 ≤ (rows : Int) ∧ (rows : Int) ≤ 512 := by unfold qD at hr; simpa using hr
 have hc' : 1 ≤ (cols : Int) ∧ (cols : Int) ≤ 512 := by unfold qD at hc; simpa using hc
 have hlen : (Za L rows (cols : Int)).length = rows := by unfold Za; rw [zG]
 refine ⟨by omega, by omega, fun x hx => ?_⟩
 obtain ⟨i, hi⟩ := List.mem_iff_getElem?.1 hx
 have hlt : i < rows := by have := (List.getElem?_eq_some_iff.1 hi).1; omega
 unfold Za at hi
 rw [yj hlt] at hi
 cases hi
 cases hq : L[i]? with
 | none => exact Vl hc
 | some l =>
  simp only
  split
  ·exact adi (h.line l (List.mem_of_getElem? hq)) hc
  ·exact Vl hc
theorem GOk.scroll {L : qg} {cols : Nat} (h : GOk L cols) (n : Int) {a b c : Int} (ha : u8r a) (hb : u8r b) (hc : u8r c) (hp : QG a b c = true) : GOk (Zb L n (blL cols a b c)) cols := by
 have hs : qD (cols : Int) = true := by have := h.wide; unfold qD; simp; omega
 have hbl : LineOk cols (blL cols a b c) := a6u (Vl hs) ha hb hc hp
 refine ⟨by rw [Z5]; exact h.rows, h.wide, fun x hx => ?_⟩
 obtain ⟨i, hi⟩ := List.mem_iff_getElem?.1 hx
 have hlt : i < L.length := by have := (List.getElem?_eq_some_iff.1 hi).1; rwa [Z5] at this
 rw [VF hlt] at hi
 cases hi
 split
 ·cases hq : L[((i : Int) + n).toNat]? with
  | none => exact hbl
  | some l => exact h.line l (List.mem_of_getElem? hq)
 ·exact hbl
theorem GOk.new {rows cols : Nat} (hr : qD (rows : Int) = true) (hc : qD (cols : Int) = true) : GOk (List.replicate rows (kq (cols : Int))) cols := by
 have hr' : 1 ≤ (rows : Int) ∧ (rows : Int) ≤ 512 := by unfold qD at hr; simpa using hr
 have hc' : 1 ≤ (cols : Int) ∧ (cols : Int) ≤ 512 := by unfold qD at hc; simpa using hc
 refine ⟨by rw [List.length_replicate]; omega, by omega, fun x hx => ?_⟩
 rw [List.eq_of_mem_replicate hx]
 exact Vl hc
end Go.Sim
set_option maxRecDepth 100000
set_option maxHeartbeats 4000000
namespace Go.Sim
def Did (x : Option ((((qg × (Int × Int)) × Bool) × (Y3_ × qg)) ⊕ ((((qg × (Int × Int)) × Bool) × (Y3_ × (qg × (Y3_ × qg)))) ⊕ (((qg × (Int × Int)) × Bool) × (Y3_ × qg))))) (g0 : Int × (Int × Int)) (L0 : qg) : Prop :=
 ∃ (L' : qg) (cols' row' col' : Nat), GOk L' cols' ∧ row' < L'.length ∧ col' < cols' ∧
  (x = some (.inl (((L', (row' : Int), (col' : Int)), true), (((row' : Int), (col' : Int), (cols' : Int)), L'))) ∨
   x = some (.inr (.inl (((L', (row' : Int), (col' : Int)), true), (g0, L0, ((row' : Int), (col' : Int), (cols' : Int)), L')))))
theorem yl (L : qg) (k : Int) (f : List qc → List qc × Bool) : (zW L k f).2.length = L.length := by
 unfold zW
 split
 ·split
  ·split
   ·simp
   ·rfl
  ·rfl
 ·rfl
theorem wc {n : Int} {k : Nat} (h : 1 ≤ k) : qM n k < k := by unfold qM; omega
theorem acP (l : List qc) : Y7 l = some (l.take 30) := by
 unfold Y7
 have e : (if (30 : Int) < (l.length : Int) then (30 : Int) else (l.length : Int)).toNat = min 30 l.length := by split <;> omega
 have e2 : (0 : Int) ≤ (if (30 : Int) < (l.length : Int) then (30 : Int) else (l.length : Int)) := by split <;> omega
 have e3 : l.take (min 30 l.length) = l.take 30 := by
  by_cases h : 30 ≤ l.length
  ·rw [show min 30 l.length = 30 by omega]
  ·rw [show min 30 l.length = l.length by omega, List.take_of_length_le (Nat.le_refl _), List.take_of_length_le (by omega)]
 have en : ([] : List qc) ++ l.take 30 = l.take 30 := rfl
 simp only [e, e3, en]
 rw [decide_eq_true (p := _ ∧ _) ⟨e2, by omega⟩]
 simp (disch := omega) only [qe, cond_true, true_and, List.length_take]
theorem a4k (n : Int) : ∃ k : Int, z9 n = some k ∧ yV n = some k ∧ (qD k = true → 1 ≤ k ∧ k ≤ 512) := by
 unfold z9 yV
 by_cases h1 : 30 < n
 ·by_cases h2 : n ≤ 512
  ·exact ⟨30, by simp (disch := omega) only [qe, cond_true], by simp (disch := omega) only [qe, cond_true], fun h => by omega⟩
  ·refine ⟨n, by simp (disch := omega) only [qe, qk, cond_true, cond_false], by simp (disch := omega) only [qe, qk, cond_true, cond_false], fun h => ?_⟩
   unfold qD at h; simpa using h
 ·refine ⟨n, by simp (disch := omega) only [qe, qk, cond_true, cond_false], by simp (disch := omega) only [qe, qk, cond_true, cond_false], fun h => ?_⟩
  unfold qD at h; simpa using h
theorem did {L : qg} {cols row col : Nat} (hG : GOk L cols) (hr : row < L.length) (hc : col < cols) {kind R C T M p1 p2 p3 : Int} {X : qc} {al : List qc}
  (hX : OkC X) (hR : va R) (hC : va C) (hM : zU M) (h1 : u8r p1) (h2 : u8r p2) (h3 : u8r p3) (hal : ∀ c ∈ al, OkC c) :
  Did (V8 ((L, (row : Int), (col : Int)), kind, R, C, T, X.1, X.2.1.1, X.2.1.2, X.2.2.1, X.2.2.2.1, X.2.2.2.2.1, X.2.2.2.2.2, M, p1, p2, p3, al) ((row : Int), (col : Int), (cols : Int)) L) ((row : Int), (col : Int), (cols : Int)) L := by
 have hrows := hG.rows
 have hwide := hG.wide
 have hS := hG.small
 have hn : L.length ≤ 1000000 := by omega
 obtain ⟨l0, h0, h0l⟩ := hG.first
 unfold V8
 by_cases k0 : kind = 0
 ·have e5 := afW hX
  unfold zD at e5
  have a1 := a6f hS hn R C hC hX (row : Int) (col : Int)
  have a2 := a2s hS R C hC hX ((row : Int), (col : Int), (cols : Int))
  refine ⟨_, cols, row, col, hG.turn R (fun l => jY l C X) (fun l hl _ => uM hl hX C), by rw [yl]; exact hr, hc, .inl ?_⟩
  simp (disch := omega) only [ze, qL, cond_true, cond_false, Option.bind_some, decide_true, e5, a1, a2, beq_self_eq_true]
 ·by_cases k1 : kind = 1
  ·have a1 := acq hS hn R C M hC (row : Int) (col : Int)
   have a2 := a7Y hS R C M hC ((row : Int), (col : Int), (cols : Int))
   have hM' := hM
   simp only [zU] at hM'
   refine ⟨_, cols, row, col, hG.turn R (fun l => wg l C M) (fun l hl _ => ace hl hM C), by rw [yl]; exact hr, hc, .inl ?_⟩
   simp (disch := omega) only [ze, qL, q9, cond_true, cond_false, Option.bind_some, decide_true, a1, a2, beq_self_eq_true]
  ·by_cases k2 : kind = 2
   ·have a1 := a9C hS hn R C T p1 p2 p3 (row : Int) (col : Int)
    have a2 := a4S hS R C T p1 p2 p3 ((row : Int), (col : Int), (cols : Int))
    refine ⟨_, cols, row, col, hG.turn R (fun l => (zu (wt l C T p1 p2 p3), QG p1 p2 p3)) (fun l hl hp => a6u hl h1 h2 h3 hp), by rw [yl]; exact hr, hc, .inl ?_⟩
    simp (disch := omega) only [ze, qL, cond_true, cond_false, Option.bind_some, decide_true, a1, a2]
   ·by_cases k3 : kind = 3
    ·have hal' : ∀ c ∈ al.take 30, OkC c := fun c q => hal c (List.mem_of_mem_take q)
     have hsl : (al.take 30).length ≤ 1000000 := by rw [List.length_take]; omega
     have e6 := aiU hsl hal'
     have a1 := adg hS hn h0 R (al.take 30) hsl hal' (row : Int) (col : Int)
     have a2 := ab7 hS R (al.take 30) hsl hal' ((row : Int), (col : Int), (cols : Int))
     rw [h0l] at a1
     refine ⟨_, cols, row, col, hG.turn R (fun l => (al.take 30, decide (((al.take 30).length : Int) = (cols : Int)) && zd (al.take 30))) (fun l hl hp => ?_), by rw [yl]; exact hr, hc, .inl ?_⟩
     ·simp only [Bool.and_eq_true, decide_eq_true_eq] at hp
      exact ⟨(by show (al.take 30).length = cols; omega), hal', hp.2⟩
     ·simp (disch := omega) only [ze, qL, cond_true, cond_false, Option.bind_some, decide_true, acP, e6, a1, a2, beq_self_eq_true]
    ·by_cases k4 : kind = 4
     ·have a1 := ZZ hn h0 ⟨by omega, by omega⟩ R C (row : Int) (col : Int)
      have a2 := QV (L := L) (cols := cols) ⟨by omega, hn⟩ ⟨by omega, by omega⟩ R C (row : Int) (col : Int)
      rw [h0l] at a1
      refine ⟨L, cols, qM R L.length, qM C cols, hG, wc (by omega), wc (by omega), .inl ?_⟩
      simp (disch := omega) only [ze, qL, cond_true, cond_false, Option.bind_some, decide_true, a1, a2]
     ·by_cases k5 : kind = 5
      ·have a1 := a6H hS hn h0 R p1 p2 p3 (row : Int) (col : Int)
       have a2 := a3r (L := L) (cols := cols) hS ⟨by omega, hn⟩ R p1 p2 p3 (row : Int) (col : Int)
       rw [h0l] at a1
       cases hp : QG p1 p2 p3
       ·rw [hp] at a1 a2
        simp only [Bool.false_eq_true, if_false] at a1 a2
        refine ⟨L, cols, row, col, hG, hr, hc, .inl ?_⟩
        simp (disch := omega) only [ze, qL, cond_true, cond_false, Option.bind_some, decide_true, a1, a2]
       ·rw [hp] at a1 a2
        simp only [if_true] at a1 a2
        refine ⟨_, cols, row, col, hG.scroll (jn L.length R) h1 h2 h3 hp, by rw [Z5]; exact hr, hc, .inl ?_⟩
        simp (disch := omega) only [ze, qL, cond_true, cond_false, Option.bind_some, decide_true, a1, a2]
      ·by_cases k6 : kind = 6
       ·obtain ⟨r', s1, _, s2⟩ := a4k R
        obtain ⟨c', t1, _, t2⟩ := a4k C
        by_cases hs : qD r' = true ∧ qD c' = true
        ·obtain ⟨u1, u2⟩ := s2 hs.1
         obtain ⟨u3, u4⟩ := t2 hs.2
         obtain ⟨nr, rfl⟩ : ∃ n : Nat, r' = n := ⟨r'.toNat, by omega⟩
         obtain ⟨nc, rfl⟩ : ∃ n : Nat, c' = n := ⟨c'.toNat, by omega⟩
         have a1 := adj hS hn hs.1 hs.2 (row : Int) (col : Int)
         have a2 := ab8 hS ⟨by omega, hn⟩ hs.1 hs.2 (row : Int) (col : Int) (cols : Int)
         have hfl : (Za L nr (nc : Int)).length = nr := by unfold Za; rw [zG]
         have az := a5P (nr : Int) (nc : Int)
         rw [hs.1, hs.2] at az
         refine ⟨Za L nr (nc : Int), nc, qM (row : Int) nr, qM (col : Int) nc, hG.fit hs.1 hs.2, by rw [hfl]; exact wc (by omega), wc (by omega), .inr ?_⟩
         simp (disch := omega) only [ze, qL, cond_true, cond_false, Option.bind_some, Bool.not_true, decide_true, s1, t1, a2, a1, az, Bool.and_self]
        ·have a2 := af5 (L := L) hs ((row : Int), (col : Int), (cols : Int))
         have az := a5P r' c'
         have hb : (qD r' && qD c') = false := by
          cases q : (qD r' && qD c')
          ·rfl
          ·simp only [Bool.and_eq_true] at q; exact absurd q hs
         rw [hb] at az
         refine ⟨L, cols, row, col, hG, hr, hc, .inl ?_⟩
         simp (disch := omega) only [ze, qL, cond_true, cond_false, Option.bind_some, Bool.not_false, decide_true, s1, t1, a2, az]
       ·by_cases k7 : kind = 7
        ·have a1 := Qv hS hn ((row : Int), (col : Int), (cols : Int))
         have a2 := a7L hS hn ((row : Int), (col : Int), (cols : Int))
         refine ⟨L, cols, row, col, hG, hr, hc, .inr ?_⟩
         simp (disch := omega) only [ze, qL, cond_true, cond_false, Option.bind_some, decide_true, a1, a2]
        ·refine ⟨L, cols, row, col, hG, hr, hc, .inl ?_⟩
         simp (disch := omega) only [qL, cond_true, cond_false, decide_true]
end Go.Sim

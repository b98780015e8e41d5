/- Part 10 of the claim RuleNext: GG, V15, V16, V17, V18, V19, V20, V21, V22, GH, V23, V24, V25, V26, V27, V28, B1, B2 -/
import Derived.Test.YtaamhddpmbombaaGreatProg
import Derived.ProofKit
import Derived.OpenShut
import Derived.Carry
import Derived.JoinedOf
import Derived.Test.YtaamhddpmbombaaGreatW7
import Derived.Test.YtaamhddpmbombaaGreatW9
import Derived.Test.YtaamhddpmbombaaGreatW3
set_option linter.unusedSimpArgs false
set_option linter.unusedVariables false
set_option linter.defProp false
set_option maxRecDepth 100000
set_option maxHeartbeats 0
namespace Go.Sim
open Go.Proofs
noncomputable def k9 (x2 : Y3_) (x3 : (Int × Int)) (x4 : (Int × Int)) (x5 : (List Y0_)) : Option ((Y3_ × a6O) ⊕ Y9_) :=
 bif decide (x2.2.2 < x2.1) then
  Option.bind (yg x2.2.1) fun x6 =>
   bif decide ((1 : Nat) = (1 : Nat)) then
    bif decide (x5.length = x5.length ∧ x5.length + (1 : Nat) ≤ (5864062014805 : Nat)) then
     bif decide (x5.length + (1 : Nat) = (x5 ++ [x6]).length) then
      some (Sum.inl ((x2.1, (x2.2.1, (IntKind.i64.wrap (x2.2.2 + (1 : Int))))), ((x3.1, x3.2), ((x4.1, x4.2), (x5 ++ [x6])))))
     else none
    else none
   else none
 else bif decide (x5.length = x5.length) then
   some (Sum.inr (x5, (x4.1, x4.2)))
  else none
noncomputable def YA : (Y3_ × a6O) → Option Y9_ := qT fun s => k9 s.1 s.2.1 s.2.2.1 s.2.2.2
noncomputable def KN (x0 : Int) (x1 : Int) : Option Y9_ :=
 Option.bind (YA ((x0, (x1, ((0 : Int)))), ((((0 : Int)), ((0 : Int))), ((((0 : Int)), ((0 : Int))), [])))) fun x2 =>
  some x2
noncomputable def a02 : TEnt := ⟨45, .cons (.int .i64) (.int .i64), [], [(.agg kL, [])], fun s => KN s.1 s.2⟩
theorem a0U : qu Tryz.prog a02 := qh (tab := [Y5]) (loops := [(4682, [0, 1, 4, 5, 6], (.cons (.int .i64) (.cons (.int .i64) aik)), [.st a6V, .st (.cons (.own 2) Y7_), .li (.sl Y2_) 118 false])]) (joins := []) (un := []) _ (by
  intro e he
  simp only [List.mem_cons, List.not_mem_nil, or_false] at he
  rcases he with rfl
  ·exact Jj) (fun s => by kernel_rfl) (by kernel_rfl)
noncomputable def k8 (x8 : (aaE × Int)) (x9 : (Int × Int)) (x10 : Y3_) (x11 : Y9_) (x12 : (List Y0_)) : Option (((aaE × Int) × ((Int × Int) × (Y3_ × (Y9_ × (List Y0_))))) ⊕ (Y9_ ⊕ (Y9_ × jm))) :=
 bif decide (x8.2 < (↑x8.1.length : Int)) then
  bif decide (x8.2 < 30) then
   bif decide (0 ≤ x8.2) then
    Option.bind (x8.1[x8.2.toNat]?) fun x13 =>
     bif decide (x12.length = x12.length) then
      Option.bind (V8 ((x11.1, x11.2.1, x11.2.2), x13.1, x13.2.1, x13.2.2.1, x13.2.2.2.1, x13.2.2.2.2.1.1, x13.2.2.2.2.1.2.1.1, x13.2.2.2.2.1.2.1.2, x13.2.2.2.2.1.2.2.1, x13.2.2.2.2.1.2.2.2.1, x13.2.2.2.2.1.2.2.2.2.1, x13.2.2.2.2.1.2.2.2.2.2, x13.2.2.2.2.2.1, x13.2.2.2.2.2.2.1.1, x13.2.2.2.2.2.2.1.2.1, x13.2.2.2.2.2.2.1.2.2, x13.2.2.2.2.2.2.2) (x10.1, x10.2.1, x10.2.2) x12) fun x14 =>
       match x14 with
       | Sum.inl x15 =>
         bif decide (x15.2.2.length = x15.2.2.length) then
          some (Sum.inl ((x8.1, (IntKind.i64.wrap (x8.2 + (1 : Int)))), ((x9.1, x9.2), ((x15.2.1.1, (x15.2.1.2.1, x15.2.1.2.2)), ((x15.1.1.1, (x15.1.1.2.1, x15.1.1.2.2)), x15.2.2)))))
         else none
       | Sum.inr x15 =>
         match x15 with
         | Sum.inl x16 =>
           bif decide (x16.2.2.2.2.length = x16.2.2.2.2.length) then
            some (Sum.inl ((x8.1, (IntKind.i64.wrap (x8.2 + (1 : Int)))), ((x9.1, x9.2), ((x16.2.2.2.1.1, (x16.2.2.2.1.2.1, x16.2.2.2.1.2.2)), ((x16.1.1.1, (x16.1.1.2.1, x16.1.1.2.2)), x16.2.2.2.2)))))
           else none
         | Sum.inr x16 =>
           some (Sum.inr (Sum.inl ([], (((0 : Int)), ((0 : Int))))))
     else none
   else none
  else bif decide (x12.length = x12.length) then
    some (Sum.inr (Sum.inr ((x11.1, (x11.2.1, x11.2.2)), ((x10.1, (x10.2.1, x10.2.2)), x12))))
   else none
 else bif decide (x12.length = x12.length) then
   some (Sum.inr (Sum.inr ((x11.1, (x11.2.1, x11.2.2)), ((x10.1, (x10.2.1, x10.2.2)), x12))))
  else none
noncomputable def wa : ((aaE × Int) × ((Int × Int) × (Y3_ × (Y9_ × (List Y0_))))) → Option (Y9_ ⊕ (Y9_ × jm)) := qT fun s => k8 s.1 s.2.1 s.2.2.1 s.2.2.2.1 s.2.2.2.2
noncomputable def yf (x0 : Int) (x1 : Int) (x2 : aaE) : Option (Y9_ ⊕ (Y9_ × jm)) :=
 Option.bind (yV x0) fun x3 =>
  Option.bind (yV x1) fun x4 =>
   Option.bind (wp x3 x4) fun x5 =>
    match x5 with
    | Sum.inl x6 =>
      some (Sum.inl ([], (((0 : Int)), ((0 : Int)))))
    | Sum.inr x6 =>
      Option.bind (KN x3 x4) fun x7 =>
       bif decide (x6.2.length = x6.2.length) then
        Option.bind (wa ((x2, ((0 : Int))), ((((0 : Int)), ((0 : Int))), ((x6.1.1, (x6.1.2.1, x6.1.2.2)), ((x7.1, (x7.2.1, x7.2.2)), x6.2))))) fun x8 =>
         some x8
       else none
noncomputable def Uy : TEnt := ⟨8, .cons (.int .i64) (.cons (.int .i64) (.sl aia)), [], [(.tup (.cons (.cst (.pointer none)) (.agg kL)), []), (.tup (.cons (.ptr 0 0) (.agg kL)), [.st Y4_, .li (.sl Y1_) 104 false])], fun s => yf s.1 s.2.1 s.2.2⟩
theorem a0E : qu Tryz.prog Uy := qh (tab := [KR, xP, a4x, a02]) (loops := [(19173962, [2, 7, 8, 10, 11], (.cons (.sl aia) ahR), [.st a6V, .st U3, .st kL, .li (.sl Y1_) 104 false])]) (joins := []) (un := []) _ (by
  intro e he
  simp only [List.mem_cons, List.not_mem_nil, or_false] at he
  rcases he with rfl | rfl | rfl | rfl
  ·exact ZP
  ·exact a0t
  ·exact a5C
  ·exact a0U) (fun s => by kernel_rfl) (by kernel_rfl)
noncomputable def Zn (x0 : Int) (x1 : Int) : Option (Int × Int) :=
 bif x0 == 1 && (x1 == x1 && true) then
  Option.bind (yG x1) fun x2 =>
   bif !x2 then
    some (((0 : Int)), ((0 : Int)))
   else bif decide (x0 = (1 : Int)) then
     some (((0 : Int)), ((1 : Int)))
    else bif decide (x0 = (2 : Int)) then
      some (((0 : Int)), ((-1 : Int)))
     else bif decide (x0 = (3 : Int)) then
       some (((0 : Int)), ((-1 : Int)))
      else bif decide (x0 = (4 : Int)) then
        some (((0 : Int)), ((1 : Int)))
       else bif decide (x0 = (5 : Int)) then
         some (((-1 : Int)), ((0 : Int)))
        else bif decide (x0 = (6 : Int)) then
          some (((1 : Int)), ((0 : Int)))
         else some (((0 : Int)), ((0 : Int)))
 else bif decide (x0 = (1 : Int)) then
   some (((0 : Int)), ((1 : Int)))
  else bif decide (x0 = (2 : Int)) then
    some (((0 : Int)), ((-1 : Int)))
   else bif decide (x0 = (3 : Int)) then
     some (((0 : Int)), ((-1 : Int)))
    else bif decide (x0 = (4 : Int)) then
      some (((0 : Int)), ((1 : Int)))
     else bif decide (x0 = (5 : Int)) then
       some (((-1 : Int)), ((0 : Int)))
      else bif decide (x0 = (6 : Int)) then
        some (((1 : Int)), ((0 : Int)))
       else some (((0 : Int)), ((0 : Int)))
noncomputable def xS : TEnt := ⟨101, .agg a7M, [], [(.tup Y7_, [])], fun s => Zn s.1 s.2⟩
theorem ue : qu Tryz.prog xS := qh (tab := [YB]) (loops := []) (joins := []) (un := []) _ (by
  intro e he
  simp only [List.mem_cons, List.not_mem_nil, or_false] at he
  rcases he with rfl
  ·exact xe) (fun s => by kernel_rfl) (by kernel_rfl)
noncomputable def Qp (x0 : Int) (x1 : Y3_) (x2 : (List Y0_)) : Option (Y6_ × jm) :=
 bif decide (x2.length = x2.length) then
  Option.bind (zx (x1.1, x1.2.1, x1.2.2) x2) fun x3 =>
   bif decide (x3.2.2.length = x3.2.2.length) then
    Option.bind (z4 (x3.2.1.1, x3.2.1.2.1, x3.2.1.2.2) x3.2.2) fun x4 =>
     bif decide (x4.2.2.length = x4.2.2.length) then
      Option.bind (yu (x3.1, x4.1) (x4.2.1.1, x4.2.1.2.1, x4.2.1.2.2) x4.2.2) fun x5 =>
       bif decide (x5.2.2.length = x5.2.2.length) then
        Option.bind (yu (x3.1, IntKind.i64.wrap (x4.1 - (1 : Int))) (x5.2.1.1, x5.2.1.2.1, x5.2.1.2.2) x5.2.2) fun x6 =>
         Option.bind (
          bif x6.1.2 then
           bif decide (x6.2.2.length = x6.2.2.length) then
            some (Sum.inl ((x0, (x3.1, x4.1)), ((x6.2.1.1, (x6.2.1.2.1, x6.2.1.2.2)), (x6.2.2, ((false, (false, (false, (((0 : Int)), (((0 : Int)), (((0 : Int)), (((0 : Int)), (((0 : Int)), (((0 : Int)), (((0 : Int)), (((0 : Int)), (((0 : Int)), (((0 : Int)), (((0 : Int)), (((0 : Int)), (((0 : Int)), (((0 : Int)), (((0 : Int)), (((0 : Int)), (((0 : Int)), ((0 : Int)))))))))))))))))))))), ((x6.1.1.2.2.2.2.1, (x6.1.1.2.2.2.2.2.1, x6.1.1.2.2.2.2.2.2)), (x5.1.1.1, (x5.1.1.2.1, (x5.1.1.2.2.1, (x5.1.1.2.2.2.1, (x5.1.1.2.2.2.2.1, (x5.1.1.2.2.2.2.2.1, x5.1.1.2.2.2.2.2.2))))))))))))
           else none
          else bif decide (x6.2.2.length = x6.2.2.length) then
            some (Sum.inl ((x0, (x3.1, x4.1)), ((x6.2.1.1, (x6.2.1.2.1, x6.2.1.2.2)), (x6.2.2, ((false, (false, (false, (((0 : Int)), (((0 : Int)), (((0 : Int)), (((0 : Int)), (((0 : Int)), (((0 : Int)), (((0 : Int)), (((0 : Int)), (((0 : Int)), (((0 : Int)), (((0 : Int)), (((0 : Int)), (((0 : Int)), (((0 : Int)), (((0 : Int)), (((0 : Int)), (((0 : Int)), ((0 : Int)))))))))))))))))))))), ((((0 : Int)), (((0 : Int)), ((0 : Int)))), (x5.1.1.1, (x5.1.1.2.1, (x5.1.1.2.2.1, (x5.1.1.2.2.2.1, (x5.1.1.2.2.2.2.1, (x5.1.1.2.2.2.2.2.1, x5.1.1.2.2.2.2.2.2))))))))))))
           else none) fun (x7 : ((Y3_ × (Y3_ × ((List Y0_) × (Y6_ × (Y3_ × Jd))))) ⊕ (Y6_ × jm))) =>
          match x7 with
          | Sum.inl x8 =>
            Option.bind (K1 x8.1.1 x8.2.2.2.2.1.1 x8.2.2.2.2.1.2.1 x8.2.2.2.2.1.2.2) fun x9 =>
             bif !x9.2 then
              bif decide (x8.2.2.1.length = x8.2.2.1.length) then
               some ((true, (false, (false, (((0 : Int)), (((0 : Int)), (((0 : Int)), (((0 : Int)), (((0 : Int)), (((0 : Int)), (((0 : Int)), (((0 : Int)), (((0 : Int)), (((0 : Int)), (((0 : Int)), (((0 : Int)), (((0 : Int)), (((0 : Int)), (((0 : Int)), (((0 : Int)), (((0 : Int)), ((0 : Int)))))))))))))))))))))), ((x8.2.1.1, (x8.2.1.2.1, x8.2.1.2.2)), x8.2.2.1))
              else none
             else bif x9.1.2.2.2.1 != 1 then
               bif decide (x8.2.2.1.length = x8.2.2.1.length) then
                some ((true, (false, (false, (((0 : Int)), (((0 : Int)), (((0 : Int)), (((0 : Int)), (((0 : Int)), (((0 : Int)), (((0 : Int)), (((0 : Int)), (((0 : Int)), (((0 : Int)), (((0 : Int)), (((0 : Int)), (((0 : Int)), (((0 : Int)), (((0 : Int)), (((0 : Int)), (((0 : Int)), ((0 : Int)))))))))))))))))))))), ((x8.2.1.1, (x8.2.1.2.1, x8.2.1.2.2)), x8.2.2.1))
               else none
              else bif decide (x8.2.2.1.length = x8.2.2.1.length) then
                Option.bind (kC (x8.2.1.1, x8.2.1.2.1, x8.2.1.2.2) x8.2.2.1) fun x10 =>
                 bif x8.1.2.2 == IntKind.i64.wrap (x10.1 - (1 : Int)) then
                  bif decide (x10.2.2.length = x10.2.2.length) then
                   some ((true, (false, (false, (((0 : Int)), (((0 : Int)), (((0 : Int)), (((0 : Int)), (((0 : Int)), (((0 : Int)), (((0 : Int)), (((0 : Int)), (((0 : Int)), (((0 : Int)), (((0 : Int)), (((0 : Int)), (((0 : Int)), (((0 : Int)), (((0 : Int)), (((0 : Int)), (((0 : Int)), ((0 : Int)))))))))))))))))))))), ((x10.2.1.1, (x10.2.1.2.1, x10.2.1.2.2)), x10.2.2))
                  else none
                 else bif x8.2.2.2.2.2.2.2.2.1 != 1 then
                   bif decide (x10.2.2.length = x10.2.2.length) then
                    some ((true, (false, (false, (((0 : Int)), (((0 : Int)), (((0 : Int)), (((0 : Int)), (((0 : Int)), (((0 : Int)), (((0 : Int)), (((0 : Int)), (((0 : Int)), (((0 : Int)), (((0 : Int)), (((0 : Int)), (((0 : Int)), (((0 : Int)), (((0 : Int)), (((0 : Int)), (((0 : Int)), ((0 : Int)))))))))))))))))))))), ((x10.2.1.1, (x10.2.1.2.1, x10.2.1.2.2)), x10.2.2))
                   else none
                  else bif decide (x10.2.2.length = x10.2.2.length) then
                    some ((false, (false, (true, (x8.1.2.1, (x8.1.2.2, (x9.1.1, (x9.1.2.1, (x9.1.2.2.1, (x9.1.2.2.2.1, (x9.1.2.2.2.2.1, (x9.1.2.2.2.2.2.1, (x9.1.2.2.2.2.2.2, (x8.2.2.2.2.2.1, (x8.2.2.2.2.2.2.1, (x8.2.2.2.2.2.2.2.1, (x8.2.2.2.2.2.2.2.2.1, (x8.2.2.2.2.2.2.2.2.2.1, (x8.2.2.2.2.2.2.2.2.2.2.1, (x8.2.2.2.2.2.2.2.2.2.2.2, (x8.1.2.1, (IntKind.i64.wrap (x8.1.2.2 + (1 : Int))))))))))))))))))))))), ((x10.2.1.1, (x10.2.1.2.1, x10.2.1.2.2)), x10.2.2))
                   else none
               else none
          | Sum.inr x8 =>
            some x8
       else none
     else none
   else none
 else none
noncomputable def KY : TEnt := ⟨103, .cons (.int .i32) (.ptr 0 0), [.st Y4_, .li (.sl Y1_) 104 false], [((.agg Y5_), [.st Y4_, .li (.sl Y1_) 104 false])], fun s => Qp s.1 s.2.1 s.2.2⟩
theorem JA : qu Tryz.prog KY := qh (tab := [a1H, Wt, KK, QU, VN]) (loops := []) (joins := [(299593, [0, 1, 4, 5, 6, 7, 8], (.cons (.int .i32) (.cons (.ptr 0 0) (.cons (.ptr 2 0) (.cons (.ptr 3 0) (.cons (.int .i64) (.cons (.int .i64) (.ptr 4 0))))))), [.st Y4_, .li (.sl Y1_) 104 false, .st Y5_, .st Y8_, .st XC])]) (un := []) _ (by
  intro e he
  simp only [List.mem_cons, List.not_mem_nil, or_false] at he
  rcases he with rfl | rfl | rfl | rfl | rfl
  ·exact a2U
  ·exact Ww
  ·exact ZT
  ·exact yI
  ·exact Vj) (fun s => by kernel_rfl) (by kernel_rfl)
noncomputable def kB (x0 : (Int × Int)) (x1 : Y3_) (x2 : (List Y0_)) : Option (Y6_ × jm) :=
 Option.bind (Zn x0.1 x0.2) fun x3 =>
  bif decide (x2.length = x2.length) then
   Option.bind (jN (x1.1, x1.2.1, x1.2.2) x2) fun x4 =>
    bif decide (x4.2.1.length = x4.2.1.length) then
     Option.bind (zx (x4.1.1, x4.1.2.1, x4.1.2.2) x4.2.1) fun x5 =>
      bif decide (x5.2.2.length = x5.2.2.length) then
       Option.bind (z4 (x5.2.1.1, x5.2.1.2.1, x5.2.1.2.2) x5.2.2) fun x6 =>
        bif decide (x4.2.2.2.length = x4.2.2.2.length) then
         Option.bind (kz (IntKind.i64.wrap (x5.1 + x3.1), IntKind.i64.wrap (x6.1 + x3.2)) (x4.2.2.1.1, x4.2.2.1.2.1, x4.2.2.1.2.2) x4.2.2.2) fun x7 =>
          bif decide (x7.2.length = x7.2.length) then
           Option.bind (zx (x7.1.1, x7.1.2.1, x7.1.2.2) x7.2) fun x8 =>
            bif decide (x8.2.2.length = x8.2.2.length) then
             Option.bind (z4 (x8.2.1.1, x8.2.1.2.1, x8.2.1.2.2) x8.2.2) fun x9 =>
              bif x0.1 == 7 then
               bif decide (x6.2.2.length = x6.2.2.length) then
                some ((false, (true, (false, (((0 : Int)), (((0 : Int)), (((0 : Int)), (((0 : Int)), (((0 : Int)), (((0 : Int)), (((0 : Int)), (((0 : Int)), (((0 : Int)), (((0 : Int)), (((0 : Int)), (((0 : Int)), (((0 : Int)), (((0 : Int)), (((0 : Int)), (((0 : Int)), (x8.1, ((0 : Int)))))))))))))))))))))), ((x6.2.1.1, (x6.2.1.2.1, x6.2.1.2.2)), x6.2.2))
               else none
              else bif x0.1 == 5 then
                bif decide (x6.2.2.length = x6.2.2.length) then
                 some ((false, (true, (false, (((0 : Int)), (((0 : Int)), (((0 : Int)), (((0 : Int)), (((0 : Int)), (((0 : Int)), (((0 : Int)), (((0 : Int)), (((0 : Int)), (((0 : Int)), (((0 : Int)), (((0 : Int)), (((0 : Int)), (((0 : Int)), (((0 : Int)), (((0 : Int)), (x8.1, x9.1)))))))))))))))))))), ((x6.2.1.1, (x6.2.1.2.1, x6.2.1.2.2)), x6.2.2))
                else none
               else bif x0.1 == 6 then
                 bif decide (x6.2.2.length = x6.2.2.length) then
                  some ((false, (true, (false, (((0 : Int)), (((0 : Int)), (((0 : Int)), (((0 : Int)), (((0 : Int)), (((0 : Int)), (((0 : Int)), (((0 : Int)), (((0 : Int)), (((0 : Int)), (((0 : Int)), (((0 : Int)), (((0 : Int)), (((0 : Int)), (((0 : Int)), (((0 : Int)), (x8.1, x9.1)))))))))))))))))))), ((x6.2.1.1, (x6.2.1.2.1, x6.2.1.2.2)), x6.2.2))
                 else none
                else bif decide (x6.2.2.length = x6.2.2.length) then
                  some ((false, (false, (false, (((0 : Int)), (((0 : Int)), (((0 : Int)), (((0 : Int)), (((0 : Int)), (((0 : Int)), (((0 : Int)), (((0 : Int)), (((0 : Int)), (((0 : Int)), (((0 : Int)), (((0 : Int)), (((0 : Int)), (((0 : Int)), (((0 : Int)), (((0 : Int)), (x8.1, x9.1)))))))))))))))))))), ((x6.2.1.1, (x6.2.1.2.1, x6.2.1.2.2)), x6.2.2))
                 else none
            else none
          else none
        else none
      else none
    else none
  else none
noncomputable def WH : TEnt := ⟨100, .cons (.agg a7M) (.ptr 0 0), [.st Y4_, .li (.sl Y1_) 104 false], [((.agg Y5_), [.st Y4_, .li (.sl Y1_) 104 false])], fun s => kB s.1 s.2.1 s.2.2⟩
theorem JL : qu Tryz.prog WH := qh (tab := [KK, QU, wB, jw, xS]) (loops := []) (joins := []) (un := []) _ (by
  intro e he
  simp only [List.mem_cons, List.not_mem_nil, or_false] at he
  rcases he with rfl | rfl | rfl | rfl | rfl
  ·exact ZT
  ·exact yI
  ·exact jD
  ·exact kW
  ·exact ue) (fun s => by kernel_rfl) (by kernel_rfl)
noncomputable def jL (x0 : (Int × Int)) (x1 : Y3_) (x2 : (List Y0_)) : Option (Y6_ × jm) :=
 bif decide (x0.1 = x0.1) then
  bif decide (x0.1 = (1 : Int)) then
   bif decide (x2.length = x2.length) then
    Option.bind (Qp x0.2 (x1.1, x1.2.1, x1.2.2) x2) fun x3 =>
     bif decide (x3.2.2.length = x3.2.2.length) then
      some ((x3.1.1, (x3.1.2.1, (x3.1.2.2.1, (x3.1.2.2.2.1, (x3.1.2.2.2.2.1, (x3.1.2.2.2.2.2.1, (x3.1.2.2.2.2.2.2.1, (x3.1.2.2.2.2.2.2.2.1, (x3.1.2.2.2.2.2.2.2.2.1, (x3.1.2.2.2.2.2.2.2.2.2.1, (x3.1.2.2.2.2.2.2.2.2.2.2.1, (x3.1.2.2.2.2.2.2.2.2.2.2.2.1, (x3.1.2.2.2.2.2.2.2.2.2.2.2.2.1, (x3.1.2.2.2.2.2.2.2.2.2.2.2.2.2.1, (x3.1.2.2.2.2.2.2.2.2.2.2.2.2.2.2.1, (x3.1.2.2.2.2.2.2.2.2.2.2.2.2.2.2.2.1, (x3.1.2.2.2.2.2.2.2.2.2.2.2.2.2.2.2.2.1, (x3.1.2.2.2.2.2.2.2.2.2.2.2.2.2.2.2.2.2.1, (x3.1.2.2.2.2.2.2.2.2.2.2.2.2.2.2.2.2.2.2.1, (x3.1.2.2.2.2.2.2.2.2.2.2.2.2.2.2.2.2.2.2.2.1, x3.1.2.2.2.2.2.2.2.2.2.2.2.2.2.2.2.2.2.2.2.2)))))))))))))))))))), ((x3.2.1.1, (x3.2.1.2.1, x3.2.1.2.2)), x3.2.2))
     else none
   else none
  else bif decide (x0.1 = (2 : Int)) then
    bif decide (x2.length = x2.length) then
     Option.bind (kB (x0.1, x0.2) (x1.1, x1.2.1, x1.2.2) x2) fun x3 =>
      bif decide (x3.2.2.length = x3.2.2.length) then
       some ((x3.1.1, (x3.1.2.1, (x3.1.2.2.1, (x3.1.2.2.2.1, (x3.1.2.2.2.2.1, (x3.1.2.2.2.2.2.1, (x3.1.2.2.2.2.2.2.1, (x3.1.2.2.2.2.2.2.2.1, (x3.1.2.2.2.2.2.2.2.2.1, (x3.1.2.2.2.2.2.2.2.2.2.1, (x3.1.2.2.2.2.2.2.2.2.2.2.1, (x3.1.2.2.2.2.2.2.2.2.2.2.2.1, (x3.1.2.2.2.2.2.2.2.2.2.2.2.2.1, (x3.1.2.2.2.2.2.2.2.2.2.2.2.2.2.1, (x3.1.2.2.2.2.2.2.2.2.2.2.2.2.2.2.1, (x3.1.2.2.2.2.2.2.2.2.2.2.2.2.2.2.2.1, (x3.1.2.2.2.2.2.2.2.2.2.2.2.2.2.2.2.2.1, (x3.1.2.2.2.2.2.2.2.2.2.2.2.2.2.2.2.2.2.1, (x3.1.2.2.2.2.2.2.2.2.2.2.2.2.2.2.2.2.2.2.1, (x3.1.2.2.2.2.2.2.2.2.2.2.2.2.2.2.2.2.2.2.2.1, x3.1.2.2.2.2.2.2.2.2.2.2.2.2.2.2.2.2.2.2.2.2)))))))))))))))))))), ((x3.2.1.1, (x3.2.1.2.1, x3.2.1.2.2)), x3.2.2))
      else none
    else none
   else bif decide (x0.1 = (3 : Int)) then
     bif decide (x2.length = x2.length) then
      Option.bind (kB (x0.1, x0.2) (x1.1, x1.2.1, x1.2.2) x2) fun x3 =>
       bif decide (x3.2.2.length = x3.2.2.length) then
        some ((x3.1.1, (x3.1.2.1, (x3.1.2.2.1, (x3.1.2.2.2.1, (x3.1.2.2.2.2.1, (x3.1.2.2.2.2.2.1, (x3.1.2.2.2.2.2.2.1, (x3.1.2.2.2.2.2.2.2.1, (x3.1.2.2.2.2.2.2.2.2.1, (x3.1.2.2.2.2.2.2.2.2.2.1, (x3.1.2.2.2.2.2.2.2.2.2.2.1, (x3.1.2.2.2.2.2.2.2.2.2.2.2.1, (x3.1.2.2.2.2.2.2.2.2.2.2.2.2.1, (x3.1.2.2.2.2.2.2.2.2.2.2.2.2.2.1, (x3.1.2.2.2.2.2.2.2.2.2.2.2.2.2.2.1, (x3.1.2.2.2.2.2.2.2.2.2.2.2.2.2.2.2.1, (x3.1.2.2.2.2.2.2.2.2.2.2.2.2.2.2.2.2.1, (x3.1.2.2.2.2.2.2.2.2.2.2.2.2.2.2.2.2.2.1, (x3.1.2.2.2.2.2.2.2.2.2.2.2.2.2.2.2.2.2.2.1, (x3.1.2.2.2.2.2.2.2.2.2.2.2.2.2.2.2.2.2.2.2.1, x3.1.2.2.2.2.2.2.2.2.2.2.2.2.2.2.2.2.2.2.2.2)))))))))))))))))))), ((x3.2.1.1, (x3.2.1.2.1, x3.2.1.2.2)), x3.2.2))
       else none
     else none
    else bif decide (x0.1 = (4 : Int)) then
      bif decide (x2.length = x2.length) then
       Option.bind (kB (x0.1, x0.2) (x1.1, x1.2.1, x1.2.2) x2) fun x3 =>
        bif decide (x3.2.2.length = x3.2.2.length) then
         some ((x3.1.1, (x3.1.2.1, (x3.1.2.2.1, (x3.1.2.2.2.1, (x3.1.2.2.2.2.1, (x3.1.2.2.2.2.2.1, (x3.1.2.2.2.2.2.2.1, (x3.1.2.2.2.2.2.2.2.1, (x3.1.2.2.2.2.2.2.2.2.1, (x3.1.2.2.2.2.2.2.2.2.2.1, (x3.1.2.2.2.2.2.2.2.2.2.2.1, (x3.1.2.2.2.2.2.2.2.2.2.2.2.1, (x3.1.2.2.2.2.2.2.2.2.2.2.2.2.1, (x3.1.2.2.2.2.2.2.2.2.2.2.2.2.2.1, (x3.1.2.2.2.2.2.2.2.2.2.2.2.2.2.2.1, (x3.1.2.2.2.2.2.2.2.2.2.2.2.2.2.2.2.1, (x3.1.2.2.2.2.2.2.2.2.2.2.2.2.2.2.2.2.1, (x3.1.2.2.2.2.2.2.2.2.2.2.2.2.2.2.2.2.2.1, (x3.1.2.2.2.2.2.2.2.2.2.2.2.2.2.2.2.2.2.2.1, (x3.1.2.2.2.2.2.2.2.2.2.2.2.2.2.2.2.2.2.2.2.1, x3.1.2.2.2.2.2.2.2.2.2.2.2.2.2.2.2.2.2.2.2.2)))))))))))))))))))), ((x3.2.1.1, (x3.2.1.2.1, x3.2.1.2.2)), x3.2.2))
        else none
      else none
     else bif decide (x0.1 = (5 : Int)) then
       bif decide (x2.length = x2.length) then
        Option.bind (kB (x0.1, x0.2) (x1.1, x1.2.1, x1.2.2) x2) fun x3 =>
         bif decide (x3.2.2.length = x3.2.2.length) then
          some ((x3.1.1, (x3.1.2.1, (x3.1.2.2.1, (x3.1.2.2.2.1, (x3.1.2.2.2.2.1, (x3.1.2.2.2.2.2.1, (x3.1.2.2.2.2.2.2.1, (x3.1.2.2.2.2.2.2.2.1, (x3.1.2.2.2.2.2.2.2.2.1, (x3.1.2.2.2.2.2.2.2.2.2.1, (x3.1.2.2.2.2.2.2.2.2.2.2.1, (x3.1.2.2.2.2.2.2.2.2.2.2.2.1, (x3.1.2.2.2.2.2.2.2.2.2.2.2.2.1, (x3.1.2.2.2.2.2.2.2.2.2.2.2.2.2.1, (x3.1.2.2.2.2.2.2.2.2.2.2.2.2.2.2.1, (x3.1.2.2.2.2.2.2.2.2.2.2.2.2.2.2.2.1, (x3.1.2.2.2.2.2.2.2.2.2.2.2.2.2.2.2.2.1, (x3.1.2.2.2.2.2.2.2.2.2.2.2.2.2.2.2.2.2.1, (x3.1.2.2.2.2.2.2.2.2.2.2.2.2.2.2.2.2.2.2.1, (x3.1.2.2.2.2.2.2.2.2.2.2.2.2.2.2.2.2.2.2.2.1, x3.1.2.2.2.2.2.2.2.2.2.2.2.2.2.2.2.2.2.2.2.2)))))))))))))))))))), ((x3.2.1.1, (x3.2.1.2.1, x3.2.1.2.2)), x3.2.2))
         else none
       else none
      else bif decide (x0.1 = (6 : Int)) then
        bif decide (x2.length = x2.length) then
         Option.bind (kB (x0.1, x0.2) (x1.1, x1.2.1, x1.2.2) x2) fun x3 =>
          bif decide (x3.2.2.length = x3.2.2.length) then
           some ((x3.1.1, (x3.1.2.1, (x3.1.2.2.1, (x3.1.2.2.2.1, (x3.1.2.2.2.2.1, (x3.1.2.2.2.2.2.1, (x3.1.2.2.2.2.2.2.1, (x3.1.2.2.2.2.2.2.2.1, (x3.1.2.2.2.2.2.2.2.2.1, (x3.1.2.2.2.2.2.2.2.2.2.1, (x3.1.2.2.2.2.2.2.2.2.2.2.1, (x3.1.2.2.2.2.2.2.2.2.2.2.2.1, (x3.1.2.2.2.2.2.2.2.2.2.2.2.2.1, (x3.1.2.2.2.2.2.2.2.2.2.2.2.2.2.1, (x3.1.2.2.2.2.2.2.2.2.2.2.2.2.2.2.1, (x3.1.2.2.2.2.2.2.2.2.2.2.2.2.2.2.2.1, (x3.1.2.2.2.2.2.2.2.2.2.2.2.2.2.2.2.2.1, (x3.1.2.2.2.2.2.2.2.2.2.2.2.2.2.2.2.2.2.1, (x3.1.2.2.2.2.2.2.2.2.2.2.2.2.2.2.2.2.2.2.1, (x3.1.2.2.2.2.2.2.2.2.2.2.2.2.2.2.2.2.2.2.2.1, x3.1.2.2.2.2.2.2.2.2.2.2.2.2.2.2.2.2.2.2.2.2)))))))))))))))))))), ((x3.2.1.1, (x3.2.1.2.1, x3.2.1.2.2)), x3.2.2))
          else none
        else none
       else bif decide (x0.1 = (7 : Int)) then
         bif decide (x2.length = x2.length) then
          Option.bind (kB (x0.1, x0.2) (x1.1, x1.2.1, x1.2.2) x2) fun x3 =>
           bif decide (x3.2.2.length = x3.2.2.length) then
            some ((x3.1.1, (x3.1.2.1, (x3.1.2.2.1, (x3.1.2.2.2.1, (x3.1.2.2.2.2.1, (x3.1.2.2.2.2.2.1, (x3.1.2.2.2.2.2.2.1, (x3.1.2.2.2.2.2.2.2.1, (x3.1.2.2.2.2.2.2.2.2.1, (x3.1.2.2.2.2.2.2.2.2.2.1, (x3.1.2.2.2.2.2.2.2.2.2.2.1, (x3.1.2.2.2.2.2.2.2.2.2.2.2.1, (x3.1.2.2.2.2.2.2.2.2.2.2.2.2.1, (x3.1.2.2.2.2.2.2.2.2.2.2.2.2.2.1, (x3.1.2.2.2.2.2.2.2.2.2.2.2.2.2.2.1, (x3.1.2.2.2.2.2.2.2.2.2.2.2.2.2.2.2.1, (x3.1.2.2.2.2.2.2.2.2.2.2.2.2.2.2.2.2.1, (x3.1.2.2.2.2.2.2.2.2.2.2.2.2.2.2.2.2.2.1, (x3.1.2.2.2.2.2.2.2.2.2.2.2.2.2.2.2.2.2.2.1, (x3.1.2.2.2.2.2.2.2.2.2.2.2.2.2.2.2.2.2.2.2.1, x3.1.2.2.2.2.2.2.2.2.2.2.2.2.2.2.2.2.2.2.2.2)))))))))))))))))))), ((x3.2.1.1, (x3.2.1.2.1, x3.2.1.2.2)), x3.2.2))
           else none
         else none
        else bif decide (x2.length = x2.length) then
          some ((true, (false, (false, (((0 : Int)), (((0 : Int)), (((0 : Int)), (((0 : Int)), (((0 : Int)), (((0 : Int)), (((0 : Int)), (((0 : Int)), (((0 : Int)), (((0 : Int)), (((0 : Int)), (((0 : Int)), (((0 : Int)), (((0 : Int)), (((0 : Int)), (((0 : Int)), (((0 : Int)), ((0 : Int)))))))))))))))))))))), ((x1.1, (x1.2.1, x1.2.2)), x2))
         else none
 else none
noncomputable def Zh : TEnt := ⟨11, .cons (.agg a7M) (.ptr 0 0), [.st Y4_, .li (.sl Y1_) 104 false], [((.agg Y5_), [.st Y4_, .li (.sl Y1_) 104 false])], fun s => jL s.1 s.2.1 s.2.2⟩
theorem QZ : qu Tryz.prog Zh := qh (tab := [KY, WH]) (loops := []) (joins := []) (un := []) _ (by
  intro e he
  simp only [List.mem_cons, List.not_mem_nil, or_false] at he
  rcases he with rfl | rfl
  ·exact JA
  ·exact JL) (fun s => by kernel_rfl) (by kernel_rfl)
noncomputable def zI (x0 : Y6_) (x1 : Y3_) (x2 : (List Y0_)) : Option Kh :=
 bif decide (x2.length = x2.length) then
  Option.bind (jN (x1.1, x1.2.1, x1.2.2) x2) fun x3 =>
   bif x0.1 then
    bif decide (x3.2.2.2.length = x3.2.2.2.length) then
     bif decide (x3.2.1.length = x3.2.1.length) then
      some ((x3.1.1, (x3.1.2.1, x3.1.2.2)), (x3.2.1, ((x3.2.2.1.1, (x3.2.2.1.2.1, x3.2.2.1.2.2)), x3.2.2.2)))
     else none
    else none
   else bif x0.2.2.1 then
     bif decide (x3.2.2.2.length = x3.2.2.2.length) then
      Option.bind (QJ (x0.2.2.2.1, x0.2.2.2.2.1, x0.2.2.2.2.2.1, x0.2.2.2.2.2.2.1, x0.2.2.2.2.2.2.2.1, x0.2.2.2.2.2.2.2.2.1, x0.2.2.2.2.2.2.2.2.2.1, x0.2.2.2.2.2.2.2.2.2.2.1, x0.2.2.2.2.2.2.2.2.2.2.2.1) (x3.2.2.1.1, x3.2.2.1.2.1, x3.2.2.1.2.2) x3.2.2.2) fun x4 =>
       bif decide (x4.2.2.length = x4.2.2.length) then
        Option.bind (kz (x0.2.2.2.2.2.2.2.2.2.2.2.2.2.2.2.2.2.2.2.1, x0.2.2.2.2.2.2.2.2.2.2.2.2.2.2.2.2.2.2.2.2) (x4.2.1.1, x4.2.1.2.1, x4.2.1.2.2) x4.2.2) fun x5 =>
         bif decide (x5.2.length = x5.2.length) then
          bif decide (x3.2.1.length = x3.2.1.length) then
           some ((x3.1.1, (x3.1.2.1, x3.1.2.2)), (x3.2.1, ((x5.1.1, (x5.1.2.1, x5.1.2.2)), x5.2)))
          else none
         else none
       else none
     else none
    else bif decide (x3.2.2.2.length = x3.2.2.2.length) then
      Option.bind (kz (x0.2.2.2.2.2.2.2.2.2.2.2.2.2.2.2.2.2.2.2.1, x0.2.2.2.2.2.2.2.2.2.2.2.2.2.2.2.2.2.2.2.2) (x3.2.2.1.1, x3.2.2.1.2.1, x3.2.2.1.2.2) x3.2.2.2) fun x4 =>
       bif decide (x4.2.length = x4.2.length) then
        bif decide (x3.2.1.length = x3.2.1.length) then
         some ((x3.1.1, (x3.1.2.1, x3.1.2.2)), (x3.2.1, ((x4.1.1, (x4.1.2.1, x4.1.2.2)), x4.2)))
        else none
       else none
     else none
 else none
noncomputable def WM : TEnt := ⟨12, .cons (.agg Y5_) (.ptr 0 0), [.st Y4_, .li (.sl Y1_) 104 false], [(.ptr 2 0, [.st Y4_, .li (.sl Y1_) 104 false, .st U3, .li (.sl Y1_) 104 false])], fun s => zI s.1 s.2.1 s.2.2⟩
theorem KV : qu Tryz.prog WM := qh (tab := [J4, wB, jw]) (loops := []) (joins := []) (un := []) _ (by
  intro e he
  simp only [List.mem_cons, List.not_mem_nil, or_false] at he
  rcases he with rfl | rfl | rfl
  ·exact ZH
  ·exact jD
  ·exact kW) (fun s => by kernel_rfl) (by kernel_rfl)
noncomputable def j6 (x4 : acU) (x5 : Y3_) (x6 : (List Y0_)) (x7 : Y3_) (x8 : (List Y0_)) : Option ((acU × Kh) ⊕ (Int × Kh)) :=
 bif decide (x4.2.2.2 < x4.2.2.1) then
  bif decide (0 ≤ x4.2.2.2) then
   Option.bind (x4.2.1[x4.2.2.2.toNat]?) fun x9 =>
    bif decide (x8.length = x8.length) then
     Option.bind (jL (x9.1, x9.2) (x7.1, x7.2.1, x7.2.2) x8) fun x10 =>
      bif x10.1.1 then
       bif decide (x10.2.2.length = x10.2.2.length) then
        bif decide (List.length x6 = List.length x6) then
         some (Sum.inr (x4.1, ((x5.1, (x5.2.1, x5.2.2)), (x6, ((x10.2.1.1, (x10.2.1.2.1, x10.2.1.2.2)), x10.2.2)))))
        else none
       else none
      else bif decide (x10.2.2.length = x10.2.2.length) then
        Option.bind (zI (x10.1.1, x10.1.2.1, x10.1.2.2.1, x10.1.2.2.2.1, x10.1.2.2.2.2.1, x10.1.2.2.2.2.2.1, x10.1.2.2.2.2.2.2.1, x10.1.2.2.2.2.2.2.2.1, x10.1.2.2.2.2.2.2.2.2.1, x10.1.2.2.2.2.2.2.2.2.2.1, x10.1.2.2.2.2.2.2.2.2.2.2.1, x10.1.2.2.2.2.2.2.2.2.2.2.2.1, x10.1.2.2.2.2.2.2.2.2.2.2.2.2.1, x10.1.2.2.2.2.2.2.2.2.2.2.2.2.2.1, x10.1.2.2.2.2.2.2.2.2.2.2.2.2.2.2.1, x10.1.2.2.2.2.2.2.2.2.2.2.2.2.2.2.2.1, x10.1.2.2.2.2.2.2.2.2.2.2.2.2.2.2.2.2.1, x10.1.2.2.2.2.2.2.2.2.2.2.2.2.2.2.2.2.2.1, x10.1.2.2.2.2.2.2.2.2.2.2.2.2.2.2.2.2.2.2.1, x10.1.2.2.2.2.2.2.2.2.2.2.2.2.2.2.2.2.2.2.2.1, x10.1.2.2.2.2.2.2.2.2.2.2.2.2.2.2.2.2.2.2.2.2) (x10.2.1.1, x10.2.1.2.1, x10.2.1.2.2) x10.2.2) fun x11 =>
         bif decide (x11.2.2.2.length = x11.2.2.2.length) then
          bif decide (List.length x6 = List.length x6) then
           some (Sum.inl (((IntKind.i64.wrap (x4.1 + (1 : Int))), (x4.2.1, (x4.2.2.1, (IntKind.i64.wrap (x4.2.2.2 + (1 : Int)))))), ((x5.1, (x5.2.1, x5.2.2)), (x6, ((x11.2.2.1.1, (x11.2.2.1.2.1, x11.2.2.1.2.2)), x11.2.2.2)))))
          else none
         else none
       else none
    else none
  else none
 else bif decide (x8.length = x8.length) then
   bif decide (List.length x6 = List.length x6) then
    some (Sum.inr (x4.1, ((x5.1, (x5.2.1, x5.2.2)), (x6, ((x7.1, (x7.2.1, x7.2.2)), x8)))))
   else none
  else none
noncomputable def w8 : (acU × Kh) → Option (Int × Kh) := qT fun s => j6 s.1 s.2.1 s.2.2.1 s.2.2.2.1 s.2.2.2.2
noncomputable def jC (x0 : a2N) (x1 : Y3_) (x2 : (List Y0_)) : Option (Int × Kh) :=
 bif decide (x2.length = x2.length) then
  Option.bind (jN (x1.1, x1.2.1, x1.2.2) x2) fun x3 =>
   bif decide (x3.2.2.2.length = x3.2.2.2.length) then
    bif decide (x3.2.1.length = x3.2.1.length) then
     Option.bind (w8 ((((0 : Int)), (x0, (((↑(List.length x0) : Int)), ((0 : Int))))), ((x3.1.1, (x3.1.2.1, x3.1.2.2)), (x3.2.1, ((x3.2.2.1.1, (x3.2.2.1.2.1, x3.2.2.1.2.2)), x3.2.2.2))))) fun x4 =>
      some x4
    else none
   else none
 else none
noncomputable def v7 : TEnt := ⟨9, .cons (.ptr 0 0) (.sl a5e), [.st Y4_, .li (.sl Y1_) 104 false], [(.tup (.cons (.ptr 2 0) (.int .i64)), [.st Y4_, .li (.sl Y1_) 104 false, .st U3, .li (.sl Y1_) 104 false])], fun s => jC s.1 s.2.1 s.2.2⟩
theorem Yx : qu Tryz.prog v7 := qh (tab := [jw, Zh, WM]) (loops := [(303690, [6, 7, 13, 14, 15], (.cons (.ptr 2 0) (.cons (.int .i64) (.cons (.sl a5e) Y7_))), [.st Y4_, .li (.sl Y1_) 104 false, .st U3, .li (.sl Y1_) 104 false])]) (joins := []) (un := []) _ (by
  intro e he
  simp only [List.mem_cons, List.not_mem_nil, or_false] at he
  rcases he with rfl | rfl | rfl
  ·exact kW
  ·exact QZ
  ·exact KV) (fun s => by kernel_rfl) (by kernel_rfl)
noncomputable def zS : Option Bool :=
 Option.bind (wp (1 : Int) (3 : Int)) fun x1 =>
  match x1 with
  | Sum.inl x2 =>
    some false
  | Sum.inr x2 =>
    bif decide (x2.2.length = x2.2.length) then
     Option.bind (jC [((1 : Int), (97 : Int)), ((1 : Int), (98 : Int)), ((1 : Int), (99 : Int))] (x2.1.1, x2.1.2.1, x2.1.2.2) x2.2) fun x3 =>
      bif decide (x3.2.2.1.length = x3.2.2.1.length) then
       Option.bind (jC [((1 : Int), (97 : Int)), ((1 : Int), (98 : Int)), ((3 : Int), (0 : Int))] (x3.2.1.1, x3.2.1.2.1, x3.2.1.2.2) x3.2.2.1) fun x4 =>
        bif decide (x3.2.2.2.2.length = x3.2.2.2.2.length) then
         Option.bind (yu ((0 : Int), (1 : Int)) (x3.2.2.2.1.1, x3.2.2.2.1.2.1, x3.2.2.2.1.2.2) x3.2.2.2.2) fun x5 =>
          bif x3.1 == 2 then
           bif decide (x5.2.2.length = x5.2.2.length) then
            Option.bind (z4 (x5.2.1.1, x5.2.1.2.1, x5.2.1.2.2) x5.2.2) fun x6 =>
             bif x6.1 == 2 then
              bif x5.1.1.1 == 98 then
               bif x4.1 == 3 then
                bif decide (x4.2.2.2.2.length = x4.2.2.2.2.length) then
                 Option.bind (z4 (x4.2.2.2.1.1, x4.2.2.2.1.2.1, x4.2.2.2.1.2.2) x4.2.2.2.2) fun x7 =>
                  some (x7.1 == 1)
                else none
               else some false
              else some false
             else some false
           else none
          else some false
        else none
      else none
    else none
noncomputable def Xg : TEnt := ⟨10, .nil, [], [(.bool, [])], fun s => zS⟩
theorem a0i : qu Tryz.prog Xg := qh (tab := [KR, QU, VN, v7]) (loops := []) (joins := []) (un := []) _ (by
  intro e he
  simp only [List.mem_cons, List.not_mem_nil, or_false] at he
  rcases he with rfl | rfl | rfl | rfl
  ·exact ZP
  ·exact yI
  ·exact Vj
  ·exact Yx) (fun s => by kernel_rfl) (by kernel_rfl)
end Go.Sim
set_option maxRecDepth 100000
set_option maxHeartbeats 4000000
namespace Go.Sim
abbrev abA : Type := Int × (Int × (Int × (Int × (qc × (Int × (Y3_ × List qc))))))
structure OkA (a : abA) : Prop where
 R : va a.2.1
 C : va a.2.2.1
 X : OkC a.2.2.2.2.1
 M : zU a.2.2.2.2.2.1
 p1 : u8r a.2.2.2.2.2.2.1.1
 p2 : u8r a.2.2.2.2.2.2.1.2.1
 p3 : u8r a.2.2.2.2.2.2.1.2.2
 l : ∀ c ∈ a.2.2.2.2.2.2.2, OkC c
theorem aej {n : Nat} (hn : n ≤ 1000000) (c : Int) : KN (n : Int) c = some (List.replicate n (kq c), ((0, 0) : Int × Int)) := by
 unfold KN
 have : YA (((n : Int), c, (0 : Int)), ((0 : Int), (0 : Int)), ((0 : Int), (0 : Int)), []) = some (List.replicate n (kq c), ((0, 0) : Int × Int)) := by
  refine zk (st := fun i => (((n : Int), c, ((i : Nat) : Int)), ((0 : Int), (0 : Int)), ((0 : Int), (0 : Int)), List.replicate i (kq c))) (n := n) (fun i hi => ?_) ?_ 0 (by omega)
  ·show k9 _ _ _ _ = _
   unfold k9
   have e : ((i : Int) + 1) = ((i + 1 : Nat) : Int) := by omega
   have hnl := Ut c
   have e2 : List.replicate i (kq c) ++ [kq c] = List.replicate (i + 1) (kq c) := K9 i _
   simp (disch := omega) only [qe, q9, cond_true, Option.bind_some, List.length_append, List.length_cons, List.length_nil, decide_true, true_and, hnl, List.length_replicate, e2, e]
  ·show k9 _ _ _ _ = _
   unfold k9
   simp (disch := omega) only [qk, q9, cond_true, cond_false, List.length_append, List.length_cons, List.length_nil, decide_true, true_and]
 rw [this]
 rfl
theorem a2I (a : List abA × Int) (b : Int × Int) (c : Int × (Int × Int)) (d : qg × (Int × Int)) (e : qg) : wa (a, b, c, d, e) = unr (k8 a b c d e) wa := jW _ _
theorem abn {acs : List abA} (ha : ∀ a ∈ acs, OkA a) (b : Int × Int) : ∀ (k i : Nat) (L : qg) (cols row col : Nat), k = acs.length - i → i ≤ acs.length → i ≤ 30 → GOk L cols → row < L.length → col < cols →
  ∃ (L' : qg) (cols' row' col' : Nat), GOk L' cols' ∧ row' < L'.length ∧ col' < cols' ∧
   wa ((acs, (i : Int)), b, ((row : Int), (col : Int), (cols : Int)), (L, (row : Int), (col : Int)), L) = some (.inr ((L', (row' : Int), (col' : Int)), ((row' : Int), (col' : Int), (cols' : Int)), L')) := by
 intro k
 induction k with
 | zero =>
  intro i L cols row col hk hi h30 hG hr hc
  refine ⟨L, cols, row, col, hG, hr, hc, ?_⟩
  rw [a2I]
  unfold k8
  simp (disch := omega) only [qe, qk, q9, cond_true, cond_false, Int.toNat_natCast, decide_true, zC]
 | succ k ih =>
  intro i L cols row col hk hi h30 hG hr hc
  by_cases h3 : i = 30
  ·refine ⟨L, cols, row, col, hG, hr, hc, ?_⟩
   rw [a2I]
   unfold k8
   simp (disch := omega) only [qe, qk, q9, cond_true, cond_false, Int.toNat_natCast, decide_true, zC]
  ·obtain ⟨a, hx⟩ := qm (l := acs) (i := i) (by omega)
   have hA := ha a (List.mem_of_getElem? hx)
   have e : ((i : Int) + 1) = ((i + 1 : Nat) : Int) := by omega
   obtain ⟨L1, cols1, row1, col1, g1, g2, g3, g4⟩ := did hG hr hc (kind := a.1) (R := a.2.1) (C := a.2.2.1) (T := a.2.2.2.1) (M := a.2.2.2.2.2.1) (p1 := a.2.2.2.2.2.2.1.1) (p2 := a.2.2.2.2.2.2.1.2.1) (p3 := a.2.2.2.2.2.2.1.2.2) (X := a.2.2.2.2.1) (al := a.2.2.2.2.2.2.2) hA.X hA.R hA.C hA.M hA.p1 hA.p2 hA.p3 hA.l
   obtain ⟨L', cols', row', col', q1, q2, q3, q4⟩ := ih (i + 1) L1 cols1 row1 col1 (by omega) (by omega) (by omega) g1 g2 g3
   refine ⟨L', cols', row', col', q1, q2, q3, ?_⟩
   rw [a2I, ← q4]
   unfold k8
   rcases g4 with g4 | g4
   ·simp (disch := omega) only [qe, q9, cond_true, Option.bind_some, Int.toNat_natCast, decide_true, z6, hx, g4, e]
   ·simp (disch := omega) only [qe, q9, cond_true, Option.bind_some, Int.toNat_natCast, decide_true, z6, hx, g4, e]
theorem ajC {rows cols : Int} {acs : List abA} (ha : ∀ a ∈ acs, OkA a) : yf rows cols acs = some (.inl ([], ((0, 0) : Int × Int))) ∨
  ∃ (L' : qg) (cols' row' col' : Nat), GOk L' cols' ∧ row' < L'.length ∧ col' < cols' ∧
   yf rows cols acs = some (.inr ((L', (row' : Int), (col' : Int)), ((row' : Int), (col' : Int), (cols' : Int)), L')) := by
 obtain ⟨r', _, s1, s2⟩ := a4k rows
 obtain ⟨c', _, t1, t2⟩ := a4k cols
 unfold yf
 simp only [s1, t1, Option.bind_some, Y4]
 by_cases hs : qD r' = true ∧ qD c' = true
 ·obtain ⟨u1, u2⟩ := s2 hs.1
  obtain ⟨u3, u4⟩ := t2 hs.2
  obtain ⟨nr, rfl⟩ : ∃ n : Nat, r' = n := ⟨r'.toNat, by omega⟩
  obtain ⟨nc, rfl⟩ : ∃ n : Nat, c' = n := ⟨c'.toNat, by omega⟩
  obtain ⟨L', cols', row', col', q1, q2, q3, q4⟩ := abn ha (0, 0) acs.length 0 (List.replicate nr (kq (nc : Int))) nc 0 0 (by omega) (by omega) (by omega) (GOk.new hs.1 hs.2) (by rw [List.length_replicate]; omega) (by omega)
  refine .inr ⟨L', cols', row', col', q1, q2, q3, ?_⟩
  rw [if_pos hs]
  simp only [Int.toNat_natCast]
  have hN := aej (n := nr) (by omega) (nc : Int)
  have q5 : wa ((acs, (0 : Int)), ((0 : Int), (0 : Int)), ((0 : Int), (0 : Int), (nc : Int)), (List.replicate nr (kq (nc : Int)), (0 : Int), (0 : Int)), List.replicate nr (kq (nc : Int))) = some (.inr ((L', (row' : Int), (col' : Int)), ((row' : Int), (col' : Int), (cols' : Int)), L')) := q4
  simp (disch := omega) only [cond_true, Option.bind_some, decide_true, hN, q5]
 ·rw [if_neg hs]
  exact .inl rfl
end Go.Sim
set_option maxRecDepth 100000
set_option maxHeartbeats 4000000
namespace Go.Sim
def kH (k r : Int) : Int × Int :=
 if k = 1 then (if jz r = 1 then (0, 1) else (0, 0)) else if k = 2 then (0, -1) else if k = 3 then (0, -1) else if k = 4 then (0, 1) else if k = 5 then (-1, 0) else if k = 6 then (1, 0) else (0, 0)
theorem KZ (k r : Int) : Zn k r = some (kH k r) := by
 unfold Zn kH
 rw [a8x]
 simp only [Qs, decide_true, Bool.and_true]
 by_cases h1 : k = 1
 ·subst h1
  by_cases h : jz r = 1 <;> simp [h]
 ·by_cases h2 : k = 2
  ·subst h2; simp
  ·by_cases h3 : k = 3
   ·subst h3; simp
   ·by_cases h4 : k = 4
    ·subst h4; simp
    ·by_cases h5 : k = 5
     ·subst h5; simp
     ·by_cases h6 : k = 6
      ·subst h6; simp
      ·simp [h1, h2, h3, h4, h5, h6]
theorem xi (k r : Int) : Zg k r = some (kH k r) := by
 unfold Zg kH
 simp only [Qs, XP, Option.bind_some]
 by_cases h1 : k = 1
 ·subst h1
  by_cases h : jz r = 1 <;> simp [h]
 ·by_cases h2 : k = 2
  ·subst h2; simp
  ·by_cases h3 : k = 3
   ·subst h3; simp
   ·by_cases h4 : k = 4
    ·subst h4; simp
    ·by_cases h5 : k = 5
     ·subst h5; simp
     ·by_cases h6 : k = 6
      ·subst h6; simp
      ·simp [h1, h2, h3, h4, h5, h6]
end Go.Sim
set_option maxRecDepth 100000
set_option maxHeartbeats 4000000
namespace Go.Sim
abbrev a08 : Type := Bool × Bool × Bool × Int × Int × Int × Int × Int × Int × Int × Int × Int × Int × Int × Int × Int × Int × Int × Int × Int × Int
def Qc (ep : Bool) (a b : Int) : a08 := (false, ep, false, 0, 0, 0, 0, 0, 0, 0, 0, 0, 0, 0, 0, 0, 0, 0, 0, a, b)
def jZ : a08 := (true, false, false, 0, 0, 0, 0, 0, 0, 0, 0, 0, 0, 0, 0, 0, 0, 0, 0, 0, 0)
def a1O (k r : Int) (row col rows cols : Nat) : a08 :=
 Qc (decide (k = 7) || (decide (k = 5) || decide (k = 6))) (qM ((row : Int) + (kH k r).1) rows : Int) (if k = 7 then 0 else (qM ((col : Int) + (kH k r).2) cols : Int))
theorem a1y (k r : Int) : -1 ≤ (kH k r).1 ∧ (kH k r).1 ≤ 1 ∧ -1 ≤ (kH k r).2 ∧ (kH k r).2 ≤ 1 := by
 unfold kH
 repeat' split
 all_goals (simp only; omega)
theorem abU {L : qg} {cols row col : Nat} (hG : GOk L cols) (hr : row < L.length) (hc : col < cols) (k r : Int) :
  kB (k, r) ((row : Int), (col : Int), (cols : Int)) L = some (a1O k r row col L.length cols, ((row : Int), (col : Int), (cols : Int)), L) := by
 have hrows := hG.rows
 have hwide := hG.wide
 have hm := a1y k r
 have a1 := Qv hG.small (by omega) ((row : Int), (col : Int), (cols : Int))
 have a2 := QV (L := L) (cols := cols) ⟨by omega, by omega⟩ ⟨by omega, by omega⟩ ((row : Int) + (kH k r).1) ((col : Int) + (kH k r).2) (row : Int) (col : Int)
 unfold kB zx z4 a1O Qc
 by_cases h7 : k = 7
 ·simp (disch := omega) only [qe, qk, ze, qL, q9, cond_true, cond_false, Option.bind_some, decide_true, KZ, a1, a2, if_pos, Bool.true_or]
 ·by_cases h5 : k = 5
  ·simp (disch := omega) only [qe, qk, ze, qL, q9, cond_true, cond_false, Option.bind_some, decide_true, KZ, a1, a2]
   simp [h5]
  ·by_cases h6 : k = 6
   ·simp (disch := omega) only [qe, qk, ze, qL, q9, cond_true, cond_false, Option.bind_some, decide_true, KZ, a1, a2]
    simp [h6]
   ·simp (disch := omega) only [qk, qL, q9, cond_true, cond_false, Option.bind_some, decide_true, KZ, a1, a2]
    simp [h7]
end Go.Sim
set_option maxRecDepth 100000
set_option maxHeartbeats 4000000
namespace Go.Sim
def xr (r : Int) (was : qc) (p1 p2 p3 : Int) (row col cols : Nat) : a08 :=
 if jz r = 1 ∧ col + 1 ≠ cols ∧ was.2.2.1 = 1 then
  (false, false, true, (row : Int), (col : Int), r, 0, 0, 1, p1, p2, p3, was.1, was.2.1.1, was.2.1.2, was.2.2.1, was.2.2.2.1, was.2.2.2.2.1, was.2.2.2.2.2, (row : Int), ((col + 1 : Nat) : Int))
 else jZ
theorem a7w {L : qg} {cols row col : Nat} (hG : GOk L cols) (hr : row < L.length) (hc : col < cols) (r : Int) :
  Qp r ((row : Int), (col : Int), (cols : Int)) L = some (xr r (atP L cols row col).1 (if (atP L cols row ((col : Int) - 1)).2 = true then (atP L cols row ((col : Int) - 1)).1.2.2.2.1 else 0) (if (atP L cols row ((col : Int) - 1)).2 = true then (atP L cols row ((col : Int) - 1)).1.2.2.2.2.1 else 0) (if (atP L cols row ((col : Int) - 1)).2 = true then (atP L cols row ((col : Int) - 1)).1.2.2.2.2.2 else 0) row col cols, ((row : Int), (col : Int), (cols : Int)), L) := by
 have hrows := hG.rows
 have hwide := hG.wide
 have hlen : ∀ l ∈ L, l.length = cols := fun l hl => (hG.line l hl).len
 have a1 := a35 hlen (row : Int) (col : Int) (row : Int) (col : Int)
 have a2 := a35 hlen (row : Int) ((col : Int) - 1) (row : Int) (col : Int)
 have hw1 : IntKind.i64.wrap ((cols : Int) - 1) = (cols : Int) - 1 := q9 (by omega) (by omega)
 generalize atP L cols (row : Int) (col : Int) = W at a1 ⊢
 generalize atP L cols (row : Int) ((col : Int) - 1) = V at a2 ⊢
 unfold Qp zx z4 kC xr jZ
 have key : ∀ p1 p2 p3 : Int, K1 r p1 p2 p3 = some (zD (ofC r p1 p2 p3).1, (ofC r p1 p2 p3).2) := fun p1 p2 p3 => agZ r p1 p2 p3
 obtain ⟨V1, V2⟩ := V
 cases V2
 ·rcases Qx r with h | h | h | h
  ·simp (disch := omega) only [q9, cond_true, cond_false, Option.bind_some, decide_true, a1, a2, key, zD, ofC, h]
   simp []
  ·simp (disch := omega) only [q9, cond_true, cond_false, Option.bind_some, decide_true, a1, a2, key, zD, ofC, h]
   simp []
  ·by_cases h1 : col + 1 = cols
   ·simp (disch := omega) only [ze, q9, cond_true, cond_false, Option.bind_some, decide_true, true_and, a1, a2, key, zD, ofC, h, hw1]
    simp [h1]
   ·by_cases h2 : W.1.2.2.1 = 1
    ·simp (disch := omega) only [qL, uR, q9, cond_true, cond_false, Option.bind_some, decide_true, true_and, a1, a2, key, zD, ofC, h, hw1]
     simp [h1, h2]
    ·simp (disch := omega) only [qL, aaq, q9, cond_true, cond_false, Option.bind_some, decide_true, true_and, a1, a2, key, zD, ofC, h, hw1]
     simp [h1, h2]
  ·simp (disch := omega) only [q9, cond_true, cond_false, Option.bind_some, decide_true, a1, a2, key, zD, ofC, h]
   simp []
 ·rcases Qx r with h | h | h | h
  ·simp (disch := omega) only [q9, cond_true, Option.bind_some, decide_true, a1, a2, key, zD, ofC, h]
   simp []
  ·simp (disch := omega) only [q9, cond_true, Option.bind_some, decide_true, a1, a2, key, zD, ofC, h]
   simp []
  ·by_cases h1 : col + 1 = cols
   ·simp (disch := omega) only [ze, q9, cond_true, Option.bind_some, decide_true, true_and, a1, a2, key, zD, ofC, h, hw1]
    simp [h1]
   ·by_cases h2 : W.1.2.2.1 = 1
    ·simp (disch := omega) only [qL, uR, q9, cond_true, cond_false, Option.bind_some, decide_true, true_and, a1, a2, key, zD, ofC, h, hw1]
     simp [h1, h2]
    ·simp (disch := omega) only [qL, aaq, q9, cond_true, cond_false, Option.bind_some, decide_true, true_and, a1, a2, key, zD, ofC, h, hw1]
     simp [h1, h2]
  ·simp (disch := omega) only [q9, cond_true, Option.bind_some, decide_true, a1, a2, key, zD, ofC, h]
   simp []
end Go.Sim
set_option maxRecDepth 100000
set_option maxHeartbeats 4000000
namespace Go.Sim
def qJ (L : qg) (cols : Nat) (k r : Int) (row col : Nat) : a08 :=
 if k = 1 then xr r (atP L cols row col).1 (if (atP L cols row ((col : Int) - 1)).2 = true then (atP L cols row ((col : Int) - 1)).1.2.2.2.1 else 0) (if (atP L cols row ((col : Int) - 1)).2 = true then (atP L cols row ((col : Int) - 1)).1.2.2.2.2.1 else 0) (if (atP L cols row ((col : Int) - 1)).2 = true then (atP L cols row ((col : Int) - 1)).1.2.2.2.2.2 else 0) row col cols
 else if 2 ≤ k ∧ k ≤ 7 then a1O k r row col L.length cols else jZ
theorem a2b {L : qg} {cols row col : Nat} (hG : GOk L cols) (hr : row < L.length) (hc : col < cols) (k r : Int) :
  jL (k, r) ((row : Int), (col : Int), (cols : Int)) L = some (qJ L cols k r row col, ((row : Int), (col : Int), (cols : Int)), L) := by
 have h1 := a7w hG hr hc r
 have h2 := abU hG hr hc k r
 unfold jL qJ
 by_cases k1 : k = 1
 ·rw [if_pos k1]
  simp (disch := omega) only [qe, qk, cond_true, cond_false, Option.bind_some, decide_true, h1]
 ·rw [if_neg k1]
  by_cases k2 : 2 ≤ k ∧ k ≤ 7
  ·rw [if_pos k2]
   have : k = 2 ∨ k = 3 ∨ k = 4 ∨ k = 5 ∨ k = 6 ∨ k = 7 := by omega
   rcases this with q | q | q | q | q | q <;> simp (disch := omega) only [qe, qk, cond_true, cond_false, Option.bind_some, decide_true, h2]
  ·rw [if_neg k2]
   simp (disch := omega) only [qk, cond_true, cond_false, decide_true, jZ]
theorem a72 {L : qg} (hS : w5 L) (hn : L.length ≤ 1000000) (g : Int × (Int × Int)) : zI jZ g L = some (g, L, g, L) := by
 have a1 := Qv hS hn g
 unfold zI jZ
 simp (disch := omega) only [cond_true, cond_false, Option.bind_some, decide_true, a1]
theorem agI {L : qg} {cols : Nat} (hG : GOk L cols) (ep : Bool) (a b r c : Int) : zI (Qc ep a b) (r, c, (cols : Int)) L = some ((r, c, (cols : Int)), L, ((qM a L.length : Int), (qM b cols : Int), (cols : Int)), L) := by
 have hrows := hG.rows
 have hwide := hG.wide
 have a1 := Qv hG.small (by omega) (r, c, (cols : Int))
 have a2 := QV (L := L) (cols := cols) ⟨by omega, by omega⟩ ⟨by omega, by omega⟩ a b r c
 unfold zI Qc
 simp (disch := omega) only [cond_true, cond_false, Option.bind_some, decide_true, a1, a2]
end Go.Sim
set_option maxRecDepth 100000
set_option maxHeartbeats 4000000
namespace Go.Sim
def ZB (R C : Int) (c was : qc) (a b : Int) : a08 := (false, false, true, R, C, c.1, c.2.1.1, c.2.1.2, c.2.2.1, c.2.2.2.1, c.2.2.2.2.1, c.2.2.2.2.2, was.1, was.2.1.1, was.2.1.2, was.2.2.1, was.2.2.2.1, was.2.2.2.2.1, was.2.2.2.2.2, a, b)
theorem ahG {L : qg} {cols : Nat} (hG : GOk L cols) {R C : Int} (hC : va C) {c : qc} (hc : OkC c) (was : qc) (a b r cc : Int) :
  zI (ZB R C c was a b) (r, cc, (cols : Int)) L = some ((r, cc, (cols : Int)), L, ((qM a L.length : Int), (qM b cols : Int), (cols : Int)), (zW L R fun l => jY l C c).2) := by
 have hrows := hG.rows
 have hwide := hG.wide
 have a1 := Qv hG.small (by omega) (r, cc, (cols : Int))
 have a2 := a2s hG.small R C hC hc (r, cc, (cols : Int))
 have hl := yl L R fun l => jY l C c
 have a3 := QV (L := (zW L R fun l => jY l C c).2) (cols := cols) ⟨by omega, by omega⟩ ⟨by omega, by omega⟩ a b r cc
 rw [hl] at a3
 unfold zI ZB
 simp (disch := omega) only [cond_true, cond_false, Option.bind_some, decide_true, a1, a2, a3]
theorem a1T (L : qg) (r c : Int) : kX jZ L r c = some (L, r, c) := by
 unfold kX jZ
 simp (disch := omega) only [cond_true, cond_false]
theorem a5b {L : qg} {cols : Nat} (hG : GOk L cols) (ep : Bool) (a b r c : Int) : kX (Qc ep a b) L r c = some (L, (qM a L.length : Int), (qM b cols : Int)) := by
 have hrows := hG.rows
 have hwide := hG.wide
 obtain ⟨l0, h0, h0l⟩ := hG.first
 have a2 := ZZ (L := L) (by omega) h0 ⟨by omega, by omega⟩ a b r c
 rw [h0l] at a2
 unfold kX Qc
 simp (disch := omega) only [cond_false, Option.bind_some, a2]
theorem aad {L : qg} {cols : Nat} (hG : GOk L cols) {R C : Int} (hC : va C) {c : qc} (hc : OkC c) (was : qc) (a b r cc : Int) :
  kX (ZB R C c was a b) L r cc = some ((zW L R fun l => jY l C c).2, (qM a L.length : Int), (qM b cols : Int)) := by
 have hrows := hG.rows
 have hwide := hG.wide
 have hG2 : GOk (zW L R fun l => jY l C c).2 cols := hG.turn R (fun l => jY l C c) (fun l hl _ => uM hl hc C)
 obtain ⟨l0, h0, h0l⟩ := hG2.first
 have a1 := a6f hG.small (by omega) R C hC hc r cc
 have hl := yl L R fun l => jY l C c
 have a2 := ZZ (L := (zW L R fun l => jY l C c).2) (by omega) h0 ⟨by omega, by omega⟩ a b r cc
 rw [h0l, hl] at a2
 unfold kX ZB
 simp (disch := omega) only [cond_true, cond_false, Option.bind_some, a1, a2]
end Go.Sim
set_option maxRecDepth 100000
set_option maxHeartbeats 4000000
namespace Go.Sim
theorem aiK {L : qg} {cols n m : Nat} {l : List qc} {d : qc} (h1 : L[n]? = some l) (h2 : l[m]? = some d) (h3 : m < cols) : atP L cols (n : Int) (m : Int) = (d, true) := by
 have := (List.getElem?_eq_some_iff.1 h1).1
 unfold atP
 rw [if_pos ⟨by omega, by omega, by omega, by omega⟩, Int.toNat_natCast, Int.toNat_natCast]
 simp only [h1, Option.bind_some, h2]
theorem a8q {L : qg} {cols row col : Nat} (hG : GOk L cols) (hr : row < L.length) (hc : col < cols) {k r : Int} (hk : 2 ≤ k ∧ k ≤ 7) :
  ja (k, r) L (row : Int) (col : Int) = some (a1O k r row col L.length cols) := by
 have hrows := hG.rows
 have hwide := hG.wide
 have hm := a1y k r
 obtain ⟨l0, h0, h0l⟩ := hG.first
 have a2 := ZZ (L := L) (by omega) h0 ⟨by omega, by omega⟩ ((row : Int) + (kH k r).1) ((col : Int) + (kH k r).2) (row : Int) (col : Int)
 rw [h0l] at a2
 have w1 : IntKind.i64.wrap ((row : Int) + (kH k r).1) = (row : Int) + (kH k r).1 := q9 (by omega) (by omega)
 have w2 : IntKind.i64.wrap ((col : Int) + (kH k r).2) = (col : Int) + (kH k r).2 := q9 (by omega) (by omega)
 unfold ja a1O Qc
 by_cases h7 : k = 7
 ·simp (disch := omega) only [qe, qk, ze, qL, q9, cond_true, cond_false, Option.bind_some, Int.toNat_natCast, xi, w1, w2, a2]
  simp [h7]
 ·by_cases h5 : 5 ≤ k
  ·simp (disch := omega) only [qe, qk, qL, q9, cond_true, cond_false, Option.bind_some, Int.toNat_natCast, xi, w1, w2, a2]
   have : k = 5 ∨ k = 6 := by omega
   rcases this with q | q <;> simp [q]
  ·simp (disch := omega) only [qe, qk, qL, q9, cond_true, cond_false, Option.bind_some, Int.toNat_natCast, xi, w1, w2, a2]
   have q5 : ¬ k = 5 := by omega
   have q6 : ¬ k = 6 := by omega
   simp [h7]
theorem a4W {L : qg} {row col : Int} {k r : Int} (hk : k < 1 ∨ 7 < k) : ja (k, r) L row col = some jZ := by
 unfold ja jZ
 by_cases h : k < 1
 ·simp (disch := omega) only [qe, qk, qL, cond_true, cond_false, Option.bind_some]
 ·simp (disch := omega) only [qe, qk, qL, cond_true, cond_false, Option.bind_some]
theorem a6h {L : qg} {cols row col : Nat} (hG : GOk L cols) (hr : row < L.length) (hc : col < cols) (r : Int) :
  ja (1, r) L (row : Int) (col : Int) = some (qJ L cols 1 r row col) := by
 have hrows := hG.rows
 have hwide := hG.wide
 have hlen : ∀ l ∈ L, l.length = cols := fun l hl => (hG.line l hl).len
 obtain ⟨l0, h0, h0l⟩ := hG.first
 have hcr := Ko h0 (row : Int) (col : Int)
 rw [h0l] at hcr
 obtain ⟨l, hl⟩ := qm hr
 have hll := hlen l (List.mem_of_getElem? hl)
 have a1 := aix hlen (row : Int) (col : Int) (row : Int) (col : Int)
 have ho := aig r 0 0 0
 have w1 : ((col : Int) - 1).toNat = col - 1 := by omega
 unfold ja qJ xr jZ
 rw [if_pos rfl]
 generalize atP L cols (row : Int) (col : Int) = W at a1 ⊢
 by_cases hcol : 0 < col
 ·obtain ⟨d, hd⟩ := qm (l := l) (i := col - 1) (by omega)
  have ha := aiK hl hd (show col - 1 < cols by omega)
  rw [show ((col - 1 : Nat) : Int) = (col : Int) - 1 by omega] at ha
  rw [ha]
  rcases Qx r with h | h | h | h
  ·simp (disch := omega) only [qe, qk, ze, qL, q9, cond_true, cond_false, Option.bind_some, Int.toNat_natCast, ho, a1, zD, ofC, h]
   simp []
  ·simp (disch := omega) only [qe, qk, ze, qL, q9, cond_true, cond_false, Option.bind_some, Int.toNat_natCast, ho, a1, zD, ofC, h]
   simp []
  ·by_cases h1 : col + 1 = cols
   ·simp (disch := omega) only [qe, qk, ze, qL, q9, cond_true, cond_false, Option.bind_some, Int.toNat_natCast, true_and, ho, a1, zD, ofC, h, hcr]
    simp [h1]
   ·by_cases h2 : W.1.2.2.1 = 1
    ·simp (disch := omega) only [qe, qk, ze, qL, uR, q9, cond_true, cond_false, Option.bind_some, Int.toNat_natCast, true_and, ho, a1, zD, ofC, h, hcr, hl, w1, hd]
     simp [h1, h2]
    ·simp (disch := omega) only [qe, qk, ze, qL, aaq, q9, cond_true, cond_false, Option.bind_some, Int.toNat_natCast, true_and, ho, a1, zD, ofC, h, hcr]
     simp [h1, h2]
  ·simp (disch := omega) only [qe, qk, ze, qL, q9, cond_true, cond_false, Option.bind_some, Int.toNat_natCast, ho, a1, zD, ofC, h]
   simp []
 ·have ha : atP L cols (row : Int) ((col : Int) - 1) = ((0, (0, 0), 0, 0, 0, 0), false) := by unfold atP; rw [if_neg (by omega)]
  rw [ha]
  rcases Qx r with h | h | h | h
  ·simp (disch := omega) only [qe, qk, ze, qL, q9, cond_true, cond_false, Option.bind_some, Int.toNat_natCast, ho, a1, zD, ofC, h]
   simp []
  ·simp (disch := omega) only [qe, qk, ze, qL, q9, cond_true, cond_false, Option.bind_some, Int.toNat_natCast, ho, a1, zD, ofC, h]
   simp []
  ·by_cases h1 : col + 1 = cols
   ·simp (disch := omega) only [qe, qk, ze, qL, q9, cond_true, cond_false, Option.bind_some, Int.toNat_natCast, true_and, ho, a1, zD, ofC, h, hcr]
    simp [h1]
   ·by_cases h2 : W.1.2.2.1 = 1
    ·simp (disch := omega) only [qe, qk, ze, qL, uR, q9, cond_true, cond_false, Option.bind_some, Int.toNat_natCast, true_and, ho, a1, zD, ofC, h, hcr]
     simp [h1, h2]
    ·simp (disch := omega) only [qe, qk, ze, qL, aaq, q9, cond_true, cond_false, Option.bind_some, Int.toNat_natCast, true_and, ho, a1, zD, ofC, h, hcr]
     simp [h1, h2]
  ·simp (disch := omega) only [qe, qk, ze, qL, q9, cond_true, cond_false, Option.bind_some, Int.toNat_natCast, ho, a1, zD, ofC, h]
   simp []
end Go.Sim
set_option maxRecDepth 100000
set_option maxHeartbeats 4000000
namespace Go.Sim
theorem aj4 {L : qg} {cols row col : Nat} (hG : GOk L cols) (hr : row < L.length) (hc : col < cols) (k r : Int) :
  ja (k, r) L (row : Int) (col : Int) = some (qJ L cols k r row col) := by
 by_cases k1 : k = 1
 ·subst k1; exact a6h hG hr hc r
 ·by_cases k2 : 2 ≤ k ∧ k ≤ 7
  ·rw [a8q hG hr hc k2]
   unfold qJ
   rw [if_neg k1, if_pos k2]
  ·rw [a4W (by omega)]
   unfold qJ
   rw [if_neg k1, if_neg k2]
theorem aeO {L : qg} {cols : Nat} (hG : GOk L cols) (k j : Int) : OkC (atP L cols k j).1 := by
 have hz : OkC ((0, (0, 0), 0, 0, 0, 0) : qc) := ⟨(by unfold zU; simp), (by unfold zU; simp), (by unfold zU; simp), W7, W7, W7, W7⟩
 unfold atP
 split
 ·split
  ·rename_i c hq
   cases hl : L[k.toNat]? with
   | none => rw [hl] at hq; cases hq
   | some l =>
    rw [hl] at hq
    exact hG.ok l (List.mem_of_getElem? hl) c (List.mem_of_getElem? hq)
  ·exact hz
 ·exact hz
def Q9 (L : qg) (cols row col : Nat) (r : Int) : qc := (r, (0, 0), 1, (if (atP L cols row ((col : Int) - 1)).2 = true then (atP L cols row ((col : Int) - 1)).1.2.2.2.1 else 0), (if (atP L cols row ((col : Int) - 1)).2 = true then (atP L cols row ((col : Int) - 1)).1.2.2.2.2.1 else 0), (if (atP L cols row ((col : Int) - 1)).2 = true then (atP L cols row ((col : Int) - 1)).1.2.2.2.2.2 else 0))
theorem a1K {L : qg} {cols row col : Nat} (hG : GOk L cols) {r : Int} (hr : zU r) : OkC (Q9 L cols row col r) := by
 have h := aeO hG (row : Int) ((col : Int) - 1)
 refine ⟨hr, (by unfold zU Q9; simp), (by unfold zU Q9; simp), (by unfold u8r Q9; simp), ?_, ?_, ?_⟩
 ·unfold Q9; simp only; split
  ·exact h.p1
  ·exact W7
 ·unfold Q9; simp only; split
  ·exact h.p2
  ·exact W7
 ·unfold Q9; simp only; split
  ·exact h.p3
  ·exact W7
theorem a8W (L : qg) (cols : Nat) (k r : Int) (row col : Nat) : qJ L cols k r row col = jZ ∨ (∃ ep a b, qJ L cols k r row col = Qc ep a b) ∨
  (col + 1 < cols ∨ cols ≤ col) ∧ qJ L cols k r row col = ZB (row : Int) (col : Int) (Q9 L cols row col r) (atP L cols row col).1 (row : Int) ((col + 1 : Nat) : Int) := by
 unfold qJ
 split
 ·unfold xr
  split
  ·rename_i h
   exact .inr (.inr ⟨by omega, rfl⟩)
  ·exact .inl rfl
 ·split
  ·exact .inr (.inl ⟨_, _, _, rfl⟩)
  ·exact .inl rfl
theorem aao {L : qg} {cols row col : Nat} (hG : GOk L cols) (hr : row < L.length) (hc : col < cols) (k : Int) {r : Int} (hr32 : zU r) :
  ∃ (L' : qg) (row' col' : Nat), GOk L' cols ∧ L'.length = L.length ∧ row' < L'.length ∧ col' < cols ∧
   zI (qJ L cols k r row col) ((row : Int), (col : Int), (cols : Int)) L = some (((row : Int), (col : Int), (cols : Int)), L, ((row' : Int), (col' : Int), (cols : Int)), L') ∧
   kX (qJ L cols k r row col) L (row : Int) (col : Int) = some (L', (row' : Int), (col' : Int)) := by
 have hrows := hG.rows
 have hwide := hG.wide
 rcases a8W L cols k r row col with h | ⟨ep, a, b, h⟩ | ⟨hb, h⟩
 ·rw [h]
  exact ⟨L, row, col, hG, rfl, hr, hc, a72 hG.small (by omega) _, a1T _ _ _⟩
 ·rw [h]
  exact ⟨L, _, _, hG, rfl, wc (by omega), wc (by omega), agI hG ep a b _ _, a5b hG ep a b _ _⟩
 ·rw [h]
  have hT := a1K (row := row) (col := col) hG hr32
  have hC : va (col : Int) := ⟨by omega, by omega⟩
  have hl := yl L (row : Int) fun l => jY l (col : Int) (Q9 L cols row col r)
  exact ⟨_, _, _, hG.turn (row : Int) (fun l => jY l (col : Int) (Q9 L cols row col r)) (fun l q _ => uM q hT (col : Int)), hl, by rw [hl]; exact wc (by omega), wc (by omega), ahG hG hC hT _ _ _ _ _, aad hG hC hT _ _ _ _ _⟩
end Go.Sim
set_option maxRecDepth 100000
set_option maxHeartbeats 0
namespace Go.Sim
open Go.Proofs
noncomputable def jK (x0 : Int) (x1 : Int) : Option Y6_ :=
 bif decide (x0 = x0) then
  bif decide (x0 = (1 : Int)) then
   some (true, (false, (false, (((0 : Int)), (((0 : Int)), (((0 : Int)), (((0 : Int)), (((0 : Int)), (((0 : Int)), (((0 : Int)), (((0 : Int)), (((0 : Int)), (((0 : Int)), (((0 : Int)), (((0 : Int)), (((0 : Int)), (((0 : Int)), (((0 : Int)), (((0 : Int)), (((0 : Int)), ((0 : Int))))))))))))))))))))))
  else bif decide (x0 = (2 : Int)) then
    some (true, (false, (false, (((0 : Int)), (((0 : Int)), (((0 : Int)), (((0 : Int)), (((0 : Int)), (((0 : Int)), (((0 : Int)), (((0 : Int)), (((0 : Int)), (((0 : Int)), (((0 : Int)), (((0 : Int)), (((0 : Int)), (((0 : Int)), (((0 : Int)), (((0 : Int)), (((0 : Int)), ((0 : Int))))))))))))))))))))))
   else bif decide (x0 = (3 : Int)) then
     some (true, (false, (false, (((0 : Int)), (((0 : Int)), (((0 : Int)), (((0 : Int)), (((0 : Int)), (((0 : Int)), (((0 : Int)), (((0 : Int)), (((0 : Int)), (((0 : Int)), (((0 : Int)), (((0 : Int)), (((0 : Int)), (((0 : Int)), (((0 : Int)), (((0 : Int)), (((0 : Int)), ((0 : Int))))))))))))))))))))))
    else bif decide (x0 = (4 : Int)) then
      some (true, (false, (false, (((0 : Int)), (((0 : Int)), (((0 : Int)), (((0 : Int)), (((0 : Int)), (((0 : Int)), (((0 : Int)), (((0 : Int)), (((0 : Int)), (((0 : Int)), (((0 : Int)), (((0 : Int)), (((0 : Int)), (((0 : Int)), (((0 : Int)), (((0 : Int)), (((0 : Int)), ((0 : Int))))))))))))))))))))))
     else bif decide (x0 = (5 : Int)) then
       some (true, (false, (false, (((0 : Int)), (((0 : Int)), (((0 : Int)), (((0 : Int)), (((0 : Int)), (((0 : Int)), (((0 : Int)), (((0 : Int)), (((0 : Int)), (((0 : Int)), (((0 : Int)), (((0 : Int)), (((0 : Int)), (((0 : Int)), (((0 : Int)), (((0 : Int)), (((0 : Int)), ((0 : Int))))))))))))))))))))))
      else bif decide (x0 = (6 : Int)) then
        some (true, (false, (false, (((0 : Int)), (((0 : Int)), (((0 : Int)), (((0 : Int)), (((0 : Int)), (((0 : Int)), (((0 : Int)), (((0 : Int)), (((0 : Int)), (((0 : Int)), (((0 : Int)), (((0 : Int)), (((0 : Int)), (((0 : Int)), (((0 : Int)), (((0 : Int)), (((0 : Int)), ((0 : Int))))))))))))))))))))))
       else bif decide (x0 = (7 : Int)) then
         some (true, (false, (false, (((0 : Int)), (((0 : Int)), (((0 : Int)), (((0 : Int)), (((0 : Int)), (((0 : Int)), (((0 : Int)), (((0 : Int)), (((0 : Int)), (((0 : Int)), (((0 : Int)), (((0 : Int)), (((0 : Int)), (((0 : Int)), (((0 : Int)), (((0 : Int)), (((0 : Int)), ((0 : Int))))))))))))))))))))))
        else some (true, (false, (false, (((0 : Int)), (((0 : Int)), (((0 : Int)), (((0 : Int)), (((0 : Int)), (((0 : Int)), (((0 : Int)), (((0 : Int)), (((0 : Int)), (((0 : Int)), (((0 : Int)), (((0 : Int)), (((0 : Int)), (((0 : Int)), (((0 : Int)), (((0 : Int)), (((0 : Int)), ((0 : Int))))))))))))))))))))))
 else none
noncomputable def QR : TEnt := ⟨11, .cons (.agg a7M) (.cst (.pointer none)), [], [((.agg Y5_), [])], fun s => jK s.1 s.2⟩
theorem Zu : qu Tryz.prog QR := qh (tab := [KY, WH]) (loops := []) (joins := []) (un := []) _ (by
  intro e he
  simp only [List.mem_cons, List.not_mem_nil, or_false] at he
  rcases he with rfl | rfl
  ·exact JA
  ·exact JL) (fun s => by kernel_rfl) (by kernel_rfl)
noncomputable def y7 (x0 : Bool) (x1 : Bool) (x2 : Bool) (x3 : Int) (x4 : Int) (x5 : Int) (x6 : Int) (x7 : Int) (x8 : Int) (x9 : Int) (x10 : Int) (x11 : Int) (x12 : Int) (x13 : Int) (x14 : Int) (x15 : Int) (x16 : Int) (x17 : Int) (x18 : Int) (x19 : Int) (x20 : Int) : Option Unit :=
 bif x0 then
  some ()
 else bif x2 then
   some ()
  else some ()
noncomputable def KQ : TEnt := ⟨12, .cons (.agg Y5_) (.cst (.pointer none)), [], [(.cst (.pointer none), [])], fun s => y7 s.1 s.2.1 s.2.2.1 s.2.2.2.1 s.2.2.2.2.1 s.2.2.2.2.2.1 s.2.2.2.2.2.2.1 s.2.2.2.2.2.2.2.1 s.2.2.2.2.2.2.2.2.1 s.2.2.2.2.2.2.2.2.2.1 s.2.2.2.2.2.2.2.2.2.2.1 s.2.2.2.2.2.2.2.2.2.2.2.1 s.2.2.2.2.2.2.2.2.2.2.2.2.1 s.2.2.2.2.2.2.2.2.2.2.2.2.2.1 s.2.2.2.2.2.2.2.2.2.2.2.2.2.2.1 s.2.2.2.2.2.2.2.2.2.2.2.2.2.2.2.1 s.2.2.2.2.2.2.2.2.2.2.2.2.2.2.2.2.1 s.2.2.2.2.2.2.2.2.2.2.2.2.2.2.2.2.2.1 s.2.2.2.2.2.2.2.2.2.2.2.2.2.2.2.2.2.2.1 s.2.2.2.2.2.2.2.2.2.2.2.2.2.2.2.2.2.2.2.1 s.2.2.2.2.2.2.2.2.2.2.2.2.2.2.2.2.2.2.2.2⟩
theorem Jr : qu Tryz.prog KQ := qh (tab := [J4, wB, jw]) (loops := []) (joins := []) (un := []) _ (by
  intro e he
  simp only [List.mem_cons, List.not_mem_nil, or_false] at he
  rcases he with rfl | rfl | rfl
  ·exact ZH
  ·exact jD
  ·exact kW) (fun s => by kernel_rfl) (by kernel_rfl)
noncomputable def jp (x1 : Int) (x2 : a2N) (x3 : Int) (x4 : Int) : Option (acU ⊕ Int) :=
 bif decide (x4 < x3) then
  bif decide (0 ≤ x4) then
   Option.bind (x2[x4.toNat]?) fun x5 =>
    Option.bind (jK x5.1 x5.2) fun x6 =>
     bif x6.1 then
      some (Sum.inr x1)
     else Option.bind (y7 x6.1 x6.2.1 x6.2.2.1 x6.2.2.2.1 x6.2.2.2.2.1 x6.2.2.2.2.2.1 x6.2.2.2.2.2.2.1 x6.2.2.2.2.2.2.2.1 x6.2.2.2.2.2.2.2.2.1 x6.2.2.2.2.2.2.2.2.2.1 x6.2.2.2.2.2.2.2.2.2.2.1 x6.2.2.2.2.2.2.2.2.2.2.2.1 x6.2.2.2.2.2.2.2.2.2.2.2.2.1 x6.2.2.2.2.2.2.2.2.2.2.2.2.2.1 x6.2.2.2.2.2.2.2.2.2.2.2.2.2.2.1 x6.2.2.2.2.2.2.2.2.2.2.2.2.2.2.2.1 x6.2.2.2.2.2.2.2.2.2.2.2.2.2.2.2.2.1 x6.2.2.2.2.2.2.2.2.2.2.2.2.2.2.2.2.2.1 x6.2.2.2.2.2.2.2.2.2.2.2.2.2.2.2.2.2.2.1 x6.2.2.2.2.2.2.2.2.2.2.2.2.2.2.2.2.2.2.2.1 x6.2.2.2.2.2.2.2.2.2.2.2.2.2.2.2.2.2.2.2.2) fun x7 =>
       some (Sum.inl ((IntKind.i64.wrap (x1 + (1 : Int))), (x2, (x3, (IntKind.i64.wrap (x4 + (1 : Int)))))))
  else none
 else some (Sum.inr x1)
noncomputable def jR : acU → Option Int := qT fun s => jp s.1 s.2.1 s.2.2.1 s.2.2.2
noncomputable def yE (x0 : a2N) : Option Int :=
 Option.bind (jR (((0 : Int)), (x0, (((↑x0.length : Int)), ((0 : Int)))))) fun x1 =>
  some x1
noncomputable def YH : TEnt := ⟨9, .cons (.cst (.pointer none)) (.sl a5e), [], [(.tup (.cons (.cst (.pointer none)) (.int .i64)), [])], fun s => yE s⟩
theorem xk : qu Tryz.prog YH := qh (tab := [jw, Zh, WM, QR, KQ]) (loops := [(303690, [6, 7, 13, 14, 15], (.cons (.cst (.pointer none)) (.cons (.int .i64) (.cons (.sl a5e) Y7_))), [])]) (joins := []) (un := []) _ (by
  intro e he
  simp only [List.mem_cons, List.not_mem_nil, or_false] at he
  rcases he with rfl | rfl | rfl | rfl | rfl
  ·exact kW
  ·exact QZ
  ·exact KV
  ·exact Zu
  ·exact Jr) (fun s => by kernel_rfl) (by kernel_rfl)
noncomputable def m_RuleBack (x0 : Int) (x1 : Int) (x2 : aaE) (x3 : Int) (x4 : Int) : Option Bool :=
 Option.bind (yf x0 x1 x2) fun x5 =>
  match x5 with
  | Sum.inl x6 =>
    Option.bind (zS) fun x7 =>
     some x7
  | Sum.inr x6 =>
    bif decide (x6.2.2.length = x6.2.2.length) then
     Option.bind (jL (x3, x4) x6.2.1 x6.2.2) fun x7 =>
      bif decide (x7.2.2.length = x7.2.2.length) then
       Option.bind (zI x7.1 x7.2.1 x7.2.2) fun x8 =>
        Option.bind (
         bif x7.1.1 then
          bif !(x7.1.1 == true && (x7.1.2.1 == false && (x7.1.2.2.1 == false && (x7.1.2.2.2.1 == 0 && (x7.1.2.2.2.2.1 == 0 && (x7.1.2.2.2.2.2.1 == 0 && (x7.1.2.2.2.2.2.2.1 == 0 && (x7.1.2.2.2.2.2.2.2.1 == 0 && true) && (x7.1.2.2.2.2.2.2.2.2.1 == 0 && (x7.1.2.2.2.2.2.2.2.2.2.1 == 0 && (x7.1.2.2.2.2.2.2.2.2.2.2.1 == 0 && (x7.1.2.2.2.2.2.2.2.2.2.2.2.1 == 0 && true)) && true))) && (x7.1.2.2.2.2.2.2.2.2.2.2.2.2.1 == 0 && (x7.1.2.2.2.2.2.2.2.2.2.2.2.2.2.1 == 0 && (x7.1.2.2.2.2.2.2.2.2.2.2.2.2.2.2.1 == 0 && true) && (x7.1.2.2.2.2.2.2.2.2.2.2.2.2.2.2.2.1 == 0 && (x7.1.2.2.2.2.2.2.2.2.2.2.2.2.2.2.2.2.1 == 0 && (x7.1.2.2.2.2.2.2.2.2.2.2.2.2.2.2.2.2.2.1 == 0 && (x7.1.2.2.2.2.2.2.2.2.2.2.2.2.2.2.2.2.2.2.1 == 0 && true)) && true))) && (x7.1.2.2.2.2.2.2.2.2.2.2.2.2.2.2.2.2.2.2.2.1 == 0 && (x7.1.2.2.2.2.2.2.2.2.2.2.2.2.2.2.2.2.2.2.2.2 == 0 && true))))))))) then
           bif decide (x8.2.2.2.length = x8.2.2.2.length) then
            bif decide (x8.2.1.length = x8.2.1.length) then
             some (Sum.inl (true, (x8.1, (x7.1, (x8.2.2.1, (x8.2.1, x8.2.2.2))))))
            else none
           else none
          else bif decide (x8.2.2.2.length = x8.2.2.2.length) then
            Option.bind (zR x8.2.2.1 x8.2.2.2) fun x9 =>
             bif decide (x8.2.1.length = x8.2.1.length) then
              Option.bind (zR x8.1 x8.2.1) fun x10 =>
               bif x9.1 != x10.1 then
                bif decide (x9.2.2.length = x9.2.2.length) then
                 bif decide (x10.2.2.length = x10.2.2.length) then
                  some (Sum.inl (true, (x10.2.1, (x7.1, (x9.2.1, (x10.2.2, x9.2.2))))))
                 else none
                else none
               else bif decide (x9.2.2.length = x9.2.2.length) then
                 Option.bind (kC x9.2.1 x9.2.2) fun x11 =>
                  bif decide (x10.2.2.length = x10.2.2.length) then
                   Option.bind (kC x10.2.1 x10.2.2) fun x12 =>
                    bif x11.1 != x12.1 then
                     bif decide (x11.2.2.length = x11.2.2.length) then
                      bif decide (x12.2.2.length = x12.2.2.length) then
                       some (Sum.inl (true, (x12.2.1, (x7.1, (x11.2.1, (x12.2.2, x11.2.2))))))
                      else none
                     else none
                    else bif decide (x11.2.2.length = x11.2.2.length) then
                      Option.bind (vE x11.2.1 x11.2.2) fun x13 =>
                       bif decide (x13.2.2.length = x13.2.2.length) then
                        bif decide (x12.2.2.length = x12.2.2.length) then
                         some (Sum.inl (!x13.1, (x12.2.1, (x7.1, (x13.2.1, (x12.2.2, x13.2.2))))))
                        else none
                       else none
                     else none
                  else none
                else none
             else none
           else none
         else bif decide (x8.2.2.2.length = x8.2.2.2.length) then
           Option.bind (zR x8.2.2.1 x8.2.2.2) fun x9 =>
            bif decide (x8.2.1.length = x8.2.1.length) then
             Option.bind (zR x8.1 x8.2.1) fun x10 =>
              bif x9.1 != x10.1 then
               bif decide (x9.2.2.length = x9.2.2.length) then
                bif decide (x10.2.2.length = x10.2.2.length) then
                 some (Sum.inl (true, (x10.2.1, (x7.1, (x9.2.1, (x10.2.2, x9.2.2))))))
                else none
               else none
              else bif decide (x9.2.2.length = x9.2.2.length) then
                Option.bind (kC x9.2.1 x9.2.2) fun x11 =>
                 bif decide (x10.2.2.length = x10.2.2.length) then
                  Option.bind (kC x10.2.1 x10.2.2) fun x12 =>
                   bif x11.1 != x12.1 then
                    bif decide (x11.2.2.length = x11.2.2.length) then
                     bif decide (x12.2.2.length = x12.2.2.length) then
                      some (Sum.inl (true, (x12.2.1, (x7.1, (x11.2.1, (x12.2.2, x11.2.2))))))
                     else none
                    else none
                   else bif decide (x11.2.2.length = x11.2.2.length) then
                     Option.bind (vE x11.2.1 x11.2.2) fun x13 =>
                      bif decide (x13.2.2.length = x13.2.2.length) then
                       bif decide (x12.2.2.length = x12.2.2.length) then
                        some (Sum.inl (!x13.1, (x12.2.1, (x7.1, (x13.2.1, (x12.2.2, x13.2.2))))))
                       else none
                      else none
                    else none
                 else none
               else none
            else none
          else none) fun (x9 : ((Bool × (Y3_ × (Y6_ × (Y3_ × ((List Y0_) × (List Y0_)))))) ⊕ Bool)) =>
         match x9 with
         | Sum.inl x10 =>
           bif x10.1 then
            some false
           else bif x10.2.2.1.1 then
             Option.bind (zS) fun x11 =>
              bif x11 then
               bif decide (x10.2.2.2.2.2.length = x10.2.2.2.2.2.length) then
                bif decide (x10.2.2.2.2.1.length = x10.2.2.2.2.1.length) then
                 Option.bind (wK x10.2.1 x10.2.2.2.2.1 x10.2.2.2.1 x10.2.2.2.2.2) fun x12 =>
                  some x12.1
                else none
               else none
              else some false
            else Option.bind (
              bif decide (x10.2.2.2.2.2.length = x10.2.2.2.2.2.length) then
               Option.bind (zx x10.2.2.2.1 x10.2.2.2.2.2) fun x11 =>
                bif x10.2.2.1.2.2.2.2.2.2.2.2.2.2.2.2.2.2.2.2.2.2.2.1 != x11.1 then
                 bif decide (x11.2.2.length = x11.2.2.length) then
                  bif decide (x10.2.2.2.2.1.length = x10.2.2.2.2.1.length) then
                   some (Sum.inl (true, (x10.2.1, (x10.2.2.1, (x11.2.1, (x10.2.2.2.2.1, x11.2.2))))))
                  else none
                 else none
                else bif decide (x11.2.2.length = x11.2.2.length) then
                  Option.bind (z4 x11.2.1 x11.2.2) fun x12 =>
                   bif decide (x12.2.2.length = x12.2.2.length) then
                    bif decide (x10.2.2.2.2.1.length = x10.2.2.2.2.1.length) then
                     some (Sum.inl ((x10.2.2.1.2.2.2.2.2.2.2.2.2.2.2.2.2.2.2.2.2.2.2.2 != x12.1), (x10.2.1, (x10.2.2.1, (x12.2.1, (x10.2.2.2.2.1, x12.2.2))))))
                    else none
                   else none
                 else none
              else none) fun (x11 : ((Bool × (Y3_ × (Y6_ × (Y3_ × ((List Y0_) × (List Y0_)))))) ⊕ Bool)) =>
              match x11 with
              | Sum.inl x12 =>
                bif x12.1 then
                 some false
                else bif x12.2.2.1.2.2.1 then
                  bif decide (x12.2.2.2.2.2.length = x12.2.2.2.2.2.length) then
                   Option.bind (jL ((2 : Int), (0 : Int)) x12.2.2.2.1 x12.2.2.2.2.2) fun x13 =>
                    bif decide (x13.2.2.length = x13.2.2.length) then
                     Option.bind (zI x13.1 x13.2.1 x13.2.2) fun x14 =>
                      Option.bind (zS) fun x15 =>
                       bif x15 then
                        bif decide (x14.2.2.2.length = x14.2.2.2.length) then
                         Option.bind (zx x14.2.2.1 x14.2.2.2) fun x16 =>
                          bif decide (x12.2.2.2.2.1.length = x12.2.2.2.2.1.length) then
                           Option.bind (zx x12.2.1 x12.2.2.2.2.1) fun x17 =>
                            bif x16.1 == x17.1 then
                             bif decide (x16.2.2.length = x16.2.2.length) then
                              Option.bind (z4 x16.2.1 x16.2.2) fun x18 =>
                               bif decide (x17.2.2.length = x17.2.2.length) then
                                Option.bind (z4 x17.2.1 x17.2.2) fun x19 =>
                                 bif x18.1 == x19.1 then
                                  bif decide (x19.2.2.length = x19.2.2.length) then
                                   Option.bind (zx x19.2.1 x19.2.2) fun x20 =>
                                    bif x12.2.2.1.2.2.2.1 == x20.1 then
                                     bif decide (x20.2.2.length = x20.2.2.length) then
                                      Option.bind (z4 x20.2.1 x20.2.2) fun x21 =>
                                       some (x12.2.2.1.2.2.2.2.1 == x21.1)
                                     else none
                                    else some false
                                  else none
                                 else some false
                               else none
                             else none
                            else some false
                          else none
                        else none
                       else some false
                    else none
                  else none
                 else bif decide (x12.2.2.2.2.1.length = x12.2.2.2.2.1.length) then
                   Option.bind (zx x12.2.1 x12.2.2.2.2.1) fun x13 =>
                    bif decide (x13.2.2.length = x13.2.2.length) then
                     Option.bind (z4 x13.2.1 x13.2.2) fun x14 =>
                      bif decide (x12.2.2.2.2.2.length = x12.2.2.2.2.2.length) then
                       Option.bind (kz (x13.1, x14.1) x12.2.2.2.1 x12.2.2.2.2.2) fun x15 =>
                        Option.bind (zS) fun x16 =>
                         bif x16 then
                          bif decide (x15.2.length = x15.2.length) then
                           bif decide (x14.2.2.length = x14.2.2.length) then
                            Option.bind (wK x14.2.1 x14.2.2 x15.1 x15.2) fun x17 =>
                             some x17.1
                           else none
                          else none
                         else some false
                      else none
                    else none
                  else none
              | Sum.inr x12 =>
                some x12
         | Sum.inr x10 =>
           some x10
      else none
    else none
noncomputable def jc (x7 : (a2N × Y3_)) (x8 : Y3_) (x9 : Y9_) (x10 : Y3_) (x11 : Y9_) (x12 : (List Y0_)) (x13 : (List Y0_)) : Option (afq ⊕ Bool) :=
 bif decide (x7.2.2.2 < (↑x7.1.length : Int)) then
  bif decide (0 ≤ x7.2.2.2) then
   Option.bind (x7.1[x7.2.2.2.toNat]?) fun x14 =>
    bif decide (List.length x12 = List.length x12) then
     Option.bind (jL x14 x8 x12) fun x15 =>
      bif decide (0 ≤ x7.2.2.2) then
       Option.bind (x7.1[x7.2.2.2.toNat]?) fun x16 =>
        Option.bind (vQ x16.1 x16.2) fun x17 =>
         Option.bind (ja x17 x9.1 x9.2.1 x9.2.2) fun x18 =>
          Option.bind (Q2 x15.1.1 x15.1.2.1 x15.1.2.2.1 x15.1.2.2.2.1 x15.1.2.2.2.2.1 x15.1.2.2.2.2.2.1 x15.1.2.2.2.2.2.2.1 x15.1.2.2.2.2.2.2.2.1 x15.1.2.2.2.2.2.2.2.2.1 x15.1.2.2.2.2.2.2.2.2.2.1 x15.1.2.2.2.2.2.2.2.2.2.2.1 x15.1.2.2.2.2.2.2.2.2.2.2.2.1 x15.1.2.2.2.2.2.2.2.2.2.2.2.2.1 x15.1.2.2.2.2.2.2.2.2.2.2.2.2.2.1 x15.1.2.2.2.2.2.2.2.2.2.2.2.2.2.2.1 x15.1.2.2.2.2.2.2.2.2.2.2.2.2.2.2.2.1 x15.1.2.2.2.2.2.2.2.2.2.2.2.2.2.2.2.2.1 x15.1.2.2.2.2.2.2.2.2.2.2.2.2.2.2.2.2.2.1 x15.1.2.2.2.2.2.2.2.2.2.2.2.2.2.2.2.2.2.2.1 x15.1.2.2.2.2.2.2.2.2.2.2.2.2.2.2.2.2.2.2.2.1 x15.1.2.2.2.2.2.2.2.2.2.2.2.2.2.2.2.2.2.2.2.2) fun x19 =>
           bif !(x19.1 == x18.1 && (x19.2.1 == x18.2.1 && (x19.2.2.1 == x18.2.2.1 && (x19.2.2.2.1 == x18.2.2.2.1 && (x19.2.2.2.2.1 == x18.2.2.2.2.1 && (x19.2.2.2.2.2.1 == x18.2.2.2.2.2.1 && (x19.2.2.2.2.2.2.1 == x18.2.2.2.2.2.2.1 && (x19.2.2.2.2.2.2.2.1 == x18.2.2.2.2.2.2.2.1 && true) && (x19.2.2.2.2.2.2.2.2.1 == x18.2.2.2.2.2.2.2.2.1 && (x19.2.2.2.2.2.2.2.2.2.1 == x18.2.2.2.2.2.2.2.2.2.1 && (x19.2.2.2.2.2.2.2.2.2.2.1 == x18.2.2.2.2.2.2.2.2.2.2.1 && (x19.2.2.2.2.2.2.2.2.2.2.2.1 == x18.2.2.2.2.2.2.2.2.2.2.2.1 && true)) && true))) && (x19.2.2.2.2.2.2.2.2.2.2.2.2.1 == x18.2.2.2.2.2.2.2.2.2.2.2.2.1 && (x19.2.2.2.2.2.2.2.2.2.2.2.2.2.1 == x18.2.2.2.2.2.2.2.2.2.2.2.2.2.1 && (x19.2.2.2.2.2.2.2.2.2.2.2.2.2.2.1 == x18.2.2.2.2.2.2.2.2.2.2.2.2.2.2.1 && true) && (x19.2.2.2.2.2.2.2.2.2.2.2.2.2.2.2.1 == x18.2.2.2.2.2.2.2.2.2.2.2.2.2.2.2.1 && (x19.2.2.2.2.2.2.2.2.2.2.2.2.2.2.2.2.1 == x18.2.2.2.2.2.2.2.2.2.2.2.2.2.2.2.2.1 && (x19.2.2.2.2.2.2.2.2.2.2.2.2.2.2.2.2.2.1 == x18.2.2.2.2.2.2.2.2.2.2.2.2.2.2.2.2.2.1 && (x19.2.2.2.2.2.2.2.2.2.2.2.2.2.2.2.2.2.2.1 == x18.2.2.2.2.2.2.2.2.2.2.2.2.2.2.2.2.2.2.1 && true)) && true))) && (x19.2.2.2.2.2.2.2.2.2.2.2.2.2.2.2.2.2.2.2.1 == x18.2.2.2.2.2.2.2.2.2.2.2.2.2.2.2.2.2.2.2.1 && (x19.2.2.2.2.2.2.2.2.2.2.2.2.2.2.2.2.2.2.2.2 == x18.2.2.2.2.2.2.2.2.2.2.2.2.2.2.2.2.2.2.2.2 && true))))))))) then
            some (Sum.inr false)
           else Option.bind (
             bif x7.2.2.2 == x7.2.2.1 then
              bif decide (x13.length = x13.length) then
               bif decide (x15.2.2.length = x15.2.2.length) then
                some (Sum.inl ((x7.1, (x7.2.1, (x7.2.2.1, (x7.2.2.2, !x18.1)))), (x15.2.1, (x9, (x10, (x11, (x15.1, (x18, (x15.2.2, x13)))))))))
               else none
              else none
             else bif decide (x13.length = x13.length) then
               bif decide (x15.2.2.length = x15.2.2.length) then
                some (Sum.inl ((x7.1, (x7.2.1, (x7.2.2.1, (x7.2.2.2, false)))), (x15.2.1, (x9, (x10, (x11, (x15.1, (x18, (x15.2.2, x13)))))))))
               else none
              else none) fun (x20 : (((a2N × (Int × (Int × (Int × Bool)))) × (Y3_ × (Y9_ × (Y3_ × (Y9_ × (Y6_ × (Y6_ × ((List Y0_) × (List Y0_))))))))) ⊕ (afq ⊕ Bool))) =>
             match x20 with
             | Sum.inl x21 =>
               Option.bind (
                bif x21.1.2.2.2.2 then
                 bif decide (x21.2.2.2.2.2.2.2.2.length = x21.2.2.2.2.2.2.2.2.length) then
                  bif decide (x21.2.2.2.2.2.2.2.1.length = x21.2.2.2.2.2.2.2.1.length) then
                   some (Sum.inl ((x21.1.1, (x21.1.2.1, ((IntKind.i64.wrap (x21.1.2.2.1 + (1 : Int))), x21.1.2.2.2.1))), x21.2))
                  else none
                 else none
                else bif decide (x21.2.2.2.2.2.2.2.2.length = x21.2.2.2.2.2.2.2.2.length) then
                  bif decide (x21.2.2.2.2.2.2.2.1.length = x21.2.2.2.2.2.2.2.1.length) then
                   some (Sum.inl ((x21.1.1, (x21.1.2.1, (x21.1.2.2.1, x21.1.2.2.2.1))), x21.2))
                  else none
                 else none) fun (x22 : (((a2N × Y3_) × (Y3_ × (Y9_ × (Y3_ × (Y9_ × (Y6_ × (Y6_ × ((List Y0_) × (List Y0_))))))))) ⊕ (afq ⊕ Bool))) =>
                match x22 with
                | Sum.inl x23 =>
                  bif decide (x23.2.2.2.2.2.2.2.1.length = x23.2.2.2.2.2.2.2.1.length) then
                   Option.bind (zI x23.2.2.2.2.2.1 x23.2.1 x23.2.2.2.2.2.2.2.1) fun x24 =>
                    bif decide (x24.2.1.length = x24.2.1.length) then
                     Option.bind (jx x23.2.2.1 x24.1 x24.2.1) fun x25 =>
                      bif !x25.1 then
                       some (Sum.inr false)
                      else Option.bind (kX x23.2.2.2.2.2.2.1 x23.2.2.1.1 x23.2.2.1.2.1 x23.2.2.1.2.2) fun x26 =>
                        bif decide (x24.2.2.2.length = x24.2.2.2.length) then
                         Option.bind (jx x26 x24.2.2.1 x24.2.2.2) fun x27 =>
                          bif !x27.1 then
                           some (Sum.inr false)
                          else bif x23.2.2.2.2.2.2.1.1 then
                            bif x23.1.2.2.1 == x23.1.2.2.2 then
                             Option.bind (zS) fun x28 =>
                              bif x28 then
                               bif x23.1.2.1 == x23.1.2.2.1 then
                                bif decide (x23.2.2.2.2.2.2.2.2.length = x23.2.2.2.2.2.2.2.2.length) then
                                 Option.bind (jx x23.2.2.1 x23.2.2.2.1 x23.2.2.2.2.2.2.2.2) fun x29 =>
                                  some (Sum.inr x29.1)
                                else none
                               else some (Sum.inr false)
                              else some (Sum.inr false)
                            else Option.bind (kX x23.2.2.2.2.2.2.1 x23.2.2.1.1 x23.2.2.1.2.1 x23.2.2.1.2.2) fun x28 =>
                              bif decide (x23.2.2.2.2.2.2.2.2.length = x23.2.2.2.2.2.2.2.2.length) then
                               bif decide (x27.2.2.length = x27.2.2.length) then
                                some (Sum.inl ((x23.1.1, (x23.1.2.1, (x23.1.2.2.1, (IntKind.i64.wrap (x23.1.2.2.2 + (1 : Int)))))), (x27.2.1, (x28, (x23.2.2.2.1, (x28, (x27.2.2, x23.2.2.2.2.2.2.2.2)))))))
                               else none
                              else none
                           else Option.bind (kX x23.2.2.2.2.2.2.1 x23.2.2.1.1 x23.2.2.1.2.1 x23.2.2.1.2.2) fun x28 =>
                             bif decide (x23.2.2.2.2.2.2.2.2.length = x23.2.2.2.2.2.2.2.2.length) then
                              bif decide (x27.2.2.length = x27.2.2.length) then
                               some (Sum.inl ((x23.1.1, (x23.1.2.1, (x23.1.2.2.1, (IntKind.i64.wrap (x23.1.2.2.2 + (1 : Int)))))), (x27.2.1, (x28, (x23.2.2.2.1, (x28, (x27.2.2, x23.2.2.2.2.2.2.2.2)))))))
                              else none
                             else none
                        else none
                    else none
                  else none
                | Sum.inr x23 =>
                  some x23
             | Sum.inr x21 =>
               some x21
      else none
    else none
  else none
 else Option.bind (zS) fun x14 =>
   bif x14 then
    bif x7.2.1 == x7.2.2.1 then
     bif decide (x13.length = x13.length) then
      Option.bind (jx x11 x10 x13) fun x15 =>
       some (Sum.inr x15.1)
     else none
    else some (Sum.inr false)
   else some (Sum.inr false)
noncomputable def w6 : afq → Option Bool := qT fun s => jc s.1 s.2.1 s.2.2.1 s.2.2.2.1 s.2.2.2.2.1 s.2.2.2.2.2.1 s.2.2.2.2.2.2
noncomputable def KM (x0 : Int) (x1 : Int) (x2 : aaE) (x3 : a2N) : Option Bool :=
 Option.bind (yf x0 x1 x2) fun x4 =>
  match x4 with
  | Sum.inl x5 =>
    bif decide (((0 : Int) ≤ if 20 < (↑x3.length : Int) then (20 : Int) else (↑x3.length : Int)) ∧ (if 20 < (↑x3.length : Int) then (20 : Int) else (↑x3.length : Int)).toNat ≤ x3.length) then
     Option.bind (yE (List.take (if 20 < (↑x3.length : Int) then (20 : Int) else (↑x3.length : Int)).toNat x3)) fun x6 =>
      Option.bind (zS) fun x7 =>
       bif x7 then
        Option.bind (jK (3 : Int) (0 : Int)) fun x8 =>
         bif x8.1 == true && (x8.2.1 == false && (x8.2.2.1 == false && (x8.2.2.2.1 == 0 && (x8.2.2.2.2.1 == 0 && (x8.2.2.2.2.2.1 == 0 && (x8.2.2.2.2.2.2.1 == 0 && (x8.2.2.2.2.2.2.2.1 == 0 && true) && (x8.2.2.2.2.2.2.2.2.1 == 0 && (x8.2.2.2.2.2.2.2.2.2.1 == 0 && (x8.2.2.2.2.2.2.2.2.2.2.1 == 0 && (x8.2.2.2.2.2.2.2.2.2.2.2.1 == 0 && true)) && true))) && (x8.2.2.2.2.2.2.2.2.2.2.2.2.1 == 0 && (x8.2.2.2.2.2.2.2.2.2.2.2.2.2.1 == 0 && (x8.2.2.2.2.2.2.2.2.2.2.2.2.2.2.1 == 0 && true) && (x8.2.2.2.2.2.2.2.2.2.2.2.2.2.2.2.1 == 0 && (x8.2.2.2.2.2.2.2.2.2.2.2.2.2.2.2.2.1 == 0 && (x8.2.2.2.2.2.2.2.2.2.2.2.2.2.2.2.2.2.1 == 0 && (x8.2.2.2.2.2.2.2.2.2.2.2.2.2.2.2.2.2.2.1 == 0 && true)) && true))) && (x8.2.2.2.2.2.2.2.2.2.2.2.2.2.2.2.2.2.2.2.1 == 0 && (x8.2.2.2.2.2.2.2.2.2.2.2.2.2.2.2.2.2.2.2.2 == 0 && true)))))))) then
          Option.bind (y7 false false false (0 : Int) (0 : Int) (0 : Int) (0 : Int) (0 : Int) (0 : Int) (0 : Int) (0 : Int) (0 : Int) (0 : Int) (0 : Int) (0 : Int) (0 : Int) (0 : Int) (0 : Int) (0 : Int) (0 : Int) (0 : Int)) fun x9 =>
           some (x6 == 0)
         else some false
       else some false
    else none
  | Sum.inr x5 =>
    bif decide (((0 : Int) ≤ if 20 < (↑x3.length : Int) then (20 : Int) else (↑x3.length : Int)) ∧ (if 20 < (↑x3.length : Int) then (20 : Int) else (↑x3.length : Int)).toNat ≤ x3.length) then
     bif decide (x5.2.2.length = x5.2.2.length) then
      Option.bind (jC (List.take (if 20 < (↑x3.length : Int) then (20 : Int) else (↑x3.length : Int)).toNat x3) x5.2.1 x5.2.2) fun x6 =>
       bif decide (x6.2.2.2.2.length = x6.2.2.2.2.length) then
        bif decide (x6.2.2.1.length = x6.2.2.1.length) then
         Option.bind (w6 (((List.take (if 20 < (↑x3.length : Int) then (20 : Int) else (↑x3.length : Int)).toNat x3), (x6.1, (((0 : Int)), ((0 : Int))))), (x6.2.1, (x5.1, (x6.2.2.2.1, (x5.1, (x6.2.2.1, x6.2.2.2.2))))))) fun x7 =>
          some x7
        else none
       else none
     else none
    else none
noncomputable def a96 : TEnt := ⟨3, .cons (.int .i64) (.cons (.int .i64) (.cons (.sl aia) (.sl a5e))), [], [(.bool, [])], fun s => KM s.1 s.2.1 s.2.2.1 s.2.2.2⟩
theorem a0M : qu Tryz.prog a96 := qh (tab := [a5u, um, a5G, a4A, U8, Uy, Zh, WM, v7, Xg, QR, KQ, YH]) (loops := [(1227133514, [3, 9, 10, 13, 14, 15, 16, 17], (.cons (.sl a5e) (.cons (.ptr 0 0) (.cons (.ptr 1 0) (.cons (.ptr 2 0) (.cons (.int .i64) (.cons (.ptr 3 0) Y7_)))))), [.st (.cons (.int .i64) (.cons (.int .i64) (.cons (.own 4) (.int .i64)))), .st kL, .st (.cons (.int .i64) (.cons (.int .i64) (.cons (.own 5) (.int .i64)))), .st kL, .li (.sl Y1_) 104 false, .li (.sl Y1_) 104 false])]) (joins := [(20587884029715017, [3, 9, 10, 13, 14, 15, 16, 17, 18, 19, 97], (.cons (.sl a5e) (.cons (.ptr 0 0) (.cons (.ptr 1 0) (.cons (.ptr 2 0) (.cons (.int .i64) (.cons (.ptr 3 0) (.cons (.int .i64) (.cons (.int .i64) (.cons (.ptr 4 0) (.cons (.ptr 5 0) .bool)))))))))), [.st (.cons (.int .i64) (.cons (.int .i64) (.cons (.own 6) (.int .i64)))), .st kL, .st (.cons (.int .i64) (.cons (.int .i64) (.cons (.own 7) (.int .i64)))), .st kL, .st Y5_, .st abV, .li (.sl Y1_) 104 false, .li (.sl Y1_) 104 false]), (164703072237720137, [3, 9, 10, 13, 14, 15, 16, 17, 18, 19], (.cons (.sl a5e) (.cons (.ptr 0 0) (.cons (.ptr 1 0) (.cons (.ptr 2 0) (.cons (.int .i64) (.cons (.ptr 3 0) (.cons (.int .i64) (.cons (.int .i64) (.cons (.ptr 4 0) (.ptr 5 0)))))))))), [.st (.cons (.int .i64) (.cons (.int .i64) (.cons (.own 6) (.int .i64)))), .st kL, .st (.cons (.int .i64) (.cons (.int .i64) (.cons (.own 7) (.int .i64)))), .st kL, .st Y5_, .st abV, .li (.sl Y1_) 104 false, .li (.sl Y1_) 104 false])]) (un := []) _ (by
  intro e he
  simp only [List.mem_cons, List.not_mem_nil, or_false] at he
  rcases he with rfl | rfl | rfl | rfl | rfl | rfl | rfl | rfl | rfl | rfl | rfl | rfl | rfl
  ·exact a5J
  ·exact a17
  ·exact a5M
  ·exact a5F
  ·exact a13
  ·exact a0E
  ·exact QZ
  ·exact KV
  ·exact Yx
  ·exact a0i
  ·exact Zu
  ·exact Jr
  ·exact xk) (fun s => by kernel_rfl) (by kernel_rfl)
end Go.Sim
set_option maxRecDepth 100000
set_option maxHeartbeats 4000000
namespace Go.Sim
theorem adU {R C : Int} {c was : qc} (hc : OkC c) (hw : OkC was) (a b : Int) : Q2 false false true R C c.1 c.2.1.1 c.2.1.2 c.2.2.1 c.2.2.2.1 c.2.2.2.2.1 c.2.2.2.2.2 was.1 was.2.1.1 was.2.1.2 was.2.2.1 was.2.2.2.1 was.2.2.2.2.1 was.2.2.2.2.2 a b = some (ZB R C c was a b) := by
 unfold Q2
 rw [afW hc, afW hw]
 rfl
theorem aeo : IntKind.i64.wrap 0 = 0 := q9 (by omega) (by omega)
theorem aaL (ep : Bool) (a b : Int) : Q2 false ep false 0 0 0 0 0 0 0 0 0 0 0 0 0 0 0 0 a b = some (Qc ep a b) := by
 unfold Q2 wP Qc
 simp only [aeo, Option.bind_some]
theorem a8i : Q2 true false false 0 0 0 0 0 0 0 0 0 0 0 0 0 0 0 0 0 0 = some jZ := by
 unfold Q2 wP jZ
 simp only [aeo, Option.bind_some]
end Go.Sim
set_option maxRecDepth 100000
set_option maxHeartbeats 4000000
namespace Go.Sim
theorem aa6 (k r : Int) : jK k r = some jZ := by
 unfold jK jZ
 by_cases h1 : k = 1
 ·simp (disch := omega) only [qe, qk, cond_true, cond_false, decide_true]
 ·by_cases h2 : k = 2
  ·simp (disch := omega) only [qe, qk, cond_true, cond_false, decide_true]
  ·by_cases h3 : k = 3
   ·simp (disch := omega) only [qe, qk, cond_true, cond_false, decide_true]
   ·by_cases h4 : k = 4
    ·simp (disch := omega) only [qe, qk, cond_true, cond_false, decide_true]
    ·by_cases h5 : k = 5
     ·simp (disch := omega) only [qe, qk, cond_true, cond_false, decide_true]
     ·by_cases h6 : k = 6
      ·simp (disch := omega) only [qe, qk, cond_true, cond_false, decide_true]
      ·by_cases h7 : k = 7
       ·simp (disch := omega) only [qe, qk, cond_true, cond_false, decide_true]
       ·simp (disch := omega) only [qk, cond_true, cond_false, decide_true]
theorem aje (p : a08) : y7 p.1 p.2.1 p.2.2.1 p.2.2.2.1 p.2.2.2.2.1 p.2.2.2.2.2.1 p.2.2.2.2.2.2.1 p.2.2.2.2.2.2.2.1 p.2.2.2.2.2.2.2.2.1 p.2.2.2.2.2.2.2.2.2.1 p.2.2.2.2.2.2.2.2.2.2.1 p.2.2.2.2.2.2.2.2.2.2.2.1 p.2.2.2.2.2.2.2.2.2.2.2.2.1 p.2.2.2.2.2.2.2.2.2.2.2.2.2.1 p.2.2.2.2.2.2.2.2.2.2.2.2.2.2.1 p.2.2.2.2.2.2.2.2.2.2.2.2.2.2.2.1 p.2.2.2.2.2.2.2.2.2.2.2.2.2.2.2.2.1 p.2.2.2.2.2.2.2.2.2.2.2.2.2.2.2.2.2.1 p.2.2.2.2.2.2.2.2.2.2.2.2.2.2.2.2.2.2.1 p.2.2.2.2.2.2.2.2.2.2.2.2.2.2.2.2.2.2.2.1 p.2.2.2.2.2.2.2.2.2.2.2.2.2.2.2.2.2.2.2.2 = some () := by
 unfold y7
 cases p.1 <;> cases p.2.2.1 <;> rfl
theorem abL (a : Int) (b : List (Int × Int)) (c d : Int) : jR (a, b, c, d) = unr (jp a b c d) jR := jW _ _
theorem ahQ (l : List (Int × Int)) (hl : l.length ≤ 1000000) : yE l = some 0 := by
 unfold yE
 have : jR ((0 : Int), l, (l.length : Int), (0 : Int)) = some 0 := by
  rw [abL]
  unfold jp
  by_cases h : l.length = 0
  ·simp (disch := omega) only [qe, qk, q9, cond_true, cond_false, zC]
  ·obtain ⟨x, hx⟩ := qm (l := l) (i := 0) (by omega)
   have e0 : (0 : Int).toNat = 0 := rfl
   simp (disch := omega) only [qe, q9, cond_true, Option.bind_some, zC, e0, hx, aa6, jZ]
 rw [this]
 rfl
end Go.Sim
set_option maxRecDepth 100000
set_option maxHeartbeats 4000000
namespace Go.Sim
noncomputable def stepG (L : qg) (cols row col : Nat) (k r : Int) : qg × Nat × Nat :=
 match kX (qJ L cols k r row col) L (row : Int) (col : Int) with
 | some (L', r', c') => (L', r'.toNat, c'.toNat)
 | none => (L, row, col)
theorem XU {L : qg} {cols row col : Nat} (hG : GOk L cols) (hr : row < L.length) (hc : col < cols) (k : Int) {r : Int} (hr32 : zU r) :
  GOk (stepG L cols row col k r).1 cols ∧ (stepG L cols row col k r).1.length = L.length ∧ (stepG L cols row col k r).2.1 < (stepG L cols row col k r).1.length ∧ (stepG L cols row col k r).2.2 < cols ∧
   zI (qJ L cols k r row col) ((row : Int), (col : Int), (cols : Int)) L = some (((row : Int), (col : Int), (cols : Int)), L, (((stepG L cols row col k r).2.1 : Int), ((stepG L cols row col k r).2.2 : Int), (cols : Int)), (stepG L cols row col k r).1) ∧
   kX (qJ L cols k r row col) L (row : Int) (col : Int) = some ((stepG L cols row col k r).1, ((stepG L cols row col k r).2.1 : Int), ((stepG L cols row col k r).2.2 : Int)) := by
 obtain ⟨L', row', col', h1, h2, h3, h4, h5, h6⟩ := aao hG hr hc k hr32
 have e : stepG L cols row col k r = (L', row', col') := by
  unfold stepG
  rw [h6]
  rfl
 rw [e]
 exact ⟨h1, h2, h3, h4, h5, h6⟩
noncomputable def kp (cols : Nat) : List (Int × Int) → qg × Nat × Nat → Nat × (qg × Nat × Nat)
 | [], s => (0, s)
 | x :: r, s => if (qJ s.1 cols x.1 x.2 s.2.1 s.2.2).1 = true then (0, s) else
   ((kp cols r (stepG s.1 cols s.2.1 s.2.2 x.1 x.2)).1 + 1, (kp cols r (stepG s.1 cols s.2.1 s.2.2 x.1 x.2)).2)
theorem a2f {α : Type} {l : List α} {i : Nat} {x : α} (h : l[i]? = some x) : l.drop i = x :: l.drop (i + 1) := by
 obtain ⟨h1, h2⟩ := List.getElem?_eq_some_iff.1 h
 rw [← h2]
 exact List.drop_eq_getElem_cons h1
theorem adp (a : Int × (List (Int × Int) × (Int × Int))) (b : Int × (Int × Int)) (c : qg) (d : Int × (Int × Int)) (e : qg) : w8 (a, b, c, d, e) = unr (j6 a b c d e) w8 := jW _ _
theorem ada {keys : List (Int × Int)} (hk : ∀ x ∈ keys, zU x.2) (hl : keys.length ≤ 1000000) (g0 : Int × (Int × Int)) (L0 : qg) : ∀ (k i n : Nat) (L : qg) (cols row col : Nat), k = keys.length - i → i ≤ keys.length → n ≤ i → GOk L cols → row < L.length → col < cols →
  w8 (((n : Int), keys, (keys.length : Int), (i : Int)), g0, L0, ((row : Int), (col : Int), (cols : Int)), L) =
   some (((n + (kp cols (keys.drop i) (L, row, col)).1 : Nat) : Int), g0, L0, (((kp cols (keys.drop i) (L, row, col)).2.2.1 : Int), ((kp cols (keys.drop i) (L, row, col)).2.2.2 : Int), (cols : Int)), (kp cols (keys.drop i) (L, row, col)).2.1) := by
 intro k
 induction k with
 | zero =>
  intro i n L cols row col hki hi hn hG hr hc
  have e : keys.drop i = [] := List.drop_eq_nil_of_le (by omega)
  rw [e, adp]
  unfold j6
  simp only [kp]
  simp (disch := omega) only [qe, qk, q9, cond_true, cond_false, Int.toNat_natCast, decide_true, zC, Nat.add_zero]
 | succ k ih =>
  intro i n L cols row col hki hi hn hG hr hc
  obtain ⟨x, hx⟩ := qm (l := keys) (i := i) (by omega)
  have hx32 := hk x (List.mem_of_getElem? hx)
  have e1 : ((i : Int) + 1) = ((i + 1 : Nat) : Int) := by omega
  have e2 : ((n : Int) + 1) = ((n + 1 : Nat) : Int) := by omega
  obtain ⟨s1, s2, s3, s4, s5, s6⟩ := XU hG hr hc x.1 hx32
  have hnx := a2b hG hr hc x.1 x.2
  have ih' := ih (i + 1) (n + 1) _ cols _ _ (by omega) (by omega) (by omega) s1 s3 s4
  rw [a2f hx, adp]
  unfold j6
  simp only [kp]
  by_cases hb : (qJ L cols x.1 x.2 row col).1 = true
  ·rw [if_pos hb]
   simp (disch := omega) only [qe, q9, cond_true, Option.bind_some, Int.toNat_natCast, decide_true, zC, hx, hnx, hb, Nat.add_zero]
  ·rw [if_neg hb]
   have hb' : (qJ L cols x.1 x.2 row col).1 = false := by simpa using hb
   have e3 : n + 1 + (kp cols (keys.drop (i + 1)) (stepG L cols row col x.1 x.2)).1 = n + ((kp cols (keys.drop (i + 1)) (stepG L cols row col x.1 x.2)).1 + 1) := by omega
   rw [show ((stepG L cols row col x.1 x.2).1, (stepG L cols row col x.1 x.2).2.1, (stepG L cols row col x.1 x.2).2.2) = stepG L cols row col x.1 x.2 from rfl, e3] at ih'
   have s5' : zI (false, (qJ L cols x.1 x.2 row col).2.1, (qJ L cols x.1 x.2 row col).2.2.1, (qJ L cols x.1 x.2 row col).2.2.2.1, (qJ L cols x.1 x.2 row col).2.2.2.2.1, (qJ L cols x.1 x.2 row col).2.2.2.2.2.1, (qJ L cols x.1 x.2 row col).2.2.2.2.2.2.1, (qJ L cols x.1 x.2 row col).2.2.2.2.2.2.2.1, (qJ L cols x.1 x.2 row col).2.2.2.2.2.2.2.2.1, (qJ L cols x.1 x.2 row col).2.2.2.2.2.2.2.2.2.1, (qJ L cols x.1 x.2 row col).2.2.2.2.2.2.2.2.2.2.1, (qJ L cols x.1 x.2 row col).2.2.2.2.2.2.2.2.2.2.2.1, (qJ L cols x.1 x.2 row col).2.2.2.2.2.2.2.2.2.2.2.2.1, (qJ L cols x.1 x.2 row col).2.2.2.2.2.2.2.2.2.2.2.2.2.1, (qJ L cols x.1 x.2 row col).2.2.2.2.2.2.2.2.2.2.2.2.2.2.1, (qJ L cols x.1 x.2 row col).2.2.2.2.2.2.2.2.2.2.2.2.2.2.2.1, (qJ L cols x.1 x.2 row col).2.2.2.2.2.2.2.2.2.2.2.2.2.2.2.2.1, (qJ L cols x.1 x.2 row col).2.2.2.2.2.2.2.2.2.2.2.2.2.2.2.2.2.1, (qJ L cols x.1 x.2 row col).2.2.2.2.2.2.2.2.2.2.2.2.2.2.2.2.2.2.1, (qJ L cols x.1 x.2 row col).2.2.2.2.2.2.2.2.2.2.2.2.2.2.2.2.2.2.2.1, (qJ L cols x.1 x.2 row col).2.2.2.2.2.2.2.2.2.2.2.2.2.2.2.2.2.2.2.2) ((row : Int), (col : Int), (cols : Int)) L = some (((row : Int), (col : Int), (cols : Int)), L, (((stepG L cols row col x.1 x.2).2.1 : Int), ((stepG L cols row col x.1 x.2).2.2 : Int), (cols : Int)), (stepG L cols row col x.1 x.2).1) := by
    rw [← hb']
    exact s5
   simp (disch := omega) only [qe, q9, cond_true, cond_false, Option.bind_some, Int.toNat_natCast, decide_true, z6, hx, hnx, hb', s5', e1, e2, ih']
theorem uA {keys : List (Int × Int)} (hk : ∀ x ∈ keys, zU x.2) (hl : keys.length ≤ 1000000) {L : qg} {cols row col : Nat} (hG : GOk L cols) (hr : row < L.length) (hc : col < cols) :
  jC keys ((row : Int), (col : Int), (cols : Int)) L = some (((kp cols keys (L, row, col)).1 : Int), ((row : Int), (col : Int), (cols : Int)), L, (((kp cols keys (L, row, col)).2.2.1 : Int), ((kp cols keys (L, row, col)).2.2.2 : Int), (cols : Int)), (kp cols keys (L, row, col)).2.1) := by
 unfold jC
 have hcp := Qv hG.small (by have := hG.rows; omega) ((row : Int), (col : Int), (cols : Int))
 have h := ada hk hl ((row : Int), (col : Int), (cols : Int)) L keys.length 0 0 L cols row col (by omega) (by omega) (by omega) hG hr hc
 rw [List.drop_zero, Nat.zero_add] at h
 have h' : w8 (((0 : Int), keys, (keys.length : Int), (0 : Int)), ((row : Int), (col : Int), (cols : Int)), L, ((row : Int), (col : Int), (cols : Int)), L) = _ := h
 simp (disch := omega) only [cond_true, Option.bind_some, decide_true, hcp, h']
end Go.Sim
set_option maxRecDepth 100000
set_option maxHeartbeats 4000000
namespace Go.Sim
theorem a1Z {L : qg} {cols row col : Nat} {k r R C a b : Int} {c was : qc} (hG : GOk L cols) (hC : va C) (hc : OkC c) (h : qJ L cols k r row col = ZB R C c was a b) :
  stepG L cols row col k r = ((zW L R fun l => jY l C c).2, qM a L.length, qM b cols) := by
 unfold stepG
 rw [h, aad hG hC hc]
 rfl
theorem a8a {L : qg} {cols row col : Nat} {k r a b : Int} {ep : Bool} (hG : GOk L cols) (h : qJ L cols k r row col = Qc ep a b) :
  stepG L cols row col k r = (L, qM a L.length, qM b cols) := by
 unfold stepG
 rw [h, a5b hG]
 rfl
def aC (r : Int) : qc := (r, (0, 0), 1, 0, 0, 0)
theorem ahp {r : Int} (h : zU r) : OkC (aC r) := ⟨h, (by unfold zU aC; simp), (by unfold zU aC; simp), (by unfold u8r aC; simp), W7, W7, W7⟩
theorem afu : GOk [[aC 32, aC 32, aC 32]] 3 := GOk.new (rows := 1) (cols := 3) rfl rfl
theorem n1 : qJ [[aC 32, aC 32, aC 32]] 3 1 97 0 0 = ZB 0 0 (aC 97) (aC 32) 0 1 := by rfl
theorem t1 : (zW [[aC 32, aC 32, aC 32]] 0 fun l => jY l 0 (aC 97)).2 = [[aC 97, aC 32, aC 32]] := by rfl
theorem n2 : qJ [[aC 97, aC 32, aC 32]] 3 1 98 0 1 = ZB 0 1 (aC 98) (aC 32) 0 2 := by rfl
theorem t2 : (zW [[aC 97, aC 32, aC 32]] 0 fun l => jY l 1 (aC 98)).2 = [[aC 97, aC 98, aC 32]] := by rfl
theorem n3 : qJ [[aC 97, aC 98, aC 32]] 3 1 99 0 2 = jZ := by rfl
theorem n4 : qJ [[aC 97, aC 98, aC 32]] 3 3 0 0 2 = Qc false 0 1 := by rfl
theorem s1 : stepG [[aC 32, aC 32, aC 32]] 3 0 0 1 97 = ([[aC 97, aC 32, aC 32]], 0, 1) := by
 rw [a1Z afu (by unfold va; omega) (ahp (by unfold zU; omega)) n1, t1]
 rfl
theorem aiO : GOk [[aC 97, aC 32, aC 32]] 3 := by
 have := (XU afu (row := 0) (col := 0) (by decide) (by decide) 1 (r := 97) (by unfold zU; omega)).1
 rwa [s1] at this
theorem s2 : stepG [[aC 97, aC 32, aC 32]] 3 0 1 1 98 = ([[aC 97, aC 98, aC 32]], 0, 2) := by
 rw [a1Z aiO (by unfold va; omega) (ahp (by unfold zU; omega)) n2, t2]
 rfl
theorem gok2 : GOk [[aC 97, aC 98, aC 32]] 3 := by
 have := (XU aiO (row := 0) (col := 1) (by decide) (by decide) 1 (r := 98) (by unfold zU; omega)).1
 rwa [s2] at this
theorem s4 : stepG [[aC 97, aC 98, aC 32]] 3 0 2 3 0 = ([[aC 97, aC 98, aC 32]], 0, 1) := by
 rw [a8a gok2 n4]
 rfl
theorem k1 : kp 3 [(1, 97), (1, 98), (1, 99)] ([[aC 32, aC 32, aC 32]], 0, 0) = (2, [[aC 97, aC 98, aC 32]], 0, 2) := by
 simp only [kp, n1, s1, n2, s2, n3, ZB, jZ, if_true, Bool.false_eq_true, if_false]
theorem k2 : kp 3 [(1, 97), (1, 98), (3, 0)] ([[aC 32, aC 32, aC 32]], 0, 0) = (3, [[aC 97, aC 98, aC 32]], 0, 1) := by
 simp only [kp, n1, s1, n2, s2, n4, s4, ZB, Qc, Bool.false_eq_true, if_false]
theorem a2C : zS = some true := by
 have a0 : wp 1 3 = some (.inr ((0, 0, 3), [[aC 32, aC 32, aC 32]])) := Y4 1 3
 have hk : ∀ {x y z : Int × Int}, zU x.2 → zU y.2 → zU z.2 → ∀ w ∈ [x, y, z], zU w.2 := by
  intro x y z h1 h2 h3 w hw
  simp only [List.mem_cons, List.not_mem_nil, or_false] at hw
  rcases hw with rfl | rfl | rfl
  ·exact h1
  ·exact h2
  ·exact h3
 have a1 : jC [(1, 97), (1, 98), (1, 99)] (0, 0, 3) [[aC 32, aC 32, aC 32]] = some (2, (0, 0, 3), [[aC 32, aC 32, aC 32]], (0, 2, 3), [[aC 97, aC 98, aC 32]]) := by
  have := uA (keys := [(1, 97), (1, 98), (1, 99)]) (hk (by unfold zU; omega) (by unfold zU; omega) (by unfold zU; omega)) (by decide) afu (row := 0) (col := 0) (by decide) (by decide)
  rw [k1] at this
  exact this
 have a2 : jC [(1, 97), (1, 98), (3, 0)] (0, 0, 3) [[aC 32, aC 32, aC 32]] = some (3, (0, 0, 3), [[aC 32, aC 32, aC 32]], (0, 1, 3), [[aC 97, aC 98, aC 32]]) := by
  have := uA (keys := [(1, 97), (1, 98), (3, 0)]) (hk (by unfold zU; omega) (by unfold zU; omega) (by unfold zU; omega)) (by decide) afu (row := 0) (col := 0) (by decide) (by decide)
  rw [k2] at this
  exact this
 have a3 : yu (0, 1) (0, 2, 3) [[aC 97, aC 98, aC 32]] = some ((zD (aC 98), true), (0, 2, 3), [[aC 97, aC 98, aC 32]]) := a35 (cols := 3) (fun l hl => (gok2.line l hl).len) 0 1 0 2
 unfold zS
 simp (disch := omega) only [cond_true, Option.bind_some, decide_true, a0, a1, a2, a3, z4, beq_self_eq_true]
 rfl
end Go.Sim
set_option maxRecDepth 100000
set_option maxHeartbeats 4000000
namespace Go.Sim
theorem a5V {L : qg} {cols row col : Nat} (hG : GOk L cols) (hr : row < L.length) (hc : col < cols) (k r : Int) : qJ L cols k r row col = jZ ∨
  (∃ (ep : Bool) (a b : Nat), a < L.length ∧ b < cols ∧ qJ L cols k r row col = Qc ep a b) ∨
  col + 1 < cols ∧ qJ L cols k r row col = ZB (row : Int) (col : Int) (Q9 L cols row col r) (atP L cols row col).1 (row : Int) ((col + 1 : Nat) : Int) := by
 have hrows := hG.rows
 have hwide := hG.wide
 unfold qJ
 split
 ·unfold xr
  split
  ·rename_i h
   exact .inr (.inr ⟨by omega, rfl⟩)
  ·exact .inl rfl
 ·split
  ·unfold a1O
   refine .inr (.inl ⟨decide (k = 7) || (decide (k = 5) || decide (k = 6)), qM ((row : Int) + (kH k r).1) L.length, if k = 7 then 0 else qM ((col : Int) + (kH k r).2) cols, wc (by omega), ?_, ?_⟩)
   ·split
    ·omega
    ·exact wc (by omega)
   ·split
    ·rfl
    ·rfl
  ·exact .inl rfl
end Go.Sim
set_option maxRecDepth 100000
set_option maxHeartbeats 4000000
namespace Go.Sim
theorem GOk.same {L : qg} {cols : Nat} (hG : GOk L cols) (r c : Int) : jx (L, r, c) (r, c, (cols : Int)) L = some (true, (r, c, (cols : Int)), L) := by
 obtain ⟨l0, h0, hl⟩ := hG.first
 have := afv hG.small (by have := hG.rows; omega) hG.ok h0 r c
 rwa [hl] at this
theorem ajx {k r : Int} (h : zU r) : vQ k r = some (k, r) := by
 unfold vQ
 unfold zU at h
 simp (disch := omega) only [q9]
theorem aag (a : List (Int × Int) × Y3_) (b : Int × (Int × Int)) (c : qg × (Int × Int)) (d : Int × (Int × Int)) (e : qg × (Int × Int)) (f g : qg) : w6 (a, b, c, d, e, f, g) = unr (jc a b c d e f g) w6 := jW _ _
theorem acx {keys : List (Int × Int)} (hk : ∀ x ∈ keys, zU x.2) (hl : keys.length ≤ 20) : ∀ (k i : Nat) (L : qg) (cols row col : Nat), k = keys.length - i → i ≤ keys.length → GOk L cols → row < L.length → col < cols →
  w6 ((keys, ((i + (kp cols (keys.drop i) (L, row, col)).1 : Nat) : Int), (i : Int), (i : Int)), ((row : Int), (col : Int), (cols : Int)), (L, (row : Int), (col : Int)),
   (((kp cols (keys.drop i) (L, row, col)).2.2.1 : Int), ((kp cols (keys.drop i) (L, row, col)).2.2.2 : Int), (cols : Int)), (L, (row : Int), (col : Int)), L, (kp cols (keys.drop i) (L, row, col)).2.1) = some true := by
 intro k
 induction k with
 | zero =>
  intro i L cols row col hki hi hG hr hc
  have e : keys.drop i = [] := List.drop_eq_nil_of_le (by omega)
  have hsm := hG.same row col
  rw [e, aag]
  unfold jc
  simp only [kp]
  simp (disch := omega) only [qe, qk, q9, cond_true, cond_false, Option.bind_some, Int.toNat_natCast, decide_true, zC, Nat.add_zero, a2C, hsm, beq_self_eq_true]
 | succ k ih =>
  intro i L cols row col hki hi hG hr hc
  obtain ⟨x, hx⟩ := qm (l := keys) (i := i) (by omega)
  have hx32 := hk x (List.mem_of_getElem? hx)
  have e1 : ((i : Int) + 1) = ((i + 1 : Nat) : Int) := by omega
  obtain ⟨s1, s2, s3, s4, s5, s6⟩ := XU hG hr hc x.1 hx32
  have hnx := a2b hG hr hc x.1 x.2
  have hrn := aj4 hG hr hc x.1 x.2
  have h22 := ajx (k := x.1) hx32
  have hsm := hG.same row col
  have hsm' := s1.same ((stepG L cols row col x.1 x.2).2.1 : Int) ((stepG L cols row col x.1 x.2).2.2 : Int)
  have ih' := ih (i + 1) _ cols _ _ (by omega) (by omega) s1 s3 s4
  have e3 : i + 1 + (kp cols (keys.drop (i + 1)) (stepG L cols row col x.1 x.2)).1 = i + ((kp cols (keys.drop (i + 1)) (stepG L cols row col x.1 x.2)).1 + 1) := by omega
  rw [show ((stepG L cols row col x.1 x.2).1, (stepG L cols row col x.1 x.2).2.1, (stepG L cols row col x.1 x.2).2.2) = stepG L cols row col x.1 x.2 from rfl, e3] at ih'
  rw [a2f hx, aag]
  unfold jc
  simp only [kp]
  rcases a5V hG hr hc x.1 x.2 with hq | ⟨ep, a, b, ha', hb', hq⟩ | ⟨hcc, hq⟩
  ·rw [if_pos (show (qJ L cols x.1 x.2 row col).1 = true by rw [hq]; rfl)]
   have hd := a72 hG.small (by have := hG.rows; omega) ((row : Int), (col : Int), (cols : Int))
   have hrd := a1T L row col
   have hof := a8i
   rw [hq] at hnx hrn
   unfold jZ at hnx hrn hd hrd hof
   simp (disch := omega) only [qe, q9, cond_true, cond_false, Option.bind_some, Int.toNat_natCast, Bool.not_true, decide_true, zC, hx, hnx, h22, hrn, hof, hd, hrd, hsm, a2C, Nat.add_zero, beq_self_eq_true, Bool.and_self, Bool.and_true]
  ·rw [if_neg (show ¬ (qJ L cols x.1 x.2 row col).1 = true by rw [hq]; unfold Qc; simp)]
   have hof := aaL ep a b
   rw [hq] at hnx hrn s5 s6
   unfold Qc at hnx hrn s5 s6 hof
   generalize stepG L cols row col x.1 x.2 = s at *
   simp (disch := omega) only [qe, qL, q9, cond_true, cond_false, Option.bind_some, Int.toNat_natCast, Bool.not_true, Bool.not_false, decide_true, z6, hx, hnx, h22, hrn, hof, s5, s6, hsm, hsm', e1, ih', beq_self_eq_true, Bool.and_self, Bool.and_true]
  ·rw [if_neg (show ¬ (qJ L cols x.1 x.2 row col).1 = true by rw [hq]; unfold ZB; simp)]
   have hof := adU (R := (row : Int)) (C := (col : Int)) (a1K (row := row) (col := col) hG hx32) (aeO hG row col) (row : Int) ((col + 1 : Nat) : Int)
   rw [hq] at hnx hrn s5 s6
   unfold ZB at hnx hrn s5 s6 hof
   generalize stepG L cols row col x.1 x.2 = s at *
   generalize Q9 L cols row col x.2 = c at *
   generalize (atP L cols row col).1 = w at *
   simp (disch := omega) only [qe, qL, q9, cond_true, cond_false, Option.bind_some, Int.toNat_natCast, Bool.not_true, Bool.not_false, decide_true, z6, hx, hnx, h22, hrn, hof, s5, s6, hsm, hsm', e1, ih', beq_self_eq_true, Bool.and_self, Bool.and_true]
theorem aed {rows cols : Int} {acs : List abA} {keys : List (Int × Int)} (ha : ∀ a ∈ acs, OkA a) (hk : ∀ x ∈ keys, zU x.2) : KM rows cols acs keys = some true := by
 unfold KM
 have e0 : (if (20 : Int) < (keys.length : Int) then (20 : Int) else (keys.length : Int)).toNat = min 20 keys.length := by split <;> omega
 have e1 : (0 : Int) ≤ (if (20 : Int) < (keys.length : Int) then (20 : Int) else (keys.length : Int)) := by split <;> omega
 have e2 : keys.take (min 20 keys.length) = keys.take 20 := by
  by_cases h : 20 ≤ keys.length
  ·rw [Nat.min_eq_left h]
  ·rw [Nat.min_eq_right (by omega), List.take_of_length_le (Nat.le_refl _), List.take_of_length_le (by omega)]
 have e3 : (keys.take 20).length ≤ 20 := by rw [List.length_take]; omega
 have hk' : ∀ x ∈ keys.take 20, zU x.2 := fun x q => hk x (List.mem_of_mem_take q)
 simp only [e0, e2]
 rw [decide_eq_true (p := _ ∧ _) ⟨e1, Nat.min_le_right _ _⟩]
 rcases ajC (rows := rows) (cols := cols) ha with h | ⟨L, cols', row, col, hG, hr, hc, h⟩
 ·have h1 := ahQ (keys.take 20) (by omega)
  have h2 := aa6 3 0
  have h3 := aje (false, false, false, 0, 0, 0, 0, 0, 0, 0, 0, 0, 0, 0, 0, 0, 0, 0, 0, 0, 0)
  unfold jZ at h2
  simp (disch := omega) only [cond_true, Option.bind_some, decide_true, h, h1, h2, h3, a2C, beq_self_eq_true, Bool.and_self, Bool.and_true]
 ·have h1 := uA hk' (by omega) hG hr hc
  have h2 := acx hk' e3 (keys.take 20).length 0 L cols' row col (by omega) (by omega) hG hr hc
  rw [List.drop_zero, Nat.zero_add] at h2
  have h2' : w6 ((keys.take 20, (((kp cols' (keys.take 20) (L, row, col)).1 : Nat) : Int), (0 : Int), (0 : Int)), ((row : Int), (col : Int), (cols' : Int)), (L, (row : Int), (col : Int)),
   (((kp cols' (keys.take 20) (L, row, col)).2.2.1 : Int), ((kp cols' (keys.take 20) (L, row, col)).2.2.2 : Int), (cols' : Int)), (L, (row : Int), (col : Int)), L, (kp cols' (keys.take 20) (L, row, col)).2.1) = some true := h2
  simp (disch := omega) only [cond_true, Option.bind_some, decide_true, h, h1, h2']
end Go.Sim
namespace Go.Sim
open Go.RowKit
def KD (P : Program) (pt : TypeId → Bool) : List Field → Nat → Nat → Bool
 | [], off, n => decide (off = n)
 | f :: fs, off, n => decide (f.offset = off) && pt f.type && KD P pt fs (off + P.cellsOf f.type) n
def wm (P : Program) : Nat → TypeId → Bool
 | 0, _ => false
 | d + 1, t => match P.underlying t with
  | some .bool => true
  | some (.int _) => true
  | some .string => true
  | some (.slice e) => wm P d e && decide (0 < P.cellsOf e)
  | some (.struct fs) => KD P (wm P d) fs.toList 0 (P.cellsOf t)
  | some (.array n e) => wm P d e && decide (n * P.cellsOf e = P.cellsOf t)
  | _ => false
def RV (P : Program) (h : Heap) : Nat → TypeId → List Value → Prop
 | 0, _, _ => False
 | d + 1, t, cs => match P.underlying t with
  | some .bool => ∃ b, cs = [.bool b]
  | some (.int k) => ∃ x, cs = [.int k x] ∧ (Lit.int k x).wf = true
  | some .string => ∃ s : ByteArray, cs = [.string s] ∧ s.size ≤ maxLen
  | some (.slice e) => cs = [.slice none 0 0] ∨ cs = [.slice (some ⟨0, 0, none⟩) 0 dud] ∨ ∃ (b : Nat) (rows : List (List Value)), cs = [.slice (some ⟨b, 0, none⟩) rows.length qB] ∧ rows ≠ [] ∧ rows.length ≤ maxLen ∧
    h.get b = some (.cells rows.flatten e false) ∧ ∀ r ∈ rows, r.length = P.cellsOf e ∧ RV P h d e r
  | some (.struct fs) => cs.length = P.cellsOf t ∧ ∀ f ∈ fs.toList, RV P h d f.type ((cs.drop f.offset).take (P.cellsOf f.type))
  | some (.array n e) => cs.length = P.cellsOf t ∧ ∀ i, i < n → RV P h d e ((cs.drop (i * P.cellsOf e)).take (P.cellsOf e))
  | _ => False
theorem RV.ext {P : Program} {h h' : Heap} (hx : Ext h h') : ∀ {d : Nat} {t : TypeId} {cs : List Value}, RV P h d t cs → RV P h' d t cs
 | 0, _, _, q => q
 | d + 1, t, cs, q => by
  unfold RV at q ⊢
  split at q
  ·exact q
  ·exact q
  ·exact q
  ·rcases q with q | q | ⟨b, rows, h1, h0, h2, h3, h4⟩
   ·exact .inl q
   ·exact .inr (.inl q)
   ·exact .inr (.inr ⟨b, rows, h1, h0, h2, (hx.get b (h.wf _ _ h3)).trans h3, fun r hr => ⟨(h4 r hr).1, (h4 r hr).2.ext hx⟩⟩)
  ·exact ⟨q.1, fun f hf => (q.2 f hf).ext hx⟩
  ·exact ⟨q.1, fun i hi => (q.2 i hi).ext hx⟩
  ·exact q
def RO (h : Heap) : Prop := ∀ b o, h.get b = some o → o.rw = false
structure Lift (P : Program) (w : World) (β : Place) (h : Heap) (β' : Place) (h' : Heap) : Prop where
 rel : Rel P β' h' w
 ro : RO h'
 place : ∀ b x, β b = some x → β' b = some x
 ext : Ext h h'
theorem Lift.refl {P : Program} {w : World} {β : Place} {h : Heap} (hr : Rel P β h w) (ho : RO h) : Lift P w β h β h := ⟨hr, ho, fun _ _ e => e, Ext.refl h⟩
theorem Lift.trans {P : Program} {w : World} {β β1 β2 : Place} {h h1 h2 : Heap} (x : Lift P w β h β1 h1) (y : Lift P w β1 h1 β2 h2) : Lift P w β h β2 h2 :=
 ⟨y.rel, y.ro, fun b q e => y.place _ _ (x.place _ _ e), x.ext.trans y.ext⟩
theorem Lift.push {P : Program} {w : World} {β : Place} {h : Heap} (hr : Rel P β h w) (ho : RO h) {m off : Nat} {mc : Array Value} {te e : TypeId} {fr : Nat × Nat} {cs : List Value}
  (hm : w.heap[m]? = some (.cells mc te fr)) (hle : off + cs.length ≤ mc.size) (hv : VRels β cs ((mc.toList.drop off).take cs.length)) :
  Lift P w β h (β.add h.next m ⟨off, 0, 0⟩) (h.push (.cells cs e false)) := by
 have hn := hr.noNext
 have hmono := Place.add_mono m ⟨off, 0, 0⟩ hn
 have hmw : m < w.heap.size := (Array.getElem?_eq_some_iff.1 hm).1
 have old : ∀ b, b ≠ h.next → (h.push (.cells cs e false)).get b = h.get b := fun b hb => Heap.get_push_ne _ _ hb
 refine ⟨⟨fun b m1 s1 q => ?_, fun b m1 s1 o q g => ?_, fun b b' m1 s1 s2 o o' q q' g g' hrw => ?_⟩, fun b o g => ?_, hmono, (Ext.refl h).push _⟩
 ·by_cases hb : b = h.next
  ·subst hb; rw [Place.add_same] at q; cases q; exact ⟨by simp, hmw⟩
  ·rw [Place.add_ne _ _ _ hb] at q
   obtain ⟨h1, h2⟩ := hr.dom b m1 s1 q
   exact ⟨by simp; omega, h2⟩
 ·by_cases hb : b = h.next
  ·subst hb
   rw [Place.add_same] at q
   cases q
   rw [Heap.get_push_self] at g
   cases g
   exact ⟨mc, fr, te, hm, hle, hv.mono hmono, fun e => by cases e⟩
  ·rw [Place.add_ne _ _ _ hb] at q
   rw [old b hb] at g
   exact (hr.obj b m1 s1 o q g).mono hmono rfl
 ·exfalso
  by_cases hb : b = h.next
  ·subst hb; rw [Heap.get_push_self] at g; cases g; cases hrw
  ·rw [old b hb] at g; rw [ho b o g] at hrw; cases hrw
 ·by_cases hb : b = h.next
  ·subst hb; rw [Heap.get_push_self] at g; cases g; rfl
  ·rw [old b hb] at g; exact ho b o g
section
variable {H : Type} {enc : TypeId × Value → H} {P : Program} {w : World}
theorem xx (d : Nat) (t : TypeId) (step : ∀ (n : Nat) (cs : List Value) (x : DataW H × List MemPlace), DataW.trod enc P w 0 (fun _ => true) true n t cs = some x → ∀ β h, Rel P β h w → RO h →
   ∃ β' h' acs, Lift P w β h β' h' ∧ VRels β' acs cs ∧ RV P h' d t acs) :
  ∀ (ls : List (List Value)), (∀ l ∈ ls, ∃ n x, DataW.trod enc P w 0 (fun _ => true) true n t l = some x) → ∀ β h, Rel P β h w → RO h →
   ∃ (β' : Place) (h' : Heap) (als : List (List Value)), Lift P w β h β' h' ∧ VRels β' als.flatten ls.flatten ∧ als.length = ls.length ∧ (∀ (i : Nat) (a : List Value), als[i]? = some a → ∃ l : List Value, ls[i]? = some l ∧ a.length = l.length ∧ RV P h' d t a)
 | [], _, β, h, hr, ho => ⟨β, h, [], Lift.refl hr ho, .nil, rfl, fun i a e => by simp at e⟩
 | l :: ls, hl, β, h, hr, ho => by
  obtain ⟨n, x, e⟩ := hl l (by simp)
  obtain ⟨β1, h1, acs, L1, v1, r1⟩ := step n l x e β h hr ho
  obtain ⟨β2, h2, als, L2, v2, hlen, r2⟩ := xx d t step ls (fun l' h' => hl l' (by simp [h'])) β1 h1 L1.rel L1.ro
  refine ⟨β2, h2, acs :: als, L1.trans L2, ?_, by simp [hlen], fun i a e => ?_⟩
  ·simp only [List.flatten_cons]
   exact (v1.mono L2.place).append v2
  ·cases i with
   | zero => simp at e; subst e; exact ⟨l, rfl, v1.length, r1.ext L2.ext⟩
   | succ i => simpa using r2 i a (by simpa using e)
theorem vu : ∀ (ls : List (List Value)) (z : Nat), (∀ l ∈ ls, l.length = z) → ls.flatten.length = ls.length * z
 | [], z, _ => by simp
 | a :: ls, z, hz => by
  rw [List.flatten_cons, List.length_append, vu ls z (fun l h => hz l (by simp [h])), hz a (by simp), List.length_cons, Nat.add_mul]
  omega
theorem a2D : ∀ (ls : List (List Value)) (z i : Nat) (l : List Value), (∀ l ∈ ls, l.length = z) → ls[i]? = some l → (ls.flatten.drop (i * z)).take z = l
 | [], z, i, l, _, e => by simp at e
 | a :: ls, z, 0, l, hz, e => by
  simp at e; subst e
  have := hz a (by simp)
  simp [← this]
 | a :: ls, z, i + 1, l, hz, e => by
  have ha := hz a (by simp)
  have := a2D ls z i l (fun l h => hz l (by simp [h])) (by simpa using e)
  rw [List.flatten_cons, List.drop_append, show (i + 1) * z = a.length + i * z by rw [ha, Nat.add_mul]; omega]
  rw [List.drop_eq_nil_of_le (by omega)]
  simpa using this
theorem aab (xs : List Value) (z : Nat) : ∀ (n : Nat), xs.length = n * z → ((List.range n).map fun i => (xs.drop (i * z)).take z).flatten = xs
 | 0, h => by
  have : xs.length = 0 := by simpa using h
  simp [List.length_eq_zero_iff.1 this]
 | n + 1, h => by
  have hn : (n + 1) * z = n * z + z := by rw [Nat.add_mul]; omega
  have ih := aab (xs.take (n * z)) z n (by simp; omega)
  rw [List.range_succ, List.map_append, List.flatten_append]
  have e : (List.range n).map (fun i => (xs.drop (i * z)).take z) = (List.range n).map (fun i => ((xs.take (n * z)).drop (i * z)).take z) := by
   apply List.map_congr_left
   intro i hi
   have hi' : i < n := by simpa using hi
   have : (i + 1) * z ≤ n * z := Nat.mul_le_mul_right _ hi'
   rw [List.drop_take, List.take_take, Nat.min_eq_left (by rw [Nat.add_mul] at this; omega)]
  rw [e, ih]
  simp only [List.map_cons, List.map_nil, List.flatten_cons, List.flatten_nil, List.append_nil]
  rw [List.take_of_length_le (l := xs.drop (n * z)) (by simp; omega)]
  exact List.take_append_drop _ _
theorem a9z {a : Addr} {z n : Nat} {ls : List (List Value)} (hz : 0 < z) (hn : 0 < n) (hl : ls.length = n) (h : ∀ i, i < n → w.cells? 0 (a.add (i * z)) z = ls[i]?) :
  ∃ mc te fr, w.heap[a.block]? = some (.cells mc te fr) ∧ a.spot = none ∧ a.off + n * z ≤ mc.size ∧ ls.flatten = (mc.toList.drop a.off).take (n * z) ∧ ∀ l ∈ ls, l.length = z := by
 have each : ∀ i, i < n → ∃ l, ls[i]? = some l ∧ l.length = z ∧ ∀ j, j < z → w.cell? ((a.add (i * z)).add j) = l[j]? := by
  intro i hi
  have hs : ∃ l, ls[i]? = some l := ⟨_, List.getElem?_eq_getElem (by omega)⟩
  obtain ⟨l, e⟩ := hs
  have hc := h i hi
  rw [e] at hc
  unfold World.cells? at hc
  rw [if_pos (Nat.zero_le _)] at hc
  have h1 := mapM_some_length hc
  refine ⟨l, e, by simpa using h1, fun j hj => mapM_some_get hc j j (by simp [hj])⟩
 have addadd : ∀ i j, (a.add i).add j = a.add (i + j) := by
  intro i j
  unfold Addr.add
  by_cases h1 : i = 0
  ·subst h1; simp
  ·by_cases h2 : j = 0
   ·subst h2; simp
   ·simp [h1, h2]; omega
 obtain ⟨l0, e0, hl0, c0⟩ := each 0 hn
 have c00 := c0 0 hz
 rw [Nat.zero_mul, addadd] at c00
 simp only [Nat.add_zero, Addr.add, if_true] at c00
 have hv0 : ∃ v, w.cell? a = some v := ⟨l0[0]'(by omega), by rw [c00]; exact List.getElem?_eq_getElem _⟩
 obtain ⟨v0, hv0⟩ := hv0
 unfold World.cell? at hv0
 split at hv0
 ·rename_i mc te fr hm
  by_cases hsp : a.spot.isSome = true
  ·rw [if_pos hsp] at hv0; cases hv0
  ·have hspn : a.spot = none := by cases hq : a.spot with
    | none => rfl
    | some _ => rw [hq] at hsp; simp at hsp
   have cell : ∀ k, w.cell? (a.add k) = mc[a.off + k]? := by
    intro k
    unfold World.cell? Addr.add
    by_cases hk : k = 0
    ·subst hk; simp [hm, hspn]
    ·simp [hk, hm]
   have all : ∀ i, i < n → ∀ j, j < z → mc[a.off + (i * z + j)]? = (ls.flatten)[i * z + j]? := by
    intro i hi j hj
    obtain ⟨l, e, hl1, c1⟩ := each i hi
    have hlen : ∀ l ∈ ls, l.length = z := by
     intro l hm2
     obtain ⟨k, hk⟩ := List.getElem?_of_mem hm2
     have hkl : k < ls.length := (List.getElem?_eq_some_iff.1 hk).1
     obtain ⟨l2, e2, hl2, _⟩ := each k (by omega)
     rw [hk] at e2; cases e2; exact hl2
    have := a2D ls z i l hlen e
    have h2 : l[j]? = ls.flatten[i * z + j]? := by
     rw [← this, List.getElem?_take, if_pos hj, List.getElem?_drop]
    rw [← h2, ← c1 j hj, addadd, cell]
   have hlen : ∀ l ∈ ls, l.length = z := by
    intro l hm2
    obtain ⟨k, hk⟩ := List.getElem?_of_mem hm2
    have hkl : k < ls.length := (List.getElem?_eq_some_iff.1 hk).1
    obtain ⟨l2, e2, hl2, _⟩ := each k (by omega)
    rw [hk] at e2; cases e2; exact hl2
   have hfl := vu ls z hlen
   rw [hl] at hfl
   have pos : ∀ q, q < n * z → mc[a.off + q]? = ls.flatten[q]? := by
    intro q hq
    have h1 := all (q / z) ((Nat.div_lt_iff_lt_mul hz).2 hq) (q % z) (Nat.mod_lt _ hz)
    rw [Nat.mul_comm, Nat.div_add_mod] at h1
    exact h1
   have hsz : a.off + n * z ≤ mc.size := by
    have hq : n * z - 1 < n * z := by have := Nat.mul_le_mul_right z hn; omega
    have h1 := pos (n * z - 1) hq
    rw [List.getElem?_eq_getElem (by omega)] at h1
    have := (Array.getElem?_eq_some_iff.1 h1).1
    omega
   refine ⟨mc, te, fr, hm, hspn, hsz, ?_, hlen⟩
   apply List.ext_getElem?
   intro q
   by_cases hq : q < n * z
   ·rw [← pos q hq, List.getElem?_take, if_pos hq, List.getElem?_drop]
    simp
   ·rw [List.getElem?_eq_none (by omega), List.getElem?_eq_none (by simp; omega)]
 ·cases hv0
theorem Xf (d : Nat) (ih : ∀ t, wm P d t = true → ∀ (n : Nat) (cs : List Value) (x : DataW H × List MemPlace), DataW.trod enc P w 0 (fun _ => true) true n t cs = some x → ∀ β h, Rel P β h w → RO h →
   ∃ (β' : Place) (h' : Heap) (acs : List Value), Lift P w β h β' h' ∧ VRels β' acs cs ∧ RV P h' d t acs) :
  ∀ (fs : List Field) (off N : Nat) (cs : List Value), KD P (wm P d) fs off N = true → off + cs.length = N →
   (∀ f ∈ fs, off ≤ f.offset → ∃ n x, DataW.trod enc P w 0 (fun _ => true) true n f.type ((cs.drop (f.offset - off)).take (P.cellsOf f.type)) = some x) → ∀ β h, Rel P β h w → RO h →
   ∃ (β' : Place) (h' : Heap) (acs : List Value), Lift P w β h β' h' ∧ VRels β' acs cs ∧ ∀ f ∈ fs, off ≤ f.offset ∧ RV P h' d f.type ((acs.drop (f.offset - off)).take (P.cellsOf f.type))
 | [], off, N, cs, hp, hl, _, β, h, hr, ho => by
  simp only [KD, decide_eq_true_eq] at hp
  have : cs.length = 0 := by omega
  have : cs = [] := List.length_eq_zero_iff.1 this
  subst this
  exact ⟨β, h, [], Lift.refl hr ho, .nil, by simp⟩
 | f :: fs, off, N, cs, hp, hl, ht, β, h, hr, ho => by
  simp only [KD, Bool.and_eq_true, decide_eq_true_eq] at hp
  obtain ⟨⟨hoff, hpt⟩, hrest⟩ := hp
  have hle : ∀ (fs : List Field) (off N : Nat), KD P (wm P d) fs off N = true → off ≤ N ∧ ∀ f ∈ fs, off ≤ f.offset := by
   intro fs
   induction fs with
   | nil => intro off N hp; simp [KD] at hp; exact ⟨by omega, by simp⟩
   | cons g gs ihg =>
    intro off N hp
    simp only [KD, Bool.and_eq_true, decide_eq_true_eq] at hp
    obtain ⟨h1, h2⟩ := ihg _ _ hp.2
    refine ⟨by omega, fun f hf => ?_⟩
    rcases List.mem_cons.1 hf with rfl | hf
    ·omega
    ·have := h2 f hf; omega
  obtain ⟨hN, hge⟩ := hle _ _ _ hrest
  obtain ⟨n, x, e⟩ := ht f (by simp) (by omega)
  rw [hoff, Nat.sub_self, List.drop_zero] at e
  obtain ⟨β1, h1, a1, L1, v1, r1⟩ := ih f.type hpt n _ x e β h hr ho
  obtain ⟨β2, h2, a2, L2, v2, r2⟩ := Xf d ih fs (off + P.cellsOf f.type) N (cs.drop (P.cellsOf f.type)) hrest (by simp; omega) (fun g hg hgo => by
   obtain ⟨n, x, e⟩ := ht g (by simp [hg]) (by omega)
   refine ⟨n, x, ?_⟩
   rw [List.drop_drop]
   rw [← e]
   congr 3
   omega) β1 h1 L1.rel L1.ro
  have hlen1 : a1.length = P.cellsOf f.type := by rw [v1.length]; simp; omega
  refine ⟨β2, h2, a1 ++ a2, L1.trans L2, ?_, fun g hg => ?_⟩
  ·have := (v1.mono L2.place).append v2
   rwa [List.take_append_drop] at this
  ·rcases List.mem_cons.1 hg with rfl | hg
   ·refine ⟨by omega, ?_⟩
    rw [hoff, Nat.sub_self, List.drop_zero, List.take_left' hlen1]
    exact r1.ext L2.ext
   ·obtain ⟨q1, q2⟩ := r2 g hg
    refine ⟨by omega, ?_⟩
    rw [List.drop_append, List.drop_eq_nil_of_le (by omega), List.nil_append, hlen1]
    rwa [show g.offset - off - P.cellsOf f.type = g.offset - (off + P.cellsOf f.type) by omega]
theorem ajz (d : Nat) : ∀ t, wm P d t = true → ∀ (n : Nat) (cs : List Value) (x : DataW H × List MemPlace), DataW.trod enc P w 0 (fun _ => true) true n t cs = some x → ∀ β h, Rel P β h w → RO h →
  ∃ (β' : Place) (h' : Heap) (acs : List Value), Lift P w β h β' h' ∧ VRels β' acs cs ∧ RV P h' d t acs := by
 induction d with
 | zero => intro t h; simp [wm] at h
 | succ d ih =>
  intro t hp n cs x ht β h hr ho
  unfold wm at hp
  cases hu : P.underlying t with
  | none => simp [hu] at hp
  | some D =>
   rw [hu] at hp
   cases D <;> simp only [Bool.false_eq_true] at hp
   case bool =>
    obtain ⟨b, rfl, _⟩ := DataW.trod_bool hu ht
    exact ⟨β, h, [.bool b], Lift.refl hr ho, .cons (.bool b) .nil, by unfold RV; rw [hu]; exact ⟨b, rfl⟩⟩
   case int k =>
    obtain ⟨m, rfl, _, hw⟩ := DataW.trod_int hu ht
    exact ⟨β, h, [.int k m], Lift.refl hr ho, .cons (.int k m) .nil, by unfold RV; rw [hu]; exact ⟨m, rfl, hw⟩⟩
   case string =>
    obtain ⟨s, rfl, _, hs⟩ := DataW.trod_string hu ht
    exact ⟨β, h, [.string s], Lift.refl hr ho, .cons (.string s) .nil, by unfold RV; rw [hu]; exact ⟨s, rfl, hs⟩⟩
   case struct fs =>
    obtain ⟨xs, m, rfl, _, hl, hxl, hx⟩ := DataW.trod_struct hu ht
    have hp' : KD P (wm P d) fs.toList 0 (P.cellsOf t) = true := hp
    obtain ⟨β', h', acs, L, v, r⟩ := Xf d ih fs.toList 0 (P.cellsOf t) cs hp' (by omega) (fun f hf _ => by
     obtain ⟨i, hi⟩ := List.getElem?_of_mem hf
     have hi' : fs[i]? = some f := by simpa using hi
     have := hx i f hi'
     have hlt : i < xs.length := by rw [hxl]; exact (Array.getElem?_eq_some_iff.1 hi').1
     rw [List.getElem?_eq_getElem hlt] at this
     exact ⟨m, _, by simpa using this⟩) β h hr ho
    refine ⟨β', h', acs, L, v, ?_⟩
    unfold RV
    rw [hu]
    refine ⟨by rw [v.length]; exact hl, fun f hf => ?_⟩
    have := (r f hf).2
    simpa using this
   case array n2 e =>
    simp only [Bool.and_eq_true, decide_eq_true_eq] at hp
    obtain ⟨hpe, hsz⟩ := hp
    obtain ⟨xs, m, rfl, _, hl, hxl, hx⟩ := DataW.trod_array hu ht
    have hflat := aab cs (P.cellsOf e) n2 (by rw [hl, hsz])
    obtain ⟨β', h', als, L, v, hlen, r⟩ := xx d e (fun n cs x ht β h hr ho => ih e hpe n cs x ht β h hr ho) ((List.range n2).map fun i => (cs.drop (i * P.cellsOf e)).take (P.cellsOf e)) (fun l hl2 => by
     obtain ⟨i, hi, rfl⟩ := List.mem_map.1 hl2
     have hi' : i < n2 := by simpa using hi
     have := hx i hi'
     rw [List.getElem?_eq_getElem (by omega)] at this
     exact ⟨m, _, this⟩) β h hr ho
    rw [hflat] at v
    refine ⟨β', h', als.flatten, L, v, ?_⟩
    have hz : ∀ a ∈ als, a.length = P.cellsOf e ∧ RV P h' d e a := by
     intro a ha
     obtain ⟨i, hi⟩ := List.getElem?_of_mem ha
     obtain ⟨l, h1, h2, h3⟩ := r i a hi
     refine ⟨?_, h3⟩
     rw [h2]
     have hm := List.mem_of_getElem? h1
     obtain ⟨k, hk, rfl⟩ := List.mem_map.1 hm
     have hk' : k < n2 := by simpa using hk
     have : (k + 1) * P.cellsOf e ≤ n2 * P.cellsOf e := Nat.mul_le_mul_right _ hk'
     rw [Nat.add_mul] at this
     simp
     omega
    unfold RV
    rw [hu]
    refine ⟨by rw [v.length]; exact hl, fun i hi => ?_⟩
    have hal : i < als.length := by rw [hlen]; simpa using hi
    rw [a2D als (P.cellsOf e) i als[i] (fun a ha => (hz a ha).1) (List.getElem?_eq_getElem hal)]
    exact (hz _ (List.getElem_mem hal)).2
   case slice e =>
    simp only [Bool.and_eq_true, decide_eq_true_eq] at hp
    obtain ⟨hpe, hpos⟩ := hp
    rcases DataW.trod_slice hu ht with ⟨rfl, _⟩ | ⟨a, len, cap, elems, rest, m, rfl, rfl, _, _, hlc, hcm, hel, hx, _, _⟩
    ·exact ⟨β, h, [.slice none 0 0], Lift.refl hr ho, .cons .nilslice .nil, by unfold RV; rw [hu]; exact .inl rfl⟩
    ·by_cases h0 : len = 0
     ·subst h0
      exact ⟨β, h, [.slice (some ⟨0, 0, none⟩) 0 dud], Lift.refl hr ho, .cons .dud .nil, by unfold RV; rw [hu]; exact .inr (.inl rfl)⟩
     ·have hex : ∀ i, i < len → ∃ l y, w.cells? 0 (a.add (i * P.cellsOf e)) (P.cellsOf e) = some l ∧ DataW.trod enc P w 0 (fun _ => true) true m e l = some y := by
       intro i hi
       have := hx i hi
       rw [List.getElem?_eq_getElem (by omega), Option.bind_eq_some_iff] at this
       obtain ⟨l, h1, h2⟩ := this
       exact ⟨l, _, h1, h2⟩
      let ls : List (List Value) := (List.range len).map fun i => (w.cells? 0 (a.add (i * P.cellsOf e)) (P.cellsOf e)).getD []
      have hls : ∀ i, i < len → w.cells? 0 (a.add (i * P.cellsOf e)) (P.cellsOf e) = ls[i]? := by
       intro i hi
       obtain ⟨l, _, h1, _⟩ := hex i hi
       simp [ls, hi, h1]
      have hlsl : ls.length = len := by simp [ls]
      obtain ⟨mc, te, fr, hm, hsp, hsz, hfl, hlz⟩ := a9z hpos (by omega) hlsl hls
      obtain ⟨β', h', als, L, v, hlen, r⟩ := xx d e (fun n cs x ht β h hr ho => ih e hpe n cs x ht β h hr ho) ls (fun l hl2 => by
       obtain ⟨i, hi, rfl⟩ := List.mem_map.1 hl2
       obtain ⟨l, y, h1, h2⟩ := hex i (by simpa using hi)
       exact ⟨m, y, by rw [h1]; exact h2⟩) β h hr ho
      have hz : ∀ a ∈ als, a.length = P.cellsOf e ∧ RV P h' d e a := by
       intro a ha
       obtain ⟨i, hi⟩ := List.getElem?_of_mem ha
       obtain ⟨l, h1, h2, h3⟩ := r i a hi
       exact ⟨by rw [h2]; exact hlz l (List.mem_of_getElem? h1), h3⟩
      have hfl2 : als.flatten.length = len * P.cellsOf e := by rw [vu als _ (fun a ha => (hz a ha).1), hlen, hlsl]
      have L2 := Lift.push (off := a.off) (e := e) (cs := als.flatten) L.rel L.ro hm (by omega) (by rw [hfl2, ← hfl]; exact v)
      refine ⟨_, _, [.slice (some ⟨h'.next, 0, none⟩) als.length qB], L.trans L2, .cons ?_ .nil, ?_⟩
      ·have haddr : a = ⟨a.block, a.off + 0, none⟩ := by
        cases a; simp_all
       rw [haddr, hlen, hlsl]
       exact VRel.slice (s := ⟨a.off, 0, 0⟩) (Place.add_same _ _ _ _) (.inr (.inl rfl)) hlc hcm (.inl rfl)
      ·unfold RV
       rw [hu]
       refine .inr (.inr ⟨h'.next, als, rfl, ?_, by omega, Heap.get_push_self _ _, fun r hr => ⟨(hz r hr).1, (hz r hr).2.ext L2.ext⟩⟩)
       rintro rfl
       simp at hlen
       omega
end
def RVal (P : Program) (h : Heap) (d : Nat) (t : TypeId) (v : Value) : Prop :=
 match P.underlying t with
 | some (.struct _) => ∃ cs : List Value, v = .agg cs.toArray ∧ RV P h d t cs
 | some (.array _ _) => ∃ cs : List Value, v = .agg cs.toArray ∧ RV P h d t cs
 | _ => RV P h d t [v]
def RVals (P : Program) (h : Heap) (d : Nat) : List TypeId → List Value → Prop
 | [], [] => True
 | t :: ts, v :: vs => RVal P h d t v ∧ RVals P h d ts vs
 | _, _ => False
theorem RVal.ext {P : Program} {h h' : Heap} (hx : Ext h h') {d : Nat} {t : TypeId} {v : Value} (q : RVal P h d t v) : RVal P h' d t v := by
 unfold RVal at q ⊢
 split
 ·rename_i hu; rw [hu] at q; obtain ⟨cs, e, r⟩ := q; exact ⟨cs, e, r.ext hx⟩
 ·rename_i hu; rw [hu] at q; obtain ⟨cs, e, r⟩ := q; exact ⟨cs, e, r.ext hx⟩
 ·rename_i h1 h2
  split at q
  ·rename_i hu; exact absurd hu (h1 _)
  ·rename_i hu; exact absurd hu (h2 _ _)
  ·exact q.ext hx
theorem RVals.ext {P : Program} {h h' : Heap} (hx : Ext h h') {d : Nat} : ∀ {ts : List TypeId} {vs : List Value}, RVals P h d ts vs → RVals P h' d ts vs
 | [], [], q => q
 | t :: ts, v :: vs, q => ⟨q.1.ext hx, RVals.ext hx q.2⟩
 | [], _ :: _, q => q
 | _ :: _, [], q => q
theorem ag2 {P : Program} {h : Heap} {d : Nat} {t : TypeId} {acs : List Value} (r : RV P h d t acs) (ha : ∀ fs, P.underlying t ≠ some (.struct fs)) (hb : ∀ n e, P.underlying t ≠ some (.array n e)) : ∃ a, acs = [a] := by
 cases d with
 | zero => exact r.elim
 | succ d =>
  unfold RV at r
  split at r
  ·obtain ⟨b, rfl⟩ := r; exact ⟨_, rfl⟩
  ·obtain ⟨b, rfl, _⟩ := r; exact ⟨_, rfl⟩
  ·obtain ⟨b, rfl, _⟩ := r; exact ⟨_, rfl⟩
  ·rcases r with rfl | rfl | ⟨_, _, rfl, _⟩ <;> exact ⟨_, rfl⟩
  ·rename_i hu; exact absurd hu (ha _)
  ·rename_i hu; exact absurd hu (hb _ _)
  ·exact r.elim
theorem a1s {H : Type} {enc : TypeId × Value → H} {P : Program} {w : World} (d : Nat) : ∀ (ts : List TypeId) (vs : List Value) (ds : List (DataW H)) (ps : List MemPlace), DataW.TrodAll enc P w 0 (fun _ => true) true ts vs ds ps →
  ts.all (wm P d) = true → (∀ (j : Nat) t v, ts[j]? = some t → vs[j]? = some v → ∃ base, Value.okWide P w .any base t v) → ∀ β h, Rel P β h w → RO h →
  ∃ (β' : Place) (h' : Heap) (ars : List Value), Lift P w β h β' h' ∧ VRels β' ars vs ∧ RVals P h' d ts ars
 | [], [], _, _, _, _, _, β, h, hr, ho => ⟨β, h, [], Lift.refl hr ho, .nil, trivial⟩
 | t :: ts, v :: vs, d1 :: ds, ps, ht, hp, hok, β, h, hr, ho => by
  obtain ⟨p, q, ⟨fuel, h1⟩, h2, rfl⟩ := ht
  simp only [List.all_cons, Bool.and_eq_true] at hp
  obtain ⟨β1, hp1, acs, L1, v1, r1⟩ := ajz d t hp.1 fuel _ _ h1 β h hr ho
  obtain ⟨β2, hp2, ars, L2, v2, r2⟩ := a1s d ts vs ds q h2 hp.2 (fun j t v e1 e2 => hok (j + 1) t v (by simpa using e1) (by simpa using e2)) β1 hp1 L1.rel L1.ro
  obtain ⟨base, hv⟩ := hok 0 t v rfl rfl
  have v1' := v1.mono L2.place
  have r1' := r1.ext L2.ext
  have aggs : (∃ cs, v = .agg cs) → ∃ a : List Value, acs = a ∧ VRel β2 (.agg a.toArray) v := by
   rintro ⟨cs, rfl⟩
   exact ⟨acs, rfl, VRel.agg_iff.2 ⟨cs, rfl, by simpa [Value.cells] using v1'⟩⟩
  cases hu : P.underlying t with
  | none =>
   exfalso
   have := hp.1
   cases d with
   | zero => simp [wm] at this
   | succ d => unfold wm at this; rw [hu] at this; simp at this
  | some D =>
   by_cases hagg : (∃ fs, D = .struct fs) ∨ ∃ n e, D = .array n e
   ·have hc : ∃ cs, v = .agg cs := by
     unfold Value.okWide at hv
     rw [hu] at hv
     rcases hagg with ⟨fs, rfl⟩ | ⟨n, e, rfl⟩
     ·obtain ⟨cs, e, _⟩ := hv; exact ⟨cs, e⟩
     ·obtain ⟨cs, e, _⟩ := hv; exact ⟨cs, e⟩
    obtain ⟨a, rfl, hrel⟩ := aggs hc
    refine ⟨β2, hp2, .agg acs.toArray :: ars, L1.trans L2, .cons hrel v2, ?_, r2⟩
    unfold RVal
    rw [hu]
    rcases hagg with ⟨fs, rfl⟩ | ⟨n, e, rfl⟩
    ·exact ⟨acs, rfl, r1'⟩
    ·exact ⟨acs, rfl, r1'⟩
   ·have n1 : ∀ fs, P.underlying t ≠ some (.struct fs) := fun fs e => hagg (.inl ⟨fs, Option.some.inj (hu.symm.trans e)⟩)
    have n2 : ∀ n e, P.underlying t ≠ some (.array n e) := fun n e e1 => hagg (.inr ⟨n, e, Option.some.inj (hu.symm.trans e1)⟩)
    obtain ⟨a, rfl⟩ := ag2 r1' n1 n2
    have hnot : ∀ cs, v ≠ .agg cs := by
     rintro cs rfl
     unfold Value.okWide at hv
     rw [hu] at hv
     cases D <;> first
      | exact hagg (.inl ⟨_, rfl⟩)
      | exact hagg (.inr ⟨_, _, rfl⟩)
      | (simp only [Cell.okWide, hu, Cell.ok] at hv; done)
      | (simp [Cell.okWide, hu, Cell.ok] at hv; done)
      | (have := hp.1; cases d <;> simp [wm, hu] at this; done)
    have hcell : v.cells.toList = [v] := by
     cases v <;> first | rfl | exact absurd rfl (hnot _)
    rw [hcell] at v1'
    refine ⟨β2, hp2, a :: ars, L1.trans L2, ?_, ?_, r2⟩
    ·cases v1' with
     | cons x _ => exact .cons x v2
    ·unfold RVal
     split
     ·rename_i hu2; exact absurd hu2 (n1 _)
     ·rename_i hu2; exact absurd hu2 (n2 _ _)
     ·exact r1'
 | [], _ :: _, _, _, ht, _, _, _, _, _, _ => by simp [DataW.TrodAll] at ht
 | _ :: _, [], _, _, ht, _, _, _, _, _, _ => by simp [DataW.TrodAll] at ht
 | _ :: _, _ :: _, [], _, ht, _, _, _, _, _, _ => by simp [DataW.TrodAll] at ht
end Go.Sim
namespace Go.Sim
open Go.RowKit
section
variable {P : Program} {h : Heap} {d : Nat} {t : TypeId} {cs : List Value}
end
end Go.Sim
namespace Go.Sim
end Go.Sim
namespace Go.Sim
open Go.RowKit Go.ChangeShapes
def h00 : Heap := ⟨0, fun _ => none, fun b o e => by cases e⟩
def β00 : Place := fun _ => none
theorem ajm (P : Program) (w : World) : Rel P β00 h00 w := ⟨fun b m s e => (by cases e), fun b m s o e => (by cases e), fun b b' m s s' o o' e => (by cases e)⟩
theorem ajw : RO h00 := fun b o e => by cases e
theorem a0J {W W' : World} (hb : Below W.heap.size W W') (may : MemPlace → Prop) : W.keptBut W' may := by
 refine ⟨hb.os, hb.output, fun i hi => ?_⟩
 rw [hb.block i hi]
 cases W.heap[i]? with
 | none => trivial
 | some o => cases o with
  | cells c t fr => exact ⟨rfl, rfl, rfl, fun _ _ => rfl⟩
  | map es ck => exact .inr ⟨rfl, rfl⟩
  | _ => rfl
theorem YG {H : Type} {enc : TypeId × Value → H} {P : Program} (hl : laidOutB P = true) {W W' : World} (hb : Below W.heap.size W W') : ∀ {ts : List TypeId} {vs : List Value} {ds : List (DataW H)} {ps : List MemPlace},
  ts.all (fun t => P.readableRec t && decide (t < P.types.size)) = true → DataW.TrodAll enc P W 0 (fun _ => true) true ts vs ds ps → (∀ x ∈ ps, x.block < W.heap.size) →
  DataW.TrodAll enc P W' 0 (fun b => decide (b < W.heap.size)) true ts vs ds ps
 | [], [], [], _, _, h, _ => h
 | t :: ts, v :: vs, d :: ds, ps, hr, h, hlt => by
  obtain ⟨p, q, h1, h2, rfl⟩ := h
  simp only [List.all_cons, Bool.and_eq_true, decide_eq_true_eq] at hr
  exact ⟨p, q, Below.trod hl hr.1.1 hr.1.2 h1 hb (fun x hx => hlt x (by simp [hx])), YG hl hb hr.2 h2 (fun x hx => hlt x (by simp [hx])), rfl⟩
 | [], [], _ :: _, _, _, h, _ => by simp [DataW.TrodAll] at h
 | [], _ :: _, _, _, _, h, _ => by simp [DataW.TrodAll] at h
 | _ :: _, [], _, _, _, h, _ => by simp [DataW.TrodAll] at h
 | _ :: _, _ :: _, [], _, _, h, _ => by simp [DataW.TrodAll] at h
theorem X0 {H : Type} {enc : TypeId × Value → H} {P : Program} {w : World} {base : Nat} {sp : Nat → Bool} {held : Bool} : ∀ {ts : List TypeId} {vs : List Value} {ds : List (DataW H)} {ps : List MemPlace}, DataW.TrodAll enc P w base sp held ts vs ds ps → ds.length = ts.length
 | [], [], [], _, _ => rfl
 | t :: ts, v :: vs, d :: ds, ps, h => by
  obtain ⟨p, q, _, h2, _⟩ := h
  simp [X0 h2]
 | [], [], _ :: _, _, h => by simp [DataW.TrodAll] at h
 | [], _ :: _, _, _, h => by simp [DataW.TrodAll] at h
 | _ :: _, [], _, _, h => by simp [DataW.TrodAll] at h
 | _ :: _, _ :: _, [], _, h => by simp [DataW.TrodAll] at h
theorem abF {H : Type} {enc : TypeId × Value → H} {P : Program} {f : FuncId} {fn : Func} {s : ChangeSpec} {tb : TypeId} {n d : Nat} (hres : fn.resultTypes = #[tb]) (hb : P.underlying tb = some .bool) (hvars : s.vars = [])
  (hn : fn.params.toList.length = n) (hs : ∀ ds : List (DataW H), ds.length = n → s.fn H ds = { results := [.lit (.bool true)], args := ds })
  (hl : laidOutB P = true) (hr : fn.params.toList.all (fun t => P.readableRec t && decide (t < P.types.size)) = true) (hp : fn.params.toList.all (wm P d) = true)
  (walk : ∀ h ars, RO h → RVals P h d fn.params.toList ars → ACalls P f ars h (fun v _ => v = .bool true))
  (W : World) (base : Nat) (args : Array Value) (ds gs : List (DataW H)) (before : List MemPlace) (hval : ∀ (j : Nat) t v, fn.params[j]? = some t → args[j]? = some v → Value.okWide P W .any base t v)
  (hW : DataW.Whole enc P fn.params.toList s.vars false W args.toList ds gs before) :
  Calls P f args W fun e W' => ∃ v, e = .returned v ∧ s.post enc P fn false true false false W args v W' := by
 have hW' := hW
 obtain ⟨p, q, hA, hV, hpq, hfz, hnd⟩ := hW
 rw [hvars] at hV
 obtain ⟨rfl, rfl⟩ := trodVars_none hV
 have hlen := X0 hA
 obtain ⟨β, h, ars, L, hv, hrv⟩ := a1s d _ _ _ _ hA hp (fun j t v e1 e2 => ⟨base, hval j t v (by simpa using e1) (by simpa using e2)⟩) β00 h00 (ajm P W) ajw
 have hc := (walk h ars L.ro hrv).2 β W args.toList hv L.rel
 rw [Array.toArray_toList] at hc
 refine hc.mono fun e W' => ?_
 rintro ⟨mv, rfl, v, h', β', hvr, hr', st, rfl⟩
 cases hvr
 have hbel : Below W.heap.size W W' := ⟨st.os, st.tape, st.output, st.size, fun m hm => st.frame m hm (by
  rintro ⟨b, s1, o, _, hg, hrw⟩
  rw [L.ro b o hg] at hrw
  cases hrw)⟩
 have hsp : s.fn H (ds ++ []) = { results := [.lit (.bool true)], args := ds } := by rw [List.append_nil]; exact hs ds (by rw [hlen, hn])
 have hlt : ∀ x ∈ before, x.block < W.heap.size := fun x hx => hW'.lt x hx
 refine ⟨_, rfl, ds, [], before, [], before, [], hW', ?_, ?_, ?_, a0J hbel _, fun e => by cases e⟩
 ·rw [hsp, hres]
  exact trodAll_mk1 ⟨1, by unfold DataW.trod; rw [hb]; rfl⟩
 ·rw [hsp]
  have : p = before := by rw [hpq, List.append_nil]
  subst this
  exact YG hl hbel hr hA hlt
 ·rw [hsp, hvars]; rfl
end Go.Sim

/- Part 10 of the claim RuleBack: GG, V15, V16, V17, V18, V19, V20, V21, V22, GH, V23, V24, V25, V26, V27, V28, B1, B2, T21, LRules -/
import Derived.Test.YtaamhddpmbombaaGreatProg
import Derived.ProofKit
import Derived.OpenShut
import Derived.Carry
import Derived.JoinedOf
import Derived.Test.YtaamhddpmbombaaGreatW7
import Derived.Test.YtaamhddpmbombaaGreatW9
import Derived.Test.YtaamhddpmbombaaGreatW3
set_option linter.unusedSimpArgs false
set_option linter.unusedVariables false
set_option linter.defProp false
set_option maxRecDepth 100000
set_option maxHeartbeats 0
set_option linter.unusedVariables false
namespace Go.Sim
open Go.Proofs
noncomputable def zS (x2 : Y4_) (x3 : (Int × Int)) (x4 : (Int × Int)) (x5 : (List Y0_)) : Option ((Y4_ × a4d) ⊕ Y8_) :=
 bif decide (x2.2.2 < x2.1) then
  Option.bind (ym x2.2.1) fun x6 =>
   bif decide ((1 : Nat) = (1 : Nat)) then
    bif decide (x5.length = x5.length ∧ x5.length + (1 : Nat) ≤ (5864062014805 : Nat)) then
     bif decide (x5.length + (1 : Nat) = (x5 ++ [x6]).length) then
      some (Sum.inl ((x2.1, (x2.2.1, (Go.IntKind.i64.wrap (x2.2.2 + (1 : Int))))), ((x3.1, x3.2), ((x4.1, x4.2), (x5 ++ [x6])))))
     else none
    else none
   else none
 else bif decide (x5.length = x5.length) then
   some (Sum.inr (x5, (x4.1, x4.2)))
  else none
noncomputable def Yb : (Y4_ × a4d) → Option Y8_ := z3 fun s => zS s.1 s.2.1 s.2.2.1 s.2.2.2
noncomputable def Km (x0 : Int) (x1 : Int) : Option Y8_ :=
 Option.bind (Yb ((x0, (x1, ((0 : Int)))), ((((0 : Int)), ((0 : Int))), ((((0 : Int)), ((0 : Int))), [])))) fun x2 =>
  some x2
noncomputable def uk : TEnt := ⟨45, .cons (.int .i64) (.int .i64), [], [(.agg yV, [])], fun s => Km s.1 s.2⟩
theorem a0e : qz Tryz.prog uk := qj (tab := [WE]) (loops := [(4682, [0, 1, 4, 5, 6], (.cons (.int .i64) (.cons (.int .i64) (.cons (.ptr 0 0) (.cons (.ptr 1 0) (.int .i64))))), [.st a6I, .st (.cons (.own 2) Y7_), .li (.sl Y2_) 118 false])]) (joins := []) (un := []) _ (by
  intro e he
  simp only [List.mem_cons, List.not_mem_nil, or_false] at he
  rcases he with rfl
  ·exact Kd) (fun s => by kernel_rfl) (by kernel_rfl)
noncomputable def zU (x8 : (ac6 × Int)) (x9 : (Int × Int)) (x10 : Y4_) (x11 : Y8_) (x12 : (List Y0_)) : Option (((ac6 × Int) × ((Int × Int) × (Y4_ × (Y8_ × (List Y0_))))) ⊕ (Y8_ ⊕ (Y8_ × je))) :=
 bif decide (x8.2 < (↑x8.1.length : Int)) then
  bif decide (x8.2 < (30 : Int)) then
   bif decide ((0 : Int) ≤ x8.2) then
    Option.bind (x8.1[x8.2.toNat]?) fun x13 =>
     bif decide (x12.length = x12.length) then
      Option.bind (vb ((x11.1, x11.2.1, x11.2.2), x13.1, x13.2.1, x13.2.2.1, x13.2.2.2.1, x13.2.2.2.2.1.1, x13.2.2.2.2.1.2.1.1, x13.2.2.2.2.1.2.1.2, x13.2.2.2.2.1.2.2.1, x13.2.2.2.2.1.2.2.2.1, x13.2.2.2.2.1.2.2.2.2.1, x13.2.2.2.2.1.2.2.2.2.2, x13.2.2.2.2.2.1, x13.2.2.2.2.2.2.1.1, x13.2.2.2.2.2.2.1.2.1, x13.2.2.2.2.2.2.1.2.2, x13.2.2.2.2.2.2.2) (x10.1, x10.2.1, x10.2.2) x12) fun x14 =>
       match x14 with
       | Sum.inl x15 =>
         bif decide (x15.2.2.length = x15.2.2.length) then
          some (Sum.inl ((x8.1, (Go.IntKind.i64.wrap (x8.2 + (1 : Int)))), ((x9.1, x9.2), ((x15.2.1.1, (x15.2.1.2.1, x15.2.1.2.2)), ((x15.1.1.1, (x15.1.1.2.1, x15.1.1.2.2)), x15.2.2)))))
         else none
       | Sum.inr x15 =>
         match x15 with
         | Sum.inl x16 =>
           bif decide (x16.2.2.2.2.length = x16.2.2.2.2.length) then
            some (Sum.inl ((x8.1, (Go.IntKind.i64.wrap (x8.2 + (1 : Int)))), ((x9.1, x9.2), ((x16.2.2.2.1.1, (x16.2.2.2.1.2.1, x16.2.2.2.1.2.2)), ((x16.1.1.1, (x16.1.1.2.1, x16.1.1.2.2)), x16.2.2.2.2)))))
           else none
         | Sum.inr x16 =>
           some (Sum.inr (Sum.inl ([], (((0 : Int)), ((0 : Int))))))
     else none
   else none
  else bif decide (x12.length = x12.length) then
    some (Sum.inr (Sum.inr ((x11.1, (x11.2.1, x11.2.2)), ((x10.1, (x10.2.1, x10.2.2)), x12))))
   else none
 else bif decide (x12.length = x12.length) then
   some (Sum.inr (Sum.inr ((x11.1, (x11.2.1, x11.2.2)), ((x10.1, (x10.2.1, x10.2.2)), x12))))
  else none
noncomputable def jV : ((ac6 × Int) × ((Int × Int) × (Y4_ × (Y8_ × (List Y0_))))) → Option (Y8_ ⊕ (Y8_ × je)) := z3 fun s => zU s.1 s.2.1 s.2.2.1 s.2.2.2.1 s.2.2.2.2
noncomputable def QL (x0 : Int) (x1 : Int) (x2 : ac6) : Option (Y8_ ⊕ (Y8_ × je)) :=
 Option.bind (yM x0) fun x3 =>
  Option.bind (yM x1) fun x4 =>
   Option.bind (wc x3 x4) fun x5 =>
    match x5 with
    | Sum.inl x6 =>
      some (Sum.inl ([], (((0 : Int)), ((0 : Int)))))
    | Sum.inr x6 =>
      Option.bind (Km x3 x4) fun x7 =>
       bif decide (x6.2.length = x6.2.length) then
        Option.bind (jV ((x2, ((0 : Int))), ((((0 : Int)), ((0 : Int))), ((x6.1.1, (x6.1.2.1, x6.1.2.2)), ((x7.1, (x7.2.1, x7.2.2)), x6.2))))) fun x8 =>
         some x8
       else none
noncomputable def XY : TEnt := ⟨8, .cons (.int .i64) (.cons (.int .i64) (.sl ahj)), [], [(.tup (.cons (.cst (.pointer none)) (.agg yV)), []), (.tup (.cons (.ptr 0 0) (.agg yV)), [.st Y3_, .li (.sl Y1_) 104 false])], fun s => QL s.1 s.2.1 s.2.2⟩
theorem a0f : qz Tryz.prog XY := qj (tab := [KD, X7, a4q, uk]) (loops := [(19173962, [2, 7, 8, 10, 11], (.cons (.sl ahj) ahQ), [.st a6I, .st xh, .st yV, .li (.sl Y1_) 104 false])]) (joins := []) (un := []) _ (by
  intro e he
  simp only [List.mem_cons, List.not_mem_nil, or_false] at he
  rcases he with rfl | rfl | rfl | rfl
  ·exact ZF
  ·exact uI
  ·exact a4l
  ·exact a0e) (fun s => by kernel_rfl) (by kernel_rfl)
noncomputable def Z2 (x0 : Int) (x1 : Int) : Option (Int × Int) :=
 bif x0 == (1 : Int) && (x1 == x1 && Bool.true) then
  Option.bind (yz x1) fun x2 =>
   bif !x2 then
    some (((0 : Int)), ((0 : Int)))
   else bif decide (x0 = (1 : Int)) then
     some (((0 : Int)), ((1 : Int)))
    else bif decide (x0 = (2 : Int)) then
      some (((0 : Int)), ((-1 : Int)))
     else bif decide (x0 = (3 : Int)) then
       some (((0 : Int)), ((-1 : Int)))
      else bif decide (x0 = (4 : Int)) then
        some (((0 : Int)), ((1 : Int)))
       else bif decide (x0 = (5 : Int)) then
         some (((-1 : Int)), ((0 : Int)))
        else bif decide (x0 = (6 : Int)) then
          some (((1 : Int)), ((0 : Int)))
         else some (((0 : Int)), ((0 : Int)))
 else bif decide (x0 = (1 : Int)) then
   some (((0 : Int)), ((1 : Int)))
  else bif decide (x0 = (2 : Int)) then
    some (((0 : Int)), ((-1 : Int)))
   else bif decide (x0 = (3 : Int)) then
     some (((0 : Int)), ((-1 : Int)))
    else bif decide (x0 = (4 : Int)) then
      some (((0 : Int)), ((1 : Int)))
     else bif decide (x0 = (5 : Int)) then
       some (((-1 : Int)), ((0 : Int)))
      else bif decide (x0 = (6 : Int)) then
        some (((1 : Int)), ((0 : Int)))
       else some (((0 : Int)), ((0 : Int)))
noncomputable def xW : TEnt := ⟨101, .agg a5U, [], [(.tup Y7_, [])], fun s => Z2 s.1 s.2⟩
theorem uY : qz Tryz.prog xW := qj (tab := [Yv]) (loops := []) (joins := []) (un := []) _ (by
  intro e he
  simp only [List.mem_cons, List.not_mem_nil, or_false] at he
  rcases he with rfl
  ·exact xl) (fun s => by kernel_rfl) (by kernel_rfl)
noncomputable def Q4 (x0 : Int) (x1 : Y4_) (x2 : (List Y0_)) : Option (Y9_ × je) :=
 bif decide (x2.length = x2.length) then
  Option.bind (z7 (x1.1, x1.2.1, x1.2.2) x2) fun x3 =>
   bif decide (x3.2.2.length = x3.2.2.length) then
    Option.bind (qM (x3.2.1.1, x3.2.1.2.1, x3.2.1.2.2) x3.2.2) fun x4 =>
     bif decide (x4.2.2.length = x4.2.2.length) then
      Option.bind (yb (x3.1, x4.1) (x4.2.1.1, x4.2.1.2.1, x4.2.1.2.2) x4.2.2) fun x5 =>
       bif decide (x5.2.2.length = x5.2.2.length) then
        Option.bind (yb (x3.1, Go.IntKind.i64.wrap (x4.1 - (1 : Int))) (x5.2.1.1, x5.2.1.2.1, x5.2.1.2.2) x5.2.2) fun x6 =>
         Option.bind (
          bif x6.1.2 then
           bif decide (x6.2.2.length = x6.2.2.length) then
            some (Sum.inl ((x0, (x3.1, x4.1)), ((x6.2.1.1, (x6.2.1.2.1, x6.2.1.2.2)), (x6.2.2, ((Bool.false, (Bool.false, (Bool.false, (((0 : Int)), (((0 : Int)), (((0 : Int)), (((0 : Int)), (((0 : Int)), (((0 : Int)), (((0 : Int)), (((0 : Int)), (((0 : Int)), (((0 : Int)), (((0 : Int)), (((0 : Int)), (((0 : Int)), (((0 : Int)), (((0 : Int)), (((0 : Int)), (((0 : Int)), ((0 : Int)))))))))))))))))))))), ((x6.1.1.2.2.2.2.1, (x6.1.1.2.2.2.2.2.1, x6.1.1.2.2.2.2.2.2)), (x5.1.1.1, (x5.1.1.2.1, (x5.1.1.2.2.1, (x5.1.1.2.2.2.1, (x5.1.1.2.2.2.2.1, (x5.1.1.2.2.2.2.2.1, x5.1.1.2.2.2.2.2.2))))))))))))
           else none
          else bif decide (x6.2.2.length = x6.2.2.length) then
            some (Sum.inl ((x0, (x3.1, x4.1)), ((x6.2.1.1, (x6.2.1.2.1, x6.2.1.2.2)), (x6.2.2, ((Bool.false, (Bool.false, (Bool.false, (((0 : Int)), (((0 : Int)), (((0 : Int)), (((0 : Int)), (((0 : Int)), (((0 : Int)), (((0 : Int)), (((0 : Int)), (((0 : Int)), (((0 : Int)), (((0 : Int)), (((0 : Int)), (((0 : Int)), (((0 : Int)), (((0 : Int)), (((0 : Int)), (((0 : Int)), ((0 : Int)))))))))))))))))))))), ((((0 : Int)), (((0 : Int)), ((0 : Int)))), (x5.1.1.1, (x5.1.1.2.1, (x5.1.1.2.2.1, (x5.1.1.2.2.2.1, (x5.1.1.2.2.2.2.1, (x5.1.1.2.2.2.2.2.1, x5.1.1.2.2.2.2.2.2))))))))))))
           else none) fun (x7 : ((Y4_ × (Y4_ × ((List Y0_) × (Y9_ × (Y4_ × Ws))))) ⊕ (Y9_ × je))) =>
          match x7 with
          | Sum.inl x8 =>
            Option.bind (K0 x8.1.1 x8.2.2.2.2.1.1 x8.2.2.2.2.1.2.1 x8.2.2.2.2.1.2.2) fun x9 =>
             bif !x9.2 then
              bif decide (x8.2.2.1.length = x8.2.2.1.length) then
               some ((Bool.true, (Bool.false, (Bool.false, (((0 : Int)), (((0 : Int)), (((0 : Int)), (((0 : Int)), (((0 : Int)), (((0 : Int)), (((0 : Int)), (((0 : Int)), (((0 : Int)), (((0 : Int)), (((0 : Int)), (((0 : Int)), (((0 : Int)), (((0 : Int)), (((0 : Int)), (((0 : Int)), (((0 : Int)), ((0 : Int)))))))))))))))))))))), ((x8.2.1.1, (x8.2.1.2.1, x8.2.1.2.2)), x8.2.2.1))
              else none
             else bif x9.1.2.2.2.1 != (1 : Int) then
               bif decide (x8.2.2.1.length = x8.2.2.1.length) then
                some ((Bool.true, (Bool.false, (Bool.false, (((0 : Int)), (((0 : Int)), (((0 : Int)), (((0 : Int)), (((0 : Int)), (((0 : Int)), (((0 : Int)), (((0 : Int)), (((0 : Int)), (((0 : Int)), (((0 : Int)), (((0 : Int)), (((0 : Int)), (((0 : Int)), (((0 : Int)), (((0 : Int)), (((0 : Int)), ((0 : Int)))))))))))))))))))))), ((x8.2.1.1, (x8.2.1.2.1, x8.2.1.2.2)), x8.2.2.1))
               else none
              else bif decide (x8.2.2.1.length = x8.2.2.1.length) then
                Option.bind (zm (x8.2.1.1, x8.2.1.2.1, x8.2.1.2.2) x8.2.2.1) fun x10 =>
                 bif x8.1.2.2 == Go.IntKind.i64.wrap (x10.1 - (1 : Int)) then
                  bif decide (x10.2.2.length = x10.2.2.length) then
                   some ((Bool.true, (Bool.false, (Bool.false, (((0 : Int)), (((0 : Int)), (((0 : Int)), (((0 : Int)), (((0 : Int)), (((0 : Int)), (((0 : Int)), (((0 : Int)), (((0 : Int)), (((0 : Int)), (((0 : Int)), (((0 : Int)), (((0 : Int)), (((0 : Int)), (((0 : Int)), (((0 : Int)), (((0 : Int)), ((0 : Int)))))))))))))))))))))), ((x10.2.1.1, (x10.2.1.2.1, x10.2.1.2.2)), x10.2.2))
                  else none
                 else bif x8.2.2.2.2.2.2.2.2.1 != (1 : Int) then
                   bif decide (x10.2.2.length = x10.2.2.length) then
                    some ((Bool.true, (Bool.false, (Bool.false, (((0 : Int)), (((0 : Int)), (((0 : Int)), (((0 : Int)), (((0 : Int)), (((0 : Int)), (((0 : Int)), (((0 : Int)), (((0 : Int)), (((0 : Int)), (((0 : Int)), (((0 : Int)), (((0 : Int)), (((0 : Int)), (((0 : Int)), (((0 : Int)), (((0 : Int)), ((0 : Int)))))))))))))))))))))), ((x10.2.1.1, (x10.2.1.2.1, x10.2.1.2.2)), x10.2.2))
                   else none
                  else bif decide (x10.2.2.length = x10.2.2.length) then
                    some ((Bool.false, (Bool.false, (Bool.true, (x8.1.2.1, (x8.1.2.2, (x9.1.1, (x9.1.2.1, (x9.1.2.2.1, (x9.1.2.2.2.1, (x9.1.2.2.2.2.1, (x9.1.2.2.2.2.2.1, (x9.1.2.2.2.2.2.2, (x8.2.2.2.2.2.1, (x8.2.2.2.2.2.2.1, (x8.2.2.2.2.2.2.2.1, (x8.2.2.2.2.2.2.2.2.1, (x8.2.2.2.2.2.2.2.2.2.1, (x8.2.2.2.2.2.2.2.2.2.2.1, (x8.2.2.2.2.2.2.2.2.2.2.2, (x8.1.2.1, (Go.IntKind.i64.wrap (x8.1.2.2 + (1 : Int))))))))))))))))))))))), ((x10.2.1.1, (x10.2.1.2.1, x10.2.1.2.2)), x10.2.2))
                   else none
               else none
          | Sum.inr x8 =>
            some x8
       else none
     else none
   else none
 else none
noncomputable def Ke : TEnt := ⟨103, .cons (.int .i32) (.ptr 0 0), [.st Y3_, .li (.sl Y1_) 104 false], [((.agg Y5_), [.st Y3_, .li (.sl Y1_) 104 false])], fun s => Q4 s.1 s.2.1 s.2.2⟩
theorem Jd : qz Tryz.prog Ke := qj (tab := [a1o, JD, KI, QO, Vv]) (loops := []) (joins := [(299593, [0, 1, 4, 5, 6, 7, 8], (.cons (.int .i32) (.cons (.ptr 0 0) (.cons (.ptr 2 0) (.cons (.ptr 3 0) (.cons (.int .i64) (.cons (.int .i64) (.ptr 4 0))))))), [.st Y3_, .li (.sl Y1_) 104 false, .st Y5_, .st Y6_, .st Xr])]) (un := []) _ (by
  intro e he
  simp only [List.mem_cons, List.not_mem_nil, or_false] at he
  rcases he with rfl | rfl | rfl | rfl | rfl
  ·exact a3W
  ·exact Wv
  ·exact Zz
  ·exact yx
  ·exact Vn) (fun s => by kernel_rfl) (by kernel_rfl)
noncomputable def ko (x0 : (Int × Int)) (x1 : Y4_) (x2 : (List Y0_)) : Option (Y9_ × je) :=
 Option.bind (Z2 x0.1 x0.2) fun x3 =>
  bif decide (x2.length = x2.length) then
   Option.bind (jn (x1.1, x1.2.1, x1.2.2) x2) fun x4 =>
    bif decide (x4.2.1.length = x4.2.1.length) then
     Option.bind (z7 (x4.1.1, x4.1.2.1, x4.1.2.2) x4.2.1) fun x5 =>
      bif decide (x5.2.2.length = x5.2.2.length) then
       Option.bind (qM (x5.2.1.1, x5.2.1.2.1, x5.2.1.2.2) x5.2.2) fun x6 =>
        bif decide (x4.2.2.2.length = x4.2.2.2.length) then
         Option.bind (kz (Go.IntKind.i64.wrap (x5.1 + x3.1), Go.IntKind.i64.wrap (x6.1 + x3.2)) (x4.2.2.1.1, x4.2.2.1.2.1, x4.2.2.1.2.2) x4.2.2.2) fun x7 =>
          bif decide (x7.2.length = x7.2.length) then
           Option.bind (z7 (x7.1.1, x7.1.2.1, x7.1.2.2) x7.2) fun x8 =>
            bif decide (x8.2.2.length = x8.2.2.length) then
             Option.bind (qM (x8.2.1.1, x8.2.1.2.1, x8.2.1.2.2) x8.2.2) fun x9 =>
              bif x0.1 == (7 : Int) then
               bif decide (x6.2.2.length = x6.2.2.length) then
                some ((Bool.false, (Bool.true, (Bool.false, (((0 : Int)), (((0 : Int)), (((0 : Int)), (((0 : Int)), (((0 : Int)), (((0 : Int)), (((0 : Int)), (((0 : Int)), (((0 : Int)), (((0 : Int)), (((0 : Int)), (((0 : Int)), (((0 : Int)), (((0 : Int)), (((0 : Int)), (((0 : Int)), (x8.1, ((0 : Int)))))))))))))))))))))), ((x6.2.1.1, (x6.2.1.2.1, x6.2.1.2.2)), x6.2.2))
               else none
              else bif x0.1 == (5 : Int) then
                bif decide (x6.2.2.length = x6.2.2.length) then
                 some ((Bool.false, (Bool.true, (Bool.false, (((0 : Int)), (((0 : Int)), (((0 : Int)), (((0 : Int)), (((0 : Int)), (((0 : Int)), (((0 : Int)), (((0 : Int)), (((0 : Int)), (((0 : Int)), (((0 : Int)), (((0 : Int)), (((0 : Int)), (((0 : Int)), (((0 : Int)), (((0 : Int)), (x8.1, x9.1)))))))))))))))))))), ((x6.2.1.1, (x6.2.1.2.1, x6.2.1.2.2)), x6.2.2))
                else none
               else bif x0.1 == (6 : Int) then
                 bif decide (x6.2.2.length = x6.2.2.length) then
                  some ((Bool.false, (Bool.true, (Bool.false, (((0 : Int)), (((0 : Int)), (((0 : Int)), (((0 : Int)), (((0 : Int)), (((0 : Int)), (((0 : Int)), (((0 : Int)), (((0 : Int)), (((0 : Int)), (((0 : Int)), (((0 : Int)), (((0 : Int)), (((0 : Int)), (((0 : Int)), (((0 : Int)), (x8.1, x9.1)))))))))))))))))))), ((x6.2.1.1, (x6.2.1.2.1, x6.2.1.2.2)), x6.2.2))
                 else none
                else bif decide (x6.2.2.length = x6.2.2.length) then
                  some ((Bool.false, (Bool.false, (Bool.false, (((0 : Int)), (((0 : Int)), (((0 : Int)), (((0 : Int)), (((0 : Int)), (((0 : Int)), (((0 : Int)), (((0 : Int)), (((0 : Int)), (((0 : Int)), (((0 : Int)), (((0 : Int)), (((0 : Int)), (((0 : Int)), (((0 : Int)), (((0 : Int)), (x8.1, x9.1)))))))))))))))))))), ((x6.2.1.1, (x6.2.1.2.1, x6.2.1.2.2)), x6.2.2))
                 else none
            else none
          else none
        else none
      else none
    else none
  else none
noncomputable def Wd : TEnt := ⟨100, .cons (.agg a5U) (.ptr 0 0), [.st Y3_, .li (.sl Y1_) 104 false], [((.agg Y5_), [.st Y3_, .li (.sl Y1_) 104 false])], fun s => ko s.1 s.2.1 s.2.2⟩
theorem Js : qz Tryz.prog Wd := qj (tab := [KI, QO, jq, wp, xW]) (loops := []) (joins := []) (un := []) _ (by
  intro e he
  simp only [List.mem_cons, List.not_mem_nil, or_false] at he
  rcases he with rfl | rfl | rfl | rfl | rfl
  ·exact Zz
  ·exact yx
  ·exact kI
  ·exact jo
  ·exact uY) (fun s => by kernel_rfl) (by kernel_rfl)
noncomputable def wo (x0 : (Int × Int)) (x1 : Y4_) (x2 : (List Y0_)) : Option (Y9_ × je) :=
 bif decide (x0.1 = x0.1) then
  bif decide (x0.1 = (1 : Int)) then
   bif decide (x2.length = x2.length) then
    Option.bind (Q4 x0.2 (x1.1, x1.2.1, x1.2.2) x2) fun x3 =>
     bif decide (x3.2.2.length = x3.2.2.length) then
      some ((x3.1.1, (x3.1.2.1, (x3.1.2.2.1, (x3.1.2.2.2.1, (x3.1.2.2.2.2.1, (x3.1.2.2.2.2.2.1, (x3.1.2.2.2.2.2.2.1, (x3.1.2.2.2.2.2.2.2.1, (x3.1.2.2.2.2.2.2.2.2.1, (x3.1.2.2.2.2.2.2.2.2.2.1, (x3.1.2.2.2.2.2.2.2.2.2.2.1, (x3.1.2.2.2.2.2.2.2.2.2.2.2.1, (x3.1.2.2.2.2.2.2.2.2.2.2.2.2.1, (x3.1.2.2.2.2.2.2.2.2.2.2.2.2.2.1, (x3.1.2.2.2.2.2.2.2.2.2.2.2.2.2.2.1, (x3.1.2.2.2.2.2.2.2.2.2.2.2.2.2.2.2.1, (x3.1.2.2.2.2.2.2.2.2.2.2.2.2.2.2.2.2.1, (x3.1.2.2.2.2.2.2.2.2.2.2.2.2.2.2.2.2.2.1, (x3.1.2.2.2.2.2.2.2.2.2.2.2.2.2.2.2.2.2.2.1, (x3.1.2.2.2.2.2.2.2.2.2.2.2.2.2.2.2.2.2.2.2.1, x3.1.2.2.2.2.2.2.2.2.2.2.2.2.2.2.2.2.2.2.2.2)))))))))))))))))))), ((x3.2.1.1, (x3.2.1.2.1, x3.2.1.2.2)), x3.2.2))
     else none
   else none
  else bif decide (x0.1 = (2 : Int)) then
    bif decide (x2.length = x2.length) then
     Option.bind (ko (x0.1, x0.2) (x1.1, x1.2.1, x1.2.2) x2) fun x3 =>
      bif decide (x3.2.2.length = x3.2.2.length) then
       some ((x3.1.1, (x3.1.2.1, (x3.1.2.2.1, (x3.1.2.2.2.1, (x3.1.2.2.2.2.1, (x3.1.2.2.2.2.2.1, (x3.1.2.2.2.2.2.2.1, (x3.1.2.2.2.2.2.2.2.1, (x3.1.2.2.2.2.2.2.2.2.1, (x3.1.2.2.2.2.2.2.2.2.2.1, (x3.1.2.2.2.2.2.2.2.2.2.2.1, (x3.1.2.2.2.2.2.2.2.2.2.2.2.1, (x3.1.2.2.2.2.2.2.2.2.2.2.2.2.1, (x3.1.2.2.2.2.2.2.2.2.2.2.2.2.2.1, (x3.1.2.2.2.2.2.2.2.2.2.2.2.2.2.2.1, (x3.1.2.2.2.2.2.2.2.2.2.2.2.2.2.2.2.1, (x3.1.2.2.2.2.2.2.2.2.2.2.2.2.2.2.2.2.1, (x3.1.2.2.2.2.2.2.2.2.2.2.2.2.2.2.2.2.2.1, (x3.1.2.2.2.2.2.2.2.2.2.2.2.2.2.2.2.2.2.2.1, (x3.1.2.2.2.2.2.2.2.2.2.2.2.2.2.2.2.2.2.2.2.1, x3.1.2.2.2.2.2.2.2.2.2.2.2.2.2.2.2.2.2.2.2.2)))))))))))))))))))), ((x3.2.1.1, (x3.2.1.2.1, x3.2.1.2.2)), x3.2.2))
      else none
    else none
   else bif decide (x0.1 = (3 : Int)) then
     bif decide (x2.length = x2.length) then
      Option.bind (ko (x0.1, x0.2) (x1.1, x1.2.1, x1.2.2) x2) fun x3 =>
       bif decide (x3.2.2.length = x3.2.2.length) then
        some ((x3.1.1, (x3.1.2.1, (x3.1.2.2.1, (x3.1.2.2.2.1, (x3.1.2.2.2.2.1, (x3.1.2.2.2.2.2.1, (x3.1.2.2.2.2.2.2.1, (x3.1.2.2.2.2.2.2.2.1, (x3.1.2.2.2.2.2.2.2.2.1, (x3.1.2.2.2.2.2.2.2.2.2.1, (x3.1.2.2.2.2.2.2.2.2.2.2.1, (x3.1.2.2.2.2.2.2.2.2.2.2.2.1, (x3.1.2.2.2.2.2.2.2.2.2.2.2.2.1, (x3.1.2.2.2.2.2.2.2.2.2.2.2.2.2.1, (x3.1.2.2.2.2.2.2.2.2.2.2.2.2.2.2.1, (x3.1.2.2.2.2.2.2.2.2.2.2.2.2.2.2.2.1, (x3.1.2.2.2.2.2.2.2.2.2.2.2.2.2.2.2.2.1, (x3.1.2.2.2.2.2.2.2.2.2.2.2.2.2.2.2.2.2.1, (x3.1.2.2.2.2.2.2.2.2.2.2.2.2.2.2.2.2.2.2.1, (x3.1.2.2.2.2.2.2.2.2.2.2.2.2.2.2.2.2.2.2.2.1, x3.1.2.2.2.2.2.2.2.2.2.2.2.2.2.2.2.2.2.2.2.2)))))))))))))))))))), ((x3.2.1.1, (x3.2.1.2.1, x3.2.1.2.2)), x3.2.2))
       else none
     else none
    else bif decide (x0.1 = (4 : Int)) then
      bif decide (x2.length = x2.length) then
       Option.bind (ko (x0.1, x0.2) (x1.1, x1.2.1, x1.2.2) x2) fun x3 =>
        bif decide (x3.2.2.length = x3.2.2.length) then
         some ((x3.1.1, (x3.1.2.1, (x3.1.2.2.1, (x3.1.2.2.2.1, (x3.1.2.2.2.2.1, (x3.1.2.2.2.2.2.1, (x3.1.2.2.2.2.2.2.1, (x3.1.2.2.2.2.2.2.2.1, (x3.1.2.2.2.2.2.2.2.2.1, (x3.1.2.2.2.2.2.2.2.2.2.1, (x3.1.2.2.2.2.2.2.2.2.2.2.1, (x3.1.2.2.2.2.2.2.2.2.2.2.2.1, (x3.1.2.2.2.2.2.2.2.2.2.2.2.2.1, (x3.1.2.2.2.2.2.2.2.2.2.2.2.2.2.1, (x3.1.2.2.2.2.2.2.2.2.2.2.2.2.2.2.1, (x3.1.2.2.2.2.2.2.2.2.2.2.2.2.2.2.2.1, (x3.1.2.2.2.2.2.2.2.2.2.2.2.2.2.2.2.2.1, (x3.1.2.2.2.2.2.2.2.2.2.2.2.2.2.2.2.2.2.1, (x3.1.2.2.2.2.2.2.2.2.2.2.2.2.2.2.2.2.2.2.1, (x3.1.2.2.2.2.2.2.2.2.2.2.2.2.2.2.2.2.2.2.2.1, x3.1.2.2.2.2.2.2.2.2.2.2.2.2.2.2.2.2.2.2.2.2)))))))))))))))))))), ((x3.2.1.1, (x3.2.1.2.1, x3.2.1.2.2)), x3.2.2))
        else none
      else none
     else bif decide (x0.1 = (5 : Int)) then
       bif decide (x2.length = x2.length) then
        Option.bind (ko (x0.1, x0.2) (x1.1, x1.2.1, x1.2.2) x2) fun x3 =>
         bif decide (x3.2.2.length = x3.2.2.length) then
          some ((x3.1.1, (x3.1.2.1, (x3.1.2.2.1, (x3.1.2.2.2.1, (x3.1.2.2.2.2.1, (x3.1.2.2.2.2.2.1, (x3.1.2.2.2.2.2.2.1, (x3.1.2.2.2.2.2.2.2.1, (x3.1.2.2.2.2.2.2.2.2.1, (x3.1.2.2.2.2.2.2.2.2.2.1, (x3.1.2.2.2.2.2.2.2.2.2.2.1, (x3.1.2.2.2.2.2.2.2.2.2.2.2.1, (x3.1.2.2.2.2.2.2.2.2.2.2.2.2.1, (x3.1.2.2.2.2.2.2.2.2.2.2.2.2.2.1, (x3.1.2.2.2.2.2.2.2.2.2.2.2.2.2.2.1, (x3.1.2.2.2.2.2.2.2.2.2.2.2.2.2.2.2.1, (x3.1.2.2.2.2.2.2.2.2.2.2.2.2.2.2.2.2.1, (x3.1.2.2.2.2.2.2.2.2.2.2.2.2.2.2.2.2.2.1, (x3.1.2.2.2.2.2.2.2.2.2.2.2.2.2.2.2.2.2.2.1, (x3.1.2.2.2.2.2.2.2.2.2.2.2.2.2.2.2.2.2.2.2.1, x3.1.2.2.2.2.2.2.2.2.2.2.2.2.2.2.2.2.2.2.2.2)))))))))))))))))))), ((x3.2.1.1, (x3.2.1.2.1, x3.2.1.2.2)), x3.2.2))
         else none
       else none
      else bif decide (x0.1 = (6 : Int)) then
        bif decide (x2.length = x2.length) then
         Option.bind (ko (x0.1, x0.2) (x1.1, x1.2.1, x1.2.2) x2) fun x3 =>
          bif decide (x3.2.2.length = x3.2.2.length) then
           some ((x3.1.1, (x3.1.2.1, (x3.1.2.2.1, (x3.1.2.2.2.1, (x3.1.2.2.2.2.1, (x3.1.2.2.2.2.2.1, (x3.1.2.2.2.2.2.2.1, (x3.1.2.2.2.2.2.2.2.1, (x3.1.2.2.2.2.2.2.2.2.1, (x3.1.2.2.2.2.2.2.2.2.2.1, (x3.1.2.2.2.2.2.2.2.2.2.2.1, (x3.1.2.2.2.2.2.2.2.2.2.2.2.1, (x3.1.2.2.2.2.2.2.2.2.2.2.2.2.1, (x3.1.2.2.2.2.2.2.2.2.2.2.2.2.2.1, (x3.1.2.2.2.2.2.2.2.2.2.2.2.2.2.2.1, (x3.1.2.2.2.2.2.2.2.2.2.2.2.2.2.2.2.1, (x3.1.2.2.2.2.2.2.2.2.2.2.2.2.2.2.2.2.1, (x3.1.2.2.2.2.2.2.2.2.2.2.2.2.2.2.2.2.2.1, (x3.1.2.2.2.2.2.2.2.2.2.2.2.2.2.2.2.2.2.2.1, (x3.1.2.2.2.2.2.2.2.2.2.2.2.2.2.2.2.2.2.2.2.1, x3.1.2.2.2.2.2.2.2.2.2.2.2.2.2.2.2.2.2.2.2.2)))))))))))))))))))), ((x3.2.1.1, (x3.2.1.2.1, x3.2.1.2.2)), x3.2.2))
          else none
        else none
       else bif decide (x0.1 = (7 : Int)) then
         bif decide (x2.length = x2.length) then
          Option.bind (ko (x0.1, x0.2) (x1.1, x1.2.1, x1.2.2) x2) fun x3 =>
           bif decide (x3.2.2.length = x3.2.2.length) then
            some ((x3.1.1, (x3.1.2.1, (x3.1.2.2.1, (x3.1.2.2.2.1, (x3.1.2.2.2.2.1, (x3.1.2.2.2.2.2.1, (x3.1.2.2.2.2.2.2.1, (x3.1.2.2.2.2.2.2.2.1, (x3.1.2.2.2.2.2.2.2.2.1, (x3.1.2.2.2.2.2.2.2.2.2.1, (x3.1.2.2.2.2.2.2.2.2.2.2.1, (x3.1.2.2.2.2.2.2.2.2.2.2.2.1, (x3.1.2.2.2.2.2.2.2.2.2.2.2.2.1, (x3.1.2.2.2.2.2.2.2.2.2.2.2.2.2.1, (x3.1.2.2.2.2.2.2.2.2.2.2.2.2.2.2.1, (x3.1.2.2.2.2.2.2.2.2.2.2.2.2.2.2.2.1, (x3.1.2.2.2.2.2.2.2.2.2.2.2.2.2.2.2.2.1, (x3.1.2.2.2.2.2.2.2.2.2.2.2.2.2.2.2.2.2.1, (x3.1.2.2.2.2.2.2.2.2.2.2.2.2.2.2.2.2.2.2.1, (x3.1.2.2.2.2.2.2.2.2.2.2.2.2.2.2.2.2.2.2.2.1, x3.1.2.2.2.2.2.2.2.2.2.2.2.2.2.2.2.2.2.2.2.2)))))))))))))))))))), ((x3.2.1.1, (x3.2.1.2.1, x3.2.1.2.2)), x3.2.2))
           else none
         else none
        else bif decide (x2.length = x2.length) then
          some ((Bool.true, (Bool.false, (Bool.false, (((0 : Int)), (((0 : Int)), (((0 : Int)), (((0 : Int)), (((0 : Int)), (((0 : Int)), (((0 : Int)), (((0 : Int)), (((0 : Int)), (((0 : Int)), (((0 : Int)), (((0 : Int)), (((0 : Int)), (((0 : Int)), (((0 : Int)), (((0 : Int)), (((0 : Int)), ((0 : Int)))))))))))))))))))))), ((x1.1, (x1.2.1, x1.2.2)), x2))
         else none
 else none
noncomputable def Jp : TEnt := ⟨11, .cons (.agg a5U) (.ptr 0 0), [.st Y3_, .li (.sl Y1_) 104 false], [((.agg Y5_), [.st Y3_, .li (.sl Y1_) 104 false])], fun s => wo s.1 s.2.1 s.2.2⟩
theorem JS : qz Tryz.prog Jp := qj (tab := [Ke, Wd]) (loops := []) (joins := []) (un := []) _ (by
  intro e he
  simp only [List.mem_cons, List.not_mem_nil, or_false] at he
  rcases he with rfl | rfl
  ·exact Jd
  ·exact Js) (fun s => by kernel_rfl) (by kernel_rfl)
noncomputable def zR (x0 : Y9_) (x1 : Y4_) (x2 : (List Y0_)) : Option K5 :=
 bif decide (x2.length = x2.length) then
  Option.bind (jn (x1.1, x1.2.1, x1.2.2) x2) fun x3 =>
   bif x0.1 then
    bif decide (x3.2.2.2.length = x3.2.2.2.length) then
     bif decide (x3.2.1.length = x3.2.1.length) then
      some ((x3.1.1, (x3.1.2.1, x3.1.2.2)), (x3.2.1, ((x3.2.2.1.1, (x3.2.2.1.2.1, x3.2.2.1.2.2)), x3.2.2.2)))
     else none
    else none
   else bif x0.2.2.1 then
     bif decide (x3.2.2.2.length = x3.2.2.2.length) then
      Option.bind (QN (x0.2.2.2.1, x0.2.2.2.2.1, x0.2.2.2.2.2.1, x0.2.2.2.2.2.2.1, x0.2.2.2.2.2.2.2.1, x0.2.2.2.2.2.2.2.2.1, x0.2.2.2.2.2.2.2.2.2.1, x0.2.2.2.2.2.2.2.2.2.2.1, x0.2.2.2.2.2.2.2.2.2.2.2.1) (x3.2.2.1.1, x3.2.2.1.2.1, x3.2.2.1.2.2) x3.2.2.2) fun x4 =>
       bif decide (x4.2.2.length = x4.2.2.length) then
        Option.bind (kz (x0.2.2.2.2.2.2.2.2.2.2.2.2.2.2.2.2.2.2.2.1, x0.2.2.2.2.2.2.2.2.2.2.2.2.2.2.2.2.2.2.2.2) (x4.2.1.1, x4.2.1.2.1, x4.2.1.2.2) x4.2.2) fun x5 =>
         bif decide (x5.2.length = x5.2.length) then
          bif decide (x3.2.1.length = x3.2.1.length) then
           some ((x3.1.1, (x3.1.2.1, x3.1.2.2)), (x3.2.1, ((x5.1.1, (x5.1.2.1, x5.1.2.2)), x5.2)))
          else none
         else none
       else none
     else none
    else bif decide (x3.2.2.2.length = x3.2.2.2.length) then
      Option.bind (kz (x0.2.2.2.2.2.2.2.2.2.2.2.2.2.2.2.2.2.2.2.1, x0.2.2.2.2.2.2.2.2.2.2.2.2.2.2.2.2.2.2.2.2) (x3.2.2.1.1, x3.2.2.1.2.1, x3.2.2.1.2.2) x3.2.2.2) fun x4 =>
       bif decide (x4.2.length = x4.2.length) then
        bif decide (x3.2.1.length = x3.2.1.length) then
         some ((x3.1.1, (x3.1.2.1, x3.1.2.2)), (x3.2.1, ((x4.1.1, (x4.1.2.1, x4.1.2.2)), x4.2)))
        else none
       else none
     else none
 else none
noncomputable def VK : TEnt := ⟨12, .cons (.agg Y5_) (.ptr 0 0), [.st Y3_, .li (.sl Y1_) 104 false], [(.ptr 2 0, [.st Y3_, .li (.sl Y1_) 104 false, .st xh, .li (.sl Y1_) 104 false])], fun s => zR s.1 s.2.1 s.2.2⟩
theorem vF : qz Tryz.prog VK := qj (tab := [Kf, jq, wp]) (loops := []) (joins := []) (un := []) _ (by
  intro e he
  simp only [List.mem_cons, List.not_mem_nil, or_false] at he
  rcases he with rfl | rfl | rfl
  ·exact ZC
  ·exact kI
  ·exact jo) (fun s => by kernel_rfl) (by kernel_rfl)
noncomputable def j0 (x4 : (Int × ((List (Int × Int)) × (Int × Int)))) (x5 : Y4_) (x6 : (List Y0_)) (x7 : Y4_) (x8 : (List Y0_)) : Option (((Int × ((List (Int × Int)) × (Int × Int))) × K5) ⊕ (Int × K5)) :=
 bif decide (x4.2.2.2 < x4.2.2.1) then
  bif decide ((0 : Int) ≤ x4.2.2.2) then
   Option.bind (x4.2.1[x4.2.2.2.toNat]?) fun x9 =>
    bif decide (x8.length = x8.length) then
     Option.bind (wo (x9.1, x9.2) (x7.1, x7.2.1, x7.2.2) x8) fun x10 =>
      bif x10.1.1 then
       bif decide (x10.2.2.length = x10.2.2.length) then
        bif decide (List.length x6 = List.length x6) then
         some (Sum.inr (x4.1, ((x5.1, (x5.2.1, x5.2.2)), (x6, ((x10.2.1.1, (x10.2.1.2.1, x10.2.1.2.2)), x10.2.2)))))
        else none
       else none
      else bif decide (x10.2.2.length = x10.2.2.length) then
        Option.bind (zR (x10.1.1, x10.1.2.1, x10.1.2.2.1, x10.1.2.2.2.1, x10.1.2.2.2.2.1, x10.1.2.2.2.2.2.1, x10.1.2.2.2.2.2.2.1, x10.1.2.2.2.2.2.2.2.1, x10.1.2.2.2.2.2.2.2.2.1, x10.1.2.2.2.2.2.2.2.2.2.1, x10.1.2.2.2.2.2.2.2.2.2.2.1, x10.1.2.2.2.2.2.2.2.2.2.2.2.1, x10.1.2.2.2.2.2.2.2.2.2.2.2.2.1, x10.1.2.2.2.2.2.2.2.2.2.2.2.2.2.1, x10.1.2.2.2.2.2.2.2.2.2.2.2.2.2.2.1, x10.1.2.2.2.2.2.2.2.2.2.2.2.2.2.2.2.1, x10.1.2.2.2.2.2.2.2.2.2.2.2.2.2.2.2.2.1, x10.1.2.2.2.2.2.2.2.2.2.2.2.2.2.2.2.2.2.1, x10.1.2.2.2.2.2.2.2.2.2.2.2.2.2.2.2.2.2.2.1, x10.1.2.2.2.2.2.2.2.2.2.2.2.2.2.2.2.2.2.2.2.1, x10.1.2.2.2.2.2.2.2.2.2.2.2.2.2.2.2.2.2.2.2.2) (x10.2.1.1, x10.2.1.2.1, x10.2.1.2.2) x10.2.2) fun x11 =>
         bif decide (x11.2.2.2.length = x11.2.2.2.length) then
          bif decide (List.length x6 = List.length x6) then
           some (Sum.inl (((Go.IntKind.i64.wrap (x4.1 + (1 : Int))), (x4.2.1, (x4.2.2.1, (Go.IntKind.i64.wrap (x4.2.2.2 + (1 : Int)))))), ((x5.1, (x5.2.1, x5.2.2)), (x6, ((x11.2.2.1.1, (x11.2.2.1.2.1, x11.2.2.1.2.2)), x11.2.2.2)))))
          else none
         else none
       else none
    else none
  else none
 else bif decide (x8.length = x8.length) then
   bif decide (List.length x6 = List.length x6) then
    some (Sum.inr (x4.1, ((x5.1, (x5.2.1, x5.2.2)), (x6, ((x7.1, (x7.2.1, x7.2.2)), x8)))))
   else none
  else none
noncomputable def jU : ((Int × ((List (Int × Int)) × (Int × Int))) × K5) → Option (Int × K5) := z3 fun s => j0 s.1 s.2.1 s.2.2.1 s.2.2.2.1 s.2.2.2.2
noncomputable def wa (x0 : (List (Int × Int))) (x1 : Y4_) (x2 : (List Y0_)) : Option (Int × K5) :=
 bif decide (x2.length = x2.length) then
  Option.bind (jn (x1.1, x1.2.1, x1.2.2) x2) fun x3 =>
   bif decide (x3.2.2.2.length = x3.2.2.2.length) then
    bif decide (x3.2.1.length = x3.2.1.length) then
     Option.bind (jU ((((0 : Int)), (x0, (((↑(List.length x0) : Int)), ((0 : Int))))), ((x3.1.1, (x3.1.2.1, x3.1.2.2)), (x3.2.1, ((x3.2.2.1.1, (x3.2.2.1.2.1, x3.2.2.1.2.2)), x3.2.2.2))))) fun x4 =>
      some x4
    else none
   else none
 else none
noncomputable def UK : TEnt := ⟨9, .cons (.ptr 0 0) (.sl (.pair (.int .i64) (.int .i32))), [.st Y3_, .li (.sl Y1_) 104 false], [(.tup (.cons (.ptr 2 0) (.int .i64)), [.st Y3_, .li (.sl Y1_) 104 false, .st xh, .li (.sl Y1_) 104 false])], fun s => wa s.1 s.2.1 s.2.2⟩
theorem a0S : qz Tryz.prog UK := qj (tab := [wp, Jp, VK]) (loops := [(303690, [6, 7, 13, 14, 15], (.cons (.ptr 2 0) (.cons (.int .i64) (.cons (.sl (.pair (.int .i64) (.int .i32))) Y7_))), [.st Y3_, .li (.sl Y1_) 104 false, .st xh, .li (.sl Y1_) 104 false])]) (joins := []) (un := []) _ (by
  intro e he
  simp only [List.mem_cons, List.not_mem_nil, or_false] at he
  rcases he with rfl | rfl | rfl
  ·exact jo
  ·exact JS
  ·exact vF) (fun s => by kernel_rfl) (by kernel_rfl)
noncomputable def jx : Option Bool :=
 Option.bind (wc (1 : Int) (3 : Int)) fun x1 =>
  match x1 with
  | Sum.inl x2 =>
    some Bool.false
  | Sum.inr x2 =>
    bif decide (x2.2.length = x2.2.length) then
     Option.bind (wa [((1 : Int), (97 : Int)), ((1 : Int), (98 : Int)), ((1 : Int), (99 : Int))] (x2.1.1, x2.1.2.1, x2.1.2.2) x2.2) fun x3 =>
      bif decide (x3.2.2.1.length = x3.2.2.1.length) then
       Option.bind (wa [((1 : Int), (97 : Int)), ((1 : Int), (98 : Int)), ((3 : Int), (0 : Int))] (x3.2.1.1, x3.2.1.2.1, x3.2.1.2.2) x3.2.2.1) fun x4 =>
        bif decide (x3.2.2.2.2.length = x3.2.2.2.2.length) then
         Option.bind (yb ((0 : Int), (1 : Int)) (x3.2.2.2.1.1, x3.2.2.2.1.2.1, x3.2.2.2.1.2.2) x3.2.2.2.2) fun x5 =>
          bif x3.1 == (2 : Int) then
           bif decide (x5.2.2.length = x5.2.2.length) then
            Option.bind (qM (x5.2.1.1, x5.2.1.2.1, x5.2.1.2.2) x5.2.2) fun x6 =>
             bif x6.1 == (2 : Int) then
              bif x5.1.1.1 == (98 : Int) then
               bif x4.1 == (3 : Int) then
                bif decide (x4.2.2.2.2.length = x4.2.2.2.2.length) then
                 Option.bind (qM (x4.2.2.2.1.1, x4.2.2.2.1.2.1, x4.2.2.2.1.2.2) x4.2.2.2.2) fun x7 =>
                  some (x7.1 == (1 : Int))
                else none
               else some Bool.false
              else some Bool.false
             else some Bool.false
           else none
          else some Bool.false
        else none
      else none
    else none
noncomputable def xH : TEnt := ⟨10, .nil, [], [(.bool, [])], fun s => jx⟩
theorem uF : qz Tryz.prog xH := qj (tab := [KD, QO, Vv, UK]) (loops := []) (joins := []) (un := []) _ (by
  intro e he
  simp only [List.mem_cons, List.not_mem_nil, or_false] at he
  rcases he with rfl | rfl | rfl | rfl
  ·exact ZF
  ·exact yx
  ·exact Vn
  ·exact a0S) (fun s => by kernel_rfl) (by kernel_rfl)
end Go.Sim
set_option maxRecDepth 100000
set_option maxHeartbeats 4000000
set_option linter.unusedVariables false
namespace Go.Sim
abbrev ab8 : Type := Int × (Int × (Int × (Int × (qc × (Int × (Y4_ × List qc))))))
structure OkA (a : ab8) : Prop where
 R : Y9 a.2.1
 C : Y9 a.2.2.1
 X : OkC a.2.2.2.2.1
 M : kx a.2.2.2.2.2.1
 p1 : u8r a.2.2.2.2.2.2.1.1
 p2 : u8r a.2.2.2.2.2.2.1.2.1
 p3 : u8r a.2.2.2.2.2.2.1.2.2
 l : ∀ c ∈ a.2.2.2.2.2.2.2, OkC c
theorem adj {n : Nat} (hn : n ≤ 1000000) (c : Int) : Km (n : Int) c = some (List.replicate n (km c), ((0, 0) : Int × Int)) := by
 unfold Km
 have : Yb (((n : Int), c, (0 : Int)), ((0 : Int), (0 : Int)), ((0 : Int), (0 : Int)), []) = some (List.replicate n (km c), ((0, 0) : Int × Int)) := by
  refine zh (st := fun i => (((n : Int), c, ((i : Nat) : Int)), ((0 : Int), (0 : Int)), ((0 : Int), (0 : Int)), List.replicate i (km c))) (n := n) (fun i hi => ?_) ?_ 0 (by omega)
  ·show zS _ _ _ _ = _
   unfold zS
   have e : ((i : Int) + 1) = ((i + 1 : Nat) : Int) := by omega
   have hnl := u9 c
   have e2 : List.replicate i (km c) ++ [km c] = List.replicate (i + 1) (km c) := K2 i _
   simp (disch := omega) only [qf, q9, cond_true, Option.bind_some, List.length_append, List.length_cons, List.length_nil, decide_true, true_and, hnl, List.length_replicate, e2, e]
  ·show zS _ _ _ _ = _
   unfold zS
   simp (disch := omega) only [ql, q9, cond_true, cond_false, List.length_append, List.length_cons, List.length_nil, decide_true, true_and]
 rw [this]
 rfl
theorem a29 (a : List ab8 × Int) (b : Int × Int) (c : Int × (Int × Int)) (d : qh × (Int × Int)) (e : qh) : jV (a, b, c, d, e) = unr (zU a b c d e) jV := yd _ _
theorem aab {acs : List ab8} (ha : ∀ a ∈ acs, OkA a) (b : Int × Int) : ∀ (k i : Nat) (L : qh) (cols row col : Nat), k = acs.length - i → i ≤ acs.length → i ≤ 30 → GOk L cols → row < L.length → col < cols →
  ∃ (L' : qh) (cols' row' col' : Nat), GOk L' cols' ∧ row' < L'.length ∧ col' < cols' ∧
   jV ((acs, (i : Int)), b, ((row : Int), (col : Int), (cols : Int)), (L, (row : Int), (col : Int)), L) = some (.inr ((L', (row' : Int), (col' : Int)), ((row' : Int), (col' : Int), (cols' : Int)), L')) := by
 intro k
 induction k with
 | zero =>
  intro i L cols row col hk hi h30 hG hr hc
  refine ⟨L, cols, row, col, hG, hr, hc, ?_⟩
  rw [a29]
  unfold zU
  simp (disch := omega) only [qf, ql, q9, cond_true, cond_false, Int.toNat_natCast, decide_true, zQ]
 | succ k ih =>
  intro i L cols row col hk hi h30 hG hr hc
  by_cases h3 : i = 30
  ·refine ⟨L, cols, row, col, hG, hr, hc, ?_⟩
   rw [a29]
   unfold zU
   simp (disch := omega) only [qf, ql, q9, cond_true, cond_false, Int.toNat_natCast, decide_true, zQ]
  ·obtain ⟨a, hx⟩ := qn (l := acs) (i := i) (by omega)
   have hA := ha a (List.mem_of_getElem? hx)
   have e : ((i : Int) + 1) = ((i + 1 : Nat) : Int) := by omega
   obtain ⟨L1, cols1, row1, col1, g1, g2, g3, g4⟩ := did hG hr hc (kind := a.1) (R := a.2.1) (C := a.2.2.1) (T := a.2.2.2.1) (M := a.2.2.2.2.2.1) (p1 := a.2.2.2.2.2.2.1.1) (p2 := a.2.2.2.2.2.2.1.2.1) (p3 := a.2.2.2.2.2.2.1.2.2) (X := a.2.2.2.2.1) (al := a.2.2.2.2.2.2.2) hA.X hA.R hA.C hA.M hA.p1 hA.p2 hA.p3 hA.l
   obtain ⟨L', cols', row', col', q1, q2, q3, q4⟩ := ih (i + 1) L1 cols1 row1 col1 (by omega) (by omega) (by omega) g1 g2 g3
   refine ⟨L', cols', row', col', q1, q2, q3, ?_⟩
   rw [a29, ← q4]
   unfold zU
   rcases g4 with g4 | g4
   ·simp (disch := omega) only [qf, q9, cond_true, Option.bind_some, Int.toNat_natCast, decide_true, za, hx, g4, e]
   ·simp (disch := omega) only [qf, q9, cond_true, Option.bind_some, Int.toNat_natCast, decide_true, za, hx, g4, e]
theorem aiJ {rows cols : Int} {acs : List ab8} (ha : ∀ a ∈ acs, OkA a) : QL rows cols acs = some (.inl ([], ((0, 0) : Int × Int))) ∨
  ∃ (L' : qh) (cols' row' col' : Nat), GOk L' cols' ∧ row' < L'.length ∧ col' < cols' ∧
   QL rows cols acs = some (.inr ((L', (row' : Int), (col' : Int)), ((row' : Int), (col' : Int), (cols' : Int)), L')) := by
 obtain ⟨r', _, s1, s2⟩ := a2L rows
 obtain ⟨c', _, t1, t2⟩ := a2L cols
 unfold QL
 simp only [s1, t1, Option.bind_some, WW]
 by_cases hs : qD r' = true ∧ qD c' = true
 ·obtain ⟨u1, u2⟩ := s2 hs.1
  obtain ⟨u3, u4⟩ := t2 hs.2
  obtain ⟨nr, rfl⟩ : ∃ n : Nat, r' = n := ⟨r'.toNat, by omega⟩
  obtain ⟨nc, rfl⟩ : ∃ n : Nat, c' = n := ⟨c'.toNat, by omega⟩
  obtain ⟨L', cols', row', col', q1, q2, q3, q4⟩ := aab ha (0, 0) acs.length 0 (List.replicate nr (km (nc : Int))) nc 0 0 (by omega) (by omega) (by omega) (GOk.new hs.1 hs.2) (by rw [List.length_replicate]; omega) (by omega)
  refine .inr ⟨L', cols', row', col', q1, q2, q3, ?_⟩
  rw [if_pos hs]
  simp only [Int.toNat_natCast]
  have hN := adj (n := nr) (by omega) (nc : Int)
  have q5 : jV ((acs, (0 : Int)), ((0 : Int), (0 : Int)), ((0 : Int), (0 : Int), (nc : Int)), (List.replicate nr (km (nc : Int)), (0 : Int), (0 : Int)), List.replicate nr (km (nc : Int))) = some (.inr ((L', (row' : Int), (col' : Int)), ((row' : Int), (col' : Int), (cols' : Int)), L')) := q4
  simp (disch := omega) only [cond_true, Option.bind_some, decide_true, hN, q5]
 ·rw [if_neg hs]
  exact .inl rfl
end Go.Sim
set_option maxRecDepth 100000
set_option maxHeartbeats 4000000
set_option linter.unusedVariables false
namespace Go.Sim
def y8 (k r : Int) : Int × Int :=
 if k = 1 then (if jD r = 1 then (0, 1) else (0, 0)) else if k = 2 then (0, -1) else if k = 3 then (0, -1) else if k = 4 then (0, 1) else if k = 5 then (-1, 0) else if k = 6 then (1, 0) else (0, 0)
theorem Kw (k r : Int) : Z2 k r = some (y8 k r) := by
 unfold Z2 y8
 rw [a7p]
 simp only [Zn, decide_true, Bool.and_true]
 by_cases h1 : k = 1
 ·subst h1
  by_cases h : jD r = 1 <;> simp [h]
 ·by_cases h2 : k = 2
  ·subst h2; simp
  ·by_cases h3 : k = 3
   ·subst h3; simp
   ·by_cases h4 : k = 4
    ·subst h4; simp
    ·by_cases h5 : k = 5
     ·subst h5; simp
     ·by_cases h6 : k = 6
      ·subst h6; simp
      ·simp [h1, h2, h3, h4, h5, h6]
end Go.Sim
set_option maxRecDepth 100000
set_option maxHeartbeats 4000000
set_option linter.unusedVariables false
namespace Go.Sim
abbrev a1s : Type := Bool × Bool × Bool × Int × Int × Int × Int × Int × Int × Int × Int × Int × Int × Int × Int × Int × Int × Int × Int × Int × Int
def Qt (ep : Bool) (a b : Int) : a1s := (false, ep, false, 0, 0, 0, 0, 0, 0, 0, 0, 0, 0, 0, 0, 0, 0, 0, 0, a, b)
def K3 : a1s := (true, false, false, 0, 0, 0, 0, 0, 0, 0, 0, 0, 0, 0, 0, 0, 0, 0, 0, 0, 0)
def a9A (k r : Int) (row col rows cols : Nat) : a1s :=
 Qt (decide (k = 7) || (decide (k = 5) || decide (k = 6))) (qF ((row : Int) + (y8 k r).1) rows : Int) (if k = 7 then 0 else (qF ((col : Int) + (y8 k r).2) cols : Int))
theorem abk (k r : Int) : -1 ≤ (y8 k r).1 ∧ (y8 k r).1 ≤ 1 ∧ -1 ≤ (y8 k r).2 ∧ (y8 k r).2 ≤ 1 := by
 unfold y8
 repeat' split
 all_goals (simp only; omega)
theorem aam {L : qh} {cols row col : Nat} (hG : GOk L cols) (hr : row < L.length) (hc : col < cols) (k r : Int) :
  ko (k, r) ((row : Int), (col : Int), (cols : Int)) L = some (a9A k r row col L.length cols, ((row : Int), (col : Int), (cols : Int)), L) := by
 have hrows := hG.rows
 have hwide := hG.wide
 have hm := abk k r
 have a1 := Qk hG.small (by omega) ((row : Int), (col : Int), (cols : Int))
 have a2 := yk (L := L) (cols := cols) ⟨by omega, by omega⟩ ⟨by omega, by omega⟩ ((row : Int) + (y8 k r).1) ((col : Int) + (y8 k r).2) (row : Int) (col : Int)
 unfold ko z7 qM a9A Qt
 by_cases h7 : k = 7
 ·simp (disch := omega) only [qf, ql, ke, zg, q9, cond_true, cond_false, Option.bind_some, decide_true, Kw, a1, a2, if_pos, Bool.true_or]
 ·by_cases h5 : k = 5
  ·simp (disch := omega) only [qf, ql, ke, zg, q9, cond_true, cond_false, Option.bind_some, decide_true, Kw, a1, a2]
   simp [h5]
  ·by_cases h6 : k = 6
   ·simp (disch := omega) only [qf, ql, ke, zg, q9, cond_true, cond_false, Option.bind_some, decide_true, Kw, a1, a2]
    simp [h6]
   ·simp (disch := omega) only [ql, zg, q9, cond_true, cond_false, Option.bind_some, decide_true, Kw, a1, a2]
    simp [h7]
end Go.Sim
set_option maxRecDepth 100000
set_option maxHeartbeats 4000000
set_option linter.unusedVariables false
namespace Go.Sim
def uf (r : Int) (was : qc) (p1 p2 p3 : Int) (row col cols : Nat) : a1s :=
 if jD r = 1 ∧ col + 1 ≠ cols ∧ was.2.2.1 = 1 then
  (false, false, true, (row : Int), (col : Int), r, 0, 0, 1, p1, p2, p3, was.1, was.2.1.1, was.2.1.2, was.2.2.1, was.2.2.2.1, was.2.2.2.2.1, was.2.2.2.2.2, (row : Int), ((col + 1 : Nat) : Int))
 else K3
theorem a7n {L : qh} {cols row col : Nat} (hG : GOk L cols) (hr : row < L.length) (hc : col < cols) (r : Int) :
  Q4 r ((row : Int), (col : Int), (cols : Int)) L = some (uf r (atP L cols row col).1 (if (atP L cols row ((col : Int) - 1)).2 = true then (atP L cols row ((col : Int) - 1)).1.2.2.2.1 else 0) (if (atP L cols row ((col : Int) - 1)).2 = true then (atP L cols row ((col : Int) - 1)).1.2.2.2.2.1 else 0) (if (atP L cols row ((col : Int) - 1)).2 = true then (atP L cols row ((col : Int) - 1)).1.2.2.2.2.2 else 0) row col cols, ((row : Int), (col : Int), (cols : Int)), L) := by
 have hrows := hG.rows
 have hwide := hG.wide
 have hlen : ∀ l ∈ L, l.length = cols := fun l hl => (hG.line l hl).len
 have a1 := a3K hlen (row : Int) (col : Int) (row : Int) (col : Int)
 have a2 := a3K hlen (row : Int) ((col : Int) - 1) (row : Int) (col : Int)
 have hw1 : IntKind.i64.wrap ((cols : Int) - 1) = (cols : Int) - 1 := q9 (by omega) (by omega)
 generalize atP L cols (row : Int) (col : Int) = W at a1 ⊢
 generalize atP L cols (row : Int) ((col : Int) - 1) = V at a2 ⊢
 unfold Q4 z7 qM zm uf K3
 have key : ∀ p1 p2 p3 : Int, K0 r p1 p2 p3 = some (jk (ofC r p1 p2 p3).1, (ofC r p1 p2 p3).2) := fun p1 p2 p3 => afj r p1 p2 p3
 obtain ⟨V1, V2⟩ := V
 cases V2
 ·rcases VN r with h | h | h | h
  ·simp (disch := omega) only [q9, cond_true, cond_false, Option.bind_some, decide_true, a1, a2, key, jk, ofC, h]
   simp []
  ·simp (disch := omega) only [q9, cond_true, cond_false, Option.bind_some, decide_true, a1, a2, key, jk, ofC, h]
   simp []
  ·by_cases h1 : col + 1 = cols
   ·simp (disch := omega) only [ke, q9, cond_true, cond_false, Option.bind_some, decide_true, true_and, a1, a2, key, jk, ofC, h, hw1]
    simp [h1]
   ·by_cases h2 : W.1.2.2.1 = 1
    ·simp (disch := omega) only [zg, a3D, q9, cond_true, cond_false, Option.bind_some, decide_true, true_and, a1, a2, key, jk, ofC, h, hw1]
     simp [h1, h2]
    ·simp (disch := omega) only [zg, aeK, q9, cond_true, cond_false, Option.bind_some, decide_true, true_and, a1, a2, key, jk, ofC, h, hw1]
     simp [h1, h2]
  ·simp (disch := omega) only [q9, cond_true, cond_false, Option.bind_some, decide_true, a1, a2, key, jk, ofC, h]
   simp []
 ·rcases VN r with h | h | h | h
  ·simp (disch := omega) only [q9, cond_true, Option.bind_some, decide_true, a1, a2, key, jk, ofC, h]
   simp []
  ·simp (disch := omega) only [q9, cond_true, Option.bind_some, decide_true, a1, a2, key, jk, ofC, h]
   simp []
  ·by_cases h1 : col + 1 = cols
   ·simp (disch := omega) only [ke, q9, cond_true, Option.bind_some, decide_true, true_and, a1, a2, key, jk, ofC, h, hw1]
    simp [h1]
   ·by_cases h2 : W.1.2.2.1 = 1
    ·simp (disch := omega) only [zg, a3D, q9, cond_true, cond_false, Option.bind_some, decide_true, true_and, a1, a2, key, jk, ofC, h, hw1]
     simp [h1, h2]
    ·simp (disch := omega) only [zg, aeK, q9, cond_true, cond_false, Option.bind_some, decide_true, true_and, a1, a2, key, jk, ofC, h, hw1]
     simp [h1, h2]
  ·simp (disch := omega) only [q9, cond_true, Option.bind_some, decide_true, a1, a2, key, jk, ofC, h]
   simp []
end Go.Sim
set_option maxRecDepth 100000
set_option maxHeartbeats 4000000
set_option linter.unusedVariables false
namespace Go.Sim
def qX (L : qh) (cols : Nat) (k r : Int) (row col : Nat) : a1s :=
 if k = 1 then uf r (atP L cols row col).1 (if (atP L cols row ((col : Int) - 1)).2 = true then (atP L cols row ((col : Int) - 1)).1.2.2.2.1 else 0) (if (atP L cols row ((col : Int) - 1)).2 = true then (atP L cols row ((col : Int) - 1)).1.2.2.2.2.1 else 0) (if (atP L cols row ((col : Int) - 1)).2 = true then (atP L cols row ((col : Int) - 1)).1.2.2.2.2.2 else 0) row col cols
 else if 2 ≤ k ∧ k ≤ 7 then a9A k r row col L.length cols else K3
theorem VJ {L : qh} {cols row col : Nat} (hG : GOk L cols) (hr : row < L.length) (hc : col < cols) (k r : Int) :
  wo (k, r) ((row : Int), (col : Int), (cols : Int)) L = some (qX L cols k r row col, ((row : Int), (col : Int), (cols : Int)), L) := by
 have h1 := a7n hG hr hc r
 have h2 := aam hG hr hc k r
 unfold wo qX
 by_cases k1 : k = 1
 ·rw [if_pos k1]
  simp (disch := omega) only [qf, ql, cond_true, cond_false, Option.bind_some, decide_true, h1]
 ·rw [if_neg k1]
  by_cases k2 : 2 ≤ k ∧ k ≤ 7
  ·rw [if_pos k2]
   have : k = 2 ∨ k = 3 ∨ k = 4 ∨ k = 5 ∨ k = 6 ∨ k = 7 := by omega
   rcases this with q | q | q | q | q | q <;> simp (disch := omega) only [qf, ql, cond_true, cond_false, Option.bind_some, decide_true, h2]
  ·rw [if_neg k2]
   simp (disch := omega) only [ql, cond_true, cond_false, decide_true, K3]
theorem a4W {L : qh} (hS : jL L) (hn : L.length ≤ 1000000) (g : Int × (Int × Int)) : zR K3 g L = some (g, L, g, L) := by
 have a1 := Qk hS hn g
 unfold zR K3
 simp (disch := omega) only [cond_true, cond_false, Option.bind_some, decide_true, a1]
theorem a3p {L : qh} {cols : Nat} (hG : GOk L cols) (ep : Bool) (a b r c : Int) : zR (Qt ep a b) (r, c, (cols : Int)) L = some ((r, c, (cols : Int)), L, ((qF a L.length : Int), (qF b cols : Int), (cols : Int)), L) := by
 have hrows := hG.rows
 have hwide := hG.wide
 have a1 := Qk hG.small (by omega) (r, c, (cols : Int))
 have a2 := yk (L := L) (cols := cols) ⟨by omega, by omega⟩ ⟨by omega, by omega⟩ a b r c
 unfold zR Qt
 simp (disch := omega) only [cond_true, cond_false, Option.bind_some, decide_true, a1, a2]
end Go.Sim
set_option maxRecDepth 100000
set_option maxHeartbeats 4000000
set_option linter.unusedVariables false
namespace Go.Sim
def Jb (R C : Int) (c was : qc) (a b : Int) : a1s := (false, false, true, R, C, c.1, c.2.1.1, c.2.1.2, c.2.2.1, c.2.2.2.1, c.2.2.2.2.1, c.2.2.2.2.2, was.1, was.2.1.1, was.2.1.2, was.2.2.1, was.2.2.2.1, was.2.2.2.2.1, was.2.2.2.2.2, a, b)
theorem ad5 {L : qh} {cols : Nat} (hG : GOk L cols) {R C : Int} (hC : Y9 C) {c : qc} (hc : OkC c) (was : qc) (a b r cc : Int) :
  zR (Jb R C c was a b) (r, cc, (cols : Int)) L = some ((r, cc, (cols : Int)), L, ((qF a L.length : Int), (qF b cols : Int), (cols : Int)), (zP L R fun l => jj l C c).2) := by
 have hrows := hG.rows
 have hwide := hG.wide
 have a1 := Qk hG.small (by omega) (r, cc, (cols : Int))
 have a2 := a1I hG.small R C hC hc (r, cc, (cols : Int))
 have hl := wn L R fun l => jj l C c
 have a3 := yk (L := (zP L R fun l => jj l C c).2) (cols := cols) ⟨by omega, by omega⟩ ⟨by omega, by omega⟩ a b r cc
 rw [hl] at a3
 unfold zR Jb
 simp (disch := omega) only [cond_true, cond_false, Option.bind_some, decide_true, a1, a2, a3]
theorem aad (L : qh) (r c : Int) : wU K3 L r c = some (L, r, c) := by
 unfold wU K3
 simp (disch := omega) only [cond_true, cond_false]
theorem a5C {L : qh} {cols : Nat} (hG : GOk L cols) (ep : Bool) (a b r c : Int) : wU (Qt ep a b) L r c = some (L, (qF a L.length : Int), (qF b cols : Int)) := by
 have hrows := hG.rows
 have hwide := hG.wide
 obtain ⟨l0, h0, h0l⟩ := hG.first
 have a2 := WJ (L := L) (by omega) h0 ⟨by omega, by omega⟩ a b r c
 rw [h0l] at a2
 unfold wU Qt
 simp (disch := omega) only [cond_false, Option.bind_some, a2]
theorem a9u {L : qh} {cols : Nat} (hG : GOk L cols) {R C : Int} (hC : Y9 C) {c : qc} (hc : OkC c) (was : qc) (a b r cc : Int) :
  wU (Jb R C c was a b) L r cc = some ((zP L R fun l => jj l C c).2, (qF a L.length : Int), (qF b cols : Int)) := by
 have hrows := hG.rows
 have hwide := hG.wide
 have hG2 : GOk (zP L R fun l => jj l C c).2 cols := hG.turn R (fun l => jj l C c) (fun l hl _ => Uc hl hc C)
 obtain ⟨l0, h0, h0l⟩ := hG2.first
 have a1 := a5D hG.small (by omega) R C hC hc r cc
 have hl := wn L R fun l => jj l C c
 have a2 := WJ (L := (zP L R fun l => jj l C c).2) (by omega) h0 ⟨by omega, by omega⟩ a b r cc
 rw [h0l, hl] at a2
 unfold wU Jb
 simp (disch := omega) only [cond_true, cond_false, Option.bind_some, a1, a2]
end Go.Sim
set_option maxRecDepth 100000
set_option maxHeartbeats 4000000
set_option linter.unusedVariables false
namespace Go.Sim
end Go.Sim
set_option maxRecDepth 100000
set_option maxHeartbeats 4000000
set_option linter.unusedVariables false
namespace Go.Sim
theorem ahy {L : qh} {cols : Nat} (hG : GOk L cols) (k j : Int) : OkC (atP L cols k j).1 := by
 have hz : OkC ((0, (0, 0), 0, 0, 0, 0) : qc) := ⟨(by unfold kx; simp), (by unfold kx; simp), (by unfold kx; simp), Jz, Jz, Jz, Jz⟩
 unfold atP
 split
 ·split
  ·rename_i c hq
   cases hl : L[k.toNat]? with
   | none => rw [hl] at hq; cases hq
   | some l =>
    rw [hl] at hq
    exact hG.ok l (List.mem_of_getElem? hl) c (List.mem_of_getElem? hq)
  ·exact hz
 ·exact hz
def y6 (L : qh) (cols row col : Nat) (r : Int) : qc := (r, (0, 0), 1, (if (atP L cols row ((col : Int) - 1)).2 = true then (atP L cols row ((col : Int) - 1)).1.2.2.2.1 else 0), (if (atP L cols row ((col : Int) - 1)).2 = true then (atP L cols row ((col : Int) - 1)).1.2.2.2.2.1 else 0), (if (atP L cols row ((col : Int) - 1)).2 = true then (atP L cols row ((col : Int) - 1)).1.2.2.2.2.2 else 0))
theorem a1O {L : qh} {cols row col : Nat} (hG : GOk L cols) {r : Int} (hr : kx r) : OkC (y6 L cols row col r) := by
 have h := ahy hG (row : Int) ((col : Int) - 1)
 refine ⟨hr, (by unfold kx y6; simp), (by unfold kx y6; simp), (by unfold u8r y6; simp), ?_, ?_, ?_⟩
 ·unfold y6; simp only; split
  ·exact h.p1
  ·exact Jz
 ·unfold y6; simp only; split
  ·exact h.p2
  ·exact Jz
 ·unfold y6; simp only; split
  ·exact h.p3
  ·exact Jz
theorem a8o (L : qh) (cols : Nat) (k r : Int) (row col : Nat) : qX L cols k r row col = K3 ∨ (∃ ep a b, qX L cols k r row col = Qt ep a b) ∨
  (col + 1 < cols ∨ cols ≤ col) ∧ qX L cols k r row col = Jb (row : Int) (col : Int) (y6 L cols row col r) (atP L cols row col).1 (row : Int) ((col + 1 : Nat) : Int) := by
 unfold qX
 split
 ·unfold uf
  split
  ·rename_i h
   exact .inr (.inr ⟨by omega, rfl⟩)
  ·exact .inl rfl
 ·split
  ·exact .inr (.inl ⟨_, _, _, rfl⟩)
  ·exact .inl rfl
theorem abJ {L : qh} {cols row col : Nat} (hG : GOk L cols) (hr : row < L.length) (hc : col < cols) (k : Int) {r : Int} (hr32 : kx r) :
  ∃ (L' : qh) (row' col' : Nat), GOk L' cols ∧ L'.length = L.length ∧ row' < L'.length ∧ col' < cols ∧
   zR (qX L cols k r row col) ((row : Int), (col : Int), (cols : Int)) L = some (((row : Int), (col : Int), (cols : Int)), L, ((row' : Int), (col' : Int), (cols : Int)), L') ∧
   wU (qX L cols k r row col) L (row : Int) (col : Int) = some (L', (row' : Int), (col' : Int)) := by
 have hrows := hG.rows
 have hwide := hG.wide
 rcases a8o L cols k r row col with h | ⟨ep, a, b, h⟩ | ⟨hb, h⟩
 ·rw [h]
  exact ⟨L, row, col, hG, rfl, hr, hc, a4W hG.small (by omega) _, aad _ _ _⟩
 ·rw [h]
  exact ⟨L, _, _, hG, rfl, jW (by omega), jW (by omega), a3p hG ep a b _ _, a5C hG ep a b _ _⟩
 ·rw [h]
  have hT := a1O (row := row) (col := col) hG hr32
  have hC : Y9 (col : Int) := ⟨by omega, by omega⟩
  have hl := wn L (row : Int) fun l => jj l (col : Int) (y6 L cols row col r)
  exact ⟨_, _, _, hG.turn (row : Int) (fun l => jj l (col : Int) (y6 L cols row col r)) (fun l q _ => Uc q hT (col : Int)), hl, by rw [hl]; exact jW (by omega), jW (by omega), ad5 hG hC hT _ _ _ _ _, a9u hG hC hT _ _ _ _ _⟩
end Go.Sim
set_option maxRecDepth 100000
set_option maxHeartbeats 0
set_option linter.unusedVariables false
namespace Go.Sim
open Go.Proofs
noncomputable def XP (x0 : Int) (x1 : Int) : Option Y9_ :=
 bif decide (x0 = x0) then
  bif decide (x0 = (1 : Int)) then
   some (Bool.true, (Bool.false, (Bool.false, (((0 : Int)), (((0 : Int)), (((0 : Int)), (((0 : Int)), (((0 : Int)), (((0 : Int)), (((0 : Int)), (((0 : Int)), (((0 : Int)), (((0 : Int)), (((0 : Int)), (((0 : Int)), (((0 : Int)), (((0 : Int)), (((0 : Int)), (((0 : Int)), (((0 : Int)), ((0 : Int))))))))))))))))))))))
  else bif decide (x0 = (2 : Int)) then
    some (Bool.true, (Bool.false, (Bool.false, (((0 : Int)), (((0 : Int)), (((0 : Int)), (((0 : Int)), (((0 : Int)), (((0 : Int)), (((0 : Int)), (((0 : Int)), (((0 : Int)), (((0 : Int)), (((0 : Int)), (((0 : Int)), (((0 : Int)), (((0 : Int)), (((0 : Int)), (((0 : Int)), (((0 : Int)), ((0 : Int))))))))))))))))))))))
   else bif decide (x0 = (3 : Int)) then
     some (Bool.true, (Bool.false, (Bool.false, (((0 : Int)), (((0 : Int)), (((0 : Int)), (((0 : Int)), (((0 : Int)), (((0 : Int)), (((0 : Int)), (((0 : Int)), (((0 : Int)), (((0 : Int)), (((0 : Int)), (((0 : Int)), (((0 : Int)), (((0 : Int)), (((0 : Int)), (((0 : Int)), (((0 : Int)), ((0 : Int))))))))))))))))))))))
    else bif decide (x0 = (4 : Int)) then
      some (Bool.true, (Bool.false, (Bool.false, (((0 : Int)), (((0 : Int)), (((0 : Int)), (((0 : Int)), (((0 : Int)), (((0 : Int)), (((0 : Int)), (((0 : Int)), (((0 : Int)), (((0 : Int)), (((0 : Int)), (((0 : Int)), (((0 : Int)), (((0 : Int)), (((0 : Int)), (((0 : Int)), (((0 : Int)), ((0 : Int))))))))))))))))))))))
     else bif decide (x0 = (5 : Int)) then
       some (Bool.true, (Bool.false, (Bool.false, (((0 : Int)), (((0 : Int)), (((0 : Int)), (((0 : Int)), (((0 : Int)), (((0 : Int)), (((0 : Int)), (((0 : Int)), (((0 : Int)), (((0 : Int)), (((0 : Int)), (((0 : Int)), (((0 : Int)), (((0 : Int)), (((0 : Int)), (((0 : Int)), (((0 : Int)), ((0 : Int))))))))))))))))))))))
      else bif decide (x0 = (6 : Int)) then
        some (Bool.true, (Bool.false, (Bool.false, (((0 : Int)), (((0 : Int)), (((0 : Int)), (((0 : Int)), (((0 : Int)), (((0 : Int)), (((0 : Int)), (((0 : Int)), (((0 : Int)), (((0 : Int)), (((0 : Int)), (((0 : Int)), (((0 : Int)), (((0 : Int)), (((0 : Int)), (((0 : Int)), (((0 : Int)), ((0 : Int))))))))))))))))))))))
       else bif decide (x0 = (7 : Int)) then
         some (Bool.true, (Bool.false, (Bool.false, (((0 : Int)), (((0 : Int)), (((0 : Int)), (((0 : Int)), (((0 : Int)), (((0 : Int)), (((0 : Int)), (((0 : Int)), (((0 : Int)), (((0 : Int)), (((0 : Int)), (((0 : Int)), (((0 : Int)), (((0 : Int)), (((0 : Int)), (((0 : Int)), (((0 : Int)), ((0 : Int))))))))))))))))))))))
        else some (Bool.true, (Bool.false, (Bool.false, (((0 : Int)), (((0 : Int)), (((0 : Int)), (((0 : Int)), (((0 : Int)), (((0 : Int)), (((0 : Int)), (((0 : Int)), (((0 : Int)), (((0 : Int)), (((0 : Int)), (((0 : Int)), (((0 : Int)), (((0 : Int)), (((0 : Int)), (((0 : Int)), (((0 : Int)), ((0 : Int))))))))))))))))))))))
 else none
noncomputable def Ww : TEnt := ⟨11, .cons (.agg a5U) (.cst (.pointer none)), [], [((.agg Y5_), [])], fun s => XP s.1 s.2⟩
theorem vN : qz Tryz.prog Ww := qj (tab := [Ke, Wd]) (loops := []) (joins := []) (un := []) _ (by
  intro e he
  simp only [List.mem_cons, List.not_mem_nil, or_false] at he
  rcases he with rfl | rfl
  ·exact Jd
  ·exact Js) (fun s => by kernel_rfl) (by kernel_rfl)
noncomputable def a3s (x0 : Bool) (x1 : Bool) (x2 : Bool) (x3 : Int) (x4 : Int) (x5 : Int) (x6 : Int) (x7 : Int) (x8 : Int) (x9 : Int) (x10 : Int) (x11 : Int) (x12 : Int) (x13 : Int) (x14 : Int) (x15 : Int) (x16 : Int) (x17 : Int) (x18 : Int) (x19 : Int) (x20 : Int) : Option Unit :=
 bif x0 then
  some ()
 else bif x2 then
   some ()
  else some ()
noncomputable def vA : TEnt := ⟨12, .cons (.agg Y5_) (.cst (.pointer none)), [], [(.cst (.pointer none), [])], fun s => a3s s.1 s.2.1 s.2.2.1 s.2.2.2.1 s.2.2.2.2.1 s.2.2.2.2.2.1 s.2.2.2.2.2.2.1 s.2.2.2.2.2.2.2.1 s.2.2.2.2.2.2.2.2.1 s.2.2.2.2.2.2.2.2.2.1 s.2.2.2.2.2.2.2.2.2.2.1 s.2.2.2.2.2.2.2.2.2.2.2.1 s.2.2.2.2.2.2.2.2.2.2.2.2.1 s.2.2.2.2.2.2.2.2.2.2.2.2.2.1 s.2.2.2.2.2.2.2.2.2.2.2.2.2.2.1 s.2.2.2.2.2.2.2.2.2.2.2.2.2.2.2.1 s.2.2.2.2.2.2.2.2.2.2.2.2.2.2.2.2.1 s.2.2.2.2.2.2.2.2.2.2.2.2.2.2.2.2.2.1 s.2.2.2.2.2.2.2.2.2.2.2.2.2.2.2.2.2.2.1 s.2.2.2.2.2.2.2.2.2.2.2.2.2.2.2.2.2.2.2.1 s.2.2.2.2.2.2.2.2.2.2.2.2.2.2.2.2.2.2.2.2⟩
theorem Xp : qz Tryz.prog vA := qj (tab := [Kf, jq, wp]) (loops := []) (joins := []) (un := []) _ (by
  intro e he
  simp only [List.mem_cons, List.not_mem_nil, or_false] at he
  rcases he with rfl | rfl | rfl
  ·exact ZC
  ·exact kI
  ·exact jo) (fun s => by kernel_rfl) (by kernel_rfl)
noncomputable def KV (x0 : Int) (x1 : Int) (x2 : ac6) (x3 : Int) (x4 : Int) : Option Bool :=
 Option.bind (QL x0 x1 x2) fun x5 =>
  match x5 with
  | Sum.inl x6 =>
    Option.bind (jx) fun x7 =>
     some x7
  | Sum.inr x6 =>
    bif decide (x6.2.2.length = x6.2.2.length) then
     Option.bind (wo (x3, x4) (x6.2.1.1, x6.2.1.2.1, x6.2.1.2.2) x6.2.2) fun x7 =>
      bif decide (x7.2.2.length = x7.2.2.length) then
       Option.bind (zR (x7.1.1, x7.1.2.1, x7.1.2.2.1, x7.1.2.2.2.1, x7.1.2.2.2.2.1, x7.1.2.2.2.2.2.1, x7.1.2.2.2.2.2.2.1, x7.1.2.2.2.2.2.2.2.1, x7.1.2.2.2.2.2.2.2.2.1, x7.1.2.2.2.2.2.2.2.2.2.1, x7.1.2.2.2.2.2.2.2.2.2.2.1, x7.1.2.2.2.2.2.2.2.2.2.2.2.1, x7.1.2.2.2.2.2.2.2.2.2.2.2.2.1, x7.1.2.2.2.2.2.2.2.2.2.2.2.2.2.1, x7.1.2.2.2.2.2.2.2.2.2.2.2.2.2.2.1, x7.1.2.2.2.2.2.2.2.2.2.2.2.2.2.2.2.1, x7.1.2.2.2.2.2.2.2.2.2.2.2.2.2.2.2.2.1, x7.1.2.2.2.2.2.2.2.2.2.2.2.2.2.2.2.2.2.1, x7.1.2.2.2.2.2.2.2.2.2.2.2.2.2.2.2.2.2.2.1, x7.1.2.2.2.2.2.2.2.2.2.2.2.2.2.2.2.2.2.2.2.1, x7.1.2.2.2.2.2.2.2.2.2.2.2.2.2.2.2.2.2.2.2.2) (x7.2.1.1, x7.2.1.2.1, x7.2.1.2.2) x7.2.2) fun x8 =>
        Option.bind (
         bif x7.1.1 then
          bif !(x7.1.1 == Bool.true && (x7.1.2.1 == Bool.false && (x7.1.2.2.1 == Bool.false && (x7.1.2.2.2.1 == (0 : Int) && (x7.1.2.2.2.2.1 == (0 : Int) && (x7.1.2.2.2.2.2.1 == (0 : Int) && (x7.1.2.2.2.2.2.2.1 == (0 : Int) && (x7.1.2.2.2.2.2.2.2.1 == (0 : Int) && Bool.true) && (x7.1.2.2.2.2.2.2.2.2.1 == (0 : Int) && (x7.1.2.2.2.2.2.2.2.2.2.1 == (0 : Int) && (x7.1.2.2.2.2.2.2.2.2.2.2.1 == (0 : Int) && (x7.1.2.2.2.2.2.2.2.2.2.2.2.1 == (0 : Int) && Bool.true)) && Bool.true))) && (x7.1.2.2.2.2.2.2.2.2.2.2.2.2.1 == (0 : Int) && (x7.1.2.2.2.2.2.2.2.2.2.2.2.2.2.1 == (0 : Int) && (x7.1.2.2.2.2.2.2.2.2.2.2.2.2.2.2.1 == (0 : Int) && Bool.true) && (x7.1.2.2.2.2.2.2.2.2.2.2.2.2.2.2.2.1 == (0 : Int) && (x7.1.2.2.2.2.2.2.2.2.2.2.2.2.2.2.2.2.1 == (0 : Int) && (x7.1.2.2.2.2.2.2.2.2.2.2.2.2.2.2.2.2.2.1 == (0 : Int) && (x7.1.2.2.2.2.2.2.2.2.2.2.2.2.2.2.2.2.2.2.1 == (0 : Int) && Bool.true)) && Bool.true))) && (x7.1.2.2.2.2.2.2.2.2.2.2.2.2.2.2.2.2.2.2.2.1 == (0 : Int) && (x7.1.2.2.2.2.2.2.2.2.2.2.2.2.2.2.2.2.2.2.2.2 == (0 : Int) && Bool.true))))))))) then
           bif decide (x8.2.2.2.length = x8.2.2.2.length) then
            bif decide (x8.2.1.length = x8.2.1.length) then
             some (Sum.inl (Bool.true, ((x8.1.1, (x8.1.2.1, x8.1.2.2)), ((x7.1.1, (x7.1.2.1, (x7.1.2.2.1, (x7.1.2.2.2.1, (x7.1.2.2.2.2.1, (x7.1.2.2.2.2.2.1, (x7.1.2.2.2.2.2.2.1, (x7.1.2.2.2.2.2.2.2.1, (x7.1.2.2.2.2.2.2.2.2.1, (x7.1.2.2.2.2.2.2.2.2.2.1, (x7.1.2.2.2.2.2.2.2.2.2.2.1, (x7.1.2.2.2.2.2.2.2.2.2.2.2.1, (x7.1.2.2.2.2.2.2.2.2.2.2.2.2.1, (x7.1.2.2.2.2.2.2.2.2.2.2.2.2.2.1, (x7.1.2.2.2.2.2.2.2.2.2.2.2.2.2.2.1, (x7.1.2.2.2.2.2.2.2.2.2.2.2.2.2.2.2.1, (x7.1.2.2.2.2.2.2.2.2.2.2.2.2.2.2.2.2.1, (x7.1.2.2.2.2.2.2.2.2.2.2.2.2.2.2.2.2.2.1, (x7.1.2.2.2.2.2.2.2.2.2.2.2.2.2.2.2.2.2.2.1, (x7.1.2.2.2.2.2.2.2.2.2.2.2.2.2.2.2.2.2.2.2.1, x7.1.2.2.2.2.2.2.2.2.2.2.2.2.2.2.2.2.2.2.2.2)))))))))))))))))))), ((x8.2.2.1.1, (x8.2.2.1.2.1, x8.2.2.1.2.2)), (x8.2.1, x8.2.2.2))))))
            else none
           else none
          else bif decide (x8.2.2.2.length = x8.2.2.2.length) then
            Option.bind (z9 (x8.2.2.1.1, x8.2.2.1.2.1, x8.2.2.1.2.2) x8.2.2.2) fun x9 =>
             bif decide (x8.2.1.length = x8.2.1.length) then
              Option.bind (z9 (x8.1.1, x8.1.2.1, x8.1.2.2) x8.2.1) fun x10 =>
               bif x9.1 != x10.1 then
                bif decide (x9.2.2.length = x9.2.2.length) then
                 bif decide (x10.2.2.length = x10.2.2.length) then
                  some (Sum.inl (Bool.true, ((x10.2.1.1, (x10.2.1.2.1, x10.2.1.2.2)), ((x7.1.1, (x7.1.2.1, (x7.1.2.2.1, (x7.1.2.2.2.1, (x7.1.2.2.2.2.1, (x7.1.2.2.2.2.2.1, (x7.1.2.2.2.2.2.2.1, (x7.1.2.2.2.2.2.2.2.1, (x7.1.2.2.2.2.2.2.2.2.1, (x7.1.2.2.2.2.2.2.2.2.2.1, (x7.1.2.2.2.2.2.2.2.2.2.2.1, (x7.1.2.2.2.2.2.2.2.2.2.2.2.1, (x7.1.2.2.2.2.2.2.2.2.2.2.2.2.1, (x7.1.2.2.2.2.2.2.2.2.2.2.2.2.2.1, (x7.1.2.2.2.2.2.2.2.2.2.2.2.2.2.2.1, (x7.1.2.2.2.2.2.2.2.2.2.2.2.2.2.2.2.1, (x7.1.2.2.2.2.2.2.2.2.2.2.2.2.2.2.2.2.1, (x7.1.2.2.2.2.2.2.2.2.2.2.2.2.2.2.2.2.2.1, (x7.1.2.2.2.2.2.2.2.2.2.2.2.2.2.2.2.2.2.2.1, (x7.1.2.2.2.2.2.2.2.2.2.2.2.2.2.2.2.2.2.2.2.1, x7.1.2.2.2.2.2.2.2.2.2.2.2.2.2.2.2.2.2.2.2.2)))))))))))))))))))), ((x9.2.1.1, (x9.2.1.2.1, x9.2.1.2.2)), (x10.2.2, x9.2.2))))))
                 else none
                else none
               else bif decide (x9.2.2.length = x9.2.2.length) then
                 Option.bind (zm (x9.2.1.1, x9.2.1.2.1, x9.2.1.2.2) x9.2.2) fun x11 =>
                  bif decide (x10.2.2.length = x10.2.2.length) then
                   Option.bind (zm (x10.2.1.1, x10.2.1.2.1, x10.2.1.2.2) x10.2.2) fun x12 =>
                    bif x11.1 != x12.1 then
                     bif decide (x11.2.2.length = x11.2.2.length) then
                      bif decide (x12.2.2.length = x12.2.2.length) then
                       some (Sum.inl (Bool.true, ((x12.2.1.1, (x12.2.1.2.1, x12.2.1.2.2)), ((x7.1.1, (x7.1.2.1, (x7.1.2.2.1, (x7.1.2.2.2.1, (x7.1.2.2.2.2.1, (x7.1.2.2.2.2.2.1, (x7.1.2.2.2.2.2.2.1, (x7.1.2.2.2.2.2.2.2.1, (x7.1.2.2.2.2.2.2.2.2.1, (x7.1.2.2.2.2.2.2.2.2.2.1, (x7.1.2.2.2.2.2.2.2.2.2.2.1, (x7.1.2.2.2.2.2.2.2.2.2.2.2.1, (x7.1.2.2.2.2.2.2.2.2.2.2.2.2.1, (x7.1.2.2.2.2.2.2.2.2.2.2.2.2.2.1, (x7.1.2.2.2.2.2.2.2.2.2.2.2.2.2.2.1, (x7.1.2.2.2.2.2.2.2.2.2.2.2.2.2.2.2.1, (x7.1.2.2.2.2.2.2.2.2.2.2.2.2.2.2.2.2.1, (x7.1.2.2.2.2.2.2.2.2.2.2.2.2.2.2.2.2.2.1, (x7.1.2.2.2.2.2.2.2.2.2.2.2.2.2.2.2.2.2.2.1, (x7.1.2.2.2.2.2.2.2.2.2.2.2.2.2.2.2.2.2.2.2.1, x7.1.2.2.2.2.2.2.2.2.2.2.2.2.2.2.2.2.2.2.2.2)))))))))))))))))))), ((x11.2.1.1, (x11.2.1.2.1, x11.2.1.2.2)), (x12.2.2, x11.2.2))))))
                      else none
                     else none
                    else bif decide (x11.2.2.length = x11.2.2.length) then
                      Option.bind (wQ (x11.2.1.1, x11.2.1.2.1, x11.2.1.2.2) x11.2.2) fun x13 =>
                       bif decide (x13.2.2.length = x13.2.2.length) then
                        bif decide (x12.2.2.length = x12.2.2.length) then
                         some (Sum.inl (!x13.1, ((x12.2.1.1, (x12.2.1.2.1, x12.2.1.2.2)), ((x7.1.1, (x7.1.2.1, (x7.1.2.2.1, (x7.1.2.2.2.1, (x7.1.2.2.2.2.1, (x7.1.2.2.2.2.2.1, (x7.1.2.2.2.2.2.2.1, (x7.1.2.2.2.2.2.2.2.1, (x7.1.2.2.2.2.2.2.2.2.1, (x7.1.2.2.2.2.2.2.2.2.2.1, (x7.1.2.2.2.2.2.2.2.2.2.2.1, (x7.1.2.2.2.2.2.2.2.2.2.2.2.1, (x7.1.2.2.2.2.2.2.2.2.2.2.2.2.1, (x7.1.2.2.2.2.2.2.2.2.2.2.2.2.2.1, (x7.1.2.2.2.2.2.2.2.2.2.2.2.2.2.2.1, (x7.1.2.2.2.2.2.2.2.2.2.2.2.2.2.2.2.1, (x7.1.2.2.2.2.2.2.2.2.2.2.2.2.2.2.2.2.1, (x7.1.2.2.2.2.2.2.2.2.2.2.2.2.2.2.2.2.2.1, (x7.1.2.2.2.2.2.2.2.2.2.2.2.2.2.2.2.2.2.2.1, (x7.1.2.2.2.2.2.2.2.2.2.2.2.2.2.2.2.2.2.2.2.1, x7.1.2.2.2.2.2.2.2.2.2.2.2.2.2.2.2.2.2.2.2.2)))))))))))))))))))), ((x13.2.1.1, (x13.2.1.2.1, x13.2.1.2.2)), (x12.2.2, x13.2.2))))))
                        else none
                       else none
                     else none
                  else none
                else none
             else none
           else none
         else bif decide (x8.2.2.2.length = x8.2.2.2.length) then
           Option.bind (z9 (x8.2.2.1.1, x8.2.2.1.2.1, x8.2.2.1.2.2) x8.2.2.2) fun x9 =>
            bif decide (x8.2.1.length = x8.2.1.length) then
             Option.bind (z9 (x8.1.1, x8.1.2.1, x8.1.2.2) x8.2.1) fun x10 =>
              bif x9.1 != x10.1 then
               bif decide (x9.2.2.length = x9.2.2.length) then
                bif decide (x10.2.2.length = x10.2.2.length) then
                 some (Sum.inl (Bool.true, ((x10.2.1.1, (x10.2.1.2.1, x10.2.1.2.2)), ((x7.1.1, (x7.1.2.1, (x7.1.2.2.1, (x7.1.2.2.2.1, (x7.1.2.2.2.2.1, (x7.1.2.2.2.2.2.1, (x7.1.2.2.2.2.2.2.1, (x7.1.2.2.2.2.2.2.2.1, (x7.1.2.2.2.2.2.2.2.2.1, (x7.1.2.2.2.2.2.2.2.2.2.1, (x7.1.2.2.2.2.2.2.2.2.2.2.1, (x7.1.2.2.2.2.2.2.2.2.2.2.2.1, (x7.1.2.2.2.2.2.2.2.2.2.2.2.2.1, (x7.1.2.2.2.2.2.2.2.2.2.2.2.2.2.1, (x7.1.2.2.2.2.2.2.2.2.2.2.2.2.2.2.1, (x7.1.2.2.2.2.2.2.2.2.2.2.2.2.2.2.2.1, (x7.1.2.2.2.2.2.2.2.2.2.2.2.2.2.2.2.2.1, (x7.1.2.2.2.2.2.2.2.2.2.2.2.2.2.2.2.2.2.1, (x7.1.2.2.2.2.2.2.2.2.2.2.2.2.2.2.2.2.2.2.1, (x7.1.2.2.2.2.2.2.2.2.2.2.2.2.2.2.2.2.2.2.2.1, x7.1.2.2.2.2.2.2.2.2.2.2.2.2.2.2.2.2.2.2.2.2)))))))))))))))))))), ((x9.2.1.1, (x9.2.1.2.1, x9.2.1.2.2)), (x10.2.2, x9.2.2))))))
                else none
               else none
              else bif decide (x9.2.2.length = x9.2.2.length) then
                Option.bind (zm (x9.2.1.1, x9.2.1.2.1, x9.2.1.2.2) x9.2.2) fun x11 =>
                 bif decide (x10.2.2.length = x10.2.2.length) then
                  Option.bind (zm (x10.2.1.1, x10.2.1.2.1, x10.2.1.2.2) x10.2.2) fun x12 =>
                   bif x11.1 != x12.1 then
                    bif decide (x11.2.2.length = x11.2.2.length) then
                     bif decide (x12.2.2.length = x12.2.2.length) then
                      some (Sum.inl (Bool.true, ((x12.2.1.1, (x12.2.1.2.1, x12.2.1.2.2)), ((x7.1.1, (x7.1.2.1, (x7.1.2.2.1, (x7.1.2.2.2.1, (x7.1.2.2.2.2.1, (x7.1.2.2.2.2.2.1, (x7.1.2.2.2.2.2.2.1, (x7.1.2.2.2.2.2.2.2.1, (x7.1.2.2.2.2.2.2.2.2.1, (x7.1.2.2.2.2.2.2.2.2.2.1, (x7.1.2.2.2.2.2.2.2.2.2.2.1, (x7.1.2.2.2.2.2.2.2.2.2.2.2.1, (x7.1.2.2.2.2.2.2.2.2.2.2.2.2.1, (x7.1.2.2.2.2.2.2.2.2.2.2.2.2.2.1, (x7.1.2.2.2.2.2.2.2.2.2.2.2.2.2.2.1, (x7.1.2.2.2.2.2.2.2.2.2.2.2.2.2.2.2.1, (x7.1.2.2.2.2.2.2.2.2.2.2.2.2.2.2.2.2.1, (x7.1.2.2.2.2.2.2.2.2.2.2.2.2.2.2.2.2.2.1, (x7.1.2.2.2.2.2.2.2.2.2.2.2.2.2.2.2.2.2.2.1, (x7.1.2.2.2.2.2.2.2.2.2.2.2.2.2.2.2.2.2.2.2.1, x7.1.2.2.2.2.2.2.2.2.2.2.2.2.2.2.2.2.2.2.2.2)))))))))))))))))))), ((x11.2.1.1, (x11.2.1.2.1, x11.2.1.2.2)), (x12.2.2, x11.2.2))))))
                     else none
                    else none
                   else bif decide (x11.2.2.length = x11.2.2.length) then
                     Option.bind (wQ (x11.2.1.1, x11.2.1.2.1, x11.2.1.2.2) x11.2.2) fun x13 =>
                      bif decide (x13.2.2.length = x13.2.2.length) then
                       bif decide (x12.2.2.length = x12.2.2.length) then
                        some (Sum.inl (!x13.1, ((x12.2.1.1, (x12.2.1.2.1, x12.2.1.2.2)), ((x7.1.1, (x7.1.2.1, (x7.1.2.2.1, (x7.1.2.2.2.1, (x7.1.2.2.2.2.1, (x7.1.2.2.2.2.2.1, (x7.1.2.2.2.2.2.2.1, (x7.1.2.2.2.2.2.2.2.1, (x7.1.2.2.2.2.2.2.2.2.1, (x7.1.2.2.2.2.2.2.2.2.2.1, (x7.1.2.2.2.2.2.2.2.2.2.2.1, (x7.1.2.2.2.2.2.2.2.2.2.2.2.1, (x7.1.2.2.2.2.2.2.2.2.2.2.2.2.1, (x7.1.2.2.2.2.2.2.2.2.2.2.2.2.2.1, (x7.1.2.2.2.2.2.2.2.2.2.2.2.2.2.2.1, (x7.1.2.2.2.2.2.2.2.2.2.2.2.2.2.2.2.1, (x7.1.2.2.2.2.2.2.2.2.2.2.2.2.2.2.2.2.1, (x7.1.2.2.2.2.2.2.2.2.2.2.2.2.2.2.2.2.2.1, (x7.1.2.2.2.2.2.2.2.2.2.2.2.2.2.2.2.2.2.2.1, (x7.1.2.2.2.2.2.2.2.2.2.2.2.2.2.2.2.2.2.2.2.1, x7.1.2.2.2.2.2.2.2.2.2.2.2.2.2.2.2.2.2.2.2.2)))))))))))))))))))), ((x13.2.1.1, (x13.2.1.2.1, x13.2.1.2.2)), (x12.2.2, x13.2.2))))))
                       else none
                      else none
                    else none
                 else none
               else none
            else none
          else none) fun (x9 : ((Bool × (Y4_ × (Y9_ × (Y4_ × ((List Y0_) × (List Y0_)))))) ⊕ Bool)) =>
         match x9 with
         | Sum.inl x10 =>
           bif x10.1 then
            some Bool.false
           else bif x10.2.2.1.1 then
             Option.bind (jx) fun x11 =>
              bif x11 then
               bif decide (x10.2.2.2.2.2.length = x10.2.2.2.2.2.length) then
                bif decide (x10.2.2.2.2.1.length = x10.2.2.2.2.1.length) then
                 Option.bind (wj (x10.2.1.1, x10.2.1.2.1, x10.2.1.2.2) x10.2.2.2.2.1 (x10.2.2.2.1.1, x10.2.2.2.1.2.1, x10.2.2.2.1.2.2) x10.2.2.2.2.2) fun x12 =>
                  some x12.1
                else none
               else none
              else some Bool.false
            else Option.bind (
              bif decide (x10.2.2.2.2.2.length = x10.2.2.2.2.2.length) then
               Option.bind (z7 (x10.2.2.2.1.1, x10.2.2.2.1.2.1, x10.2.2.2.1.2.2) x10.2.2.2.2.2) fun x11 =>
                bif x10.2.2.1.2.2.2.2.2.2.2.2.2.2.2.2.2.2.2.2.2.2.2.1 != x11.1 then
                 bif decide (x11.2.2.length = x11.2.2.length) then
                  bif decide (x10.2.2.2.2.1.length = x10.2.2.2.2.1.length) then
                   some (Sum.inl (Bool.true, ((x10.2.1.1, (x10.2.1.2.1, x10.2.1.2.2)), ((x10.2.2.1.1, (x10.2.2.1.2.1, (x10.2.2.1.2.2.1, (x10.2.2.1.2.2.2.1, (x10.2.2.1.2.2.2.2.1, (x10.2.2.1.2.2.2.2.2.1, (x10.2.2.1.2.2.2.2.2.2.1, (x10.2.2.1.2.2.2.2.2.2.2.1, (x10.2.2.1.2.2.2.2.2.2.2.2.1, (x10.2.2.1.2.2.2.2.2.2.2.2.2.1, (x10.2.2.1.2.2.2.2.2.2.2.2.2.2.1, (x10.2.2.1.2.2.2.2.2.2.2.2.2.2.2.1, (x10.2.2.1.2.2.2.2.2.2.2.2.2.2.2.2.1, (x10.2.2.1.2.2.2.2.2.2.2.2.2.2.2.2.2.1, (x10.2.2.1.2.2.2.2.2.2.2.2.2.2.2.2.2.2.1, (x10.2.2.1.2.2.2.2.2.2.2.2.2.2.2.2.2.2.2.1, (x10.2.2.1.2.2.2.2.2.2.2.2.2.2.2.2.2.2.2.2.1, (x10.2.2.1.2.2.2.2.2.2.2.2.2.2.2.2.2.2.2.2.2.1, (x10.2.2.1.2.2.2.2.2.2.2.2.2.2.2.2.2.2.2.2.2.2.1, (x10.2.2.1.2.2.2.2.2.2.2.2.2.2.2.2.2.2.2.2.2.2.2.1, x10.2.2.1.2.2.2.2.2.2.2.2.2.2.2.2.2.2.2.2.2.2.2.2)))))))))))))))))))), ((x11.2.1.1, (x11.2.1.2.1, x11.2.1.2.2)), (x10.2.2.2.2.1, x11.2.2))))))
                  else none
                 else none
                else bif decide (x11.2.2.length = x11.2.2.length) then
                  Option.bind (qM (x11.2.1.1, x11.2.1.2.1, x11.2.1.2.2) x11.2.2) fun x12 =>
                   bif decide (x12.2.2.length = x12.2.2.length) then
                    bif decide (x10.2.2.2.2.1.length = x10.2.2.2.2.1.length) then
                     some (Sum.inl ((x10.2.2.1.2.2.2.2.2.2.2.2.2.2.2.2.2.2.2.2.2.2.2.2 != x12.1), ((x10.2.1.1, (x10.2.1.2.1, x10.2.1.2.2)), ((x10.2.2.1.1, (x10.2.2.1.2.1, (x10.2.2.1.2.2.1, (x10.2.2.1.2.2.2.1, (x10.2.2.1.2.2.2.2.1, (x10.2.2.1.2.2.2.2.2.1, (x10.2.2.1.2.2.2.2.2.2.1, (x10.2.2.1.2.2.2.2.2.2.2.1, (x10.2.2.1.2.2.2.2.2.2.2.2.1, (x10.2.2.1.2.2.2.2.2.2.2.2.2.1, (x10.2.2.1.2.2.2.2.2.2.2.2.2.2.1, (x10.2.2.1.2.2.2.2.2.2.2.2.2.2.2.1, (x10.2.2.1.2.2.2.2.2.2.2.2.2.2.2.2.1, (x10.2.2.1.2.2.2.2.2.2.2.2.2.2.2.2.2.1, (x10.2.2.1.2.2.2.2.2.2.2.2.2.2.2.2.2.2.1, (x10.2.2.1.2.2.2.2.2.2.2.2.2.2.2.2.2.2.2.1, (x10.2.2.1.2.2.2.2.2.2.2.2.2.2.2.2.2.2.2.2.1, (x10.2.2.1.2.2.2.2.2.2.2.2.2.2.2.2.2.2.2.2.2.1, (x10.2.2.1.2.2.2.2.2.2.2.2.2.2.2.2.2.2.2.2.2.2.1, (x10.2.2.1.2.2.2.2.2.2.2.2.2.2.2.2.2.2.2.2.2.2.2.1, x10.2.2.1.2.2.2.2.2.2.2.2.2.2.2.2.2.2.2.2.2.2.2.2)))))))))))))))))))), ((x12.2.1.1, (x12.2.1.2.1, x12.2.1.2.2)), (x10.2.2.2.2.1, x12.2.2))))))
                    else none
                   else none
                 else none
              else none) fun (x11 : ((Bool × (Y4_ × (Y9_ × (Y4_ × ((List Y0_) × (List Y0_)))))) ⊕ Bool)) =>
              match x11 with
              | Sum.inl x12 =>
                bif x12.1 then
                 some Bool.false
                else bif x12.2.2.1.2.2.1 then
                  bif decide (x12.2.2.2.2.2.length = x12.2.2.2.2.2.length) then
                   Option.bind (wo ((2 : Int), (0 : Int)) (x12.2.2.2.1.1, x12.2.2.2.1.2.1, x12.2.2.2.1.2.2) x12.2.2.2.2.2) fun x13 =>
                    bif decide (x13.2.2.length = x13.2.2.length) then
                     Option.bind (zR (x13.1.1, x13.1.2.1, x13.1.2.2.1, x13.1.2.2.2.1, x13.1.2.2.2.2.1, x13.1.2.2.2.2.2.1, x13.1.2.2.2.2.2.2.1, x13.1.2.2.2.2.2.2.2.1, x13.1.2.2.2.2.2.2.2.2.1, x13.1.2.2.2.2.2.2.2.2.2.1, x13.1.2.2.2.2.2.2.2.2.2.2.1, x13.1.2.2.2.2.2.2.2.2.2.2.2.1, x13.1.2.2.2.2.2.2.2.2.2.2.2.2.1, x13.1.2.2.2.2.2.2.2.2.2.2.2.2.2.1, x13.1.2.2.2.2.2.2.2.2.2.2.2.2.2.2.1, x13.1.2.2.2.2.2.2.2.2.2.2.2.2.2.2.2.1, x13.1.2.2.2.2.2.2.2.2.2.2.2.2.2.2.2.2.1, x13.1.2.2.2.2.2.2.2.2.2.2.2.2.2.2.2.2.2.1, x13.1.2.2.2.2.2.2.2.2.2.2.2.2.2.2.2.2.2.2.1, x13.1.2.2.2.2.2.2.2.2.2.2.2.2.2.2.2.2.2.2.2.1, x13.1.2.2.2.2.2.2.2.2.2.2.2.2.2.2.2.2.2.2.2.2) (x13.2.1.1, x13.2.1.2.1, x13.2.1.2.2) x13.2.2) fun x14 =>
                      Option.bind (jx) fun x15 =>
                       bif x15 then
                        bif decide (x14.2.2.2.length = x14.2.2.2.length) then
                         Option.bind (z7 (x14.2.2.1.1, x14.2.2.1.2.1, x14.2.2.1.2.2) x14.2.2.2) fun x16 =>
                          bif decide (x12.2.2.2.2.1.length = x12.2.2.2.2.1.length) then
                           Option.bind (z7 (x12.2.1.1, x12.2.1.2.1, x12.2.1.2.2) x12.2.2.2.2.1) fun x17 =>
                            bif x16.1 == x17.1 then
                             bif decide (x16.2.2.length = x16.2.2.length) then
                              Option.bind (qM (x16.2.1.1, x16.2.1.2.1, x16.2.1.2.2) x16.2.2) fun x18 =>
                               bif decide (x17.2.2.length = x17.2.2.length) then
                                Option.bind (qM (x17.2.1.1, x17.2.1.2.1, x17.2.1.2.2) x17.2.2) fun x19 =>
                                 bif x18.1 == x19.1 then
                                  bif decide (x19.2.2.length = x19.2.2.length) then
                                   Option.bind (z7 (x19.2.1.1, x19.2.1.2.1, x19.2.1.2.2) x19.2.2) fun x20 =>
                                    bif x12.2.2.1.2.2.2.1 == x20.1 then
                                     bif decide (x20.2.2.length = x20.2.2.length) then
                                      Option.bind (qM (x20.2.1.1, x20.2.1.2.1, x20.2.1.2.2) x20.2.2) fun x21 =>
                                       some (x12.2.2.1.2.2.2.2.1 == x21.1)
                                     else none
                                    else some Bool.false
                                  else none
                                 else some Bool.false
                               else none
                             else none
                            else some Bool.false
                          else none
                        else none
                       else some Bool.false
                    else none
                  else none
                 else bif decide (x12.2.2.2.2.1.length = x12.2.2.2.2.1.length) then
                   Option.bind (z7 (x12.2.1.1, x12.2.1.2.1, x12.2.1.2.2) x12.2.2.2.2.1) fun x13 =>
                    bif decide (x13.2.2.length = x13.2.2.length) then
                     Option.bind (qM (x13.2.1.1, x13.2.1.2.1, x13.2.1.2.2) x13.2.2) fun x14 =>
                      bif decide (x12.2.2.2.2.2.length = x12.2.2.2.2.2.length) then
                       Option.bind (kz (x13.1, x14.1) (x12.2.2.2.1.1, x12.2.2.2.1.2.1, x12.2.2.2.1.2.2) x12.2.2.2.2.2) fun x15 =>
                        Option.bind (jx) fun x16 =>
                         bif x16 then
                          bif decide (x15.2.length = x15.2.length) then
                           bif decide (x14.2.2.length = x14.2.2.length) then
                            Option.bind (wj (x14.2.1.1, x14.2.1.2.1, x14.2.1.2.2) x14.2.2 (x15.1.1, x15.1.2.1, x15.1.2.2) x15.2) fun x17 =>
                             some x17.1
                           else none
                          else none
                         else some Bool.false
                      else none
                    else none
                  else none
              | Sum.inr x12 =>
                some x12
         | Sum.inr x10 =>
           some x10
      else none
    else none
noncomputable def a8J : TEnt := ⟨4, .cons (.int .i64) (.cons (.int .i64) (.cons (.sl ahj) (.agg a5U))), [], [(.bool, [])], fun s => KV s.1 s.2.1 s.2.2.1 s.2.2.2.1 s.2.2.2.2⟩
theorem a0A : qz Tryz.prog a8J := qj (tab := [Xe, JD, KI, QO, jq, JE, vC, XY, Jp, VK, xH, Ww, vA]) (loops := []) (joins := [(299593, [9, 11, 12, 59], (.cons (.ptr 0 0) (.cons (.ptr 1 0) (.cons (.ptr 2 0) .bool))), [.st xh, .st Y5_, .st (.cons (.int .i64) (.cons (.int .i64) (.cons (.own 4) (.int .i64)))), .li (.sl Y1_) 104 false, .li (.sl Y1_) 104 false]), (1227133513, [9, 11, 12, 79], (.cons (.ptr 0 0) (.cons (.ptr 1 0) (.cons (.ptr 2 0) .bool))), [.st xh, .st Y5_, .st (.cons (.int .i64) (.cons (.int .i64) (.cons (.own 4) (.int .i64)))), .li (.sl Y1_) 104 false, .li (.sl Y1_) 104 false])]) (un := []) _ (by
  intro e he
  simp only [List.mem_cons, List.not_mem_nil, or_false] at he
  rcases he with rfl | rfl | rfl | rfl | rfl | rfl | rfl | rfl | rfl | rfl | rfl | rfl | rfl
  ·exact uR
  ·exact Wv
  ·exact Zz
  ·exact yx
  ·exact kI
  ·exact JP
  ·exact Xt
  ·exact a0f
  ·exact JS
  ·exact vF
  ·exact uF
  ·exact vN
  ·exact Xp) (fun s => by kernel_rfl) (by kernel_rfl)
end Go.Sim
set_option maxRecDepth 100000
set_option maxHeartbeats 4000000
set_option linter.unusedVariables false
namespace Go.Sim
end Go.Sim
set_option maxRecDepth 100000
set_option maxHeartbeats 4000000
set_option linter.unusedVariables false
namespace Go.Sim
end Go.Sim
set_option maxRecDepth 100000
set_option maxHeartbeats 4000000
set_option linter.unusedVariables false
namespace Go.Sim
noncomputable def stepG (L : qh) (cols row col : Nat) (k r : Int) : qh × Nat × Nat :=
 match wU (qX L cols k r row col) L (row : Int) (col : Int) with
 | some (L', r', c') => (L', r'.toNat, c'.toNat)
 | none => (L, row, col)
theorem XE {L : qh} {cols row col : Nat} (hG : GOk L cols) (hr : row < L.length) (hc : col < cols) (k : Int) {r : Int} (hr32 : kx r) :
  GOk (stepG L cols row col k r).1 cols ∧ (stepG L cols row col k r).1.length = L.length ∧ (stepG L cols row col k r).2.1 < (stepG L cols row col k r).1.length ∧ (stepG L cols row col k r).2.2 < cols ∧
   zR (qX L cols k r row col) ((row : Int), (col : Int), (cols : Int)) L = some (((row : Int), (col : Int), (cols : Int)), L, (((stepG L cols row col k r).2.1 : Int), ((stepG L cols row col k r).2.2 : Int), (cols : Int)), (stepG L cols row col k r).1) ∧
   wU (qX L cols k r row col) L (row : Int) (col : Int) = some ((stepG L cols row col k r).1, ((stepG L cols row col k r).2.1 : Int), ((stepG L cols row col k r).2.2 : Int)) := by
 obtain ⟨L', row', col', h1, h2, h3, h4, h5, h6⟩ := abJ hG hr hc k hr32
 have e : stepG L cols row col k r = (L', row', col') := by
  unfold stepG
  rw [h6]
  rfl
 rw [e]
 exact ⟨h1, h2, h3, h4, h5, h6⟩
noncomputable def y2 (cols : Nat) : List (Int × Int) → qh × Nat × Nat → Nat × (qh × Nat × Nat)
 | [], s => (0, s)
 | x :: r, s => if (qX s.1 cols x.1 x.2 s.2.1 s.2.2).1 = true then (0, s) else
   ((y2 cols r (stepG s.1 cols s.2.1 s.2.2 x.1 x.2)).1 + 1, (y2 cols r (stepG s.1 cols s.2.1 s.2.2 x.1 x.2)).2)
theorem aaX {α : Type} {l : List α} {i : Nat} {x : α} (h : l[i]? = some x) : l.drop i = x :: l.drop (i + 1) := by
 obtain ⟨h1, h2⟩ := List.getElem?_eq_some_iff.1 h
 rw [← h2]
 exact List.drop_eq_getElem_cons h1
theorem acZ (a : Int × (List (Int × Int) × (Int × Int))) (b : Int × (Int × Int)) (c : qh) (d : Int × (Int × Int)) (e : qh) : jU (a, b, c, d, e) = unr (j0 a b c d e) jU := yd _ _
theorem acI {keys : List (Int × Int)} (hk : ∀ x ∈ keys, kx x.2) (hl : keys.length ≤ 1000000) (g0 : Int × (Int × Int)) (L0 : qh) : ∀ (k i n : Nat) (L : qh) (cols row col : Nat), k = keys.length - i → i ≤ keys.length → n ≤ i → GOk L cols → row < L.length → col < cols →
  jU (((n : Int), keys, (keys.length : Int), (i : Int)), g0, L0, ((row : Int), (col : Int), (cols : Int)), L) =
   some (((n + (y2 cols (keys.drop i) (L, row, col)).1 : Nat) : Int), g0, L0, (((y2 cols (keys.drop i) (L, row, col)).2.2.1 : Int), ((y2 cols (keys.drop i) (L, row, col)).2.2.2 : Int), (cols : Int)), (y2 cols (keys.drop i) (L, row, col)).2.1) := by
 intro k
 induction k with
 | zero =>
  intro i n L cols row col hki hi hn hG hr hc
  have e : keys.drop i = [] := List.drop_eq_nil_of_le (by omega)
  rw [e, acZ]
  unfold j0
  simp only [y2]
  simp (disch := omega) only [qf, ql, q9, cond_true, cond_false, Int.toNat_natCast, decide_true, zQ, Nat.add_zero]
 | succ k ih =>
  intro i n L cols row col hki hi hn hG hr hc
  obtain ⟨x, hx⟩ := qn (l := keys) (i := i) (by omega)
  have hx32 := hk x (List.mem_of_getElem? hx)
  have e1 : ((i : Int) + 1) = ((i + 1 : Nat) : Int) := by omega
  have e2 : ((n : Int) + 1) = ((n + 1 : Nat) : Int) := by omega
  obtain ⟨s1, s2, s3, s4, s5, s6⟩ := XE hG hr hc x.1 hx32
  have hnx := VJ hG hr hc x.1 x.2
  have ih' := ih (i + 1) (n + 1) _ cols _ _ (by omega) (by omega) (by omega) s1 s3 s4
  rw [aaX hx, acZ]
  unfold j0
  simp only [y2]
  by_cases hb : (qX L cols x.1 x.2 row col).1 = true
  ·rw [if_pos hb]
   simp (disch := omega) only [qf, q9, cond_true, Option.bind_some, Int.toNat_natCast, decide_true, zQ, hx, hnx, hb, Nat.add_zero]
  ·rw [if_neg hb]
   have hb' : (qX L cols x.1 x.2 row col).1 = false := by simpa using hb
   have e3 : n + 1 + (y2 cols (keys.drop (i + 1)) (stepG L cols row col x.1 x.2)).1 = n + ((y2 cols (keys.drop (i + 1)) (stepG L cols row col x.1 x.2)).1 + 1) := by omega
   rw [show ((stepG L cols row col x.1 x.2).1, (stepG L cols row col x.1 x.2).2.1, (stepG L cols row col x.1 x.2).2.2) = stepG L cols row col x.1 x.2 from rfl, e3] at ih'
   have s5' : zR (false, (qX L cols x.1 x.2 row col).2.1, (qX L cols x.1 x.2 row col).2.2.1, (qX L cols x.1 x.2 row col).2.2.2.1, (qX L cols x.1 x.2 row col).2.2.2.2.1, (qX L cols x.1 x.2 row col).2.2.2.2.2.1, (qX L cols x.1 x.2 row col).2.2.2.2.2.2.1, (qX L cols x.1 x.2 row col).2.2.2.2.2.2.2.1, (qX L cols x.1 x.2 row col).2.2.2.2.2.2.2.2.1, (qX L cols x.1 x.2 row col).2.2.2.2.2.2.2.2.2.1, (qX L cols x.1 x.2 row col).2.2.2.2.2.2.2.2.2.2.1, (qX L cols x.1 x.2 row col).2.2.2.2.2.2.2.2.2.2.2.1, (qX L cols x.1 x.2 row col).2.2.2.2.2.2.2.2.2.2.2.2.1, (qX L cols x.1 x.2 row col).2.2.2.2.2.2.2.2.2.2.2.2.2.1, (qX L cols x.1 x.2 row col).2.2.2.2.2.2.2.2.2.2.2.2.2.2.1, (qX L cols x.1 x.2 row col).2.2.2.2.2.2.2.2.2.2.2.2.2.2.2.1, (qX L cols x.1 x.2 row col).2.2.2.2.2.2.2.2.2.2.2.2.2.2.2.2.1, (qX L cols x.1 x.2 row col).2.2.2.2.2.2.2.2.2.2.2.2.2.2.2.2.2.1, (qX L cols x.1 x.2 row col).2.2.2.2.2.2.2.2.2.2.2.2.2.2.2.2.2.2.1, (qX L cols x.1 x.2 row col).2.2.2.2.2.2.2.2.2.2.2.2.2.2.2.2.2.2.2.1, (qX L cols x.1 x.2 row col).2.2.2.2.2.2.2.2.2.2.2.2.2.2.2.2.2.2.2.2) ((row : Int), (col : Int), (cols : Int)) L = some (((row : Int), (col : Int), (cols : Int)), L, (((stepG L cols row col x.1 x.2).2.1 : Int), ((stepG L cols row col x.1 x.2).2.2 : Int), (cols : Int)), (stepG L cols row col x.1 x.2).1) := by
    rw [← hb']
    exact s5
   simp (disch := omega) only [qf, q9, cond_true, cond_false, Option.bind_some, Int.toNat_natCast, decide_true, za, hx, hnx, hb', s5', e1, e2, ih']
theorem a52 {keys : List (Int × Int)} (hk : ∀ x ∈ keys, kx x.2) (hl : keys.length ≤ 1000000) {L : qh} {cols row col : Nat} (hG : GOk L cols) (hr : row < L.length) (hc : col < cols) :
  wa keys ((row : Int), (col : Int), (cols : Int)) L = some (((y2 cols keys (L, row, col)).1 : Int), ((row : Int), (col : Int), (cols : Int)), L, (((y2 cols keys (L, row, col)).2.2.1 : Int), ((y2 cols keys (L, row, col)).2.2.2 : Int), (cols : Int)), (y2 cols keys (L, row, col)).2.1) := by
 unfold wa
 have hcp := Qk hG.small (by have := hG.rows; omega) ((row : Int), (col : Int), (cols : Int))
 have h := acI hk hl ((row : Int), (col : Int), (cols : Int)) L keys.length 0 0 L cols row col (by omega) (by omega) (by omega) hG hr hc
 rw [List.drop_zero, Nat.zero_add] at h
 have h' : jU (((0 : Int), keys, (keys.length : Int), (0 : Int)), ((row : Int), (col : Int), (cols : Int)), L, ((row : Int), (col : Int), (cols : Int)), L) = _ := h
 simp (disch := omega) only [cond_true, Option.bind_some, decide_true, hcp, h']
end Go.Sim
set_option maxRecDepth 100000
set_option maxHeartbeats 4000000
set_option linter.unusedVariables false
namespace Go.Sim
theorem VB {L : qh} {cols row col : Nat} {k r R C a b : Int} {c was : qc} (hG : GOk L cols) (hC : Y9 C) (hc : OkC c) (h : qX L cols k r row col = Jb R C c was a b) :
  stepG L cols row col k r = ((zP L R fun l => jj l C c).2, qF a L.length, qF b cols) := by
 unfold stepG
 rw [h, a9u hG hC hc]
 rfl
theorem a6X {L : qh} {cols row col : Nat} {k r a b : Int} {ep : Bool} (hG : GOk L cols) (h : qX L cols k r row col = Qt ep a b) :
  stepG L cols row col k r = (L, qF a L.length, qF b cols) := by
 unfold stepG
 rw [h, a5C hG]
 rfl
def aC (r : Int) : qc := (r, (0, 0), 1, 0, 0, 0)
theorem agH {r : Int} (h : kx r) : OkC (aC r) := ⟨h, (by unfold kx aC; simp), (by unfold kx aC; simp), (by unfold u8r aC; simp), Jz, Jz, Jz⟩
theorem aeD : GOk [[aC 32, aC 32, aC 32]] 3 := GOk.new (rows := 1) (cols := 3) rfl rfl
theorem n1 : qX [[aC 32, aC 32, aC 32]] 3 1 97 0 0 = Jb 0 0 (aC 97) (aC 32) 0 1 := by rfl
theorem t1 : (zP [[aC 32, aC 32, aC 32]] 0 fun l => jj l 0 (aC 97)).2 = [[aC 97, aC 32, aC 32]] := by rfl
theorem n2 : qX [[aC 97, aC 32, aC 32]] 3 1 98 0 1 = Jb 0 1 (aC 98) (aC 32) 0 2 := by rfl
theorem t2 : (zP [[aC 97, aC 32, aC 32]] 0 fun l => jj l 1 (aC 98)).2 = [[aC 97, aC 98, aC 32]] := by rfl
theorem n3 : qX [[aC 97, aC 98, aC 32]] 3 1 99 0 2 = K3 := by rfl
theorem n4 : qX [[aC 97, aC 98, aC 32]] 3 3 0 0 2 = Qt false 0 1 := by rfl
theorem s1 : stepG [[aC 32, aC 32, aC 32]] 3 0 0 1 97 = ([[aC 97, aC 32, aC 32]], 0, 1) := by
 rw [VB aeD (by unfold Y9; omega) (agH (by unfold kx; omega)) n1, t1]
 rfl
theorem ai0 : GOk [[aC 97, aC 32, aC 32]] 3 := by
 have := (XE aeD (row := 0) (col := 0) (by decide) (by decide) 1 (r := 97) (by unfold kx; omega)).1
 rwa [s1] at this
theorem s2 : stepG [[aC 97, aC 32, aC 32]] 3 0 1 1 98 = ([[aC 97, aC 98, aC 32]], 0, 2) := by
 rw [VB ai0 (by unfold Y9; omega) (agH (by unfold kx; omega)) n2, t2]
 rfl
theorem gok2 : GOk [[aC 97, aC 98, aC 32]] 3 := by
 have := (XE ai0 (row := 0) (col := 1) (by decide) (by decide) 1 (r := 98) (by unfold kx; omega)).1
 rwa [s2] at this
theorem s4 : stepG [[aC 97, aC 98, aC 32]] 3 0 2 3 0 = ([[aC 97, aC 98, aC 32]], 0, 1) := by
 rw [a6X gok2 n4]
 rfl
theorem k1 : y2 3 [(1, 97), (1, 98), (1, 99)] ([[aC 32, aC 32, aC 32]], 0, 0) = (2, [[aC 97, aC 98, aC 32]], 0, 2) := by
 simp only [y2, n1, s1, n2, s2, n3, Jb, K3, if_true, Bool.false_eq_true, if_false]
theorem k2 : y2 3 [(1, 97), (1, 98), (3, 0)] ([[aC 32, aC 32, aC 32]], 0, 0) = (3, [[aC 97, aC 98, aC 32]], 0, 1) := by
 simp only [y2, n1, s1, n2, s2, n4, s4, Jb, Qt, Bool.false_eq_true, if_false]
theorem XI : jx = some true := by
 have a0 : wc 1 3 = some (.inr ((0, 0, 3), [[aC 32, aC 32, aC 32]])) := WW 1 3
 have hk : ∀ {x y z : Int × Int}, kx x.2 → kx y.2 → kx z.2 → ∀ w ∈ [x, y, z], kx w.2 := by
  intro x y z h1 h2 h3 w hw
  simp only [List.mem_cons, List.not_mem_nil, or_false] at hw
  rcases hw with rfl | rfl | rfl
  ·exact h1
  ·exact h2
  ·exact h3
 have a1 : wa [(1, 97), (1, 98), (1, 99)] (0, 0, 3) [[aC 32, aC 32, aC 32]] = some (2, (0, 0, 3), [[aC 32, aC 32, aC 32]], (0, 2, 3), [[aC 97, aC 98, aC 32]]) := by
  have := a52 (keys := [(1, 97), (1, 98), (1, 99)]) (hk (by unfold kx; omega) (by unfold kx; omega) (by unfold kx; omega)) (by decide) aeD (row := 0) (col := 0) (by decide) (by decide)
  rw [k1] at this
  exact this
 have a2 : wa [(1, 97), (1, 98), (3, 0)] (0, 0, 3) [[aC 32, aC 32, aC 32]] = some (3, (0, 0, 3), [[aC 32, aC 32, aC 32]], (0, 1, 3), [[aC 97, aC 98, aC 32]]) := by
  have := a52 (keys := [(1, 97), (1, 98), (3, 0)]) (hk (by unfold kx; omega) (by unfold kx; omega) (by unfold kx; omega)) (by decide) aeD (row := 0) (col := 0) (by decide) (by decide)
  rw [k2] at this
  exact this
 have a3 : yb (0, 1) (0, 2, 3) [[aC 97, aC 98, aC 32]] = some ((jk (aC 98), true), (0, 2, 3), [[aC 97, aC 98, aC 32]]) := a3K (cols := 3) (fun l hl => (gok2.line l hl).len) 0 1 0 2
 unfold jx
 simp (disch := omega) only [cond_true, Option.bind_some, decide_true, a0, a1, a2, a3, qM, beq_self_eq_true]
 rfl
end Go.Sim
set_option maxRecDepth 100000
set_option maxHeartbeats 4000000
set_option linter.unusedVariables false
namespace Go.Sim
theorem wN {a n : Nat} (h : a < n) : qF (a : Int) n = a := by unfold qF; omega
theorem a6p {L : qh} {cols row col : Nat} (hG : GOk L cols) (hr : row < L.length) (hc : col < cols) (k r : Int) : qX L cols k r row col = K3 ∨
  (∃ (ep : Bool) (a b : Nat), a < L.length ∧ b < cols ∧ qX L cols k r row col = Qt ep a b) ∨
  col + 1 < cols ∧ qX L cols k r row col = Jb (row : Int) (col : Int) (y6 L cols row col r) (atP L cols row col).1 (row : Int) ((col + 1 : Nat) : Int) := by
 have hrows := hG.rows
 have hwide := hG.wide
 unfold qX
 split
 ·unfold uf
  split
  ·rename_i h
   exact .inr (.inr ⟨by omega, rfl⟩)
  ·exact .inl rfl
 ·split
  ·unfold a9A
   refine .inr (.inl ⟨decide (k = 7) || (decide (k = 5) || decide (k = 6)), qF ((row : Int) + (y8 k r).1) L.length, if k = 7 then 0 else qF ((col : Int) + (y8 k r).2) cols, jW (by omega), ?_, ?_⟩)
   ·split
    ·omega
    ·exact jW (by omega)
   ·split
    ·rfl
    ·rfl
  ·exact .inl rfl
theorem aia {rows cols k r : Int} {acs : List ab8} (ha : ∀ a ∈ acs, OkA a) (hr32 : kx r) : KV rows cols acs k r = some true := by
 unfold KV
 rcases aiJ (rows := rows) (cols := cols) ha with h | ⟨L, cols', row, col, hG, hr, hc, h⟩
 ·simp only [h, Option.bind_some, XI]
 ·have hrows := hG.rows
  have hwide := hG.wide
  have hnx := VJ hG hr hc k r
  have hgs := fun g => UV hG.small (by omega) g
  rcases a6p hG hr hc k r with hq | ⟨ep, a, b, ha', hb', hq⟩ | ⟨hcc, hq⟩
  ·have hd := a4W hG.small (by omega) ((row : Int), (col : Int), (cols' : Int))
   have hgr := W4 hG.small (by omega) hG.ok (fun l hl => (hG.line l hl).right) ((row : Int), (col : Int), (cols' : Int))
   rw [hq] at hnx
   unfold K3 at hnx hd
   simp (disch := omega) only [cond_true, cond_false, Option.bind_some, Bool.not_true, decide_true, h, hnx, hd, XI, z9, zm, hgr, hgs, beq_self_eq_true, bne_self_eq_false, Bool.and_self, Bool.and_true]
  ·have hd := a3p hG ep a b row col
   have hgr := fun g => W4 hG.small (by omega) hG.ok (fun l hl => (hG.line l hl).right) g
   have hmv := yk (L := L) (cols := cols') ⟨by omega, by omega⟩ ⟨by omega, by omega⟩ row col a b
   rw [hq] at hnx
   rw [wN ha', wN hb'] at hd
   rw [wN hr, wN hc] at hmv
   unfold Qt at hnx hd
   simp (disch := omega) only [cond_true, cond_false, Option.bind_some, Bool.not_true, decide_true, h, hnx, hd, XI, z9, zm, z7, qM, hmv, hgr, hgs, beq_self_eq_true, bne_self_eq_false, Bool.and_self, Bool.and_true]
  ·have hT := a1O (row := row) (col := col) hG hr32
   have hC : Y9 (col : Int) := ⟨by omega, by omega⟩
   have hd := ad5 (R := (row : Int)) hG hC hT (atP L cols' row col).1 (row : Int) ((col + 1 : Nat) : Int) row col
   have hs := VB hG hC hT hq
   have hok := (XE hG hr hc k hr32).1
   rw [hs] at hok
   rw [wN hr, wN hcc] at hd
   rw [hq] at hnx
   have hlen := wn L (row : Int) fun l => jj l (col : Int) (y6 L cols' row col r)
   generalize hL : (zP L (row : Int) fun l => jj l (col : Int) (y6 L cols' row col r)).2 = L' at hd hok hlen
   replace hok : GOk L' cols' := hok
   have hgr := fun g => W4 hok.small (by omega) hok.ok (fun l hl => (hok.line l hl).right) g
   have hr' : row < L'.length := by omega
   have hbk : qX L' cols' 2 0 row (col + 1) = Qt false (row : Int) (col : Int) := by
    have e1 : qF ((row : Int) + 0) L'.length = row := by rw [Int.add_zero]; exact wN hr'
    have e2 : qF (((col + 1 : Nat) : Int) + -1) cols' = col := by unfold qF; omega
    show Qt false (qF ((row : Int) + 0) L'.length : Int) (qF (((col + 1 : Nat) : Int) + -1) cols' : Int) = _
    rw [e1, e2]
   have hnb := VJ hok hr' hcc 2 0
   have hdb := a3p hok false (row : Int) (col : Int) row ((col + 1 : Nat) : Int)
   rw [hbk] at hnb
   rw [wN hr', wN hc] at hdb
   unfold Qt at hnb hdb
   unfold Jb at hnx hd
   simp (disch := omega) only [zg, cond_true, cond_false, Option.bind_some, Bool.not_true, decide_true, h, hnx, hd, XI, z9, zm, z7, qM, hgr, hnb, hdb, hlen, beq_self_eq_true, bne_self_eq_false, Bool.and_true]
end Go.Sim
set_option maxRecDepth 100000
set_option maxHeartbeats 4000000
set_option linter.unusedVariables false
namespace Go.Sim
theorem GOk.same {L : qh} {cols : Nat} (hG : GOk L cols) (r c : Int) : YK (L, r, c) (r, c, (cols : Int)) L = some (true, (r, c, (cols : Int)), L) := by
 obtain ⟨l0, h0, hl⟩ := hG.first
 have := afD hG.small (by have := hG.rows; omega) hG.ok h0 r c
 rwa [hl] at this
end Go.Sim
namespace Go.Sim
open Go.RowKit
def KP (P : Program) (pt : TypeId → Bool) : List Field → Nat → Nat → Bool
 | [], off, n => decide (off = n)
 | f :: fs, off, n => decide (f.offset = off) && pt f.type && KP P pt fs (off + P.cellsOf f.type) n
def w9 (P : Program) : Nat → TypeId → Bool
 | 0, _ => false
 | d + 1, t => match P.underlying t with
  | some .bool => true
  | some (.int _) => true
  | some .string => true
  | some (.slice e) => w9 P d e && decide (0 < P.cellsOf e)
  | some (.struct fs) => KP P (w9 P d) fs.toList 0 (P.cellsOf t)
  | some (.array n e) => w9 P d e && decide (n * P.cellsOf e = P.cellsOf t)
  | _ => false
def RV (P : Program) (h : Heap) : Nat → TypeId → List Value → Prop
 | 0, _, _ => False
 | d + 1, t, cs => match P.underlying t with
  | some .bool => ∃ b, cs = [.bool b]
  | some (.int k) => ∃ x, cs = [.int k x] ∧ (Lit.int k x).wf = true
  | some .string => ∃ s : ByteArray, cs = [.string s] ∧ s.size ≤ maxLen
  | some (.slice e) => cs = [.slice none 0 0] ∨ cs = [.slice (some ⟨0, 0, none⟩) 0 dud] ∨ ∃ (b : Nat) (rows : List (List Value)), cs = [.slice (some ⟨b, 0, none⟩) rows.length qB] ∧ rows ≠ [] ∧ rows.length ≤ maxLen ∧
    h.get b = some (.cells rows.flatten e false) ∧ ∀ r ∈ rows, r.length = P.cellsOf e ∧ RV P h d e r
  | some (.struct fs) => cs.length = P.cellsOf t ∧ ∀ f ∈ fs.toList, RV P h d f.type ((cs.drop f.offset).take (P.cellsOf f.type))
  | some (.array n e) => cs.length = P.cellsOf t ∧ ∀ i, i < n → RV P h d e ((cs.drop (i * P.cellsOf e)).take (P.cellsOf e))
  | _ => False
theorem RV.ext {P : Program} {h h' : Heap} (hx : Ext h h') : ∀ {d : Nat} {t : TypeId} {cs : List Value}, RV P h d t cs → RV P h' d t cs
 | 0, _, _, q => q
 | d + 1, t, cs, q => by
  unfold RV at q ⊢
  split at q
  ·exact q
  ·exact q
  ·exact q
  ·rcases q with q | q | ⟨b, rows, h1, h0, h2, h3, h4⟩
   ·exact .inl q
   ·exact .inr (.inl q)
   ·exact .inr (.inr ⟨b, rows, h1, h0, h2, (hx.get b (h.wf _ _ h3)).trans h3, fun r hr => ⟨(h4 r hr).1, (h4 r hr).2.ext hx⟩⟩)
  ·exact ⟨q.1, fun f hf => (q.2 f hf).ext hx⟩
  ·exact ⟨q.1, fun i hi => (q.2 i hi).ext hx⟩
  ·exact q
def RO (h : Heap) : Prop := ∀ b o, h.get b = some o → o.rw = false
structure Lift (P : Program) (w : World) (β : Place) (h : Heap) (β' : Place) (h' : Heap) : Prop where
 rel : Rel P β' h' w
 ro : RO h'
 place : ∀ b x, β b = some x → β' b = some x
 ext : Ext h h'
theorem Lift.refl {P : Program} {w : World} {β : Place} {h : Heap} (hr : Rel P β h w) (ho : RO h) : Lift P w β h β h := ⟨hr, ho, fun _ _ e => e, Ext.refl h⟩
theorem Lift.trans {P : Program} {w : World} {β β1 β2 : Place} {h h1 h2 : Heap} (x : Lift P w β h β1 h1) (y : Lift P w β1 h1 β2 h2) : Lift P w β h β2 h2 :=
 ⟨y.rel, y.ro, fun b q e => y.place _ _ (x.place _ _ e), x.ext.trans y.ext⟩
theorem Lift.push {P : Program} {w : World} {β : Place} {h : Heap} (hr : Rel P β h w) (ho : RO h) {m off : Nat} {mc : Array Value} {te e : TypeId} {fr : Nat × Nat} {cs : List Value}
  (hm : w.heap[m]? = some (.cells mc te fr)) (hle : off + cs.length ≤ mc.size) (hv : VRels β cs ((mc.toList.drop off).take cs.length)) :
  Lift P w β h (β.add h.next m ⟨off, 0, 0⟩) (h.push (.cells cs e false)) := by
 have hn := hr.noNext
 have hmono := Place.add_mono m ⟨off, 0, 0⟩ hn
 have hmw : m < w.heap.size := (Array.getElem?_eq_some_iff.1 hm).1
 have old : ∀ b, b ≠ h.next → (h.push (.cells cs e false)).get b = h.get b := fun b hb => Heap.get_push_ne _ _ hb
 refine ⟨⟨fun b m1 s1 q => ?_, fun b m1 s1 o q g => ?_, fun b b' m1 s1 s2 o o' q q' g g' hrw => ?_⟩, fun b o g => ?_, hmono, (Ext.refl h).push _⟩
 ·by_cases hb : b = h.next
  ·subst hb; rw [Place.add_same] at q; cases q; exact ⟨by simp, hmw⟩
  ·rw [Place.add_ne _ _ _ hb] at q
   obtain ⟨h1, h2⟩ := hr.dom b m1 s1 q
   exact ⟨by simp; omega, h2⟩
 ·by_cases hb : b = h.next
  ·subst hb
   rw [Place.add_same] at q
   cases q
   rw [Heap.get_push_self] at g
   cases g
   exact ⟨mc, fr, te, hm, hle, hv.mono hmono, fun e => by cases e⟩
  ·rw [Place.add_ne _ _ _ hb] at q
   rw [old b hb] at g
   exact (hr.obj b m1 s1 o q g).mono hmono rfl
 ·exfalso
  by_cases hb : b = h.next
  ·subst hb; rw [Heap.get_push_self] at g; cases g; cases hrw
  ·rw [old b hb] at g; rw [ho b o g] at hrw; cases hrw
 ·by_cases hb : b = h.next
  ·subst hb; rw [Heap.get_push_self] at g; cases g; rfl
  ·rw [old b hb] at g; exact ho b o g
section
variable {H : Type} {enc : TypeId × Value → H} {P : Program} {w : World}
theorem xg (d : Nat) (t : TypeId) (step : ∀ (n : Nat) (cs : List Value) (x : DataW H × List MemPlace), DataW.trod enc P w 0 (fun _ => true) true n t cs = some x → ∀ β h, Rel P β h w → RO h →
   ∃ β' h' acs, Lift P w β h β' h' ∧ VRels β' acs cs ∧ RV P h' d t acs) :
  ∀ (ls : List (List Value)), (∀ l ∈ ls, ∃ n x, DataW.trod enc P w 0 (fun _ => true) true n t l = some x) → ∀ β h, Rel P β h w → RO h →
   ∃ (β' : Place) (h' : Heap) (als : List (List Value)), Lift P w β h β' h' ∧ VRels β' als.flatten ls.flatten ∧ als.length = ls.length ∧ (∀ (i : Nat) (a : List Value), als[i]? = some a → ∃ l : List Value, ls[i]? = some l ∧ a.length = l.length ∧ RV P h' d t a)
 | [], _, β, h, hr, ho => ⟨β, h, [], Lift.refl hr ho, .nil, rfl, fun i a e => by simp at e⟩
 | l :: ls, hl, β, h, hr, ho => by
  obtain ⟨n, x, e⟩ := hl l (by simp)
  obtain ⟨β1, h1, acs, L1, v1, r1⟩ := step n l x e β h hr ho
  obtain ⟨β2, h2, als, L2, v2, hlen, r2⟩ := xg d t step ls (fun l' h' => hl l' (by simp [h'])) β1 h1 L1.rel L1.ro
  refine ⟨β2, h2, acs :: als, L1.trans L2, ?_, by simp [hlen], fun i a e => ?_⟩
  ·simp only [List.flatten_cons]
   exact (v1.mono L2.place).append v2
  ·cases i with
   | zero => simp at e; subst e; exact ⟨l, rfl, v1.length, r1.ext L2.ext⟩
   | succ i => simpa using r2 i a (by simpa using e)
theorem vg : ∀ (ls : List (List Value)) (z : Nat), (∀ l ∈ ls, l.length = z) → ls.flatten.length = ls.length * z
 | [], z, _ => by simp
 | a :: ls, z, hz => by
  rw [List.flatten_cons, List.length_append, vg ls z (fun l h => hz l (by simp [h])), hz a (by simp), List.length_cons, Nat.add_mul]
  omega
theorem a27 : ∀ (ls : List (List Value)) (z i : Nat) (l : List Value), (∀ l ∈ ls, l.length = z) → ls[i]? = some l → (ls.flatten.drop (i * z)).take z = l
 | [], z, i, l, _, e => by simp at e
 | a :: ls, z, 0, l, hz, e => by
  simp at e; subst e
  have := hz a (by simp)
  simp [← this]
 | a :: ls, z, i + 1, l, hz, e => by
  have ha := hz a (by simp)
  have := a27 ls z i l (fun l h => hz l (by simp [h])) (by simpa using e)
  rw [List.flatten_cons, List.drop_append, show (i + 1) * z = a.length + i * z by rw [ha, Nat.add_mul]; omega]
  rw [List.drop_eq_nil_of_le (by omega)]
  simpa using this
theorem a9E (xs : List Value) (z : Nat) : ∀ (n : Nat), xs.length = n * z → ((List.range n).map fun i => (xs.drop (i * z)).take z).flatten = xs
 | 0, h => by
  have : xs.length = 0 := by simpa using h
  simp [List.length_eq_zero_iff.1 this]
 | n + 1, h => by
  have hn : (n + 1) * z = n * z + z := by rw [Nat.add_mul]; omega
  have ih := a9E (xs.take (n * z)) z n (by simp; omega)
  rw [List.range_succ, List.map_append, List.flatten_append]
  have e : (List.range n).map (fun i => (xs.drop (i * z)).take z) = (List.range n).map (fun i => ((xs.take (n * z)).drop (i * z)).take z) := by
   apply List.map_congr_left
   intro i hi
   have hi' : i < n := by simpa using hi
   have : (i + 1) * z ≤ n * z := Nat.mul_le_mul_right _ hi'
   rw [List.drop_take, List.take_take, Nat.min_eq_left (by rw [Nat.add_mul] at this; omega)]
  rw [e, ih]
  simp only [List.map_cons, List.map_nil, List.flatten_cons, List.flatten_nil, List.append_nil]
  rw [List.take_of_length_le (l := xs.drop (n * z)) (by simp; omega)]
  exact List.take_append_drop _ _
theorem a8P {a : Addr} {z n : Nat} {ls : List (List Value)} (hz : 0 < z) (hn : 0 < n) (hl : ls.length = n) (h : ∀ i, i < n → w.cells? 0 (a.add (i * z)) z = ls[i]?) :
  ∃ mc te fr, w.heap[a.block]? = some (.cells mc te fr) ∧ a.spot = none ∧ a.off + n * z ≤ mc.size ∧ ls.flatten = (mc.toList.drop a.off).take (n * z) ∧ ∀ l ∈ ls, l.length = z := by
 have each : ∀ i, i < n → ∃ l, ls[i]? = some l ∧ l.length = z ∧ ∀ j, j < z → w.cell? ((a.add (i * z)).add j) = l[j]? := by
  intro i hi
  have hs : ∃ l, ls[i]? = some l := ⟨_, List.getElem?_eq_getElem (by omega)⟩
  obtain ⟨l, e⟩ := hs
  have hc := h i hi
  rw [e] at hc
  unfold World.cells? at hc
  rw [if_pos (Nat.zero_le _)] at hc
  have h1 := mapM_some_length hc
  refine ⟨l, e, by simpa using h1, fun j hj => mapM_some_get hc j j (by simp [hj])⟩
 have addadd : ∀ i j, (a.add i).add j = a.add (i + j) := by
  intro i j
  unfold Addr.add
  by_cases h1 : i = 0
  ·subst h1; simp
  ·by_cases h2 : j = 0
   ·subst h2; simp
   ·simp [h1, h2]; omega
 obtain ⟨l0, e0, hl0, c0⟩ := each 0 hn
 have c00 := c0 0 hz
 rw [Nat.zero_mul, addadd] at c00
 simp only [Nat.add_zero, Addr.add, if_true] at c00
 have hv0 : ∃ v, w.cell? a = some v := ⟨l0[0]'(by omega), by rw [c00]; exact List.getElem?_eq_getElem _⟩
 obtain ⟨v0, hv0⟩ := hv0
 unfold World.cell? at hv0
 split at hv0
 ·rename_i mc te fr hm
  by_cases hsp : a.spot.isSome = true
  ·rw [if_pos hsp] at hv0; cases hv0
  ·have hspn : a.spot = none := by cases hq : a.spot with
    | none => rfl
    | some _ => rw [hq] at hsp; simp at hsp
   have cell : ∀ k, w.cell? (a.add k) = mc[a.off + k]? := by
    intro k
    unfold World.cell? Addr.add
    by_cases hk : k = 0
    ·subst hk; simp [hm, hspn]
    ·simp [hk, hm]
   have all : ∀ i, i < n → ∀ j, j < z → mc[a.off + (i * z + j)]? = (ls.flatten)[i * z + j]? := by
    intro i hi j hj
    obtain ⟨l, e, hl1, c1⟩ := each i hi
    have hlen : ∀ l ∈ ls, l.length = z := by
     intro l hm2
     obtain ⟨k, hk⟩ := List.getElem?_of_mem hm2
     have hkl : k < ls.length := (List.getElem?_eq_some_iff.1 hk).1
     obtain ⟨l2, e2, hl2, _⟩ := each k (by omega)
     rw [hk] at e2; cases e2; exact hl2
    have := a27 ls z i l hlen e
    have h2 : l[j]? = ls.flatten[i * z + j]? := by
     rw [← this, List.getElem?_take, if_pos hj, List.getElem?_drop]
    rw [← h2, ← c1 j hj, addadd, cell]
   have hlen : ∀ l ∈ ls, l.length = z := by
    intro l hm2
    obtain ⟨k, hk⟩ := List.getElem?_of_mem hm2
    have hkl : k < ls.length := (List.getElem?_eq_some_iff.1 hk).1
    obtain ⟨l2, e2, hl2, _⟩ := each k (by omega)
    rw [hk] at e2; cases e2; exact hl2
   have hfl := vg ls z hlen
   rw [hl] at hfl
   have pos : ∀ q, q < n * z → mc[a.off + q]? = ls.flatten[q]? := by
    intro q hq
    have h1 := all (q / z) ((Nat.div_lt_iff_lt_mul hz).2 hq) (q % z) (Nat.mod_lt _ hz)
    rw [Nat.mul_comm, Nat.div_add_mod] at h1
    exact h1
   have hsz : a.off + n * z ≤ mc.size := by
    have hq : n * z - 1 < n * z := by have := Nat.mul_le_mul_right z hn; omega
    have h1 := pos (n * z - 1) hq
    rw [List.getElem?_eq_getElem (by omega)] at h1
    have := (Array.getElem?_eq_some_iff.1 h1).1
    omega
   refine ⟨mc, te, fr, hm, hspn, hsz, ?_, hlen⟩
   apply List.ext_getElem?
   intro q
   by_cases hq : q < n * z
   ·rw [← pos q hq, List.getElem?_take, if_pos hq, List.getElem?_drop]
    simp
   ·rw [List.getElem?_eq_none (by omega), List.getElem?_eq_none (by simp; omega)]
 ·cases hv0
theorem Xa (d : Nat) (ih : ∀ t, w9 P d t = true → ∀ (n : Nat) (cs : List Value) (x : DataW H × List MemPlace), DataW.trod enc P w 0 (fun _ => true) true n t cs = some x → ∀ β h, Rel P β h w → RO h →
   ∃ (β' : Place) (h' : Heap) (acs : List Value), Lift P w β h β' h' ∧ VRels β' acs cs ∧ RV P h' d t acs) :
  ∀ (fs : List Field) (off N : Nat) (cs : List Value), KP P (w9 P d) fs off N = true → off + cs.length = N →
   (∀ f ∈ fs, off ≤ f.offset → ∃ n x, DataW.trod enc P w 0 (fun _ => true) true n f.type ((cs.drop (f.offset - off)).take (P.cellsOf f.type)) = some x) → ∀ β h, Rel P β h w → RO h →
   ∃ (β' : Place) (h' : Heap) (acs : List Value), Lift P w β h β' h' ∧ VRels β' acs cs ∧ ∀ f ∈ fs, off ≤ f.offset ∧ RV P h' d f.type ((acs.drop (f.offset - off)).take (P.cellsOf f.type))
 | [], off, N, cs, hp, hl, _, β, h, hr, ho => by
  simp only [KP, decide_eq_true_eq] at hp
  have : cs.length = 0 := by omega
  have : cs = [] := List.length_eq_zero_iff.1 this
  subst this
  exact ⟨β, h, [], Lift.refl hr ho, .nil, by simp⟩
 | f :: fs, off, N, cs, hp, hl, ht, β, h, hr, ho => by
  simp only [KP, Bool.and_eq_true, decide_eq_true_eq] at hp
  obtain ⟨⟨hoff, hpt⟩, hrest⟩ := hp
  have hle : ∀ (fs : List Field) (off N : Nat), KP P (w9 P d) fs off N = true → off ≤ N ∧ ∀ f ∈ fs, off ≤ f.offset := by
   intro fs
   induction fs with
   | nil => intro off N hp; simp [KP] at hp; exact ⟨by omega, by simp⟩
   | cons g gs ihg =>
    intro off N hp
    simp only [KP, Bool.and_eq_true, decide_eq_true_eq] at hp
    obtain ⟨h1, h2⟩ := ihg _ _ hp.2
    refine ⟨by omega, fun f hf => ?_⟩
    rcases List.mem_cons.1 hf with rfl | hf
    ·omega
    ·have := h2 f hf; omega
  obtain ⟨hN, hge⟩ := hle _ _ _ hrest
  obtain ⟨n, x, e⟩ := ht f (by simp) (by omega)
  rw [hoff, Nat.sub_self, List.drop_zero] at e
  obtain ⟨β1, h1, a1, L1, v1, r1⟩ := ih f.type hpt n _ x e β h hr ho
  obtain ⟨β2, h2, a2, L2, v2, r2⟩ := Xa d ih fs (off + P.cellsOf f.type) N (cs.drop (P.cellsOf f.type)) hrest (by simp; omega) (fun g hg hgo => by
   obtain ⟨n, x, e⟩ := ht g (by simp [hg]) (by omega)
   refine ⟨n, x, ?_⟩
   rw [List.drop_drop]
   rw [← e]
   congr 3
   omega) β1 h1 L1.rel L1.ro
  have hlen1 : a1.length = P.cellsOf f.type := by rw [v1.length]; simp; omega
  refine ⟨β2, h2, a1 ++ a2, L1.trans L2, ?_, fun g hg => ?_⟩
  ·have := (v1.mono L2.place).append v2
   rwa [List.take_append_drop] at this
  ·rcases List.mem_cons.1 hg with rfl | hg
   ·refine ⟨by omega, ?_⟩
    rw [hoff, Nat.sub_self, List.drop_zero, List.take_left' hlen1]
    exact r1.ext L2.ext
   ·obtain ⟨q1, q2⟩ := r2 g hg
    refine ⟨by omega, ?_⟩
    rw [List.drop_append, List.drop_eq_nil_of_le (by omega), List.nil_append, hlen1]
    rwa [show g.offset - off - P.cellsOf f.type = g.offset - (off + P.cellsOf f.type) by omega]
theorem aiK (d : Nat) : ∀ t, w9 P d t = true → ∀ (n : Nat) (cs : List Value) (x : DataW H × List MemPlace), DataW.trod enc P w 0 (fun _ => true) true n t cs = some x → ∀ β h, Rel P β h w → RO h →
  ∃ (β' : Place) (h' : Heap) (acs : List Value), Lift P w β h β' h' ∧ VRels β' acs cs ∧ RV P h' d t acs := by
 induction d with
 | zero => intro t h; simp [w9] at h
 | succ d ih =>
  intro t hp n cs x ht β h hr ho
  unfold w9 at hp
  cases hu : P.underlying t with
  | none => simp [hu] at hp
  | some D =>
   rw [hu] at hp
   cases D <;> simp only [Bool.false_eq_true] at hp
   case bool =>
    obtain ⟨b, rfl, _⟩ := DataW.trod_bool hu ht
    exact ⟨β, h, [.bool b], Lift.refl hr ho, .cons (.bool b) .nil, by unfold RV; rw [hu]; exact ⟨b, rfl⟩⟩
   case int k =>
    obtain ⟨m, rfl, _, hw⟩ := DataW.trod_int hu ht
    exact ⟨β, h, [.int k m], Lift.refl hr ho, .cons (.int k m) .nil, by unfold RV; rw [hu]; exact ⟨m, rfl, hw⟩⟩
   case string =>
    obtain ⟨s, rfl, _, hs⟩ := DataW.trod_string hu ht
    exact ⟨β, h, [.string s], Lift.refl hr ho, .cons (.string s) .nil, by unfold RV; rw [hu]; exact ⟨s, rfl, hs⟩⟩
   case struct fs =>
    obtain ⟨xs, m, rfl, _, hl, hxl, hx⟩ := DataW.trod_struct hu ht
    have hp' : KP P (w9 P d) fs.toList 0 (P.cellsOf t) = true := hp
    obtain ⟨β', h', acs, L, v, r⟩ := Xa d ih fs.toList 0 (P.cellsOf t) cs hp' (by omega) (fun f hf _ => by
     obtain ⟨i, hi⟩ := List.getElem?_of_mem hf
     have hi' : fs[i]? = some f := by simpa using hi
     have := hx i f hi'
     have hlt : i < xs.length := by rw [hxl]; exact (Array.getElem?_eq_some_iff.1 hi').1
     rw [List.getElem?_eq_getElem hlt] at this
     exact ⟨m, _, by simpa using this⟩) β h hr ho
    refine ⟨β', h', acs, L, v, ?_⟩
    unfold RV
    rw [hu]
    refine ⟨by rw [v.length]; exact hl, fun f hf => ?_⟩
    have := (r f hf).2
    simpa using this
   case array n2 e =>
    simp only [Bool.and_eq_true, decide_eq_true_eq] at hp
    obtain ⟨hpe, hsz⟩ := hp
    obtain ⟨xs, m, rfl, _, hl, hxl, hx⟩ := DataW.trod_array hu ht
    have hflat := a9E cs (P.cellsOf e) n2 (by rw [hl, hsz])
    obtain ⟨β', h', als, L, v, hlen, r⟩ := xg d e (fun n cs x ht β h hr ho => ih e hpe n cs x ht β h hr ho) ((List.range n2).map fun i => (cs.drop (i * P.cellsOf e)).take (P.cellsOf e)) (fun l hl2 => by
     obtain ⟨i, hi, rfl⟩ := List.mem_map.1 hl2
     have hi' : i < n2 := by simpa using hi
     have := hx i hi'
     rw [List.getElem?_eq_getElem (by omega)] at this
     exact ⟨m, _, this⟩) β h hr ho
    rw [hflat] at v
    refine ⟨β', h', als.flatten, L, v, ?_⟩
    have hz : ∀ a ∈ als, a.length = P.cellsOf e ∧ RV P h' d e a := by
     intro a ha
     obtain ⟨i, hi⟩ := List.getElem?_of_mem ha
     obtain ⟨l, h1, h2, h3⟩ := r i a hi
     refine ⟨?_, h3⟩
     rw [h2]
     have hm := List.mem_of_getElem? h1
     obtain ⟨k, hk, rfl⟩ := List.mem_map.1 hm
     have hk' : k < n2 := by simpa using hk
     have : (k + 1) * P.cellsOf e ≤ n2 * P.cellsOf e := Nat.mul_le_mul_right _ hk'
     rw [Nat.add_mul] at this
     simp
     omega
    unfold RV
    rw [hu]
    refine ⟨by rw [v.length]; exact hl, fun i hi => ?_⟩
    have hal : i < als.length := by rw [hlen]; simpa using hi
    rw [a27 als (P.cellsOf e) i als[i] (fun a ha => (hz a ha).1) (List.getElem?_eq_getElem hal)]
    exact (hz _ (List.getElem_mem hal)).2
   case slice e =>
    simp only [Bool.and_eq_true, decide_eq_true_eq] at hp
    obtain ⟨hpe, hpos⟩ := hp
    rcases DataW.trod_slice hu ht with ⟨rfl, _⟩ | ⟨a, len, cap, elems, rest, m, rfl, rfl, _, _, hlc, hcm, hel, hx, _, _⟩
    ·exact ⟨β, h, [.slice none 0 0], Lift.refl hr ho, .cons .nilslice .nil, by unfold RV; rw [hu]; exact .inl rfl⟩
    ·by_cases h0 : len = 0
     ·subst h0
      exact ⟨β, h, [.slice (some ⟨0, 0, none⟩) 0 dud], Lift.refl hr ho, .cons .dud .nil, by unfold RV; rw [hu]; exact .inr (.inl rfl)⟩
     ·have hex : ∀ i, i < len → ∃ l y, w.cells? 0 (a.add (i * P.cellsOf e)) (P.cellsOf e) = some l ∧ DataW.trod enc P w 0 (fun _ => true) true m e l = some y := by
       intro i hi
       have := hx i hi
       rw [List.getElem?_eq_getElem (by omega), Option.bind_eq_some_iff] at this
       obtain ⟨l, h1, h2⟩ := this
       exact ⟨l, _, h1, h2⟩
      let ls : List (List Value) := (List.range len).map fun i => (w.cells? 0 (a.add (i * P.cellsOf e)) (P.cellsOf e)).getD []
      have hls : ∀ i, i < len → w.cells? 0 (a.add (i * P.cellsOf e)) (P.cellsOf e) = ls[i]? := by
       intro i hi
       obtain ⟨l, _, h1, _⟩ := hex i hi
       simp [ls, hi, h1]
      have hlsl : ls.length = len := by simp [ls]
      obtain ⟨mc, te, fr, hm, hsp, hsz, hfl, hlz⟩ := a8P hpos (by omega) hlsl hls
      obtain ⟨β', h', als, L, v, hlen, r⟩ := xg d e (fun n cs x ht β h hr ho => ih e hpe n cs x ht β h hr ho) ls (fun l hl2 => by
       obtain ⟨i, hi, rfl⟩ := List.mem_map.1 hl2
       obtain ⟨l, y, h1, h2⟩ := hex i (by simpa using hi)
       exact ⟨m, y, by rw [h1]; exact h2⟩) β h hr ho
      have hz : ∀ a ∈ als, a.length = P.cellsOf e ∧ RV P h' d e a := by
       intro a ha
       obtain ⟨i, hi⟩ := List.getElem?_of_mem ha
       obtain ⟨l, h1, h2, h3⟩ := r i a hi
       exact ⟨by rw [h2]; exact hlz l (List.mem_of_getElem? h1), h3⟩
      have hfl2 : als.flatten.length = len * P.cellsOf e := by rw [vg als _ (fun a ha => (hz a ha).1), hlen, hlsl]
      have L2 := Lift.push (off := a.off) (e := e) (cs := als.flatten) L.rel L.ro hm (by omega) (by rw [hfl2, ← hfl]; exact v)
      refine ⟨_, _, [.slice (some ⟨h'.next, 0, none⟩) als.length qB], L.trans L2, .cons ?_ .nil, ?_⟩
      ·have haddr : a = ⟨a.block, a.off + 0, none⟩ := by
        cases a; simp_all
       rw [haddr, hlen, hlsl]
       exact VRel.slice (s := ⟨a.off, 0, 0⟩) (Place.add_same _ _ _ _) (.inr (.inl rfl)) hlc hcm (.inl rfl)
      ·unfold RV
       rw [hu]
       refine .inr (.inr ⟨h'.next, als, rfl, ?_, by omega, Heap.get_push_self _ _, fun r hr => ⟨(hz r hr).1, (hz r hr).2.ext L2.ext⟩⟩)
       rintro rfl
       simp at hlen
       omega
end
def RVal (P : Program) (h : Heap) (d : Nat) (t : TypeId) (v : Value) : Prop :=
 match P.underlying t with
 | some (.struct _) => ∃ cs : List Value, v = .agg cs.toArray ∧ RV P h d t cs
 | some (.array _ _) => ∃ cs : List Value, v = .agg cs.toArray ∧ RV P h d t cs
 | _ => RV P h d t [v]
def RVals (P : Program) (h : Heap) (d : Nat) : List TypeId → List Value → Prop
 | [], [] => True
 | t :: ts, v :: vs => RVal P h d t v ∧ RVals P h d ts vs
 | _, _ => False
theorem RVal.ext {P : Program} {h h' : Heap} (hx : Ext h h') {d : Nat} {t : TypeId} {v : Value} (q : RVal P h d t v) : RVal P h' d t v := by
 unfold RVal at q ⊢
 split
 ·rename_i hu; rw [hu] at q; obtain ⟨cs, e, r⟩ := q; exact ⟨cs, e, r.ext hx⟩
 ·rename_i hu; rw [hu] at q; obtain ⟨cs, e, r⟩ := q; exact ⟨cs, e, r.ext hx⟩
 ·rename_i h1 h2
  split at q
  ·rename_i hu; exact absurd hu (h1 _)
  ·rename_i hu; exact absurd hu (h2 _ _)
  ·exact q.ext hx
theorem RVals.ext {P : Program} {h h' : Heap} (hx : Ext h h') {d : Nat} : ∀ {ts : List TypeId} {vs : List Value}, RVals P h d ts vs → RVals P h' d ts vs
 | [], [], q => q
 | t :: ts, v :: vs, q => ⟨q.1.ext hx, RVals.ext hx q.2⟩
 | [], _ :: _, q => q
 | _ :: _, [], q => q
theorem aeY {P : Program} {h : Heap} {d : Nat} {t : TypeId} {acs : List Value} (r : RV P h d t acs) (ha : ∀ fs, P.underlying t ≠ some (.struct fs)) (hb : ∀ n e, P.underlying t ≠ some (.array n e)) : ∃ a, acs = [a] := by
 cases d with
 | zero => exact r.elim
 | succ d =>
  unfold RV at r
  split at r
  ·obtain ⟨b, rfl⟩ := r; exact ⟨_, rfl⟩
  ·obtain ⟨b, rfl, _⟩ := r; exact ⟨_, rfl⟩
  ·obtain ⟨b, rfl, _⟩ := r; exact ⟨_, rfl⟩
  ·rcases r with rfl | rfl | ⟨_, _, rfl, _⟩ <;> exact ⟨_, rfl⟩
  ·rename_i hu; exact absurd hu (ha _)
  ·rename_i hu; exact absurd hu (hb _ _)
  ·exact r.elim
theorem a1m {H : Type} {enc : TypeId × Value → H} {P : Program} {w : World} (d : Nat) : ∀ (ts : List TypeId) (vs : List Value) (ds : List (DataW H)) (ps : List MemPlace), DataW.TrodAll enc P w 0 (fun _ => true) true ts vs ds ps →
  ts.all (w9 P d) = true → (∀ (j : Nat) t v, ts[j]? = some t → vs[j]? = some v → ∃ base, Value.okWide P w .any base t v) → ∀ β h, Rel P β h w → RO h →
  ∃ (β' : Place) (h' : Heap) (ars : List Value), Lift P w β h β' h' ∧ VRels β' ars vs ∧ RVals P h' d ts ars
 | [], [], _, _, _, _, _, β, h, hr, ho => ⟨β, h, [], Lift.refl hr ho, .nil, trivial⟩
 | t :: ts, v :: vs, d1 :: ds, ps, ht, hp, hok, β, h, hr, ho => by
  obtain ⟨p, q, ⟨fuel, h1⟩, h2, rfl⟩ := ht
  simp only [List.all_cons, Bool.and_eq_true] at hp
  obtain ⟨β1, hp1, acs, L1, v1, r1⟩ := aiK d t hp.1 fuel _ _ h1 β h hr ho
  obtain ⟨β2, hp2, ars, L2, v2, r2⟩ := a1m d ts vs ds q h2 hp.2 (fun j t v e1 e2 => hok (j + 1) t v (by simpa using e1) (by simpa using e2)) β1 hp1 L1.rel L1.ro
  obtain ⟨base, hv⟩ := hok 0 t v rfl rfl
  have v1' := v1.mono L2.place
  have r1' := r1.ext L2.ext
  have aggs : (∃ cs, v = .agg cs) → ∃ a : List Value, acs = a ∧ VRel β2 (.agg a.toArray) v := by
   rintro ⟨cs, rfl⟩
   exact ⟨acs, rfl, VRel.agg_iff.2 ⟨cs, rfl, by simpa [Value.cells] using v1'⟩⟩
  cases hu : P.underlying t with
  | none =>
   exfalso
   have := hp.1
   cases d with
   | zero => simp [w9] at this
   | succ d => unfold w9 at this; rw [hu] at this; simp at this
  | some D =>
   by_cases hagg : (∃ fs, D = .struct fs) ∨ ∃ n e, D = .array n e
   ·have hc : ∃ cs, v = .agg cs := by
     unfold Value.okWide at hv
     rw [hu] at hv
     rcases hagg with ⟨fs, rfl⟩ | ⟨n, e, rfl⟩
     ·obtain ⟨cs, e, _⟩ := hv; exact ⟨cs, e⟩
     ·obtain ⟨cs, e, _⟩ := hv; exact ⟨cs, e⟩
    obtain ⟨a, rfl, hrel⟩ := aggs hc
    refine ⟨β2, hp2, .agg acs.toArray :: ars, L1.trans L2, .cons hrel v2, ?_, r2⟩
    unfold RVal
    rw [hu]
    rcases hagg with ⟨fs, rfl⟩ | ⟨n, e, rfl⟩
    ·exact ⟨acs, rfl, r1'⟩
    ·exact ⟨acs, rfl, r1'⟩
   ·have n1 : ∀ fs, P.underlying t ≠ some (.struct fs) := fun fs e => hagg (.inl ⟨fs, Option.some.inj (hu.symm.trans e)⟩)
    have n2 : ∀ n e, P.underlying t ≠ some (.array n e) := fun n e e1 => hagg (.inr ⟨n, e, Option.some.inj (hu.symm.trans e1)⟩)
    obtain ⟨a, rfl⟩ := aeY r1' n1 n2
    have hnot : ∀ cs, v ≠ .agg cs := by
     rintro cs rfl
     unfold Value.okWide at hv
     rw [hu] at hv
     cases D <;> first
      | exact hagg (.inl ⟨_, rfl⟩)
      | exact hagg (.inr ⟨_, _, rfl⟩)
      | (simp only [Cell.okWide, hu, Cell.ok] at hv; done)
      | (simp [Cell.okWide, hu, Cell.ok] at hv; done)
      | (have := hp.1; cases d <;> simp [w9, hu] at this; done)
    have hcell : v.cells.toList = [v] := by
     cases v <;> first | rfl | exact absurd rfl (hnot _)
    rw [hcell] at v1'
    refine ⟨β2, hp2, a :: ars, L1.trans L2, ?_, ?_, r2⟩
    ·cases v1' with
     | cons x _ => exact .cons x v2
    ·unfold RVal
     split
     ·rename_i hu2; exact absurd hu2 (n1 _)
     ·rename_i hu2; exact absurd hu2 (n2 _ _)
     ·exact r1'
 | [], _ :: _, _, _, ht, _, _, _, _, _, _ => by simp [DataW.TrodAll] at ht
 | _ :: _, [], _, _, ht, _, _, _, _, _, _ => by simp [DataW.TrodAll] at ht
 | _ :: _, _ :: _, [], _, ht, _, _, _, _, _, _ => by simp [DataW.TrodAll] at ht
end Go.Sim
namespace Go.Sim
open Go.RowKit
section
variable {P : Program} {h : Heap} {d : Nat} {t : TypeId} {cs : List Value}
end
end Go.Sim
namespace Go.Sim
end Go.Sim
namespace Go.Sim
open Go.RowKit Go.ChangeShapes
def h00 : Heap := ⟨0, fun _ => none, fun b o e => by cases e⟩
def β00 : Place := fun _ => none
theorem aix (P : Program) (w : World) : Rel P β00 h00 w := ⟨fun b m s e => (by cases e), fun b m s o e => (by cases e), fun b b' m s s' o o' e => (by cases e)⟩
theorem aiO : RO h00 := fun b o e => by cases e
theorem a0D {W W' : World} (hb : Below W.heap.size W W') (may : MemPlace → Prop) : W.keptBut W' may := by
 refine ⟨hb.os, hb.output, fun i hi => ?_⟩
 rw [hb.block i hi]
 cases W.heap[i]? with
 | none => trivial
 | some o => cases o with
  | cells c t fr => exact ⟨rfl, rfl, rfl, fun _ _ => rfl⟩
  | map es ck => exact .inr ⟨rfl, rfl⟩
  | _ => rfl
theorem Yh {H : Type} {enc : TypeId × Value → H} {P : Program} (hl : laidOutB P = true) {W W' : World} (hb : Below W.heap.size W W') : ∀ {ts : List TypeId} {vs : List Value} {ds : List (DataW H)} {ps : List MemPlace},
  ts.all (fun t => P.readableRec t && decide (t < P.types.size)) = true → DataW.TrodAll enc P W 0 (fun _ => true) true ts vs ds ps → (∀ x ∈ ps, x.block < W.heap.size) →
  DataW.TrodAll enc P W' 0 (fun b => decide (b < W.heap.size)) true ts vs ds ps
 | [], [], [], _, _, h, _ => h
 | t :: ts, v :: vs, d :: ds, ps, hr, h, hlt => by
  obtain ⟨p, q, h1, h2, rfl⟩ := h
  simp only [List.all_cons, Bool.and_eq_true, decide_eq_true_eq] at hr
  exact ⟨p, q, Below.trod hl hr.1.1 hr.1.2 h1 hb (fun x hx => hlt x (by simp [hx])), Yh hl hb hr.2 h2 (fun x hx => hlt x (by simp [hx])), rfl⟩
 | [], [], _ :: _, _, _, h, _ => by simp [DataW.TrodAll] at h
 | [], _ :: _, _, _, _, h, _ => by simp [DataW.TrodAll] at h
 | _ :: _, [], _, _, _, h, _ => by simp [DataW.TrodAll] at h
 | _ :: _, _ :: _, [], _, _, h, _ => by simp [DataW.TrodAll] at h
theorem xu {H : Type} {enc : TypeId × Value → H} {P : Program} {w : World} {base : Nat} {sp : Nat → Bool} {held : Bool} : ∀ {ts : List TypeId} {vs : List Value} {ds : List (DataW H)} {ps : List MemPlace}, DataW.TrodAll enc P w base sp held ts vs ds ps → ds.length = ts.length
 | [], [], [], _, _ => rfl
 | t :: ts, v :: vs, d :: ds, ps, h => by
  obtain ⟨p, q, _, h2, _⟩ := h
  simp [xu h2]
 | [], [], _ :: _, _, h => by simp [DataW.TrodAll] at h
 | [], _ :: _, _, _, h => by simp [DataW.TrodAll] at h
 | _ :: _, [], _, _, h => by simp [DataW.TrodAll] at h
 | _ :: _, _ :: _, [], _, h => by simp [DataW.TrodAll] at h
theorem abo {H : Type} {enc : TypeId × Value → H} {P : Program} {f : FuncId} {fn : Func} {s : ChangeSpec} {tb : TypeId} {n d : Nat} (hres : fn.resultTypes = #[tb]) (hb : P.underlying tb = some .bool) (hvars : s.vars = [])
  (hn : fn.params.toList.length = n) (hs : ∀ ds : List (DataW H), ds.length = n → s.fn H ds = { results := [.lit (.bool true)], args := ds })
  (hl : laidOutB P = true) (hr : fn.params.toList.all (fun t => P.readableRec t && decide (t < P.types.size)) = true) (hp : fn.params.toList.all (w9 P d) = true)
  (walk : ∀ h ars, RO h → RVals P h d fn.params.toList ars → ACalls P f ars h (fun v _ => v = .bool true))
  (W : World) (base : Nat) (args : Array Value) (ds gs : List (DataW H)) (before : List MemPlace) (hval : ∀ (j : Nat) t v, fn.params[j]? = some t → args[j]? = some v → Value.okWide P W .any base t v)
  (hW : DataW.Whole enc P fn.params.toList s.vars false W args.toList ds gs before) :
  Calls P f args W fun e W' => ∃ v, e = .returned v ∧ s.post enc P fn false true false false W args v W' := by
 have hW' := hW
 obtain ⟨p, q, hA, hV, hpq, hfz, hnd⟩ := hW
 rw [hvars] at hV
 obtain ⟨rfl, rfl⟩ := trodVars_none hV
 have hlen := xu hA
 obtain ⟨β, h, ars, L, hv, hrv⟩ := a1m d _ _ _ _ hA hp (fun j t v e1 e2 => ⟨base, hval j t v (by simpa using e1) (by simpa using e2)⟩) β00 h00 (aix P W) aiO
 have hc := (walk h ars L.ro hrv).2 β W args.toList hv L.rel
 rw [Array.toArray_toList] at hc
 refine hc.mono fun e W' => ?_
 rintro ⟨mv, rfl, v, h', β', hvr, hr', st, rfl⟩
 cases hvr
 have hbel : Below W.heap.size W W' := ⟨st.os, st.tape, st.output, st.size, fun m hm => st.frame m hm (by
  rintro ⟨b, s1, o, _, hg, hrw⟩
  rw [L.ro b o hg] at hrw
  cases hrw)⟩
 have hsp : s.fn H (ds ++ []) = { results := [.lit (.bool true)], args := ds } := by rw [List.append_nil]; exact hs ds (by rw [hlen, hn])
 have hlt : ∀ x ∈ before, x.block < W.heap.size := fun x hx => hW'.lt x hx
 refine ⟨_, rfl, ds, [], before, [], before, [], hW', ?_, ?_, ?_, a0D hbel _, fun e => by cases e⟩
 ·rw [hsp, hres]
  exact trodAll_mk1 ⟨1, by unfold DataW.trod; rw [hb]; rfl⟩
 ·rw [hsp]
  have : p = before := by rw [hpq, List.append_nil]
  subst this
  exact Yh hl hbel hr hA hlt
 ·rw [hsp, hvars]; rfl
end Go.Sim
set_option linter.unusedVariables false
namespace Go.Sim
open Go.RowKit
def CT.ok : (c : CT) → c.T → Prop
 | .int k, n => k.min ≤ (show Int from n) ∧ (show Int from n) ≤ k.max
 | .bool, _ => True
 | .str, s => s.size ≤ maxLen
 | .sl r, xs => (show List r.T from xs).length ≤ maxLen ∧ ∀ x ∈ (show List r.T from xs), CT.ok r x
 | .pair a b, x => CT.ok a x.1 ∧ CT.ok b x.2
def a7S (f : TypeId → CT → Bool) (P : Program) : List Field → CT → Nat → Nat → Bool
 | [], _, _, _ => false
 | fd :: r, c, off, tot => match r with
  | [] => fd.offset == off && f fd.type c && P.cellsOf fd.type == c.size && off + c.size == tot
  | _ :: _ => match c with
   | .pair a b => fd.offset == off && f fd.type a && P.cellsOf fd.type == a.size && a7S f P r b (off + a.size) tot
   | _ => false
def a7i (f : CT → Bool) (z : Nat) : Nat → CT → Bool
 | 0, _ => false
 | n + 1, c => match n with
  | 0 => f c && c.size == z
  | m + 1 => match c with
   | .pair a b => f a && a.size == z && a7i f z (m + 1) b
   | _ => false
def fitT (P : Program) : Nat → TypeId → CT → Bool
 | 0, _, _ => false
 | n + 1, t, c => match P.underlying t with
  | some .bool => c.eqb .bool
  | some (.int k) => c.eqb (.int k)
  | some .string => c.eqb .str
  | some (.slice e) => match c with
   | .sl r => fitT P n e r && P.cellsOf e == r.size
   | _ => false
  | some (.struct fs) => a7S (fitT P n) P fs.toList c 0 (P.cellsOf t)
  | some (.array len e) => a7i (fitT P n e) (P.cellsOf e) len c && c.size == P.cellsOf t
  | _ => false
section
variable {P : Program} {h : Heap}
def adg (h : Heap) (b : Nat) : Prop := b < h.next
abbrev PRs (P : Program) (h : Heap) := All2 (fun (p : PV) (v : Value) => PR P (adg h) h p v)
theorem a1w {z : Nat} : ∀ {rows : List (List Value)}, (∀ r ∈ rows, r.length = z) → ∀ (i : Nat) (row : List Value) (j : Nat), rows[i]? = some row → j < z → rows.flatten[i * z + j]? = row[j]?
 | [], _, i, row, j, h, _ => by simp at h
 | r :: rows, hz, i, row, j, h, hj => by
  have hr := hz r List.mem_cons_self
  cases i with
  | zero =>
   simp at h; subst h
   rw [List.flatten_cons, Nat.zero_mul, Nat.zero_add, List.getElem?_append_left (by omega)]
  | succ i =>
   rw [List.flatten_cons, List.getElem?_append_right (by rw [hr, Nat.succ_mul]; omega), hr, show (i + 1) * z + j - z = i * z + j by rw [Nat.succ_mul]; omega]
   exact a1w (fun r hr => hz r (List.mem_cons_of_mem _ hr)) i row j (by simpa using h) hj
theorem X4 {c : CT} : ∀ {rows : List (List Value)}, (∀ r ∈ rows, ∃ x : c.T, CT.ok c x ∧ PRs P h (qG c x) r) → ∃ xs : List c.T, (∀ x ∈ xs, CT.ok c x) ∧ All2 (fun x r => PRs P h (qG c x) r) xs rows
 | [], _ => ⟨[], fun x hx => by simp at hx, .nil⟩
 | r :: rows, hr => by
  obtain ⟨x, h1, h2⟩ := hr r List.mem_cons_self
  obtain ⟨xs, h3, h4⟩ := X4 fun r h => hr r (List.mem_cons_of_mem _ h)
  exact ⟨x :: xs, fun y hy => by rcases List.mem_cons.1 hy with rfl | hy; exact h1; exact h3 y hy, .cons h2 h4⟩
theorem uW {f : TypeId → CT → Bool} {R : TypeId → List Value → Prop} (hf : ∀ t c cs, R t cs → f t c = true → cs.length = c.size ∧ ∃ x : c.T, CT.ok c x ∧ PRs P h (qG c x) cs) {cs : List Value} {tot : Nat} (hl : cs.length = tot) :
  ∀ (fs : List Field) (c : CT) (off : Nat), a7S f P fs c off tot = true → (∀ fd ∈ fs, R fd.type ((cs.drop fd.offset).take (P.cellsOf fd.type))) → (cs.drop off).length = c.size ∧ ∃ x : c.T, CT.ok c x ∧ PRs P h (qG c x) (cs.drop off)
 | [], c, off, e, _ => by cases e
 | [fd], c, off, e, hr => by
  simp only [a7S, Bool.and_eq_true, beq_iff_eq] at e
  obtain ⟨⟨⟨e1, e2⟩, e3⟩, e4⟩ := e
  obtain ⟨h1, x, h2, h3⟩ := hf _ c _ (hr fd List.mem_cons_self) e2
  rw [e1, e3, List.take_of_length_le (by simp; omega)] at h1 h3
  exact ⟨h1, x, h2, h3⟩
 | fd :: g :: r, c, off, e, hr => by
  cases c with
  | pair a b =>
   simp only [a7S, Bool.and_eq_true, beq_iff_eq] at e
   obtain ⟨⟨⟨e1, e2⟩, e3⟩, e4⟩ := e
   obtain ⟨h1, x, h2, h3⟩ := hf _ a _ (hr fd List.mem_cons_self) e2
   obtain ⟨g1, y, g2, g3⟩ := uW hf hl (g :: r) b (off + a.size) (by simpa [a7S] using e4) fun fd h => hr fd (List.mem_cons_of_mem _ h)
   rw [e1, e3] at h1 h3
   have hcut : cs.drop off = (cs.drop off).take a.size ++ cs.drop (off + a.size) := by
    rw [← List.drop_drop]; exact (List.take_append_drop _ _).symm
   refine ⟨?_, (x, y), ⟨h2, g2⟩, ?_⟩
   ·rw [hcut, List.length_append, h1, g1]; rfl
   ·rw [hcut]; exact h3.append g3
  | _ => simp [a7S] at e
theorem uq {f : CT → Bool} {z : Nat} {R : List Value → Prop} (hf : ∀ c cs, R cs → f c = true → cs.length = c.size ∧ ∃ x : c.T, CT.ok c x ∧ PRs P h (qG c x) cs) {cs : List Value} :
  ∀ (n : Nat) (c : CT) (k : Nat), a7i f z n c = true → (∀ i, i < n → R ((cs.drop ((k + i) * z)).take z)) → cs.length = k * z + c.size → (cs.drop (k * z)).length = c.size ∧ ∃ x : c.T, CT.ok c x ∧ PRs P h (qG c x) (cs.drop (k * z))
 | 0, c, k, e, _, _ => by cases e
 | 1, c, k, e, hr, hl => by
  simp only [a7i, Bool.and_eq_true, beq_iff_eq] at e
  have h0 := hr 0 (by omega)
  rw [Nat.add_zero, List.take_of_length_le (by simp; omega)] at h0
  obtain ⟨h1, x, h2, h3⟩ := hf c _ h0 e.1
  exact ⟨h1, x, h2, h3⟩
 | n + 2, c, k, e, hr, hl => by
  cases c with
  | pair a b =>
   simp only [a7i, Bool.and_eq_true, beq_iff_eq] at e
   obtain ⟨⟨e1, e2⟩, e3⟩ := e
   have h0 := hr 0 (by omega)
   rw [Nat.add_zero] at h0
   obtain ⟨h1, x, h2, h3⟩ := hf a _ h0 e1
   have hl' : cs.length = (k + 1) * z + b.size := by rw [hl, Nat.succ_mul]; simp only [CT.size]; omega
   obtain ⟨g1, y, g2, g3⟩ := uq hf (n + 1) b (k + 1) (by simpa [a7i] using e3) (fun i hi => by have := hr (i + 1) (by omega); rwa [show k + (i + 1) = k + 1 + i by omega] at this) hl'
   have hcut : cs.drop (k * z) = (cs.drop (k * z)).take z ++ cs.drop ((k + 1) * z) := by
    rw [show (k + 1) * z = k * z + z by rw [Nat.succ_mul], ← List.drop_drop]; exact (List.take_append_drop _ _).symm
   refine ⟨?_, (x, y), ⟨h2, g2⟩, ?_⟩
   ·rw [hcut, List.length_append, h1, g1]; rfl
   ·rw [hcut]; exact h3.append g3
  | _ => simp [a7i] at e
theorem a4C : ∀ (n d : Nat) (t : TypeId) (c : CT) (cs : List Value), RV P h d t cs → fitT P n t c = true → cs.length = c.size ∧ ∃ x : c.T, CT.ok c x ∧ PRs P h (qG c x) cs
 | 0, d, t, c, cs, _, e => by cases e
 | n + 1, 0, t, c, cs, hr, _ => hr.elim
 | n + 1, d + 1, t, c, cs, hr, e => by
  unfold fitT at e
  unfold RV at hr
  split at e
  ·rename_i hu
   rw [hu] at hr
   have := CT.of_eqb e
   subst this
   obtain ⟨b, rfl⟩ := hr
   exact ⟨rfl, b, trivial, .cons (.v rfl) .nil⟩
  ·rename_i k hu
   rw [hu] at hr
   have := CT.of_eqb e
   subst this
   obtain ⟨x, rfl, hx⟩ := hr
   simp only [Lit.wf, Bool.and_eq_true, decide_eq_true_eq] at hx
   exact ⟨rfl, x, hx, .cons (.v rfl) .nil⟩
  ·rename_i hu
   rw [hu] at hr
   have := CT.of_eqb e
   subst this
   obtain ⟨s, rfl, hs⟩ := hr
   exact ⟨rfl, s, hs, .cons (.v rfl) .nil⟩
  ·rename_i te hu
   rw [hu] at hr
   split at e
   ·rename_i r
    simp only [Bool.and_eq_true, beq_iff_eq] at e
    rcases hr with rfl | rfl | ⟨b, rows, rfl, hne, hm, hg, hrows⟩
    ·exact ⟨rfl, [], ⟨Nat.zero_le _, fun x hx => by simp at hx⟩, .cons .nil .nil⟩
    ·exact ⟨rfl, [], ⟨Nat.zero_le _, fun x hx => by simp at hx⟩, .cons .dud .nil⟩
    ·obtain ⟨xs, h1, h2⟩ := X4 (P := P) (h := h) (c := r) (rows := rows) fun row hrow => (a4C n d te r row (hrows row hrow).2 e.1).2
     have hl : xs.length = rows.length := h2.length
     have hz : ∀ row ∈ rows, row.length = r.size := fun row hrow => by rw [(hrows row hrow).1, e.2]
     refine ⟨rfl, xs, ⟨by rw [hl]; exact hm, h1⟩, .cons ?_ .nil⟩
     have hml : (xs.map (qG r)).length = rows.length := by simp [hl]
     rw [← hml]
     refine PR.sl (h.wf _ _ hg) hg (CT.size_pos r) ?_ ?_ ?_ (.inl rfl) (by rw [hml]; exact hm)
     ·rw [hml, vg rows r.size hz]; omega
     ·intro i row hrow
      rw [List.getElem?_map] at hrow
      cases hx : xs[i]? with
      | none => rw [hx] at hrow; cases hrow
      | some x => rw [hx] at hrow; cases hrow; exact kd r x
     ·intro i row j p u hrow hp hu'
      rw [List.getElem?_map] at hrow
      cases hx : xs[i]? with
      | none => rw [hx] at hrow; cases hrow
      | some x =>
       rw [hx] at hrow; cases hrow
       obtain ⟨vrow, hv, hpr⟩ := h2.get hx
       have hj : j < r.size := by rw [← kd r x]; exact (List.getElem?_eq_some_iff.1 hp).1
       rw [Nat.zero_add, a1w hz i vrow j hv hj] at hu'
       obtain ⟨u', hu2, hpr2⟩ := hpr.get hp
       rw [hu'] at hu2; cases hu2
       exact hpr2
   ·cases e
  ·rename_i fs hu
   rw [hu] at hr
   obtain ⟨h1, h2⟩ := hr
   have := uW (P := P) (h := h) (f := fitT P n) (R := fun t cs => RV P h d t cs) (fun t c cs hr he => a4C n d t c cs hr he) h1 fs.toList c 0 e (fun fd hfd => h2 fd hfd)
   rwa [List.drop_zero] at this
  ·rename_i len te hu
   rw [hu] at hr
   obtain ⟨h1, h2⟩ := hr
   simp only [Bool.and_eq_true, beq_iff_eq] at e
   have := uq (P := P) (h := h) (f := fitT P n te) (z := P.cellsOf te) (R := fun cs => RV P h d te cs) (fun c cs hr he => a4C n d te c cs hr he) len c 0 e.1 (fun i hi => by rw [Nat.zero_add]; exact h2 i hi) (by rw [h1, e.2]; omega)
   rwa [Nat.zero_mul, List.drop_zero] at this
  ·cases e
def CTs : List CT → Type
 | [] => Unit
 | c :: r => c.T × CTs r
def CT.oks : (cs : List CT) → CTs cs → Prop
 | [], _ => True
 | c :: r, x => CT.ok c x.1 ∧ CT.oks r x.2
def Zw (P : Program) (t : TypeId) : Bool := match P.underlying t with
 | some (.struct _) => true
 | some (.array _ _) => true
 | _ => false
def abm (P : Program) (t : TypeId) (c : CT) (x : c.T) : TV := if Zw P t then .agg (tvC c x) else (tvC c x).headD a8W
def a64 (P : Program) : List TypeId → (cs : List CT) → CTs cs → List TV
 | t :: ts, c :: cs, x => abm P t c x.1 :: a64 P ts cs x.2
 | _, _, _ => []
def a1P (P : Program) (n : Nat) : List TypeId → List CT → Bool
 | [], [] => true
 | t :: ts, c :: cs => fitT P n t c && (Zw P t || c.size == 1) && a1P P n ts cs
 | _, _ => false
theorem a3F : ∀ (c : CT) (x : c.T), (tvC c x).all isC = true
 | .int _, _ => rfl
 | .bool, _ => rfl
 | .str, _ => rfl
 | .sl _, _ => rfl
 | .pair a b, x => by simp only [tvC, List.all_append, a3F a, a3F b, Bool.and_self]
theorem agD {S : Nat → Prop} {γ : Pl} {M : List Obj} : ∀ {c : CT} {x : c.T} {vs : List Value}, All2 (fun p v => PR P S h p v) (qG c x) vs → All2 (DC P S γ M h) ((tvC c x).map qp) vs := by
 intro c x vs ha
 rw [Zk]
 generalize qG c x = ps at ha
 induction ha with
 | nil => exact .nil
 | cons a _ ih => exact .cons a ih
theorem a4O {S : Nat → Prop} (hS : ∀ b, adg h b → S b) {γ : Pl} {M : List Obj} (n d : Nat) : ∀ (ts : List TypeId) (cs : List CT) (vs : List Value), RVals P h d ts vs → a1P P n ts cs = true → ∃ xs : CTs cs, CT.oks cs xs ∧ All2 (DR P S γ M h) ((a64 P ts cs xs).map enc) vs
 | [], [], [], _, _ => ⟨(), trivial, .nil⟩
 | t :: ts, c :: cs, v :: vs, hr, hf => by
  simp only [a1P, Bool.and_eq_true] at hf
  obtain ⟨⟨f1, f2⟩, f3⟩ := hf
  obtain ⟨xs, h1, h2⟩ := a4O hS n d ts cs vs hr.2 f3
  have mono : ∀ {x : c.T} {us : List Value}, PRs P h (qG c x) us → All2 (fun p v => PR P S h p v) (qG c x) us := fun q => q.mono fun _ _ hp => hp.mono fun b hb => ⟨hS b hb, rfl⟩
  have hv := hr.1
  unfold RVal at hv
  have agg : Zw P t = true → (∃ us : List Value, v = .agg us.toArray ∧ RV P h d t us) → ∃ xs : CTs (c :: cs), CT.oks (c :: cs) xs ∧ All2 (DR P S γ M h) ((a64 P (t :: ts) (c :: cs) xs).map enc) (v :: vs) := by
   rintro ha ⟨us, rfl, hu⟩
   obtain ⟨_, x, q1, q2⟩ := a4C n d t c us hu f1
   refine ⟨(x, xs), ⟨q1, h1⟩, .cons ?_ h2⟩
   show DR P S γ M h (enc (abm P t c x)) _
   unfold abm
   rw [if_pos ha]
   exact ⟨us.toArray, rfl, by simpa using agD (mono q2)⟩
  split at hv
  ·rename_i fs hu; exact agg (by unfold Zw; rw [hu]) hv
  ·rename_i m te hu; exact agg (by unfold Zw; rw [hu]) hv
  ·rename_i n1 n2
   have hna : Zw P t = false := by
    unfold Zw
    split
    ·rename_i hu; exact absurd hu (n1 _)
    ·rename_i hu; exact absurd hu (n2 _ _)
    ·rfl
   obtain ⟨_, x, q1, q2⟩ := a4C n d t c [v] hv f1
   refine ⟨(x, xs), ⟨q1, h1⟩, .cons ?_ h2⟩
   show DR P S γ M h (enc (abm P t c x)) _
   unfold abm
   rw [if_neg (by rw [hna]; decide)]
   have hdc := agD (γ := γ) (M := M) (mono q2)
   have hC := a3F c x
   generalize tvC c x = l at hdc hC
   cases l with
   | nil => cases hdc
   | cons y l =>
    cases hdc with
    | cons a t =>
     simp only [List.all_cons, Bool.and_eq_true] at hC
     exact (a3u hC.1).2 a
 | [], _ :: _, _, _, hf => by simp [a1P] at hf
 | _ :: _, [], _, _, hf => by simp [a1P] at hf
 | [], [], _ :: _, hr, _ => hr.elim
 | _ :: _, _ :: _, [], hr, _ => hr.elim
theorem acF {f : FuncId} {av : VS} {m : ShT av [] → Option (RT [(.bool, [])])} (he : qz P ⟨f, av, [], [(.bool, [])], m⟩) (n d : Nat) (ts : List TypeId) (cs : List CT) (hf : a1P P n ts cs = true) (conv : CTs cs → ShT av []) (hc : ∀ xs, (conv xs).vals = a64 P ts cs xs)
  (hm : ∀ xs, CT.oks cs xs → m (conv xs) = some (true : Bool)) (h : Heap) (ars : List Value) (hr : RVals P h d ts ars) : ACalls P f ars h (fun v _ => v = .bool true) := by
 let W0 : Ent := { start := h.next, W := fun _ => False, A := fun _ => True, pin := fun _ _ => False, cnt := 0, few := fun _ _ e => e.elim, sub := fun _ e => e.elim }
 have hS : ∀ b, adg h b → qd W0 UI [] h b := fun b hb => ⟨hb, .inr trivial, fun id o x e => by simp at e⟩
 obtain ⟨xs, h1, h2⟩ := a4O (P := P) (γ := UI) (M := []) hS n d ts cs ars hr hf
 have hd := he (conv xs) true (hm xs h1)
 simp only at hd
 rw [hc] at hd
 have hobj : (conv xs).objs = [] := List.length_eq_zero_iff.1 (QS _ _ _ _)
 rw [hobj] at hd
 refine (hd W0 UI h ars (Nat.le_refl _) (a9z W0 h rfl fun _ _ e => e) h2).mono ?_
 rintro v h' ⟨γ', r, A', hq, H', hdr⟩
 obtain ⟨w, hw, rfl, _⟩ := (show RQ1 (.bool, []) (true : Bool) r A' from hq)
 have hw' : [TV.v (.bool true)] = [w] := hw
 cases hw'
 exact PR.scal (P := P) (S := qd W0 γ' A' h') (h := h') hdr
end
end Go.Sim
set_option maxRecDepth 100000
namespace Go.Sim
open Go.Proofs
abbrev ctC : CT := .pair (.int .i32) (.pair (.pair (.int .i32) (.int .i32)) (.pair (.int .u8) (.pair (.int .u8) (.pair (.int .u8) (.int .u8)))))
abbrev ctA : CT := .pair (.int .i64) (.pair (.int .i64) (.pair (.int .i64) (.pair (.int .i64) (.pair ctC (.pair (.int .i32) (.pair (.pair (.int .u8) (.pair (.int .u8) (.int .u8))) (.sl ctC)))))))
abbrev ctK : CT := .pair (.int .i64) (.int .i32)
theorem ur {n : Int} (h : CT.ok (.int .i32) n) : kx n := by
 obtain ⟨h1, h2⟩ := h
 have e1 : IntKind.i32.min = -2147483648 := by decide +kernel
 have e2 : IntKind.i32.max = 2147483647 := by decide +kernel
 rw [e1] at h1
 rw [e2] at h2
 exact ⟨h1, Int.lt_of_le_of_lt h2 (by decide)⟩
theorem abZ {n : Int} (h : CT.ok (.int .i64) n) : Y9 n := by
 obtain ⟨h1, h2⟩ := h
 have e1 : IntKind.i64.min = -9223372036854775808 := by decide +kernel
 have e2 : IntKind.i64.max = 9223372036854775807 := by decide +kernel
 rw [e1] at h1
 rw [e2] at h2
 exact ⟨h1, Int.lt_of_le_of_lt h2 (by decide)⟩
theorem ux {n : Int} (h : CT.ok (.int .u8) n) : u8r n := by
 obtain ⟨h1, h2⟩ := h
 have e1 : IntKind.u8.min = 0 := by decide +kernel
 have e2 : IntKind.u8.max = 255 := by decide +kernel
 rw [e1] at h1
 rw [e2] at h2
 exact ⟨h1, Int.lt_of_le_of_lt h2 (by decide)⟩
theorem aea {c : qc} (h : CT.ok ctC c) : OkC c := ⟨ur h.1, ur h.2.1.1, ur h.2.1.2, ux h.2.2.1, ux h.2.2.2.1, ux h.2.2.2.2.1, ux h.2.2.2.2.2⟩
theorem ah0 {a : ab8} (h : CT.ok ctA a) : OkA a := ⟨abZ h.2.1, abZ h.2.2.1, aea h.2.2.2.2.1, ur h.2.2.2.2.2.1, ux h.2.2.2.2.2.2.1.1, ux h.2.2.2.2.2.2.1.2.1, ux h.2.2.2.2.2.2.1.2.2, fun c hc => aea (h.2.2.2.2.2.2.2.2 c hc)⟩
theorem aaD (h : Heap) (vs : List Value) (hr : RVals Tryz.prog h 12 [3, 3, 22, 42] vs) : ACalls Tryz.prog 4 vs h (fun v _ => v = .bool true) := by
 have ha : Zw Tryz.prog 3 = false := by kernel_rfl
 have hb : Zw Tryz.prog 22 = false := by kernel_rfl
 have hc : Zw Tryz.prog 42 = true := by kernel_rfl
 refine acF (P := Tryz.prog) (f := 4) (av := .cons (.int .i64) (.cons (.int .i64) (.cons (.sl ctA) (.agg a5U)))) (m := fun s => KV s.1 s.2.1 s.2.2.1 s.2.2.2.1 s.2.2.2.2) a0A 12 12 [3, 3, 22, 42] [.int .i64, .int .i64, .sl ctA, ctK] (by kernel_rfl) (fun x => (x.1, x.2.1, x.2.2.1, x.2.2.2.1)) (fun x => ?_) (fun x hx => ?_) h vs hr
 ·simp only [a64, abm, ha, hb, hc]
  rfl
 ·obtain ⟨-, -, h3, h4, -⟩ := hx
  exact aia (rows := x.1) (cols := x.2.1) (k := x.2.2.2.1.1) (fun a q => ah0 (h3.2 a q)) (ur h4.2)
end Go.Sim

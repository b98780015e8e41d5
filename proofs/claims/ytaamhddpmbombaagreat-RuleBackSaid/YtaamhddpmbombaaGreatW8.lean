/- Part 8 of the claim RuleBack: GA, V1, GB, V2, GC, V3, V4, V5, V6 -/
import Derived.Test.YtaamhddpmbombaaGreatProg
import Derived.Test.YtaamhddpmbombaaGreatW7
set_option linter.unusedSimpArgs false
set_option linter.unusedVariables false
set_option linter.defProp false
set_option maxRecDepth 100000
set_option maxHeartbeats 0
set_option linter.unusedVariables false
namespace Go.Sim
open Go.Proofs
noncomputable def wA (x0 : Int) : Option Bool :=
 bif decide ((0 : Int) ≤ x0) then
  bif decide (x0 < (55296 : Int)) then
   some Bool.true
  else bif decide ((57343 : Int) < x0) then
    some (decide (x0 ≤ (1114111 : Int)))
   else some Bool.false
 else bif decide ((57343 : Int) < x0) then
   some (decide (x0 ≤ (1114111 : Int)))
  else some Bool.false
noncomputable def V9 : TEnt := ⟨174, .int .i32, [], [(.bool, [])], fun s => wA s⟩
theorem Xk : qz Tryz.prog V9 := qj (tab := []) (loops := []) (joins := []) (un := []) _ (by intro e he; simp at he) (fun s => by kernel_rfl) (by kernel_rfl)
noncomputable def Qf (x0 : Int) : Option Bool :=
 bif decide ((0 : Int) ≤ x0) then
  bif decide (x0 ≤ (1114111 : Int)) then
   bif decide (x0 < (55296 : Int)) then
    some Bool.true
   else some (decide ((57343 : Int) < x0))
  else some Bool.false
 else some Bool.false
noncomputable def V3 : TEnt := ⟨163, .int .i64, [], [(.bool, [])], fun s => Qf s⟩
theorem Xj : qz Tryz.prog V3 := qj (tab := []) (loops := []) (joins := []) (un := []) _ (by intro e he; simp at he) (fun s => by kernel_rfl) (by kernel_rfl)
noncomputable def a2W (x0 : Int) (x1 : Int) : Option Bool :=
 none
noncomputable def vH : TEnt := ⟨192, .agg (.cons (.int .i32) (.int .i32)), [], [(.bool, [])], fun s => a2W s.1 s.2⟩
theorem Xw : qz Tryz.prog vH := qj (tab := []) (loops := []) (joins := []) (un := []) _ (by intro e he; simp at he) (fun s => by kernel_rfl) (by kernel_rfl)
noncomputable def qt (x4 : Int) (x5 : Int) : Option ((Int × Int) ⊕ Int) :=
 bif decide (x4 < (11 : Int)) then
  bif decide (x4 = (10 : Int)) then
   bif decide ((131072 : Int) ≤ x5) then
    bif decide (x5 ≤ (262141 : Int)) then
     some (Sum.inr ((2 : Int)))
    else some (Sum.inl ((Go.IntKind.i64.wrap (x4 + (1 : Int))), x5))
   else some (Sum.inl ((Go.IntKind.i64.wrap (x4 + (1 : Int))), x5))
  else bif decide (x4 = (9 : Int)) then
    bif decide ((129280 : Int) ≤ x5) then
     bif decide (x5 ≤ (129535 : Int)) then
      some (Sum.inr ((2 : Int)))
     else some (Sum.inl ((Go.IntKind.i64.wrap (x4 + (1 : Int))), x5))
    else some (Sum.inl ((Go.IntKind.i64.wrap (x4 + (1 : Int))), x5))
   else bif decide (x4 = (8 : Int)) then
     bif decide ((127744 : Int) ≤ x5) then
      bif decide (x5 ≤ (128591 : Int)) then
       some (Sum.inr ((2 : Int)))
      else some (Sum.inl ((Go.IntKind.i64.wrap (x4 + (1 : Int))), x5))
     else some (Sum.inl ((Go.IntKind.i64.wrap (x4 + (1 : Int))), x5))
    else bif decide (x4 = (7 : Int)) then
      bif decide ((65504 : Int) ≤ x5) then
       bif decide (x5 ≤ (65510 : Int)) then
        some (Sum.inr ((2 : Int)))
       else some (Sum.inl ((Go.IntKind.i64.wrap (x4 + (1 : Int))), x5))
      else some (Sum.inl ((Go.IntKind.i64.wrap (x4 + (1 : Int))), x5))
     else bif decide (x4 = (6 : Int)) then
       bif decide ((65280 : Int) ≤ x5) then
        bif decide (x5 ≤ (65376 : Int)) then
         some (Sum.inr ((2 : Int)))
        else some (Sum.inl ((Go.IntKind.i64.wrap (x4 + (1 : Int))), x5))
       else some (Sum.inl ((Go.IntKind.i64.wrap (x4 + (1 : Int))), x5))
      else bif decide (x4 = (5 : Int)) then
        bif decide ((65072 : Int) ≤ x5) then
         bif decide (x5 ≤ (65135 : Int)) then
          some (Sum.inr ((2 : Int)))
         else some (Sum.inl ((Go.IntKind.i64.wrap (x4 + (1 : Int))), x5))
        else some (Sum.inl ((Go.IntKind.i64.wrap (x4 + (1 : Int))), x5))
       else bif decide (x4 = (4 : Int)) then
         bif decide ((63744 : Int) ≤ x5) then
          bif decide (x5 ≤ (64255 : Int)) then
           some (Sum.inr ((2 : Int)))
          else some (Sum.inl ((Go.IntKind.i64.wrap (x4 + (1 : Int))), x5))
         else some (Sum.inl ((Go.IntKind.i64.wrap (x4 + (1 : Int))), x5))
        else bif decide (x4 = (3 : Int)) then
          bif decide ((44032 : Int) ≤ x5) then
           bif decide (x5 ≤ (55203 : Int)) then
            some (Sum.inr ((2 : Int)))
           else some (Sum.inl ((Go.IntKind.i64.wrap (x4 + (1 : Int))), x5))
          else some (Sum.inl ((Go.IntKind.i64.wrap (x4 + (1 : Int))), x5))
         else bif decide (x4 = (2 : Int)) then
           bif decide ((12353 : Int) ≤ x5) then
            bif decide (x5 ≤ (42191 : Int)) then
             some (Sum.inr ((2 : Int)))
            else some (Sum.inl ((Go.IntKind.i64.wrap (x4 + (1 : Int))), x5))
           else some (Sum.inl ((Go.IntKind.i64.wrap (x4 + (1 : Int))), x5))
          else bif decide (x4 = (1 : Int)) then
            bif decide ((11904 : Int) ≤ x5) then
             bif decide (x5 ≤ (12350 : Int)) then
              some (Sum.inr ((2 : Int)))
             else some (Sum.inl ((Go.IntKind.i64.wrap (x4 + (1 : Int))), x5))
            else some (Sum.inl ((Go.IntKind.i64.wrap (x4 + (1 : Int))), x5))
           else bif decide (x4 = (0 : Int)) then
             bif decide ((4352 : Int) ≤ x5) then
              bif decide (x5 ≤ (4447 : Int)) then
               some (Sum.inr ((2 : Int)))
              else some (Sum.inl ((Go.IntKind.i64.wrap (x4 + (1 : Int))), x5))
             else some (Sum.inl ((Go.IntKind.i64.wrap (x4 + (1 : Int))), x5))
            else none
 else some (Sum.inr ((1 : Int)))
noncomputable def qm : (Int × Int) → Option Int := z3 fun s => qt s.1 s.2
noncomputable def qU (x2 : Int) (x3 : Int) : Option ((Int × Int) ⊕ Int) :=
 bif decide (x2 < (5 : Int)) then
  bif decide (x2 = (4 : Int)) then
   bif decide ((65056 : Int) ≤ x3) then
    bif decide (x3 ≤ (65071 : Int)) then
     some (Sum.inr ((0 : Int)))
    else some (Sum.inl ((Go.IntKind.i64.wrap (x2 + (1 : Int))), x3))
   else some (Sum.inl ((Go.IntKind.i64.wrap (x2 + (1 : Int))), x3))
  else bif decide (x2 = (3 : Int)) then
    bif decide ((65024 : Int) ≤ x3) then
     bif decide (x3 ≤ (65039 : Int)) then
      some (Sum.inr ((0 : Int)))
     else some (Sum.inl ((Go.IntKind.i64.wrap (x2 + (1 : Int))), x3))
    else some (Sum.inl ((Go.IntKind.i64.wrap (x2 + (1 : Int))), x3))
   else bif decide (x2 = (2 : Int)) then
     bif decide ((8400 : Int) ≤ x3) then
      bif decide (x3 ≤ (8447 : Int)) then
       some (Sum.inr ((0 : Int)))
      else some (Sum.inl ((Go.IntKind.i64.wrap (x2 + (1 : Int))), x3))
     else some (Sum.inl ((Go.IntKind.i64.wrap (x2 + (1 : Int))), x3))
    else bif decide (x2 = (1 : Int)) then
      bif decide ((8203 : Int) ≤ x3) then
       bif decide (x3 ≤ (8207 : Int)) then
        some (Sum.inr ((0 : Int)))
       else some (Sum.inl ((Go.IntKind.i64.wrap (x2 + (1 : Int))), x3))
      else some (Sum.inl ((Go.IntKind.i64.wrap (x2 + (1 : Int))), x3))
     else bif decide (x2 = (0 : Int)) then
       bif decide ((768 : Int) ≤ x3) then
        bif decide (x3 ≤ (879 : Int)) then
         some (Sum.inr ((0 : Int)))
        else some (Sum.inl ((Go.IntKind.i64.wrap (x2 + (1 : Int))), x3))
       else some (Sum.inl ((Go.IntKind.i64.wrap (x2 + (1 : Int))), x3))
      else none
 else Option.bind (qm (((0 : Int)), x3)) fun x4 =>
   some (Sum.inr x4)
noncomputable def qE : (Int × Int) → Option Int := z3 fun s => qU s.1 s.2
noncomputable def w6 (x0 : Int) : Option Int :=
 bif decide (x0 < (32 : Int)) then
  some ((-1 : Int))
 else bif decide ((127 : Int) ≤ x0) then
   bif decide (x0 ≤ (159 : Int)) then
    some ((-1 : Int))
   else Option.bind (wA x0) fun x1 =>
     bif !x1 then
      some ((-1 : Int))
     else Option.bind (qE (((0 : Int)), x0)) fun x2 =>
       some x2
  else Option.bind (wA x0) fun x1 =>
    bif !x1 then
     some ((-1 : Int))
    else Option.bind (qE (((0 : Int)), x0)) fun x2 =>
      some x2
noncomputable def QE : TEnt := ⟨168, .int .i32, [], [(.int .i64, [])], fun s => w6 s⟩
theorem yu : qz Tryz.prog QE := qj (tab := [V9, vH]) (loops := [(299594, [3, 24, 25], (.cons (.fn 192 .nil (.ptr 0 0)) (.cons (.agg (.cons (.cst (.int .i32 (768))) (.cons (.cst (.int .i32 (879))) (.cons (.cst (.int .i32 (8203))) (.cons (.cst (.int .i32 (8207))) (.cons (.cst (.int .i32 (8400))) (.cons (.cst (.int .i32 (8447))) (.cons (.cst (.int .i32 (65024))) (.cons (.cst (.int .i32 (65039))) (.cons (.cst (.int .i32 (65056))) (.cst (.int .i32 (65071))))))))))))) (.int .i64))), [.st (.int .i32)]), (19173962, [3, 32, 33], (.cons (.fn 192 .nil (.ptr 0 0)) (.cons (.agg (.cons (.cst (.int .i32 (4352))) (.cons (.cst (.int .i32 (4447))) (.cons (.cst (.int .i32 (11904))) (.cons (.cst (.int .i32 (12350))) (.cons (.cst (.int .i32 (12353))) (.cons (.cst (.int .i32 (42191))) (.cons (.cst (.int .i32 (44032))) (.cons (.cst (.int .i32 (55203))) (.cons (.cst (.int .i32 (63744))) (.cons (.cst (.int .i32 (64255))) (.cons (.cst (.int .i32 (65072))) (.cons (.cst (.int .i32 (65135))) (.cons (.cst (.int .i32 (65280))) (.cons (.cst (.int .i32 (65376))) (.cons (.cst (.int .i32 (65504))) (.cons (.cst (.int .i32 (65510))) (.cons (.cst (.int .i32 (127744))) (.cons (.cst (.int .i32 (128591))) (.cons (.cst (.int .i32 (129280))) (.cons (.cst (.int .i32 (129535))) (.cons (.cst (.int .i32 (131072))) (.cst (.int .i32 (262141))))))))))))))))))))))))) (.int .i64))), [.st (.int .i32)])]) (joins := []) (un := []) _ (by
  intro e he
  simp only [List.mem_cons, List.not_mem_nil, or_false] at he
  rcases he with rfl | rfl
  ·exact Xk
  ·exact Xw) (fun s => by kernel_rfl) (by kernel_rfl)
noncomputable def jF (x0 : Int) : Option Bool :=
 Option.bind (w6 x0) fun x1 =>
  some (x1 == (0 : Int))
noncomputable def Kn : TEnt := ⟨128, .int .i32, [], [(.bool, [])], fun s => jF s⟩
theorem J7 : qz Tryz.prog Kn := qj (tab := [QE]) (loops := []) (joins := []) (un := []) _ (by
  intro e he
  simp only [List.mem_cons, List.not_mem_nil, or_false] at he
  rcases he with rfl
  ·exact yu) (fun s => by kernel_rfl) (by kernel_rfl)
noncomputable def yz (x0 : Int) : Option Bool :=
 Option.bind (w6 x0) fun x1 =>
  some (x1 == (1 : Int))
noncomputable def Yv : TEnt := ⟨159, .int .i32, [], [(.bool, [])], fun s => yz s⟩
theorem xl : qz Tryz.prog Yv := qj (tab := [QE]) (loops := []) (joins := []) (un := []) _ (by
  intro e he
  simp only [List.mem_cons, List.not_mem_nil, or_false] at he
  rcases he with rfl
  ·exact yu) (fun s => by kernel_rfl) (by kernel_rfl)
noncomputable def jB (x2 : Int) (x3 : (List Int)) (x4 : Int) : Option ((Int × ((List Int) × Int)) ⊕ Bool) :=
 bif decide (Go.IntKind.i64.wrap (x4 + (1 : Int)) < (↑(List.length x3) : Int)) then
  bif decide ((0 : Int) ≤ x4) then
   Option.bind (x3[x4.toNat]?) fun x5 =>
    bif decide (x5 ≤ x2) then
     bif decide ((0 : Int) ≤ Go.IntKind.i64.wrap (x4 + (1 : Int))) then
      Option.bind (x3[(Go.IntKind.i64.wrap (x4 + (1 : Int))).toNat]?) fun x6 =>
       bif decide (x2 ≤ x6) then
        some (Sum.inr Bool.true)
       else some (Sum.inl (x2, (x3, (Go.IntKind.i64.wrap (x4 + (2 : Int))))))
     else none
    else some (Sum.inl (x2, (x3, (Go.IntKind.i64.wrap (x4 + (2 : Int))))))
  else none
 else some (Sum.inr Bool.false)
noncomputable def Z0 : (Int × ((List Int) × Int)) → Option Bool := z3 fun s => jB s.1 s.2.1 s.2.2
noncomputable def ZR (x0 : Int) (x1 : (List Int)) : Option Bool :=
 Option.bind (Z0 (x0, (x1, ((0 : Int))))) fun x2 =>
  some x2
noncomputable def a4S : TEnt := ⟨162, .cons (.int .i64) (.sl (.int .i64)), [], [(.bool, [])], fun s => ZR s.1 s.2⟩
theorem a4c : qz Tryz.prog a4S := qj (tab := []) (loops := [(586, [0, 1, 5], (.cons (.int .i64) (.cons (.sl (.int .i64)) (.int .i64))), [])]) (joins := []) (un := []) _ (by intro e he; simp at he) (fun s => by kernel_rfl) (by kernel_rfl)
noncomputable def wF (x0 : Int) : Option Int :=
 bif decide (x0 < (32 : Int)) then
  some ((-1 : Int))
 else Option.bind (ZR x0 [(127 : Int), (159 : Int)]) fun x1 =>
   bif x1 then
    some ((-1 : Int))
   else Option.bind (Qf x0) fun x2 =>
     bif !x2 then
      some ((-1 : Int))
     else Option.bind (ZR x0 [(768 : Int), (879 : Int), (8203 : Int), (8207 : Int), (8400 : Int), (8447 : Int), (65024 : Int), (65039 : Int), (65056 : Int), (65071 : Int)]) fun x3 =>
       bif x3 then
        some ((0 : Int))
       else Option.bind (ZR x0 [(4352 : Int), (4447 : Int), (11904 : Int), (12350 : Int), (12353 : Int), (42191 : Int), (44032 : Int), (55203 : Int), (63744 : Int), (64255 : Int), (65072 : Int), (65135 : Int), (65280 : Int), (65376 : Int), (65504 : Int), (65510 : Int), (127744 : Int), (128591 : Int), (129280 : Int), (129535 : Int), (131072 : Int), (262141 : Int)]) fun x4 =>
         bif x4 then
          some ((2 : Int))
         else some ((1 : Int))
noncomputable def ua : TEnt := ⟨107, .int .i64, [], [(.int .i64, [])], fun s => wF s⟩
theorem Xc : qz Tryz.prog ua := qj (tab := [V3, a4S]) (loops := []) (joins := []) (un := []) _ (by
  intro e he
  simp only [List.mem_cons, List.not_mem_nil, or_false] at he
  rcases he with rfl | rfl
  ·exact Xj
  ·exact a4c) (fun s => by kernel_rfl) (by kernel_rfl)
noncomputable def wi (x0 : Int) (x1 : Int) (x2 : Int) : Option Bool :=
 bif decide (x0 < (32 : Int)) then
  bif decide (x1 < (17 : Int)) then
   some (decide (x2 < (17 : Int)))
  else some Bool.false
 else some Bool.false
noncomputable def QX : TEnt := ⟨154, .agg Y6_, [], [(.bool, [])], fun s => wi s.1 s.2.1 s.2.2⟩
theorem QM : qz Tryz.prog QX := qj (tab := []) (loops := []) (joins := []) (un := []) _ (by intro e he; simp at he) (fun s => by kernel_rfl) (by kernel_rfl)
noncomputable def wu (x0 : Int) (x1 : Int) (x2 : Int) : Option Bool :=
 bif decide (x0 ≤ (31 : Int)) then
  bif decide (x1 ≤ (16 : Int)) then
   some (decide (x2 ≤ (16 : Int)))
  else some Bool.false
 else some Bool.false
noncomputable def Z9 : TEnt := ⟨155, .agg Y6_, [], [(.bool, [])], fun s => wu s.1 s.2.1 s.2.2⟩
theorem QH : qz Tryz.prog Z9 := qj (tab := []) (loops := []) (joins := []) (un := []) _ (by intro e he; simp at he) (fun s => by kernel_rfl) (by kernel_rfl)
noncomputable def wS (x0 : Int) (x1 : Int) (x2 : Int) : Option Ws :=
 some (((32 : Int)), (((0 : Int)), (((0 : Int)), (((1 : Int)), (x0, (x1, x2))))))
noncomputable def Ko : TEnt := ⟨188, .agg Y6_, [], [(.agg Xr, [])], fun s => wS s.1 s.2.1 s.2.2⟩
theorem Jg : qz Tryz.prog Ko := qj (tab := []) (loops := []) (joins := []) (un := []) _ (by intro e he; simp at he) (fun s => by kernel_rfl) (by kernel_rfl)
noncomputable def zO (x0 : Int) (x1 : Int) (x2 : Int) : Option Ws :=
 some (((32 : Int)), (((0 : Int)), (((0 : Int)), (((1 : Int)), (x0, (x1, x2))))))
noncomputable def yG : TEnt := ⟨148, .agg Y6_, [], [(.agg Us, [])], fun s => zO s.1 s.2.1 s.2.2⟩
theorem wR : qz Tryz.prog yG := qj (tab := []) (loops := []) (joins := []) (un := []) _ (by intro e he; simp at he) (fun s => by kernel_rfl) (by kernel_rfl)
noncomputable def K0 (x0 : Int) (x1 : Int) (x2 : Int) (x3 : Int) : Option (Ws × Bool) :=
 Option.bind (w6 x0) fun x4 =>
  bif decide (x4 < (1 : Int)) then
   some ((((0 : Int)), (((0 : Int)), (((0 : Int)), (((0 : Int)), (((0 : Int)), (((0 : Int)), ((0 : Int)))))))), Bool.false)
  else some ((x0, (((0 : Int)), (((0 : Int)), ((Go.IntKind.u8.wrap x4), (x1, (x2, x3)))))), Bool.true)
noncomputable def a1o : TEnt := ⟨127, .cons (.int .i32) (.agg Y6_), [], [(.tup (.cons (.agg Xr) .bool), [])], fun s => K0 s.1 s.2.1 s.2.2.1 s.2.2.2⟩
theorem a3W : qz Tryz.prog a1o := qj (tab := [QE]) (loops := []) (joins := []) (un := []) _ (by
  intro e he
  simp only [List.mem_cons, List.not_mem_nil, or_false] at he
  rcases he with rfl
  ·exact yu) (fun s => by kernel_rfl) (by kernel_rfl)
noncomputable def yO (x0 : Int) (x1 : Int) (x2 : Int) (x3 : Int) (x4 : Int) (x5 : Int) (x6 : Int) : Option Ws :=
 some (((0 : Int)), (((0 : Int)), (((0 : Int)), (((0 : Int)), (x4, (x5, x6))))))
noncomputable def JO : TEnt := ⟨161, .agg Xr, [], [(.agg Xr, [])], fun s => yO s.1 s.2.1 s.2.2.1 s.2.2.2.1 s.2.2.2.2.1 s.2.2.2.2.2.1 s.2.2.2.2.2.2⟩
theorem Jw : qz Tryz.prog JO := qj (tab := []) (loops := []) (joins := []) (un := []) _ (by intro e he; simp at he) (fun s => by kernel_rfl) (by kernel_rfl)
noncomputable def YZ (x0 : Int) (x1 : Int) (x2 : Int) (x3 : Int) (x4 : Int) (x5 : Int) (x6 : Int) : Option Ws :=
 some (((0 : Int)), (((0 : Int)), (((0 : Int)), (((0 : Int)), (x4, (x5, x6))))))
noncomputable def uZ : TEnt := ⟨165, .agg Us, [], [(.agg Us, [])], fun s => YZ s.1 s.2.1 s.2.2.1 s.2.2.2.1 s.2.2.2.2.1 s.2.2.2.2.2.1 s.2.2.2.2.2.2⟩
theorem a0X : qz Tryz.prog uZ := qj (tab := []) (loops := []) (joins := []) (un := []) _ (by intro e he; simp at he) (fun s => by kernel_rfl) (by kernel_rfl)
end Go.Sim
set_option maxRecDepth 100000
set_option maxHeartbeats 4000000
set_option linter.unusedVariables false
namespace Go.Sim
def inR : List Int → Int → Bool
 | a :: b :: l, r => (decide (a ≤ r) && decide (r ≤ b)) || inR l r
 | _, _ => false
def YM : List Int := [768, 879, 8203, 8207, 8400, 8447, 65024, 65039, 65056, 65071]
def Zt : List Int := [4352, 4447, 11904, 12350, 12353, 42191, 44032, 55203, 63744, 64255, 65072, 65135, 65280, 65376, 65504, 65510, 127744, 128591, 129280, 129535, 131072, 262141]
def V0 (r : Int) : Bool := (decide (0 ≤ r) && decide (r < 55296)) || (decide (57343 < r) && decide (r ≤ 1114111))
def jD (r : Int) : Int := if r < 32 ∨ (127 ≤ r ∧ r ≤ 159) then -1 else if V0 r = true then (if inR YM r = true then 0 else if inR Zt r = true then 2 else 1) else -1
theorem aaV (r : Int) : wA r = some (V0 r) := by
 unfold wA V0
 by_cases h1 : 0 ≤ r <;> by_cases h2 : r < 55296 <;> by_cases h3 : 57343 < r <;> simp [h1, h2, h3]
theorem acT (r : Int) : Qf r = some (V0 r) := by
 unfold Qf V0
 by_cases h1 : 0 ≤ r <;> by_cases h2 : r < 55296 <;> by_cases h3 : 57343 < r <;> by_cases h4 : r ≤ 1114111 <;> simp [h1, h2, h3, h4] <;> omega
theorem a6k (a : Int) (b : List Int) (c : Int) : Z0 (a, b, c) = unr (jB a b c) Z0 := yd _ _
theorem afP (r : Int) (l : List Int) (hl : l.length ≤ 1000) (he : l.length % 2 = 0) : ∀ (k i : Nat), 2 * k = l.length - i → i ≤ l.length → Z0 (r, l, (i : Int)) = some (inR (l.drop i) r) := by
 intro k
 induction k with
 | zero =>
  intro i hk hi
  rw [a6k]
  unfold jB
  simp (disch := omega) only [qf, ql, q9, cond_true, cond_false, Int.toNat_natCast, zQ]
  rw [List.drop_eq_nil_of_le (by omega)]
  rfl
 | succ k ih =>
  intro i hk hi
  obtain ⟨a, ha⟩ := qn (l := l) (i := i) (by omega)
  obtain ⟨b, hb⟩ := qn (l := l) (i := i + 1) (by omega)
  rw [XM ha, XM hb, a6k]
  unfold jB
  have e1 : ((i : Int) + 1).toNat = i + 1 := by omega
  have e2 : ((i : Int) + 2) = ((i + 2 : Nat) : Int) := by omega
  by_cases h1 : a ≤ r
  ·by_cases h2 : r ≤ b
   ·simp (disch := omega) only [qf, q9, cond_true, Option.bind_some, Int.toNat_natCast, zQ, ha, hb, e1]
    simp [inR, h1, h2]
   ·simp (disch := omega) only [qf, ql, q9, cond_true, cond_false, Option.bind_some, Int.toNat_natCast, za, ha, hb, e1, e2]
    rw [ih (i + 2) (by omega) (by omega)]
    simp [inR, h1, h2]
  ·simp (disch := omega) only [qf, ql, q9, cond_true, cond_false, Option.bind_some, Int.toNat_natCast, za, ha, hb, e1, e2]
   rw [ih (i + 2) (by omega) (by omega)]
   simp [inR, h1]
theorem a87 (r : Int) (l : List Int) (hl : l.length ≤ 1000) (he : l.length % 2 = 0) : ZR r l = some (inR l r) := by
 unfold ZR
 have := afP r l hl he (l.length / 2) 0 (by omega) (by omega)
 rw [show ((0 : Nat) : Int) = 0 from rfl] at this
 rw [this]
 rfl
theorem a9s (r : Int) : wF r = some (jD r) := by
 unfold wF jD
 rw [a87 _ _ (by simp) (by simp), a87 _ _ (by simp) (by simp), a87 _ _ (by simp) (by simp), acT]
 by_cases h1 : r < 32
 ·simp [h1]
 ·by_cases h2 : 127 ≤ r ∧ r ≤ 159
  ·simp [h1, h2, inR]
  ·have h2' : inR [127, 159] r = false := by simp only [inR]; simp; omega
   cases h3 : V0 r
   ·simp [h1, h2, h2']
   ·rw [h2']
    cases h4 : inR YM r
    ·have h4' := h4
     unfold YM at h4'
     cases h5 : inR Zt r
     ·have h5' := h5
      unfold Zt at h5'
      rw [h4', h5']
      simp [h1, h2]
     ·have h5' := h5
      unfold Zt at h5'
      rw [h4', h5']
      simp [h1, h2]
    ·have h4' := h4
     unfold YM at h4'
     rw [h4']
     simp [h1, h2]
theorem Q1 (a b : Int) : qm (a, b) = unr (qt a b) qm := yd _ _
theorem VR (a b : Int) : qE (a, b) = unr (qU a b) qE := yd _ _
theorem aiv (r : Int) : qm (0, r) = if (decide ((4352 : Int) ≤ r) && decide (r ≤ 4447)) = true then some 2 else qm (1, r) := by
 rw [Q1]
 unfold qt
 by_cases h1 : (4352 : Int) ≤ r
 ·by_cases h2 : r ≤ 4447
  ·simp (disch := omega) only [qf, ql, q9, cond_true, cond_false, decide_true, zQ]
   simp []
  ·simp (disch := omega) only [qf, ql, q9, cond_true, cond_false, decide_true, za]
   simp []
 ·simp (disch := omega) only [qf, ql, q9, cond_true, cond_false, decide_true, za]
  simp []
theorem aii (r : Int) : qm (1, r) = if (decide ((11904 : Int) ≤ r) && decide (r ≤ 12350)) = true then some 2 else qm (2, r) := by
 rw [Q1]
 unfold qt
 by_cases h1 : (11904 : Int) ≤ r
 ·by_cases h2 : r ≤ 12350
  ·simp (disch := omega) only [qf, ql, q9, cond_true, cond_false, decide_true, zQ]
   simp []
  ·simp (disch := omega) only [qf, ql, q9, cond_true, cond_false, decide_true, za]
   simp []
 ·simp (disch := omega) only [qf, ql, q9, cond_true, cond_false, decide_true, za]
  simp []
theorem ai6 (r : Int) : qm (2, r) = if (decide ((12353 : Int) ≤ r) && decide (r ≤ 42191)) = true then some 2 else qm (3, r) := by
 rw [Q1]
 unfold qt
 by_cases h1 : (12353 : Int) ≤ r
 ·by_cases h2 : r ≤ 42191
  ·simp (disch := omega) only [qf, ql, q9, cond_true, cond_false, decide_true, zQ]
   simp []
  ·simp (disch := omega) only [qf, ql, q9, cond_true, cond_false, decide_true, za]
   simp []
 ·simp (disch := omega) only [qf, ql, q9, cond_true, cond_false, decide_true, za]
  simp []
theorem aim (r : Int) : qm (3, r) = if (decide ((44032 : Int) ≤ r) && decide (r ≤ 55203)) = true then some 2 else qm (4, r) := by
 rw [Q1]
 unfold qt
 by_cases h1 : (44032 : Int) ≤ r
 ·by_cases h2 : r ≤ 55203
  ·simp (disch := omega) only [qf, ql, q9, cond_true, cond_false, decide_true, zQ]
   simp []
  ·simp (disch := omega) only [qf, ql, q9, cond_true, cond_false, decide_true, za]
   simp []
 ·simp (disch := omega) only [qf, ql, q9, cond_true, cond_false, decide_true, za]
  simp []
theorem aib (r : Int) : qm (4, r) = if (decide ((63744 : Int) ≤ r) && decide (r ≤ 64255)) = true then some 2 else qm (5, r) := by
 rw [Q1]
 unfold qt
 by_cases h1 : (63744 : Int) ≤ r
 ·by_cases h2 : r ≤ 64255
  ·simp (disch := omega) only [qf, ql, q9, cond_true, cond_false, decide_true, zQ]
   simp []
  ·simp (disch := omega) only [qf, ql, q9, cond_true, cond_false, decide_true, za]
   simp []
 ·simp (disch := omega) only [qf, ql, q9, cond_true, cond_false, decide_true, za]
  simp []
theorem air (r : Int) : qm (5, r) = if (decide ((65072 : Int) ≤ r) && decide (r ≤ 65135)) = true then some 2 else qm (6, r) := by
 rw [Q1]
 unfold qt
 by_cases h1 : (65072 : Int) ≤ r
 ·by_cases h2 : r ≤ 65135
  ·simp (disch := omega) only [qf, ql, q9, cond_true, cond_false, decide_true, zQ]
   simp []
  ·simp (disch := omega) only [qf, ql, q9, cond_true, cond_false, decide_true, za]
   simp []
 ·simp (disch := omega) only [qf, ql, q9, cond_true, cond_false, decide_true, za]
  simp []
theorem aiq (r : Int) : qm (6, r) = if (decide ((65280 : Int) ≤ r) && decide (r ≤ 65376)) = true then some 2 else qm (7, r) := by
 rw [Q1]
 unfold qt
 by_cases h1 : (65280 : Int) ≤ r
 ·by_cases h2 : r ≤ 65376
  ·simp (disch := omega) only [qf, ql, q9, cond_true, cond_false, decide_true, zQ]
   simp []
  ·simp (disch := omega) only [qf, ql, q9, cond_true, cond_false, decide_true, za]
   simp []
 ·simp (disch := omega) only [qf, ql, q9, cond_true, cond_false, decide_true, za]
  simp []
theorem aio (r : Int) : qm (7, r) = if (decide ((65504 : Int) ≤ r) && decide (r ≤ 65510)) = true then some 2 else qm (8, r) := by
 rw [Q1]
 unfold qt
 by_cases h1 : (65504 : Int) ≤ r
 ·by_cases h2 : r ≤ 65510
  ·simp (disch := omega) only [qf, ql, q9, cond_true, cond_false, decide_true, zQ]
   simp []
  ·simp (disch := omega) only [qf, ql, q9, cond_true, cond_false, decide_true, za]
   simp []
 ·simp (disch := omega) only [qf, ql, q9, cond_true, cond_false, decide_true, za]
  simp []
theorem ahV (r : Int) : qm (8, r) = if (decide ((127744 : Int) ≤ r) && decide (r ≤ 128591)) = true then some 2 else qm (9, r) := by
 rw [Q1]
 unfold qt
 by_cases h1 : (127744 : Int) ≤ r
 ·by_cases h2 : r ≤ 128591
  ·simp (disch := omega) only [qf, ql, q9, cond_true, cond_false, decide_true, zQ]
   simp []
  ·simp (disch := omega) only [qf, ql, q9, cond_true, cond_false, decide_true, za]
   simp []
 ·simp (disch := omega) only [qf, ql, q9, cond_true, cond_false, decide_true, za]
  simp []
theorem aid (r : Int) : qm (9, r) = if (decide ((129280 : Int) ≤ r) && decide (r ≤ 129535)) = true then some 2 else qm (10, r) := by
 rw [Q1]
 unfold qt
 by_cases h1 : (129280 : Int) ≤ r
 ·by_cases h2 : r ≤ 129535
  ·simp (disch := omega) only [qf, ql, q9, cond_true, cond_false, decide_true, zQ]
   simp []
  ·simp (disch := omega) only [qf, ql, q9, cond_true, cond_false, decide_true, za]
   simp []
 ·simp (disch := omega) only [qf, ql, q9, cond_true, cond_false, decide_true, za]
  simp []
theorem aht (r : Int) : qm (10, r) = if (decide ((131072 : Int) ≤ r) && decide (r ≤ 262141)) = true then some 2 else qm (11, r) := by
 rw [Q1]
 unfold qt
 by_cases h1 : (131072 : Int) ≤ r
 ·by_cases h2 : r ≤ 262141
  ·simp (disch := omega) only [qf, ql, q9, cond_true, cond_false, decide_true, zQ]
   simp []
  ·simp (disch := omega) only [qf, ql, q9, cond_true, cond_false, decide_true, za]
   simp []
 ·simp (disch := omega) only [qf, ql, q9, cond_true, cond_false, decide_true, za]
  simp []
theorem ai5 (r : Int) : qE (0, r) = if (decide ((768 : Int) ≤ r) && decide (r ≤ 879)) = true then some 0 else qE (1, r) := by
 rw [VR]
 unfold qU
 by_cases h1 : (768 : Int) ≤ r
 ·by_cases h2 : r ≤ 879
  ·simp (disch := omega) only [qf, ql, q9, cond_true, cond_false, decide_true, zQ]
   simp []
  ·simp (disch := omega) only [qf, ql, q9, cond_true, cond_false, decide_true, za]
   simp []
 ·simp (disch := omega) only [qf, ql, q9, cond_true, cond_false, decide_true, za]
  simp []
theorem aic (r : Int) : qE (1, r) = if (decide ((8203 : Int) ≤ r) && decide (r ≤ 8207)) = true then some 0 else qE (2, r) := by
 rw [VR]
 unfold qU
 by_cases h1 : (8203 : Int) ≤ r
 ·by_cases h2 : r ≤ 8207
  ·simp (disch := omega) only [qf, ql, q9, cond_true, cond_false, decide_true, zQ]
   simp []
  ·simp (disch := omega) only [qf, ql, q9, cond_true, cond_false, decide_true, za]
   simp []
 ·simp (disch := omega) only [qf, ql, q9, cond_true, cond_false, decide_true, za]
  simp []
theorem aiB (r : Int) : qE (2, r) = if (decide ((8400 : Int) ≤ r) && decide (r ≤ 8447)) = true then some 0 else qE (3, r) := by
 rw [VR]
 unfold qU
 by_cases h1 : (8400 : Int) ≤ r
 ·by_cases h2 : r ≤ 8447
  ·simp (disch := omega) only [qf, ql, q9, cond_true, cond_false, decide_true, zQ]
   simp []
  ·simp (disch := omega) only [qf, ql, q9, cond_true, cond_false, decide_true, za]
   simp []
 ·simp (disch := omega) only [qf, ql, q9, cond_true, cond_false, decide_true, za]
  simp []
theorem ail (r : Int) : qE (3, r) = if (decide ((65024 : Int) ≤ r) && decide (r ≤ 65039)) = true then some 0 else qE (4, r) := by
 rw [VR]
 unfold qU
 by_cases h1 : (65024 : Int) ≤ r
 ·by_cases h2 : r ≤ 65039
  ·simp (disch := omega) only [qf, ql, q9, cond_true, cond_false, decide_true, zQ]
   simp []
  ·simp (disch := omega) only [qf, ql, q9, cond_true, cond_false, decide_true, za]
   simp []
 ·simp (disch := omega) only [qf, ql, q9, cond_true, cond_false, decide_true, za]
  simp []
theorem ahZ (r : Int) : qE (4, r) = if (decide ((65056 : Int) ≤ r) && decide (r ≤ 65071)) = true then some 0 else qE (5, r) := by
 rw [VR]
 unfold qU
 by_cases h1 : (65056 : Int) ≤ r
 ·by_cases h2 : r ≤ 65071
  ·simp (disch := omega) only [qf, ql, q9, cond_true, cond_false, decide_true, zQ]
   simp []
  ·simp (disch := omega) only [qf, ql, q9, cond_true, cond_false, decide_true, za]
   simp []
 ·simp (disch := omega) only [qf, ql, q9, cond_true, cond_false, decide_true, za]
  simp []
theorem agj (r : Int) : qm (11, r) = some 1 := by
 rw [Q1]
 unfold qt
 simp (disch := omega) only [ql, q9, cond_false, zQ]
theorem agu (r : Int) : qm (0, r) = some (if inR Zt r = true then 2 else 1) := by
 unfold Zt
 rw [aiv, aii, ai6, aim, aib, air, aiq, aio, ahV, aid, aht, agj]
 simp only [inR, Bool.or_false]
 repeat' split
 all_goals first | (simp_all; done) | (exfalso; simp only [Bool.or_eq_true, Bool.and_eq_true, decide_eq_true_eq] at *; omega)
theorem afH (r : Int) : qE (5, r) = some (if inR Zt r = true then 2 else 1) := by
 rw [VR]
 unfold qU
 simp (disch := omega) only [ql, q9, cond_false, Option.bind_some, zQ, agu]
theorem agh (r : Int) : qE (0, r) = some (if inR YM r = true then 0 else if inR Zt r = true then 2 else 1) := by
 unfold YM
 rw [ai5, aic, aiB, ail, ahZ, afH]
 generalize (if inR Zt r = true then (2 : Int) else 1) = q
 simp only [inR, Bool.or_false]
 repeat' split
 all_goals first | (simp_all; done) | (exfalso; simp only [Bool.or_eq_true, Bool.and_eq_true, decide_eq_true_eq] at *; omega)
theorem va (r : Int) : w6 r = some (jD r) := by
 unfold w6 jD
 rw [aaV, agh]
 by_cases h1 : r < 32
 ·simp [h1]
 ·by_cases h2 : 127 ≤ r
  ·by_cases h3 : r ≤ 159
   ·simp [h1, h2, h3]
   ·cases h4 : V0 r <;> simp [h1, h2, h3]
  ·cases h4 : V0 r <;> simp [h1, h2]
theorem a1c (r : Int) : jF r = some (jD r == 0) := by unfold jF; rw [va]; rfl
theorem a7p (r : Int) : yz r = some (jD r == 1) := by unfold yz; rw [va]; rfl
theorem VN (r : Int) : jD r = -1 ∨ jD r = 0 ∨ jD r = 1 ∨ jD r = 2 := by
 unfold jD
 repeat' split
 all_goals simp
end Go.Sim
set_option maxRecDepth 100000
set_option maxHeartbeats 0
set_option linter.unusedVariables false
namespace Go.Sim
open Go.Proofs
noncomputable def zT (x0 : Int) : Option Bool :=
 some (x0 == (0 : Int))
noncomputable def JM : TEnt := ⟨167, .int .i32, [], [(.bool, [])], fun s => zT s⟩
theorem Vi : qz Tryz.prog JM := qj (tab := []) (loops := []) (joins := []) (un := []) _ (by intro e he; simp at he) (fun s => by kernel_rfl) (by kernel_rfl)
noncomputable def jv (x0 : Int) : Option Bool :=
 Option.bind (jF x0) fun x1 =>
  some !x1
noncomputable def JH : TEnt := ⟨171, .int .i32, [], [(.bool, [])], fun s => jv s⟩
theorem Vg : qz Tryz.prog JH := qj (tab := [Kn]) (loops := []) (joins := []) (un := []) _ (by
  intro e he
  simp only [List.mem_cons, List.not_mem_nil, or_false] at he
  rcases he with rfl
  ·exact J7) (fun s => by kernel_rfl) (by kernel_rfl)
noncomputable def yI (x0 : Int) (x1 : Int) (x2 : Int) (x3 : Int) (x4 : Int) (x5 : Int) (x6 : Int) : Option Bool :=
 Option.bind (
  Option.bind (wu x4 x5 x6) fun x7 =>
   bif !x7 then
    some (Sum.inl (Bool.true, (x0, (x1, (x2, (x3, (x4, (x5, x6))))))))
   else some (Sum.inl ((decide ((2 : Int) < x3)), (x0, (x1, (x2, (x3, (x4, (x5, x6))))))))) fun (x7 : ((Bool × Ws) ⊕ Bool)) =>
  match x7 with
  | Sum.inl x8 =>
    bif x8.1 then
     some Bool.false
    else bif x8.2.2.2.2.1 == (0 : Int) then
      bif x8.2.1 == (0 : Int) then
       bif x8.2.2.1 == (0 : Int) then
        some (x8.2.2.2.1 == (0 : Int))
       else some Bool.false
      else some Bool.false
     else Option.bind (wF x8.2.1) fun x9 =>
       bif x9 != Go.IntKind.i64.wrap x8.2.2.2.2.1 then
        some Bool.false
       else bif x8.2.2.1 == (0 : Int) then
         bif x8.2.2.2.1 == (0 : Int) then
          some Bool.true
         else Option.bind (wF x8.2.2.1) fun x10 =>
           bif x10 == (0 : Int) then
            bif x8.2.2.1 != (0 : Int) then
             bif x8.2.2.2.1 == (0 : Int) then
              some Bool.true
             else Option.bind (wF x8.2.2.2.1) fun x11 =>
               some (x11 == (0 : Int))
            else some Bool.false
           else some Bool.false
        else Option.bind (wF x8.2.2.1) fun x10 =>
          bif x10 == (0 : Int) then
           bif x8.2.2.1 != (0 : Int) then
            bif x8.2.2.2.1 == (0 : Int) then
             some Bool.true
            else Option.bind (wF x8.2.2.2.1) fun x11 =>
              some (x11 == (0 : Int))
           else some Bool.false
          else some Bool.false
  | Sum.inr x8 =>
    some x8
noncomputable def Jr : TEnt := ⟨164, .agg Us, [], [(.bool, [])], fun s => yI s.1 s.2.1 s.2.2.1 s.2.2.2.1 s.2.2.2.2.1 s.2.2.2.2.2.1 s.2.2.2.2.2.2⟩
theorem We : qz Tryz.prog Jr := qj (tab := [ua, Z9]) (loops := []) (joins := [(9, [1, 13], (.cons (.ptr 0 0) .bool), [.st Us])]) (un := []) _ (by
  intro e he
  simp only [List.mem_cons, List.not_mem_nil, or_false] at he
  rcases he with rfl | rfl
  ·exact Xc
  ·exact QH) (fun s => by kernel_rfl) (by kernel_rfl)
noncomputable def kV (x0 : Ws) (x1 : Int) : Option (Ws × Bool) :=
 Option.bind (wF x1) fun x2 =>
  bif x2 != (0 : Int) then
   some ((x0.1, (x0.2.1, (x0.2.2.1, (x0.2.2.2.1, (x0.2.2.2.2.1, (x0.2.2.2.2.2.1, x0.2.2.2.2.2.2)))))), Bool.false)
  else bif x0.2.2.2.1 != (1 : Int) then
    bif x0.2.2.2.1 != (2 : Int) then
     some ((x0.1, (x0.2.1, (x0.2.2.1, (x0.2.2.2.1, (x0.2.2.2.2.1, (x0.2.2.2.2.2.1, x0.2.2.2.2.2.2)))))), Bool.false)
    else bif x0.2.1 == (0 : Int) then
      some ((x0.1, (x1, (x0.2.2.1, (x0.2.2.2.1, (x0.2.2.2.2.1, (x0.2.2.2.2.2.1, x0.2.2.2.2.2.2)))))), Bool.true)
     else bif x0.2.2.1 == (0 : Int) then
       some ((x0.1, (x0.2.1, (x1, (x0.2.2.2.1, (x0.2.2.2.2.1, (x0.2.2.2.2.2.1, x0.2.2.2.2.2.2)))))), Bool.true)
      else some ((x0.1, (x0.2.1, (x0.2.2.1, (x0.2.2.2.1, (x0.2.2.2.2.1, (x0.2.2.2.2.2.1, x0.2.2.2.2.2.2)))))), Bool.false)
   else bif x0.2.1 == (0 : Int) then
     some ((x0.1, (x1, (x0.2.2.1, (x0.2.2.2.1, (x0.2.2.2.2.1, (x0.2.2.2.2.2.1, x0.2.2.2.2.2.2)))))), Bool.true)
    else bif x0.2.2.1 == (0 : Int) then
      some ((x0.1, (x0.2.1, (x1, (x0.2.2.2.1, (x0.2.2.2.2.1, (x0.2.2.2.2.2.1, x0.2.2.2.2.2.2)))))), Bool.true)
     else some ((x0.1, (x0.2.1, (x0.2.2.1, (x0.2.2.2.1, (x0.2.2.2.2.1, (x0.2.2.2.2.2.1, x0.2.2.2.2.2.2)))))), Bool.false)
noncomputable def UM : TEnt := ⟨189, .cons (.agg Us) (.int .i64), [], [(.tup (.cons (.agg Us) .bool), [])], fun s => kV s.1 s.2⟩
theorem a0B : qz Tryz.prog UM := qj (tab := [ua]) (loops := []) (joins := []) (un := []) _ (by
  intro e he
  simp only [List.mem_cons, List.not_mem_nil, or_false] at he
  rcases he with rfl
  ·exact Xc) (fun s => by kernel_rfl) (by kernel_rfl)
noncomputable def wH (x0 : Int) (x1 : Int) (x2 : Int) (x3 : Int) (x4 : Int) (x5 : Int) (x6 : Int) : Option Bool :=
 Option.bind (wi x4 x5 x6) fun x7 =>
  bif !x7 then
   some Bool.false
  else bif x3 == (0 : Int) then
    Option.bind (yO x0 x1 x2 x3 x4 x5 x6) fun x8 =>
     some (x0 == x8.1 && (x1 == x8.2.1 && (x2 == x8.2.2.1 && Bool.true) && (x3 == x8.2.2.2.1 && (x4 == x8.2.2.2.2.1 && (x5 == x8.2.2.2.2.2.1 && (x6 == x8.2.2.2.2.2.2 && Bool.true)) && Bool.true))))
   else bif decide ((2 : Int) < x3) then
     some Bool.false
    else Option.bind (w6 x0) fun x8 =>
      bif x8 != Go.IntKind.i64.wrap x3 then
       some Bool.false
      else Option.bind (zT x1) fun x9 =>
        bif x9 then
         Option.bind (zT x1) fun x10 =>
          bif !x10 then
           some Bool.false
          else Option.bind (zT x2) fun x11 =>
            bif !x11 then
             some Bool.false
            else some Bool.true
        else Option.bind (zT x2) fun x10 =>
          bif x10 then
           Option.bind (jv x1) fun x11 =>
            bif x11 then
             some Bool.false
            else Option.bind (zT x2) fun x12 =>
              bif !x12 then
               some Bool.false
              else some Bool.true
          else Option.bind (jv x1) fun x11 =>
            bif x11 then
             some Bool.false
            else Option.bind (jv x2) fun x12 =>
              bif x12 then
               some Bool.false
              else some Bool.true
noncomputable def KB : TEnt := ⟨114, .agg Xr, [], [(.bool, [])], fun s => wH s.1 s.2.1 s.2.2.1 s.2.2.2.1 s.2.2.2.2.1 s.2.2.2.2.2.1 s.2.2.2.2.2.2⟩
theorem Ja : qz Tryz.prog KB := qj (tab := [QE, QX, JO, JM, JH]) (loops := []) (joins := []) (un := []) _ (by
  intro e he
  simp only [List.mem_cons, List.not_mem_nil, or_false] at he
  rcases he with rfl | rfl | rfl | rfl | rfl
  ·exact yu
  ·exact QM
  ·exact Jw
  ·exact Vi
  ·exact Vg) (fun s => by kernel_rfl) (by kernel_rfl)
noncomputable def kr (x0 : Ws) (x1 : Int) : Option (Ws × Bool) :=
 bif (0 : Int) == x0.2.1 then
  Option.bind (jF x1) fun x2 =>
   bif !x2 then
    some ((x0.1, (x0.2.1, (x0.2.2.1, (x0.2.2.2.1, (x0.2.2.2.2.1, (x0.2.2.2.2.2.1, x0.2.2.2.2.2.2)))))), Bool.false)
   else bif x0.2.2.2.1 != (1 : Int) then
     bif x0.2.2.2.1 != (2 : Int) then
      some ((x0.1, (x0.2.1, (x0.2.2.1, (x0.2.2.2.1, (x0.2.2.2.2.1, (x0.2.2.2.2.2.1, x0.2.2.2.2.2.2)))))), Bool.false)
     else some ((x0.1, (x1, (x0.2.2.1, (x0.2.2.2.1, (x0.2.2.2.2.1, (x0.2.2.2.2.2.1, x0.2.2.2.2.2.2)))))), Bool.true)
    else some ((x0.1, (x1, (x0.2.2.1, (x0.2.2.2.1, (x0.2.2.2.2.1, (x0.2.2.2.2.2.1, x0.2.2.2.2.2.2)))))), Bool.true)
 else bif (0 : Int) == x0.2.2.1 then
   Option.bind (jF x1) fun x2 =>
    bif !x2 then
     some ((x0.1, (x0.2.1, (x0.2.2.1, (x0.2.2.2.1, (x0.2.2.2.2.1, (x0.2.2.2.2.2.1, x0.2.2.2.2.2.2)))))), Bool.false)
    else bif x0.2.2.2.1 != (1 : Int) then
      bif x0.2.2.2.1 != (2 : Int) then
       some ((x0.1, (x0.2.1, (x0.2.2.1, (x0.2.2.2.1, (x0.2.2.2.2.1, (x0.2.2.2.2.2.1, x0.2.2.2.2.2.2)))))), Bool.false)
      else some ((x0.1, (x0.2.1, (x1, (x0.2.2.2.1, (x0.2.2.2.2.1, (x0.2.2.2.2.2.1, x0.2.2.2.2.2.2)))))), Bool.true)
     else some ((x0.1, (x0.2.1, (x1, (x0.2.2.2.1, (x0.2.2.2.2.1, (x0.2.2.2.2.2.1, x0.2.2.2.2.2.2)))))), Bool.true)
  else some ((x0.1, (x0.2.1, (x0.2.2.1, (x0.2.2.2.1, (x0.2.2.2.2.1, (x0.2.2.2.2.2.1, x0.2.2.2.2.2.2)))))), Bool.false)
noncomputable def xy : TEnt := ⟨190, .cons (.agg Xr) (.int .i32), [], [(.tup (.cons (.agg Xr) .bool), [])], fun s => kr s.1 s.2⟩
theorem XR : qz Tryz.prog xy := qj (tab := [Kn]) (loops := []) (joins := []) (un := []) _ (by
  intro e he
  simp only [List.mem_cons, List.not_mem_nil, or_false] at he
  rcases he with rfl
  ·exact J7) (fun s => by kernel_rfl) (by kernel_rfl)
end Go.Sim
set_option maxRecDepth 100000
set_option maxHeartbeats 4000000
set_option linter.unusedVariables false
namespace Go.Sim
abbrev qc : Type := Int × ((Int × Int) × (Int × Y4_))
def kx (n : Int) : Prop := -2147483648 ≤ n ∧ n < 2147483648
def u8r (n : Int) : Prop := 0 ≤ n ∧ n < 256
structure OkC (c : qc) : Prop where
 r : kx c.1
 m1 : kx c.2.1.1
 m2 : kx c.2.1.2
 w : u8r c.2.2.1
 p1 : u8r c.2.2.2.1
 p2 : u8r c.2.2.2.2.1
 p3 : u8r c.2.2.2.2.2
def Qv (a b c : Int) : Bool := decide (a < 32) && (decide (b < 17) && decide (c < 17))
theorem U6 (a b c : Int) : wi a b c = some (Qv a b c) := by
 unfold wi Qv
 by_cases h1 : a < 32 <;> by_cases h2 : b < 17 <;> by_cases h3 : c < 17 <;> simp [h1, h2, h3]
theorem a2K (a b c : Int) : wu a b c = some (Qv a b c) := by
 unfold wu Qv
 have e1 : decide (a ≤ 31) = decide (a < 32) := decide_eq_decide.2 (by omega)
 have e2 : decide (b ≤ 16) = decide (b < 17) := decide_eq_decide.2 (by omega)
 have e3 : decide (c ≤ 16) = decide (c < 17) := decide_eq_decide.2 (by omega)
 rw [e1, e2, e3]
 by_cases h1 : a < 32 <;> by_cases h2 : b < 17 <;> by_cases h3 : c < 17 <;> simp [h1, h2, h3]
def zi (c : qc) : Bool := Qv c.2.2.2.1 c.2.2.2.2.1 c.2.2.2.2.2 && (if c.2.2.1 = 0 then (c.1 == 0 && (c.2.1.1 == 0 && c.2.1.2 == 0)) else decide (c.2.2.1 ≤ 2) && (jD c.1 == c.2.2.1 && (if c.2.1.1 = 0 then c.2.1.2 == 0 else jD c.2.1.1 == 0 && (c.2.1.2 == 0 || jD c.2.1.2 == 0))))
theorem UL {c : qc} (h : OkC c) : wH c.1 c.2.1.1 c.2.1.2 c.2.2.1 c.2.2.2.1 c.2.2.2.2.1 c.2.2.2.2.2 = some (zi c) := by
 obtain ⟨r, ⟨m1, m2⟩, w, p1, p2, p3⟩ := c
 have hw := h.w
 simp only [u8r] at hw
 unfold wH zi
 simp only [U6, va, yO, zT, jv, a1c, Option.bind_some, bne, Zn, q9 (n := w) (by omega) (by omega)]
 cases hp : Qv p1 p2 p3
 ·simp
 ·by_cases h0 : w = 0
  ·subst h0; simp []
  ·by_cases h2 : w ≤ 2
   ·have h2' : ¬ 2 < w := by omega
    by_cases h3 : jD r = w
    ·by_cases h4 : m1 = 0
     ·by_cases h5 : m2 = 0 <;> simp [h0, h2, h2', h3, h4, h5]
     ·by_cases h5 : m2 = 0
      ·by_cases h6 : jD m1 = 0 <;> simp [h0, h2, h2', h3, h4, h5, h6]
      ·by_cases h6 : jD m1 = 0 <;> by_cases h7 : jD m2 = 0 <;> simp [h0, h2, h2', h3, h4, h5, h6, h7]
    ·simp [h0, h2, h2', h3]
   ·have h2' : 2 < w := by omega
    simp [h0, h2, h2']
theorem agN : jD 0 = -1 := by simp [jD]
theorem a1X {c : qc} (h : OkC c) : yI c.1 c.2.1.1 c.2.1.2 c.2.2.1 c.2.2.2.1 c.2.2.2.2.1 c.2.2.2.2.2 = some (zi c) := by
 obtain ⟨r, ⟨m1, m2⟩, w, p1, p2, p3⟩ := c
 have hw := h.w
 simp only [u8r] at hw
 have ww : IntKind.i64.wrap w = w := q9 (by omega) (by omega)
 unfold yI zi
 simp only [a2K, a9s, Option.bind_some, bne, Zn]
 cases hp : Qv p1 p2 p3
 ·simp
 ·by_cases h2 : w ≤ 2
  ·have h2' : ¬ 2 < w := by omega
   by_cases h0 : w = 0
   ·subst h0
    by_cases h4 : r = 0 <;> by_cases h5 : m1 = 0 <;> simp [h4, h5]
   ·by_cases h3 : jD r = w
    ·by_cases h4 : m1 = 0
     ·by_cases h5 : m2 = 0 <;> simp [ww, h0, h2, h2', h3, h4, h5, agN]
     ·by_cases h5 : m2 = 0
      ·by_cases h6 : jD m1 = 0 <;> simp [ww, h0, h2, h2', h3, h4, h5, h6]
      ·by_cases h6 : jD m1 = 0 <;> by_cases h7 : jD m2 = 0 <;> simp [ww, h0, h2, h2', h3, h4, h5, h6, h7]
    ·simp [ww, h0, h2, h2', h3]
  ·have h2' : 2 < w := by omega
   have h0 : w ≠ 0 := by omega
   simp [h0, h2, h2']
def ofC (r p1 p2 p3 : Int) : qc × Bool := if jD r < 1 then ((0, (0, 0), 0, 0, 0, 0), false) else ((r, (0, 0), jD r, p1, p2, p3), true)
def jk (c : qc) : Int × (Int × (Int × (Int × Y4_))) := (c.1, c.2.1.1, c.2.1.2, c.2.2.1, c.2.2.2.1, c.2.2.2.2.1, c.2.2.2.2.2)
theorem afj (r p1 p2 p3 : Int) : K0 r p1 p2 p3 = some (jk (ofC r p1 p2 p3).1, (ofC r p1 p2 p3).2) := by
 unfold K0 ofC
 rw [va]
 rcases VN r with h | h | h | h
 ·simp [h, jk]
 ·simp [h, jk]
 ·have : IntKind.u8.wrap 1 = 1 := agO (by omega) (by omega)
  simp [h, jk, this]
 ·have : IntKind.u8.wrap 2 = 2 := agO (by omega) (by omega)
  simp [h, jk, this]
def j5 (c : qc) (m : Int) : qc × Bool :=
 if jD m = 0 ∧ (c.2.2.1 = 1 ∨ c.2.2.1 = 2) then
  (if c.2.1.1 = 0 then ((c.1, (m, c.2.1.2), c.2.2), true) else if c.2.1.2 = 0 then ((c.1, (c.2.1.1, m), c.2.2), true) else (c, false))
 else (c, false)
theorem a5A (c : qc) (m : Int) : kV (jk c) m = some (jk (j5 c m).1, (j5 c m).2) := by
 obtain ⟨r, ⟨m1, m2⟩, w, p1, p2, p3⟩ := c
 unfold kV j5 jk
 simp only [a9s, Option.bind_some, bne, Zn]
 by_cases h1 : jD m = 0
 ·by_cases h2 : w = 1
  ·by_cases h3 : m1 = 0 <;> by_cases h4 : m2 = 0 <;> simp [h1, h2, h3, h4]
  ·by_cases h2b : w = 2
   ·by_cases h3 : m1 = 0 <;> by_cases h4 : m2 = 0 <;> simp [h1, h2b, h3, h4]
   ·simp [h1, h2, h2b]
 ·simp [h1]
theorem UJ (c : qc) (m : Int) : kr (jk c) m = some (jk (j5 c m).1, (j5 c m).2) := by
 obtain ⟨r, ⟨m1, m2⟩, w, p1, p2, p3⟩ := c
 unfold kr j5 jk
 simp only [a1c, Option.bind_some, bne, Zn, eq_comm (a := (0 : Int))]
 by_cases h1 : jD m = 0
 ·by_cases h2 : w = 1
  ·by_cases h3 : m1 = 0 <;> by_cases h4 : m2 = 0 <;> simp [h1, h2, h3, h4]
  ·by_cases h2b : w = 2
   ·by_cases h3 : m1 = 0 <;> by_cases h4 : m2 = 0 <;> simp [h1, h2b, h3, h4]
   ·by_cases h3 : m1 = 0 <;> by_cases h4 : m2 = 0 <;> simp [h1, h2, h2b, h3, h4]
 ·by_cases h3 : m1 = 0 <;> by_cases h4 : m2 = 0 <;> simp [h1, h3, h4]
end Go.Sim
set_option maxRecDepth 100000
set_option maxHeartbeats 0
set_option linter.unusedVariables false
namespace Go.Sim
open Go.Proofs
noncomputable def qL (x0 : Y0_) : Option Y0_ :=
 bif decide (x0.length = (0 : Nat)) then
  Go.Sim.bothM (
   some []) (
   bif decide ((0 : Nat) = (0 : Nat) ∧ (0 : Nat) + x0.length ≤ (8796093022208 : Nat)) then
    bif decide ((0 : Nat) + x0.length = ([] ++ x0).length) then
     some ([] ++ x0)
    else none
   else none)
 else bif decide ((0 : Nat) = (0 : Nat) ∧ (0 : Nat) + x0.length ≤ (8796093022208 : Nat)) then
   bif decide ((0 : Nat) + x0.length = ([] ++ x0).length) then
    some ([] ++ x0)
   else none
  else none
noncomputable def j9 : TEnt := ⟨98, .sl Y1_, [], [(.own 0, [.li Y1_ 37 false])], fun s => qL s⟩
theorem kM : qz Tryz.prog j9 := qj (tab := []) (loops := []) (joins := []) (un := []) _ (by intro e he; simp at he) (fun s => by kernel_rfl) (by kernel_rfl)
noncomputable def jP (x0 : Int) : Option Int :=
 some (if (512 : Int) < if (0 : Int) > x0 then (0 : Int) else x0 then (512 : Int) else if (0 : Int) > x0 then (0 : Int) else x0)
noncomputable def Zq : TEnt := ⟨146, .int .i64, [], [(.int .i64, [])], fun s => jP s⟩
theorem ZQ : qz Tryz.prog Zq := qj (tab := []) (loops := []) (joins := []) (un := []) _ (by intro e he; simp at he) (fun s => by kernel_rfl) (by kernel_rfl)
noncomputable def wM (x0 : Int) : Option Int :=
 bif decide (x0 < (0 : Int)) then
  some ((0 : Int))
 else bif decide ((512 : Int) < x0) then
   some ((512 : Int))
  else some x0
noncomputable def Kh : TEnt := ⟨147, .int .i64, [], [(.int .i64, [])], fun s => wM s⟩
theorem Jh : qz Tryz.prog Kh := qj (tab := []) (loops := []) (joins := []) (un := []) _ (by intro e he; simp at he) (fun s => by kernel_rfl) (by kernel_rfl)
noncomputable def zq (x4 : (Int × Int)) (x5 : Y4_) (x6 : Y0_) : Option (((Int × Int) × (Y4_ × Y0_)) ⊕ Y0_) :=
 bif decide (x4.2 < x4.1) then
  Option.bind (wS x5.1 x5.2.1 x5.2.2) fun x7 =>
   bif decide ((1 : Nat) = (1 : Nat)) then
    bif decide (x6.length = x6.length ∧ x6.length + (1 : Nat) ≤ (8796093022208 : Nat)) then
     bif decide (x6.length + (1 : Nat) = (x6 ++ [(x7.1, (x7.2.1, x7.2.2.1), x7.2.2.2.1, x7.2.2.2.2.1, x7.2.2.2.2.2.1, x7.2.2.2.2.2.2)]).length) then
      some (Sum.inl ((x4.1, (Go.IntKind.i64.wrap (x4.2 + (1 : Int)))), ((x5.1, (x5.2.1, x5.2.2)), (x6 ++ [(x7.1, (x7.2.1, x7.2.2.1), x7.2.2.2.1, x7.2.2.2.2.1, x7.2.2.2.2.2.1, x7.2.2.2.2.2.2)]))))
     else none
    else none
   else none
 else bif decide (x6.length = x6.length) then
   some (Sum.inr x6)
  else none
noncomputable def ZU : ((Int × Int) × (Y4_ × Y0_)) → Option Y0_ := z3 fun s => zq s.1 s.2.1 s.2.2
noncomputable def j8 (x0 : Int) (x1 : Int) (x2 : Int) (x3 : Int) : Option Y0_ :=
 Option.bind (ZU ((x0, ((0 : Int))), ((x1, (x2, x3)), []))) fun x4 =>
  some x4
noncomputable def yB : TEnt := ⟨145, .cons (.int .i64) (.agg Y6_), [], [(.sl Y1_, [])], fun s => j8 s.1 s.2.1 s.2.2.1 s.2.2.2⟩
theorem yg : qz Tryz.prog yB := qj (tab := [Ko]) (loops := [(4682, [3, 5, 6, 7], (.cons (.ptr 0 0) (.cons (.own 1) Y7_)), [.st Y6_, .li Y1_ 37 false])]) (joins := []) (un := []) _ (by
  intro e he
  simp only [List.mem_cons, List.not_mem_nil, or_false] at he
  rcases he with rfl
  ·exact Jg) (fun s => by kernel_rfl) (by kernel_rfl)
noncomputable def QK (x0 : Int) : Option Y0_ :=
 Option.bind (jP x0) fun x1 =>
  Option.bind (j8 x1 (0 : Int) (0 : Int) (0 : Int)) fun x2 =>
   some x2
noncomputable def v4 : TEnt := ⟨85, .int .i64, [], [(.sl Y1_, [])], fun s => QK s⟩
theorem Ys : qz Tryz.prog v4 := qj (tab := [Zq, yB]) (loops := []) (joins := []) (un := []) _ (by
  intro e he
  simp only [List.mem_cons, List.not_mem_nil, or_false] at he
  rcases he with rfl | rfl
  ·exact ZQ
  ·exact yg) (fun s => by kernel_rfl) (by kernel_rfl)
noncomputable def ku (x1 : (Int × Int)) (x2 : Y0_) : Option (((Int × Int) × Y0_) ⊕ Y0_) :=
 Option.bind (wM x1.1) fun x3 =>
  bif decide (x1.2 < x3) then
   Option.bind (zO (0 : Int) (0 : Int) (0 : Int)) fun x4 =>
    bif decide ((1 : Nat) = (1 : Nat)) then
     bif decide (x2.length = x2.length ∧ x2.length + (1 : Nat) ≤ (4398046511104 : Nat)) then
      bif decide (x2.length + (1 : Nat) = (x2 ++ [(x4.1, (x4.2.1, x4.2.2.1), x4.2.2.2.1, x4.2.2.2.2.1, x4.2.2.2.2.2.1, x4.2.2.2.2.2.2)]).length) then
       some (Sum.inl ((x1.1, (Go.IntKind.i64.wrap (x1.2 + (1 : Int)))), (x2 ++ [(x4.1, (x4.2.1, x4.2.2.1), x4.2.2.2.1, x4.2.2.2.2.1, x4.2.2.2.2.2.1, x4.2.2.2.2.2.2)])))
      else none
     else none
    else none
  else bif decide (x2.length = x2.length) then
    some (Sum.inr x2)
   else none
noncomputable def Va : ((Int × Int) × Y0_) → Option Y0_ := z3 fun s => ku s.1 s.2
noncomputable def ym (x0 : Int) : Option Y0_ :=
 Option.bind (Va ((x0, ((0 : Int))), [])) fun x1 =>
  some x1
noncomputable def WE : TEnt := ⟨86, .int .i64, [], [(.sl Y2_, [])], fun s => ym s⟩
theorem Kd : qz Tryz.prog WE := qj (tab := [yG, Kh]) (loops := [(4682, [0, 3, 4], (.cons (.int .i64) (.cons (.own 0) (.int .i64))), [.li Y2_ 47 false])]) (joins := []) (un := []) _ (by
  intro e he
  simp only [List.mem_cons, List.not_mem_nil, or_false] at he
  rcases he with rfl | rfl
  ·exact wR
  ·exact Jh) (fun s => by kernel_rfl) (by kernel_rfl)
noncomputable def a08 (x0 : Int) (x1 : Int) : Option Bool :=
 bif decide ((0 : Int) ≤ x0) then
  none
 else some Bool.false
noncomputable def JJ : TEnt := ⟨173, .cons (.int .i64) (.int .u8), [], [(.bool, [])], fun s => a08 s.1 s.2⟩
theorem V5 : qz Tryz.prog JJ := qj (tab := []) (loops := []) (joins := []) (un := []) _ (by intro e he; simp at he) (fun s => by kernel_rfl) (by kernel_rfl)
noncomputable def wV (x0 : Y0_) (x1 : Int) : Option Bool :=
 bif decide ((0 : Int) ≤ x1) then
  bif decide (x1 < (↑(List.length x0) : Int)) then
   bif decide ((0 : Int) ≤ x1) then
    Option.bind (x0[x1.toNat]?) fun x2 =>
     bif x2.2.2.1 == (2 : Int) then
      bif decide ((0 : Int) ≤ Go.IntKind.i64.wrap (x1 + (1 : Int))) then
       bif decide (Go.IntKind.i64.wrap (x1 + (1 : Int)) < (↑(List.length x0) : Int)) then
        bif decide ((0 : Int) ≤ Go.IntKind.i64.wrap (x1 + (1 : Int))) then
         Option.bind (x0[(Go.IntKind.i64.wrap (x1 + (1 : Int))).toNat]?) fun x3 =>
          bif !x3.2.2.1 == (0 : Int) then
           some Bool.true
          else bif decide ((0 : Int) ≤ x1) then
            bif decide (x1 < (↑(List.length x0) : Int)) then
             bif decide ((0 : Int) ≤ x1) then
              Option.bind (x0[x1.toNat]?) fun x4 =>
               bif x4.2.2.1 == (0 : Int) then
                bif decide ((0 : Int) ≤ Go.IntKind.i64.wrap (x1 - (1 : Int))) then
                 bif decide (Go.IntKind.i64.wrap (x1 - (1 : Int)) < (↑(List.length x0) : Int)) then
                  bif decide ((0 : Int) ≤ Go.IntKind.i64.wrap (x1 - (1 : Int))) then
                   Option.bind (x0[(Go.IntKind.i64.wrap (x1 - (1 : Int))).toNat]?) fun x5 =>
                    some (!x5.2.2.1 == (2 : Int))
                  else none
                 else some Bool.true
                else some Bool.true
               else some Bool.false
             else none
            else some Bool.false
           else some Bool.false
        else none
       else some Bool.true
      else some Bool.true
     else bif decide ((0 : Int) ≤ x1) then
       bif decide (x1 < (↑(List.length x0) : Int)) then
        bif decide ((0 : Int) ≤ x1) then
         Option.bind (x0[x1.toNat]?) fun x3 =>
          bif x3.2.2.1 == (0 : Int) then
           bif decide ((0 : Int) ≤ Go.IntKind.i64.wrap (x1 - (1 : Int))) then
            bif decide (Go.IntKind.i64.wrap (x1 - (1 : Int)) < (↑(List.length x0) : Int)) then
             bif decide ((0 : Int) ≤ Go.IntKind.i64.wrap (x1 - (1 : Int))) then
              Option.bind (x0[(Go.IntKind.i64.wrap (x1 - (1 : Int))).toNat]?) fun x4 =>
               some (!x4.2.2.1 == (2 : Int))
             else none
            else some Bool.true
           else some Bool.true
          else some Bool.false
        else none
       else some Bool.false
      else some Bool.false
   else none
  else bif decide ((0 : Int) ≤ x1) then
    bif decide (x1 < (↑(List.length x0) : Int)) then
     bif decide ((0 : Int) ≤ x1) then
      Option.bind (x0[x1.toNat]?) fun x2 =>
       bif x2.2.2.1 == (0 : Int) then
        bif decide ((0 : Int) ≤ Go.IntKind.i64.wrap (x1 - (1 : Int))) then
         bif decide (Go.IntKind.i64.wrap (x1 - (1 : Int)) < (↑(List.length x0) : Int)) then
          bif decide ((0 : Int) ≤ Go.IntKind.i64.wrap (x1 - (1 : Int))) then
           Option.bind (x0[(Go.IntKind.i64.wrap (x1 - (1 : Int))).toNat]?) fun x3 =>
            some (!x3.2.2.1 == (2 : Int))
          else none
         else some Bool.true
        else some Bool.true
       else some Bool.false
     else none
    else some Bool.false
   else some Bool.false
 else bif decide ((0 : Int) ≤ x1) then
   bif decide (x1 < (↑(List.length x0) : Int)) then
    bif decide ((0 : Int) ≤ x1) then
     Option.bind (x0[x1.toNat]?) fun x2 =>
      bif x2.2.2.1 == (0 : Int) then
       bif decide ((0 : Int) ≤ Go.IntKind.i64.wrap (x1 - (1 : Int))) then
        bif decide (Go.IntKind.i64.wrap (x1 - (1 : Int)) < (↑(List.length x0) : Int)) then
         bif decide ((0 : Int) ≤ Go.IntKind.i64.wrap (x1 - (1 : Int))) then
          Option.bind (x0[(Go.IntKind.i64.wrap (x1 - (1 : Int))).toNat]?) fun x3 =>
           some (!x3.2.2.1 == (2 : Int))
         else none
        else some Bool.true
       else some Bool.true
      else some Bool.false
    else none
   else some Bool.false
  else some Bool.false
noncomputable def KL : TEnt := ⟨115, .cons (.sl Y1_) (.int .i64), [], [(.bool, [])], fun s => wV s.1 s.2⟩
theorem Je : qz Tryz.prog KL := qj (tab := [JJ]) (loops := []) (joins := []) (un := []) _ (by
  intro e he
  simp only [List.mem_cons, List.not_mem_nil, or_false] at he
  rcases he with rfl
  ·exact V5) (fun s => by kernel_rfl) (by kernel_rfl)
noncomputable def yS (x0 : Y0_) (x1 : Int) : Option Bool :=
 bif decide ((0 : Int) ≤ x1) then
  Option.bind (x0[x1.toNat]?) fun x2 =>
   bif x2.2.2.1 == (2 : Int) then
    bif Go.IntKind.i64.wrap (x1 + (1 : Int)) == (↑(List.length x0) : Int) then
     some Bool.true
    else bif decide ((0 : Int) ≤ Go.IntKind.i64.wrap (x1 + (1 : Int))) then
      Option.bind (x0[(Go.IntKind.i64.wrap (x1 + (1 : Int))).toNat]?) fun x3 =>
       some (x3.2.2.1 != (0 : Int))
     else none
   else bif decide ((0 : Int) ≤ x1) then
     Option.bind (x0[x1.toNat]?) fun x3 =>
      bif x3.2.2.1 == (0 : Int) then
       bif x1 == (0 : Int) then
        some Bool.true
       else bif decide ((0 : Int) ≤ Go.IntKind.i64.wrap (x1 - (1 : Int))) then
         Option.bind (x0[(Go.IntKind.i64.wrap (x1 - (1 : Int))).toNat]?) fun x4 =>
          some (x4.2.2.1 != (2 : Int))
        else none
      else some Bool.false
    else none
 else none
noncomputable def Wl : TEnt := ⟨191, .cons (.sl Y2_) (.int .i64), [], [(.bool, [])], fun s => yS s.1 s.2⟩
theorem Wx : qz Tryz.prog Wl := qj (tab := []) (loops := []) (joins := []) (un := []) _ (by intro e he; simp at he) (fun s => by kernel_rfl) (by kernel_rfl)
noncomputable def zl (x1 : (Y0_ × xk)) (x2 : Y0_) : Option (((Y0_ × xk) × Y0_) ⊕ Y0_) :=
 bif decide (x1.2.2.2 < x1.2.2.1) then
  bif decide ((0 : Int) ≤ x1.2.2.2) then
   Option.bind (x1.2.1[x1.2.2.2.toNat]?) fun x3 =>
    Option.bind (wV x1.1 x1.2.2.2) fun x4 =>
     bif !x4 then
      bif decide (x2.length = x2.length) then
       some (Sum.inl ((x1.1, (x1.2.1, (x1.2.2.1, (Go.IntKind.i64.wrap (x1.2.2.2 + (1 : Int)))))), x2))
      else none
     else Option.bind (wS x3.2.2.2.1 x3.2.2.2.2.1 x3.2.2.2.2.2) fun x5 =>
       bif decide ((0 : Int) ≤ x1.2.2.2) then
        bif decide (x1.2.2.2.toNat < x2.length ∧ x2.length = x2.length) then
         bif decide (x2.length = x2.length) then
          Option.bind (x2[x1.2.2.2.toNat]?) fun x6 =>
           bif decide (x2.length = (x2.set x1.2.2.2.toNat (x5.1, (x5.2.1, x5.2.2.1), x5.2.2.2.1, x5.2.2.2.2.1, x5.2.2.2.2.2.1, x5.2.2.2.2.2.2)).length) then
            some (Sum.inl ((x1.1, (x1.2.1, (x1.2.2.1, (Go.IntKind.i64.wrap (x1.2.2.2 + (1 : Int)))))), (x2.set x1.2.2.2.toNat (x5.1, (x5.2.1, x5.2.2.1), x5.2.2.2.1, x5.2.2.2.2.1, x5.2.2.2.2.2.1, x5.2.2.2.2.2.2))))
           else none
         else none
        else none
       else none
  else none
 else bif decide (x2.length = x2.length) then
   some (Sum.inr x2)
  else none
noncomputable def Jv : ((Y0_ × xk) × Y0_) → Option Y0_ := z3 fun s => zl s.1 s.2
noncomputable def kn (x0 : Y0_) : Option Y0_ :=
 bif decide ((0 : Int) ≤ (↑x0.length : Int) ∧ (↑x0.length : Int) = (↑x0.length : Int) ∧ (↑x0.length : Int).toNat ≤ (8796093022208 : Nat)) then
  bif decide ((List.replicate (↑x0.length : Int).toNat ((0 : Int), ((0 : Int), (0 : Int)), (0 : Int), (0 : Int), (0 : Int), (0 : Int))).length = (↑x0.length : Int).toNat ∧ x0.length ≤ (↑x0.length : Int).toNat) then
   bif decide ((↑x0.length : Int).toNat = (x0 ++ List.drop x0.length (List.replicate (↑x0.length : Int).toNat ((0 : Int), ((0 : Int), (0 : Int)), (0 : Int), (0 : Int), (0 : Int), (0 : Int)))).length) then
    Option.bind (Jv ((x0, (x0, (((↑x0.length : Int)), ((0 : Int))))), (x0 ++ List.drop x0.length (List.replicate (↑x0.length : Int).toNat ((0 : Int), ((0 : Int), (0 : Int)), (0 : Int), (0 : Int), (0 : Int), (0 : Int)))))) fun x1 =>
     some x1
   else none
  else none
 else none
noncomputable def JI : TEnt := ⟨183, .sl Y1_, [], [(.sl Y1_, [])], fun s => kn s⟩
theorem Jo : qz Tryz.prog JI := qj (tab := [Ko, KL]) (loops := [(2429514, [0, 3, 12, 13, 14], (.cons (.sl Y1_) (.cons (.own 0) (.cons (.sl Y1_) Y7_))), [.li Y1_ 37 true])]) (joins := []) (un := []) _ (by
  intro e he
  simp only [List.mem_cons, List.not_mem_nil, or_false] at he
  rcases he with rfl | rfl
  ·exact Jg
  ·exact Je) (fun s => by kernel_rfl) (by kernel_rfl)
noncomputable def k8 (x1 : (Y0_ × Int)) (x2 : Y0_) : Option (((Y0_ × Int) × Y0_) ⊕ Y0_) :=
 bif decide (x1.2 < (↑x1.1.length : Int)) then
  bif decide ((0 : Int) ≤ x1.2) then
   Option.bind (x1.1[x1.2.toNat]?) fun x3 =>
    Option.bind (yS x1.1 x1.2) fun x4 =>
     bif x4 then
      Option.bind (zO x3.2.2.2.1 x3.2.2.2.2.1 x3.2.2.2.2.2) fun x5 =>
       bif decide ((1 : Nat) = (1 : Nat)) then
        bif decide (x2.length = x2.length ∧ x2.length + (1 : Nat) ≤ (4398046511104 : Nat)) then
         bif decide (x2.length + (1 : Nat) = (x2 ++ [(x5.1, (x5.2.1, x5.2.2.1), x5.2.2.2.1, x5.2.2.2.2.1, x5.2.2.2.2.2.1, x5.2.2.2.2.2.2)]).length) then
          some (Sum.inl ((x1.1, (Go.IntKind.i64.wrap (x1.2 + (1 : Int)))), (x2 ++ [(x5.1, (x5.2.1, x5.2.2.1), x5.2.2.2.1, x5.2.2.2.2.1, x5.2.2.2.2.2.1, x5.2.2.2.2.2.2)])))
         else none
        else none
       else none
     else bif decide ((1 : Nat) = (1 : Nat)) then
       bif decide (x2.length = x2.length ∧ x2.length + (1 : Nat) ≤ (4398046511104 : Nat)) then
        bif decide (x2.length + (1 : Nat) = (x2 ++ [(x3.1, (x3.2.1.1, x3.2.1.2), x3.2.2.1, x3.2.2.2.1, x3.2.2.2.2.1, x3.2.2.2.2.2)]).length) then
         some (Sum.inl ((x1.1, (Go.IntKind.i64.wrap (x1.2 + (1 : Int)))), (x2 ++ [(x3.1, (x3.2.1.1, x3.2.1.2), x3.2.2.1, x3.2.2.2.1, x3.2.2.2.2.1, x3.2.2.2.2.2)])))
        else none
       else none
      else none
  else none
 else bif decide (x2.length = x2.length) then
   some (Sum.inr x2)
  else none
noncomputable def Yj : ((Y0_ × Int) × Y0_) → Option Y0_ := z3 fun s => k8 s.1 s.2
noncomputable def yl (x0 : Y0_) : Option Y0_ :=
 Option.bind (Yj ((x0, ((0 : Int))), [])) fun x1 =>
  some x1
noncomputable def KN : TEnt := ⟨166, .sl Y2_, [], [(.sl Y2_, [])], fun s => yl s⟩
theorem ZE : qz Tryz.prog KN := qj (tab := [yG, Wl]) (loops := [(4682, [0, 3, 4], (.cons (.sl Y2_) (.cons (.own 0) (.int .i64))), [.li Y2_ 47 false])]) (joins := []) (un := []) _ (by
  intro e he
  simp only [List.mem_cons, List.not_mem_nil, or_false] at he
  rcases he with rfl | rfl
  ·exact wR
  ·exact Wx) (fun s => by kernel_rfl) (by kernel_rfl)
noncomputable def kU (x0 : Y0_) (x1 : Int) (x2 : Y0_) : Option Y0_ :=
 bif decide ((0 : Int) ≤ (0 : Int) ∧ (0 : Int) ≤ x1 ∧ x1 = x1 ∧ Int.toNat x1 ≤ List.length x0) then
  bif decide ((0 : Int) = x1) then
   bif decide ((0 : Nat) = (0 : Nat) ∧ (0 : Nat) + x2.length ≤ (8796093022208 : Nat)) then
    bif decide ((0 : Int) ≤ Go.IntKind.i64.wrap (x1 + (↑x2.length : Int)) ∧ (Go.IntKind.i64.wrap (x1 + (↑x2.length : Int))).toNat ≤ List.length x0) then
     bif decide (([] ++ x2).length = (0 : Nat) + x2.length ∧ (0 : Nat) + x2.length + (List.drop (Go.IntKind.i64.wrap (x1 + (↑x2.length : Int))).toNat x0).length ≤ (8796093022208 : Nat)) then
      bif decide (([] ++ x2 ++ List.drop (Go.IntKind.i64.wrap (x1 + (↑x2.length : Int))).toNat x0).length = (0 : Nat) + x2.length + (List.drop (Go.IntKind.i64.wrap (x1 + (↑x2.length : Int))).toNat x0).length) then
       Option.bind (kn ([] ++ x2 ++ List.drop (Go.IntKind.i64.wrap (x1 + (↑x2.length : Int))).toNat x0)) fun x3 =>
        some x3
      else none
     else none
    else none
   else none
  else bif decide ((List.take (Int.toNat x1 - (0 : Nat)) (List.drop (0 : Nat) x0)).length + x2.length ≤ (8796093022208 : Nat)) then
    bif decide (x2.length = (0 : Nat)) then
     bif decide ((0 : Int) ≤ Go.IntKind.i64.wrap (x1 + (↑x2.length : Int)) ∧ (Go.IntKind.i64.wrap (x1 + (↑x2.length : Int))).toNat ≤ List.length x0) then
      bif decide ((List.take (Int.toNat x1 - (0 : Nat)) (List.drop (0 : Nat) x0)).length + (List.drop (Go.IntKind.i64.wrap (x1 + (↑x2.length : Int))).toNat x0).length ≤ (8796093022208 : Nat)) then
       bif decide ((List.drop (Go.IntKind.i64.wrap (x1 + (↑x2.length : Int))).toNat x0).length = (0 : Nat)) then
        Option.bind (kn (List.take (Int.toNat x1 - (0 : Nat)) (List.drop (0 : Nat) x0))) fun x3 =>
         some x3
       else bif decide ((List.take (Int.toNat x1 - (0 : Nat)) (List.drop (0 : Nat) x0) ++ List.drop (Go.IntKind.i64.wrap (x1 + (↑x2.length : Int))).toNat x0).length = (List.take (Int.toNat x1 - (0 : Nat)) (List.drop (0 : Nat) x0)).length + (List.drop (Go.IntKind.i64.wrap (x1 + (↑x2.length : Int))).toNat x0).length) then
         Option.bind (kn (List.take (Int.toNat x1 - (0 : Nat)) (List.drop (0 : Nat) x0) ++ List.drop (Go.IntKind.i64.wrap (x1 + (↑x2.length : Int))).toNat x0)) fun x3 =>
          some x3
        else none
      else none
     else none
    else bif decide ((0 : Int) ≤ Go.IntKind.i64.wrap (x1 + (↑x2.length : Int)) ∧ (Go.IntKind.i64.wrap (x1 + (↑x2.length : Int))).toNat ≤ List.length x0) then
      bif decide ((List.take (Int.toNat x1 - (0 : Nat)) (List.drop (0 : Nat) x0) ++ x2).length = (List.take (Int.toNat x1 - (0 : Nat)) (List.drop (0 : Nat) x0)).length + x2.length ∧ (List.take (Int.toNat x1 - (0 : Nat)) (List.drop (0 : Nat) x0)).length + x2.length + (List.drop (Go.IntKind.i64.wrap (x1 + (↑x2.length : Int))).toNat x0).length ≤ (8796093022208 : Nat)) then
       bif decide ((List.take (Int.toNat x1 - (0 : Nat)) (List.drop (0 : Nat) x0) ++ x2 ++ List.drop (Go.IntKind.i64.wrap (x1 + (↑x2.length : Int))).toNat x0).length = (List.take (Int.toNat x1 - (0 : Nat)) (List.drop (0 : Nat) x0)).length + x2.length + (List.drop (Go.IntKind.i64.wrap (x1 + (↑x2.length : Int))).toNat x0).length) then
        Option.bind (kn (List.take (Int.toNat x1 - (0 : Nat)) (List.drop (0 : Nat) x0) ++ x2 ++ List.drop (Go.IntKind.i64.wrap (x1 + (↑x2.length : Int))).toNat x0)) fun x3 =>
         some x3
       else none
      else none
     else none
   else none
 else none
noncomputable def Wg : TEnt := ⟨160, .cons (.sl Y1_) (.cons (.int .i64) (.sl Y1_)), [], [(.sl Y1_, [])], fun s => kU s.1 s.2.1 s.2.2⟩
theorem JV : qz Tryz.prog Wg := qj (tab := [JI]) (loops := []) (joins := []) (un := []) _ (by
  intro e he
  simp only [List.mem_cons, List.not_mem_nil, or_false] at he
  rcases he with rfl
  ·exact Jo) (fun s => by kernel_rfl) (by kernel_rfl)
noncomputable def KF (x0 : Y0_) (x1 : Int) (x2 : Int) (x3 : Int) (x4 : Int) (x5 : Int) (x6 : Int) (x7 : Int) (x8 : Int) : Option (Y0_ × Bool) :=
 bif x5 == (0 : Int) then
  Option.bind (qL x0) fun x9 =>
   bif decide (List.length x9 = List.length x9) then
    some (x9, Bool.false)
   else none
 else Option.bind (wH x2 x3 x4 x5 x6 x7 x8) fun x9 =>
   bif !x9 then
    Option.bind (qL x0) fun x10 =>
     bif decide (List.length x10 = List.length x10) then
      some (x10, Bool.false)
     else none
   else bif decide (x1 < (0 : Int)) then
     Option.bind (qL x0) fun x10 =>
      bif decide (List.length x10 = List.length x10) then
       some (x10, Bool.false)
      else none
    else bif decide ((↑(List.length x0) : Int) ≤ x1) then
      Option.bind (qL x0) fun x10 =>
       bif decide (List.length x10 = List.length x10) then
        some (x10, Bool.false)
       else none
     else bif decide (Go.IntKind.i64.wrap ((↑(List.length x0) : Int) - x1) < Go.IntKind.i64.wrap x5) then
       Option.bind (qL x0) fun x10 =>
        bif decide (List.length x10 = List.length x10) then
         some (x10, Bool.false)
        else none
      else bif x5 == (2 : Int) then
        Option.bind (yO x2 x3 x4 x5 x6 x7 x8) fun x10 =>
         bif decide ((2 : Nat) = (2 : Nat)) then
          Option.bind (kU x0 x1 [(x2, (x3, x4), x5, x6, x7, x8), (x10.1, (x10.2.1, x10.2.2.1), x10.2.2.2.1, x10.2.2.2.2.1, x10.2.2.2.2.2.1, x10.2.2.2.2.2.2)]) fun x11 =>
           some (x11, Bool.true)
         else none
       else bif decide ((1 : Nat) = (1 : Nat)) then
         Option.bind (kU x0 x1 [(x2, (x3, x4), x5, x6, x7, x8)]) fun x10 =>
          some (x10, Bool.true)
        else none
noncomputable def U3 : TEnt := ⟨106, .cons (.sl Y1_) (.cons (.int .i64) (.agg Xr)), [], [(.tup (.cons (.sl Y1_) .bool), [])], fun s => KF s.1 s.2.1 s.2.2.1 s.2.2.2.1 s.2.2.2.2.1 s.2.2.2.2.2.1 s.2.2.2.2.2.2.1 s.2.2.2.2.2.2.2.1 s.2.2.2.2.2.2.2.2⟩
theorem a0i : qz Tryz.prog U3 := qj (tab := [JO, KB, j9, Wg]) (loops := []) (joins := []) (un := []) _ (by
  intro e he
  simp only [List.mem_cons, List.not_mem_nil, or_false] at he
  rcases he with rfl | rfl | rfl | rfl
  ·exact Jw
  ·exact Ja
  ·exact kM
  ·exact JV) (fun s => by kernel_rfl) (by kernel_rfl)
noncomputable def ky (x10 : xk) (x11 : Ws) (x12 : Y0_) : Option ((xk × (Ws × Y0_)) ⊕ (Y0_ × Bool)) :=
 bif decide (x10.2.2 < (↑x10.1.length : Int)) then
  bif x10.2.2 == x10.2.1 then
   bif decide ((1 : Nat) = (1 : Nat)) then
    bif decide (x12.length = x12.length ∧ x12.length + (1 : Nat) ≤ (4398046511104 : Nat)) then
     bif decide (x12.length + (1 : Nat) = (x12 ++ [(x11.1, (x11.2.1, x11.2.2.1), x11.2.2.2.1, x11.2.2.2.2.1, x11.2.2.2.2.2.1, x11.2.2.2.2.2.2)]).length) then
      some (Sum.inl ((x10.1, (x10.2.1, (Go.IntKind.i64.wrap (x10.2.2 + (1 : Int))))), ((x11.1, (x11.2.1, (x11.2.2.1, (x11.2.2.2.1, (x11.2.2.2.2.1, (x11.2.2.2.2.2.1, x11.2.2.2.2.2.2)))))), (x12 ++ [(x11.1, (x11.2.1, x11.2.2.1), x11.2.2.2.1, x11.2.2.2.2.1, x11.2.2.2.2.2.1, x11.2.2.2.2.2.2)]))))
     else none
    else none
   else none
  else bif x10.2.2 == Go.IntKind.i64.wrap (x10.2.1 + (1 : Int)) then
    bif x11.2.2.2.1 == (2 : Int) then
     Option.bind (YZ x11.1 x11.2.1 x11.2.2.1 x11.2.2.2.1 x11.2.2.2.2.1 x11.2.2.2.2.2.1 x11.2.2.2.2.2.2) fun x13 =>
      bif decide ((1 : Nat) = (1 : Nat)) then
       bif decide (x12.length = x12.length ∧ x12.length + (1 : Nat) ≤ (4398046511104 : Nat)) then
        bif decide (x12.length + (1 : Nat) = (x12 ++ [(x13.1, (x13.2.1, x13.2.2.1), x13.2.2.2.1, x13.2.2.2.2.1, x13.2.2.2.2.2.1, x13.2.2.2.2.2.2)]).length) then
         some (Sum.inl ((x10.1, (x10.2.1, (Go.IntKind.i64.wrap (x10.2.2 + (1 : Int))))), ((x11.1, (x11.2.1, (x11.2.2.1, (x11.2.2.2.1, (x11.2.2.2.2.1, (x11.2.2.2.2.2.1, x11.2.2.2.2.2.2)))))), (x12 ++ [(x13.1, (x13.2.1, x13.2.2.1), x13.2.2.2.1, x13.2.2.2.2.1, x13.2.2.2.2.2.1, x13.2.2.2.2.2.2)]))))
        else none
       else none
      else none
    else bif decide ((0 : Int) ≤ x10.2.2) then
      Option.bind (x10.1[x10.2.2.toNat]?) fun x13 =>
       bif decide ((1 : Nat) = (1 : Nat)) then
        bif decide (x12.length = x12.length ∧ x12.length + (1 : Nat) ≤ (4398046511104 : Nat)) then
         bif decide (x12.length + (1 : Nat) = (x12 ++ [(x13.1, (x13.2.1.1, x13.2.1.2), x13.2.2.1, x13.2.2.2.1, x13.2.2.2.2.1, x13.2.2.2.2.2)]).length) then
          some (Sum.inl ((x10.1, (x10.2.1, (Go.IntKind.i64.wrap (x10.2.2 + (1 : Int))))), ((x11.1, (x11.2.1, (x11.2.2.1, (x11.2.2.2.1, (x11.2.2.2.2.1, (x11.2.2.2.2.2.1, x11.2.2.2.2.2.2)))))), (x12 ++ [(x13.1, (x13.2.1.1, x13.2.1.2), x13.2.2.1, x13.2.2.2.1, x13.2.2.2.2.1, x13.2.2.2.2.2)]))))
         else none
        else none
       else none
     else none
   else bif decide ((0 : Int) ≤ x10.2.2) then
     Option.bind (x10.1[x10.2.2.toNat]?) fun x13 =>
      bif decide ((1 : Nat) = (1 : Nat)) then
       bif decide (x12.length = x12.length ∧ x12.length + (1 : Nat) ≤ (4398046511104 : Nat)) then
        bif decide (x12.length + (1 : Nat) = (x12 ++ [(x13.1, (x13.2.1.1, x13.2.1.2), x13.2.2.1, x13.2.2.2.1, x13.2.2.2.2.1, x13.2.2.2.2.2)]).length) then
         some (Sum.inl ((x10.1, (x10.2.1, (Go.IntKind.i64.wrap (x10.2.2 + (1 : Int))))), ((x11.1, (x11.2.1, (x11.2.2.1, (x11.2.2.2.1, (x11.2.2.2.2.1, (x11.2.2.2.2.2.1, x11.2.2.2.2.2.2)))))), (x12 ++ [(x13.1, (x13.2.1.1, x13.2.1.2), x13.2.2.1, x13.2.2.2.1, x13.2.2.2.2.1, x13.2.2.2.2.2)]))))
        else none
       else none
      else none
    else none
 else bif decide (x12.length = x12.length) then
   Option.bind (yl x12) fun x13 =>
    some (Sum.inr (x13, Bool.true))
  else none
noncomputable def Qg : (xk × (Ws × Y0_)) → Option (Y0_ × Bool) := z3 fun s => ky s.1 s.2.1 s.2.2
noncomputable def WX (x0 : Y0_) (x1 : Int) (x2 : Int) (x3 : Int) (x4 : Int) (x5 : Int) (x6 : Int) (x7 : Int) (x8 : Int) : Option (Y0_ × Bool) :=
 Option.bind (yI x2 x3 x4 x5 x6 x7 x8) fun x9 =>
  bif !x9 then
   some (x0, Bool.false)
  else bif x5 == (0 : Int) then
    some (x0, Bool.false)
   else bif decide (x1 < (0 : Int)) then
     some (x0, Bool.false)
    else bif decide ((↑(List.length x0) : Int) ≤ x1) then
      some (x0, Bool.false)
     else bif x5 == (2 : Int) then
       bif x1 == Go.IntKind.i64.wrap ((↑(List.length x0) : Int) - (1 : Int)) then
        some (x0, Bool.false)
       else Option.bind (Qg ((x0, (x1, ((0 : Int)))), ((x2, (x3, (x4, (x5, (x6, (x7, x8)))))), []))) fun x10 =>
         some x10
      else Option.bind (Qg ((x0, (x1, ((0 : Int)))), ((x2, (x3, (x4, (x5, (x6, (x7, x8)))))), []))) fun x10 =>
        some x10
noncomputable def a1b : TEnt := ⟨111, .cons (.sl Y2_) (.cons (.int .i64) (.agg Us)), [], [(.tup (.cons (.sl Y2_) .bool), [])], fun s => WX s.1 s.2.1 s.2.2.1 s.2.2.2.1 s.2.2.2.2.1 s.2.2.2.2.2.1 s.2.2.2.2.2.2.1 s.2.2.2.2.2.2.2.1 s.2.2.2.2.2.2.2.2⟩
theorem a2G : qz Tryz.prog a1b := qj (tab := [uZ, Jr, KN]) (loops := [(299594, [0, 1, 5, 8, 9], (.cons (.sl Y2_) (.cons (.int .i64) (.cons (.ptr 0 0) (.cons (.own 1) (.int .i64))))), [.st Us, .li Y2_ 47 false])]) (joins := []) (un := []) _ (by
  intro e he
  simp only [List.mem_cons, List.not_mem_nil, or_false] at he
  rcases he with rfl | rfl | rfl
  ·exact a0X
  ·exact We
  ·exact ZE) (fun s => by kernel_rfl) (by kernel_rfl)
noncomputable def wz (x0 : Y0_) (x1 : Int) (x2 : Int) (x3 : Int) (x4 : Int) (x5 : Int) : Option Y0_ :=
 Option.bind (j8 (if Go.IntKind.i64.wrap ((if (↑(List.length x0) : Int) < if (0 : Int) > x2 then (0 : Int) else x2 then (↑(List.length x0) : Int) else if (0 : Int) > x2 then (0 : Int) else x2) - if (↑(List.length x0) : Int) < if (0 : Int) > x1 then (0 : Int) else x1 then (↑(List.length x0) : Int) else if (0 : Int) > x1 then (0 : Int) else x1) > (0 : Int) then Go.IntKind.i64.wrap ((if (↑(List.length x0) : Int) < if (0 : Int) > x2 then (0 : Int) else x2 then (↑(List.length x0) : Int) else if (0 : Int) > x2 then (0 : Int) else x2) - if (↑(List.length x0) : Int) < if (0 : Int) > x1 then (0 : Int) else x1 then (↑(List.length x0) : Int) else if (0 : Int) > x1 then (0 : Int) else x1) else (0 : Int)) x3 x4 x5) fun x6 =>
  Option.bind (kU x0 (if (↑(List.length x0) : Int) < if (0 : Int) > x1 then (0 : Int) else x1 then (↑(List.length x0) : Int) else if (0 : Int) > x1 then (0 : Int) else x1) x6) fun x7 =>
   some x7
noncomputable def KE : TEnt := ⟨153, .cons (.sl Y1_) afp, [], [(.sl Y1_, [])], fun s => wz s.1 s.2.1 s.2.2.1 s.2.2.2.1 s.2.2.2.2.1 s.2.2.2.2.2⟩
theorem J6 : qz Tryz.prog KE := qj (tab := [yB, Wg]) (loops := []) (joins := []) (un := []) _ (by
  intro e he
  simp only [List.mem_cons, List.not_mem_nil, or_false] at he
  rcases he with rfl | rfl
  ·exact yg
  ·exact JV) (fun s => by kernel_rfl) (by kernel_rfl)
noncomputable def zI (x6 : (Y0_ × Y4_)) (x7 : Y4_) (x8 : Y0_) : Option (((Y0_ × Y4_) × (Y4_ × Y0_)) ⊕ Y0_) :=
 bif decide (x6.2.2.2 < (↑x6.1.length : Int)) then
  bif decide ((0 : Int) ≤ x6.2.2.2) then
   Option.bind (x6.1[x6.2.2.2.toNat]?) fun x9 =>
    bif decide (x6.2.1 ≤ x6.2.2.2) then
     bif decide (x6.2.2.2 < x6.2.2.1) then
      Option.bind (zO x7.1 x7.2.1 x7.2.2) fun x10 =>
       bif decide ((1 : Nat) = (1 : Nat)) then
        bif decide (x8.length = x8.length ∧ x8.length + (1 : Nat) ≤ (4398046511104 : Nat)) then
         bif decide (x8.length + (1 : Nat) = (x8 ++ [(x10.1, (x10.2.1, x10.2.2.1), x10.2.2.2.1, x10.2.2.2.2.1, x10.2.2.2.2.2.1, x10.2.2.2.2.2.2)]).length) then
          some (Sum.inl ((x6.1, (x6.2.1, (x6.2.2.1, (Go.IntKind.i64.wrap (x6.2.2.2 + (1 : Int)))))), ((x7.1, (x7.2.1, x7.2.2)), (x8 ++ [(x10.1, (x10.2.1, x10.2.2.1), x10.2.2.2.1, x10.2.2.2.2.1, x10.2.2.2.2.2.1, x10.2.2.2.2.2.2)]))))
         else none
        else none
       else none
     else bif decide ((1 : Nat) = (1 : Nat)) then
       bif decide (x8.length = x8.length ∧ x8.length + (1 : Nat) ≤ (4398046511104 : Nat)) then
        bif decide (x8.length + (1 : Nat) = (x8 ++ [(x9.1, (x9.2.1.1, x9.2.1.2), x9.2.2.1, x9.2.2.2.1, x9.2.2.2.2.1, x9.2.2.2.2.2)]).length) then
         some (Sum.inl ((x6.1, (x6.2.1, (x6.2.2.1, (Go.IntKind.i64.wrap (x6.2.2.2 + (1 : Int)))))), ((x7.1, (x7.2.1, x7.2.2)), (x8 ++ [(x9.1, (x9.2.1.1, x9.2.1.2), x9.2.2.1, x9.2.2.2.1, x9.2.2.2.2.1, x9.2.2.2.2.2)]))))
        else none
       else none
      else none
    else bif decide ((1 : Nat) = (1 : Nat)) then
      bif decide (x8.length = x8.length ∧ x8.length + (1 : Nat) ≤ (4398046511104 : Nat)) then
       bif decide (x8.length + (1 : Nat) = (x8 ++ [(x9.1, (x9.2.1.1, x9.2.1.2), x9.2.2.1, x9.2.2.2.1, x9.2.2.2.2.1, x9.2.2.2.2.2)]).length) then
        some (Sum.inl ((x6.1, (x6.2.1, (x6.2.2.1, (Go.IntKind.i64.wrap (x6.2.2.2 + (1 : Int)))))), ((x7.1, (x7.2.1, x7.2.2)), (x8 ++ [(x9.1, (x9.2.1.1, x9.2.1.2), x9.2.2.1, x9.2.2.2.1, x9.2.2.2.2.1, x9.2.2.2.2.2)]))))
       else none
      else none
     else none
  else none
 else bif decide (x8.length = x8.length) then
   Option.bind (yl x8) fun x9 =>
    some (Sum.inr x9)
  else none
noncomputable def JX : ((Y0_ × Y4_) × (Y4_ × Y0_)) → Option Y0_ := z3 fun s => zI s.1 s.2.1 s.2.2
noncomputable def wx (x0 : Y0_) (x1 : Int) (x2 : Int) (x3 : Int) (x4 : Int) (x5 : Int) : Option Y0_ :=
 Option.bind (JX ((x0, (x1, (x2, ((0 : Int))))), ((x3, (x4, x5)), []))) fun x6 =>
  some x6
noncomputable def JT : TEnt := ⟨156, .cons (.sl Y2_) afp, [], [(.sl Y2_, [])], fun s => wx s.1 s.2.1 s.2.2.1 s.2.2.2.1 s.2.2.2.2.1 s.2.2.2.2.2⟩
theorem JG : qz Tryz.prog JT := qj (tab := [yG, KN]) (loops := [(4682, [0, 1, 2, 7, 9, 10], (.cons (.sl Y2_) (.cons (.int .i64) (.cons (.int .i64) (.cons (.ptr 0 0) (.cons (.own 1) (.int .i64)))))), [.st Y6_, .li Y2_ 47 false])]) (joins := []) (un := []) _ (by
  intro e he
  simp only [List.mem_cons, List.not_mem_nil, or_false] at he
  rcases he with rfl | rfl
  ·exact wR
  ·exact ZE) (fun s => by kernel_rfl) (by kernel_rfl)
noncomputable def KG (x0 : Y0_) (x1 : Int) : Option Y0_ :=
 Option.bind (jP x1) fun x2 =>
  bif decide (x2 ≤ (↑(List.length x0) : Int)) then
   bif decide ((0 : Int) ≤ x2 ∧ Int.toNat x2 ≤ List.length x0) then
    Option.bind (kn (List.take (Int.toNat x2) x0)) fun x3 =>
     some x3
   else none
  else Option.bind (qL x0) fun x3 =>
    Option.bind (j8 (Go.IntKind.i64.wrap (x2 - (↑(List.length x0) : Int))) (0 : Int) (0 : Int) (0 : Int)) fun x4 =>
     bif decide (List.length x3 = List.length x3 ∧ List.length x3 + List.length x4 ≤ (8796093022208 : Nat)) then
      bif decide ((x3 ++ x4).length = List.length x3 + List.length x4) then
       Option.bind (kn (x3 ++ x4)) fun x5 =>
        some x5
      else none
     else none
noncomputable def UH : TEnt := ⟨142, .cons (.sl Y1_) (.int .i64), [], [(.sl Y1_, [])], fun s => KG s.1 s.2⟩
theorem a0N : qz Tryz.prog UH := qj (tab := [j9, Zq, yB, JI]) (loops := []) (joins := []) (un := []) _ (by
  intro e he
  simp only [List.mem_cons, List.not_mem_nil, or_false] at he
  rcases he with rfl | rfl | rfl | rfl
  ·exact kM
  ·exact ZQ
  ·exact yg
  ·exact Jo) (fun s => by kernel_rfl) (by kernel_rfl)
noncomputable def kw (x2 : xk) (x3 : Y0_) : Option ((xk × Y0_) ⊕ Y0_) :=
 Option.bind (wM x2.2.1) fun x4 =>
  bif decide (x2.2.2 < x4) then
   Option.bind (zO (0 : Int) (0 : Int) (0 : Int)) fun x5 =>
    bif decide (x2.2.2 < (↑x2.1.length : Int)) then
     bif decide ((0 : Int) ≤ x2.2.2) then
      Option.bind (x2.1[x2.2.2.toNat]?) fun x6 =>
       bif decide ((1 : Nat) = (1 : Nat)) then
        bif decide (x3.length = x3.length ∧ x3.length + (1 : Nat) ≤ (4398046511104 : Nat)) then
         bif decide (x3.length + (1 : Nat) = (x3 ++ [(x6.1, (x6.2.1.1, x6.2.1.2), x6.2.2.1, x6.2.2.2.1, x6.2.2.2.2.1, x6.2.2.2.2.2)]).length) then
          some (Sum.inl ((x2.1, (x2.2.1, (Go.IntKind.i64.wrap (x2.2.2 + (1 : Int))))), (x3 ++ [(x6.1, (x6.2.1.1, x6.2.1.2), x6.2.2.1, x6.2.2.2.1, x6.2.2.2.2.1, x6.2.2.2.2.2)])))
         else none
        else none
       else none
     else none
    else bif decide ((1 : Nat) = (1 : Nat)) then
      bif decide (x3.length = x3.length ∧ x3.length + (1 : Nat) ≤ (4398046511104 : Nat)) then
       bif decide (x3.length + (1 : Nat) = (x3 ++ [(x5.1, (x5.2.1, x5.2.2.1), x5.2.2.2.1, x5.2.2.2.2.1, x5.2.2.2.2.2.1, x5.2.2.2.2.2.2)]).length) then
        some (Sum.inl ((x2.1, (x2.2.1, (Go.IntKind.i64.wrap (x2.2.2 + (1 : Int))))), (x3 ++ [(x5.1, (x5.2.1, x5.2.2.1), x5.2.2.2.1, x5.2.2.2.2.1, x5.2.2.2.2.2.1, x5.2.2.2.2.2.2)])))
       else none
      else none
     else none
  else bif decide (x3.length = x3.length) then
    Option.bind (yl x3) fun x5 =>
     some (Sum.inr x5)
   else none
noncomputable def vK : (xk × Y0_) → Option Y0_ := z3 fun s => kw s.1 s.2
noncomputable def WL (x0 : Y0_) (x1 : Int) : Option Y0_ :=
 Option.bind (vK ((x0, (x1, ((0 : Int)))), [])) fun x2 =>
  some x2
noncomputable def a1H : TEnt := ⟨143, .cons (.sl Y2_) (.int .i64), [], [(.sl Y2_, [])], fun s => WL s.1 s.2⟩
theorem a3M : qz Tryz.prog a1H := qj (tab := [yG, Kh, KN]) (loops := [(4682, [0, 1, 5, 6], (.cons (.sl Y2_) (.cons (.int .i64) (.cons (.own 0) (.int .i64)))), [.li Y2_ 47 false])]) (joins := []) (un := []) _ (by
  intro e he
  simp only [List.mem_cons, List.not_mem_nil, or_false] at he
  rcases he with rfl | rfl | rfl
  ·exact wR
  ·exact Jh
  ·exact ZE) (fun s => by kernel_rfl) (by kernel_rfl)
noncomputable def Zl (x0 : Y0_) (x1 : Int) (x2 : Int) : Option (Y0_ × Bool) :=
 Option.bind (qL x0) fun x3 =>
  bif decide (x1 < (0 : Int)) then
   bif decide (List.length x3 = List.length x3) then
    some (x3, Bool.false)
   else none
  else bif decide ((↑(List.length x0) : Int) ≤ x1) then
    bif decide (List.length x3 = List.length x3) then
     some (x3, Bool.false)
    else none
   else bif decide ((0 : Int) ≤ x1) then
     Option.bind (x0[Int.toNat x1]?) fun x4 =>
      bif x4.2.2.1 == (0 : Int) then
       bif decide ((0 : Int) < x1) then
        bif decide ((0 : Int) ≤ Go.IntKind.i64.wrap (x1 - (1 : Int))) then
         Option.bind (x0[(Go.IntKind.i64.wrap (x1 - (1 : Int))).toNat]?) fun x5 =>
          bif x5.2.2.1 == (2 : Int) then
           bif decide ((0 : Int) ≤ Go.IntKind.i64.wrap (x1 - (1 : Int))) then
            Option.bind (x0[(Go.IntKind.i64.wrap (x1 - (1 : Int))).toNat]?) fun x6 =>
             Option.bind (kr (x6.1, x6.2.1.1, x6.2.1.2, x6.2.2.1, x6.2.2.2.1, x6.2.2.2.2.1, x6.2.2.2.2.2) x2) fun x7 =>
              bif decide ((0 : Int) ≤ Go.IntKind.i64.wrap (x1 - (1 : Int))) then
               bif decide ((Go.IntKind.i64.wrap (x1 - (1 : Int))).toNat < List.length x3 ∧ List.length x3 = List.length x3) then
                bif decide (List.length x3 = List.length x3) then
                 Option.bind (x3[(Go.IntKind.i64.wrap (x1 - (1 : Int))).toNat]?) fun x8 =>
                  bif decide ((List.set x3 (Go.IntKind.i64.wrap (x1 - (1 : Int))).toNat (x7.1.1, (x7.1.2.1, x7.1.2.2.1), x7.1.2.2.2.1, x7.1.2.2.2.2.1, x7.1.2.2.2.2.2.1, x7.1.2.2.2.2.2.2)).length = List.length x3) then
                   some ((List.set x3 (Go.IntKind.i64.wrap (x1 - (1 : Int))).toNat (x7.1.1, (x7.1.2.1, x7.1.2.2.1), x7.1.2.2.2.1, x7.1.2.2.2.2.1, x7.1.2.2.2.2.2.1, x7.1.2.2.2.2.2.2)), x7.2)
                  else none
                else none
               else none
              else none
           else none
          else bif decide ((0 : Int) ≤ x1) then
            Option.bind (x0[Int.toNat x1]?) fun x6 =>
             Option.bind (kr (x6.1, x6.2.1.1, x6.2.1.2, x6.2.2.1, x6.2.2.2.1, x6.2.2.2.2.1, x6.2.2.2.2.2) x2) fun x7 =>
              bif decide ((0 : Int) ≤ x1) then
               bif decide (Int.toNat x1 < List.length x3 ∧ List.length x3 = List.length x3) then
                bif decide (List.length x3 = List.length x3) then
                 Option.bind (x3[Int.toNat x1]?) fun x8 =>
                  bif decide ((List.set x3 (Int.toNat x1) (x7.1.1, (x7.1.2.1, x7.1.2.2.1), x7.1.2.2.2.1, x7.1.2.2.2.2.1, x7.1.2.2.2.2.2.1, x7.1.2.2.2.2.2.2)).length = List.length x3) then
                   some ((List.set x3 (Int.toNat x1) (x7.1.1, (x7.1.2.1, x7.1.2.2.1), x7.1.2.2.2.1, x7.1.2.2.2.2.1, x7.1.2.2.2.2.2.1, x7.1.2.2.2.2.2.2)), x7.2)
                  else none
                else none
               else none
              else none
           else none
        else none
       else bif decide ((0 : Int) ≤ x1) then
         Option.bind (x0[Int.toNat x1]?) fun x5 =>
          Option.bind (kr (x5.1, x5.2.1.1, x5.2.1.2, x5.2.2.1, x5.2.2.2.1, x5.2.2.2.2.1, x5.2.2.2.2.2) x2) fun x6 =>
           bif decide ((0 : Int) ≤ x1) then
            bif decide (Int.toNat x1 < List.length x3 ∧ List.length x3 = List.length x3) then
             bif decide (List.length x3 = List.length x3) then
              Option.bind (x3[Int.toNat x1]?) fun x7 =>
               bif decide ((List.set x3 (Int.toNat x1) (x6.1.1, (x6.1.2.1, x6.1.2.2.1), x6.1.2.2.2.1, x6.1.2.2.2.2.1, x6.1.2.2.2.2.2.1, x6.1.2.2.2.2.2.2)).length = List.length x3) then
                some ((List.set x3 (Int.toNat x1) (x6.1.1, (x6.1.2.1, x6.1.2.2.1), x6.1.2.2.2.1, x6.1.2.2.2.2.1, x6.1.2.2.2.2.2.1, x6.1.2.2.2.2.2.2)), x6.2)
               else none
             else none
            else none
           else none
        else none
      else bif decide ((0 : Int) ≤ x1) then
        Option.bind (x0[Int.toNat x1]?) fun x5 =>
         Option.bind (kr (x5.1, x5.2.1.1, x5.2.1.2, x5.2.2.1, x5.2.2.2.1, x5.2.2.2.2.1, x5.2.2.2.2.2) x2) fun x6 =>
          bif decide ((0 : Int) ≤ x1) then
           bif decide (Int.toNat x1 < List.length x3 ∧ List.length x3 = List.length x3) then
            bif decide (List.length x3 = List.length x3) then
             Option.bind (x3[Int.toNat x1]?) fun x7 =>
              bif decide ((List.set x3 (Int.toNat x1) (x6.1.1, (x6.1.2.1, x6.1.2.2.1), x6.1.2.2.2.1, x6.1.2.2.2.2.1, x6.1.2.2.2.2.2.1, x6.1.2.2.2.2.2.2)).length = List.length x3) then
               some ((List.set x3 (Int.toNat x1) (x6.1.1, (x6.1.2.1, x6.1.2.2.1), x6.1.2.2.2.1, x6.1.2.2.2.2.1, x6.1.2.2.2.2.2.1, x6.1.2.2.2.2.2.2)), x6.2)
              else none
            else none
           else none
          else none
       else none
    else none
noncomputable def xN : TEnt := ⟨151, .cons (.sl Y1_) a5U, [], [(.tup (.cons (.sl Y1_) .bool), [])], fun s => Zl s.1 s.2.1 s.2.2⟩
theorem Ul : qz Tryz.prog xN := qj (tab := [xy, j9]) (loops := []) (joins := []) (un := []) _ (by
  intro e he
  simp only [List.mem_cons, List.not_mem_nil, or_false] at he
  rcases he with rfl | rfl
  ·exact XR
  ·exact kM) (fun s => by kernel_rfl) (by kernel_rfl)
noncomputable def J1 (x0 : Y0_) (x1 : Int) (x2 : Int) : Option (Y0_ × Bool) :=
 bif decide (x1 < (0 : Int)) then
  some (x0, Bool.false)
 else bif decide ((↑(List.length x0) : Int) ≤ x1) then
   some (x0, Bool.false)
  else bif decide ((0 : Int) ≤ x1) then
    Option.bind (x0[Int.toNat x1]?) fun x3 =>
     bif x3.2.2.1 == (0 : Int) then
      bif decide ((0 : Int) < x1) then
       bif decide ((0 : Int) ≤ Go.IntKind.i64.wrap (x1 - (1 : Int))) then
        Option.bind (x0[(Go.IntKind.i64.wrap (x1 - (1 : Int))).toNat]?) fun x4 =>
         bif x4.2.2.1 == (2 : Int) then
          bif decide ((0 : Int) ≤ Go.IntKind.i64.wrap (x1 - (1 : Int))) then
           Option.bind (x0[(Go.IntKind.i64.wrap (x1 - (1 : Int))).toNat]?) fun x5 =>
            Option.bind (kV (x5.1, x5.2.1.1, x5.2.1.2, x5.2.2.1, x5.2.2.2.1, x5.2.2.2.2.1, x5.2.2.2.2.2) x2) fun x6 =>
             bif decide ((0 : Nat) = (0 : Nat) ∧ (0 : Nat) + List.length x0 ≤ (4398046511104 : Nat)) then
              bif decide ((0 : Int) ≤ Go.IntKind.i64.wrap (x1 - (1 : Int))) then
               bif decide ((Go.IntKind.i64.wrap (x1 - (1 : Int))).toNat < (0 : Nat) + List.length x0 ∧ ([] ++ x0).length = (0 : Nat) + List.length x0) then
                bif decide (([] ++ x0).length = (0 : Nat) + List.length x0) then
                 Option.bind (([] ++ x0)[(Go.IntKind.i64.wrap (x1 - (1 : Int))).toNat]?) fun x7 =>
                  bif decide ((([] ++ x0).set (Go.IntKind.i64.wrap (x1 - (1 : Int))).toNat (x6.1.1, (x6.1.2.1, x6.1.2.2.1), x6.1.2.2.2.1, x6.1.2.2.2.2.1, x6.1.2.2.2.2.2.1, x6.1.2.2.2.2.2.2)).length = (0 : Nat) + List.length x0) then
                   some ((([] ++ x0).set (Go.IntKind.i64.wrap (x1 - (1 : Int))).toNat (x6.1.1, (x6.1.2.1, x6.1.2.2.1), x6.1.2.2.2.1, x6.1.2.2.2.2.1, x6.1.2.2.2.2.2.1, x6.1.2.2.2.2.2.2)), x6.2)
                  else none
                else none
               else none
              else none
             else none
          else none
         else bif decide ((0 : Int) ≤ x1) then
           Option.bind (x0[Int.toNat x1]?) fun x5 =>
            Option.bind (kV (x5.1, x5.2.1.1, x5.2.1.2, x5.2.2.1, x5.2.2.2.1, x5.2.2.2.2.1, x5.2.2.2.2.2) x2) fun x6 =>
             bif decide ((0 : Nat) = (0 : Nat) ∧ (0 : Nat) + List.length x0 ≤ (4398046511104 : Nat)) then
              bif decide ((0 : Int) ≤ x1) then
               bif decide (Int.toNat x1 < (0 : Nat) + List.length x0 ∧ ([] ++ x0).length = (0 : Nat) + List.length x0) then
                bif decide (([] ++ x0).length = (0 : Nat) + List.length x0) then
                 Option.bind (([] ++ x0)[Int.toNat x1]?) fun x7 =>
                  bif decide ((([] ++ x0).set (Int.toNat x1) (x6.1.1, (x6.1.2.1, x6.1.2.2.1), x6.1.2.2.2.1, x6.1.2.2.2.2.1, x6.1.2.2.2.2.2.1, x6.1.2.2.2.2.2.2)).length = (0 : Nat) + List.length x0) then
                   some ((([] ++ x0).set (Int.toNat x1) (x6.1.1, (x6.1.2.1, x6.1.2.2.1), x6.1.2.2.2.1, x6.1.2.2.2.2.1, x6.1.2.2.2.2.2.1, x6.1.2.2.2.2.2.2)), x6.2)
                  else none
                else none
               else none
              else none
             else none
          else none
       else none
      else bif decide ((0 : Int) ≤ x1) then
        Option.bind (x0[Int.toNat x1]?) fun x4 =>
         Option.bind (kV (x4.1, x4.2.1.1, x4.2.1.2, x4.2.2.1, x4.2.2.2.1, x4.2.2.2.2.1, x4.2.2.2.2.2) x2) fun x5 =>
          bif decide ((0 : Nat) = (0 : Nat) ∧ (0 : Nat) + List.length x0 ≤ (4398046511104 : Nat)) then
           bif decide ((0 : Int) ≤ x1) then
            bif decide (Int.toNat x1 < (0 : Nat) + List.length x0 ∧ ([] ++ x0).length = (0 : Nat) + List.length x0) then
             bif decide (([] ++ x0).length = (0 : Nat) + List.length x0) then
              Option.bind (([] ++ x0)[Int.toNat x1]?) fun x6 =>
               bif decide ((([] ++ x0).set (Int.toNat x1) (x5.1.1, (x5.1.2.1, x5.1.2.2.1), x5.1.2.2.2.1, x5.1.2.2.2.2.1, x5.1.2.2.2.2.2.1, x5.1.2.2.2.2.2.2)).length = (0 : Nat) + List.length x0) then
                some ((([] ++ x0).set (Int.toNat x1) (x5.1.1, (x5.1.2.1, x5.1.2.2.1), x5.1.2.2.2.1, x5.1.2.2.2.2.1, x5.1.2.2.2.2.2.1, x5.1.2.2.2.2.2.2)), x5.2)
               else none
             else none
            else none
           else none
          else none
       else none
     else bif decide ((0 : Int) ≤ x1) then
       Option.bind (x0[Int.toNat x1]?) fun x4 =>
        Option.bind (kV (x4.1, x4.2.1.1, x4.2.1.2, x4.2.2.1, x4.2.2.2.1, x4.2.2.2.2.1, x4.2.2.2.2.2) x2) fun x5 =>
         bif decide ((0 : Nat) = (0 : Nat) ∧ (0 : Nat) + List.length x0 ≤ (4398046511104 : Nat)) then
          bif decide ((0 : Int) ≤ x1) then
           bif decide (Int.toNat x1 < (0 : Nat) + List.length x0 ∧ ([] ++ x0).length = (0 : Nat) + List.length x0) then
            bif decide (([] ++ x0).length = (0 : Nat) + List.length x0) then
             Option.bind (([] ++ x0)[Int.toNat x1]?) fun x6 =>
              bif decide ((([] ++ x0).set (Int.toNat x1) (x5.1.1, (x5.1.2.1, x5.1.2.2.1), x5.1.2.2.2.1, x5.1.2.2.2.2.1, x5.1.2.2.2.2.2.1, x5.1.2.2.2.2.2.2)).length = (0 : Nat) + List.length x0) then
               some ((([] ++ x0).set (Int.toNat x1) (x5.1.1, (x5.1.2.1, x5.1.2.2.1), x5.1.2.2.2.1, x5.1.2.2.2.2.1, x5.1.2.2.2.2.2.1, x5.1.2.2.2.2.2.2)), x5.2)
              else none
            else none
           else none
          else none
         else none
      else none
   else none
noncomputable def uh : TEnt := ⟨149, .cons (.sl Y2_) Y7_, [], [(.tup (.cons (.sl Y2_) .bool), [])], fun s => J1 s.1 s.2.1 s.2.2⟩
theorem a0n : qz Tryz.prog uh := qj (tab := [UM]) (loops := []) (joins := []) (un := []) _ (by
  intro e he
  simp only [List.mem_cons, List.not_mem_nil, or_false] at he
  rcases he with rfl
  ·exact a0B) (fun s => by kernel_rfl) (by kernel_rfl)
noncomputable def kp (x1 : Y0_) (x2 : Y0_) (x3 : Int) (x4 : Int) : Option ((Y0_ × xk) ⊕ Bool) :=
 bif decide (x4 < x3) then
  bif decide ((0 : Int) ≤ x4) then
   Option.bind (x2[x4.toNat]?) fun x5 =>
    Option.bind (wH x5.1 x5.2.1.1 x5.2.1.2 x5.2.2.1 x5.2.2.2.1 x5.2.2.2.2.1 x5.2.2.2.2.2) fun x6 =>
     bif !x6 then
      some (Sum.inr Bool.false)
     else Option.bind (wV x1 x4) fun x7 =>
       bif x7 then
        some (Sum.inr Bool.false)
       else bif x5.2.2.1 == (0 : Int) then
         bif decide ((0 : Int) ≤ Go.IntKind.i64.wrap (x4 - (1 : Int))) then
          Option.bind (x1[(Go.IntKind.i64.wrap (x4 - (1 : Int))).toNat]?) fun x8 =>
           bif !(x8.2.2.2.1 == x5.2.2.2.1 && (x8.2.2.2.2.1 == x5.2.2.2.2.1 && (x8.2.2.2.2.2 == x5.2.2.2.2.2 && Bool.true))) then
            some (Sum.inr Bool.false)
           else some (Sum.inl (x1, (x2, (x3, (Go.IntKind.i64.wrap (x4 + (1 : Int)))))))
         else none
        else some (Sum.inl (x1, (x2, (x3, (Go.IntKind.i64.wrap (x4 + (1 : Int)))))))
  else none
 else some (Sum.inr Bool.true)
noncomputable def w3 : (Y0_ × xk) → Option Bool := z3 fun s => kp s.1 s.2.1 s.2.2.1 s.2.2.2
noncomputable def wy (x0 : Y0_) : Option Bool :=
 Option.bind (w3 (x0, (x0, (((↑x0.length : Int)), ((0 : Int)))))) fun x1 =>
  some x1
noncomputable def KU : TEnt := ⟨63, .sl Y1_, [], [(.bool, [])], fun s => wy s⟩
theorem Jj : qz Tryz.prog KU := qj (tab := [KB, KL]) (loops := [(586, [0, 5, 6, 7], (.cons (.sl Y1_) (.cons (.sl Y1_) Y7_)), [])]) (joins := []) (un := []) _ (by
  intro e he
  simp only [List.mem_cons, List.not_mem_nil, or_false] at he
  rcases he with rfl | rfl
  ·exact Ja
  ·exact Je) (fun s => by kernel_rfl) (by kernel_rfl)
noncomputable def kG (x1 : Y0_) (x2 : Int) : Option ((Y0_ × Int) ⊕ Bool) :=
 bif decide (x2 < (↑(List.length x1) : Int)) then
  bif decide ((0 : Int) ≤ x2) then
   Option.bind (x1[x2.toNat]?) fun x3 =>
    Option.bind (yI x3.1 x3.2.1.1 x3.2.1.2 x3.2.2.1 x3.2.2.2.1 x3.2.2.2.2.1 x3.2.2.2.2.2) fun x4 =>
     bif !x4 then
      some (Sum.inr Bool.false)
     else Option.bind (yS x1 x2) fun x5 =>
       bif x5 then
        some (Sum.inr Bool.false)
       else bif decide ((0 : Int) ≤ x2) then
         Option.bind (x1[x2.toNat]?) fun x6 =>
          bif x6.2.2.1 == (0 : Int) then
           bif decide ((0 : Int) ≤ x2) then
            Option.bind (x1[x2.toNat]?) fun x7 =>
             bif decide ((0 : Int) ≤ Go.IntKind.i64.wrap (x2 - (1 : Int))) then
              Option.bind (x1[(Go.IntKind.i64.wrap (x2 - (1 : Int))).toNat]?) fun x8 =>
               bif !(x7.2.2.2.1 == x8.2.2.2.1 && (x7.2.2.2.2.1 == x8.2.2.2.2.1 && (x7.2.2.2.2.2 == x8.2.2.2.2.2 && Bool.true))) then
                some (Sum.inr Bool.false)
               else some (Sum.inl (x1, (Go.IntKind.i64.wrap (x2 + (1 : Int)))))
             else none
           else none
          else some (Sum.inl (x1, (Go.IntKind.i64.wrap (x2 + (1 : Int)))))
        else none
  else none
 else some (Sum.inr Bool.true)
noncomputable def wL : (Y0_ × Int) → Option Bool := z3 fun s => kG s.1 s.2
noncomputable def Za (x0 : Y0_) : Option Bool :=
 Option.bind (wL (x0, ((0 : Int)))) fun x1 =>
  some x1
noncomputable def xX : TEnt := ⟨157, .sl Y2_, [], [(.bool, [])], fun s => Za s⟩
theorem U8 : qz Tryz.prog xX := qj (tab := [Jr, Wl]) (loops := [(586, [0, 3], (.cons (.sl Y2_) (.int .i64)), [])]) (joins := []) (un := []) _ (by
  intro e he
  simp only [List.mem_cons, List.not_mem_nil, or_false] at he
  rcases he with rfl | rfl
  ·exact We
  ·exact Wx) (fun s => by kernel_rfl) (by kernel_rfl)
end Go.Sim
set_option maxRecDepth 100000
set_option maxHeartbeats 4000000
set_option linter.unusedVariables false
namespace Go.Sim
theorem yj (l : List qc) (h : l.length ≤ 1000000) : qL l = some l := by
 unfold qL
 have e : ([] : List qc) ++ l = l := rfl
 by_cases h0 : l.length = 0
 ·have : l = [] := List.length_eq_zero_iff.1 h0
  subst this
  simp [a6F]
 ·simp only [e]
  simp (disch := omega) only [qf, ql, cond_true, cond_false, true_and]
def kQ (n : Int) : Nat := (if n < 0 then 0 else if 512 < n then 512 else n).toNat
theorem vM (n : Int) : kQ n ≤ 512 := by unfold kQ; split <;> (try split) <;> omega
theorem a5G (n : Int) : jP n = some (kQ n : Int) := by
 unfold jP kQ
 by_cases h1 : n < 0
 ·simp [h1]
 ·by_cases h2 : 512 < n
  ·have : ¬ (0 : Int) > n := by omega
   simp [h1, h2]
  ·have : ¬ (0 : Int) > n := by omega
   simp [h1, h2]; omega
theorem XF (n : Int) : wM n = some (kQ n : Int) := by
 unfold wM kQ
 by_cases h1 : n < 0
 ·simp [h1]
 ·by_cases h2 : 512 < n
  ·simp [h1, h2]
  ·simp [h1, h2]; omega
def zf (a b c : Int) : qc := (32, (0, 0), 1, a, b, c)
theorem K2 {α : Type} (i : Nat) (x : α) : List.replicate i x ++ [x] = List.replicate (i + 1) x := by rw [List.replicate_succ']
theorem a5R (n : Nat) (hn : n ≤ 1000000) (a b c : Int) : ZU ((((n : Nat) : Int), (0 : Int)), (a, b, c), []) = some (List.replicate n (zf a b c)) := by
 refine zh (st := fun i => ((((n : Nat) : Int), ((i : Nat) : Int)), (a, b, c), List.replicate i (zf a b c))) (n := n) (fun i hi => ?_) ?_ 0 (by omega)
 ·show zq _ _ _ = _
  unfold zq
  simp only [wS]
  have e : ((i : Int) + 1) = ((i + 1 : Nat) : Int) := by omega
  have e2 : List.replicate i (zf a b c) ++ [((32 : Int), ((0 : Int), (0 : Int)), (1 : Int), a, b, c)] = List.replicate (i + 1) (zf a b c) := K2 i _
  simp (disch := omega) only [qf, q9, cond_true, Option.bind_some, List.length_append, List.length_cons, List.length_nil, decide_true, true_and, List.length_replicate, e2, e]
 ·show zq _ _ _ = _
  unfold zq
  simp (disch := omega) only [ql, q9, cond_true, cond_false, List.length_append, List.length_cons, List.length_nil, decide_true, true_and]
theorem Wb (n : Nat) (hn : n ≤ 1000000) (a b c : Int) : j8 (n : Int) a b c = some (List.replicate n (zf a b c)) := by
 unfold j8
 rw [a5R n hn]
 rfl
def km (n : Int) : List qc := List.replicate (kQ n) (zf 0 0 0)
theorem a1Q (n : Int) : QK n = some (km n) := by
 unfold QK
 rw [a5G]
 simp only [Option.bind_some]
 rw [Wb _ (by have := vM n; omega)]
 rfl
theorem u9 (n : Int) : ym n = some (km n) := by
 unfold ym
 have hl := vM n
 have : Va ((n, (0 : Int)), []) = some (List.replicate (kQ n) (zf 0 0 0)) := by
  refine zh (st := fun i => ((n, ((i : Nat) : Int)), List.replicate i (zf 0 0 0))) (n := kQ n) (fun i hi => ?_) ?_ 0 (by omega)
  ·show ku _ _ = _
   unfold ku
   simp only [zO, XF]
   have e : ((i : Int) + 1) = ((i + 1 : Nat) : Int) := by omega
   have e2 : List.replicate i (zf 0 0 0) ++ [((32 : Int), ((0 : Int), (0 : Int)), (1 : Int), (0 : Int), (0 : Int), (0 : Int))] = List.replicate (i + 1) (zf 0 0 0) := K2 i _
   simp (disch := omega) only [qf, q9, cond_true, Option.bind_some, List.length_append, List.length_cons, List.length_nil, decide_true, true_and, List.length_replicate, e2, e]
  ·show ku _ _ = _
   unfold ku
   simp only [XF]
   simp (disch := omega) only [ql, q9, cond_true, cond_false, Option.bind_some, List.length_append, List.length_cons, List.length_nil, decide_true, true_and]
 rw [this]
 rfl
def zC (l : List qc) (i : Nat) : Bool := match l[i]? with
 | none => false
 | some c => if c.2.2.1 = 2 then (match l[i + 1]? with
   | some d => d.2.2.1 != 0
   | none => true)
  else if c.2.2.1 = 0 then (if i = 0 then true else match l[i - 1]? with
   | some d => d.2.2.1 != 2
   | none => true)
  else false
theorem v5 {l : List qc} (hl : l.length ≤ 1000000) {i : Nat} (hi : i < l.length) : wV l (i : Int) = some (zC l i) := by
 obtain ⟨c, hc⟩ := qn hi
 unfold wV zC
 simp only [hc]
 have e1 : ((i : Int) + 1).toNat = i + 1 := by omega
 have e2 : ((i : Int) - 1).toNat = i - 1 := by omega
 by_cases h2 : c.2.2.1 = 2
 ·rw [if_pos h2]
  by_cases h3 : i + 1 < l.length
  ·obtain ⟨d, hd⟩ := qn h3
   simp only [hd]
   by_cases h4 : d.2.2.1 = 0
   ·simp (disch := omega) only [qf, ke, zg, a3D, q9, cond_true, cond_false, Option.bind_some, Int.toNat_natCast, Bool.not_true, hc, hd, e1, e2, h4]
   ·simp (disch := omega) only [qf, ke, zg, aeK, q9, cond_true, cond_false, Option.bind_some, Int.toNat_natCast, Bool.not_false, hc, hd, e1, e2]
  ·have hn : l[i + 1]? = none := List.getElem?_eq_none (by omega)
   simp only [hn]
   simp (disch := omega) only [qf, ql, ke, zg, q9, cond_true, cond_false, Option.bind_some, Int.toNat_natCast, hc, e1, e2]
 ·rw [if_neg h2]
  by_cases h0 : c.2.2.1 = 0
  ·rw [if_pos h0]
   by_cases hi0 : i = 0
   ·subst hi0
    rw [if_pos rfl]
    simp (disch := omega) only [qf, ql, ke, zg, q9, cond_true, cond_false, Option.bind_some, Int.toNat_natCast, hc]
   ·rw [if_neg hi0]
    obtain ⟨d, hd⟩ := qn (l := l) (i := i - 1) (by omega)
    simp only [hd]
    simp (disch := omega) only [qf, ke, zg, q9, cond_true, cond_false, Option.bind_some, Int.toNat_natCast, hc, hd, e1, e2]
    rfl
  ·rw [if_neg h0]
   simp (disch := omega) only [qf, zg, q9, cond_true, cond_false, Option.bind_some, Int.toNat_natCast, hc]
theorem VP {l : List qc} (hl : l.length ≤ 1000000) {i : Nat} (hi : i < l.length) : yS l (i : Int) = some (zC l i) := by
 obtain ⟨c, hc⟩ := qn hi
 unfold yS zC
 simp only [hc]
 have e1 : ((i : Int) + 1).toNat = i + 1 := by omega
 have e2 : ((i : Int) - 1).toNat = i - 1 := by omega
 by_cases h2 : c.2.2.1 = 2
 ·rw [if_pos h2]
  by_cases h3 : i + 1 < l.length
  ·obtain ⟨d, hd⟩ := qn h3
   simp only [hd]
   simp (disch := omega) only [qf, ke, zg, q9, cond_true, cond_false, Option.bind_some, Int.toNat_natCast, hc, hd, e1]
  ·have hn : l[i + 1]? = none := List.getElem?_eq_none (by omega)
   simp only [hn]
   simp (disch := omega) only [qf, ke, zg, q9, cond_true, cond_false, Option.bind_some, Int.toNat_natCast, hc, e1]
 ·rw [if_neg h2]
  by_cases h0 : c.2.2.1 = 0
  ·rw [if_pos h0]
   by_cases hi0 : i = 0
   ·subst hi0
    rw [if_pos rfl]
    simp (disch := omega) only [qf, ql, ke, zg, q9, cond_true, cond_false, Option.bind_some, Int.toNat_natCast, hc]
   ·rw [if_neg hi0]
    obtain ⟨d, hd⟩ := qn (l := l) (i := i - 1) (by omega)
    simp only [hd]
    simp (disch := omega) only [qf, ke, zg, q9, cond_true, cond_false, Option.bind_some, Int.toNat_natCast, hc, hd, e2]
  ·rw [if_neg h0]
   simp (disch := omega) only [qf, zg, q9, cond_true, cond_false, Option.bind_some, Int.toNat_natCast, hc]
def Yl (l : List qc) (i : Nat) (c : qc) : qc := if zC l i = true then zf c.2.2.2.1 c.2.2.2.2.1 c.2.2.2.2.2 else c
def zy (l : List qc) : List qc := l.mapIdx (Yl l)
theorem zX (l : List qc) : (zy l).length = l.length := by simp [zy]
theorem vE {l : List qc} {i : Nat} {c : qc} (h : l[i]? = some c) : (zy l)[i]? = some (Yl l i c) := by simp [zy, h]
theorem xo {l : List qc} {i : Nat} {c : qc} (h : l[i]? = some c) : (zy l).take i ++ [Yl l i c] = (zy l).take (i + 1) := (kg (vE h)).symm
theorem Ud {l : List qc} (hl : l.length ≤ 1000000) : yl l = some (zy l) := by
 unfold yl
 have : Yj ((l, (0 : Int)), []) = some (zy l) := by
  refine zh (st := fun i => ((l, ((i : Nat) : Int)), (zy l).take i)) (n := l.length) (fun i hi => ?_) ?_ 0 (by omega)
  ·obtain ⟨c, hc⟩ := qn hi
   have ht : ((zy l).take i).length = i := by rw [List.length_take, zX]; omega
   have e : ((i : Int) + 1) = ((i + 1 : Nat) : Int) := by omega
   have e2 := xo hc
   show k8 _ _ = _
   unfold k8
   simp only [zO]
   unfold Yl at e2
   cases ha : zC l i
   ·rw [ha] at e2
    simp only [Bool.false_eq_true, if_false] at e2
    have e3 : (zy l).take i ++ [(c.1, (c.2.1.1, c.2.1.2), c.2.2.1, c.2.2.2.1, c.2.2.2.2.1, c.2.2.2.2.2)] = (zy l).take (i + 1) := e2
    simp (disch := omega) only [qf, q9, cond_true, cond_false, Option.bind_some, Int.toNat_natCast, List.length_append, List.length_cons, List.length_nil, decide_true, true_and, hc, VP hl hi, ha, ht, e3, e]
   ·rw [ha] at e2
    simp only [if_true] at e2
    have e3 : (zy l).take i ++ [((32 : Int), ((0 : Int), (0 : Int)), (1 : Int), c.2.2.2.1, c.2.2.2.2.1, c.2.2.2.2.2)] = (zy l).take (i + 1) := e2
    simp (disch := omega) only [qf, q9, cond_true, Option.bind_some, Int.toNat_natCast, List.length_append, List.length_cons, List.length_nil, decide_true, true_and, hc, VP hl hi, ha, ht, e3, e]
  ·show k8 _ _ = _
   unfold k8
   have ht : (zy l).take l.length = zy l := List.take_of_length_le (by rw [zX]; omega)
   simp (disch := omega) only [qf, ql, q9, cond_true, cond_false, Int.toNat_natCast, List.length_append, List.length_cons, List.length_nil, decide_true, true_and, ht]
 rw [this]
 rfl
def jl (l : List qc) (i : Nat) : List qc := (zy l).take i ++ l.drop i
theorem uQ {l : List qc} {i : Nat} (h : i ≤ l.length) : (jl l i).length = l.length := by
 simp only [jl, List.length_append, List.length_take, zX, List.length_drop]; omega
theorem a8C {l : List qc} {i : Nat} (h : i < l.length) : (jl l i)[i]? = l[i]? := by
 unfold jl
 rw [List.getElem?_append_right (by rw [List.length_take, zX]; omega), List.length_take, zX, List.getElem?_drop]
 congr 1; omega
theorem a8r {l : List qc} {i : Nat} {c : qc} (h : l[i]? = some c) : (jl l i).set i (Yl l i c) = jl l (i + 1) := by
 have hi : i < l.length := (List.getElem?_eq_some_iff.1 h).1
 unfold jl
 rw [← xo h, XM h, List.set_append_right _ _ (by rw [List.length_take, zX]; omega), List.length_take, zX, show i - min i l.length = 0 by omega]
 simp
theorem a59 {l : List qc} {i : Nat} {c : qc} (h : l[i]? = some c) (ha : zC l i = false) : jl l i = jl l (i + 1) := by
 unfold jl
 rw [← xo h, XM h]
 simp [Yl, ha]
theorem a1l {l : List qc} (hl : l.length ≤ 1000000) : kn l = some (zy l) := by
 unfold kn
 have hdr : List.drop l.length (List.replicate l.length (((0 : Int), ((0 : Int), (0 : Int)), (0 : Int), (0 : Int), (0 : Int), (0 : Int)) : qc)) = [] := List.drop_eq_nil_of_le (by simp)
 have : Jv ((l, (l, ((l.length : Nat) : Int), (0 : Int))), l) = some (zy l) := by
  have h0 : l = jl l 0 := by simp [jl]
  have := zh (step := fun s => zl s.1 s.2) (st := fun i => ((l, (l, ((l.length : Nat) : Int), ((i : Nat) : Int))), jl l i)) (n := l.length) (t := zy l) (fun i hi => ?_) ?_ 0 (by omega)
  ·rw [← h0] at this; exact this
  ·obtain ⟨c, hc⟩ := qn hi
   have e : ((i : Int) + 1) = ((i + 1 : Nat) : Int) := by omega
   have ht := uQ (l := l) (i := i) (by omega)
   have hg := (a8C hi).trans hc
   have e2 := a8r hc
   show zl _ _ = _
   unfold zl
   simp only [wS]
   unfold Yl at e2
   cases ha : zC l i
   ·simp (disch := omega) only [qf, q9, cond_true, Option.bind_some, Int.toNat_natCast, Bool.not_false, decide_true, and_true, hc, v5 hl hi, ha, e]
    rw [a59 hc ha]
   ·rw [ha] at e2
    simp only [if_true] at e2
    have e3 : (jl l i).set i ((32 : Int), ((0 : Int), (0 : Int)), (1 : Int), c.2.2.2.1, c.2.2.2.2.1, c.2.2.2.2.2) = jl l (i + 1) := e2
    have ht2 := uQ (l := l) (i := i + 1) (by omega)
    simp (disch := omega) only [qf, q9, cond_true, cond_false, Option.bind_some, Int.toNat_natCast, Bool.not_true, decide_true, and_true, hc, v5 hl hi, ha, ht, hg, e3, ht2, e]
  ·show zl _ _ = _
   unfold zl
   have ht : jl l l.length = zy l := by
    unfold jl
    rw [List.drop_eq_nil_of_le (Nat.le_refl _), List.append_nil]
    exact List.take_of_length_le (by rw [zX]; omega)
   simp (disch := omega) only [qf, ql, q9, cond_true, cond_false, Int.toNat_natCast, decide_true, and_true, ht]
 simp only [Int.toNat_natCast, hdr, List.append_nil]
 simp (disch := omega) only [qf, cond_true, decide_true, true_and, List.length_replicate]
 rw [this]
 rfl
end Go.Sim
set_option maxRecDepth 100000
set_option maxHeartbeats 4000000
set_option linter.unusedVariables false
namespace Go.Sim
def JU (l : List qc) (k : Nat) (s : List qc) : List qc := l.take k ++ s ++ l.drop (k + s.length)
theorem aaL {l s : List qc} {k : Nat} (h : k + s.length ≤ l.length) : (JU l k s).length = l.length := by
 simp only [JU, List.length_append, List.length_take, List.length_drop]; omega
theorem xi {l s : List qc} {k : Nat} (hl : l.length ≤ 1000000) (h : k + s.length ≤ l.length) : kU l (k : Int) s = some (zy (JU l k s)) := by
 have hm := a1l (l := JU l k s) (by rw [aaL h]; omega)
 unfold JU at hm ⊢
 unfold kU
 have w : IntKind.i64.wrap ((k : Int) + (s.length : Int)) = ((k + s.length : Nat) : Int) := by rw [q9 (by omega) (by omega)]; omega
 simp only [w, Int.toNat_natCast, Nat.sub_zero, List.drop_zero]
 by_cases h0 : k = 0
 ·subst h0
  simp only [List.take_zero, List.nil_append] at hm ⊢
  simp (disch := omega) only [qf, cond_true, Option.bind_some, List.length_append, List.length_nil, true_and, List.length_drop, hm]
 ·by_cases hs : s.length = 0
  ·have : s = [] := List.length_eq_zero_iff.1 hs
   subst this
   simp only [List.length_nil, Nat.add_zero, List.append_nil] at hm ⊢
   by_cases hd : k = l.length
   ·have hd0 : List.drop k l = [] := List.drop_eq_nil_of_le (by omega)
    rw [hd0, List.append_nil] at hm
    simp (disch := omega) only [qf, ql, cond_true, cond_false, Option.bind_some, List.length_nil, decide_true, true_and, List.length_take, hm, hd0, List.append_nil]
   ·simp (disch := omega) only [qf, ql, cond_true, cond_false, Option.bind_some, List.length_append, List.length_nil, decide_true, true_and, List.length_drop, List.length_take, hm]
  ·simp (disch := omega) only [qf, ql, cond_true, cond_false, Option.bind_some, List.length_append, List.length_nil, decide_true, true_and, List.length_drop, List.length_take, hm]
def J8 (c : qc) : qc := (0, (0, 0), 0, c.2.2.2.1, c.2.2.2.2.1, c.2.2.2.2.2)
def jX (l : List qc) (k : Nat) (c : qc) : List qc := if c.2.2.1 = 2 then (l.set k c).set (k + 1) (J8 c) else l.set k c
theorem UB (l : List qc) (k : Nat) (c : qc) : (jX l k c).length = l.length := by unfold jX; split <;> simp
def jj (l : List qc) (k : Int) (c : qc) : List qc × Bool :=
 if c.2.2.1 ≠ 0 ∧ zi c = true ∧ 0 ≤ k ∧ k < l.length ∧ c.2.2.1 ≤ (l.length : Int) - k then (zy (jX l k.toNat c), true) else (l, false)
theorem a3f {c : qc} (h : zi c = true) : c.2.2.1 ≤ 2 := by
 unfold zi at h
 simp only [Bool.and_eq_true] at h
 have h2 := h.2
 split at h2
 ·omega
 ·simp only [Bool.and_eq_true, decide_eq_true_eq] at h2; exact h2.1
theorem aiu {l : List qc} {k : Nat} (c : qc) (h : k < l.length) : JU l k [c] = l.set k c := by
 unfold JU
 rw [List.set_eq_take_append_cons_drop, if_pos h]
 simp
theorem ai2 {l : List qc} {k : Nat} (c d : qc) (h : k + 1 < l.length) : JU l k [c, d] = (l.set k c).set (k + 1) d := by
 refine List.ext_getElem? fun i => ?_
 unfold JU
 rw [List.getElem?_set, List.getElem?_set, List.length_set]
 by_cases h1 : i < k
 ·rw [if_neg (by omega), if_neg (by omega), List.append_assoc, List.getElem?_append_left (by rw [List.length_take]; omega), List.getElem?_take, if_pos h1]
 ·by_cases h2 : i = k
  ·subst h2
   rw [if_neg (by omega), if_pos rfl, if_pos (by omega), List.append_assoc, List.getElem?_append_right (by rw [List.length_take]; omega), List.length_take, show i - min i l.length = 0 by omega]
   rfl
  ·by_cases h3 : i = k + 1
   ·subst h3
    rw [if_pos rfl, if_pos h, List.append_assoc, List.getElem?_append_right (by rw [List.length_take]; omega), List.length_take, show k + 1 - min k l.length = 1 by omega]
    rfl
   ·rw [if_neg (by omega), if_neg (by omega), List.getElem?_append_right (by simp [List.length_take]; omega), List.getElem?_drop]
    congr 1
    simp [List.length_take]; omega
theorem abQ {l : List qc} {k : Int} {c : qc} (hl : l.length ≤ 1000000) (hk : -9223372036854775808 ≤ k ∧ k < 9223372036854775808) (h : OkC c) :
  KF l k c.1 c.2.1.1 c.2.1.2 c.2.2.1 c.2.2.2.1 c.2.2.2.2.1 c.2.2.2.2.2 = some (jj l k c) := by
 have hw := h.w
 simp only [u8r] at hw
 have hcl := yj l hl
 unfold KF jj
 simp only [UL h, yO]
 by_cases h0 : c.2.2.1 = 0
 ·rw [if_neg (by simp [h0])]
  simp (disch := omega) only [ke, zg, q9, cond_true, cond_false, Option.bind_some, decide_true, hcl]
 ·cases hr : zi c
  ·rw [if_neg (by simp)]
   simp (disch := omega) only [zg, q9, cond_true, cond_false, Option.bind_some, Bool.not_false, decide_true, hcl]
  ·have hw2 := a3f hr
   by_cases h1 : k < 0
   ·rw [if_neg (by omega)]
    simp (disch := omega) only [qf, ql, zg, q9, cond_true, cond_false, Option.bind_some, Bool.not_true, decide_true, hcl]
   ·by_cases h2 : (l.length : Int) ≤ k
    ·rw [if_neg (by omega)]
     simp (disch := omega) only [qf, ql, zg, q9, cond_true, cond_false, Option.bind_some, Bool.not_true, decide_true, hcl]
    ·obtain ⟨n, rfl⟩ : ∃ n : Nat, k = n := ⟨k.toNat, by omega⟩
     by_cases h3 : (l.length : Int) - n < c.2.2.1
     ·rw [if_neg (by omega)]
      simp (disch := omega) only [qf, ql, ke, zg, q9, cond_true, cond_false, Option.bind_some, Bool.not_true, decide_true, hcl]
     ·rw [if_pos ⟨h0, rfl, by omega, by omega, by omega⟩]
      unfold jX
      by_cases h4 : c.2.2.1 = 2
      ·rw [if_pos h4]
       have e := xi (l := l) (s := [c, J8 c]) (k := n) hl (by simp; omega)
       rw [ai2 _ _ (by omega)] at e
       have e2 : kU l (n : Int) [(c.1, (c.2.1.1, c.2.1.2), c.2.2.1, c.2.2.2.1, c.2.2.2.2.1, c.2.2.2.2.2), (0, (0, 0), 0, c.2.2.2.1, c.2.2.2.2.1, c.2.2.2.2.2)] = some (zy ((l.set n c).set (n + 1) (J8 c))) := e
       simp (disch := omega) only [ql, ke, zg, q9, cond_true, cond_false, Option.bind_some, Int.toNat_natCast, Bool.not_true, decide_true, e2]
      ·rw [if_neg h4]
       have e := xi (l := l) (s := [c]) (k := n) hl (by simp; omega)
       rw [aiu _ (by omega)] at e
       have e2 : kU l (n : Int) [(c.1, (c.2.1.1, c.2.1.2), c.2.2.1, c.2.2.2.1, c.2.2.2.2.1, c.2.2.2.2.2)] = some (zy (l.set n c)) := e
       simp (disch := omega) only [ql, zg, q9, cond_true, cond_false, Option.bind_some, Int.toNat_natCast, Bool.not_true, decide_true, e2]
theorem a2U {l : List qc} {n : Nat} {c : qc} (hl : l.length ≤ 1000000) (hn : n < l.length) : Qg ((l, ((n : Int), (0 : Int))), jk c, []) = some (zy (jX l n c), true) := by
 have hT := UB l n c
 refine zh (st := fun i => ((l, ((n : Int), ((i : Nat) : Int))), jk c, (jX l n c).take i)) (n := l.length) (fun i hi => ?_) ?_ 0 (by omega)
 ·obtain ⟨d, hd⟩ := qn hi
  have ht : ((jX l n c).take i).length = i := by rw [List.length_take, hT]; omega
  have e : ((i : Int) + 1) = ((i + 1 : Nat) : Int) := by omega
  show ky _ _ _ = _
  unfold ky jk
  simp only [YZ]
  by_cases h1 : i = n
  ·subst h1
   have hg : (jX l i c)[i]? = some c := by
    unfold jX; split <;> simp [hi]
   have e3 : (jX l i c).take i ++ [(c.1, (c.2.1.1, c.2.1.2), c.2.2.1, c.2.2.2.1, c.2.2.2.2.1, c.2.2.2.2.2)] = (jX l i c).take (i + 1) := (kg hg).symm
   have ht1 : ((jX l i c).take (i + 1)).length = i + 1 := by rw [List.length_take, hT]; omega
   simp (disch := omega) only [qf, ke, zg, q9, cond_true, cond_false, Option.bind_some, Int.toNat_natCast, List.length_append, List.length_cons, List.length_nil, decide_true, true_and, ht, e3, e, ht1]
  ·by_cases h2 : i = n + 1
   ·subst h2
    by_cases h3 : c.2.2.1 = 2
    ·have hg : (jX l n c)[n + 1]? = some (J8 c) := by
      unfold jX; rw [if_pos h3]; simp [hi]
     have e3 : (jX l n c).take (n + 1) ++ [((0 : Int), ((0 : Int), (0 : Int)), (0 : Int), c.2.2.2.1, c.2.2.2.2.1, c.2.2.2.2.2)] = (jX l n c).take (n + 1 + 1) := (kg hg).symm
     simp (disch := omega) only [qf, ke, zg, q9, cond_true, cond_false, Option.bind_some, Int.toNat_natCast, List.length_append, List.length_cons, List.length_nil, decide_true, true_and, ht, e3, e]
    ·have hg : (jX l n c)[n + 1]? = some d := by
      unfold jX; rw [if_neg h3]; rw [List.getElem?_set_ne (by omega)]; exact hd
     have e3 : (jX l n c).take (n + 1) ++ [(d.1, (d.2.1.1, d.2.1.2), d.2.2.1, d.2.2.2.1, d.2.2.2.2.1, d.2.2.2.2.2)] = (jX l n c).take (n + 1 + 1) := (kg hg).symm
     simp (disch := omega) only [qf, ke, zg, q9, cond_true, cond_false, Option.bind_some, Int.toNat_natCast, List.length_append, List.length_cons, List.length_nil, decide_true, true_and, hd, ht, e3, e]
   ·have hg : (jX l n c)[i]? = some d := by
     unfold jX; split
     ·rw [List.getElem?_set_ne (by omega), List.getElem?_set_ne (by omega)]; exact hd
     ·rw [List.getElem?_set_ne (by omega)]; exact hd
    have e3 : (jX l n c).take i ++ [(d.1, (d.2.1.1, d.2.1.2), d.2.2.1, d.2.2.2.1, d.2.2.2.2.1, d.2.2.2.2.2)] = (jX l n c).take (i + 1) := (kg hg).symm
    simp (disch := omega) only [qf, zg, q9, cond_true, cond_false, Option.bind_some, Int.toNat_natCast, List.length_append, List.length_cons, List.length_nil, decide_true, true_and, hd, ht, e3, e]
 ·show ky _ _ _ = _
  unfold ky
  have ht : (jX l n c).take l.length = jX l n c := List.take_of_length_le (by rw [hT]; omega)
  have hm := Ud (l := jX l n c) (by rw [hT]; omega)
  simp (disch := omega) only [qf, ql, zg, q9, cond_true, cond_false, Option.bind_some, Int.toNat_natCast, List.length_append, List.length_cons, List.length_nil, decide_true, true_and, ht, hm]
theorem afT {l : List qc} {k : Int} {c : qc} (hl : l.length ≤ 1000000) (hk : -9223372036854775808 ≤ k ∧ k < 9223372036854775808) (h : OkC c) :
  WX l k c.1 c.2.1.1 c.2.1.2 c.2.2.1 c.2.2.2.1 c.2.2.2.2.1 c.2.2.2.2.2 = some (jj l k c) := by
 have hw := h.w
 simp only [u8r] at hw
 unfold WX jj
 simp only [a1X h]
 cases hr : zi c
 ·rw [if_neg (by simp)]
  simp (disch := omega) only [q9, cond_true, Option.bind_some, Bool.not_false]
 ·have hw2 := a3f hr
  by_cases h0 : c.2.2.1 = 0
  ·rw [if_neg (by simp [h0])]
   simp (disch := omega) only [ke, zg, q9, cond_true, cond_false, Option.bind_some, Bool.not_true]
  ·by_cases h1 : k < 0
   ·rw [if_neg (by omega)]
    simp (disch := omega) only [qf, ql, zg, q9, cond_true, cond_false, Option.bind_some, Bool.not_true]
   ·by_cases h2 : (l.length : Int) ≤ k
    ·rw [if_neg (by omega)]
     simp (disch := omega) only [qf, ql, zg, q9, cond_true, cond_false, Option.bind_some, Bool.not_true]
    ·obtain ⟨n, rfl⟩ : ∃ n : Nat, k = n := ⟨k.toNat, by omega⟩
     have e : Qg ((l, ((n : Int), (0 : Int))), (c.1, c.2.1.1, c.2.1.2, c.2.2.1, c.2.2.2.1, c.2.2.2.2.1, c.2.2.2.2.2), []) = some (zy (jX l n c), true) := a2U (c := c) hl (by omega)
     by_cases h4 : c.2.2.1 = 2
     ·by_cases h5 : (n : Int) = l.length - 1
      ·rw [if_neg (by omega)]
       simp (disch := omega) only [ql, ke, zg, q9, cond_true, cond_false, Option.bind_some, Bool.not_true]
      ·rw [if_pos ⟨h0, rfl, by omega, by omega, by omega⟩]
       simp (disch := omega) only [ql, ke, zg, q9, cond_true, cond_false, Option.bind_some, Int.toNat_natCast, Bool.not_true, e]
     ·rw [if_pos ⟨h0, rfl, by omega, by omega, by omega⟩]
      simp (disch := omega) only [ql, zg, q9, cond_false, Option.bind_some, Int.toNat_natCast, Bool.not_true, e]
end Go.Sim
set_option maxRecDepth 100000
set_option maxHeartbeats 4000000
set_option linter.unusedVariables false
namespace Go.Sim
def Zr (l : List qc) (n : Nat) : Nat := match l[n]?, l[n - 1]? with
 | some c, some d => if c.2.2.1 = 0 ∧ 0 < n ∧ d.2.2.1 = 2 then n - 1 else n
 | _, _ => n
def jS (l : List qc) (k : Int) (m : Int) : List qc × Bool :=
 if 0 ≤ k ∧ k < l.length then (match l[Zr l k.toNat]? with
  | some c => (l.set (Zr l k.toNat) (j5 c m).1, (j5 c m).2)
  | none => (l, false)) else (l, false)
theorem a5H {l : List qc} (hl : l.length ≤ 1000000) (k m : Int) (hk : -9223372036854775808 ≤ k ∧ k < 9223372036854775808) : Zl l k m = some (jS l k m) := by
 have hcl := yj l hl
 unfold Zl jS
 by_cases h1 : k < 0
 ·rw [if_neg (by omega)]
  simp (disch := omega) only [qf, ql, cond_true, cond_false, Option.bind_some, decide_true, and_true, hcl]
 ·by_cases h2 : (l.length : Int) ≤ k
  ·rw [if_neg (by omega)]
   simp (disch := omega) only [qf, ql, q9, cond_true, cond_false, Option.bind_some, decide_true, and_true, hcl]
  ·obtain ⟨n, rfl⟩ : ∃ n : Nat, k = n := ⟨k.toNat, by omega⟩
   rw [if_pos ⟨by omega, by omega⟩]
   obtain ⟨c, hc⟩ := qn (l := l) (i := n) (by omega)
   obtain ⟨d, hd⟩ := qn (l := l) (i := n - 1) (by omega)
   have e2 : ((n : Int) - 1).toNat = n - 1 := by omega
   have ec : kr (c.1, c.2.1.1, c.2.1.2, c.2.2.1, c.2.2.2.1, c.2.2.2.2.1, c.2.2.2.2.2) m = some (jk (j5 c m).1, (j5 c m).2) := UJ c m
   have ed : kr (d.1, d.2.1.1, d.2.1.2, d.2.2.1, d.2.2.2.1, d.2.2.2.2.1, d.2.2.2.2.2) m = some (jk (j5 d m).1, (j5 d m).2) := UJ d m
   by_cases h3 : c.2.2.1 = 0 ∧ 0 < n ∧ d.2.2.1 = 2
   ·have ha : Zr l n = n - 1 := by unfold Zr; simp only [hc, hd]; rw [if_pos h3]
    obtain ⟨h3a, h3b, h3c⟩ := h3
    rw [Int.toNat_natCast, ha]
    simp only [hd]
    simp (disch := omega) only [qf, ql, ke, q9, cond_true, cond_false, Option.bind_some, decide_true, and_true, hcl, hc, hd, e2, ed, List.length_set]
    rfl
   ·have ha : Zr l n = n := by unfold Zr; simp only [hc, hd]; rw [if_neg h3]
    rw [Int.toNat_natCast, ha]
    simp only [hc]
    by_cases h4 : c.2.2.1 = 0
    ·by_cases h5 : 0 < n
     ·have h6 : d.2.2.1 ≠ 2 := fun q => h3 ⟨h4, h5, q⟩
      simp (disch := omega) only [qf, ql, ke, zg, q9, cond_true, cond_false, Option.bind_some, decide_true, and_true, hcl, hc, hd, e2, ec, List.length_set]
      rfl
     ·simp (disch := omega) only [qf, ql, ke, q9, cond_true, cond_false, Option.bind_some, decide_true, and_true, hcl, hc, hd, e2, ec, List.length_set]
      rfl
    ·simp (disch := omega) only [qf, ql, zg, q9, cond_true, cond_false, Option.bind_some, decide_true, and_true, hcl, hc, hd, e2, ec, List.length_set]
     rfl
theorem a6C {l : List qc} (hl : l.length ≤ 1000000) (k m : Int) (hk : -9223372036854775808 ≤ k ∧ k < 9223372036854775808) : J1 l k m = some (jS l k m) := by
 unfold J1 jS
 have en : ([] : List qc) ++ l = l := rfl
 simp only [en]
 by_cases h1 : k < 0
 ·rw [if_neg (by omega)]
  simp (disch := omega) only [qf, ql, cond_true, cond_false, true_and]
 ·by_cases h2 : (l.length : Int) ≤ k
  ·rw [if_neg (by omega)]
   simp (disch := omega) only [qf, ql, q9, cond_true, cond_false, true_and]
  ·obtain ⟨n, rfl⟩ : ∃ n : Nat, k = n := ⟨k.toNat, by omega⟩
   rw [if_pos ⟨by omega, by omega⟩]
   obtain ⟨c, hc⟩ := qn (l := l) (i := n) (by omega)
   obtain ⟨d, hd⟩ := qn (l := l) (i := n - 1) (by omega)
   have e2 : ((n : Int) - 1).toNat = n - 1 := by omega
   have ec : kV (c.1, c.2.1.1, c.2.1.2, c.2.2.1, c.2.2.2.1, c.2.2.2.2.1, c.2.2.2.2.2) m = some (jk (j5 c m).1, (j5 c m).2) := a5A c m
   have ed : kV (d.1, d.2.1.1, d.2.1.2, d.2.2.1, d.2.2.2.1, d.2.2.2.2.1, d.2.2.2.2.2) m = some (jk (j5 d m).1, (j5 d m).2) := a5A d m
   by_cases h3 : c.2.2.1 = 0 ∧ 0 < n ∧ d.2.2.1 = 2
   ·have ha : Zr l n = n - 1 := by unfold Zr; simp only [hc, hd]; rw [if_pos h3]
    obtain ⟨h3a, h3b, h3c⟩ := h3
    rw [Int.toNat_natCast, ha]
    simp only [hd]
    simp (disch := omega) only [qf, ql, ke, q9, cond_true, cond_false, Option.bind_some, true_and, hc, hd, e2, ed, List.length_set]
    rfl
   ·have ha : Zr l n = n := by unfold Zr; simp only [hc, hd]; rw [if_neg h3]
    rw [Int.toNat_natCast, ha]
    simp only [hc]
    by_cases h4 : c.2.2.1 = 0
    ·by_cases h5 : 0 < n
     ·have h6 : d.2.2.1 ≠ 2 := fun q => h3 ⟨h4, h5, q⟩
      simp (disch := omega) only [qf, ql, ke, zg, q9, cond_true, cond_false, Option.bind_some, true_and, hd, e2, ec, List.length_set]
      rfl
     ·simp (disch := omega) only [qf, ql, ke, q9, cond_true, cond_false, Option.bind_some, true_and, hd, e2, ec, List.length_set]
      rfl
    ·simp (disch := omega) only [qf, ql, zg, q9, cond_true, cond_false, Option.bind_some, true_and, hd, e2, ec, List.length_set]
     rfl
def wb (l : List qc) (f t a b c : Int) : List qc := l.mapIdx fun i d => if f ≤ (i : Int) ∧ (i : Int) < t then zf a b c else d
theorem ZH (l : List qc) (f t a b c : Int) : (wb l f t a b c).length = l.length := by simp [wb]
theorem Vp {l : List qc} {f t a b c : Int} {i : Nat} {d : qc} (h : l[i]? = some d) : (wb l f t a b c)[i]? = some (if f ≤ (i : Int) ∧ (i : Int) < t then zf a b c else d) := by simp [wb, h]
theorem adf (l : List qc) (f t a b c : Int) : JU l (min f.toNat l.length) (List.replicate (min t.toNat l.length - min f.toNat l.length) (zf a b c)) = wb l f t a b c := by
 refine List.ext_getElem? fun i => ?_
 unfold JU
 by_cases hi : i < l.length
 ·obtain ⟨d, hd⟩ := qn hi
  rw [Vp hd]
  by_cases h1 : i < min f.toNat l.length
  ·rw [if_neg (by omega), List.append_assoc, List.getElem?_append_left (by rw [List.length_take]; omega), List.getElem?_take, if_pos h1]; exact hd
  ·by_cases h2 : i < min t.toNat l.length
   ·rw [if_pos (by omega), List.append_assoc, List.getElem?_append_right (by rw [List.length_take]; omega), List.length_take, List.getElem?_append_left (by rw [List.length_replicate]; omega), List.getElem?_replicate, if_pos (by omega)]
   ·rw [if_neg (by omega), List.getElem?_append_right (by simp only [List.length_append, List.length_take, List.length_replicate]; omega), List.getElem?_drop]
    rw [← hd]
    congr 1
    simp only [List.length_append, List.length_take, List.length_replicate]; omega
 ·rw [List.getElem?_eq_none (by simp only [List.length_append, List.length_take, List.length_replicate, List.length_drop]; omega), List.getElem?_eq_none (by rw [ZH]; omega)]
theorem a58 {l : List qc} (hl : l.length ≤ 1000000) (f t a b c : Int) : wz l f t a b c = some (zy (wb l f t a b c)) := by
 have hf : ∀ x : Int, (if (l.length : Int) < if (0 : Int) > x then (0 : Int) else x then (l.length : Int) else if (0 : Int) > x then (0 : Int) else x) = ((min x.toNat l.length : Nat) : Int) := by
  intro x
  by_cases h1 : (0 : Int) > x
  ·simp only [h1, if_true]; rw [if_neg (by omega)]; omega
  ·simp only [h1, if_false]; split <;> omega
 unfold wz
 simp only [hf]
 have hw : IntKind.i64.wrap (((min t.toNat l.length : Nat) : Int) - ((min f.toNat l.length : Nat) : Int)) = ((min t.toNat l.length : Nat) : Int) - ((min f.toNat l.length : Nat) : Int) := q9 (by omega) (by omega)
 have hk : (if ((min t.toNat l.length : Nat) : Int) - ((min f.toNat l.length : Nat) : Int) > (0 : Int) then ((min t.toNat l.length : Nat) : Int) - ((min f.toNat l.length : Nat) : Int) else (0 : Int)) = ((min t.toNat l.length - min f.toNat l.length : Nat) : Int) := by split <;> omega
 simp only [hw, hk]
 rw [Wb _ (by omega)]
 simp only [Option.bind_some]
 rw [xi hl (by rw [List.length_replicate]; omega), adf]
 rfl
theorem a9G {l : List qc} (hl : l.length ≤ 1000000) (f t a b c : Int) : wx l f t a b c = some (zy (wb l f t a b c)) := by
 unfold wx
 have hT := ZH l f t a b c
 have : JX ((l, (f, (t, (0 : Int)))), (a, b, c), []) = some (zy (wb l f t a b c)) := by
  refine zh (st := fun i => ((l, (f, (t, ((i : Nat) : Int)))), (a, b, c), (wb l f t a b c).take i)) (n := l.length) (fun i hi => ?_) ?_ 0 (by omega)
  ·obtain ⟨d, hd⟩ := qn hi
   have ht : ((wb l f t a b c).take i).length = i := by rw [List.length_take, hT]; omega
   have ht1 : ((wb l f t a b c).take (i + 1)).length = i + 1 := by rw [List.length_take, hT]; omega
   have e : ((i : Int) + 1) = ((i + 1 : Nat) : Int) := by omega
   have hg := Vp (f := f) (t := t) (a := a) (b := b) (c := c) hd
   show zI _ _ _ = _
   unfold zI
   simp only [zO]
   by_cases h1 : f ≤ (i : Int)
   ·by_cases h2 : (i : Int) < t
    ·rw [if_pos ⟨h1, h2⟩] at hg
     have e3 : (wb l f t a b c).take i ++ [((32 : Int), ((0 : Int), (0 : Int)), (1 : Int), a, b, c)] = (wb l f t a b c).take (i + 1) := (kg hg).symm
     simp (disch := omega) only [qf, q9, cond_true, Option.bind_some, Int.toNat_natCast, List.length_append, List.length_cons, List.length_nil, decide_true, true_and, hd, ht, e3, e]
    ·rw [if_neg (fun q => h2 q.2)] at hg
     have e3 : (wb l f t a b c).take i ++ [(d.1, (d.2.1.1, d.2.1.2), d.2.2.1, d.2.2.2.1, d.2.2.2.2.1, d.2.2.2.2.2)] = (wb l f t a b c).take (i + 1) := (kg hg).symm
     simp (disch := omega) only [qf, ql, q9, cond_true, cond_false, Option.bind_some, Int.toNat_natCast, List.length_append, List.length_cons, List.length_nil, decide_true, true_and, hd, ht, e3, e]
   ·rw [if_neg (fun q => h1 q.1)] at hg
    have e3 : (wb l f t a b c).take i ++ [(d.1, (d.2.1.1, d.2.1.2), d.2.2.1, d.2.2.2.1, d.2.2.2.2.1, d.2.2.2.2.2)] = (wb l f t a b c).take (i + 1) := (kg hg).symm
    simp (disch := omega) only [qf, ql, q9, cond_true, cond_false, Option.bind_some, Int.toNat_natCast, List.length_append, List.length_cons, List.length_nil, decide_true, true_and, hd, ht, e3, e]
  ·show zI _ _ _ = _
   unfold zI
   have ht : (wb l f t a b c).take l.length = wb l f t a b c := List.take_of_length_le (by rw [hT]; omega)
   have hm := Ud (l := wb l f t a b c) (by rw [hT]; omega)
   simp (disch := omega) only [qf, ql, q9, cond_true, cond_false, Option.bind_some, Int.toNat_natCast, List.length_append, List.length_cons, List.length_nil, decide_true, true_and, ht, hm]
 rw [this]
 rfl
def yF (l : List qc) (n : Nat) : List qc := (List.range n).map fun i => l[i]?.getD (zf 0 0 0)
theorem wI (l : List qc) (n : Nat) : (yF l n).length = n := by simp [yF]
theorem W3 (l : List qc) {n i : Nat} (h : i < n) : (yF l n)[i]? = some (l[i]?.getD (zf 0 0 0)) := by simp [yF, h]
theorem adH {l : List qc} {n : Nat} (h : n ≤ l.length) : l.take n = yF l n := by
 refine List.ext_getElem? fun i => ?_
 by_cases hi : i < n
 ·obtain ⟨d, hd⟩ := qn (l := l) (i := i) (by omega)
  rw [List.getElem?_take, if_pos hi, W3 l hi, hd]; rfl
 ·rw [List.getElem?_eq_none (by rw [List.length_take]; omega), List.getElem?_eq_none (by rw [wI]; omega)]
theorem ade {l : List qc} {n : Nat} (h : l.length ≤ n) : l ++ List.replicate (n - l.length) (zf 0 0 0) = yF l n := by
 refine List.ext_getElem? fun i => ?_
 by_cases hi : i < n
 ·rw [W3 l hi]
  by_cases h2 : i < l.length
  ·obtain ⟨d, hd⟩ := qn h2
   rw [List.getElem?_append_left h2, hd]; rfl
  ·rw [List.getElem?_append_right (by omega), List.getElem?_replicate, if_pos (by omega), List.getElem?_eq_none (by omega)]; rfl
 ·rw [List.getElem?_eq_none (by simp only [List.length_append, List.length_replicate]; omega), List.getElem?_eq_none (by rw [wI]; omega)]
theorem acQ {l : List qc} (hl : l.length ≤ 1000000) (n : Int) : KG l n = some (zy (yF l (kQ n))) := by
 have hn := vM n
 have hm := a1l (l := yF l (kQ n)) (by rw [wI]; omega)
 unfold KG
 rw [a5G]
 by_cases h : kQ n ≤ l.length
 ·have e := adH h
  simp (disch := omega) only [qf, q9, cond_true, Option.bind_some, Int.toNat_natCast, List.length_append, decide_true, true_and, e, hm]
 ·have e := ade (l := l) (n := kQ n) (by omega)
  have hw : IntKind.i64.wrap (((kQ n : Nat) : Int) - ((l.length : Nat) : Int)) = ((kQ n - l.length : Nat) : Int) := by rw [q9 (by omega) (by omega)]; omega
  have hb := Wb (kQ n - l.length) (by omega) 0 0 0
  have hcl := yj l hl
  have e2 := wI l (kQ n)
  simp (disch := omega) only [qf, ql, cond_true, cond_false, Option.bind_some, Int.toNat_natCast, List.length_append, decide_true, true_and, hw, hcl, hb, e, hm, List.length_replicate]
theorem afg {l : List qc} (hl : l.length ≤ 1000000) (n : Int) : WL l n = some (zy (yF l (kQ n))) := by
 have hn := vM n
 unfold WL
 have hT := wI l (kQ n)
 have : vK ((l, (n, (0 : Int))), []) = some (zy (yF l (kQ n))) := by
  refine zh (st := fun i => ((l, (n, ((i : Nat) : Int))), (yF l (kQ n)).take i)) (n := kQ n) (fun i hi => ?_) ?_ 0 (by omega)
  ·have ht : ((yF l (kQ n)).take i).length = i := by rw [List.length_take, hT]; omega
   have ht1 : ((yF l (kQ n)).take (i + 1)).length = i + 1 := by rw [List.length_take, hT]; omega
   have e : ((i : Int) + 1) = ((i + 1 : Nat) : Int) := by omega
   have hg := W3 l hi
   show kw _ _ = _
   unfold kw
   simp only [zO, XF]
   by_cases h1 : i < l.length
   ·obtain ⟨d, hd⟩ := qn h1
    rw [hd] at hg
    have e3 : (yF l (kQ n)).take i ++ [(d.1, (d.2.1.1, d.2.1.2), d.2.2.1, d.2.2.2.1, d.2.2.2.2.1, d.2.2.2.2.2)] = (yF l (kQ n)).take (i + 1) := (kg hg).symm
    simp (disch := omega) only [qf, q9, cond_true, Option.bind_some, Int.toNat_natCast, List.length_append, List.length_cons, List.length_nil, decide_true, true_and, hd, ht, e3, e]
   ·have hn0 : l[i]? = none := List.getElem?_eq_none (by omega)
    rw [hn0] at hg
    have e3 : (yF l (kQ n)).take i ++ [((32 : Int), ((0 : Int), (0 : Int)), (1 : Int), (0 : Int), (0 : Int), (0 : Int))] = (yF l (kQ n)).take (i + 1) := (kg hg).symm
    simp (disch := omega) only [qf, ql, q9, cond_true, cond_false, Option.bind_some, Int.toNat_natCast, List.length_append, List.length_cons, List.length_nil, decide_true, true_and, ht, e3, e]
  ·show kw _ _ = _
   unfold kw
   have ht : (yF l (kQ n)).take (kQ n) = yF l (kQ n) := List.take_of_length_le (by rw [hT]; omega)
   have hm := Ud (l := yF l (kQ n)) (by rw [hT]; omega)
   simp only [zO, XF]
   simp (disch := omega) only [qf, ql, q9, cond_true, cond_false, Option.bind_some, Int.toNat_natCast, List.length_append, List.length_cons, List.length_nil, decide_true, true_and, ht, hm]
 rw [this]
 rfl
def a2F (l : List qc) (i : Nat) : Bool := match l[i]? with
 | none => true
 | some c => zi c && (!zC l i && (if c.2.2.1 = 0 then (match l[i - 1]? with
  | some d => d.2.2.2.1 == c.2.2.2.1 && (d.2.2.2.2.1 == c.2.2.2.2.1 && d.2.2.2.2.2 == c.2.2.2.2.2)
  | none => false) else true))
def z8 (l : List qc) : Bool := (List.range l.length).all (a2F l)
theorem Y4 (a b : Int) : (a == b) = (b == a) := by rw [Zn, Zn]; exact decide_eq_decide.2 eq_comm
theorem a9d {l : List qc} {c : qc} (h : l[0]? = some c) (hw : c.2.2.1 = 0) : zC l 0 = true := by
 unfold zC; simp only [h]; rw [if_neg (by omega), if_pos hw]; rfl
theorem agM (a b : List qc) (c d : Int) : w3 (a, b, c, d) = unr (kp a b c d) w3 := yd _ _
theorem agx (a : List qc) (d : Int) : wL (a, d) = unr (kG a d) wL := yd _ _
theorem a5M {l : List qc} (hl : l.length ≤ 1000000) (ok : ∀ c ∈ l, OkC c) : ∀ (k i : Nat), k = l.length - i → i ≤ l.length → w3 (l, l, (l.length : Int), (i : Int)) = some ((List.range' i k).all (a2F l)) := by
 intro k
 induction k with
 | zero =>
  intro i hk hi
  rw [agM]
  unfold kp
  simp (disch := omega) only [qf, ql, q9, cond_true, cond_false, Int.toNat_natCast, zQ]
  rfl
 | succ k ih =>
  intro i hk hi
  have hil : i < l.length := by omega
  obtain ⟨c, hc⟩ := qn hil
  have e : ((i : Int) + 1) = ((i + 1 : Nat) : Int) := by omega
  have e2 : ((i : Int) - 1).toNat = i - 1 := by omega
  have hoc := UL (ok c (List.mem_of_getElem? hc))
  have ha := v5 hl hil
  rw [List.range'_succ, List.all_cons, agM]
  unfold kp
  have hok : a2F l i = (zi c && (!zC l i && (if c.2.2.1 = 0 then (match l[i - 1]? with
   | some d => d.2.2.2.1 == c.2.2.2.1 && (d.2.2.2.2.1 == c.2.2.2.2.1 && d.2.2.2.2.2 == c.2.2.2.2.2)
   | none => false) else true))) := by unfold a2F; simp only [hc]
  rw [hok]
  cases hr : zi c
  ·simp (disch := omega) only [qf, q9, cond_true, Option.bind_some, Int.toNat_natCast, Bool.not_false, zQ, hc, hoc, hr]
   rfl
  ·cases hal : zC l i
   ·by_cases hw : c.2.2.1 = 0
    ·have hi0 : 0 < i := by
      rcases Nat.eq_zero_or_pos i with h0 | h0
      ·subst h0; rw [a9d hc hw] at hal; cases hal
      ·exact h0
     obtain ⟨d, hd⟩ := qn (l := l) (i := i - 1) (by omega)
     rw [if_pos hw]
     simp only [hd]
     cases hp : (d.2.2.2.1 == c.2.2.2.1 && (d.2.2.2.2.1 == c.2.2.2.2.1 && d.2.2.2.2.2 == c.2.2.2.2.2))
     ·simp (disch := omega) only [qf, ke, q9, cond_true, cond_false, Option.bind_some, Int.toNat_natCast, Bool.not_true, Bool.not_false, zQ, hc, hoc, hr, ha, hal, hd, e2, Bool.and_true, hp]
      rfl
     ·simp (disch := omega) only [qf, ke, q9, cond_true, cond_false, Option.bind_some, Int.toNat_natCast, Bool.not_true, Bool.not_false, za, hc, hoc, hr, ha, hal, hd, e2, e, Bool.and_true, hp]
      rw [ih (i + 1) (by omega) (by omega)]
      rfl
    ·rw [if_neg hw]
     simp (disch := omega) only [qf, zg, q9, cond_true, cond_false, Option.bind_some, Int.toNat_natCast, Bool.not_true, Bool.not_false, za, hc, hoc, hr, ha, hal, e]
     rw [ih (i + 1) (by omega) (by omega)]
     rfl
   ·simp (disch := omega) only [qf, q9, cond_true, cond_false, Option.bind_some, Int.toNat_natCast, Bool.not_true, zQ, hc, hoc, hr, ha, hal]
    rfl
theorem Xf {l : List qc} (hl : l.length ≤ 1000000) (ok : ∀ c ∈ l, OkC c) : wy l = some (z8 l) := by
 unfold wy z8
 have := a5M hl ok l.length 0 (by omega) (by omega)
 rw [← List.range_eq_range'] at this
 rw [show ((0 : Nat) : Int) = 0 from rfl] at this
 rw [this]
 rfl
theorem a6r {l : List qc} (hl : l.length ≤ 1000000) (ok : ∀ c ∈ l, OkC c) : ∀ (k i : Nat), k = l.length - i → i ≤ l.length → wL (l, (i : Int)) = some ((List.range' i k).all (a2F l)) := by
 intro k
 induction k with
 | zero =>
  intro i hk hi
  rw [agx]
  unfold kG
  simp (disch := omega) only [qf, ql, q9, cond_true, cond_false, Int.toNat_natCast, zQ]
  rfl
 | succ k ih =>
  intro i hk hi
  have hil : i < l.length := by omega
  obtain ⟨c, hc⟩ := qn hil
  have e : ((i : Int) + 1) = ((i + 1 : Nat) : Int) := by omega
  have e2 : ((i : Int) - 1).toNat = i - 1 := by omega
  have hoc := a1X (ok c (List.mem_of_getElem? hc))
  have ha := VP hl hil
  rw [List.range'_succ, List.all_cons, agx]
  unfold kG
  have hok : a2F l i = (zi c && (!zC l i && (if c.2.2.1 = 0 then (match l[i - 1]? with
   | some d => d.2.2.2.1 == c.2.2.2.1 && (d.2.2.2.2.1 == c.2.2.2.2.1 && d.2.2.2.2.2 == c.2.2.2.2.2)
   | none => false) else true))) := by unfold a2F; simp only [hc]
  rw [hok]
  cases hr : zi c
  ·simp (disch := omega) only [qf, q9, cond_true, Option.bind_some, Int.toNat_natCast, Bool.not_false, zQ, hc, hoc, hr]
   rfl
  ·cases hal : zC l i
   ·by_cases hw : c.2.2.1 = 0
    ·have hi0 : 0 < i := by
      rcases Nat.eq_zero_or_pos i with h0 | h0
      ·subst h0; rw [a9d hc hw] at hal; cases hal
      ·exact h0
     obtain ⟨d, hd⟩ := qn (l := l) (i := i - 1) (by omega)
     rw [if_pos hw]
     simp only [hd]
     cases hp : (d.2.2.2.1 == c.2.2.2.1 && (d.2.2.2.2.1 == c.2.2.2.2.1 && d.2.2.2.2.2 == c.2.2.2.2.2))
     ·simp (disch := omega) only [qf, ke, q9, cond_true, cond_false, Option.bind_some, Int.toNat_natCast, Bool.not_true, Bool.not_false, zQ, hc, hoc, hr, ha, hal, hd, e2, Bool.and_true, Y4 c.2.2.2.1, Y4 c.2.2.2.2.1, Y4 c.2.2.2.2.2, hp]
      rfl
     ·simp (disch := omega) only [qf, ke, q9, cond_true, cond_false, Option.bind_some, Int.toNat_natCast, Bool.not_true, Bool.not_false, za, hc, hoc, hr, ha, hal, hd, e2, e, Bool.and_true, Y4 c.2.2.2.1, Y4 c.2.2.2.2.1, Y4 c.2.2.2.2.2, hp]
      rw [ih (i + 1) (by omega) (by omega)]
      rfl
    ·rw [if_neg hw]
     simp (disch := omega) only [qf, zg, q9, cond_true, cond_false, Option.bind_some, Int.toNat_natCast, Bool.not_true, Bool.not_false, za, hc, hoc, hr, ha, hal, e]
     rw [ih (i + 1) (by omega) (by omega)]
     rfl
   ·simp (disch := omega) only [qf, q9, cond_true, cond_false, Option.bind_some, Int.toNat_natCast, Bool.not_true, zQ, hc, hoc, hr, ha, hal]
    rfl
theorem a8f {l : List qc} (hl : l.length ≤ 1000000) (ok : ∀ c ∈ l, OkC c) : Za l = some (z8 l) := by
 unfold Za z8
 have := a6r hl ok l.length 0 (by omega) (by omega)
 rw [← List.range_eq_range'] at this
 rw [show ((0 : Nat) : Int) = 0 from rfl] at this
 rw [this]
 rfl
end Go.Sim
set_option maxRecDepth 100000
set_option maxHeartbeats 4000000
set_option linter.unusedVariables false
namespace Go.Sim
theorem yh (l : List qc) : z8 l = true ↔ ∀ (i : Nat) (c : qc), l[i]? = some c → zi c = true ∧ zC l i = false ∧ (c.2.2.1 = 0 → ∃ d, l[i - 1]? = some d ∧ d.2.2.2 = c.2.2.2) := by
 unfold z8
 rw [List.all_eq_true]
 constructor
 ·intro h i c hc
  have hi : i < l.length := (List.getElem?_eq_some_iff.1 hc).1
  have := h i (List.mem_range.2 hi)
  unfold a2F at this
  simp only [hc, Bool.and_eq_true, Bool.not_eq_true'] at this
  refine ⟨this.1, this.2.1, fun hw => ?_⟩
  have h2 := this.2.2
  rw [if_pos hw] at h2
  split at h2
  ·rename_i d hd
   simp only [Bool.and_eq_true, beq_iff_eq] at h2
   exact ⟨d, hd, Prod.ext h2.1 (Prod.ext h2.2.1 h2.2.2)⟩
  ·cases h2
 ·intro h i hi
  have hi := List.mem_range.1 hi
  obtain ⟨c, hc⟩ := qn hi
  obtain ⟨h1, h2, h3⟩ := h i c hc
  unfold a2F
  simp only [hc, h1, h2, Bool.not_false, Bool.true_and]
  split
  ·rename_i hw
   obtain ⟨d, hd, hp⟩ := h3 hw
   simp only [hd, hp]
   simp
  ·rfl
def adu (l : List qc) : Prop := ∀ (i : Nat) (c d : qc), l[i]? = some c → l[i + 1]? = some d → c.2.2.1 = 2 → d.2.2.1 = 0 → c.2.2.2 = d.2.2.2
theorem YV {l : List qc} (h : z8 l = true) : adu l := fun i c d hc hd _ hw => by
 obtain ⟨_, _, h3⟩ := (yh l).1 h (i + 1) d hd
 obtain ⟨e, he, hp⟩ := h3 hw
 rw [Nat.add_sub_cancel, hc] at he
 cases he
 exact hp
theorem WP {l : List qc} (h : z8 l = true) : ∀ c ∈ l, zi c = true := fun c hc => by
 obtain ⟨i, hi⟩ := List.mem_iff_getElem?.1 hc
 exact ((yh l).1 h i c hi).1
theorem ah5 : jD 32 = 1 := by unfold jD; simp [V0, inR, YM, Zt]
theorem ve (a b c : Int) : (zf a b c).2.2.1 ≠ 2 := (by decide : (1 : Int) ≠ 2)
theorem K6 (a b c : Int) : (zf a b c).2.2.1 ≠ 0 := (by decide : (1 : Int) ≠ 0)
theorem QY {a b c : Int} (h : Qv a b c = true) : zi (zf a b c) = true := by
 unfold zi zf; simp [h, ah5]
theorem a1y {c : qc} (h : zi c = true) : Qv c.2.2.2.1 c.2.2.2.2.1 c.2.2.2.2.2 = true := by
 unfold zi at h; simp only [Bool.and_eq_true] at h; exact h.1
theorem a3H {l : List qc} {i : Nat} {c : qc} (h : l[i]? = some c) (hw : c.2.2.1 = 2) : zC l i = false ↔ ∃ d, l[i + 1]? = some d ∧ d.2.2.1 = 0 := by
 unfold zC
 simp only [h]
 rw [if_pos hw]
 cases hd : l[i + 1]? with
 | none => simp
 | some d => simp
theorem a2w {l : List qc} {i : Nat} {c : qc} (h : l[i]? = some c) (hw : c.2.2.1 = 0) : zC l i = false ↔ 0 < i ∧ ∃ d, l[i - 1]? = some d ∧ d.2.2.1 = 2 := by
 unfold zC
 simp only [h]
 rw [if_neg (by omega), if_pos hw]
 by_cases h0 : i = 0
 ·simp [h0]
 ·rw [if_neg h0]
  cases hd : l[i - 1]? with
  | none => simp
  | some d => simp; omega
theorem a3l {l : List qc} {i : Nat} {c : qc} (h : l[i]? = some c) (h2 : c.2.2.1 ≠ 2) (h0 : c.2.2.1 ≠ 0) : zC l i = false := by
 unfold zC
 simp only [h]
 rw [if_neg h2, if_neg h0]
theorem VQ {l : List qc} {i : Nat} {c : qc} (h : l[i]? = some c) (ha : zC l i = false) : (zy l)[i]? = some c := by
 rw [vE h]; simp [Yl, ha]
theorem Yx {l : List qc} (hr : ∀ c ∈ l, zi c = true) (hp : adu l) : z8 (zy l) = true := by
 refine (yh _).2 fun i c hc => ?_
 have hi : i < l.length := by have := (List.getElem?_eq_some_iff.1 hc).1; rwa [zX] at this
 obtain ⟨d, hd⟩ := qn hi
 have hdr := hr d (List.mem_of_getElem? hd)
 cases ha : zC l i
 ·have hk := VQ hd ha
  rw [hk] at hc; cases hc
  by_cases h2 : c.2.2.1 = 2
  ·obtain ⟨e, he, hw⟩ := (a3H hd h2).1 ha
   have hk2 : (zy l)[i + 1]? = some e := VQ he ((a2w he hw).2 ⟨by omega, c, by simpa using hd, h2⟩)
   exact ⟨hdr, (a3H hk h2).2 ⟨e, hk2, hw⟩, fun q => by omega⟩
  ·by_cases h0 : c.2.2.1 = 0
   ·obtain ⟨hpos, e, he, hw⟩ := (a2w hd h0).1 ha
    have hs : i - 1 + 1 = i := by omega
    have hk2 : (zy l)[i - 1]? = some e := VQ he ((a3H he hw).2 ⟨c, by rw [hs]; exact hd, h0⟩)
    exact ⟨hdr, (a2w hk h0).2 ⟨hpos, e, hk2, hw⟩, fun _ => ⟨e, hk2, hp (i - 1) e c he (by rw [hs]; exact hd) hw h0⟩⟩
   ·exact ⟨hdr, a3l hk h2 h0, fun q => absurd q h0⟩
 ·have hk : (zy l)[i]? = some (zf d.2.2.2.1 d.2.2.2.2.1 d.2.2.2.2.2) := by rw [vE hd]; simp [Yl, ha]
  rw [hk] at hc; cases hc
  exact ⟨QY (a1y hdr), a3l hk (ve _ _ _) (K6 _ _ _), fun q => absurd q (K6 _ _ _)⟩
theorem a7j {c : qc} (h : zi c = true) : zi (J8 c) = true := by
 have := a1y h
 unfold zi J8
 simp [this]
theorem a9X {l : List qc} {n : Nat} {c : qc} (h : z8 l = true) (hc : zi c = true) (hw : c.2.2.1 ≠ 0) (hn : n + c.2.2.1.toNat ≤ l.length) (hw0 : 0 ≤ c.2.2.1) : z8 (zy (jX l n c)) = true := by
 have hw2 := a3f hc
 have hlen := UB l n c
 have get : ∀ (i : Nat) (d : qc), (jX l n c)[i]? = some d → (i = n ∧ d = c) ∨ (i = n + 1 ∧ c.2.2.1 = 2 ∧ d = J8 c) ∨ (i ≠ n ∧ (c.2.2.1 = 2 → i ≠ n + 1) ∧ l[i]? = some d) := by
  intro i d hd
  unfold jX at hd
  split at hd
  ·rename_i h2
   rw [List.getElem?_set] at hd
   split at hd
   ·rename_i hi
    split at hd
    ·cases hd; exact .inr (.inl ⟨hi.symm, h2, rfl⟩)
    ·cases hd
   ·rename_i hi
    rw [List.getElem?_set] at hd
    split at hd
    ·rename_i hi2
     split at hd
     ·cases hd; exact .inl ⟨hi2.symm, rfl⟩
     ·cases hd
    ·rename_i hi2
     exact .inr (.inr ⟨fun q => hi2 q.symm, fun _ q => hi q.symm, hd⟩)
  ·rename_i h2
   rw [List.getElem?_set] at hd
   split at hd
   ·rename_i hi2
    split at hd
    ·cases hd; exact .inl ⟨hi2.symm, rfl⟩
    ·cases hd
   ·rename_i hi2
    exact .inr (.inr ⟨fun q => hi2 q.symm, fun q => absurd q h2, hd⟩)
 refine Yx (fun d hd => ?_) fun i d e hd he h2 h0 => ?_
 ·obtain ⟨i, hi⟩ := List.mem_iff_getElem?.1 hd
  rcases get i d hi with ⟨_, rfl⟩ | ⟨_, _, rfl⟩ | ⟨_, _, q⟩
  ·exact hc
  ·exact a7j hc
  ·exact WP h d (List.mem_of_getElem? q)
 ·rcases get i d hd with ⟨hi, rfl⟩ | ⟨hi, hw', rfl⟩ | ⟨hi1, hi2, q⟩
  ·rcases get (i + 1) e he with ⟨hj, rfl⟩ | ⟨hj, hw', rfl⟩ | ⟨hj1, hj2, q⟩
   ·omega
   ·rfl
   ·exact absurd (by omega) (hj2 h2)
  ·have : (J8 c).2.2.1 = 0 := rfl
   omega
  ·rcases get (i + 1) e he with ⟨hj, rfl⟩ | ⟨hj, hw', rfl⟩ | ⟨hj1, hj2, q2⟩
   ·exact absurd h0 hw
   ·exact absurd (by omega) hi1
   ·exact YV h i d e q q2 h2 h0
theorem a8M {l : List qc} {k : Int} {c : qc} (h : z8 l = true) (hc : OkC c) : z8 (jj l k c).1 = true := by
 have hw := hc.w
 simp only [u8r] at hw
 unfold jj
 split
 ·rename_i q
  exact a9X h q.2.1 q.1 (by omega) hw.1
 ·exact h
theorem aaw {l : List qc} {f t a b c : Int} (h : z8 l = true) (hp : Qv a b c = true) : z8 (zy (wb l f t a b c)) = true := by
 have get : ∀ (i : Nat) (d : qc), (wb l f t a b c)[i]? = some d → d = zf a b c ∨ l[i]? = some d := by
  intro i d hd
  have hi : i < l.length := by have := (List.getElem?_eq_some_iff.1 hd).1; rwa [ZH] at this
  obtain ⟨e, he⟩ := qn hi
  rw [Vp he] at hd
  cases hd
  split
  ·exact .inl rfl
  ·exact .inr he
 refine Yx (fun d hd => ?_) fun i d e hd he h2 h0 => ?_
 ·obtain ⟨i, hi⟩ := List.mem_iff_getElem?.1 hd
  rcases get i d hi with rfl | q
  ·exact QY hp
  ·exact WP h d (List.mem_of_getElem? q)
 ·rcases get i d hd with rfl | q
  ·exact absurd h2 (ve _ _ _)
  ·rcases get (i + 1) e he with rfl | q2
   ·exact absurd h0 (K6 _ _ _)
   ·exact YV h i d e q q2 h2 h0
theorem agz : Qv 0 0 0 = true := by decide
theorem aa6 {l : List qc} {n : Nat} (h : z8 l = true) : z8 (zy (yF l n)) = true := by
 have get : ∀ (i : Nat) (d : qc), (yF l n)[i]? = some d → d = zf 0 0 0 ∨ l[i]? = some d := by
  intro i d hd
  have hi : i < n := by have := (List.getElem?_eq_some_iff.1 hd).1; rwa [wI] at this
  rw [W3 l hi] at hd
  cases hd
  cases hq : l[i]? with
  | none => exact .inl rfl
  | some e => exact .inr rfl
 refine Yx (fun d hd => ?_) fun i d e hd he h2 h0 => ?_
 ·obtain ⟨i, hi⟩ := List.mem_iff_getElem?.1 hd
  rcases get i d hi with rfl | q
  ·exact QY agz
  ·exact WP h d (List.mem_of_getElem? q)
 ·rcases get i d hd with rfl | q
  ·exact absurd h2 (ve _ _ _)
  ·rcases get (i + 1) e he with rfl | q2
   ·exact absurd h0 (K6 _ _ _)
   ·exact YV h i d e q q2 h2 h0
theorem a8E (n : Int) : z8 (km n) = true := by
 have get : ∀ (i : Nat) (d : qc), (km n)[i]? = some d → d = zf 0 0 0 := by
  intro i d hd
  unfold km at hd
  rw [List.getElem?_replicate] at hd
  split at hd
  ·cases hd; rfl
  ·cases hd
 refine (yh _).2 fun i d hd => ?_
 have := get i d hd
 subst this
 exact ⟨QY agz, a3l hd (ve _ _ _) (K6 _ _ _), fun q => absurd q (K6 _ _ _)⟩
theorem aeS (c : qc) (m : Int) : (j5 c m).1.2.2 = c.2.2 := by
 unfold j5; split
 ·split
  ·rfl
  ·split <;> rfl
 ·rfl
theorem a5N {c : qc} {m : Int} (h : zi c = true) : zi (j5 c m).1 = true := by
 obtain ⟨r, ⟨m1, m2⟩, w, p1, p2, p3⟩ := c
 unfold j5
 split
 ·rename_i q
  obtain ⟨q1, q2⟩ := q
  have hm : m ≠ 0 := fun e => by rw [e, agN] at q1; omega
  have hw0 : w ≠ 0 := by simp only at q2; omega
  unfold zi at h ⊢
  simp only [Bool.and_eq_true] at h
  obtain ⟨h1, h2⟩ := h
  rw [if_neg hw0] at h2
  simp only [Bool.and_eq_true] at h2
  obtain ⟨h3, h4, h5⟩ := h2
  split
  ·rename_i e1
   simp only at e1
   subst e1
   simp only [if_true, beq_iff_eq] at h5
   subst h5
   simp only [h1, h3, h4, q1, Bool.true_and]
   simp
  ·rename_i e1
   simp only at e1
   rw [if_neg e1] at h5
   simp only [Bool.and_eq_true] at h5
   split
   ·rename_i e2
    simp only [h1, h3, h4, h5.1, q1, Bool.true_and]
    simp
   ·simp only [h1, h3, h4, h5.1, h5.2, Bool.true_and]
 ·exact h
theorem a6n {l l' : List qc} (h : ∀ i : Nat, (l[i]?.map fun c : qc => c.2.2) = (l'[i]?.map fun c : qc => c.2.2)) (i : Nat) : zC l i = zC l' i := by
 have h0 := h i
 have h1 := h (i + 1)
 have h2 := h (i - 1)
 unfold zC
 cases a0 : l[i]? with
 | none =>
  cases b0 : l'[i]? with
  | none => rfl
  | some c' => rw [a0, b0] at h0; cases h0
 | some c =>
  cases b0 : l'[i]? with
  | none => rw [a0, b0] at h0; cases h0
  | some c' =>
   rw [a0, b0] at h0
   have e0 : c.2.2 = c'.2.2 := by simpa using h0
   simp only [e0]
   have k1 : (match l[i + 1]? with
    | some d => d.2.2.1 != 0
    | none => true) = (match l'[i + 1]? with
    | some d => d.2.2.1 != 0
    | none => true) := by
    cases a1 : l[i + 1]? with
    | none => cases b1 : l'[i + 1]? with
     | none => rfl
     | some d' => rw [a1, b1] at h1; cases h1
    | some d => cases b1 : l'[i + 1]? with
     | none => rw [a1, b1] at h1; cases h1
     | some d' =>
      rw [a1, b1] at h1
      have e1 : d.2.2 = d'.2.2 := by simpa using h1
      simp only [e1]
   have k2 : (match l[i - 1]? with
    | some d => d.2.2.1 != 2
    | none => true) = (match l'[i - 1]? with
    | some d => d.2.2.1 != 2
    | none => true) := by
    cases a1 : l[i - 1]? with
    | none => cases b1 : l'[i - 1]? with
     | none => rfl
     | some d' => rw [a1, b1] at h2; cases h2
    | some d => cases b1 : l'[i - 1]? with
     | none => rw [a1, b1] at h2; cases h2
     | some d' =>
      rw [a1, b1] at h2
      have e1 : d.2.2 = d'.2.2 := by simpa using h2
      simp only [e1]
   by_cases q2 : c'.2.2.1 = 2
   ·rw [if_pos q2, if_pos q2]; exact k1
   ·rw [if_neg q2, if_neg q2]
    by_cases q0 : c'.2.2.1 = 0
    ·rw [if_pos q0, if_pos q0]
     by_cases qi : i = 0
     ·rw [if_pos qi, if_pos qi]
     ·rw [if_neg qi, if_neg qi]; exact k2
    ·rw [if_neg q0, if_neg q0]
theorem aa8 {l : List qc} {n : Nat} {c d : qc} (h : z8 l = true) (hc : l[n]? = some c) (hd : zi d = true) (he : d.2.2 = c.2.2) : z8 (l.set n d) = true := by
 have hn : n < l.length := (List.getElem?_eq_some_iff.1 hc).1
 have hg : ∀ i : Nat, ((l.set n d)[i]?.map fun c : qc => c.2.2) = (l[i]?.map fun c : qc => c.2.2) := by
  intro i
  by_cases q : i = n
  ·subst q; rw [List.getElem?_set_self hn, hc]; simp [he]
  ·rw [List.getElem?_set_ne (Ne.symm q)]
 have back : ∀ (i : Nat) (e : qc), (l.set n d)[i]? = some e → ∃ e', l[i]? = some e' ∧ e'.2.2 = e.2.2 ∧ (e = e' ∨ e = d) := by
  intro i e hq
  by_cases q : i = n
  ·subst q; rw [List.getElem?_set_self hn] at hq; cases hq; exact ⟨c, hc, he.symm, .inr rfl⟩
  ·rw [List.getElem?_set_ne (Ne.symm q)] at hq; exact ⟨e, hq, rfl, .inl rfl⟩
 refine (yh _).2 fun i e hq => ?_
 obtain ⟨e', h1, h2, h3⟩ := back i e hq
 obtain ⟨r1, r2, r3⟩ := (yh l).1 h i e' h1
 refine ⟨?_, (a6n hg i).trans r2, fun hw => ?_⟩
 ·rcases h3 with rfl | rfl
  ·exact r1
  ·exact hd
 ·obtain ⟨f, f1, f2⟩ := r3 (by rw [h2]; exact hw)
  have := hg (i - 1)
  rw [f1] at this
  cases hx : (l.set n d)[i - 1]? with
  | none => rw [hx] at this; cases this
  | some x =>
   rw [hx] at this
   have e3 : x.2.2 = f.2.2 := by simpa using this
   exact ⟨x, rfl, by rw [e3, f2, h2]⟩
theorem a5V {l : List qc} {k m : Int} (h : z8 l = true) : z8 (jS l k m).1 = true := by
 unfold jS
 split
 ·split
  ·rename_i c hc
   exact aa8 h hc (a5N (WP h c (List.mem_of_getElem? hc))) (aeS c m)
  ·exact h
 ·exact h
end Go.Sim

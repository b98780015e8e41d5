/- Part 8 of the claim RuleNext: GA, V1, GB, V2, GC, V3, V4, V5, V6 -/
import Derived.Test.YtaamhddpmbombaaGreatProg
import Derived.Test.YtaamhddpmbombaaGreatW7
set_option linter.unusedSimpArgs false
set_option linter.unusedVariables false
set_option linter.defProp false
set_option maxRecDepth 100000
set_option maxHeartbeats 0
namespace Go.Sim
open Go.Proofs
noncomputable def y6 (x0 : Int) : Option Bool :=
 bif decide (0 ≤ x0) then
  bif decide (x0 < 55296) then
   some true
  else bif decide (57343 < x0) then
    some (decide (x0 ≤ 1114111))
   else some false
 else bif decide (57343 < x0) then
   some (decide (x0 ≤ 1114111))
  else some false
noncomputable def Vk : TEnt := ⟨174, .int .i32, [], [(.bool, [])], fun s => y6 s⟩
theorem XD : qu Tryz.prog Vk := qh (tab := []) (loops := []) (joins := []) (un := []) _ (by intro e he; simp at he) (fun s => by kernel_rfl) (by kernel_rfl)
noncomputable def Qj (x0 : Int) : Option Bool :=
 bif decide (0 ≤ x0) then
  bif decide (x0 ≤ 1114111) then
   bif decide (x0 < 55296) then
    some true
   else some (decide (57343 < x0))
  else some false
 else some false
noncomputable def vG : TEnt := ⟨163, .int .i64, [], [(.bool, [])], fun s => Qj s⟩
theorem XA : qu Tryz.prog vG := qh (tab := []) (loops := []) (joins := []) (un := []) _ (by intro e he; simp at he) (fun s => by kernel_rfl) (by kernel_rfl)
noncomputable def a4d (x0 : Int) (x1 : Int) : Option Bool :=
 none
noncomputable def Vc : TEnt := ⟨192, .agg (.cons (.int .i32) (.int .i32)), [], [(.bool, [])], fun s => a4d s.1 s.2⟩
theorem XE : qu Tryz.prog Vc := qh (tab := []) (loops := []) (joins := []) (un := []) _ (by intro e he; simp at he) (fun s => by kernel_rfl) (by kernel_rfl)
noncomputable def qt (x4 : Int) (x5 : Int) : Option ((Int × Int) ⊕ Int) :=
 bif decide (x4 < 11) then
  bif decide (x4 = (10 : Int)) then
   bif decide (131072 ≤ x5) then
    bif decide (x5 ≤ 262141) then
     some (Sum.inr ((2 : Int)))
    else some (Sum.inl ((IntKind.i64.wrap (x4 + (1 : Int))), x5))
   else some (Sum.inl ((IntKind.i64.wrap (x4 + (1 : Int))), x5))
  else bif decide (x4 = (9 : Int)) then
    bif decide (129280 ≤ x5) then
     bif decide (x5 ≤ 129535) then
      some (Sum.inr ((2 : Int)))
     else some (Sum.inl ((IntKind.i64.wrap (x4 + (1 : Int))), x5))
    else some (Sum.inl ((IntKind.i64.wrap (x4 + (1 : Int))), x5))
   else bif decide (x4 = (8 : Int)) then
     bif decide (127744 ≤ x5) then
      bif decide (x5 ≤ 128591) then
       some (Sum.inr ((2 : Int)))
      else some (Sum.inl ((IntKind.i64.wrap (x4 + (1 : Int))), x5))
     else some (Sum.inl ((IntKind.i64.wrap (x4 + (1 : Int))), x5))
    else bif decide (x4 = (7 : Int)) then
      bif decide (65504 ≤ x5) then
       bif decide (x5 ≤ 65510) then
        some (Sum.inr ((2 : Int)))
       else some (Sum.inl ((IntKind.i64.wrap (x4 + (1 : Int))), x5))
      else some (Sum.inl ((IntKind.i64.wrap (x4 + (1 : Int))), x5))
     else bif decide (x4 = (6 : Int)) then
       bif decide (65280 ≤ x5) then
        bif decide (x5 ≤ 65376) then
         some (Sum.inr ((2 : Int)))
        else some (Sum.inl ((IntKind.i64.wrap (x4 + (1 : Int))), x5))
       else some (Sum.inl ((IntKind.i64.wrap (x4 + (1 : Int))), x5))
      else bif decide (x4 = (5 : Int)) then
        bif decide (65072 ≤ x5) then
         bif decide (x5 ≤ 65135) then
          some (Sum.inr ((2 : Int)))
         else some (Sum.inl ((IntKind.i64.wrap (x4 + (1 : Int))), x5))
        else some (Sum.inl ((IntKind.i64.wrap (x4 + (1 : Int))), x5))
       else bif decide (x4 = (4 : Int)) then
         bif decide (63744 ≤ x5) then
          bif decide (x5 ≤ 64255) then
           some (Sum.inr ((2 : Int)))
          else some (Sum.inl ((IntKind.i64.wrap (x4 + (1 : Int))), x5))
         else some (Sum.inl ((IntKind.i64.wrap (x4 + (1 : Int))), x5))
        else bif decide (x4 = (3 : Int)) then
          bif decide (44032 ≤ x5) then
           bif decide (x5 ≤ 55203) then
            some (Sum.inr ((2 : Int)))
           else some (Sum.inl ((IntKind.i64.wrap (x4 + (1 : Int))), x5))
          else some (Sum.inl ((IntKind.i64.wrap (x4 + (1 : Int))), x5))
         else bif decide (x4 = (2 : Int)) then
           bif decide (12353 ≤ x5) then
            bif decide (x5 ≤ 42191) then
             some (Sum.inr ((2 : Int)))
            else some (Sum.inl ((IntKind.i64.wrap (x4 + (1 : Int))), x5))
           else some (Sum.inl ((IntKind.i64.wrap (x4 + (1 : Int))), x5))
          else bif decide (x4 = (1 : Int)) then
            bif decide (11904 ≤ x5) then
             bif decide (x5 ≤ 12350) then
              some (Sum.inr ((2 : Int)))
             else some (Sum.inl ((IntKind.i64.wrap (x4 + (1 : Int))), x5))
            else some (Sum.inl ((IntKind.i64.wrap (x4 + (1 : Int))), x5))
           else bif decide (x4 = (0 : Int)) then
             bif decide (4352 ≤ x5) then
              bif decide (x5 ≤ 4447) then
               some (Sum.inr ((2 : Int)))
              else some (Sum.inl ((IntKind.i64.wrap (x4 + (1 : Int))), x5))
             else some (Sum.inl ((IntKind.i64.wrap (x4 + (1 : Int))), x5))
            else none
 else some (Sum.inr ((1 : Int)))
noncomputable def qn : (Int × Int) → Option Int := qT fun s => qt s.1 s.2
noncomputable def qW (x2 : Int) (x3 : Int) : Option ((Int × Int) ⊕ Int) :=
 bif decide (x2 < 5) then
  bif decide (x2 = (4 : Int)) then
   bif decide (65056 ≤ x3) then
    bif decide (x3 ≤ 65071) then
     some (Sum.inr ((0 : Int)))
    else some (Sum.inl ((IntKind.i64.wrap (x2 + (1 : Int))), x3))
   else some (Sum.inl ((IntKind.i64.wrap (x2 + (1 : Int))), x3))
  else bif decide (x2 = (3 : Int)) then
    bif decide (65024 ≤ x3) then
     bif decide (x3 ≤ 65039) then
      some (Sum.inr ((0 : Int)))
     else some (Sum.inl ((IntKind.i64.wrap (x2 + (1 : Int))), x3))
    else some (Sum.inl ((IntKind.i64.wrap (x2 + (1 : Int))), x3))
   else bif decide (x2 = (2 : Int)) then
     bif decide (8400 ≤ x3) then
      bif decide (x3 ≤ 8447) then
       some (Sum.inr ((0 : Int)))
      else some (Sum.inl ((IntKind.i64.wrap (x2 + (1 : Int))), x3))
     else some (Sum.inl ((IntKind.i64.wrap (x2 + (1 : Int))), x3))
    else bif decide (x2 = (1 : Int)) then
      bif decide (8203 ≤ x3) then
       bif decide (x3 ≤ 8207) then
        some (Sum.inr ((0 : Int)))
       else some (Sum.inl ((IntKind.i64.wrap (x2 + (1 : Int))), x3))
      else some (Sum.inl ((IntKind.i64.wrap (x2 + (1 : Int))), x3))
     else bif decide (x2 = (0 : Int)) then
       bif decide (768 ≤ x3) then
        bif decide (x3 ≤ 879) then
         some (Sum.inr ((0 : Int)))
        else some (Sum.inl ((IntKind.i64.wrap (x2 + (1 : Int))), x3))
       else some (Sum.inl ((IntKind.i64.wrap (x2 + (1 : Int))), x3))
      else none
 else Option.bind (qn (((0 : Int)), x3)) fun x4 =>
   some (Sum.inr x4)
noncomputable def qE : (Int × Int) → Option Int := qT fun s => qW s.1 s.2
noncomputable def wu (x0 : Int) : Option Int :=
 bif decide (x0 < 32) then
  some ((-1 : Int))
 else bif decide (127 ≤ x0) then
   bif decide (x0 ≤ 159) then
    some ((-1 : Int))
   else Option.bind (y6 x0) fun x1 =>
     bif !x1 then
      some ((-1 : Int))
     else Option.bind (qE (((0 : Int)), x0)) fun x2 =>
       some x2
  else Option.bind (y6 x0) fun x1 =>
    bif !x1 then
     some ((-1 : Int))
    else Option.bind (qE (((0 : Int)), x0)) fun x2 =>
      some x2
noncomputable def Z0 : TEnt := ⟨168, .int .i32, [], [(.int .i64, [])], fun s => wu s⟩
theorem yK : qu Tryz.prog Z0 := qh (tab := [Vk, Vc]) (loops := [(299594, [3, 24, 25], (.cons (.fn 192 .nil (.ptr 0 0)) (.cons (.agg (.cons (.cst (.int .i32 (768))) (.cons (.cst (.int .i32 (879))) (.cons (.cst (.int .i32 (8203))) (.cons (.cst (.int .i32 (8207))) (.cons (.cst (.int .i32 (8400))) (.cons (.cst (.int .i32 (8447))) (.cons (.cst (.int .i32 (65024))) (.cons (.cst (.int .i32 (65039))) (.cons (.cst (.int .i32 (65056))) (.cst (.int .i32 (65071))))))))))))) (.int .i64))), [.st (.int .i32)]), (19173962, [3, 32, 33], (.cons (.fn 192 .nil (.ptr 0 0)) (.cons (.agg (.cons (.cst (.int .i32 (4352))) (.cons (.cst (.int .i32 (4447))) (.cons (.cst (.int .i32 (11904))) (.cons (.cst (.int .i32 (12350))) (.cons (.cst (.int .i32 (12353))) (.cons (.cst (.int .i32 (42191))) (.cons (.cst (.int .i32 (44032))) (.cons (.cst (.int .i32 (55203))) (.cons (.cst (.int .i32 (63744))) (.cons (.cst (.int .i32 (64255))) (.cons (.cst (.int .i32 (65072))) (.cons (.cst (.int .i32 (65135))) (.cons (.cst (.int .i32 (65280))) (.cons (.cst (.int .i32 (65376))) (.cons (.cst (.int .i32 (65504))) (.cons (.cst (.int .i32 (65510))) (.cons (.cst (.int .i32 (127744))) (.cons (.cst (.int .i32 (128591))) (.cons (.cst (.int .i32 (129280))) (.cons (.cst (.int .i32 (129535))) (.cons (.cst (.int .i32 (131072))) (.cst (.int .i32 (262141))))))))))))))))))))))))) (.int .i64))), [.st (.int .i32)])]) (joins := []) (un := []) _ (by
  intro e he
  simp only [List.mem_cons, List.not_mem_nil, or_false] at he
  rcases he with rfl | rfl
  ·exact XD
  ·exact XE) (fun s => by kernel_rfl) (by kernel_rfl)
noncomputable def jT (x0 : Int) : Option Bool :=
 Option.bind (wu x0) fun x1 =>
  some (x1 == 0)
noncomputable def KU : TEnt := ⟨128, .int .i32, [], [(.bool, [])], fun s => jT s⟩
theorem Ju : qu Tryz.prog KU := qh (tab := [Z0]) (loops := []) (joins := []) (un := []) _ (by
  intro e he
  simp only [List.mem_cons, List.not_mem_nil, or_false] at he
  rcases he with rfl
  ·exact yK) (fun s => by kernel_rfl) (by kernel_rfl)
noncomputable def yG (x0 : Int) : Option Bool :=
 Option.bind (wu x0) fun x1 =>
  some (x1 == 1)
noncomputable def YB : TEnt := ⟨159, .int .i32, [], [(.bool, [])], fun s => yG s⟩
theorem xe : qu Tryz.prog YB := qh (tab := [Z0]) (loops := []) (joins := []) (un := []) _ (by
  intro e he
  simp only [List.mem_cons, List.not_mem_nil, or_false] at he
  rcases he with rfl
  ·exact yK) (fun s => by kernel_rfl) (by kernel_rfl)
noncomputable def jS (x2 : Int) (x3 : (List Int)) (x4 : Int) : Option ((Int × ((List Int) × Int)) ⊕ Bool) :=
 bif decide (IntKind.i64.wrap (x4 + (1 : Int)) < (↑(List.length x3) : Int)) then
  bif decide (0 ≤ x4) then
   Option.bind (x3[x4.toNat]?) fun x5 =>
    bif decide (x5 ≤ x2) then
     bif decide ((0 : Int) ≤ IntKind.i64.wrap (x4 + (1 : Int))) then
      Option.bind (x3[(IntKind.i64.wrap (x4 + (1 : Int))).toNat]?) fun x6 =>
       bif decide (x2 ≤ x6) then
        some (Sum.inr true)
       else some (Sum.inl (x2, (x3, (IntKind.i64.wrap (x4 + (2 : Int))))))
     else none
    else some (Sum.inl (x2, (x3, (IntKind.i64.wrap (x4 + (2 : Int))))))
  else none
 else some (Sum.inr false)
noncomputable def Zj : (Int × ((List Int) × Int)) → Option Bool := qT fun s => jS s.1 s.2.1 s.2.2
noncomputable def Kt (x0 : Int) (x1 : (List Int)) : Option Bool :=
 Option.bind (Zj (x0, (x1, ((0 : Int))))) fun x2 =>
  some x2
noncomputable def a65 : TEnt := ⟨162, .cons (.int .i64) (.sl (.int .i64)), [], [(.bool, [])], fun s => Kt s.1 s.2⟩
theorem a5o : qu Tryz.prog a65 := qh (tab := []) (loops := [(586, [0, 1, 5], (.cons (.int .i64) (.cons (.sl (.int .i64)) (.int .i64))), [])]) (joins := []) (un := []) _ (by intro e he; simp at he) (fun s => by kernel_rfl) (by kernel_rfl)
noncomputable def jM (x0 : Int) : Option Int :=
 bif decide (x0 < 32) then
  some ((-1 : Int))
 else Option.bind (Kt x0 [(127 : Int), (159 : Int)]) fun x1 =>
   bif x1 then
    some ((-1 : Int))
   else Option.bind (Qj x0) fun x2 =>
     bif !x2 then
      some ((-1 : Int))
     else Option.bind (Kt x0 [(768 : Int), (879 : Int), (8203 : Int), (8207 : Int), (8400 : Int), (8447 : Int), (65024 : Int), (65039 : Int), (65056 : Int), (65071 : Int)]) fun x3 =>
       bif x3 then
        some ((0 : Int))
       else Option.bind (Kt x0 [(4352 : Int), (4447 : Int), (11904 : Int), (12350 : Int), (12353 : Int), (42191 : Int), (44032 : Int), (55203 : Int), (63744 : Int), (64255 : Int), (65072 : Int), (65135 : Int), (65280 : Int), (65376 : Int), (65504 : Int), (65510 : Int), (127744 : Int), (128591 : Int), (129280 : Int), (129535 : Int), (131072 : Int), (262141 : Int)]) fun x4 =>
         bif x4 then
          some ((2 : Int))
         else some ((1 : Int))
noncomputable def WE : TEnt := ⟨107, .int .i64, [], [(.int .i64, [])], fun s => jM s⟩
theorem Zf : qu Tryz.prog WE := qh (tab := [vG, a65]) (loops := []) (joins := []) (un := []) _ (by
  intro e he
  simp only [List.mem_cons, List.not_mem_nil, or_false] at he
  rcases he with rfl | rfl
  ·exact XA
  ·exact a5o) (fun s => by kernel_rfl) (by kernel_rfl)
noncomputable def wJ (x0 : Int) (x1 : Int) (x2 : Int) : Option Bool :=
 bif decide (x0 < 32) then
  bif decide (x1 < 17) then
   some (decide (x2 < 17))
  else some false
 else some false
noncomputable def ZF : TEnt := ⟨154, .agg Y8_, [], [(.bool, [])], fun s => wJ s.1 s.2.1 s.2.2⟩
theorem QN : qu Tryz.prog ZF := qh (tab := []) (loops := []) (joins := []) (un := []) _ (by intro e he; simp at he) (fun s => by kernel_rfl) (by kernel_rfl)
noncomputable def wF (x0 : Int) (x1 : Int) (x2 : Int) : Option Bool :=
 bif decide (x0 ≤ 31) then
  bif decide (x1 ≤ 16) then
   some (decide (x2 ≤ 16))
  else some false
 else some false
noncomputable def Ze : TEnt := ⟨155, .agg Y8_, [], [(.bool, [])], fun s => wF s.1 s.2.1 s.2.2⟩
theorem QH : qu Tryz.prog Ze := qh (tab := []) (loops := []) (joins := []) (un := []) _ (by intro e he; simp at he) (fun s => by kernel_rfl) (by kernel_rfl)
noncomputable def wW (x0 : Int) (x1 : Int) (x2 : Int) : Option Jd :=
 some (((32 : Int)), (((0 : Int)), (((0 : Int)), (((1 : Int)), (x0, (x1, x2))))))
noncomputable def J3 : TEnt := ⟨188, .agg Y8_, [], [(.agg XC, [])], fun s => wW s.1 s.2.1 s.2.2⟩
theorem JB : qu Tryz.prog J3 := qh (tab := []) (loops := []) (joins := []) (un := []) _ (by intro e he; simp at he) (fun s => by kernel_rfl) (by kernel_rfl)
noncomputable def zQ (x0 : Int) (x1 : Int) (x2 : Int) : Option Jd :=
 some (((32 : Int)), (((0 : Int)), (((0 : Int)), (((1 : Int)), (x0, (x1, x2))))))
noncomputable def yZ : TEnt := ⟨148, .agg Y8_, [], [(.agg xA, [])], fun s => zQ s.1 s.2.1 s.2.2⟩
theorem wZ : qu Tryz.prog yZ := qh (tab := []) (loops := []) (joins := []) (un := []) _ (by intro e he; simp at he) (fun s => by kernel_rfl) (by kernel_rfl)
noncomputable def K1 (x0 : Int) (x1 : Int) (x2 : Int) (x3 : Int) : Option (Jd × Bool) :=
 Option.bind (wu x0) fun x4 =>
  bif decide (x4 < 1) then
   some ((((0 : Int)), (((0 : Int)), (((0 : Int)), (((0 : Int)), (((0 : Int)), (((0 : Int)), ((0 : Int)))))))), false)
  else some ((x0, (((0 : Int)), (((0 : Int)), ((IntKind.u8.wrap x4), (x1, (x2, x3)))))), true)
noncomputable def a1H : TEnt := ⟨127, .cons (.int .i32) (.agg Y8_), [], [(.tup (.cons (.agg XC) .bool), [])], fun s => K1 s.1 s.2.1 s.2.2.1 s.2.2.2⟩
theorem a2U : qu Tryz.prog a1H := qh (tab := [Z0]) (loops := []) (joins := []) (un := []) _ (by
  intro e he
  simp only [List.mem_cons, List.not_mem_nil, or_false] at he
  rcases he with rfl
  ·exact yK) (fun s => by kernel_rfl) (by kernel_rfl)
noncomputable def Vf (x0 : Int) (x1 : Int) (x2 : Int) (x3 : Int) : Option (Jd × Bool) :=
 Option.bind (jM x0) fun x4 =>
  bif x4 != 1 then
   bif x4 != 2 then
    some ((((0 : Int)), (((0 : Int)), (((0 : Int)), (((0 : Int)), (((0 : Int)), (((0 : Int)), ((0 : Int)))))))), false)
   else some ((x0, (((0 : Int)), (((0 : Int)), ((IntKind.u8.wrap x4), (x1, (x2, x3)))))), true)
  else some ((x0, (((0 : Int)), (((0 : Int)), ((IntKind.u8.wrap x4), (x1, (x2, x3)))))), true)
noncomputable def a6d : TEnt := ⟨52, .cons (.int .i64) (.agg Y8_), [], [(.tup (.cons (.agg xA) .bool), [])], fun s => Vf s.1 s.2.1 s.2.2.1 s.2.2.2⟩
theorem a5t : qu Tryz.prog a6d := qh (tab := [WE]) (loops := []) (joins := []) (un := []) _ (by
  intro e he
  simp only [List.mem_cons, List.not_mem_nil, or_false] at he
  rcases he with rfl
  ·exact Zf) (fun s => by kernel_rfl) (by kernel_rfl)
noncomputable def yM (x0 : Int) (x1 : Int) (x2 : Int) (x3 : Int) (x4 : Int) (x5 : Int) (x6 : Int) : Option Jd :=
 some (((0 : Int)), (((0 : Int)), (((0 : Int)), (((0 : Int)), (x4, (x5, x6))))))
noncomputable def Wd : TEnt := ⟨161, .agg XC, [], [(.agg XC, [])], fun s => yM s.1 s.2.1 s.2.2.1 s.2.2.2.1 s.2.2.2.2.1 s.2.2.2.2.2.1 s.2.2.2.2.2.2⟩
theorem Wy : qu Tryz.prog Wd := qh (tab := []) (loops := []) (joins := []) (un := []) _ (by intro e he; simp at he) (fun s => by kernel_rfl) (by kernel_rfl)
noncomputable def YP (x0 : Int) (x1 : Int) (x2 : Int) (x3 : Int) (x4 : Int) (x5 : Int) (x6 : Int) : Option Jd :=
 some (((0 : Int)), (((0 : Int)), (((0 : Int)), (((0 : Int)), (x4, (x5, x6))))))
noncomputable def UF : TEnt := ⟨165, .agg xA, [], [(.agg xA, [])], fun s => YP s.1 s.2.1 s.2.2.1 s.2.2.2.1 s.2.2.2.2.1 s.2.2.2.2.2.1 s.2.2.2.2.2.2⟩
theorem a12 : qu Tryz.prog UF := qh (tab := []) (loops := []) (joins := []) (un := []) _ (by intro e he; simp at he) (fun s => by kernel_rfl) (by kernel_rfl)
end Go.Sim
set_option maxRecDepth 100000
set_option maxHeartbeats 4000000
namespace Go.Sim
def inR : List Int → Int → Bool
 | a :: b :: l, r => (decide (a ≤ r) && decide (r ≤ b)) || inR l r
 | _, _ => false
def vb : List Int := [768, 879, 8203, 8207, 8400, 8447, 65024, 65039, 65056, 65071]
def ZX : List Int := [4352, 4447, 11904, 12350, 12353, 42191, 44032, 55203, 63744, 64255, 65072, 65135, 65280, 65376, 65504, 65510, 127744, 128591, 129280, 129535, 131072, 262141]
def vL (r : Int) : Bool := (decide (0 ≤ r) && decide (r < 55296)) || (decide (57343 < r) && decide (r ≤ 1114111))
def jz (r : Int) : Int := if r < 32 ∨ (127 ≤ r ∧ r ≤ 159) then -1 else if vL r = true then (if inR vb r = true then 0 else if inR ZX r = true then 2 else 1) else -1
theorem ab9 (r : Int) : y6 r = some (vL r) := by
 unfold y6 vL
 by_cases h1 : 0 ≤ r <;> by_cases h2 : r < 55296 <;> by_cases h3 : 57343 < r <;> simp [h1, h2, h3]
theorem aei (r : Int) : Qj r = some (vL r) := by
 unfold Qj vL
 by_cases h1 : 0 ≤ r <;> by_cases h2 : r < 55296 <;> by_cases h3 : 57343 < r <;> by_cases h4 : r ≤ 1114111 <;> simp [h1, h2, h3, h4] <;> omega
theorem a6S (a : Int) (b : List Int) (c : Int) : Zj (a, b, c) = unr (jS a b c) Zj := jW _ _
theorem afM (r : Int) (l : List Int) (hl : l.length ≤ 1000) (he : l.length % 2 = 0) : ∀ (k i : Nat), 2 * k = l.length - i → i ≤ l.length → Zj (r, l, (i : Int)) = some (inR (l.drop i) r) := by
 intro k
 induction k with
 | zero =>
  intro i hk hi
  rw [a6S]
  unfold jS
  simp (disch := omega) only [qe, qk, q9, cond_true, cond_false, Int.toNat_natCast, zC]
  rw [List.drop_eq_nil_of_le (by omega)]
  rfl
 | succ k ih =>
  intro i hk hi
  obtain ⟨a, ha⟩ := qm (l := l) (i := i) (by omega)
  obtain ⟨b, hb⟩ := qm (l := l) (i := i + 1) (by omega)
  rw [XN ha, XN hb, a6S]
  unfold jS
  have e1 : ((i : Int) + 1).toNat = i + 1 := by omega
  have e2 : ((i : Int) + 2) = ((i + 2 : Nat) : Int) := by omega
  by_cases h1 : a ≤ r
  ·by_cases h2 : r ≤ b
   ·simp (disch := omega) only [qe, q9, cond_true, Option.bind_some, Int.toNat_natCast, zC, ha, hb, e1]
    simp [inR, h1, h2]
   ·simp (disch := omega) only [qe, qk, q9, cond_true, cond_false, Option.bind_some, Int.toNat_natCast, z6, ha, hb, e1, e2]
    rw [ih (i + 2) (by omega) (by omega)]
    simp [inR, h1, h2]
  ·simp (disch := omega) only [qe, qk, q9, cond_true, cond_false, Option.bind_some, Int.toNat_natCast, z6, ha, hb, e1, e2]
   rw [ih (i + 2) (by omega) (by omega)]
   simp [inR, h1]
theorem a7S (r : Int) (l : List Int) (hl : l.length ≤ 1000) (he : l.length % 2 = 0) : Kt r l = some (inR l r) := by
 unfold Kt
 have := afM r l hl he (l.length / 2) 0 (by omega) (by omega)
 rw [show ((0 : Nat) : Int) = 0 from rfl] at this
 rw [this]
 rfl
theorem XP (r : Int) : jM r = some (jz r) := by
 unfold jM jz
 rw [a7S _ _ (by simp) (by simp), a7S _ _ (by simp) (by simp), a7S _ _ (by simp) (by simp), aei]
 by_cases h1 : r < 32
 ·simp [h1]
 ·by_cases h2 : 127 ≤ r ∧ r ≤ 159
  ·simp [h1, h2, inR]
  ·have h2' : inR [127, 159] r = false := by simp only [inR]; simp; omega
   cases h3 : vL r
   ·simp [h1, h2, h2']
   ·rw [h2']
    cases h4 : inR vb r
    ·have h4' := h4
     unfold vb at h4'
     cases h5 : inR ZX r
     ·have h5' := h5
      unfold ZX at h5'
      rw [h4', h5']
      simp [h1, h2]
     ·have h5' := h5
      unfold ZX at h5'
      rw [h4', h5']
      simp [h1, h2]
    ·have h4' := h4
     unfold vb at h4'
     rw [h4']
     simp [h1, h2]
theorem Q4 (a b : Int) : qn (a, b) = unr (qt a b) qn := jW _ _
theorem xl (a b : Int) : qE (a, b) = unr (qW a b) qE := jW _ _
theorem aj2 (r : Int) : qn (0, r) = if (decide ((4352 : Int) ≤ r) && decide (r ≤ 4447)) = true then some 2 else qn (1, r) := by
 rw [Q4]
 unfold qt
 by_cases h1 : (4352 : Int) ≤ r
 ·by_cases h2 : r ≤ 4447
  ·simp (disch := omega) only [qe, qk, q9, cond_true, cond_false, decide_true, zC]
   simp []
  ·simp (disch := omega) only [qe, qk, q9, cond_true, cond_false, decide_true, z6]
   simp []
 ·simp (disch := omega) only [qe, qk, q9, cond_true, cond_false, decide_true, z6]
  simp []
theorem ajh (r : Int) : qn (1, r) = if (decide ((11904 : Int) ≤ r) && decide (r ≤ 12350)) = true then some 2 else qn (2, r) := by
 rw [Q4]
 unfold qt
 by_cases h1 : (11904 : Int) ≤ r
 ·by_cases h2 : r ≤ 12350
  ·simp (disch := omega) only [qe, qk, q9, cond_true, cond_false, decide_true, zC]
   simp []
  ·simp (disch := omega) only [qe, qk, q9, cond_true, cond_false, decide_true, z6]
   simp []
 ·simp (disch := omega) only [qe, qk, q9, cond_true, cond_false, decide_true, z6]
  simp []
theorem ajn (r : Int) : qn (2, r) = if (decide ((12353 : Int) ≤ r) && decide (r ≤ 42191)) = true then some 2 else qn (3, r) := by
 rw [Q4]
 unfold qt
 by_cases h1 : (12353 : Int) ≤ r
 ·by_cases h2 : r ≤ 42191
  ·simp (disch := omega) only [qe, qk, q9, cond_true, cond_false, decide_true, zC]
   simp []
  ·simp (disch := omega) only [qe, qk, q9, cond_true, cond_false, decide_true, z6]
   simp []
 ·simp (disch := omega) only [qe, qk, q9, cond_true, cond_false, decide_true, z6]
  simp []
theorem aiS (r : Int) : qn (3, r) = if (decide ((44032 : Int) ≤ r) && decide (r ≤ 55203)) = true then some 2 else qn (4, r) := by
 rw [Q4]
 unfold qt
 by_cases h1 : (44032 : Int) ≤ r
 ·by_cases h2 : r ≤ 55203
  ·simp (disch := omega) only [qe, qk, q9, cond_true, cond_false, decide_true, zC]
   simp []
  ·simp (disch := omega) only [qe, qk, q9, cond_true, cond_false, decide_true, z6]
   simp []
 ·simp (disch := omega) only [qe, qk, q9, cond_true, cond_false, decide_true, z6]
  simp []
theorem aja (r : Int) : qn (4, r) = if (decide ((63744 : Int) ≤ r) && decide (r ≤ 64255)) = true then some 2 else qn (5, r) := by
 rw [Q4]
 unfold qt
 by_cases h1 : (63744 : Int) ≤ r
 ·by_cases h2 : r ≤ 64255
  ·simp (disch := omega) only [qe, qk, q9, cond_true, cond_false, decide_true, zC]
   simp []
  ·simp (disch := omega) only [qe, qk, q9, cond_true, cond_false, decide_true, z6]
   simp []
 ·simp (disch := omega) only [qe, qk, q9, cond_true, cond_false, decide_true, z6]
  simp []
theorem aj7 (r : Int) : qn (5, r) = if (decide ((65072 : Int) ≤ r) && decide (r ≤ 65135)) = true then some 2 else qn (6, r) := by
 rw [Q4]
 unfold qt
 by_cases h1 : (65072 : Int) ≤ r
 ·by_cases h2 : r ≤ 65135
  ·simp (disch := omega) only [qe, qk, q9, cond_true, cond_false, decide_true, zC]
   simp []
  ·simp (disch := omega) only [qe, qk, q9, cond_true, cond_false, decide_true, z6]
   simp []
 ·simp (disch := omega) only [qe, qk, q9, cond_true, cond_false, decide_true, z6]
  simp []
theorem aiL (r : Int) : qn (6, r) = if (decide ((65280 : Int) ≤ r) && decide (r ≤ 65376)) = true then some 2 else qn (7, r) := by
 rw [Q4]
 unfold qt
 by_cases h1 : (65280 : Int) ≤ r
 ·by_cases h2 : r ≤ 65376
  ·simp (disch := omega) only [qe, qk, q9, cond_true, cond_false, decide_true, zC]
   simp []
  ·simp (disch := omega) only [qe, qk, q9, cond_true, cond_false, decide_true, z6]
   simp []
 ·simp (disch := omega) only [qe, qk, q9, cond_true, cond_false, decide_true, z6]
  simp []
theorem aj9 (r : Int) : qn (7, r) = if (decide ((65504 : Int) ≤ r) && decide (r ≤ 65510)) = true then some 2 else qn (8, r) := by
 rw [Q4]
 unfold qt
 by_cases h1 : (65504 : Int) ≤ r
 ·by_cases h2 : r ≤ 65510
  ·simp (disch := omega) only [qe, qk, q9, cond_true, cond_false, decide_true, zC]
   simp []
  ·simp (disch := omega) only [qe, qk, q9, cond_true, cond_false, decide_true, z6]
   simp []
 ·simp (disch := omega) only [qe, qk, q9, cond_true, cond_false, decide_true, z6]
  simp []
theorem ajs (r : Int) : qn (8, r) = if (decide ((127744 : Int) ≤ r) && decide (r ≤ 128591)) = true then some 2 else qn (9, r) := by
 rw [Q4]
 unfold qt
 by_cases h1 : (127744 : Int) ≤ r
 ·by_cases h2 : r ≤ 128591
  ·simp (disch := omega) only [qe, qk, q9, cond_true, cond_false, decide_true, zC]
   simp []
  ·simp (disch := omega) only [qe, qk, q9, cond_true, cond_false, decide_true, z6]
   simp []
 ·simp (disch := omega) only [qe, qk, q9, cond_true, cond_false, decide_true, z6]
  simp []
theorem aj0 (r : Int) : qn (9, r) = if (decide ((129280 : Int) ≤ r) && decide (r ≤ 129535)) = true then some 2 else qn (10, r) := by
 rw [Q4]
 unfold qt
 by_cases h1 : (129280 : Int) ≤ r
 ·by_cases h2 : r ≤ 129535
  ·simp (disch := omega) only [qe, qk, q9, cond_true, cond_false, decide_true, zC]
   simp []
  ·simp (disch := omega) only [qe, qk, q9, cond_true, cond_false, decide_true, z6]
   simp []
 ·simp (disch := omega) only [qe, qk, q9, cond_true, cond_false, decide_true, z6]
  simp []
theorem aip (r : Int) : qn (10, r) = if (decide ((131072 : Int) ≤ r) && decide (r ≤ 262141)) = true then some 2 else qn (11, r) := by
 rw [Q4]
 unfold qt
 by_cases h1 : (131072 : Int) ≤ r
 ·by_cases h2 : r ≤ 262141
  ·simp (disch := omega) only [qe, qk, q9, cond_true, cond_false, decide_true, zC]
   simp []
  ·simp (disch := omega) only [qe, qk, q9, cond_true, cond_false, decide_true, z6]
   simp []
 ·simp (disch := omega) only [qe, qk, q9, cond_true, cond_false, decide_true, z6]
  simp []
theorem aj8 (r : Int) : qE (0, r) = if (decide ((768 : Int) ≤ r) && decide (r ≤ 879)) = true then some 0 else qE (1, r) := by
 rw [xl]
 unfold qW
 by_cases h1 : (768 : Int) ≤ r
 ·by_cases h2 : r ≤ 879
  ·simp (disch := omega) only [qe, qk, q9, cond_true, cond_false, decide_true, zC]
   simp []
  ·simp (disch := omega) only [qe, qk, q9, cond_true, cond_false, decide_true, z6]
   simp []
 ·simp (disch := omega) only [qe, qk, q9, cond_true, cond_false, decide_true, z6]
  simp []
theorem ajc (r : Int) : qE (1, r) = if (decide ((8203 : Int) ≤ r) && decide (r ≤ 8207)) = true then some 0 else qE (2, r) := by
 rw [xl]
 unfold qW
 by_cases h1 : (8203 : Int) ≤ r
 ·by_cases h2 : r ≤ 8207
  ·simp (disch := omega) only [qe, qk, q9, cond_true, cond_false, decide_true, zC]
   simp []
  ·simp (disch := omega) only [qe, qk, q9, cond_true, cond_false, decide_true, z6]
   simp []
 ·simp (disch := omega) only [qe, qk, q9, cond_true, cond_false, decide_true, z6]
  simp []
theorem aj3 (r : Int) : qE (2, r) = if (decide ((8400 : Int) ≤ r) && decide (r ≤ 8447)) = true then some 0 else qE (3, r) := by
 rw [xl]
 unfold qW
 by_cases h1 : (8400 : Int) ≤ r
 ·by_cases h2 : r ≤ 8447
  ·simp (disch := omega) only [qe, qk, q9, cond_true, cond_false, decide_true, zC]
   simp []
  ·simp (disch := omega) only [qe, qk, q9, cond_true, cond_false, decide_true, z6]
   simp []
 ·simp (disch := omega) only [qe, qk, q9, cond_true, cond_false, decide_true, z6]
  simp []
theorem ajt (r : Int) : qE (3, r) = if (decide ((65024 : Int) ≤ r) && decide (r ≤ 65039)) = true then some 0 else qE (4, r) := by
 rw [xl]
 unfold qW
 by_cases h1 : (65024 : Int) ≤ r
 ·by_cases h2 : r ≤ 65039
  ·simp (disch := omega) only [qe, qk, q9, cond_true, cond_false, decide_true, zC]
   simp []
  ·simp (disch := omega) only [qe, qk, q9, cond_true, cond_false, decide_true, z6]
   simp []
 ·simp (disch := omega) only [qe, qk, q9, cond_true, cond_false, decide_true, z6]
  simp []
theorem aiY (r : Int) : qE (4, r) = if (decide ((65056 : Int) ≤ r) && decide (r ≤ 65071)) = true then some 0 else qE (5, r) := by
 rw [xl]
 unfold qW
 by_cases h1 : (65056 : Int) ≤ r
 ·by_cases h2 : r ≤ 65071
  ·simp (disch := omega) only [qe, qk, q9, cond_true, cond_false, decide_true, zC]
   simp []
  ·simp (disch := omega) only [qe, qk, q9, cond_true, cond_false, decide_true, z6]
   simp []
 ·simp (disch := omega) only [qe, qk, q9, cond_true, cond_false, decide_true, z6]
  simp []
theorem afD (r : Int) : qn (11, r) = some 1 := by
 rw [Q4]
 unfold qt
 simp (disch := omega) only [qk, q9, cond_false, zC]
theorem agU (r : Int) : qn (0, r) = some (if inR ZX r = true then 2 else 1) := by
 unfold ZX
 rw [aj2, ajh, ajn, aiS, aja, aj7, aiL, aj9, ajs, aj0, aip, afD]
 simp only [inR, Bool.or_false]
 repeat' split
 all_goals first | (simp_all; done) | (exfalso; simp only [Bool.or_eq_true, Bool.and_eq_true, decide_eq_true_eq] at *; omega)
theorem agP (r : Int) : qE (5, r) = some (if inR ZX r = true then 2 else 1) := by
 rw [xl]
 unfold qW
 simp (disch := omega) only [qk, q9, cond_false, Option.bind_some, zC, agU]
theorem age (r : Int) : qE (0, r) = some (if inR vb r = true then 0 else if inR ZX r = true then 2 else 1) := by
 unfold vb
 rw [aj8, ajc, aj3, ajt, aiY, agP]
 generalize (if inR ZX r = true then (2 : Int) else 1) = q
 simp only [inR, Bool.or_false]
 repeat' split
 all_goals first | (simp_all; done) | (exfalso; simp only [Bool.or_eq_true, Bool.and_eq_true, decide_eq_true_eq] at *; omega)
theorem vB (r : Int) : wu r = some (jz r) := by
 unfold wu jz
 rw [ab9, age]
 by_cases h1 : r < 32
 ·simp [h1]
 ·by_cases h2 : 127 ≤ r
  ·by_cases h3 : r ≤ 159
   ·simp [h1, h2, h3]
   ·cases h4 : vL r <;> simp [h1, h2, h3]
  ·cases h4 : vL r <;> simp [h1, h2]
theorem a2e (r : Int) : jT r = some (jz r == 0) := by unfold jT; rw [vB]; rfl
theorem a8x (r : Int) : yG r = some (jz r == 1) := by unfold yG; rw [vB]; rfl
theorem Qx (r : Int) : jz r = -1 ∨ jz r = 0 ∨ jz r = 1 ∨ jz r = 2 := by
 unfold jz
 repeat' split
 all_goals simp
end Go.Sim
set_option maxRecDepth 100000
set_option maxHeartbeats 0
namespace Go.Sim
open Go.Proofs
noncomputable def kg (x0 : Int) : Option Bool :=
 some (x0 == 0)
noncomputable def WA : TEnt := ⟨167, .int .i32, [], [(.bool, [])], fun s => kg s⟩
theorem vA : qu Tryz.prog WA := qh (tab := []) (loops := []) (joins := []) (un := []) _ (by intro e he; simp at he) (fun s => by kernel_rfl) (by kernel_rfl)
noncomputable def jI (x0 : Int) : Option Bool :=
 Option.bind (jT x0) fun x1 =>
  some !x1
noncomputable def JQ : TEnt := ⟨171, .int .i32, [], [(.bool, [])], fun s => jI s⟩
theorem vo : qu Tryz.prog JQ := qh (tab := [KU]) (loops := []) (joins := []) (un := []) _ (by
  intro e he
  simp only [List.mem_cons, List.not_mem_nil, or_false] at he
  rcases he with rfl
  ·exact Ju) (fun s => by kernel_rfl) (by kernel_rfl)
noncomputable def yS (x0 : Int) (x1 : Int) (x2 : Int) (x3 : Int) (x4 : Int) (x5 : Int) (x6 : Int) : Option Bool :=
 Option.bind (
  Option.bind (wF x4 x5 x6) fun x7 =>
   bif !x7 then
    some (Sum.inl (true, (x0, (x1, (x2, (x3, (x4, (x5, x6))))))))
   else some (Sum.inl ((decide (2 < x3)), (x0, (x1, (x2, (x3, (x4, (x5, x6))))))))) fun (x7 : ((Bool × Jd) ⊕ Bool)) =>
  match x7 with
  | Sum.inl x8 =>
    bif x8.1 then
     some false
    else bif x8.2.2.2.2.1 == 0 then
      bif x8.2.1 == 0 then
       bif x8.2.2.1 == 0 then
        some (x8.2.2.2.1 == 0)
       else some false
      else some false
     else Option.bind (jM x8.2.1) fun x9 =>
       bif x9 != IntKind.i64.wrap x8.2.2.2.2.1 then
        some false
       else bif x8.2.2.1 == 0 then
         bif x8.2.2.2.1 == 0 then
          some true
         else Option.bind (jM x8.2.2.1) fun x10 =>
           bif x10 == 0 then
            bif x8.2.2.1 != 0 then
             bif x8.2.2.2.1 == 0 then
              some true
             else Option.bind (jM x8.2.2.2.1) fun x11 =>
               some (x11 == 0)
            else some false
           else some false
        else Option.bind (jM x8.2.2.1) fun x10 =>
          bif x10 == 0 then
           bif x8.2.2.1 != 0 then
            bif x8.2.2.2.1 == 0 then
             some true
            else Option.bind (jM x8.2.2.2.1) fun x11 =>
              some (x11 == 0)
           else some false
          else some false
  | Sum.inr x8 =>
    some x8
noncomputable def Wh : TEnt := ⟨164, .agg xA, [], [(.bool, [])], fun s => yS s.1 s.2.1 s.2.2.1 s.2.2.2.1 s.2.2.2.2.1 s.2.2.2.2.2.1 s.2.2.2.2.2.2⟩
theorem JK : qu Tryz.prog Wh := qh (tab := [WE, Ze]) (loops := []) (joins := [(9, [1, 13], (.cons (.ptr 0 0) .bool), [.st xA])]) (un := []) _ (by
  intro e he
  simp only [List.mem_cons, List.not_mem_nil, or_false] at he
  rcases he with rfl | rfl
  ·exact Zf
  ·exact QH) (fun s => by kernel_rfl) (by kernel_rfl)
noncomputable def j9 (x0 : Jd) (x1 : Int) : Option (Jd × Bool) :=
 Option.bind (jM x1) fun x2 =>
  bif x2 != 0 then
   some ((x0.1, (x0.2.1, (x0.2.2.1, (x0.2.2.2.1, (x0.2.2.2.2.1, (x0.2.2.2.2.2.1, x0.2.2.2.2.2.2)))))), false)
  else bif x0.2.2.2.1 != 1 then
    bif x0.2.2.2.1 != 2 then
     some ((x0.1, (x0.2.1, (x0.2.2.1, (x0.2.2.2.1, (x0.2.2.2.2.1, (x0.2.2.2.2.2.1, x0.2.2.2.2.2.2)))))), false)
    else bif x0.2.1 == 0 then
      some ((x0.1, (x1, (x0.2.2.1, (x0.2.2.2.1, (x0.2.2.2.2.1, (x0.2.2.2.2.2.1, x0.2.2.2.2.2.2)))))), true)
     else bif x0.2.2.1 == 0 then
       some ((x0.1, (x0.2.1, (x1, (x0.2.2.2.1, (x0.2.2.2.2.1, (x0.2.2.2.2.2.1, x0.2.2.2.2.2.2)))))), true)
      else some ((x0.1, (x0.2.1, (x0.2.2.1, (x0.2.2.2.1, (x0.2.2.2.2.1, (x0.2.2.2.2.2.1, x0.2.2.2.2.2.2)))))), false)
   else bif x0.2.1 == 0 then
     some ((x0.1, (x1, (x0.2.2.1, (x0.2.2.2.1, (x0.2.2.2.2.1, (x0.2.2.2.2.2.1, x0.2.2.2.2.2.2)))))), true)
    else bif x0.2.2.1 == 0 then
      some ((x0.1, (x0.2.1, (x1, (x0.2.2.2.1, (x0.2.2.2.2.1, (x0.2.2.2.2.2.1, x0.2.2.2.2.2.2)))))), true)
     else some ((x0.1, (x0.2.1, (x0.2.2.1, (x0.2.2.2.1, (x0.2.2.2.2.1, (x0.2.2.2.2.2.1, x0.2.2.2.2.2.2)))))), false)
noncomputable def uK : TEnt := ⟨189, .cons (.agg xA) (.int .i64), [], [(.tup (.cons (.agg xA) .bool), [])], fun s => j9 s.1 s.2⟩
theorem a1c : qu Tryz.prog uK := qh (tab := [WE]) (loops := []) (joins := []) (un := []) _ (by
  intro e he
  simp only [List.mem_cons, List.not_mem_nil, or_false] at he
  rcases he with rfl
  ·exact Zf) (fun s => by kernel_rfl) (by kernel_rfl)
noncomputable def y4 (x0 : Int) (x1 : Int) (x2 : Int) (x3 : Int) (x4 : Int) (x5 : Int) (x6 : Int) : Option Bool :=
 Option.bind (wJ x4 x5 x6) fun x7 =>
  bif !x7 then
   some false
  else bif x3 == 0 then
    Option.bind (yM x0 x1 x2 x3 x4 x5 x6) fun x8 =>
     some (x0 == x8.1 && (x1 == x8.2.1 && (x2 == x8.2.2.1 && true) && (x3 == x8.2.2.2.1 && (x4 == x8.2.2.2.2.1 && (x5 == x8.2.2.2.2.2.1 && (x6 == x8.2.2.2.2.2.2 && true)) && true))))
   else bif decide (2 < x3) then
     some false
    else Option.bind (wu x0) fun x8 =>
      bif x8 != IntKind.i64.wrap x3 then
       some false
      else Option.bind (kg x1) fun x9 =>
        bif x9 then
         Option.bind (kg x1) fun x10 =>
          bif !x10 then
           some false
          else Option.bind (kg x2) fun x11 =>
            bif !x11 then
             some false
            else some true
        else Option.bind (kg x2) fun x10 =>
          bif x10 then
           Option.bind (jI x1) fun x11 =>
            bif x11 then
             some false
            else Option.bind (kg x2) fun x12 =>
              bif !x12 then
               some false
              else some true
          else Option.bind (jI x1) fun x11 =>
            bif x11 then
             some false
            else Option.bind (jI x2) fun x12 =>
              bif x12 then
               some false
              else some true
noncomputable def KH : TEnt := ⟨114, .agg XC, [], [(.bool, [])], fun s => y4 s.1 s.2.1 s.2.2.1 s.2.2.2.1 s.2.2.2.2.1 s.2.2.2.2.2.1 s.2.2.2.2.2.2⟩
theorem Jx : qu Tryz.prog KH := qh (tab := [Z0, ZF, Wd, WA, JQ]) (loops := []) (joins := []) (un := []) _ (by
  intro e he
  simp only [List.mem_cons, List.not_mem_nil, or_false] at he
  rcases he with rfl | rfl | rfl | rfl | rfl
  ·exact yK
  ·exact QN
  ·exact Wy
  ·exact vA
  ·exact vo) (fun s => by kernel_rfl) (by kernel_rfl)
noncomputable def kA (x0 : Jd) (x1 : Int) : Option (Jd × Bool) :=
 bif 0 == x0.2.1 then
  Option.bind (jT x1) fun x2 =>
   bif !x2 then
    some ((x0.1, (x0.2.1, (x0.2.2.1, (x0.2.2.2.1, (x0.2.2.2.2.1, (x0.2.2.2.2.2.1, x0.2.2.2.2.2.2)))))), false)
   else bif x0.2.2.2.1 != 1 then
     bif x0.2.2.2.1 != 2 then
      some ((x0.1, (x0.2.1, (x0.2.2.1, (x0.2.2.2.1, (x0.2.2.2.2.1, (x0.2.2.2.2.2.1, x0.2.2.2.2.2.2)))))), false)
     else some ((x0.1, (x1, (x0.2.2.1, (x0.2.2.2.1, (x0.2.2.2.2.1, (x0.2.2.2.2.2.1, x0.2.2.2.2.2.2)))))), true)
    else some ((x0.1, (x1, (x0.2.2.1, (x0.2.2.2.1, (x0.2.2.2.2.1, (x0.2.2.2.2.2.1, x0.2.2.2.2.2.2)))))), true)
 else bif 0 == x0.2.2.1 then
   Option.bind (jT x1) fun x2 =>
    bif !x2 then
     some ((x0.1, (x0.2.1, (x0.2.2.1, (x0.2.2.2.1, (x0.2.2.2.2.1, (x0.2.2.2.2.2.1, x0.2.2.2.2.2.2)))))), false)
    else bif x0.2.2.2.1 != 1 then
      bif x0.2.2.2.1 != 2 then
       some ((x0.1, (x0.2.1, (x0.2.2.1, (x0.2.2.2.1, (x0.2.2.2.2.1, (x0.2.2.2.2.2.1, x0.2.2.2.2.2.2)))))), false)
      else some ((x0.1, (x0.2.1, (x1, (x0.2.2.2.1, (x0.2.2.2.2.1, (x0.2.2.2.2.2.1, x0.2.2.2.2.2.2)))))), true)
     else some ((x0.1, (x0.2.1, (x1, (x0.2.2.2.1, (x0.2.2.2.2.1, (x0.2.2.2.2.2.1, x0.2.2.2.2.2.2)))))), true)
  else some ((x0.1, (x0.2.1, (x0.2.2.1, (x0.2.2.2.1, (x0.2.2.2.2.1, (x0.2.2.2.2.2.1, x0.2.2.2.2.2.2)))))), false)
noncomputable def Xd : TEnt := ⟨190, .cons (.agg XC) (.int .i32), [], [(.tup (.cons (.agg XC) .bool), [])], fun s => kA s.1 s.2⟩
theorem a09 : qu Tryz.prog Xd := qh (tab := [KU]) (loops := []) (joins := []) (un := []) _ (by
  intro e he
  simp only [List.mem_cons, List.not_mem_nil, or_false] at he
  rcases he with rfl
  ·exact Ju) (fun s => by kernel_rfl) (by kernel_rfl)
end Go.Sim
set_option maxRecDepth 100000
set_option maxHeartbeats 4000000
namespace Go.Sim
abbrev qc : Type := Int × ((Int × Int) × (Int × Y3_))
def zU (n : Int) : Prop := -2147483648 ≤ n ∧ n < 2147483648
def u8r (n : Int) : Prop := 0 ≤ n ∧ n < 256
structure OkC (c : qc) : Prop where
 r : zU c.1
 m1 : zU c.2.1.1
 m2 : zU c.2.1.2
 w : u8r c.2.2.1
 p1 : u8r c.2.2.2.1
 p2 : u8r c.2.2.2.2.1
 p3 : u8r c.2.2.2.2.2
def QG (a b c : Int) : Bool := decide (a < 32) && (decide (b < 17) && decide (c < 17))
theorem a07 (a b c : Int) : wJ a b c = some (QG a b c) := by
 unfold wJ QG
 by_cases h1 : a < 32 <;> by_cases h2 : b < 17 <;> by_cases h3 : c < 17 <;> simp [h1, h2, h3]
theorem a4j (a b c : Int) : wF a b c = some (QG a b c) := by
 unfold wF QG
 have e1 : decide (a ≤ 31) = decide (a < 32) := decide_eq_decide.2 (by omega)
 have e2 : decide (b ≤ 16) = decide (b < 17) := decide_eq_decide.2 (by omega)
 have e3 : decide (c ≤ 16) = decide (c < 17) := decide_eq_decide.2 (by omega)
 rw [e1, e2, e3]
 by_cases h1 : a < 32 <;> by_cases h2 : b < 17 <;> by_cases h3 : c < 17 <;> simp [h1, h2, h3]
def zf (c : qc) : Bool := QG c.2.2.2.1 c.2.2.2.2.1 c.2.2.2.2.2 && (if c.2.2.1 = 0 then (c.1 == 0 && (c.2.1.1 == 0 && c.2.1.2 == 0)) else decide (c.2.2.1 ≤ 2) && (jz c.1 == c.2.2.1 && (if c.2.1.1 = 0 then c.2.1.2 == 0 else jz c.2.1.1 == 0 && (c.2.1.2 == 0 || jz c.2.1.2 == 0))))
theorem uz {c : qc} (h : OkC c) : y4 c.1 c.2.1.1 c.2.1.2 c.2.2.1 c.2.2.2.1 c.2.2.2.2.1 c.2.2.2.2.2 = some (zf c) := by
 obtain ⟨r, ⟨m1, m2⟩, w, p1, p2, p3⟩ := c
 have hw := h.w
 simp only [u8r] at hw
 unfold y4 zf
 simp only [a07, vB, yM, kg, jI, a2e, Option.bind_some, bne, Qs, q9 (n := w) (by omega) (by omega)]
 cases hp : QG p1 p2 p3
 ·simp
 ·by_cases h0 : w = 0
  ·subst h0; simp []
  ·by_cases h2 : w ≤ 2
   ·have h2' : ¬ 2 < w := by omega
    by_cases h3 : jz r = w
    ·by_cases h4 : m1 = 0
     ·by_cases h5 : m2 = 0 <;> simp [h0, h2, h2', h3, h4, h5]
     ·by_cases h5 : m2 = 0
      ·by_cases h6 : jz m1 = 0 <;> simp [h0, h2, h2', h3, h4, h5, h6]
      ·by_cases h6 : jz m1 = 0 <;> by_cases h7 : jz m2 = 0 <;> simp [h0, h2, h2', h3, h4, h5, h6, h7]
    ·simp [h0, h2, h2', h3]
   ·have h2' : 2 < w := by omega
    simp [h0, h2, h2']
theorem ahl : jz 0 = -1 := by simp [jz]
theorem a1t {c : qc} (h : OkC c) : yS c.1 c.2.1.1 c.2.1.2 c.2.2.1 c.2.2.2.1 c.2.2.2.2.1 c.2.2.2.2.2 = some (zf c) := by
 obtain ⟨r, ⟨m1, m2⟩, w, p1, p2, p3⟩ := c
 have hw := h.w
 simp only [u8r] at hw
 have ww : IntKind.i64.wrap w = w := q9 (by omega) (by omega)
 unfold yS zf
 simp only [a4j, XP, Option.bind_some, bne, Qs]
 cases hp : QG p1 p2 p3
 ·simp
 ·by_cases h2 : w ≤ 2
  ·have h2' : ¬ 2 < w := by omega
   by_cases h0 : w = 0
   ·subst h0
    by_cases h4 : r = 0 <;> by_cases h5 : m1 = 0 <;> simp [h4, h5]
   ·by_cases h3 : jz r = w
    ·by_cases h4 : m1 = 0
     ·by_cases h5 : m2 = 0 <;> simp [ww, h0, h2, h2', h3, h4, h5, ahl]
     ·by_cases h5 : m2 = 0
      ·by_cases h6 : jz m1 = 0 <;> simp [ww, h0, h2, h2', h3, h4, h5, h6]
      ·by_cases h6 : jz m1 = 0 <;> by_cases h7 : jz m2 = 0 <;> simp [ww, h0, h2, h2', h3, h4, h5, h6, h7]
    ·simp [ww, h0, h2, h2', h3]
  ·have h2' : 2 < w := by omega
   have h0 : w ≠ 0 := by omega
   simp [h0, h2, h2']
def ofC (r p1 p2 p3 : Int) : qc × Bool := if jz r < 1 then ((0, (0, 0), 0, 0, 0, 0), false) else ((r, (0, 0), jz r, p1, p2, p3), true)
def zD (c : qc) : Int × (Int × (Int × (Int × Y3_))) := (c.1, c.2.1.1, c.2.1.2, c.2.2.1, c.2.2.2.1, c.2.2.2.2.1, c.2.2.2.2.2)
theorem agZ (r p1 p2 p3 : Int) : K1 r p1 p2 p3 = some (zD (ofC r p1 p2 p3).1, (ofC r p1 p2 p3).2) := by
 unfold K1 ofC
 rw [vB]
 rcases Qx r with h | h | h | h
 ·simp [h, zD]
 ·simp [h, zD]
 ·have : IntKind.u8.wrap 1 = 1 := a9Q (by omega) (by omega)
  simp [h, zD, this]
 ·have : IntKind.u8.wrap 2 = 2 := a9Q (by omega) (by omega)
  simp [h, zD, this]
theorem aig (r p1 p2 p3 : Int) : Vf r p1 p2 p3 = some (zD (ofC r p1 p2 p3).1, (ofC r p1 p2 p3).2) := by
 unfold Vf ofC
 rw [XP]
 rcases Qx r with h | h | h | h
 ·simp [h, zD]
 ·simp [h, zD]
 ·have : IntKind.u8.wrap 1 = 1 := a9Q (by omega) (by omega)
  simp [h, zD, this]
 ·have : IntKind.u8.wrap 2 = 2 := a9Q (by omega) (by omega)
  simp [h, zD, this]
def jg (c : qc) (m : Int) : qc × Bool :=
 if jz m = 0 ∧ (c.2.2.1 = 1 ∨ c.2.2.1 = 2) then
  (if c.2.1.1 = 0 then ((c.1, (m, c.2.1.2), c.2.2), true) else if c.2.1.2 = 0 then ((c.1, (c.2.1.1, m), c.2.2), true) else (c, false))
 else (c, false)
theorem a6r (c : qc) (m : Int) : j9 (zD c) m = some (zD (jg c m).1, (jg c m).2) := by
 obtain ⟨r, ⟨m1, m2⟩, w, p1, p2, p3⟩ := c
 unfold j9 jg zD
 simp only [XP, Option.bind_some, bne, Qs]
 by_cases h1 : jz m = 0
 ·by_cases h2 : w = 1
  ·by_cases h3 : m1 = 0 <;> by_cases h4 : m2 = 0 <;> simp [h1, h2, h3, h4]
  ·by_cases h2b : w = 2
   ·by_cases h3 : m1 = 0 <;> by_cases h4 : m2 = 0 <;> simp [h1, h2b, h3, h4]
   ·simp [h1, h2, h2b]
 ·simp [h1]
theorem uv (c : qc) (m : Int) : kA (zD c) m = some (zD (jg c m).1, (jg c m).2) := by
 obtain ⟨r, ⟨m1, m2⟩, w, p1, p2, p3⟩ := c
 unfold kA jg zD
 simp only [a2e, Option.bind_some, bne, Qs, eq_comm (a := (0 : Int))]
 by_cases h1 : jz m = 0
 ·by_cases h2 : w = 1
  ·by_cases h3 : m1 = 0 <;> by_cases h4 : m2 = 0 <;> simp [h1, h2, h3, h4]
  ·by_cases h2b : w = 2
   ·by_cases h3 : m1 = 0 <;> by_cases h4 : m2 = 0 <;> simp [h1, h2b, h3, h4]
   ·by_cases h3 : m1 = 0 <;> by_cases h4 : m2 = 0 <;> simp [h1, h2, h2b, h3, h4]
 ·by_cases h3 : m1 = 0 <;> by_cases h4 : m2 = 0 <;> simp [h1, h3, h4]
end Go.Sim
set_option maxRecDepth 100000
set_option maxHeartbeats 0
namespace Go.Sim
open Go.Proofs
noncomputable def qN (x0 : Y0_) : Option Y0_ :=
 bif decide (x0.length = (0 : Nat)) then
  Go.Sim.bothM (
   some []) (
   bif decide ((0 : Nat) = (0 : Nat) ∧ (0 : Nat) + x0.length ≤ (8796093022208 : Nat)) then
    bif decide ((0 : Nat) + x0.length = ([] ++ x0).length) then
     some ([] ++ x0)
    else none
   else none)
 else bif decide ((0 : Nat) = (0 : Nat) ∧ (0 : Nat) + x0.length ≤ (8796093022208 : Nat)) then
   bif decide ((0 : Nat) + x0.length = ([] ++ x0).length) then
    some ([] ++ x0)
   else none
  else none
noncomputable def kG : TEnt := ⟨98, .sl Y1_, [], [(.own 0, [.li Y1_ 37 false])], fun s => qN s⟩
theorem zT : qu Tryz.prog kG := qh (tab := []) (loops := []) (joins := []) (un := []) _ (by intro e he; simp at he) (fun s => by kernel_rfl) (by kernel_rfl)
noncomputable def w7 (x0 : Int) : Option Int :=
 some (if (512 : Int) < if (0 : Int) > x0 then (0 : Int) else x0 then (512 : Int) else if (0 : Int) > x0 then (0 : Int) else x0)
noncomputable def ZJ : TEnt := ⟨146, .int .i64, [], [(.int .i64, [])], fun s => w7 s⟩
theorem K4 : qu Tryz.prog ZJ := qh (tab := []) (loops := []) (joins := []) (un := []) _ (by intro e he; simp at he) (fun s => by kernel_rfl) (by kernel_rfl)
noncomputable def wT (x0 : Int) : Option Int :=
 bif decide (x0 < 0) then
  some ((0 : Int))
 else bif decide (512 < x0) then
   some ((512 : Int))
  else some x0
noncomputable def KO : TEnt := ⟨147, .int .i64, [], [(.int .i64, [])], fun s => wT s⟩
theorem Jt : qu Tryz.prog KO := qh (tab := []) (loops := []) (joins := []) (un := []) _ (by intro e he; simp at he) (fun s => by kernel_rfl) (by kernel_rfl)
noncomputable def zp (x4 : (Int × Int)) (x5 : Y3_) (x6 : Y0_) : Option (((Int × Int) × (Y3_ × Y0_)) ⊕ Y0_) :=
 bif decide (x4.2 < x4.1) then
  Option.bind (wW x5.1 x5.2.1 x5.2.2) fun x7 =>
   bif decide ((1 : Nat) = (1 : Nat)) then
    bif decide (x6.length = x6.length ∧ x6.length + (1 : Nat) ≤ (8796093022208 : Nat)) then
     bif decide (x6.length + (1 : Nat) = (x6 ++ [(x7.1, (x7.2.1, x7.2.2.1), x7.2.2.2.1, x7.2.2.2.2.1, x7.2.2.2.2.2.1, x7.2.2.2.2.2.2)]).length) then
      some (Sum.inl ((x4.1, (IntKind.i64.wrap (x4.2 + (1 : Int)))), ((x5.1, (x5.2.1, x5.2.2)), (x6 ++ [(x7.1, (x7.2.1, x7.2.2.1), x7.2.2.2.1, x7.2.2.2.2.1, x7.2.2.2.2.2.1, x7.2.2.2.2.2.2)]))))
     else none
    else none
   else none
 else bif decide (x6.length = x6.length) then
   some (Sum.inr x6)
  else none
noncomputable def Ki : ((Int × Int) × (Y3_ × Y0_)) → Option Y0_ := qT fun s => zp s.1 s.2.1 s.2.2
noncomputable def ji (x0 : Int) (x1 : Int) (x2 : Int) (x3 : Int) : Option Y0_ :=
 Option.bind (Ki ((x0, ((0 : Int))), ((x1, (x2, x3)), []))) fun x4 =>
  some x4
noncomputable def yF : TEnt := ⟨145, .cons (.int .i64) (.agg Y8_), [], [(.sl Y1_, [])], fun s => ji s.1 s.2.1 s.2.2.1 s.2.2.2⟩
theorem ym : qu Tryz.prog yF := qh (tab := [J3]) (loops := [(4682, [3, 5, 6, 7], (.cons (.ptr 0 0) (.cons (.own 1) Y7_)), [.st Y8_, .li Y1_ 37 false])]) (joins := []) (un := []) _ (by
  intro e he
  simp only [List.mem_cons, List.not_mem_nil, or_false] at he
  rcases he with rfl
  ·exact JB) (fun s => by kernel_rfl) (by kernel_rfl)
noncomputable def Z2 (x0 : Int) : Option Y0_ :=
 Option.bind (w7 x0) fun x1 =>
  Option.bind (ji x1 (0 : Int) (0 : Int) (0 : Int)) fun x2 =>
   some x2
noncomputable def vj : TEnt := ⟨85, .int .i64, [], [(.sl Y1_, [])], fun s => Z2 s⟩
theorem Yy : qu Tryz.prog vj := qh (tab := [ZJ, yF]) (loops := []) (joins := []) (un := []) _ (by
  intro e he
  simp only [List.mem_cons, List.not_mem_nil, or_false] at he
  rcases he with rfl | rfl
  ·exact K4
  ·exact ym) (fun s => by kernel_rfl) (by kernel_rfl)
noncomputable def kF (x1 : (Int × Int)) (x2 : Y0_) : Option (((Int × Int) × Y0_) ⊕ Y0_) :=
 Option.bind (wT x1.1) fun x3 =>
  bif decide (x1.2 < x3) then
   Option.bind (zQ (0 : Int) (0 : Int) (0 : Int)) fun x4 =>
    bif decide ((1 : Nat) = (1 : Nat)) then
     bif decide (x2.length = x2.length ∧ x2.length + (1 : Nat) ≤ (4398046511104 : Nat)) then
      bif decide (x2.length + (1 : Nat) = (x2 ++ [(x4.1, (x4.2.1, x4.2.2.1), x4.2.2.2.1, x4.2.2.2.2.1, x4.2.2.2.2.2.1, x4.2.2.2.2.2.2)]).length) then
       some (Sum.inl ((x1.1, (IntKind.i64.wrap (x1.2 + (1 : Int)))), (x2 ++ [(x4.1, (x4.2.1, x4.2.2.1), x4.2.2.2.1, x4.2.2.2.2.1, x4.2.2.2.2.2.1, x4.2.2.2.2.2.2)])))
      else none
     else none
    else none
  else bif decide (x2.length = x2.length) then
    some (Sum.inr x2)
   else none
noncomputable def vO : ((Int × Int) × Y0_) → Option Y0_ := qT fun s => kF s.1 s.2
noncomputable def yg (x0 : Int) : Option Y0_ :=
 Option.bind (vO ((x0, ((0 : Int))), [])) fun x1 =>
  some x1
noncomputable def Y5 : TEnt := ⟨86, .int .i64, [], [(.sl Y2_, [])], fun s => yg s⟩
theorem Jj : qu Tryz.prog Y5 := qh (tab := [yZ, KO]) (loops := [(4682, [0, 3, 4], (.cons (.int .i64) (.cons (.own 0) (.int .i64))), [.li Y2_ 47 false])]) (joins := []) (un := []) _ (by
  intro e he
  simp only [List.mem_cons, List.not_mem_nil, or_false] at he
  rcases he with rfl | rfl
  ·exact wZ
  ·exact Jt) (fun s => by kernel_rfl) (by kernel_rfl)
noncomputable def a0a (x0 : Int) (x1 : Int) : Option Bool :=
 bif decide (0 ≤ x0) then
  none
 else some false
noncomputable def JI : TEnt := ⟨173, .cons (.int .i64) (.int .u8), [], [(.bool, [])], fun s => a0a s.1 s.2⟩
theorem V0 : qu Tryz.prog JI := qh (tab := []) (loops := []) (joins := []) (un := []) _ (by intro e he; simp at he) (fun s => by kernel_rfl) (by kernel_rfl)
noncomputable def wU (x0 : Y0_) (x1 : Int) : Option Bool :=
 bif decide (0 ≤ x1) then
  bif decide (x1 < (↑(List.length x0) : Int)) then
   bif decide (0 ≤ x1) then
    Option.bind (x0[x1.toNat]?) fun x2 =>
     bif x2.2.2.1 == 2 then
      bif decide ((0 : Int) ≤ IntKind.i64.wrap (x1 + (1 : Int))) then
       bif decide (IntKind.i64.wrap (x1 + (1 : Int)) < (↑(List.length x0) : Int)) then
        bif decide ((0 : Int) ≤ IntKind.i64.wrap (x1 + (1 : Int))) then
         Option.bind (x0[(IntKind.i64.wrap (x1 + (1 : Int))).toNat]?) fun x3 =>
          bif !x3.2.2.1 == 0 then
           some true
          else bif decide (0 ≤ x1) then
            bif decide (x1 < (↑(List.length x0) : Int)) then
             bif decide (0 ≤ x1) then
              Option.bind (x0[x1.toNat]?) fun x4 =>
               bif x4.2.2.1 == 0 then
                bif decide ((0 : Int) ≤ IntKind.i64.wrap (x1 - (1 : Int))) then
                 bif decide (IntKind.i64.wrap (x1 - (1 : Int)) < (↑(List.length x0) : Int)) then
                  bif decide ((0 : Int) ≤ IntKind.i64.wrap (x1 - (1 : Int))) then
                   Option.bind (x0[(IntKind.i64.wrap (x1 - (1 : Int))).toNat]?) fun x5 =>
                    some (!x5.2.2.1 == 2)
                  else none
                 else some true
                else some true
               else some false
             else none
            else some false
           else some false
        else none
       else some true
      else some true
     else bif decide (0 ≤ x1) then
       bif decide (x1 < (↑(List.length x0) : Int)) then
        bif decide (0 ≤ x1) then
         Option.bind (x0[x1.toNat]?) fun x3 =>
          bif x3.2.2.1 == 0 then
           bif decide ((0 : Int) ≤ IntKind.i64.wrap (x1 - (1 : Int))) then
            bif decide (IntKind.i64.wrap (x1 - (1 : Int)) < (↑(List.length x0) : Int)) then
             bif decide ((0 : Int) ≤ IntKind.i64.wrap (x1 - (1 : Int))) then
              Option.bind (x0[(IntKind.i64.wrap (x1 - (1 : Int))).toNat]?) fun x4 =>
               some (!x4.2.2.1 == 2)
             else none
            else some true
           else some true
          else some false
        else none
       else some false
      else some false
   else none
  else bif decide (0 ≤ x1) then
    bif decide (x1 < (↑(List.length x0) : Int)) then
     bif decide (0 ≤ x1) then
      Option.bind (x0[x1.toNat]?) fun x2 =>
       bif x2.2.2.1 == 0 then
        bif decide ((0 : Int) ≤ IntKind.i64.wrap (x1 - (1 : Int))) then
         bif decide (IntKind.i64.wrap (x1 - (1 : Int)) < (↑(List.length x0) : Int)) then
          bif decide ((0 : Int) ≤ IntKind.i64.wrap (x1 - (1 : Int))) then
           Option.bind (x0[(IntKind.i64.wrap (x1 - (1 : Int))).toNat]?) fun x3 =>
            some (!x3.2.2.1 == 2)
          else none
         else some true
        else some true
       else some false
     else none
    else some false
   else some false
 else bif decide (0 ≤ x1) then
   bif decide (x1 < (↑(List.length x0) : Int)) then
    bif decide (0 ≤ x1) then
     Option.bind (x0[x1.toNat]?) fun x2 =>
      bif x2.2.2.1 == 0 then
       bif decide ((0 : Int) ≤ IntKind.i64.wrap (x1 - (1 : Int))) then
        bif decide (IntKind.i64.wrap (x1 - (1 : Int)) < (↑(List.length x0) : Int)) then
         bif decide ((0 : Int) ≤ IntKind.i64.wrap (x1 - (1 : Int))) then
          Option.bind (x0[(IntKind.i64.wrap (x1 - (1 : Int))).toNat]?) fun x3 =>
           some (!x3.2.2.1 == 2)
         else none
        else some true
       else some true
      else some false
    else none
   else some false
  else some false
noncomputable def J0 : TEnt := ⟨115, .cons (.sl Y1_) (.int .i64), [], [(.bool, [])], fun s => wU s.1 s.2⟩
theorem Jy : qu Tryz.prog J0 := qh (tab := [JI]) (loops := []) (joins := []) (un := []) _ (by
  intro e he
  simp only [List.mem_cons, List.not_mem_nil, or_false] at he
  rcases he with rfl
  ·exact V0) (fun s => by kernel_rfl) (by kernel_rfl)
noncomputable def yW (x0 : Y0_) (x1 : Int) : Option Bool :=
 bif decide (0 ≤ x1) then
  Option.bind (x0[x1.toNat]?) fun x2 =>
   bif x2.2.2.1 == 2 then
    bif IntKind.i64.wrap (x1 + (1 : Int)) == (↑(List.length x0) : Int) then
     some true
    else bif decide ((0 : Int) ≤ IntKind.i64.wrap (x1 + (1 : Int))) then
      Option.bind (x0[(IntKind.i64.wrap (x1 + (1 : Int))).toNat]?) fun x3 =>
       some (x3.2.2.1 != 0)
     else none
   else bif decide (0 ≤ x1) then
     Option.bind (x0[x1.toNat]?) fun x3 =>
      bif x3.2.2.1 == 0 then
       bif x1 == 0 then
        some true
       else bif decide ((0 : Int) ≤ IntKind.i64.wrap (x1 - (1 : Int))) then
         Option.bind (x0[(IntKind.i64.wrap (x1 - (1 : Int))).toNat]?) fun x4 =>
          some (x4.2.2.1 != 2)
        else none
      else some false
    else none
 else none
noncomputable def WD : TEnt := ⟨191, .cons (.sl Y2_) (.int .i64), [], [(.bool, [])], fun s => yW s.1 s.2⟩
theorem Wa : qu Tryz.prog WD := qh (tab := []) (loops := []) (joins := []) (un := []) _ (by intro e he; simp at he) (fun s => by kernel_rfl) (by kernel_rfl)
noncomputable def zi (x1 : (Y0_ × VX)) (x2 : Y0_) : Option (((Y0_ × VX) × Y0_) ⊕ Y0_) :=
 bif decide (x1.2.2.2 < x1.2.2.1) then
  bif decide (0 ≤ x1.2.2.2) then
   Option.bind (x1.2.1[x1.2.2.2.toNat]?) fun x3 =>
    Option.bind (wU x1.1 x1.2.2.2) fun x4 =>
     bif !x4 then
      bif decide (x2.length = x2.length) then
       some (Sum.inl ((x1.1, (x1.2.1, (x1.2.2.1, (IntKind.i64.wrap (x1.2.2.2 + (1 : Int)))))), x2))
      else none
     else Option.bind (wW x3.2.2.2.1 x3.2.2.2.2.1 x3.2.2.2.2.2) fun x5 =>
       bif decide (0 ≤ x1.2.2.2) then
        bif decide (x1.2.2.2.toNat < x2.length ∧ x2.length = x2.length) then
         bif decide (x2.length = x2.length) then
          Option.bind (x2[x1.2.2.2.toNat]?) fun x6 =>
           bif decide (x2.length = (x2.set x1.2.2.2.toNat (x5.1, (x5.2.1, x5.2.2.1), x5.2.2.2.1, x5.2.2.2.2.1, x5.2.2.2.2.2.1, x5.2.2.2.2.2.2)).length) then
            some (Sum.inl ((x1.1, (x1.2.1, (x1.2.2.1, (IntKind.i64.wrap (x1.2.2.2 + (1 : Int)))))), (x2.set x1.2.2.2.toNat (x5.1, (x5.2.1, x5.2.2.1), x5.2.2.2.1, x5.2.2.2.2.1, x5.2.2.2.2.2.1, x5.2.2.2.2.2.2))))
           else none
         else none
        else none
       else none
  else none
 else bif decide (x2.length = x2.length) then
   some (Sum.inr x2)
  else none
noncomputable def Wk : ((Y0_ × VX) × Y0_) → Option Y0_ := qT fun s => zi s.1 s.2
noncomputable def kw (x0 : Y0_) : Option Y0_ :=
 bif decide (0 ≤ (↑x0.length : Int) ∧ (↑x0.length : Int) = (↑x0.length : Int) ∧ (↑x0.length : Int).toNat ≤ (8796093022208 : Nat)) then
  bif decide ((List.replicate (↑x0.length : Int).toNat ((0 : Int), ((0 : Int), (0 : Int)), (0 : Int), (0 : Int), (0 : Int), (0 : Int))).length = (↑x0.length : Int).toNat ∧ x0.length ≤ (↑x0.length : Int).toNat) then
   bif decide ((↑x0.length : Int).toNat = (x0 ++ List.drop x0.length (List.replicate (↑x0.length : Int).toNat ((0 : Int), ((0 : Int), (0 : Int)), (0 : Int), (0 : Int), (0 : Int), (0 : Int)))).length) then
    Option.bind (Wk ((x0, (x0, (((↑x0.length : Int)), ((0 : Int))))), (x0 ++ List.drop x0.length (List.replicate (↑x0.length : Int).toNat ((0 : Int), ((0 : Int), (0 : Int)), (0 : Int), (0 : Int), (0 : Int), (0 : Int)))))) fun x1 =>
     some x1
   else none
  else none
 else none
noncomputable def W2 : TEnt := ⟨183, .sl Y1_, [], [(.sl Y1_, [])], fun s => kw s⟩
theorem We : qu Tryz.prog W2 := qh (tab := [J3, J0]) (loops := [(2429514, [0, 3, 12, 13, 14], (.cons (.sl Y1_) (.cons (.own 0) (.cons (.sl Y1_) Y7_))), [.li Y1_ 37 true])]) (joins := []) (un := []) _ (by
  intro e he
  simp only [List.mem_cons, List.not_mem_nil, or_false] at he
  rcases he with rfl | rfl
  ·exact JB
  ·exact Jy) (fun s => by kernel_rfl) (by kernel_rfl)
noncomputable def kh (x1 : (Y0_ × Int)) (x2 : Y0_) : Option (((Y0_ × Int) × Y0_) ⊕ Y0_) :=
 bif decide (x1.2 < (↑x1.1.length : Int)) then
  bif decide (0 ≤ x1.2) then
   Option.bind (x1.1[x1.2.toNat]?) fun x3 =>
    Option.bind (yW x1.1 x1.2) fun x4 =>
     bif x4 then
      Option.bind (zQ x3.2.2.2.1 x3.2.2.2.2.1 x3.2.2.2.2.2) fun x5 =>
       bif decide ((1 : Nat) = (1 : Nat)) then
        bif decide (x2.length = x2.length ∧ x2.length + (1 : Nat) ≤ (4398046511104 : Nat)) then
         bif decide (x2.length + (1 : Nat) = (x2 ++ [(x5.1, (x5.2.1, x5.2.2.1), x5.2.2.2.1, x5.2.2.2.2.1, x5.2.2.2.2.2.1, x5.2.2.2.2.2.2)]).length) then
          some (Sum.inl ((x1.1, (IntKind.i64.wrap (x1.2 + (1 : Int)))), (x2 ++ [(x5.1, (x5.2.1, x5.2.2.1), x5.2.2.2.1, x5.2.2.2.2.1, x5.2.2.2.2.2.1, x5.2.2.2.2.2.2)])))
         else none
        else none
       else none
     else bif decide ((1 : Nat) = (1 : Nat)) then
       bif decide (x2.length = x2.length ∧ x2.length + (1 : Nat) ≤ (4398046511104 : Nat)) then
        bif decide (x2.length + (1 : Nat) = (x2 ++ [(x3.1, (x3.2.1.1, x3.2.1.2), x3.2.2.1, x3.2.2.2.1, x3.2.2.2.2.1, x3.2.2.2.2.2)]).length) then
         some (Sum.inl ((x1.1, (IntKind.i64.wrap (x1.2 + (1 : Int)))), (x2 ++ [(x3.1, (x3.2.1.1, x3.2.1.2), x3.2.2.1, x3.2.2.2.1, x3.2.2.2.2.1, x3.2.2.2.2.2)])))
        else none
       else none
      else none
  else none
 else bif decide (x2.length = x2.length) then
   some (Sum.inr x2)
  else none
noncomputable def Ys : ((Y0_ × Int) × Y0_) → Option Y0_ := qT fun s => kh s.1 s.2
noncomputable def yn (x0 : Y0_) : Option Y0_ :=
 Option.bind (Ys ((x0, ((0 : Int))), [])) fun x1 =>
  some x1
noncomputable def Jl : TEnt := ⟨166, .sl Y2_, [], [(.sl Y2_, [])], fun s => yn s⟩
theorem ZO : qu Tryz.prog Jl := qh (tab := [yZ, WD]) (loops := [(4682, [0, 3, 4], (.cons (.sl Y2_) (.cons (.own 0) (.int .i64))), [.li Y2_ 47 false])]) (joins := []) (un := []) _ (by
  intro e he
  simp only [List.mem_cons, List.not_mem_nil, or_false] at he
  rcases he with rfl | rfl
  ·exact wZ
  ·exact Wa) (fun s => by kernel_rfl) (by kernel_rfl)
noncomputable def kY (x0 : Y0_) (x1 : Int) (x2 : Y0_) : Option Y0_ :=
 bif decide ((0 : Int) ≤ 0 ∧ 0 ≤ x1 ∧ x1 = x1 ∧ Int.toNat x1 ≤ List.length x0) then
  bif decide ((0 : Int) = x1) then
   bif decide ((0 : Nat) = (0 : Nat) ∧ (0 : Nat) + x2.length ≤ (8796093022208 : Nat)) then
    bif decide ((0 : Int) ≤ IntKind.i64.wrap (x1 + (↑x2.length : Int)) ∧ (IntKind.i64.wrap (x1 + (↑x2.length : Int))).toNat ≤ List.length x0) then
     bif decide (([] ++ x2).length = (0 : Nat) + x2.length ∧ (0 : Nat) + x2.length + (List.drop (IntKind.i64.wrap (x1 + (↑x2.length : Int))).toNat x0).length ≤ (8796093022208 : Nat)) then
      bif decide (([] ++ x2 ++ List.drop (IntKind.i64.wrap (x1 + (↑x2.length : Int))).toNat x0).length = (0 : Nat) + x2.length + (List.drop (IntKind.i64.wrap (x1 + (↑x2.length : Int))).toNat x0).length) then
       Option.bind (kw ([] ++ x2 ++ List.drop (IntKind.i64.wrap (x1 + (↑x2.length : Int))).toNat x0)) fun x3 =>
        some x3
      else none
     else none
    else none
   else none
  else bif decide ((List.take (Int.toNat x1 - (0 : Nat)) (List.drop (0 : Nat) x0)).length + x2.length ≤ (8796093022208 : Nat)) then
    bif decide (x2.length = (0 : Nat)) then
     bif decide ((0 : Int) ≤ IntKind.i64.wrap (x1 + (↑x2.length : Int)) ∧ (IntKind.i64.wrap (x1 + (↑x2.length : Int))).toNat ≤ List.length x0) then
      bif decide ((List.take (Int.toNat x1 - (0 : Nat)) (List.drop (0 : Nat) x0)).length + (List.drop (IntKind.i64.wrap (x1 + (↑x2.length : Int))).toNat x0).length ≤ (8796093022208 : Nat)) then
       bif decide ((List.drop (IntKind.i64.wrap (x1 + (↑x2.length : Int))).toNat x0).length = (0 : Nat)) then
        Option.bind (kw (List.take (Int.toNat x1 - (0 : Nat)) (List.drop (0 : Nat) x0))) fun x3 =>
         some x3
       else bif decide ((List.take (Int.toNat x1 - (0 : Nat)) (List.drop (0 : Nat) x0) ++ List.drop (IntKind.i64.wrap (x1 + (↑x2.length : Int))).toNat x0).length = (List.take (Int.toNat x1 - (0 : Nat)) (List.drop (0 : Nat) x0)).length + (List.drop (IntKind.i64.wrap (x1 + (↑x2.length : Int))).toNat x0).length) then
         Option.bind (kw (List.take (Int.toNat x1 - (0 : Nat)) (List.drop (0 : Nat) x0) ++ List.drop (IntKind.i64.wrap (x1 + (↑x2.length : Int))).toNat x0)) fun x3 =>
          some x3
        else none
      else none
     else none
    else bif decide ((0 : Int) ≤ IntKind.i64.wrap (x1 + (↑x2.length : Int)) ∧ (IntKind.i64.wrap (x1 + (↑x2.length : Int))).toNat ≤ List.length x0) then
      bif decide ((List.take (Int.toNat x1 - (0 : Nat)) (List.drop (0 : Nat) x0) ++ x2).length = (List.take (Int.toNat x1 - (0 : Nat)) (List.drop (0 : Nat) x0)).length + x2.length ∧ (List.take (Int.toNat x1 - (0 : Nat)) (List.drop (0 : Nat) x0)).length + x2.length + (List.drop (IntKind.i64.wrap (x1 + (↑x2.length : Int))).toNat x0).length ≤ (8796093022208 : Nat)) then
       bif decide ((List.take (Int.toNat x1 - (0 : Nat)) (List.drop (0 : Nat) x0) ++ x2 ++ List.drop (IntKind.i64.wrap (x1 + (↑x2.length : Int))).toNat x0).length = (List.take (Int.toNat x1 - (0 : Nat)) (List.drop (0 : Nat) x0)).length + x2.length + (List.drop (IntKind.i64.wrap (x1 + (↑x2.length : Int))).toNat x0).length) then
        Option.bind (kw (List.take (Int.toNat x1 - (0 : Nat)) (List.drop (0 : Nat) x0) ++ x2 ++ List.drop (IntKind.i64.wrap (x1 + (↑x2.length : Int))).toNat x0)) fun x3 =>
         some x3
       else none
      else none
     else none
   else none
 else none
noncomputable def W4 : TEnt := ⟨160, .cons (.sl Y1_) (.cons (.int .i64) (.sl Y1_)), [], [(.sl Y1_, [])], fun s => kY s.1 s.2.1 s.2.2⟩
theorem Wz : qu Tryz.prog W4 := qh (tab := [W2]) (loops := []) (joins := []) (un := []) _ (by
  intro e he
  simp only [List.mem_cons, List.not_mem_nil, or_false] at he
  rcases he with rfl
  ·exact We) (fun s => by kernel_rfl) (by kernel_rfl)
noncomputable def Ky (x0 : Y0_) (x1 : Int) (x2 : Int) (x3 : Int) (x4 : Int) (x5 : Int) (x6 : Int) (x7 : Int) (x8 : Int) : Option (Y0_ × Bool) :=
 bif x5 == 0 then
  Option.bind (qN x0) fun x9 =>
   bif decide (List.length x9 = List.length x9) then
    some (x9, false)
   else none
 else Option.bind (y4 x2 x3 x4 x5 x6 x7 x8) fun x9 =>
   bif !x9 then
    Option.bind (qN x0) fun x10 =>
     bif decide (List.length x10 = List.length x10) then
      some (x10, false)
     else none
   else bif decide (x1 < 0) then
     Option.bind (qN x0) fun x10 =>
      bif decide (List.length x10 = List.length x10) then
       some (x10, false)
      else none
    else bif decide ((↑(List.length x0) : Int) ≤ x1) then
      Option.bind (qN x0) fun x10 =>
       bif decide (List.length x10 = List.length x10) then
        some (x10, false)
       else none
     else bif decide (IntKind.i64.wrap ((↑(List.length x0) : Int) - x1) < IntKind.i64.wrap x5) then
       Option.bind (qN x0) fun x10 =>
        bif decide (List.length x10 = List.length x10) then
         some (x10, false)
        else none
      else bif x5 == 2 then
        Option.bind (yM x2 x3 x4 x5 x6 x7 x8) fun x10 =>
         bif decide ((2 : Nat) = (2 : Nat)) then
          Option.bind (kY x0 x1 [(x2, (x3, x4), x5, x6, x7, x8), (x10.1, (x10.2.1, x10.2.2.1), x10.2.2.2.1, x10.2.2.2.2.1, x10.2.2.2.2.2.1, x10.2.2.2.2.2.2)]) fun x11 =>
           some (x11, true)
         else none
       else bif decide ((1 : Nat) = (1 : Nat)) then
         Option.bind (kY x0 x1 [(x2, (x3, x4), x5, x6, x7, x8)]) fun x10 =>
          some (x10, true)
        else none
noncomputable def US : TEnt := ⟨106, .cons (.sl Y1_) (.cons (.int .i64) (.agg XC)), [], [(.tup (.cons (.sl Y1_) .bool), [])], fun s => Ky s.1 s.2.1 s.2.2.1 s.2.2.2.1 s.2.2.2.2.1 s.2.2.2.2.2.1 s.2.2.2.2.2.2.1 s.2.2.2.2.2.2.2.1 s.2.2.2.2.2.2.2.2⟩
theorem a0T : qu Tryz.prog US := qh (tab := [Wd, KH, kG, W4]) (loops := []) (joins := []) (un := []) _ (by
  intro e he
  simp only [List.mem_cons, List.not_mem_nil, or_false] at he
  rcases he with rfl | rfl | rfl | rfl
  ·exact Wy
  ·exact Jx
  ·exact zT
  ·exact Wz) (fun s => by kernel_rfl) (by kernel_rfl)
noncomputable def ky (x10 : VX) (x11 : Jd) (x12 : Y0_) : Option ((VX × (Jd × Y0_)) ⊕ (Y0_ × Bool)) :=
 bif decide (x10.2.2 < (↑x10.1.length : Int)) then
  bif x10.2.2 == x10.2.1 then
   bif decide ((1 : Nat) = (1 : Nat)) then
    bif decide (x12.length = x12.length ∧ x12.length + (1 : Nat) ≤ (4398046511104 : Nat)) then
     bif decide (x12.length + (1 : Nat) = (x12 ++ [(x11.1, (x11.2.1, x11.2.2.1), x11.2.2.2.1, x11.2.2.2.2.1, x11.2.2.2.2.2.1, x11.2.2.2.2.2.2)]).length) then
      some (Sum.inl ((x10.1, (x10.2.1, (IntKind.i64.wrap (x10.2.2 + (1 : Int))))), ((x11.1, (x11.2.1, (x11.2.2.1, (x11.2.2.2.1, (x11.2.2.2.2.1, (x11.2.2.2.2.2.1, x11.2.2.2.2.2.2)))))), (x12 ++ [(x11.1, (x11.2.1, x11.2.2.1), x11.2.2.2.1, x11.2.2.2.2.1, x11.2.2.2.2.2.1, x11.2.2.2.2.2.2)]))))
     else none
    else none
   else none
  else bif x10.2.2 == IntKind.i64.wrap (x10.2.1 + (1 : Int)) then
    bif x11.2.2.2.1 == 2 then
     Option.bind (YP x11.1 x11.2.1 x11.2.2.1 x11.2.2.2.1 x11.2.2.2.2.1 x11.2.2.2.2.2.1 x11.2.2.2.2.2.2) fun x13 =>
      bif decide ((1 : Nat) = (1 : Nat)) then
       bif decide (x12.length = x12.length ∧ x12.length + (1 : Nat) ≤ (4398046511104 : Nat)) then
        bif decide (x12.length + (1 : Nat) = (x12 ++ [(x13.1, (x13.2.1, x13.2.2.1), x13.2.2.2.1, x13.2.2.2.2.1, x13.2.2.2.2.2.1, x13.2.2.2.2.2.2)]).length) then
         some (Sum.inl ((x10.1, (x10.2.1, (IntKind.i64.wrap (x10.2.2 + (1 : Int))))), ((x11.1, (x11.2.1, (x11.2.2.1, (x11.2.2.2.1, (x11.2.2.2.2.1, (x11.2.2.2.2.2.1, x11.2.2.2.2.2.2)))))), (x12 ++ [(x13.1, (x13.2.1, x13.2.2.1), x13.2.2.2.1, x13.2.2.2.2.1, x13.2.2.2.2.2.1, x13.2.2.2.2.2.2)]))))
        else none
       else none
      else none
    else bif decide (0 ≤ x10.2.2) then
      Option.bind (x10.1[x10.2.2.toNat]?) fun x13 =>
       bif decide ((1 : Nat) = (1 : Nat)) then
        bif decide (x12.length = x12.length ∧ x12.length + (1 : Nat) ≤ (4398046511104 : Nat)) then
         bif decide (x12.length + (1 : Nat) = (x12 ++ [(x13.1, (x13.2.1.1, x13.2.1.2), x13.2.2.1, x13.2.2.2.1, x13.2.2.2.2.1, x13.2.2.2.2.2)]).length) then
          some (Sum.inl ((x10.1, (x10.2.1, (IntKind.i64.wrap (x10.2.2 + (1 : Int))))), ((x11.1, (x11.2.1, (x11.2.2.1, (x11.2.2.2.1, (x11.2.2.2.2.1, (x11.2.2.2.2.2.1, x11.2.2.2.2.2.2)))))), (x12 ++ [(x13.1, (x13.2.1.1, x13.2.1.2), x13.2.2.1, x13.2.2.2.1, x13.2.2.2.2.1, x13.2.2.2.2.2)]))))
         else none
        else none
       else none
     else none
   else bif decide (0 ≤ x10.2.2) then
     Option.bind (x10.1[x10.2.2.toNat]?) fun x13 =>
      bif decide ((1 : Nat) = (1 : Nat)) then
       bif decide (x12.length = x12.length ∧ x12.length + (1 : Nat) ≤ (4398046511104 : Nat)) then
        bif decide (x12.length + (1 : Nat) = (x12 ++ [(x13.1, (x13.2.1.1, x13.2.1.2), x13.2.2.1, x13.2.2.2.1, x13.2.2.2.2.1, x13.2.2.2.2.2)]).length) then
         some (Sum.inl ((x10.1, (x10.2.1, (IntKind.i64.wrap (x10.2.2 + (1 : Int))))), ((x11.1, (x11.2.1, (x11.2.2.1, (x11.2.2.2.1, (x11.2.2.2.2.1, (x11.2.2.2.2.2.1, x11.2.2.2.2.2.2)))))), (x12 ++ [(x13.1, (x13.2.1.1, x13.2.1.2), x13.2.2.1, x13.2.2.2.1, x13.2.2.2.2.1, x13.2.2.2.2.2)]))))
        else none
       else none
      else none
    else none
 else bif decide (x12.length = x12.length) then
   Option.bind (yn x12) fun x13 =>
    some (Sum.inr (x13, true))
  else none
noncomputable def Ql : (VX × (Jd × Y0_)) → Option (Y0_ × Bool) := qT fun s => ky s.1 s.2.1 s.2.2
noncomputable def WP (x0 : Y0_) (x1 : Int) (x2 : Int) (x3 : Int) (x4 : Int) (x5 : Int) (x6 : Int) (x7 : Int) (x8 : Int) : Option (Y0_ × Bool) :=
 Option.bind (yS x2 x3 x4 x5 x6 x7 x8) fun x9 =>
  bif !x9 then
   some (x0, false)
  else bif x5 == 0 then
    some (x0, false)
   else bif decide (x1 < 0) then
     some (x0, false)
    else bif decide ((↑(List.length x0) : Int) ≤ x1) then
      some (x0, false)
     else bif x5 == 2 then
       bif x1 == IntKind.i64.wrap ((↑(List.length x0) : Int) - (1 : Int)) then
        some (x0, false)
       else Option.bind (Ql ((x0, (x1, ((0 : Int)))), ((x2, (x3, (x4, (x5, (x6, (x7, x8)))))), []))) fun x10 =>
         some x10
      else Option.bind (Ql ((x0, (x1, ((0 : Int)))), ((x2, (x3, (x4, (x5, (x6, (x7, x8)))))), []))) fun x10 =>
        some x10
noncomputable def a1M : TEnt := ⟨111, .cons (.sl Y2_) (.cons (.int .i64) (.agg xA)), [], [(.tup (.cons (.sl Y2_) .bool), [])], fun s => WP s.1 s.2.1 s.2.2.1 s.2.2.2.1 s.2.2.2.2.1 s.2.2.2.2.2.1 s.2.2.2.2.2.2.1 s.2.2.2.2.2.2.2.1 s.2.2.2.2.2.2.2.2⟩
theorem a47 : qu Tryz.prog a1M := qh (tab := [UF, Wh, Jl]) (loops := [(299594, [0, 1, 5, 8, 9], (.cons (.sl Y2_) (.cons (.int .i64) (.cons (.ptr 0 0) (.cons (.own 1) (.int .i64))))), [.st xA, .li Y2_ 47 false])]) (joins := []) (un := []) _ (by
  intro e he
  simp only [List.mem_cons, List.not_mem_nil, or_false] at he
  rcases he with rfl | rfl | rfl
  ·exact a12
  ·exact JK
  ·exact ZO) (fun s => by kernel_rfl) (by kernel_rfl)
noncomputable def wX (x0 : Y0_) (x1 : Int) (x2 : Int) (x3 : Int) (x4 : Int) (x5 : Int) : Option Y0_ :=
 Option.bind (ji (if IntKind.i64.wrap ((if (↑(List.length x0) : Int) < if (0 : Int) > x2 then (0 : Int) else x2 then (↑(List.length x0) : Int) else if (0 : Int) > x2 then (0 : Int) else x2) - if (↑(List.length x0) : Int) < if (0 : Int) > x1 then (0 : Int) else x1 then (↑(List.length x0) : Int) else if (0 : Int) > x1 then (0 : Int) else x1) > 0 then IntKind.i64.wrap ((if (↑(List.length x0) : Int) < if (0 : Int) > x2 then (0 : Int) else x2 then (↑(List.length x0) : Int) else if (0 : Int) > x2 then (0 : Int) else x2) - if (↑(List.length x0) : Int) < if (0 : Int) > x1 then (0 : Int) else x1 then (↑(List.length x0) : Int) else if (0 : Int) > x1 then (0 : Int) else x1) else (0 : Int)) x3 x4 x5) fun x6 =>
  Option.bind (kY x0 (if (↑(List.length x0) : Int) < if (0 : Int) > x1 then (0 : Int) else x1 then (↑(List.length x0) : Int) else if (0 : Int) > x1 then (0 : Int) else x1) x6) fun x7 =>
   some x7
noncomputable def KJ : TEnt := ⟨153, .cons (.sl Y1_) agl, [], [(.sl Y1_, [])], fun s => wX s.1 s.2.1 s.2.2.1 s.2.2.2.1 s.2.2.2.2.1 s.2.2.2.2.2⟩
theorem Jz : qu Tryz.prog KJ := qh (tab := [yF, W4]) (loops := []) (joins := []) (un := []) _ (by
  intro e he
  simp only [List.mem_cons, List.not_mem_nil, or_false] at he
  rcases he with rfl | rfl
  ·exact ym
  ·exact Wz) (fun s => by kernel_rfl) (by kernel_rfl)
noncomputable def zL (x6 : (Y0_ × Y3_)) (x7 : Y3_) (x8 : Y0_) : Option (((Y0_ × Y3_) × (Y3_ × Y0_)) ⊕ Y0_) :=
 bif decide (x6.2.2.2 < (↑x6.1.length : Int)) then
  bif decide (0 ≤ x6.2.2.2) then
   Option.bind (x6.1[x6.2.2.2.toNat]?) fun x9 =>
    bif decide (x6.2.1 ≤ x6.2.2.2) then
     bif decide (x6.2.2.2 < x6.2.2.1) then
      Option.bind (zQ x7.1 x7.2.1 x7.2.2) fun x10 =>
       bif decide ((1 : Nat) = (1 : Nat)) then
        bif decide (x8.length = x8.length ∧ x8.length + (1 : Nat) ≤ (4398046511104 : Nat)) then
         bif decide (x8.length + (1 : Nat) = (x8 ++ [(x10.1, (x10.2.1, x10.2.2.1), x10.2.2.2.1, x10.2.2.2.2.1, x10.2.2.2.2.2.1, x10.2.2.2.2.2.2)]).length) then
          some (Sum.inl ((x6.1, (x6.2.1, (x6.2.2.1, (IntKind.i64.wrap (x6.2.2.2 + (1 : Int)))))), ((x7.1, (x7.2.1, x7.2.2)), (x8 ++ [(x10.1, (x10.2.1, x10.2.2.1), x10.2.2.2.1, x10.2.2.2.2.1, x10.2.2.2.2.2.1, x10.2.2.2.2.2.2)]))))
         else none
        else none
       else none
     else bif decide ((1 : Nat) = (1 : Nat)) then
       bif decide (x8.length = x8.length ∧ x8.length + (1 : Nat) ≤ (4398046511104 : Nat)) then
        bif decide (x8.length + (1 : Nat) = (x8 ++ [(x9.1, (x9.2.1.1, x9.2.1.2), x9.2.2.1, x9.2.2.2.1, x9.2.2.2.2.1, x9.2.2.2.2.2)]).length) then
         some (Sum.inl ((x6.1, (x6.2.1, (x6.2.2.1, (IntKind.i64.wrap (x6.2.2.2 + (1 : Int)))))), ((x7.1, (x7.2.1, x7.2.2)), (x8 ++ [(x9.1, (x9.2.1.1, x9.2.1.2), x9.2.2.1, x9.2.2.2.1, x9.2.2.2.2.1, x9.2.2.2.2.2)]))))
        else none
       else none
      else none
    else bif decide ((1 : Nat) = (1 : Nat)) then
      bif decide (x8.length = x8.length ∧ x8.length + (1 : Nat) ≤ (4398046511104 : Nat)) then
       bif decide (x8.length + (1 : Nat) = (x8 ++ [(x9.1, (x9.2.1.1, x9.2.1.2), x9.2.2.1, x9.2.2.2.1, x9.2.2.2.2.1, x9.2.2.2.2.2)]).length) then
        some (Sum.inl ((x6.1, (x6.2.1, (x6.2.2.1, (IntKind.i64.wrap (x6.2.2.2 + (1 : Int)))))), ((x7.1, (x7.2.1, x7.2.2)), (x8 ++ [(x9.1, (x9.2.1.1, x9.2.1.2), x9.2.2.1, x9.2.2.2.1, x9.2.2.2.2.1, x9.2.2.2.2.2)]))))
       else none
      else none
     else none
  else none
 else bif decide (x8.length = x8.length) then
   Option.bind (yn x8) fun x9 =>
    some (Sum.inr x9)
  else none
noncomputable def JF : ((Y0_ × Y3_) × (Y3_ × Y0_)) → Option Y0_ := qT fun s => zL s.1 s.2.1 s.2.2
noncomputable def wA (x0 : Y0_) (x1 : Int) (x2 : Int) (x3 : Int) (x4 : Int) (x5 : Int) : Option Y0_ :=
 Option.bind (JF ((x0, (x1, (x2, ((0 : Int))))), ((x3, (x4, x5)), []))) fun x6 =>
  some x6
noncomputable def Wq : TEnt := ⟨156, .cons (.sl Y2_) agl, [], [(.sl Y2_, [])], fun s => wA s.1 s.2.1 s.2.2.1 s.2.2.2.1 s.2.2.2.2.1 s.2.2.2.2.2⟩
theorem Ws : qu Tryz.prog Wq := qh (tab := [yZ, Jl]) (loops := [(4682, [0, 1, 2, 7, 9, 10], (.cons (.sl Y2_) (.cons (.int .i64) (.cons (.int .i64) (.cons (.ptr 0 0) (.cons (.own 1) (.int .i64)))))), [.st Y8_, .li Y2_ 47 false])]) (joins := []) (un := []) _ (by
  intro e he
  simp only [List.mem_cons, List.not_mem_nil, or_false] at he
  rcases he with rfl | rfl
  ·exact wZ
  ·exact ZO) (fun s => by kernel_rfl) (by kernel_rfl)
noncomputable def KS (x0 : Y0_) (x1 : Int) : Option Y0_ :=
 Option.bind (w7 x1) fun x2 =>
  bif decide (x2 ≤ (↑(List.length x0) : Int)) then
   bif decide (0 ≤ x2 ∧ Int.toNat x2 ≤ List.length x0) then
    Option.bind (kw (List.take (Int.toNat x2) x0)) fun x3 =>
     some x3
   else none
  else Option.bind (qN x0) fun x3 =>
    Option.bind (ji (IntKind.i64.wrap (x2 - (↑(List.length x0) : Int))) (0 : Int) (0 : Int) (0 : Int)) fun x4 =>
     bif decide (List.length x3 = List.length x3 ∧ List.length x3 + List.length x4 ≤ (8796093022208 : Nat)) then
      bif decide ((x3 ++ x4).length = List.length x3 + List.length x4) then
       Option.bind (kw (x3 ++ x4)) fun x5 =>
        some x5
      else none
     else none
noncomputable def U2 : TEnt := ⟨142, .cons (.sl Y1_) (.int .i64), [], [(.sl Y1_, [])], fun s => KS s.1 s.2⟩
theorem a0F : qu Tryz.prog U2 := qh (tab := [kG, ZJ, yF, W2]) (loops := []) (joins := []) (un := []) _ (by
  intro e he
  simp only [List.mem_cons, List.not_mem_nil, or_false] at he
  rcases he with rfl | rfl | rfl | rfl
  ·exact zT
  ·exact K4
  ·exact ym
  ·exact We) (fun s => by kernel_rfl) (by kernel_rfl)
noncomputable def kx (x2 : VX) (x3 : Y0_) : Option ((VX × Y0_) ⊕ Y0_) :=
 Option.bind (wT x2.2.1) fun x4 =>
  bif decide (x2.2.2 < x4) then
   Option.bind (zQ (0 : Int) (0 : Int) (0 : Int)) fun x5 =>
    bif decide (x2.2.2 < (↑x2.1.length : Int)) then
     bif decide (0 ≤ x2.2.2) then
      Option.bind (x2.1[x2.2.2.toNat]?) fun x6 =>
       bif decide ((1 : Nat) = (1 : Nat)) then
        bif decide (x3.length = x3.length ∧ x3.length + (1 : Nat) ≤ (4398046511104 : Nat)) then
         bif decide (x3.length + (1 : Nat) = (x3 ++ [(x6.1, (x6.2.1.1, x6.2.1.2), x6.2.2.1, x6.2.2.2.1, x6.2.2.2.2.1, x6.2.2.2.2.2)]).length) then
          some (Sum.inl ((x2.1, (x2.2.1, (IntKind.i64.wrap (x2.2.2 + (1 : Int))))), (x3 ++ [(x6.1, (x6.2.1.1, x6.2.1.2), x6.2.2.1, x6.2.2.2.1, x6.2.2.2.2.1, x6.2.2.2.2.2)])))
         else none
        else none
       else none
     else none
    else bif decide ((1 : Nat) = (1 : Nat)) then
      bif decide (x3.length = x3.length ∧ x3.length + (1 : Nat) ≤ (4398046511104 : Nat)) then
       bif decide (x3.length + (1 : Nat) = (x3 ++ [(x5.1, (x5.2.1, x5.2.2.1), x5.2.2.2.1, x5.2.2.2.2.1, x5.2.2.2.2.2.1, x5.2.2.2.2.2.2)]).length) then
        some (Sum.inl ((x2.1, (x2.2.1, (IntKind.i64.wrap (x2.2.2 + (1 : Int))))), (x3 ++ [(x5.1, (x5.2.1, x5.2.2.1), x5.2.2.2.1, x5.2.2.2.2.1, x5.2.2.2.2.2.1, x5.2.2.2.2.2.2)])))
       else none
      else none
     else none
  else bif decide (x3.length = x3.length) then
    Option.bind (yn x3) fun x5 =>
     some (Sum.inr x5)
   else none
noncomputable def Vq : (VX × Y0_) → Option Y0_ := qT fun s => kx s.1 s.2
noncomputable def Yf (x0 : Y0_) (x1 : Int) : Option Y0_ :=
 Option.bind (Vq ((x0, (x1, ((0 : Int)))), [])) fun x2 =>
  some x2
noncomputable def a1Q : TEnt := ⟨143, .cons (.sl Y2_) (.int .i64), [], [(.sl Y2_, [])], fun s => Yf s.1 s.2⟩
theorem a3X : qu Tryz.prog a1Q := qh (tab := [yZ, KO, Jl]) (loops := [(4682, [0, 1, 5, 6], (.cons (.sl Y2_) (.cons (.int .i64) (.cons (.own 0) (.int .i64)))), [.li Y2_ 47 false])]) (joins := []) (un := []) _ (by
  intro e he
  simp only [List.mem_cons, List.not_mem_nil, or_false] at he
  rcases he with rfl | rfl | rfl
  ·exact wZ
  ·exact Jt
  ·exact ZO) (fun s => by kernel_rfl) (by kernel_rfl)
noncomputable def ZE (x0 : Y0_) (x1 : Int) (x2 : Int) : Option (Y0_ × Bool) :=
 Option.bind (qN x0) fun x3 =>
  bif decide (x1 < 0) then
   bif decide (List.length x3 = List.length x3) then
    some (x3, false)
   else none
  else bif decide ((↑(List.length x0) : Int) ≤ x1) then
    bif decide (List.length x3 = List.length x3) then
     some (x3, false)
    else none
   else bif decide (0 ≤ x1) then
     Option.bind (x0[Int.toNat x1]?) fun x4 =>
      bif x4.2.2.1 == 0 then
       bif decide (0 < x1) then
        bif decide ((0 : Int) ≤ IntKind.i64.wrap (x1 - (1 : Int))) then
         Option.bind (x0[(IntKind.i64.wrap (x1 - (1 : Int))).toNat]?) fun x5 =>
          bif x5.2.2.1 == 2 then
           bif decide ((0 : Int) ≤ IntKind.i64.wrap (x1 - (1 : Int))) then
            Option.bind (x0[(IntKind.i64.wrap (x1 - (1 : Int))).toNat]?) fun x6 =>
             Option.bind (kA (x6.1, x6.2.1.1, x6.2.1.2, x6.2.2.1, x6.2.2.2.1, x6.2.2.2.2.1, x6.2.2.2.2.2) x2) fun x7 =>
              bif decide ((0 : Int) ≤ IntKind.i64.wrap (x1 - (1 : Int))) then
               bif decide ((IntKind.i64.wrap (x1 - (1 : Int))).toNat < List.length x3 ∧ List.length x3 = List.length x3) then
                bif decide (List.length x3 = List.length x3) then
                 Option.bind (x3[(IntKind.i64.wrap (x1 - (1 : Int))).toNat]?) fun x8 =>
                  bif decide ((List.set x3 (IntKind.i64.wrap (x1 - (1 : Int))).toNat (x7.1.1, (x7.1.2.1, x7.1.2.2.1), x7.1.2.2.2.1, x7.1.2.2.2.2.1, x7.1.2.2.2.2.2.1, x7.1.2.2.2.2.2.2)).length = List.length x3) then
                   some ((List.set x3 (IntKind.i64.wrap (x1 - (1 : Int))).toNat (x7.1.1, (x7.1.2.1, x7.1.2.2.1), x7.1.2.2.2.1, x7.1.2.2.2.2.1, x7.1.2.2.2.2.2.1, x7.1.2.2.2.2.2.2)), x7.2)
                  else none
                else none
               else none
              else none
           else none
          else bif decide (0 ≤ x1) then
            Option.bind (x0[Int.toNat x1]?) fun x6 =>
             Option.bind (kA (x6.1, x6.2.1.1, x6.2.1.2, x6.2.2.1, x6.2.2.2.1, x6.2.2.2.2.1, x6.2.2.2.2.2) x2) fun x7 =>
              bif decide (0 ≤ x1) then
               bif decide (Int.toNat x1 < List.length x3 ∧ List.length x3 = List.length x3) then
                bif decide (List.length x3 = List.length x3) then
                 Option.bind (x3[Int.toNat x1]?) fun x8 =>
                  bif decide ((List.set x3 (Int.toNat x1) (x7.1.1, (x7.1.2.1, x7.1.2.2.1), x7.1.2.2.2.1, x7.1.2.2.2.2.1, x7.1.2.2.2.2.2.1, x7.1.2.2.2.2.2.2)).length = List.length x3) then
                   some ((List.set x3 (Int.toNat x1) (x7.1.1, (x7.1.2.1, x7.1.2.2.1), x7.1.2.2.2.1, x7.1.2.2.2.2.1, x7.1.2.2.2.2.2.1, x7.1.2.2.2.2.2.2)), x7.2)
                  else none
                else none
               else none
              else none
           else none
        else none
       else bif decide (0 ≤ x1) then
         Option.bind (x0[Int.toNat x1]?) fun x5 =>
          Option.bind (kA (x5.1, x5.2.1.1, x5.2.1.2, x5.2.2.1, x5.2.2.2.1, x5.2.2.2.2.1, x5.2.2.2.2.2) x2) fun x6 =>
           bif decide (0 ≤ x1) then
            bif decide (Int.toNat x1 < List.length x3 ∧ List.length x3 = List.length x3) then
             bif decide (List.length x3 = List.length x3) then
              Option.bind (x3[Int.toNat x1]?) fun x7 =>
               bif decide ((List.set x3 (Int.toNat x1) (x6.1.1, (x6.1.2.1, x6.1.2.2.1), x6.1.2.2.2.1, x6.1.2.2.2.2.1, x6.1.2.2.2.2.2.1, x6.1.2.2.2.2.2.2)).length = List.length x3) then
                some ((List.set x3 (Int.toNat x1) (x6.1.1, (x6.1.2.1, x6.1.2.2.1), x6.1.2.2.2.1, x6.1.2.2.2.2.1, x6.1.2.2.2.2.2.1, x6.1.2.2.2.2.2.2)), x6.2)
               else none
             else none
            else none
           else none
        else none
      else bif decide (0 ≤ x1) then
        Option.bind (x0[Int.toNat x1]?) fun x5 =>
         Option.bind (kA (x5.1, x5.2.1.1, x5.2.1.2, x5.2.2.1, x5.2.2.2.1, x5.2.2.2.2.1, x5.2.2.2.2.2) x2) fun x6 =>
          bif decide (0 ≤ x1) then
           bif decide (Int.toNat x1 < List.length x3 ∧ List.length x3 = List.length x3) then
            bif decide (List.length x3 = List.length x3) then
             Option.bind (x3[Int.toNat x1]?) fun x7 =>
              bif decide ((List.set x3 (Int.toNat x1) (x6.1.1, (x6.1.2.1, x6.1.2.2.1), x6.1.2.2.2.1, x6.1.2.2.2.2.1, x6.1.2.2.2.2.2.1, x6.1.2.2.2.2.2.2)).length = List.length x3) then
               some ((List.set x3 (Int.toNat x1) (x6.1.1, (x6.1.2.1, x6.1.2.2.1), x6.1.2.2.2.1, x6.1.2.2.2.2.1, x6.1.2.2.2.2.2.1, x6.1.2.2.2.2.2.2)), x6.2)
              else none
            else none
           else none
          else none
       else none
    else none
noncomputable def xM : TEnt := ⟨151, .cons (.sl Y1_) a7M, [], [(.tup (.cons (.sl Y1_) .bool), [])], fun s => ZE s.1 s.2.1 s.2.2⟩
theorem U9 : qu Tryz.prog xM := qh (tab := [Xd, kG]) (loops := []) (joins := []) (un := []) _ (by
  intro e he
  simp only [List.mem_cons, List.not_mem_nil, or_false] at he
  rcases he with rfl | rfl
  ·exact a09
  ·exact zT) (fun s => by kernel_rfl) (by kernel_rfl)
noncomputable def KA (x0 : Y0_) (x1 : Int) (x2 : Int) : Option (Y0_ × Bool) :=
 bif decide (x1 < 0) then
  some (x0, false)
 else bif decide ((↑(List.length x0) : Int) ≤ x1) then
   some (x0, false)
  else bif decide (0 ≤ x1) then
    Option.bind (x0[Int.toNat x1]?) fun x3 =>
     bif x3.2.2.1 == 0 then
      bif decide (0 < x1) then
       bif decide ((0 : Int) ≤ IntKind.i64.wrap (x1 - (1 : Int))) then
        Option.bind (x0[(IntKind.i64.wrap (x1 - (1 : Int))).toNat]?) fun x4 =>
         bif x4.2.2.1 == 2 then
          bif decide ((0 : Int) ≤ IntKind.i64.wrap (x1 - (1 : Int))) then
           Option.bind (x0[(IntKind.i64.wrap (x1 - (1 : Int))).toNat]?) fun x5 =>
            Option.bind (j9 (x5.1, x5.2.1.1, x5.2.1.2, x5.2.2.1, x5.2.2.2.1, x5.2.2.2.2.1, x5.2.2.2.2.2) x2) fun x6 =>
             bif decide ((0 : Nat) = (0 : Nat) ∧ (0 : Nat) + List.length x0 ≤ (4398046511104 : Nat)) then
              bif decide ((0 : Int) ≤ IntKind.i64.wrap (x1 - (1 : Int))) then
               bif decide ((IntKind.i64.wrap (x1 - (1 : Int))).toNat < (0 : Nat) + List.length x0 ∧ ([] ++ x0).length = (0 : Nat) + List.length x0) then
                bif decide (([] ++ x0).length = (0 : Nat) + List.length x0) then
                 Option.bind (([] ++ x0)[(IntKind.i64.wrap (x1 - (1 : Int))).toNat]?) fun x7 =>
                  bif decide ((([] ++ x0).set (IntKind.i64.wrap (x1 - (1 : Int))).toNat (x6.1.1, (x6.1.2.1, x6.1.2.2.1), x6.1.2.2.2.1, x6.1.2.2.2.2.1, x6.1.2.2.2.2.2.1, x6.1.2.2.2.2.2.2)).length = (0 : Nat) + List.length x0) then
                   some ((([] ++ x0).set (IntKind.i64.wrap (x1 - (1 : Int))).toNat (x6.1.1, (x6.1.2.1, x6.1.2.2.1), x6.1.2.2.2.1, x6.1.2.2.2.2.1, x6.1.2.2.2.2.2.1, x6.1.2.2.2.2.2.2)), x6.2)
                  else none
                else none
               else none
              else none
             else none
          else none
         else bif decide (0 ≤ x1) then
           Option.bind (x0[Int.toNat x1]?) fun x5 =>
            Option.bind (j9 (x5.1, x5.2.1.1, x5.2.1.2, x5.2.2.1, x5.2.2.2.1, x5.2.2.2.2.1, x5.2.2.2.2.2) x2) fun x6 =>
             bif decide ((0 : Nat) = (0 : Nat) ∧ (0 : Nat) + List.length x0 ≤ (4398046511104 : Nat)) then
              bif decide (0 ≤ x1) then
               bif decide (Int.toNat x1 < (0 : Nat) + List.length x0 ∧ ([] ++ x0).length = (0 : Nat) + List.length x0) then
                bif decide (([] ++ x0).length = (0 : Nat) + List.length x0) then
                 Option.bind (([] ++ x0)[Int.toNat x1]?) fun x7 =>
                  bif decide ((([] ++ x0).set (Int.toNat x1) (x6.1.1, (x6.1.2.1, x6.1.2.2.1), x6.1.2.2.2.1, x6.1.2.2.2.2.1, x6.1.2.2.2.2.2.1, x6.1.2.2.2.2.2.2)).length = (0 : Nat) + List.length x0) then
                   some ((([] ++ x0).set (Int.toNat x1) (x6.1.1, (x6.1.2.1, x6.1.2.2.1), x6.1.2.2.2.1, x6.1.2.2.2.2.1, x6.1.2.2.2.2.2.1, x6.1.2.2.2.2.2.2)), x6.2)
                  else none
                else none
               else none
              else none
             else none
          else none
       else none
      else bif decide (0 ≤ x1) then
        Option.bind (x0[Int.toNat x1]?) fun x4 =>
         Option.bind (j9 (x4.1, x4.2.1.1, x4.2.1.2, x4.2.2.1, x4.2.2.2.1, x4.2.2.2.2.1, x4.2.2.2.2.2) x2) fun x5 =>
          bif decide ((0 : Nat) = (0 : Nat) ∧ (0 : Nat) + List.length x0 ≤ (4398046511104 : Nat)) then
           bif decide (0 ≤ x1) then
            bif decide (Int.toNat x1 < (0 : Nat) + List.length x0 ∧ ([] ++ x0).length = (0 : Nat) + List.length x0) then
             bif decide (([] ++ x0).length = (0 : Nat) + List.length x0) then
              Option.bind (([] ++ x0)[Int.toNat x1]?) fun x6 =>
               bif decide ((([] ++ x0).set (Int.toNat x1) (x5.1.1, (x5.1.2.1, x5.1.2.2.1), x5.1.2.2.2.1, x5.1.2.2.2.2.1, x5.1.2.2.2.2.2.1, x5.1.2.2.2.2.2.2)).length = (0 : Nat) + List.length x0) then
                some ((([] ++ x0).set (Int.toNat x1) (x5.1.1, (x5.1.2.1, x5.1.2.2.1), x5.1.2.2.2.1, x5.1.2.2.2.2.1, x5.1.2.2.2.2.2.1, x5.1.2.2.2.2.2.2)), x5.2)
               else none
             else none
            else none
           else none
          else none
       else none
     else bif decide (0 ≤ x1) then
       Option.bind (x0[Int.toNat x1]?) fun x4 =>
        Option.bind (j9 (x4.1, x4.2.1.1, x4.2.1.2, x4.2.2.1, x4.2.2.2.1, x4.2.2.2.2.1, x4.2.2.2.2.2) x2) fun x5 =>
         bif decide ((0 : Nat) = (0 : Nat) ∧ (0 : Nat) + List.length x0 ≤ (4398046511104 : Nat)) then
          bif decide (0 ≤ x1) then
           bif decide (Int.toNat x1 < (0 : Nat) + List.length x0 ∧ ([] ++ x0).length = (0 : Nat) + List.length x0) then
            bif decide (([] ++ x0).length = (0 : Nat) + List.length x0) then
             Option.bind (([] ++ x0)[Int.toNat x1]?) fun x6 =>
              bif decide ((([] ++ x0).set (Int.toNat x1) (x5.1.1, (x5.1.2.1, x5.1.2.2.1), x5.1.2.2.2.1, x5.1.2.2.2.2.1, x5.1.2.2.2.2.2.1, x5.1.2.2.2.2.2.2)).length = (0 : Nat) + List.length x0) then
               some ((([] ++ x0).set (Int.toNat x1) (x5.1.1, (x5.1.2.1, x5.1.2.2.1), x5.1.2.2.2.1, x5.1.2.2.2.2.1, x5.1.2.2.2.2.2.1, x5.1.2.2.2.2.2.2)), x5.2)
              else none
            else none
           else none
          else none
         else none
      else none
   else none
noncomputable def uf : TEnt := ⟨149, .cons (.sl Y2_) Y7_, [], [(.tup (.cons (.sl Y2_) .bool), [])], fun s => KA s.1 s.2.1 s.2.2⟩
theorem a0L : qu Tryz.prog uf := qh (tab := [uK]) (loops := []) (joins := []) (un := []) _ (by
  intro e he
  simp only [List.mem_cons, List.not_mem_nil, or_false] at he
  rcases he with rfl
  ·exact a1c) (fun s => by kernel_rfl) (by kernel_rfl)
noncomputable def ku (x1 : Y0_) (x2 : Y0_) (x3 : Int) (x4 : Int) : Option ((Y0_ × VX) ⊕ Bool) :=
 bif decide (x4 < x3) then
  bif decide (0 ≤ x4) then
   Option.bind (x2[x4.toNat]?) fun x5 =>
    Option.bind (y4 x5.1 x5.2.1.1 x5.2.1.2 x5.2.2.1 x5.2.2.2.1 x5.2.2.2.2.1 x5.2.2.2.2.2) fun x6 =>
     bif !x6 then
      some (Sum.inr false)
     else Option.bind (wU x1 x4) fun x7 =>
       bif x7 then
        some (Sum.inr false)
       else bif x5.2.2.1 == 0 then
         bif decide ((0 : Int) ≤ IntKind.i64.wrap (x4 - (1 : Int))) then
          Option.bind (x1[(IntKind.i64.wrap (x4 - (1 : Int))).toNat]?) fun x8 =>
           bif !(x8.2.2.2.1 == x5.2.2.2.1 && (x8.2.2.2.2.1 == x5.2.2.2.2.1 && (x8.2.2.2.2.2 == x5.2.2.2.2.2 && true))) then
            some (Sum.inr false)
           else some (Sum.inl (x1, (x2, (x3, (IntKind.i64.wrap (x4 + (1 : Int)))))))
         else none
        else some (Sum.inl (x1, (x2, (x3, (IntKind.i64.wrap (x4 + (1 : Int)))))))
  else none
 else some (Sum.inr true)
noncomputable def wl : (Y0_ × VX) → Option Bool := qT fun s => ku s.1 s.2.1 s.2.2.1 s.2.2.2
noncomputable def wR (x0 : Y0_) : Option Bool :=
 Option.bind (wl (x0, (x0, (((↑x0.length : Int)), ((0 : Int)))))) fun x1 =>
  some x1
noncomputable def Vn : TEnt := ⟨63, .sl Y1_, [], [(.bool, [])], fun s => wR s⟩
theorem XF : qu Tryz.prog Vn := qh (tab := [KH, J0]) (loops := [(586, [0, 5, 6, 7], (.cons (.sl Y1_) (.cons (.sl Y1_) Y7_)), [])]) (joins := []) (un := []) _ (by
  intro e he
  simp only [List.mem_cons, List.not_mem_nil, or_false] at he
  rcases he with rfl | rfl
  ·exact Jx
  ·exact Jy) (fun s => by kernel_rfl) (by kernel_rfl)
noncomputable def kM (x1 : Y0_) (x2 : Int) : Option ((Y0_ × Int) ⊕ Bool) :=
 bif decide (x2 < (↑(List.length x1) : Int)) then
  bif decide (0 ≤ x2) then
   Option.bind (x1[x2.toNat]?) fun x3 =>
    Option.bind (yS x3.1 x3.2.1.1 x3.2.1.2 x3.2.2.1 x3.2.2.2.1 x3.2.2.2.2.1 x3.2.2.2.2.2) fun x4 =>
     bif !x4 then
      some (Sum.inr false)
     else Option.bind (yW x1 x2) fun x5 =>
       bif x5 then
        some (Sum.inr false)
       else bif decide (0 ≤ x2) then
         Option.bind (x1[x2.toNat]?) fun x6 =>
          bif x6.2.2.1 == 0 then
           bif decide (0 ≤ x2) then
            Option.bind (x1[x2.toNat]?) fun x7 =>
             bif decide ((0 : Int) ≤ IntKind.i64.wrap (x2 - (1 : Int))) then
              Option.bind (x1[(IntKind.i64.wrap (x2 - (1 : Int))).toNat]?) fun x8 =>
               bif !(x7.2.2.2.1 == x8.2.2.2.1 && (x7.2.2.2.2.1 == x8.2.2.2.2.1 && (x7.2.2.2.2.2 == x8.2.2.2.2.2 && true))) then
                some (Sum.inr false)
               else some (Sum.inl (x1, (IntKind.i64.wrap (x2 + (1 : Int)))))
             else none
           else none
          else some (Sum.inl (x1, (IntKind.i64.wrap (x2 + (1 : Int)))))
        else none
  else none
 else some (Sum.inr true)
noncomputable def wM : (Y0_ × Int) → Option Bool := qT fun s => kM s.1 s.2
noncomputable def Zp (x0 : Y0_) : Option Bool :=
 Option.bind (wM (x0, ((0 : Int)))) fun x1 =>
  some x1
noncomputable def xQ : TEnt := ⟨157, .sl Y2_, [], [(.bool, [])], fun s => Zp s⟩
theorem uk : qu Tryz.prog xQ := qh (tab := [Wh, WD]) (loops := [(586, [0, 3], (.cons (.sl Y2_) (.int .i64)), [])]) (joins := []) (un := []) _ (by
  intro e he
  simp only [List.mem_cons, List.not_mem_nil, or_false] at he
  rcases he with rfl | rfl
  ·exact JK
  ·exact Wa) (fun s => by kernel_rfl) (by kernel_rfl)
end Go.Sim
set_option maxRecDepth 100000
set_option maxHeartbeats 4000000
namespace Go.Sim
theorem yx (l : List qc) (h : l.length ≤ 1000000) : qN l = some l := by
 unfold qN
 have e : ([] : List qc) ++ l = l := rfl
 by_cases h0 : l.length = 0
 ·have : l = [] := List.length_eq_zero_iff.1 h0
  subst this
  simp [a7A]
 ·simp only [e]
  simp (disch := omega) only [qe, qk, cond_true, cond_false, true_and]
def kT (n : Int) : Nat := (if n < 0 then 0 else if 512 < n then 512 else n).toNat
theorem Vv (n : Int) : kT n ≤ 512 := by unfold kT; split <;> (try split) <;> omega
theorem a5a (n : Int) : w7 n = some (kT n : Int) := by
 unfold w7 kT
 by_cases h1 : n < 0
 ·simp [h1]
 ·by_cases h2 : 512 < n
  ·have : ¬ (0 : Int) > n := by omega
   simp [h1, h2]
  ·have : ¬ (0 : Int) > n := by omega
   simp [h1, h2]; omega
theorem XO (n : Int) : wT n = some (kT n : Int) := by
 unfold wT kT
 by_cases h1 : n < 0
 ·simp [h1]
 ·by_cases h2 : 512 < n
  ·simp [h1, h2]
  ·simp [h1, h2]; omega
def zb (a b c : Int) : qc := (32, (0, 0), 1, a, b, c)
theorem K9 {α : Type} (i : Nat) (x : α) : List.replicate i x ++ [x] = List.replicate (i + 1) x := by rw [List.replicate_succ']
theorem a4Z (n : Nat) (hn : n ≤ 1000000) (a b c : Int) : Ki ((((n : Nat) : Int), (0 : Int)), (a, b, c), []) = some (List.replicate n (zb a b c)) := by
 refine zk (st := fun i => ((((n : Nat) : Int), ((i : Nat) : Int)), (a, b, c), List.replicate i (zb a b c))) (n := n) (fun i hi => ?_) ?_ 0 (by omega)
 ·show zp _ _ _ = _
  unfold zp
  simp only [wW]
  have e : ((i : Int) + 1) = ((i + 1 : Nat) : Int) := by omega
  have e2 : List.replicate i (zb a b c) ++ [((32 : Int), ((0 : Int), (0 : Int)), (1 : Int), a, b, c)] = List.replicate (i + 1) (zb a b c) := K9 i _
  simp (disch := omega) only [qe, q9, cond_true, Option.bind_some, List.length_append, List.length_cons, List.length_nil, decide_true, true_and, List.length_replicate, e2, e]
 ·show zp _ _ _ = _
  unfold zp
  simp (disch := omega) only [qk, q9, cond_true, cond_false, List.length_append, List.length_cons, List.length_nil, decide_true, true_and]
theorem JT (n : Nat) (hn : n ≤ 1000000) (a b c : Int) : ji (n : Int) a b c = some (List.replicate n (zb a b c)) := by
 unfold ji
 rw [a4Z n hn]
 rfl
def kq (n : Int) : List qc := List.replicate (kT n) (zb 0 0 0)
theorem a1z (n : Int) : Z2 n = some (kq n) := by
 unfold Z2
 rw [a5a]
 simp only [Option.bind_some]
 rw [JT _ (by have := Vv n; omega)]
 rfl
theorem Ut (n : Int) : yg n = some (kq n) := by
 unfold yg
 have hl := Vv n
 have : vO ((n, (0 : Int)), []) = some (List.replicate (kT n) (zb 0 0 0)) := by
  refine zk (st := fun i => ((n, ((i : Nat) : Int)), List.replicate i (zb 0 0 0))) (n := kT n) (fun i hi => ?_) ?_ 0 (by omega)
  ·show kF _ _ = _
   unfold kF
   simp only [zQ, XO]
   have e : ((i : Int) + 1) = ((i + 1 : Nat) : Int) := by omega
   have e2 : List.replicate i (zb 0 0 0) ++ [((32 : Int), ((0 : Int), (0 : Int)), (1 : Int), (0 : Int), (0 : Int), (0 : Int))] = List.replicate (i + 1) (zb 0 0 0) := K9 i _
   simp (disch := omega) only [qe, q9, cond_true, Option.bind_some, List.length_append, List.length_cons, List.length_nil, decide_true, true_and, List.length_replicate, e2, e]
  ·show kF _ _ = _
   unfold kF
   simp only [XO]
   simp (disch := omega) only [qk, q9, cond_true, cond_false, Option.bind_some, List.length_append, List.length_cons, List.length_nil, decide_true, true_and]
 rw [this]
 rfl
def zB (l : List qc) (i : Nat) : Bool := match l[i]? with
 | none => false
 | some c => if c.2.2.1 = 2 then (match l[i + 1]? with
   | some d => d.2.2.1 != 0
   | none => true)
  else if c.2.2.1 = 0 then (if i = 0 then true else match l[i - 1]? with
   | some d => d.2.2.1 != 2
   | none => true)
  else false
theorem v5 {l : List qc} (hl : l.length ≤ 1000000) {i : Nat} (hi : i < l.length) : wU l (i : Int) = some (zB l i) := by
 obtain ⟨c, hc⟩ := qm hi
 unfold wU zB
 simp only [hc]
 have e1 : ((i : Int) + 1).toNat = i + 1 := by omega
 have e2 : ((i : Int) - 1).toNat = i - 1 := by omega
 by_cases h2 : c.2.2.1 = 2
 ·rw [if_pos h2]
  by_cases h3 : i + 1 < l.length
  ·obtain ⟨d, hd⟩ := qm h3
   simp only [hd]
   by_cases h4 : d.2.2.1 = 0
   ·simp (disch := omega) only [qe, ze, qL, uR, q9, cond_true, cond_false, Option.bind_some, Int.toNat_natCast, Bool.not_true, hc, hd, e1, e2, h4]
   ·simp (disch := omega) only [qe, ze, qL, aaq, q9, cond_true, cond_false, Option.bind_some, Int.toNat_natCast, Bool.not_false, hc, hd, e1, e2]
  ·have hn : l[i + 1]? = none := List.getElem?_eq_none (by omega)
   simp only [hn]
   simp (disch := omega) only [qe, qk, ze, qL, q9, cond_true, cond_false, Option.bind_some, Int.toNat_natCast, hc, e1, e2]
 ·rw [if_neg h2]
  by_cases h0 : c.2.2.1 = 0
  ·rw [if_pos h0]
   by_cases hi0 : i = 0
   ·subst hi0
    rw [if_pos rfl]
    simp (disch := omega) only [qe, qk, ze, qL, q9, cond_true, cond_false, Option.bind_some, Int.toNat_natCast, hc]
   ·rw [if_neg hi0]
    obtain ⟨d, hd⟩ := qm (l := l) (i := i - 1) (by omega)
    simp only [hd]
    simp (disch := omega) only [qe, ze, qL, q9, cond_true, cond_false, Option.bind_some, Int.toNat_natCast, hc, hd, e1, e2]
    rfl
  ·rw [if_neg h0]
   simp (disch := omega) only [qe, qL, q9, cond_true, cond_false, Option.bind_some, Int.toNat_natCast, hc]
theorem VL {l : List qc} (hl : l.length ≤ 1000000) {i : Nat} (hi : i < l.length) : yW l (i : Int) = some (zB l i) := by
 obtain ⟨c, hc⟩ := qm hi
 unfold yW zB
 simp only [hc]
 have e1 : ((i : Int) + 1).toNat = i + 1 := by omega
 have e2 : ((i : Int) - 1).toNat = i - 1 := by omega
 by_cases h2 : c.2.2.1 = 2
 ·rw [if_pos h2]
  by_cases h3 : i + 1 < l.length
  ·obtain ⟨d, hd⟩ := qm h3
   simp only [hd]
   simp (disch := omega) only [qe, ze, qL, q9, cond_true, cond_false, Option.bind_some, Int.toNat_natCast, hc, hd, e1]
  ·have hn : l[i + 1]? = none := List.getElem?_eq_none (by omega)
   simp only [hn]
   simp (disch := omega) only [qe, ze, qL, q9, cond_true, cond_false, Option.bind_some, Int.toNat_natCast, hc, e1]
 ·rw [if_neg h2]
  by_cases h0 : c.2.2.1 = 0
  ·rw [if_pos h0]
   by_cases hi0 : i = 0
   ·subst hi0
    rw [if_pos rfl]
    simp (disch := omega) only [qe, qk, ze, qL, q9, cond_true, cond_false, Option.bind_some, Int.toNat_natCast, hc]
   ·rw [if_neg hi0]
    obtain ⟨d, hd⟩ := qm (l := l) (i := i - 1) (by omega)
    simp only [hd]
    simp (disch := omega) only [qe, ze, qL, q9, cond_true, cond_false, Option.bind_some, Int.toNat_natCast, hc, hd, e2]
  ·rw [if_neg h0]
   simp (disch := omega) only [qe, qL, q9, cond_true, cond_false, Option.bind_some, Int.toNat_natCast, hc]
def Yp (l : List qc) (i : Nat) (c : qc) : qc := if zB l i = true then zb c.2.2.2.1 c.2.2.2.2.1 c.2.2.2.2.2 else c
def zu (l : List qc) : List qc := l.mapIdx (Yp l)
theorem zY (l : List qc) : (zu l).length = l.length := by simp [zu]
theorem vS {l : List qc} {i : Nat} {c : qc} (h : l[i]? = some c) : (zu l)[i]? = some (Yp l i c) := by simp [zu, h]
theorem xf {l : List qc} {i : Nat} {c : qc} (h : l[i]? = some c) : (zu l).take i ++ [Yp l i c] = (zu l).take (i + 1) := (kn (vS h)).symm
theorem ua {l : List qc} (hl : l.length ≤ 1000000) : yn l = some (zu l) := by
 unfold yn
 have : Ys ((l, (0 : Int)), []) = some (zu l) := by
  refine zk (st := fun i => ((l, ((i : Nat) : Int)), (zu l).take i)) (n := l.length) (fun i hi => ?_) ?_ 0 (by omega)
  ·obtain ⟨c, hc⟩ := qm hi
   have ht : ((zu l).take i).length = i := by rw [List.length_take, zY]; omega
   have e : ((i : Int) + 1) = ((i + 1 : Nat) : Int) := by omega
   have e2 := xf hc
   show kh _ _ = _
   unfold kh
   simp only [zQ]
   unfold Yp at e2
   cases ha : zB l i
   ·rw [ha] at e2
    simp only [Bool.false_eq_true, if_false] at e2
    have e3 : (zu l).take i ++ [(c.1, (c.2.1.1, c.2.1.2), c.2.2.1, c.2.2.2.1, c.2.2.2.2.1, c.2.2.2.2.2)] = (zu l).take (i + 1) := e2
    simp (disch := omega) only [qe, q9, cond_true, cond_false, Option.bind_some, Int.toNat_natCast, List.length_append, List.length_cons, List.length_nil, decide_true, true_and, hc, VL hl hi, ha, ht, e3, e]
   ·rw [ha] at e2
    simp only [if_true] at e2
    have e3 : (zu l).take i ++ [((32 : Int), ((0 : Int), (0 : Int)), (1 : Int), c.2.2.2.1, c.2.2.2.2.1, c.2.2.2.2.2)] = (zu l).take (i + 1) := e2
    simp (disch := omega) only [qe, q9, cond_true, Option.bind_some, Int.toNat_natCast, List.length_append, List.length_cons, List.length_nil, decide_true, true_and, hc, VL hl hi, ha, ht, e3, e]
  ·show kh _ _ = _
   unfold kh
   have ht : (zu l).take l.length = zu l := List.take_of_length_le (by rw [zY]; omega)
   simp (disch := omega) only [qe, qk, q9, cond_true, cond_false, Int.toNat_natCast, List.length_append, List.length_cons, List.length_nil, decide_true, true_and, ht]
 rw [this]
 rfl
def jB (l : List qc) (i : Nat) : List qc := (zu l).take i ++ l.drop i
theorem Ua {l : List qc} {i : Nat} (h : i ≤ l.length) : (jB l i).length = l.length := by
 simp only [jB, List.length_append, List.length_take, zY, List.length_drop]; omega
theorem a9x {l : List qc} {i : Nat} (h : i < l.length) : (jB l i)[i]? = l[i]? := by
 unfold jB
 rw [List.getElem?_append_right (by rw [List.length_take, zY]; omega), List.length_take, zY, List.getElem?_drop]
 congr 1; omega
theorem a7N {l : List qc} {i : Nat} {c : qc} (h : l[i]? = some c) : (jB l i).set i (Yp l i c) = jB l (i + 1) := by
 have hi : i < l.length := (List.getElem?_eq_some_iff.1 h).1
 unfold jB
 rw [← xf h, XN h, List.set_append_right _ _ (by rw [List.length_take, zY]; omega), List.length_take, zY, show i - min i l.length = 0 by omega]
 simp
theorem a4B {l : List qc} {i : Nat} {c : qc} (h : l[i]? = some c) (ha : zB l i = false) : jB l i = jB l (i + 1) := by
 unfold jB
 rw [← xf h, XN h]
 simp [Yp, ha]
theorem a2l {l : List qc} (hl : l.length ≤ 1000000) : kw l = some (zu l) := by
 unfold kw
 have hdr : List.drop l.length (List.replicate l.length (((0 : Int), ((0 : Int), (0 : Int)), (0 : Int), (0 : Int), (0 : Int), (0 : Int)) : qc)) = [] := List.drop_eq_nil_of_le (by simp)
 have : Wk ((l, (l, ((l.length : Nat) : Int), (0 : Int))), l) = some (zu l) := by
  have h0 : l = jB l 0 := by simp [jB]
  have := zk (step := fun s => zi s.1 s.2) (st := fun i => ((l, (l, ((l.length : Nat) : Int), ((i : Nat) : Int))), jB l i)) (n := l.length) (t := zu l) (fun i hi => ?_) ?_ 0 (by omega)
  ·rw [← h0] at this; exact this
  ·obtain ⟨c, hc⟩ := qm hi
   have e : ((i : Int) + 1) = ((i + 1 : Nat) : Int) := by omega
   have ht := Ua (l := l) (i := i) (by omega)
   have hg := (a9x hi).trans hc
   have e2 := a7N hc
   show zi _ _ = _
   unfold zi
   simp only [wW]
   unfold Yp at e2
   cases ha : zB l i
   ·simp (disch := omega) only [qe, q9, cond_true, Option.bind_some, Int.toNat_natCast, Bool.not_false, decide_true, and_true, hc, v5 hl hi, ha, e]
    rw [a4B hc ha]
   ·rw [ha] at e2
    simp only [if_true] at e2
    have e3 : (jB l i).set i ((32 : Int), ((0 : Int), (0 : Int)), (1 : Int), c.2.2.2.1, c.2.2.2.2.1, c.2.2.2.2.2) = jB l (i + 1) := e2
    have ht2 := Ua (l := l) (i := i + 1) (by omega)
    simp (disch := omega) only [qe, q9, cond_true, cond_false, Option.bind_some, Int.toNat_natCast, Bool.not_true, decide_true, and_true, hc, v5 hl hi, ha, ht, hg, e3, ht2, e]
  ·show zi _ _ = _
   unfold zi
   have ht : jB l l.length = zu l := by
    unfold jB
    rw [List.drop_eq_nil_of_le (Nat.le_refl _), List.append_nil]
    exact List.take_of_length_le (by rw [zY]; omega)
   simp (disch := omega) only [qe, qk, q9, cond_true, cond_false, Int.toNat_natCast, decide_true, and_true, ht]
 simp only [Int.toNat_natCast, hdr, List.append_nil]
 simp (disch := omega) only [qe, cond_true, decide_true, true_and, List.length_replicate]
 rw [this]
 rfl
end Go.Sim
set_option maxRecDepth 100000
set_option maxHeartbeats 4000000
namespace Go.Sim
def JS (l : List qc) (k : Nat) (s : List qc) : List qc := l.take k ++ s ++ l.drop (k + s.length)
theorem aaH {l s : List qc} {k : Nat} (h : k + s.length ≤ l.length) : (JS l k s).length = l.length := by
 simp only [JS, List.length_append, List.length_take, List.length_drop]; omega
theorem xp {l s : List qc} {k : Nat} (hl : l.length ≤ 1000000) (h : k + s.length ≤ l.length) : kY l (k : Int) s = some (zu (JS l k s)) := by
 have hm := a2l (l := JS l k s) (by rw [aaH h]; omega)
 unfold JS at hm ⊢
 unfold kY
 have w : IntKind.i64.wrap ((k : Int) + (s.length : Int)) = ((k + s.length : Nat) : Int) := by rw [q9 (by omega) (by omega)]; omega
 simp only [w, Int.toNat_natCast, Nat.sub_zero, List.drop_zero]
 by_cases h0 : k = 0
 ·subst h0
  simp only [List.take_zero, List.nil_append] at hm ⊢
  simp (disch := omega) only [qe, cond_true, Option.bind_some, List.length_append, List.length_nil, true_and, List.length_drop, hm]
 ·by_cases hs : s.length = 0
  ·have : s = [] := List.length_eq_zero_iff.1 hs
   subst this
   simp only [List.length_nil, Nat.add_zero, List.append_nil] at hm ⊢
   by_cases hd : k = l.length
   ·have hd0 : List.drop k l = [] := List.drop_eq_nil_of_le (by omega)
    rw [hd0, List.append_nil] at hm
    simp (disch := omega) only [qe, qk, cond_true, cond_false, Option.bind_some, List.length_nil, decide_true, true_and, List.length_take, hm, hd0, List.append_nil]
   ·simp (disch := omega) only [qe, qk, cond_true, cond_false, Option.bind_some, List.length_append, List.length_nil, decide_true, true_and, List.length_drop, List.length_take, hm]
  ·simp (disch := omega) only [qe, qk, cond_true, cond_false, Option.bind_some, List.length_append, List.length_nil, decide_true, true_and, List.length_drop, List.length_take, hm]
def Jv (c : qc) : qc := (0, (0, 0), 0, c.2.2.2.1, c.2.2.2.2.1, c.2.2.2.2.2)
def w9 (l : List qc) (k : Nat) (c : qc) : List qc := if c.2.2.1 = 2 then (l.set k c).set (k + 1) (Jv c) else l.set k c
theorem ux (l : List qc) (k : Nat) (c : qc) : (w9 l k c).length = l.length := by unfold w9; split <;> simp
def jY (l : List qc) (k : Int) (c : qc) : List qc × Bool :=
 if c.2.2.1 ≠ 0 ∧ zf c = true ∧ 0 ≤ k ∧ k < l.length ∧ c.2.2.1 ≤ (l.length : Int) - k then (zu (w9 l k.toNat c), true) else (l, false)
theorem a2E {c : qc} (h : zf c = true) : c.2.2.1 ≤ 2 := by
 unfold zf at h
 simp only [Bool.and_eq_true] at h
 have h2 := h.2
 split at h2
 ·omega
 ·simp only [Bool.and_eq_true, decide_eq_true_eq] at h2; exact h2.1
theorem aiQ {l : List qc} {k : Nat} (c : qc) (h : k < l.length) : JS l k [c] = l.set k c := by
 unfold JS
 rw [List.set_eq_take_append_cons_drop, if_pos h]
 simp
theorem ajb {l : List qc} {k : Nat} (c d : qc) (h : k + 1 < l.length) : JS l k [c, d] = (l.set k c).set (k + 1) d := by
 refine List.ext_getElem? fun i => ?_
 unfold JS
 rw [List.getElem?_set, List.getElem?_set, List.length_set]
 by_cases h1 : i < k
 ·rw [if_neg (by omega), if_neg (by omega), List.append_assoc, List.getElem?_append_left (by rw [List.length_take]; omega), List.getElem?_take, if_pos h1]
 ·by_cases h2 : i = k
  ·subst h2
   rw [if_neg (by omega), if_pos rfl, if_pos (by omega), List.append_assoc, List.getElem?_append_right (by rw [List.length_take]; omega), List.length_take, show i - min i l.length = 0 by omega]
   rfl
  ·by_cases h3 : i = k + 1
   ·subst h3
    rw [if_pos rfl, if_pos h, List.append_assoc, List.getElem?_append_right (by rw [List.length_take]; omega), List.length_take, show k + 1 - min k l.length = 1 by omega]
    rfl
   ·rw [if_neg (by omega), if_neg (by omega), List.getElem?_append_right (by simp [List.length_take]; omega), List.getElem?_drop]
    congr 1
    simp [List.length_take]; omega
theorem acW {l : List qc} {k : Int} {c : qc} (hl : l.length ≤ 1000000) (hk : -9223372036854775808 ≤ k ∧ k < 9223372036854775808) (h : OkC c) :
  Ky l k c.1 c.2.1.1 c.2.1.2 c.2.2.1 c.2.2.2.1 c.2.2.2.2.1 c.2.2.2.2.2 = some (jY l k c) := by
 have hw := h.w
 simp only [u8r] at hw
 have hcl := yx l hl
 unfold Ky jY
 simp only [uz h, yM]
 by_cases h0 : c.2.2.1 = 0
 ·rw [if_neg (by simp [h0])]
  simp (disch := omega) only [ze, qL, q9, cond_true, cond_false, Option.bind_some, decide_true, hcl]
 ·cases hr : zf c
  ·rw [if_neg (by simp)]
   simp (disch := omega) only [qL, q9, cond_true, cond_false, Option.bind_some, Bool.not_false, decide_true, hcl]
  ·have hw2 := a2E hr
   by_cases h1 : k < 0
   ·rw [if_neg (by omega)]
    simp (disch := omega) only [qe, qk, qL, q9, cond_true, cond_false, Option.bind_some, Bool.not_true, decide_true, hcl]
   ·by_cases h2 : (l.length : Int) ≤ k
    ·rw [if_neg (by omega)]
     simp (disch := omega) only [qe, qk, qL, q9, cond_true, cond_false, Option.bind_some, Bool.not_true, decide_true, hcl]
    ·obtain ⟨n, rfl⟩ : ∃ n : Nat, k = n := ⟨k.toNat, by omega⟩
     by_cases h3 : (l.length : Int) - n < c.2.2.1
     ·rw [if_neg (by omega)]
      simp (disch := omega) only [qe, qk, ze, qL, q9, cond_true, cond_false, Option.bind_some, Bool.not_true, decide_true, hcl]
     ·rw [if_pos ⟨h0, rfl, by omega, by omega, by omega⟩]
      unfold w9
      by_cases h4 : c.2.2.1 = 2
      ·rw [if_pos h4]
       have e := xp (l := l) (s := [c, Jv c]) (k := n) hl (by simp; omega)
       rw [ajb _ _ (by omega)] at e
       have e2 : kY l (n : Int) [(c.1, (c.2.1.1, c.2.1.2), c.2.2.1, c.2.2.2.1, c.2.2.2.2.1, c.2.2.2.2.2), (0, (0, 0), 0, c.2.2.2.1, c.2.2.2.2.1, c.2.2.2.2.2)] = some (zu ((l.set n c).set (n + 1) (Jv c))) := e
       simp (disch := omega) only [qk, ze, qL, q9, cond_true, cond_false, Option.bind_some, Int.toNat_natCast, Bool.not_true, decide_true, e2]
      ·rw [if_neg h4]
       have e := xp (l := l) (s := [c]) (k := n) hl (by simp; omega)
       rw [aiQ _ (by omega)] at e
       have e2 : kY l (n : Int) [(c.1, (c.2.1.1, c.2.1.2), c.2.2.1, c.2.2.2.1, c.2.2.2.2.1, c.2.2.2.2.2)] = some (zu (l.set n c)) := e
       simp (disch := omega) only [qk, qL, q9, cond_true, cond_false, Option.bind_some, Int.toNat_natCast, Bool.not_true, decide_true, e2]
theorem a2L {l : List qc} {n : Nat} {c : qc} (hl : l.length ≤ 1000000) (hn : n < l.length) : Ql ((l, ((n : Int), (0 : Int))), zD c, []) = some (zu (w9 l n c), true) := by
 have hT := ux l n c
 refine zk (st := fun i => ((l, ((n : Int), ((i : Nat) : Int))), zD c, (w9 l n c).take i)) (n := l.length) (fun i hi => ?_) ?_ 0 (by omega)
 ·obtain ⟨d, hd⟩ := qm hi
  have ht : ((w9 l n c).take i).length = i := by rw [List.length_take, hT]; omega
  have e : ((i : Int) + 1) = ((i + 1 : Nat) : Int) := by omega
  show ky _ _ _ = _
  unfold ky zD
  simp only [YP]
  by_cases h1 : i = n
  ·subst h1
   have hg : (w9 l i c)[i]? = some c := by
    unfold w9; split <;> simp [hi]
   have e3 : (w9 l i c).take i ++ [(c.1, (c.2.1.1, c.2.1.2), c.2.2.1, c.2.2.2.1, c.2.2.2.2.1, c.2.2.2.2.2)] = (w9 l i c).take (i + 1) := (kn hg).symm
   have ht1 : ((w9 l i c).take (i + 1)).length = i + 1 := by rw [List.length_take, hT]; omega
   simp (disch := omega) only [qe, ze, qL, q9, cond_true, cond_false, Option.bind_some, Int.toNat_natCast, List.length_append, List.length_cons, List.length_nil, decide_true, true_and, ht, e3, e, ht1]
  ·by_cases h2 : i = n + 1
   ·subst h2
    by_cases h3 : c.2.2.1 = 2
    ·have hg : (w9 l n c)[n + 1]? = some (Jv c) := by
      unfold w9; rw [if_pos h3]; simp [hi]
     have e3 : (w9 l n c).take (n + 1) ++ [((0 : Int), ((0 : Int), (0 : Int)), (0 : Int), c.2.2.2.1, c.2.2.2.2.1, c.2.2.2.2.2)] = (w9 l n c).take (n + 1 + 1) := (kn hg).symm
     simp (disch := omega) only [qe, ze, qL, q9, cond_true, cond_false, Option.bind_some, Int.toNat_natCast, List.length_append, List.length_cons, List.length_nil, decide_true, true_and, ht, e3, e]
    ·have hg : (w9 l n c)[n + 1]? = some d := by
      unfold w9; rw [if_neg h3]; rw [List.getElem?_set_ne (by omega)]; exact hd
     have e3 : (w9 l n c).take (n + 1) ++ [(d.1, (d.2.1.1, d.2.1.2), d.2.2.1, d.2.2.2.1, d.2.2.2.2.1, d.2.2.2.2.2)] = (w9 l n c).take (n + 1 + 1) := (kn hg).symm
     simp (disch := omega) only [qe, ze, qL, q9, cond_true, cond_false, Option.bind_some, Int.toNat_natCast, List.length_append, List.length_cons, List.length_nil, decide_true, true_and, hd, ht, e3, e]
   ·have hg : (w9 l n c)[i]? = some d := by
     unfold w9; split
     ·rw [List.getElem?_set_ne (by omega), List.getElem?_set_ne (by omega)]; exact hd
     ·rw [List.getElem?_set_ne (by omega)]; exact hd
    have e3 : (w9 l n c).take i ++ [(d.1, (d.2.1.1, d.2.1.2), d.2.2.1, d.2.2.2.1, d.2.2.2.2.1, d.2.2.2.2.2)] = (w9 l n c).take (i + 1) := (kn hg).symm
    simp (disch := omega) only [qe, qL, q9, cond_true, cond_false, Option.bind_some, Int.toNat_natCast, List.length_append, List.length_cons, List.length_nil, decide_true, true_and, hd, ht, e3, e]
 ·show ky _ _ _ = _
  unfold ky
  have ht : (w9 l n c).take l.length = w9 l n c := List.take_of_length_le (by rw [hT]; omega)
  have hm := ua (l := w9 l n c) (by rw [hT]; omega)
  simp (disch := omega) only [qe, qk, qL, q9, cond_true, cond_false, Option.bind_some, Int.toNat_natCast, List.length_append, List.length_cons, List.length_nil, decide_true, true_and, ht, hm]
theorem afn {l : List qc} {k : Int} {c : qc} (hl : l.length ≤ 1000000) (hk : -9223372036854775808 ≤ k ∧ k < 9223372036854775808) (h : OkC c) :
  WP l k c.1 c.2.1.1 c.2.1.2 c.2.2.1 c.2.2.2.1 c.2.2.2.2.1 c.2.2.2.2.2 = some (jY l k c) := by
 have hw := h.w
 simp only [u8r] at hw
 unfold WP jY
 simp only [a1t h]
 cases hr : zf c
 ·rw [if_neg (by simp)]
  simp (disch := omega) only [q9, cond_true, Option.bind_some, Bool.not_false]
 ·have hw2 := a2E hr
  by_cases h0 : c.2.2.1 = 0
  ·rw [if_neg (by simp [h0])]
   simp (disch := omega) only [ze, qL, q9, cond_true, cond_false, Option.bind_some, Bool.not_true]
  ·by_cases h1 : k < 0
   ·rw [if_neg (by omega)]
    simp (disch := omega) only [qe, qk, qL, q9, cond_true, cond_false, Option.bind_some, Bool.not_true]
   ·by_cases h2 : (l.length : Int) ≤ k
    ·rw [if_neg (by omega)]
     simp (disch := omega) only [qe, qk, qL, q9, cond_true, cond_false, Option.bind_some, Bool.not_true]
    ·obtain ⟨n, rfl⟩ : ∃ n : Nat, k = n := ⟨k.toNat, by omega⟩
     have e : Ql ((l, ((n : Int), (0 : Int))), (c.1, c.2.1.1, c.2.1.2, c.2.2.1, c.2.2.2.1, c.2.2.2.2.1, c.2.2.2.2.2), []) = some (zu (w9 l n c), true) := a2L (c := c) hl (by omega)
     by_cases h4 : c.2.2.1 = 2
     ·by_cases h5 : (n : Int) = l.length - 1
      ·rw [if_neg (by omega)]
       simp (disch := omega) only [qk, ze, qL, q9, cond_true, cond_false, Option.bind_some, Bool.not_true]
      ·rw [if_pos ⟨h0, rfl, by omega, by omega, by omega⟩]
       simp (disch := omega) only [qk, ze, qL, q9, cond_true, cond_false, Option.bind_some, Int.toNat_natCast, Bool.not_true, e]
     ·rw [if_pos ⟨h0, rfl, by omega, by omega, by omega⟩]
      simp (disch := omega) only [qk, qL, q9, cond_false, Option.bind_some, Int.toNat_natCast, Bool.not_true, e]
end Go.Sim
set_option maxRecDepth 100000
set_option maxHeartbeats 4000000
namespace Go.Sim
def ZN (l : List qc) (n : Nat) : Nat := match l[n]?, l[n - 1]? with
 | some c, some d => if c.2.2.1 = 0 ∧ 0 < n ∧ d.2.2.1 = 2 then n - 1 else n
 | _, _ => n
def wg (l : List qc) (k : Int) (m : Int) : List qc × Bool :=
 if 0 ≤ k ∧ k < l.length then (match l[ZN l k.toNat]? with
  | some c => (l.set (ZN l k.toNat) (jg c m).1, (jg c m).2)
  | none => (l, false)) else (l, false)
theorem a77 {l : List qc} (hl : l.length ≤ 1000000) (k m : Int) (hk : -9223372036854775808 ≤ k ∧ k < 9223372036854775808) : ZE l k m = some (wg l k m) := by
 have hcl := yx l hl
 unfold ZE wg
 by_cases h1 : k < 0
 ·rw [if_neg (by omega)]
  simp (disch := omega) only [qe, qk, cond_true, cond_false, Option.bind_some, decide_true, and_true, hcl]
 ·by_cases h2 : (l.length : Int) ≤ k
  ·rw [if_neg (by omega)]
   simp (disch := omega) only [qe, qk, q9, cond_true, cond_false, Option.bind_some, decide_true, and_true, hcl]
  ·obtain ⟨n, rfl⟩ : ∃ n : Nat, k = n := ⟨k.toNat, by omega⟩
   rw [if_pos ⟨by omega, by omega⟩]
   obtain ⟨c, hc⟩ := qm (l := l) (i := n) (by omega)
   obtain ⟨d, hd⟩ := qm (l := l) (i := n - 1) (by omega)
   have e2 : ((n : Int) - 1).toNat = n - 1 := by omega
   have ec : kA (c.1, c.2.1.1, c.2.1.2, c.2.2.1, c.2.2.2.1, c.2.2.2.2.1, c.2.2.2.2.2) m = some (zD (jg c m).1, (jg c m).2) := uv c m
   have ed : kA (d.1, d.2.1.1, d.2.1.2, d.2.2.1, d.2.2.2.1, d.2.2.2.2.1, d.2.2.2.2.2) m = some (zD (jg d m).1, (jg d m).2) := uv d m
   by_cases h3 : c.2.2.1 = 0 ∧ 0 < n ∧ d.2.2.1 = 2
   ·have ha : ZN l n = n - 1 := by unfold ZN; simp only [hc, hd]; rw [if_pos h3]
    obtain ⟨h3a, h3b, h3c⟩ := h3
    rw [Int.toNat_natCast, ha]
    simp only [hd]
    simp (disch := omega) only [qe, qk, ze, q9, cond_true, cond_false, Option.bind_some, decide_true, and_true, hcl, hc, hd, e2, ed, List.length_set]
    rfl
   ·have ha : ZN l n = n := by unfold ZN; simp only [hc, hd]; rw [if_neg h3]
    rw [Int.toNat_natCast, ha]
    simp only [hc]
    by_cases h4 : c.2.2.1 = 0
    ·by_cases h5 : 0 < n
     ·have h6 : d.2.2.1 ≠ 2 := fun q => h3 ⟨h4, h5, q⟩
      simp (disch := omega) only [qe, qk, ze, qL, q9, cond_true, cond_false, Option.bind_some, decide_true, and_true, hcl, hc, hd, e2, ec, List.length_set]
      rfl
     ·simp (disch := omega) only [qe, qk, ze, q9, cond_true, cond_false, Option.bind_some, decide_true, and_true, hcl, hc, hd, e2, ec, List.length_set]
      rfl
    ·simp (disch := omega) only [qe, qk, qL, q9, cond_true, cond_false, Option.bind_some, decide_true, and_true, hcl, hc, hd, e2, ec, List.length_set]
     rfl
theorem a9q {l : List qc} (hl : l.length ≤ 1000000) (k m : Int) (hk : -9223372036854775808 ≤ k ∧ k < 9223372036854775808) : KA l k m = some (wg l k m) := by
 unfold KA wg
 have en : ([] : List qc) ++ l = l := rfl
 simp only [en]
 by_cases h1 : k < 0
 ·rw [if_neg (by omega)]
  simp (disch := omega) only [qe, qk, cond_true, cond_false, true_and]
 ·by_cases h2 : (l.length : Int) ≤ k
  ·rw [if_neg (by omega)]
   simp (disch := omega) only [qe, qk, q9, cond_true, cond_false, true_and]
  ·obtain ⟨n, rfl⟩ : ∃ n : Nat, k = n := ⟨k.toNat, by omega⟩
   rw [if_pos ⟨by omega, by omega⟩]
   obtain ⟨c, hc⟩ := qm (l := l) (i := n) (by omega)
   obtain ⟨d, hd⟩ := qm (l := l) (i := n - 1) (by omega)
   have e2 : ((n : Int) - 1).toNat = n - 1 := by omega
   have ec : j9 (c.1, c.2.1.1, c.2.1.2, c.2.2.1, c.2.2.2.1, c.2.2.2.2.1, c.2.2.2.2.2) m = some (zD (jg c m).1, (jg c m).2) := a6r c m
   have ed : j9 (d.1, d.2.1.1, d.2.1.2, d.2.2.1, d.2.2.2.1, d.2.2.2.2.1, d.2.2.2.2.2) m = some (zD (jg d m).1, (jg d m).2) := a6r d m
   by_cases h3 : c.2.2.1 = 0 ∧ 0 < n ∧ d.2.2.1 = 2
   ·have ha : ZN l n = n - 1 := by unfold ZN; simp only [hc, hd]; rw [if_pos h3]
    obtain ⟨h3a, h3b, h3c⟩ := h3
    rw [Int.toNat_natCast, ha]
    simp only [hd]
    simp (disch := omega) only [qe, qk, ze, q9, cond_true, cond_false, Option.bind_some, true_and, hc, hd, e2, ed, List.length_set]
    rfl
   ·have ha : ZN l n = n := by unfold ZN; simp only [hc, hd]; rw [if_neg h3]
    rw [Int.toNat_natCast, ha]
    simp only [hc]
    by_cases h4 : c.2.2.1 = 0
    ·by_cases h5 : 0 < n
     ·have h6 : d.2.2.1 ≠ 2 := fun q => h3 ⟨h4, h5, q⟩
      simp (disch := omega) only [qe, qk, ze, qL, q9, cond_true, cond_false, Option.bind_some, true_and, hd, e2, ec, List.length_set]
      rfl
     ·simp (disch := omega) only [qe, qk, ze, q9, cond_true, cond_false, Option.bind_some, true_and, hd, e2, ec, List.length_set]
      rfl
    ·simp (disch := omega) only [qe, qk, qL, q9, cond_true, cond_false, Option.bind_some, true_and, hd, e2, ec, List.length_set]
     rfl
def wt (l : List qc) (f t a b c : Int) : List qc := l.mapIdx fun i d => if f ≤ (i : Int) ∧ (i : Int) < t then zb a b c else d
theorem Ku (l : List qc) (f t a b c : Int) : (wt l f t a b c).length = l.length := by simp [wt]
theorem Vs {l : List qc} {f t a b c : Int} {i : Nat} {d : qc} (h : l[i]? = some d) : (wt l f t a b c)[i]? = some (if f ≤ (i : Int) ∧ (i : Int) < t then zb a b c else d) := by simp [wt, h]
theorem aeQ (l : List qc) (f t a b c : Int) : JS l (min f.toNat l.length) (List.replicate (min t.toNat l.length - min f.toNat l.length) (zb a b c)) = wt l f t a b c := by
 refine List.ext_getElem? fun i => ?_
 unfold JS
 by_cases hi : i < l.length
 ·obtain ⟨d, hd⟩ := qm hi
  rw [Vs hd]
  by_cases h1 : i < min f.toNat l.length
  ·rw [if_neg (by omega), List.append_assoc, List.getElem?_append_left (by rw [List.length_take]; omega), List.getElem?_take, if_pos h1]; exact hd
  ·by_cases h2 : i < min t.toNat l.length
   ·rw [if_pos (by omega), List.append_assoc, List.getElem?_append_right (by rw [List.length_take]; omega), List.length_take, List.getElem?_append_left (by rw [List.length_replicate]; omega), List.getElem?_replicate, if_pos (by omega)]
   ·rw [if_neg (by omega), List.getElem?_append_right (by simp only [List.length_append, List.length_take, List.length_replicate]; omega), List.getElem?_drop]
    rw [← hd]
    congr 1
    simp only [List.length_append, List.length_take, List.length_replicate]; omega
 ·rw [List.getElem?_eq_none (by simp only [List.length_append, List.length_take, List.length_replicate, List.length_drop]; omega), List.getElem?_eq_none (by rw [Ku]; omega)]
theorem a6Z {l : List qc} (hl : l.length ≤ 1000000) (f t a b c : Int) : wX l f t a b c = some (zu (wt l f t a b c)) := by
 have hf : ∀ x : Int, (if (l.length : Int) < if (0 : Int) > x then (0 : Int) else x then (l.length : Int) else if (0 : Int) > x then (0 : Int) else x) = ((min x.toNat l.length : Nat) : Int) := by
  intro x
  by_cases h1 : (0 : Int) > x
  ·simp only [h1, if_true]; rw [if_neg (by omega)]; omega
  ·simp only [h1, if_false]; split <;> omega
 unfold wX
 simp only [hf]
 have hw : IntKind.i64.wrap (((min t.toNat l.length : Nat) : Int) - ((min f.toNat l.length : Nat) : Int)) = ((min t.toNat l.length : Nat) : Int) - ((min f.toNat l.length : Nat) : Int) := q9 (by omega) (by omega)
 have hk : (if ((min t.toNat l.length : Nat) : Int) - ((min f.toNat l.length : Nat) : Int) > (0 : Int) then ((min t.toNat l.length : Nat) : Int) - ((min f.toNat l.length : Nat) : Int) else (0 : Int)) = ((min t.toNat l.length - min f.toNat l.length : Nat) : Int) := by split <;> omega
 simp only [hw, hk]
 rw [JT _ (by omega)]
 simp only [Option.bind_some]
 rw [xp hl (by rw [List.length_replicate]; omega), aeQ]
 rfl
theorem a9G {l : List qc} (hl : l.length ≤ 1000000) (f t a b c : Int) : wA l f t a b c = some (zu (wt l f t a b c)) := by
 unfold wA
 have hT := Ku l f t a b c
 have : JF ((l, (f, (t, (0 : Int)))), (a, b, c), []) = some (zu (wt l f t a b c)) := by
  refine zk (st := fun i => ((l, (f, (t, ((i : Nat) : Int)))), (a, b, c), (wt l f t a b c).take i)) (n := l.length) (fun i hi => ?_) ?_ 0 (by omega)
  ·obtain ⟨d, hd⟩ := qm hi
   have ht : ((wt l f t a b c).take i).length = i := by rw [List.length_take, hT]; omega
   have ht1 : ((wt l f t a b c).take (i + 1)).length = i + 1 := by rw [List.length_take, hT]; omega
   have e : ((i : Int) + 1) = ((i + 1 : Nat) : Int) := by omega
   have hg := Vs (f := f) (t := t) (a := a) (b := b) (c := c) hd
   show zL _ _ _ = _
   unfold zL
   simp only [zQ]
   by_cases h1 : f ≤ (i : Int)
   ·by_cases h2 : (i : Int) < t
    ·rw [if_pos ⟨h1, h2⟩] at hg
     have e3 : (wt l f t a b c).take i ++ [((32 : Int), ((0 : Int), (0 : Int)), (1 : Int), a, b, c)] = (wt l f t a b c).take (i + 1) := (kn hg).symm
     simp (disch := omega) only [qe, q9, cond_true, Option.bind_some, Int.toNat_natCast, List.length_append, List.length_cons, List.length_nil, decide_true, true_and, hd, ht, e3, e]
    ·rw [if_neg (fun q => h2 q.2)] at hg
     have e3 : (wt l f t a b c).take i ++ [(d.1, (d.2.1.1, d.2.1.2), d.2.2.1, d.2.2.2.1, d.2.2.2.2.1, d.2.2.2.2.2)] = (wt l f t a b c).take (i + 1) := (kn hg).symm
     simp (disch := omega) only [qe, qk, q9, cond_true, cond_false, Option.bind_some, Int.toNat_natCast, List.length_append, List.length_cons, List.length_nil, decide_true, true_and, hd, ht, e3, e]
   ·rw [if_neg (fun q => h1 q.1)] at hg
    have e3 : (wt l f t a b c).take i ++ [(d.1, (d.2.1.1, d.2.1.2), d.2.2.1, d.2.2.2.1, d.2.2.2.2.1, d.2.2.2.2.2)] = (wt l f t a b c).take (i + 1) := (kn hg).symm
    simp (disch := omega) only [qe, qk, q9, cond_true, cond_false, Option.bind_some, Int.toNat_natCast, List.length_append, List.length_cons, List.length_nil, decide_true, true_and, hd, ht, e3, e]
  ·show zL _ _ _ = _
   unfold zL
   have ht : (wt l f t a b c).take l.length = wt l f t a b c := List.take_of_length_le (by rw [hT]; omega)
   have hm := ua (l := wt l f t a b c) (by rw [hT]; omega)
   simp (disch := omega) only [qe, qk, q9, cond_true, cond_false, Option.bind_some, Int.toNat_natCast, List.length_append, List.length_cons, List.length_nil, decide_true, true_and, ht, hm]
 rw [this]
 rfl
def yP (l : List qc) (n : Nat) : List qc := (List.range n).map fun i => l[i]?.getD (zb 0 0 0)
theorem wO (l : List qc) (n : Nat) : (yP l n).length = n := by simp [yP]
theorem Wf (l : List qc) {n i : Nat} (h : i < n) : (yP l n)[i]? = some (l[i]?.getD (zb 0 0 0)) := by simp [yP, h]
theorem afd {l : List qc} {n : Nat} (h : n ≤ l.length) : l.take n = yP l n := by
 refine List.ext_getElem? fun i => ?_
 by_cases hi : i < n
 ·obtain ⟨d, hd⟩ := qm (l := l) (i := i) (by omega)
  rw [List.getElem?_take, if_pos hi, Wf l hi, hd]; rfl
 ·rw [List.getElem?_eq_none (by rw [List.length_take]; omega), List.getElem?_eq_none (by rw [wO]; omega)]
theorem adS {l : List qc} {n : Nat} (h : l.length ≤ n) : l ++ List.replicate (n - l.length) (zb 0 0 0) = yP l n := by
 refine List.ext_getElem? fun i => ?_
 by_cases hi : i < n
 ·rw [Wf l hi]
  by_cases h2 : i < l.length
  ·obtain ⟨d, hd⟩ := qm h2
   rw [List.getElem?_append_left h2, hd]; rfl
  ·rw [List.getElem?_append_right (by omega), List.getElem?_replicate, if_pos (by omega), List.getElem?_eq_none (by omega)]; rfl
 ·rw [List.getElem?_eq_none (by simp only [List.length_append, List.length_replicate]; omega), List.getElem?_eq_none (by rw [wO]; omega)]
theorem afa {l : List qc} (hl : l.length ≤ 1000000) (n : Int) : KS l n = some (zu (yP l (kT n))) := by
 have hn := Vv n
 have hm := a2l (l := yP l (kT n)) (by rw [wO]; omega)
 unfold KS
 rw [a5a]
 by_cases h : kT n ≤ l.length
 ·have e := afd h
  simp (disch := omega) only [qe, q9, cond_true, Option.bind_some, Int.toNat_natCast, List.length_append, decide_true, true_and, e, hm]
 ·have e := adS (l := l) (n := kT n) (by omega)
  have hw : IntKind.i64.wrap (((kT n : Nat) : Int) - ((l.length : Nat) : Int)) = ((kT n - l.length : Nat) : Int) := by rw [q9 (by omega) (by omega)]; omega
  have hb := JT (kT n - l.length) (by omega) 0 0 0
  have hcl := yx l hl
  have e2 := wO l (kT n)
  simp (disch := omega) only [qe, qk, cond_true, cond_false, Option.bind_some, Int.toNat_natCast, List.length_append, decide_true, true_and, hw, hcl, hb, e, hm, List.length_replicate]
theorem agH {l : List qc} (hl : l.length ≤ 1000000) (n : Int) : Yf l n = some (zu (yP l (kT n))) := by
 have hn := Vv n
 unfold Yf
 have hT := wO l (kT n)
 have : Vq ((l, (n, (0 : Int))), []) = some (zu (yP l (kT n))) := by
  refine zk (st := fun i => ((l, (n, ((i : Nat) : Int))), (yP l (kT n)).take i)) (n := kT n) (fun i hi => ?_) ?_ 0 (by omega)
  ·have ht : ((yP l (kT n)).take i).length = i := by rw [List.length_take, hT]; omega
   have ht1 : ((yP l (kT n)).take (i + 1)).length = i + 1 := by rw [List.length_take, hT]; omega
   have e : ((i : Int) + 1) = ((i + 1 : Nat) : Int) := by omega
   have hg := Wf l hi
   show kx _ _ = _
   unfold kx
   simp only [zQ, XO]
   by_cases h1 : i < l.length
   ·obtain ⟨d, hd⟩ := qm h1
    rw [hd] at hg
    have e3 : (yP l (kT n)).take i ++ [(d.1, (d.2.1.1, d.2.1.2), d.2.2.1, d.2.2.2.1, d.2.2.2.2.1, d.2.2.2.2.2)] = (yP l (kT n)).take (i + 1) := (kn hg).symm
    simp (disch := omega) only [qe, q9, cond_true, Option.bind_some, Int.toNat_natCast, List.length_append, List.length_cons, List.length_nil, decide_true, true_and, hd, ht, e3, e]
   ·have hn0 : l[i]? = none := List.getElem?_eq_none (by omega)
    rw [hn0] at hg
    have e3 : (yP l (kT n)).take i ++ [((32 : Int), ((0 : Int), (0 : Int)), (1 : Int), (0 : Int), (0 : Int), (0 : Int))] = (yP l (kT n)).take (i + 1) := (kn hg).symm
    simp (disch := omega) only [qe, qk, q9, cond_true, cond_false, Option.bind_some, Int.toNat_natCast, List.length_append, List.length_cons, List.length_nil, decide_true, true_and, ht, e3, e]
  ·show kx _ _ = _
   unfold kx
   have ht : (yP l (kT n)).take (kT n) = yP l (kT n) := List.take_of_length_le (by rw [hT]; omega)
   have hm := ua (l := yP l (kT n)) (by rw [hT]; omega)
   simp only [zQ, XO]
   simp (disch := omega) only [qe, qk, q9, cond_true, cond_false, Option.bind_some, Int.toNat_natCast, List.length_append, List.length_cons, List.length_nil, decide_true, true_and, ht, hm]
 rw [this]
 rfl
def a3P (l : List qc) (i : Nat) : Bool := match l[i]? with
 | none => true
 | some c => zf c && (!zB l i && (if c.2.2.1 = 0 then (match l[i - 1]? with
  | some d => d.2.2.2.1 == c.2.2.2.1 && (d.2.2.2.2.1 == c.2.2.2.2.1 && d.2.2.2.2.2 == c.2.2.2.2.2)
  | none => false) else true))
def zd (l : List qc) : Bool := (List.range l.length).all (a3P l)
theorem Yc (a b : Int) : (a == b) = (b == a) := by rw [Qs, Qs]; exact decide_eq_decide.2 eq_comm
theorem aaa {l : List qc} {c : qc} (h : l[0]? = some c) (hw : c.2.2.1 = 0) : zB l 0 = true := by
 unfold zB; simp only [h]; rw [if_neg (by omega), if_pos hw]; rfl
theorem ahu (a b : List qc) (c d : Int) : wl (a, b, c, d) = unr (ku a b c d) wl := jW _ _
theorem ahw (a : List qc) (d : Int) : wM (a, d) = unr (kM a d) wM := jW _ _
theorem a62 {l : List qc} (hl : l.length ≤ 1000000) (ok : ∀ c ∈ l, OkC c) : ∀ (k i : Nat), k = l.length - i → i ≤ l.length → wl (l, l, (l.length : Int), (i : Int)) = some ((List.range' i k).all (a3P l)) := by
 intro k
 induction k with
 | zero =>
  intro i hk hi
  rw [ahu]
  unfold ku
  simp (disch := omega) only [qe, qk, q9, cond_true, cond_false, Int.toNat_natCast, zC]
  rfl
 | succ k ih =>
  intro i hk hi
  have hil : i < l.length := by omega
  obtain ⟨c, hc⟩ := qm hil
  have e : ((i : Int) + 1) = ((i + 1 : Nat) : Int) := by omega
  have e2 : ((i : Int) - 1).toNat = i - 1 := by omega
  have hoc := uz (ok c (List.mem_of_getElem? hc))
  have ha := v5 hl hil
  rw [List.range'_succ, List.all_cons, ahu]
  unfold ku
  have hok : a3P l i = (zf c && (!zB l i && (if c.2.2.1 = 0 then (match l[i - 1]? with
   | some d => d.2.2.2.1 == c.2.2.2.1 && (d.2.2.2.2.1 == c.2.2.2.2.1 && d.2.2.2.2.2 == c.2.2.2.2.2)
   | none => false) else true))) := by unfold a3P; simp only [hc]
  rw [hok]
  cases hr : zf c
  ·simp (disch := omega) only [qe, q9, cond_true, Option.bind_some, Int.toNat_natCast, Bool.not_false, zC, hc, hoc, hr]
   rfl
  ·cases hal : zB l i
   ·by_cases hw : c.2.2.1 = 0
    ·have hi0 : 0 < i := by
      rcases Nat.eq_zero_or_pos i with h0 | h0
      ·subst h0; rw [aaa hc hw] at hal; cases hal
      ·exact h0
     obtain ⟨d, hd⟩ := qm (l := l) (i := i - 1) (by omega)
     rw [if_pos hw]
     simp only [hd]
     cases hp : (d.2.2.2.1 == c.2.2.2.1 && (d.2.2.2.2.1 == c.2.2.2.2.1 && d.2.2.2.2.2 == c.2.2.2.2.2))
     ·simp (disch := omega) only [qe, ze, q9, cond_true, cond_false, Option.bind_some, Int.toNat_natCast, Bool.not_true, Bool.not_false, zC, hc, hoc, hr, ha, hal, hd, e2, Bool.and_true, hp]
      rfl
     ·simp (disch := omega) only [qe, ze, q9, cond_true, cond_false, Option.bind_some, Int.toNat_natCast, Bool.not_true, Bool.not_false, z6, hc, hoc, hr, ha, hal, hd, e2, e, Bool.and_true, hp]
      rw [ih (i + 1) (by omega) (by omega)]
      rfl
    ·rw [if_neg hw]
     simp (disch := omega) only [qe, qL, q9, cond_true, cond_false, Option.bind_some, Int.toNat_natCast, Bool.not_true, Bool.not_false, z6, hc, hoc, hr, ha, hal, e]
     rw [ih (i + 1) (by omega) (by omega)]
     rfl
   ·simp (disch := omega) only [qe, q9, cond_true, cond_false, Option.bind_some, Int.toNat_natCast, Bool.not_true, zC, hc, hoc, hr, ha, hal]
    rfl
theorem a6C {l : List qc} (hl : l.length ≤ 1000000) (ok : ∀ c ∈ l, OkC c) : wR l = some (zd l) := by
 unfold wR zd
 have := a62 hl ok l.length 0 (by omega) (by omega)
 rw [← List.range_eq_range'] at this
 rw [show ((0 : Nat) : Int) = 0 from rfl] at this
 rw [this]
 rfl
theorem a5x {l : List qc} (hl : l.length ≤ 1000000) (ok : ∀ c ∈ l, OkC c) : ∀ (k i : Nat), k = l.length - i → i ≤ l.length → wM (l, (i : Int)) = some ((List.range' i k).all (a3P l)) := by
 intro k
 induction k with
 | zero =>
  intro i hk hi
  rw [ahw]
  unfold kM
  simp (disch := omega) only [qe, qk, q9, cond_true, cond_false, Int.toNat_natCast, zC]
  rfl
 | succ k ih =>
  intro i hk hi
  have hil : i < l.length := by omega
  obtain ⟨c, hc⟩ := qm hil
  have e : ((i : Int) + 1) = ((i + 1 : Nat) : Int) := by omega
  have e2 : ((i : Int) - 1).toNat = i - 1 := by omega
  have hoc := a1t (ok c (List.mem_of_getElem? hc))
  have ha := VL hl hil
  rw [List.range'_succ, List.all_cons, ahw]
  unfold kM
  have hok : a3P l i = (zf c && (!zB l i && (if c.2.2.1 = 0 then (match l[i - 1]? with
   | some d => d.2.2.2.1 == c.2.2.2.1 && (d.2.2.2.2.1 == c.2.2.2.2.1 && d.2.2.2.2.2 == c.2.2.2.2.2)
   | none => false) else true))) := by unfold a3P; simp only [hc]
  rw [hok]
  cases hr : zf c
  ·simp (disch := omega) only [qe, q9, cond_true, Option.bind_some, Int.toNat_natCast, Bool.not_false, zC, hc, hoc, hr]
   rfl
  ·cases hal : zB l i
   ·by_cases hw : c.2.2.1 = 0
    ·have hi0 : 0 < i := by
      rcases Nat.eq_zero_or_pos i with h0 | h0
      ·subst h0; rw [aaa hc hw] at hal; cases hal
      ·exact h0
     obtain ⟨d, hd⟩ := qm (l := l) (i := i - 1) (by omega)
     rw [if_pos hw]
     simp only [hd]
     cases hp : (d.2.2.2.1 == c.2.2.2.1 && (d.2.2.2.2.1 == c.2.2.2.2.1 && d.2.2.2.2.2 == c.2.2.2.2.2))
     ·simp (disch := omega) only [qe, ze, q9, cond_true, cond_false, Option.bind_some, Int.toNat_natCast, Bool.not_true, Bool.not_false, zC, hc, hoc, hr, ha, hal, hd, e2, Bool.and_true, Yc c.2.2.2.1, Yc c.2.2.2.2.1, Yc c.2.2.2.2.2, hp]
      rfl
     ·simp (disch := omega) only [qe, ze, q9, cond_true, cond_false, Option.bind_some, Int.toNat_natCast, Bool.not_true, Bool.not_false, z6, hc, hoc, hr, ha, hal, hd, e2, e, Bool.and_true, Yc c.2.2.2.1, Yc c.2.2.2.2.1, Yc c.2.2.2.2.2, hp]
      rw [ih (i + 1) (by omega) (by omega)]
      rfl
    ·rw [if_neg hw]
     simp (disch := omega) only [qe, qL, q9, cond_true, cond_false, Option.bind_some, Int.toNat_natCast, Bool.not_true, Bool.not_false, z6, hc, hoc, hr, ha, hal, e]
     rw [ih (i + 1) (by omega) (by omega)]
     rfl
   ·simp (disch := omega) only [qe, q9, cond_true, cond_false, Option.bind_some, Int.toNat_natCast, Bool.not_true, zC, hc, hoc, hr, ha, hal]
    rfl
theorem a8B {l : List qc} (hl : l.length ≤ 1000000) (ok : ∀ c ∈ l, OkC c) : Zp l = some (zd l) := by
 unfold Zp zd
 have := a5x hl ok l.length 0 (by omega) (by omega)
 rw [← List.range_eq_range'] at this
 rw [show ((0 : Nat) : Int) = 0 from rfl] at this
 rw [this]
 rfl
end Go.Sim
set_option maxRecDepth 100000
set_option maxHeartbeats 4000000
namespace Go.Sim
theorem yq (l : List qc) : zd l = true ↔ ∀ (i : Nat) (c : qc), l[i]? = some c → zf c = true ∧ zB l i = false ∧ (c.2.2.1 = 0 → ∃ d, l[i - 1]? = some d ∧ d.2.2.2 = c.2.2.2) := by
 unfold zd
 rw [List.all_eq_true]
 constructor
 ·intro h i c hc
  have hi : i < l.length := (List.getElem?_eq_some_iff.1 hc).1
  have := h i (List.mem_range.2 hi)
  unfold a3P at this
  simp only [hc, Bool.and_eq_true, Bool.not_eq_true'] at this
  refine ⟨this.1, this.2.1, fun hw => ?_⟩
  have h2 := this.2.2
  rw [if_pos hw] at h2
  split at h2
  ·rename_i d hd
   simp only [Bool.and_eq_true, beq_iff_eq] at h2
   exact ⟨d, hd, Prod.ext h2.1 (Prod.ext h2.2.1 h2.2.2)⟩
  ·cases h2
 ·intro h i hi
  have hi := List.mem_range.1 hi
  obtain ⟨c, hc⟩ := qm hi
  obtain ⟨h1, h2, h3⟩ := h i c hc
  unfold a3P
  simp only [hc, h1, h2, Bool.not_false, Bool.true_and]
  split
  ·rename_i hw
   obtain ⟨d, hd, hp⟩ := h3 hw
   simp only [hd, hp]
   simp
  ·rfl
def ae3 (l : List qc) : Prop := ∀ (i : Nat) (c d : qc), l[i]? = some c → l[i + 1]? = some d → c.2.2.1 = 2 → d.2.2.1 = 0 → c.2.2.2 = d.2.2.2
theorem YZ {l : List qc} (h : zd l = true) : ae3 l := fun i c d hc hd _ hw => by
 obtain ⟨_, _, h3⟩ := (yq l).1 h (i + 1) d hd
 obtain ⟨e, he, hp⟩ := h3 hw
 rw [Nat.add_sub_cancel, hc] at he
 cases he
 exact hp
theorem WU {l : List qc} (h : zd l = true) : ∀ c ∈ l, zf c = true := fun c hc => by
 obtain ⟨i, hi⟩ := List.mem_iff_getElem?.1 hc
 exact ((yq l).1 h i c hi).1
theorem aiv : jz 32 = 1 := by unfold jz; simp [vL, inR, vb, ZX]
theorem vy (a b c : Int) : (zb a b c).2.2.1 ≠ 2 := (by decide : (1 : Int) ≠ 2)
theorem Kg (a b c : Int) : (zb a b c).2.2.1 ≠ 0 := (by decide : (1 : Int) ≠ 0)
theorem ZG {a b c : Int} (h : QG a b c = true) : zf (zb a b c) = true := by
 unfold zf zb; simp [h, aiv]
theorem a1Y {c : qc} (h : zf c = true) : QG c.2.2.2.1 c.2.2.2.2.1 c.2.2.2.2.2 = true := by
 unfold zf at h; simp only [Bool.and_eq_true] at h; exact h.1
theorem a4g {l : List qc} {i : Nat} {c : qc} (h : l[i]? = some c) (hw : c.2.2.1 = 2) : zB l i = false ↔ ∃ d, l[i + 1]? = some d ∧ d.2.2.1 = 0 := by
 unfold zB
 simp only [h]
 rw [if_pos hw]
 cases hd : l[i + 1]? with
 | none => simp
 | some d => simp
theorem a3Q {l : List qc} {i : Nat} {c : qc} (h : l[i]? = some c) (hw : c.2.2.1 = 0) : zB l i = false ↔ 0 < i ∧ ∃ d, l[i - 1]? = some d ∧ d.2.2.1 = 2 := by
 unfold zB
 simp only [h]
 rw [if_neg (by omega), if_pos hw]
 by_cases h0 : i = 0
 ·simp [h0]
 ·rw [if_neg h0]
  cases hd : l[i - 1]? with
  | none => simp
  | some d => simp; omega
theorem a3F {l : List qc} {i : Nat} {c : qc} (h : l[i]? = some c) (h2 : c.2.2.1 ≠ 2) (h0 : c.2.2.1 ≠ 0) : zB l i = false := by
 unfold zB
 simp only [h]
 rw [if_neg h2, if_neg h0]
theorem VH {l : List qc} {i : Nat} {c : qc} (h : l[i]? = some c) (ha : zB l i = false) : (zu l)[i]? = some c := by
 rw [vS h]; simp [Yp, ha]
theorem YN {l : List qc} (hr : ∀ c ∈ l, zf c = true) (hp : ae3 l) : zd (zu l) = true := by
 refine (yq _).2 fun i c hc => ?_
 have hi : i < l.length := by have := (List.getElem?_eq_some_iff.1 hc).1; rwa [zY] at this
 obtain ⟨d, hd⟩ := qm hi
 have hdr := hr d (List.mem_of_getElem? hd)
 cases ha : zB l i
 ·have hk := VH hd ha
  rw [hk] at hc; cases hc
  by_cases h2 : c.2.2.1 = 2
  ·obtain ⟨e, he, hw⟩ := (a4g hd h2).1 ha
   have hk2 : (zu l)[i + 1]? = some e := VH he ((a3Q he hw).2 ⟨by omega, c, by simpa using hd, h2⟩)
   exact ⟨hdr, (a4g hk h2).2 ⟨e, hk2, hw⟩, fun q => by omega⟩
  ·by_cases h0 : c.2.2.1 = 0
   ·obtain ⟨hpos, e, he, hw⟩ := (a3Q hd h0).1 ha
    have hs : i - 1 + 1 = i := by omega
    have hk2 : (zu l)[i - 1]? = some e := VH he ((a4g he hw).2 ⟨c, by rw [hs]; exact hd, h0⟩)
    exact ⟨hdr, (a3Q hk h0).2 ⟨hpos, e, hk2, hw⟩, fun _ => ⟨e, hk2, hp (i - 1) e c he (by rw [hs]; exact hd) hw h0⟩⟩
   ·exact ⟨hdr, a3F hk h2 h0, fun q => absurd q h0⟩
 ·have hk : (zu l)[i]? = some (zb d.2.2.2.1 d.2.2.2.2.1 d.2.2.2.2.2) := by rw [vS hd]; simp [Yp, ha]
  rw [hk] at hc; cases hc
  exact ⟨ZG (a1Y hdr), a3F hk (vy _ _ _) (Kg _ _ _), fun q => absurd q (Kg _ _ _)⟩
theorem a8g {c : qc} (h : zf c = true) : zf (Jv c) = true := by
 have := a1Y h
 unfold zf Jv
 simp [this]
theorem abW {l : List qc} {n : Nat} {c : qc} (h : zd l = true) (hc : zf c = true) (hw : c.2.2.1 ≠ 0) (hn : n + c.2.2.1.toNat ≤ l.length) (hw0 : 0 ≤ c.2.2.1) : zd (zu (w9 l n c)) = true := by
 have hw2 := a2E hc
 have hlen := ux l n c
 have get : ∀ (i : Nat) (d : qc), (w9 l n c)[i]? = some d → (i = n ∧ d = c) ∨ (i = n + 1 ∧ c.2.2.1 = 2 ∧ d = Jv c) ∨ (i ≠ n ∧ (c.2.2.1 = 2 → i ≠ n + 1) ∧ l[i]? = some d) := by
  intro i d hd
  unfold w9 at hd
  split at hd
  ·rename_i h2
   rw [List.getElem?_set] at hd
   split at hd
   ·rename_i hi
    split at hd
    ·cases hd; exact .inr (.inl ⟨hi.symm, h2, rfl⟩)
    ·cases hd
   ·rename_i hi
    rw [List.getElem?_set] at hd
    split at hd
    ·rename_i hi2
     split at hd
     ·cases hd; exact .inl ⟨hi2.symm, rfl⟩
     ·cases hd
    ·rename_i hi2
     exact .inr (.inr ⟨fun q => hi2 q.symm, fun _ q => hi q.symm, hd⟩)
  ·rename_i h2
   rw [List.getElem?_set] at hd
   split at hd
   ·rename_i hi2
    split at hd
    ·cases hd; exact .inl ⟨hi2.symm, rfl⟩
    ·cases hd
   ·rename_i hi2
    exact .inr (.inr ⟨fun q => hi2 q.symm, fun q => absurd q h2, hd⟩)
 refine YN (fun d hd => ?_) fun i d e hd he h2 h0 => ?_
 ·obtain ⟨i, hi⟩ := List.mem_iff_getElem?.1 hd
  rcases get i d hi with ⟨_, rfl⟩ | ⟨_, _, rfl⟩ | ⟨_, _, q⟩
  ·exact hc
  ·exact a8g hc
  ·exact WU h d (List.mem_of_getElem? q)
 ·rcases get i d hd with ⟨hi, rfl⟩ | ⟨hi, hw', rfl⟩ | ⟨hi1, hi2, q⟩
  ·rcases get (i + 1) e he with ⟨hj, rfl⟩ | ⟨hj, hw', rfl⟩ | ⟨hj1, hj2, q⟩
   ·omega
   ·rfl
   ·exact absurd (by omega) (hj2 h2)
  ·have : (Jv c).2.2.1 = 0 := rfl
   omega
  ·rcases get (i + 1) e he with ⟨hj, rfl⟩ | ⟨hj, hw', rfl⟩ | ⟨hj1, hj2, q2⟩
   ·exact absurd h0 hw
   ·exact absurd (by omega) hi1
   ·exact YZ h i d e q q2 h2 h0
theorem a7D {l : List qc} {k : Int} {c : qc} (h : zd l = true) (hc : OkC c) : zd (jY l k c).1 = true := by
 have hw := hc.w
 simp only [u8r] at hw
 unfold jY
 split
 ·rename_i q
  exact abW h q.2.1 q.1 (by omega) hw.1
 ·exact h
theorem abG {l : List qc} {f t a b c : Int} (h : zd l = true) (hp : QG a b c = true) : zd (zu (wt l f t a b c)) = true := by
 have get : ∀ (i : Nat) (d : qc), (wt l f t a b c)[i]? = some d → d = zb a b c ∨ l[i]? = some d := by
  intro i d hd
  have hi : i < l.length := by have := (List.getElem?_eq_some_iff.1 hd).1; rwa [Ku] at this
  obtain ⟨e, he⟩ := qm hi
  rw [Vs he] at hd
  cases hd
  split
  ·exact .inl rfl
  ·exact .inr he
 refine YN (fun d hd => ?_) fun i d e hd he h2 h0 => ?_
 ·obtain ⟨i, hi⟩ := List.mem_iff_getElem?.1 hd
  rcases get i d hi with rfl | q
  ·exact ZG hp
  ·exact WU h d (List.mem_of_getElem? q)
 ·rcases get i d hd with rfl | q
  ·exact absurd h2 (vy _ _ _)
  ·rcases get (i + 1) e he with rfl | q2
   ·exact absurd h0 (Kg _ _ _)
   ·exact YZ h i d e q q2 h2 h0
theorem ahx : QG 0 0 0 = true := by decide
theorem aaz {l : List qc} {n : Nat} (h : zd l = true) : zd (zu (yP l n)) = true := by
 have get : ∀ (i : Nat) (d : qc), (yP l n)[i]? = some d → d = zb 0 0 0 ∨ l[i]? = some d := by
  intro i d hd
  have hi : i < n := by have := (List.getElem?_eq_some_iff.1 hd).1; rwa [wO] at this
  rw [Wf l hi] at hd
  cases hd
  cases hq : l[i]? with
  | none => exact .inl rfl
  | some e => exact .inr rfl
 refine YN (fun d hd => ?_) fun i d e hd he h2 h0 => ?_
 ·obtain ⟨i, hi⟩ := List.mem_iff_getElem?.1 hd
  rcases get i d hi with rfl | q
  ·exact ZG ahx
  ·exact WU h d (List.mem_of_getElem? q)
 ·rcases get i d hd with rfl | q
  ·exact absurd h2 (vy _ _ _)
  ·rcases get (i + 1) e he with rfl | q2
   ·exact absurd h0 (Kg _ _ _)
   ·exact YZ h i d e q q2 h2 h0
theorem a8L (n : Int) : zd (kq n) = true := by
 have get : ∀ (i : Nat) (d : qc), (kq n)[i]? = some d → d = zb 0 0 0 := by
  intro i d hd
  unfold kq at hd
  rw [List.getElem?_replicate] at hd
  split at hd
  ·cases hd; rfl
  ·cases hd
 refine (yq _).2 fun i d hd => ?_
 have := get i d hd
 subst this
 exact ⟨ZG ahx, a3F hd (vy _ _ _) (Kg _ _ _), fun q => absurd q (Kg _ _ _)⟩
theorem ahh (c : qc) (m : Int) : (jg c m).1.2.2 = c.2.2 := by
 unfold jg; split
 ·split
  ·rfl
  ·split <;> rfl
 ·rfl
theorem a6M {c : qc} {m : Int} (h : zf c = true) : zf (jg c m).1 = true := by
 obtain ⟨r, ⟨m1, m2⟩, w, p1, p2, p3⟩ := c
 unfold jg
 split
 ·rename_i q
  obtain ⟨q1, q2⟩ := q
  have hm : m ≠ 0 := fun e => by rw [e, ahl] at q1; omega
  have hw0 : w ≠ 0 := by simp only at q2; omega
  unfold zf at h ⊢
  simp only [Bool.and_eq_true] at h
  obtain ⟨h1, h2⟩ := h
  rw [if_neg hw0] at h2
  simp only [Bool.and_eq_true] at h2
  obtain ⟨h3, h4, h5⟩ := h2
  split
  ·rename_i e1
   simp only at e1
   subst e1
   simp only [if_true, beq_iff_eq] at h5
   subst h5
   simp only [h1, h3, h4, q1, Bool.true_and]
   simp
  ·rename_i e1
   simp only at e1
   rw [if_neg e1] at h5
   simp only [Bool.and_eq_true] at h5
   split
   ·rename_i e2
    simp only [h1, h3, h4, h5.1, q1, Bool.true_and]
    simp
   ·simp only [h1, h3, h4, h5.1, h5.2, Bool.true_and]
 ·exact h
theorem a63 {l l' : List qc} (h : ∀ i : Nat, (l[i]?.map fun c : qc => c.2.2) = (l'[i]?.map fun c : qc => c.2.2)) (i : Nat) : zB l i = zB l' i := by
 have h0 := h i
 have h1 := h (i + 1)
 have h2 := h (i - 1)
 unfold zB
 cases a0 : l[i]? with
 | none =>
  cases b0 : l'[i]? with
  | none => rfl
  | some c' => rw [a0, b0] at h0; cases h0
 | some c =>
  cases b0 : l'[i]? with
  | none => rw [a0, b0] at h0; cases h0
  | some c' =>
   rw [a0, b0] at h0
   have e0 : c.2.2 = c'.2.2 := by simpa using h0
   simp only [e0]
   have k1 : (match l[i + 1]? with
    | some d => d.2.2.1 != 0
    | none => true) = (match l'[i + 1]? with
    | some d => d.2.2.1 != 0
    | none => true) := by
    cases a1 : l[i + 1]? with
    | none => cases b1 : l'[i + 1]? with
     | none => rfl
     | some d' => rw [a1, b1] at h1; cases h1
    | some d => cases b1 : l'[i + 1]? with
     | none => rw [a1, b1] at h1; cases h1
     | some d' =>
      rw [a1, b1] at h1
      have e1 : d.2.2 = d'.2.2 := by simpa using h1
      simp only [e1]
   have k2 : (match l[i - 1]? with
    | some d => d.2.2.1 != 2
    | none => true) = (match l'[i - 1]? with
    | some d => d.2.2.1 != 2
    | none => true) := by
    cases a1 : l[i - 1]? with
    | none => cases b1 : l'[i - 1]? with
     | none => rfl
     | some d' => rw [a1, b1] at h2; cases h2
    | some d => cases b1 : l'[i - 1]? with
     | none => rw [a1, b1] at h2; cases h2
     | some d' =>
      rw [a1, b1] at h2
      have e1 : d.2.2 = d'.2.2 := by simpa using h2
      simp only [e1]
   by_cases q2 : c'.2.2.1 = 2
   ·rw [if_pos q2, if_pos q2]; exact k1
   ·rw [if_neg q2, if_neg q2]
    by_cases q0 : c'.2.2.1 = 0
    ·rw [if_pos q0, if_pos q0]
     by_cases qi : i = 0
     ·rw [if_pos qi, if_pos qi]
     ·rw [if_neg qi, if_neg qi]; exact k2
    ·rw [if_neg q0, if_neg q0]
theorem abg {l : List qc} {n : Nat} {c d : qc} (h : zd l = true) (hc : l[n]? = some c) (hd : zf d = true) (he : d.2.2 = c.2.2) : zd (l.set n d) = true := by
 have hn : n < l.length := (List.getElem?_eq_some_iff.1 hc).1
 have hg : ∀ i : Nat, ((l.set n d)[i]?.map fun c : qc => c.2.2) = (l[i]?.map fun c : qc => c.2.2) := by
  intro i
  by_cases q : i = n
  ·subst q; rw [List.getElem?_set_self hn, hc]; simp [he]
  ·rw [List.getElem?_set_ne (Ne.symm q)]
 have back : ∀ (i : Nat) (e : qc), (l.set n d)[i]? = some e → ∃ e', l[i]? = some e' ∧ e'.2.2 = e.2.2 ∧ (e = e' ∨ e = d) := by
  intro i e hq
  by_cases q : i = n
  ·subst q; rw [List.getElem?_set_self hn] at hq; cases hq; exact ⟨c, hc, he.symm, .inr rfl⟩
  ·rw [List.getElem?_set_ne (Ne.symm q)] at hq; exact ⟨e, hq, rfl, .inl rfl⟩
 refine (yq _).2 fun i e hq => ?_
 obtain ⟨e', h1, h2, h3⟩ := back i e hq
 obtain ⟨r1, r2, r3⟩ := (yq l).1 h i e' h1
 refine ⟨?_, (a63 hg i).trans r2, fun hw => ?_⟩
 ·rcases h3 with rfl | rfl
  ·exact r1
  ·exact hd
 ·obtain ⟨f, f1, f2⟩ := r3 (by rw [h2]; exact hw)
  have := hg (i - 1)
  rw [f1] at this
  cases hx : (l.set n d)[i - 1]? with
  | none => rw [hx] at this; cases this
  | some x =>
   rw [hx] at this
   have e3 : x.2.2 = f.2.2 := by simpa using this
   exact ⟨x, rfl, by rw [e3, f2, h2]⟩
theorem a5k {l : List qc} {k m : Int} (h : zd l = true) : zd (wg l k m).1 = true := by
 unfold wg
 split
 ·split
  ·rename_i c hc
   exact abg h hc (a6M (WU h c (List.mem_of_getElem? hc))) (ahh c m)
  ·exact h
 ·exact h
end Go.Sim

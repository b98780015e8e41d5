/- Part 9 of the claim TapeParses: R1, R2, R3, R4, S2, S3, S4 -/
import Derived.Test.YtmcboobmnipjlaaProg
import Derived.Test.YtmcboobmnipjlaaW8
import Derived.Test.YtmcboobmnipjlaaW7
set_option linter.unusedSimpArgs false
set_option linter.unusedVariables false
set_option linter.defProp false
/- Models of functions, printed by program (tm.py). -/
set_option maxRecDepth 100000
set_option maxHeartbeats 0
set_option linter.unusedVariables false
namespace Go.Sim
open Go.Proofs
/-! prolepsisref01.Bytes -/
noncomputable def m_r01_Bytes_l1_step (x1 : Int) (x2 : (List Int)) : Option ((Int × (List Int)) ⊕ (List Int)) :=
  bif decide ((128 : Int) ≤ x1) then
    bif decide ((1 : Nat) = (1 : Nat)) then
      bif decide (x2.length = x2.length ∧ x2.length + (1 : Nat) ≤ (140737488355328 : Nat)) then
        bif decide (x2.length + (1 : Nat) = (x2 ++ [Go.IntKind.u8.wrap (Go.IntKind.u64.wrap ((128 : Int) + Int.tmod x1 (128 : Int)))]).length) then
          some (Sum.inl ((Go.IntKind.u64.wrap (Int.tdiv x1 (128 : Int))), (x2 ++ [Go.IntKind.u8.wrap (Go.IntKind.u64.wrap ((128 : Int) + Int.tmod x1 (128 : Int)))])))
        else none
      else none
    else none
  else bif decide ((1 : Nat) = (1 : Nat)) then
      bif decide (x2.length = x2.length ∧ x2.length + (1 : Nat) ≤ (140737488355328 : Nat)) then
        bif decide ((x2 ++ [Go.IntKind.u8.wrap x1]).length = x2.length + (1 : Nat)) then
          some (Sum.inr (x2 ++ [Go.IntKind.u8.wrap x1]))
        else none
      else none
    else none
noncomputable def m_r01_Bytes_l1 : (Int × (List Int)) → Option (List Int) := loopM fun s => m_r01_Bytes_l1_step s.1 s.2
noncomputable def m_r01_Bytes (x0 : Int) : Option (List Int) :=
  Option.bind (m_r01_Bytes_l1 (x0, [])) fun (x1 : (List Int)) =>
    some x1
noncomputable def e_r01_Bytes : TEnt := ⟨61, .int .u64, [], [(.sl (.int .u8), [])], fun s => m_r01_Bytes s⟩
theorem e_r01_Bytes_ok : EntT Try.prog e_r01_Bytes := ent_of (tab := []) (loops := [(586, [0, 3], (.cons (.int .u64) (.own 0)), [.li (.int .u8) 5 false])]) (joins := []) _ (by intro e he; simp at he) (fun s => by kernel_rfl) (by kernel_rfl)
/-! prolepsisref01.All -/
noncomputable def m_r01_All_l1_step (x1 : ((List Int) × Int)) (x2 : (List Int)) : Option ((((List Int) × Int) × (List Int)) ⊕ (List Int)) :=
  bif decide (x1.2 < (↑x1.1.length : Int)) then
    bif decide ((0 : Int) ≤ x1.2) then
      Option.bind (x1.1[x1.2.toNat]?) fun (x3 : Int) =>
        Option.bind (m_r01_Bytes x3) fun (x4 : (List Int)) =>
          bif decide (x2.length = x2.length ∧ x2.length + List.length x4 ≤ (140737488355328 : Nat)) then
            bif decide (x2.length + List.length x4 = (x2 ++ x4).length) then
              some (Sum.inl ((x1.1, (Go.IntKind.i64.wrap (x1.2 + (1 : Int)))), (x2 ++ x4)))
            else none
          else none
    else none
  else bif decide (x2.length = x2.length) then
      some (Sum.inr x2)
    else none
noncomputable def m_r01_All_l1 : (((List Int) × Int) × (List Int)) → Option (List Int) := loopM fun s => m_r01_All_l1_step s.1 s.2
noncomputable def m_r01_All (x0 : (List Int)) : Option (List Int) :=
  Option.bind (m_r01_All_l1 ((x0, ((0 : Int))), [])) fun (x1 : (List Int)) =>
    some x1
noncomputable def e_r01_All : TEnt := ⟨60, .sl (.int .u64), [], [(.sl (.int .u8), [])], fun s => m_r01_All s⟩
theorem e_r01_All_ok : EntT Try.prog e_r01_All := ent_of (tab := [e_r01_Bytes]) (loops := [(4682, [0, 3, 4], (.cons (.sl (.int .u64)) (.cons (.own 0) (.int .i64))), [.li (.int .u8) 5 false])]) (joins := []) _ (by
    intro e he
    simp only [List.mem_cons, List.not_mem_nil, or_false] at he
    rcases he with rfl
    · exact e_r01_Bytes_ok) (fun s => by kernel_rfl) (by kernel_rfl)
/-! prolepsisref01.Read -/
noncomputable def m_r01_Read_l1_step (x1 : (List Int)) (x2 : Int) (x3 : Int) (x4 : Int) : Option (((List Int) × (Int × (Int × Int))) ⊕ (Int × (Int × Int))) :=
  bif decide (x4 < (↑(List.length x1) : Int)) then
    bif decide ((0 : Int) ≤ x4) then
      Option.bind (x1[x4.toNat]?) fun (x5 : Int) =>
        bif x4 == (9 : Int) then
          bif decide ((1 : Int) < Go.IntKind.u64.wrap x5) then
            some (Sum.inr (((0 : Int)), (((0 : Int)), ((3 : Int)))))
          else bif decide ((0 : Int) < x4) then
              bif Go.IntKind.u64.wrap x5 == (0 : Int) then
                some (Sum.inr (((0 : Int)), (((0 : Int)), ((3 : Int)))))
              else bif decide (Go.IntKind.u64.wrap x5 < (128 : Int)) then
                  some (Sum.inr ((Go.IntKind.u64.wrap (x2 + Go.IntKind.u64.wrap ((Go.IntKind.u64.wrap x5).tmod (128 : Int) * x3))), ((Go.IntKind.i64.wrap (x4 + (1 : Int))), ((0 : Int)))))
                else some (Sum.inl (x1, ((Go.IntKind.u64.wrap (x2 + Go.IntKind.u64.wrap ((Go.IntKind.u64.wrap x5).tmod (128 : Int) * x3))), ((Go.IntKind.u64.wrap (x3 * (128 : Int))), (Go.IntKind.i64.wrap (x4 + (1 : Int)))))))
            else bif decide (Go.IntKind.u64.wrap x5 < (128 : Int)) then
                some (Sum.inr ((Go.IntKind.u64.wrap (x2 + Go.IntKind.u64.wrap ((Go.IntKind.u64.wrap x5).tmod (128 : Int) * x3))), ((Go.IntKind.i64.wrap (x4 + (1 : Int))), ((0 : Int)))))
              else some (Sum.inl (x1, ((Go.IntKind.u64.wrap (x2 + Go.IntKind.u64.wrap ((Go.IntKind.u64.wrap x5).tmod (128 : Int) * x3))), ((Go.IntKind.u64.wrap (x3 * (128 : Int))), (Go.IntKind.i64.wrap (x4 + (1 : Int)))))))
        else bif decide ((0 : Int) < x4) then
            bif Go.IntKind.u64.wrap x5 == (0 : Int) then
              some (Sum.inr (((0 : Int)), (((0 : Int)), ((3 : Int)))))
            else bif decide (Go.IntKind.u64.wrap x5 < (128 : Int)) then
                some (Sum.inr ((Go.IntKind.u64.wrap (x2 + Go.IntKind.u64.wrap ((Go.IntKind.u64.wrap x5).tmod (128 : Int) * x3))), ((Go.IntKind.i64.wrap (x4 + (1 : Int))), ((0 : Int)))))
              else some (Sum.inl (x1, ((Go.IntKind.u64.wrap (x2 + Go.IntKind.u64.wrap ((Go.IntKind.u64.wrap x5).tmod (128 : Int) * x3))), ((Go.IntKind.u64.wrap (x3 * (128 : Int))), (Go.IntKind.i64.wrap (x4 + (1 : Int)))))))
          else bif decide (Go.IntKind.u64.wrap x5 < (128 : Int)) then
              some (Sum.inr ((Go.IntKind.u64.wrap (x2 + Go.IntKind.u64.wrap ((Go.IntKind.u64.wrap x5).tmod (128 : Int) * x3))), ((Go.IntKind.i64.wrap (x4 + (1 : Int))), ((0 : Int)))))
            else some (Sum.inl (x1, ((Go.IntKind.u64.wrap (x2 + Go.IntKind.u64.wrap ((Go.IntKind.u64.wrap x5).tmod (128 : Int) * x3))), ((Go.IntKind.u64.wrap (x3 * (128 : Int))), (Go.IntKind.i64.wrap (x4 + (1 : Int)))))))
    else none
  else some (Sum.inr (((0 : Int)), (((0 : Int)), ((4 : Int)))))
noncomputable def m_r01_Read_l1 : ((List Int) × (Int × (Int × Int))) → Option (Int × (Int × Int)) := loopM fun s => m_r01_Read_l1_step s.1 s.2.1 s.2.2.1 s.2.2.2
noncomputable def m_r01_Read (x0 : (List Int)) : Option (Int × (Int × Int)) :=
  Option.bind (m_r01_Read_l1 (x0, (((0 : Int)), (((1 : Int)), ((0 : Int)))))) fun (x1 : (Int × (Int × Int))) =>
    some x1
noncomputable def e_r01_Read : TEnt := ⟨70, .sl (.int .u8), [], [(.tup (.cons (.int .u64) (.cons (.int .i64) (.int .i64))), [])], fun s => m_r01_Read s⟩
theorem e_r01_Read_ok : EntT Try.prog e_r01_Read := ent_of (tab := []) (loops := [(37450, [0, 5, 6, 7], (.cons (.sl (.int .u8)) (.cons (.int .u64) (.cons (.int .u64) (.int .i64)))), [])]) (joins := []) _ (by intro e he; simp at he) (fun s => by kernel_rfl) (by kernel_rfl)
/-! prolepsisref01.Number -/
noncomputable def m_r01_Number (x0 : (List Int)) (x1 : Int) (x2 : Int) : Option (((List Int) × (Int × Int)) × Int) :=
  bif x2 != (0 : Int) then
    some ((x0, (x1, x2)), ((0 : Int)))
  else bif decide ((0 : Int) ≤ x1 ∧ Int.toNat x1 ≤ List.length x0) then
      Option.bind (m_r01_Read (List.drop (Int.toNat x1) x0)) fun (x3 : (Int × (Int × Int))) =>
        some ((x0, ((Go.IntKind.i64.wrap (x1 + x3.2.1)), x3.2.2)), x3.1)
    else none
noncomputable def e_r01_Number : TEnt := ⟨52, .agg (.cons (.sl (.int .u8)) (.cons (.int .i64) (.int .i64))), [], [(.tup (.cons (.agg (.cons (.sl (.int .u8)) (.cons (.int .i64) (.int .i64)))) (.int .u64)), [])], fun s => m_r01_Number s.1 s.2.1 s.2.2⟩
theorem e_r01_Number_ok : EntT Try.prog e_r01_Number := ent_of (tab := [e_r01_Read]) (loops := []) (joins := []) _ (by
    intro e he
    simp only [List.mem_cons, List.not_mem_nil, or_false] at he
    rcases he with rfl
    · exact e_r01_Read_ok) (fun s => by kernel_rfl) (by kernel_rfl)
/-! prolepsisref01.Up -/
noncomputable def m_r01_Up (x0 : ((List Int) × (Int × Int))) (x1 : Int) (x2 : Int) : Option (((List Int) × (Int × Int)) × Int) :=
  Option.bind (m_r01_Number x0.1 x0.2.1 x0.2.2) fun (x3 : (((List Int) × (Int × Int)) × Int)) =>
    bif x3.1.2.2 == (0 : Int) then
      bif decide (x1 < (0 : Int)) then
        some ((x0.1, (x0.2.1, x2)), ((0 : Int)))
      else bif decide (Go.IntKind.u64.wrap x1 < x3.2) then
          some ((x0.1, (x0.2.1, x2)), ((0 : Int)))
        else some ((x3.1.1, (x3.1.2.1, x3.1.2.2)), (Go.IntKind.i64.wrap x3.2))
    else some ((x3.1.1, (x3.1.2.1, x3.1.2.2)), (Go.IntKind.i64.wrap x3.2))
noncomputable def e_r01_Up : TEnt := ⟨51, .cons (.agg (.cons (.sl (.int .u8)) (.cons (.int .i64) (.int .i64)))) (.cons (.int .i64) (.int .i64)), [], [(.tup (.cons (.agg (.cons (.sl (.int .u8)) (.cons (.int .i64) (.int .i64)))) (.int .i64)), [])], fun s => m_r01_Up s.1 s.2.1 s.2.2⟩
theorem e_r01_Up_ok : EntT Try.prog e_r01_Up := ent_of (tab := [e_r01_Number]) (loops := []) (joins := []) _ (by
    intro e he
    simp only [List.mem_cons, List.not_mem_nil, or_false] at he
    rcases he with rfl
    · exact e_r01_Number_ok) (fun s => by kernel_rfl) (by kernel_rfl)
/-! prolepsisref01.Take -/
noncomputable def m_r01_Take (x0 : ((List Int) × (Int × Int))) (x1 : Int) : Option (((List Int) × (Int × Int)) × (List Int)) :=
  bif x0.2.2 == (0 : Int) then
    bif decide (x1 < (0 : Int)) then
      some ((x0.1, (x0.2.1, ((4 : Int)))), [])
    else bif decide (Go.IntKind.i64.wrap ((↑x0.1.length : Int) - x0.2.1) < x1) then
        some ((x0.1, (x0.2.1, ((4 : Int)))), [])
      else bif x0.2.2 != (0 : Int) then
          some ((x0.1, (x0.2.1, x0.2.2)), [])
        else bif decide ((0 : Int) ≤ x0.2.1 ∧ x0.2.1 ≤ Go.IntKind.i64.wrap (x0.2.1 + x1) ∧ (Go.IntKind.i64.wrap (x0.2.1 + x1)).toNat ≤ x0.1.length) then
            bif decide ((0 : Nat) = (0 : Nat) ∧ (0 : Nat) + (List.take ((Go.IntKind.i64.wrap (x0.2.1 + x1)).toNat - x0.2.1.toNat) (List.drop x0.2.1.toNat x0.1)).length ≤ (140737488355328 : Nat)) then
              bif decide (([] ++ List.take ((Go.IntKind.i64.wrap (x0.2.1 + x1)).toNat - x0.2.1.toNat) (List.drop x0.2.1.toNat x0.1)).length = (0 : Nat) + (List.take ((Go.IntKind.i64.wrap (x0.2.1 + x1)).toNat - x0.2.1.toNat) (List.drop x0.2.1.toNat x0.1)).length) then
                some ((x0.1, ((Go.IntKind.i64.wrap (x0.2.1 + x1)), x0.2.2)), ([] ++ List.take ((Go.IntKind.i64.wrap (x0.2.1 + x1)).toNat - x0.2.1.toNat) (List.drop x0.2.1.toNat x0.1)))
              else none
            else none
          else none
  else bif x0.2.2 != (0 : Int) then
      some ((x0.1, (x0.2.1, x0.2.2)), [])
    else bif decide ((0 : Int) ≤ x0.2.1 ∧ x0.2.1 ≤ Go.IntKind.i64.wrap (x0.2.1 + x1) ∧ (Go.IntKind.i64.wrap (x0.2.1 + x1)).toNat ≤ x0.1.length) then
        bif decide ((0 : Nat) = (0 : Nat) ∧ (0 : Nat) + (List.take ((Go.IntKind.i64.wrap (x0.2.1 + x1)).toNat - x0.2.1.toNat) (List.drop x0.2.1.toNat x0.1)).length ≤ (140737488355328 : Nat)) then
          bif decide (([] ++ List.take ((Go.IntKind.i64.wrap (x0.2.1 + x1)).toNat - x0.2.1.toNat) (List.drop x0.2.1.toNat x0.1)).length = (0 : Nat) + (List.take ((Go.IntKind.i64.wrap (x0.2.1 + x1)).toNat - x0.2.1.toNat) (List.drop x0.2.1.toNat x0.1)).length) then
            some ((x0.1, ((Go.IntKind.i64.wrap (x0.2.1 + x1)), x0.2.2)), ([] ++ List.take ((Go.IntKind.i64.wrap (x0.2.1 + x1)).toNat - x0.2.1.toNat) (List.drop x0.2.1.toNat x0.1)))
          else none
        else none
      else none
noncomputable def e_r01_Take : TEnt := ⟨53, .cons (.agg (.cons (.sl (.int .u8)) (.cons (.int .i64) (.int .i64)))) (.int .i64), [], [(.tup (.cons (.agg (.cons (.sl (.int .u8)) (.cons (.int .i64) (.int .i64)))) (.sl (.int .u8))), [])], fun s => m_r01_Take s.1 s.2⟩
theorem e_r01_Take_ok : EntT Try.prog e_r01_Take := ent_of (tab := []) (loops := []) (joins := []) _ (by intro e he; simp at he) (fun s => by kernel_rfl) (by kernel_rfl)
/-! prolepsisref01.Same -/
noncomputable def m_r01_Same (x0 : (List Int)) (x1 : (List Int)) : Option Bool :=
  some ((Go.strOfNums x0).toList == (Go.strOfNums x1).toList)
noncomputable def e_r01_Same : TEnt := ⟨29, .cons (.sl (.int .u8)) (.sl (.int .u8)), [], [(.bool, [])], fun s => m_r01_Same s.1 s.2⟩
theorem e_r01_Same_ok : EntT Try.prog e_r01_Same := ent_of (tab := []) (loops := []) (joins := []) _ (by intro e he; simp at he) (fun s => by kernel_rfl) (by kernel_rfl)
/-! prolepsisref07.Size -/
noncomputable def m_r07_Size (x0 : Int) (x1 : Int) : Option Bool :=
  bif decide ((1 : Int) ≤ x0) then
    bif decide (x0 ≤ (512 : Int)) then
      bif decide ((1 : Int) ≤ x1) then
        some (decide (x1 ≤ (512 : Int)))
      else some Bool.false
    else some Bool.false
  else some Bool.false
noncomputable def e_r07_Size : TEnt := ⟨59, .cons (.int .i64) (.int .i64), [], [(.bool, [])], fun s => m_r07_Size s.1 s.2⟩
theorem e_r07_Size_ok : EntT Try.prog e_r07_Size := ent_of (tab := []) (loops := []) (joins := []) _ (by intro e he; simp at he) (fun s => by kernel_rfl) (by kernel_rfl)
/-! num.Read -/
noncomputable def m_num_Read_l1_step (x2 : (List Int)) (x3 : Int) (x4 : Int) : Option (((List Int) × (Int × Int)) ⊕ (Int × (Int × Int))) :=
  bif x4 == (↑(List.length x2) : Int) then
    some (Sum.inr (((0 : Int)), (((0 : Int)), ((4 : Int)))))
  else bif decide ((0 : Int) ≤ x4) then
      Option.bind (x2[x4.toNat]?) fun (x5 : Int) =>
        bif x4 == (9 : Int) then
          bif decide ((1 : Int) < Go.IntKind.u64.wrap x5) then
            some (Sum.inr (((0 : Int)), (((0 : Int)), ((3 : Int)))))
          else bif decide ((0 : Int) < x4) then
              bif Go.IntKind.u64.wrap x5 == (0 : Int) then
                some (Sum.inr (((0 : Int)), (((0 : Int)), ((3 : Int)))))
              else bif decide ((0 : Int) ≤ Go.IntKind.i64.wrap ((7 : Int) * x4)) then
                  bif Go.bits Go.BinOp.and Go.IntKind.u64 (Go.IntKind.u64.wrap x5) (128 : Int) != (0 : Int) then
                    some (Sum.inl (x2, ((Go.bits Go.BinOp.or Go.IntKind.u64 x3 (Go.IntKind.u64.wrap (Go.bits Go.BinOp.and Go.IntKind.u64 (Go.IntKind.u64.wrap x5) (127 : Int) * (2 : Int) ^ Min.min (Go.IntKind.i64.wrap ((7 : Int) * x4)).toNat (64 : Nat)))), (Go.IntKind.i64.wrap (x4 + (1 : Int))))))
                  else some (Sum.inr ((Go.bits Go.BinOp.or Go.IntKind.u64 x3 (Go.IntKind.u64.wrap (Go.bits Go.BinOp.and Go.IntKind.u64 (Go.IntKind.u64.wrap x5) (127 : Int) * (2 : Int) ^ Min.min (Go.IntKind.i64.wrap ((7 : Int) * x4)).toNat (64 : Nat)))), ((Go.IntKind.i64.wrap (x4 + (1 : Int))), ((0 : Int)))))
                else none
            else bif decide ((0 : Int) ≤ Go.IntKind.i64.wrap ((7 : Int) * x4)) then
                bif Go.bits Go.BinOp.and Go.IntKind.u64 (Go.IntKind.u64.wrap x5) (128 : Int) != (0 : Int) then
                  some (Sum.inl (x2, ((Go.bits Go.BinOp.or Go.IntKind.u64 x3 (Go.IntKind.u64.wrap (Go.bits Go.BinOp.and Go.IntKind.u64 (Go.IntKind.u64.wrap x5) (127 : Int) * (2 : Int) ^ Min.min (Go.IntKind.i64.wrap ((7 : Int) * x4)).toNat (64 : Nat)))), (Go.IntKind.i64.wrap (x4 + (1 : Int))))))
                else some (Sum.inr ((Go.bits Go.BinOp.or Go.IntKind.u64 x3 (Go.IntKind.u64.wrap (Go.bits Go.BinOp.and Go.IntKind.u64 (Go.IntKind.u64.wrap x5) (127 : Int) * (2 : Int) ^ Min.min (Go.IntKind.i64.wrap ((7 : Int) * x4)).toNat (64 : Nat)))), ((Go.IntKind.i64.wrap (x4 + (1 : Int))), ((0 : Int)))))
              else none
        else bif decide ((0 : Int) < x4) then
            bif Go.IntKind.u64.wrap x5 == (0 : Int) then
              some (Sum.inr (((0 : Int)), (((0 : Int)), ((3 : Int)))))
            else bif decide ((0 : Int) ≤ Go.IntKind.i64.wrap ((7 : Int) * x4)) then
                bif Go.bits Go.BinOp.and Go.IntKind.u64 (Go.IntKind.u64.wrap x5) (128 : Int) != (0 : Int) then
                  some (Sum.inl (x2, ((Go.bits Go.BinOp.or Go.IntKind.u64 x3 (Go.IntKind.u64.wrap (Go.bits Go.BinOp.and Go.IntKind.u64 (Go.IntKind.u64.wrap x5) (127 : Int) * (2 : Int) ^ Min.min (Go.IntKind.i64.wrap ((7 : Int) * x4)).toNat (64 : Nat)))), (Go.IntKind.i64.wrap (x4 + (1 : Int))))))
                else some (Sum.inr ((Go.bits Go.BinOp.or Go.IntKind.u64 x3 (Go.IntKind.u64.wrap (Go.bits Go.BinOp.and Go.IntKind.u64 (Go.IntKind.u64.wrap x5) (127 : Int) * (2 : Int) ^ Min.min (Go.IntKind.i64.wrap ((7 : Int) * x4)).toNat (64 : Nat)))), ((Go.IntKind.i64.wrap (x4 + (1 : Int))), ((0 : Int)))))
              else none
          else bif decide ((0 : Int) ≤ Go.IntKind.i64.wrap ((7 : Int) * x4)) then
              bif Go.bits Go.BinOp.and Go.IntKind.u64 (Go.IntKind.u64.wrap x5) (128 : Int) != (0 : Int) then
                some (Sum.inl (x2, ((Go.bits Go.BinOp.or Go.IntKind.u64 x3 (Go.IntKind.u64.wrap (Go.bits Go.BinOp.and Go.IntKind.u64 (Go.IntKind.u64.wrap x5) (127 : Int) * (2 : Int) ^ Min.min (Go.IntKind.i64.wrap ((7 : Int) * x4)).toNat (64 : Nat)))), (Go.IntKind.i64.wrap (x4 + (1 : Int))))))
              else some (Sum.inr ((Go.bits Go.BinOp.or Go.IntKind.u64 x3 (Go.IntKind.u64.wrap (Go.bits Go.BinOp.and Go.IntKind.u64 (Go.IntKind.u64.wrap x5) (127 : Int) * (2 : Int) ^ Min.min (Go.IntKind.i64.wrap ((7 : Int) * x4)).toNat (64 : Nat)))), ((Go.IntKind.i64.wrap (x4 + (1 : Int))), ((0 : Int)))))
            else none
    else none
noncomputable def m_num_Read_l1 : ((List Int) × (Int × Int)) → Option (Int × (Int × Int)) := loopM fun s => m_num_Read_l1_step s.1 s.2.1 s.2.2
noncomputable def m_num_Read (x0 : (List Int)) : Option (Int × (Int × Int)) :=
  bif (0 : Int) == (↑x0.length : Int) then
    some (((0 : Int)), (((0 : Int)), ((4 : Int))))
  else Option.bind (x0[(0 : Nat)]?) fun (x1 : Int) =>
      bif Go.bits Go.BinOp.and Go.IntKind.u64 (Go.IntKind.u64.wrap x1) (128 : Int) != (0 : Int) then
        Option.bind (m_num_Read_l1 (x0, ((Go.bits Go.BinOp.or Go.IntKind.u64 (0 : Int) (Go.IntKind.u64.wrap (Go.bits Go.BinOp.and Go.IntKind.u64 (Go.IntKind.u64.wrap x1) (127 : Int) * (1 : Int)))), ((1 : Int))))) fun (x2 : (Int × (Int × Int))) =>
          some x2
      else some ((Go.bits Go.BinOp.or Go.IntKind.u64 (0 : Int) (Go.IntKind.u64.wrap (Go.bits Go.BinOp.and Go.IntKind.u64 (Go.IntKind.u64.wrap x1) (127 : Int) * (1 : Int)))), (((1 : Int)), ((0 : Int))))
noncomputable def e_num_Read : TEnt := ⟨72, .sl (.int .u8), [], [(.tup (.cons (.int .u64) (.cons (.int .i64) (.int .i64))), [])], fun s => m_num_Read s⟩
theorem e_num_Read_ok : EntT Try.prog e_num_Read := ent_of (tab := []) (loops := [(608, [0, 5, 6], (.cons (.sl (.int .u8)) (.cons (.int .u64) (.int .i64))), [])]) (joins := []) _ (by intro e he; simp at he) (fun s => by kernel_rfl) (by kernel_rfl)
/-! num.Bytes -/
noncomputable def m_num_Bytes_l1_step (x4 : (Int × ((List Int) × (Int × Int)))) (x5 : (List Int)) : Option (((Int × ((List Int) × (Int × Int))) × (List Int)) ⊕ ((((List Int) × (Int × Int)) × (List Int)) ⊕ (List Int))) :=
  bif decide ((127 : Int) < x4.1) then
    bif decide ((1 : Nat) = (1 : Nat)) then
      bif decide (x5.length = x5.length ∧ x5.length + (1 : Nat) ≤ (140737488355328 : Nat)) then
        bif decide (x5.length + (1 : Nat) = (x5 ++ [Go.IntKind.u8.wrap (Go.bits Go.BinOp.or Go.IntKind.u64 (Go.bits Go.BinOp.and Go.IntKind.u64 x4.1 (127 : Int)) (128 : Int))]).length) then
          some (Sum.inl (((x4.1.fdiv (128 : Int)), (x4.2.1, (x4.2.2.1, x4.2.2.2))), (x5 ++ [Go.IntKind.u8.wrap (Go.bits Go.BinOp.or Go.IntKind.u64 (Go.bits Go.BinOp.and Go.IntKind.u64 x4.1 (127 : Int)) (128 : Int))])))
        else none
      else none
    else none
  else bif decide ((1 : Nat) = (1 : Nat)) then
      bif decide (x5.length = x5.length ∧ x5.length + (1 : Nat) ≤ (140737488355328 : Nat)) then
        bif decide (x5.length + (1 : Nat) = (x5 ++ [Go.IntKind.u8.wrap x4.1]).length) then
          some (Sum.inr (Sum.inl ((x4.2.1, (x4.2.2.1, (Go.IntKind.i64.wrap (x4.2.2.2 + (1 : Int))))), (x5 ++ [Go.IntKind.u8.wrap x4.1]))))
        else none
      else none
    else none
noncomputable def m_num_Bytes_l1 : ((Int × ((List Int) × (Int × Int))) × (List Int)) → Option ((((List Int) × (Int × Int)) × (List Int)) ⊕ (List Int)) := loopM fun s => m_num_Bytes_l1_step s.1 s.2
noncomputable def m_num_Bytes_l2_step (x1 : ((List Int) × (Int × Int))) (x2 : (List Int)) : Option ((((List Int) × (Int × Int)) × (List Int)) ⊕ (List Int)) :=
  bif decide (x1.2.2 < x1.2.1) then
    bif decide ((0 : Int) ≤ x1.2.2) then
      Option.bind (x1.1[x1.2.2.toNat]?) fun (x3 : Int) =>
        bif decide (x2.length = x2.length) then
          Option.bind (m_num_Bytes_l1 ((x3, (x1.1, (x1.2.1, x1.2.2))), x2)) fun (x4 : ((((List Int) × (Int × Int)) × (List Int)) ⊕ (List Int))) =>
            some x4
        else none
    else none
  else bif decide (x2.length = x2.length) then
      some (Sum.inr x2)
    else none
noncomputable def m_num_Bytes_l2 : (((List Int) × (Int × Int)) × (List Int)) → Option (List Int) := loopM fun s => m_num_Bytes_l2_step s.1 s.2
noncomputable def m_num_Bytes (x0 : (List Int)) : Option (List Int) :=
  Option.bind (m_num_Bytes_l2 ((x0, (((↑x0.length : Int)), ((0 : Int)))), [])) fun (x1 : (List Int)) =>
    some x1
noncomputable def e_num_Bytes : TEnt := ⟨56, .sl (.int .u64), [], [(.sl (.int .u8), [])], fun s => m_num_Bytes s⟩
theorem e_num_Bytes_ok : EntT Try.prog e_num_Bytes := ent_of (tab := []) (loops := [(4682, [3, 6, 7, 8], (.cons (.own 0) (.cons (.sl (.int .u64)) (.cons (.int .i64) (.int .i64)))), [.li (.int .u8) 5 false]), (1227428490, [3, 5, 6, 7, 8], (.cons (.own 0) (.cons (.int .u64) (.cons (.sl (.int .u64)) (.cons (.int .i64) (.int .i64))))), [.li (.int .u8) 5 false])]) (joins := []) _ (by intro e he; simp at he) (fun s => by kernel_rfl) (by kernel_rfl)
end Go.Sim
/- Models of functions, printed by program (tm.py). -/
set_option maxRecDepth 100000
set_option maxHeartbeats 0
set_option linter.unusedVariables false
namespace Go.Sim
open Go.Proofs
/-! num.New -/
noncomputable def m_num_New (x0 : (List Int)) : Option (Unit ⊕ ((List Int) × (Int × Int))) :=
  some (Sum.inr (x0, (((0 : Int)), ((0 : Int)))))
noncomputable def e_num_New : TEnt := ⟨45, .sl (.int .u8), [], [(.cst (.pointer none), []), (.ptr 0 0, [.st (.cons (.sl (.int .u8)) (.cons (.int .i64) (.int .i64)))])], fun s => m_num_New s⟩
theorem e_num_New_ok : EntT Try.prog e_num_New := ent_of (tab := []) (loops := []) (joins := []) _ (by intro e he; simp at he) (fun s => by kernel_rfl) (by kernel_rfl)
/-! (*num.Reader).Err -/
noncomputable def m_num_Err (x0 : (List Int)) (x1 : Int) (x2 : Int) : Option (Int × ((List Int) × (Int × Int))) :=
  some (x2, (x0, (x1, x2)))
noncomputable def e_num_Err : TEnt := ⟨47, .ptr 0 0, [.st (.cons (.sl (.int .u8)) (.cons (.int .i64) (.int .i64)))], [(.int .i64, [.st (.cons (.sl (.int .u8)) (.cons (.int .i64) (.int .i64)))])], fun s => m_num_Err s.1 s.2.1 s.2.2⟩
theorem e_num_Err_ok : EntT Try.prog e_num_Err := ent_of (tab := []) (loops := []) (joins := []) _ (by intro e he; simp at he) (fun s => by kernel_rfl) (by kernel_rfl)
/-! (*num.Reader).Fail -/
noncomputable def m_num_Fail (x0 : Int) (x1 : (List Int)) (x2 : Int) (x3 : Int) : Option ((List Int) × (Int × Int)) :=
  bif x3 == (0 : Int) then
    some (x1, (x2, x0))
  else some (x1, (x2, x3))
noncomputable def e_num_Fail : TEnt := ⟨48, .cons (.ptr 0 0) (.int .i64), [.st (.cons (.sl (.int .u8)) (.cons (.int .i64) (.int .i64)))], [(.tup .nil, [.st (.cons (.sl (.int .u8)) (.cons (.int .i64) (.int .i64)))])], fun s => m_num_Fail s.1 s.2.1 s.2.2.1 s.2.2.2⟩
theorem e_num_Fail_ok : EntT Try.prog e_num_Fail := ent_of (tab := []) (loops := []) (joins := []) _ (by intro e he; simp at he) (fun s => by kernel_rfl) (by kernel_rfl)
/-! (*num.Reader).At -/
noncomputable def m_num_At (x0 : (List Int)) (x1 : Int) (x2 : Int) : Option (Int × ((List Int) × (Int × Int))) :=
  some (x1, (x0, (x1, x2)))
noncomputable def e_num_At : TEnt := ⟨49, .ptr 0 0, [.st (.cons (.sl (.int .u8)) (.cons (.int .i64) (.int .i64)))], [(.int .i64, [.st (.cons (.sl (.int .u8)) (.cons (.int .i64) (.int .i64)))])], fun s => m_num_At s.1 s.2.1 s.2.2⟩
theorem e_num_At_ok : EntT Try.prog e_num_At := ent_of (tab := []) (loops := []) (joins := []) _ (by intro e he; simp at he) (fun s => by kernel_rfl) (by kernel_rfl)
/-! (*num.rest).drop -/
noncomputable def m_num_drop (x0 : Int) (x1 : (List Int)) (x2 : Int) (x3 : Int) : Option ((List Int) × ((List Int) × (Int × Int))) :=
  bif decide ((0 : Int) ≤ x0 ∧ Int.toNat x0 ≤ List.length x1) then
    bif decide ((0 : Int) ≤ x0 ∧ Int.toNat x0 ≤ List.length x1) then
      some ((List.take (Int.toNat x0) x1), ((List.drop (Int.toNat x0) x1), ((Go.IntKind.i64.wrap (x2 + x0)), x3)))
    else none
  else none
noncomputable def e_num_drop : TEnt := ⟨73, .cons (.ptr 0 0) (.int .i64), [.st (.cons (.sl (.int .u8)) (.cons (.int .i64) (.int .i64)))], [(.sl (.int .u8), [.st (.cons (.sl (.int .u8)) (.cons (.int .i64) (.int .i64)))])], fun s => m_num_drop s.1 s.2.1 s.2.2.1 s.2.2.2⟩
theorem e_num_drop_ok : EntT Try.prog e_num_drop := ent_of (tab := []) (loops := []) (joins := []) _ (by intro e he; simp at he) (fun s => by kernel_rfl) (by kernel_rfl)
/-! (*num.Reader).Number -/
noncomputable def m_num_Number (x0 : (List Int)) (x1 : Int) (x2 : Int) : Option (Int × ((List Int) × (Int × Int))) :=
  bif x2 != (0 : Int) then
    some (((0 : Int)), (x0, (x1, x2)))
  else Option.bind (m_num_Read x0) fun (x3 : (Int × (Int × Int))) =>
      bif x3.2.2 != (0 : Int) then
        some (((0 : Int)), (x0, (x1, x3.2.2)))
      else Option.bind (m_num_drop x3.2.1 x0 x1 x2) fun (x4 : ((List Int) × ((List Int) × (Int × Int)))) =>
          some (x3.1, (x4.2.1, (x4.2.2.1, x4.2.2.2)))
noncomputable def e_num_Number : TEnt := ⟨68, .ptr 0 0, [.st (.cons (.sl (.int .u8)) (.cons (.int .i64) (.int .i64)))], [(.int .u64, [.st (.cons (.sl (.int .u8)) (.cons (.int .i64) (.int .i64)))])], fun s => m_num_Number s.1 s.2.1 s.2.2⟩
theorem e_num_Number_ok : EntT Try.prog e_num_Number := ent_of (tab := [e_num_Read, e_num_drop]) (loops := []) (joins := []) _ (by
    intro e he
    simp only [List.mem_cons, List.not_mem_nil, or_false] at he
    rcases he with rfl | rfl
    · exact e_num_Read_ok
    · exact e_num_drop_ok) (fun s => by kernel_rfl) (by kernel_rfl)
/-! num.under$1 -/
noncomputable def m_num_under_1 (x0 : Int) (x1 : Int) : Option (Bool × Int) :=
  bif decide ((0 : Int) ≤ x1) then
    some ((decide (x0 ≤ Go.IntKind.u64.wrap x1)), x1)
  else some (Bool.false, x1)
noncomputable def e_num_under_1 : TEnt := ⟨71, .cons (.int .u64) (.ptr 0 0), [.st (.int .i64)], [(.bool, [.st (.int .i64)])], fun s => m_num_under_1 s.1 s.2⟩
theorem e_num_under_1_ok : EntT Try.prog e_num_under_1 := ent_of (tab := []) (loops := []) (joins := []) _ (by intro e he; simp at he) (fun s => by kernel_rfl) (by kernel_rfl)
/-! num.under -/
noncomputable def m_num_under (x0 : Int) : Option Int :=
  some x0
noncomputable def e_num_under : TEnt := ⟨67, .int .i64, [], [(.fn 71 .nil (.ptr 0 0), [.st (.int .i64)])], fun s => m_num_under s⟩
theorem e_num_under_ok : EntT Try.prog e_num_under := ent_of (tab := [e_num_under_1]) (loops := []) (joins := []) _ (by
    intro e he
    simp only [List.mem_cons, List.not_mem_nil, or_false] at he
    rcases he with rfl
    · exact e_num_under_1_ok) (fun s => by kernel_rfl) (by kernel_rfl)
end Go.Sim
/- Models of functions, printed by program (tm.py). -/
set_option maxRecDepth 100000
set_option maxHeartbeats 0
set_option linter.unusedVariables false
namespace Go.Sim
open Go.Proofs
/-! (*num.Reader).bounded -/
noncomputable def m_num_bounded (x0 : Int) (x1 : ((List Int) × (Int × Int))) (x2 : Int) : Option (Int × (((List Int) × (Int × Int)) × Int)) :=
  bif x1.2.2 != (0 : Int) then
    some (((0 : Int)), ((x1.1, (x1.2.1, x1.2.2)), x2))
  else Option.bind (m_num_Number x1.1 x1.2.1 x1.2.2) fun (x3 : (Int × ((List Int) × (Int × Int)))) =>
      bif x3.2.2.2 == (0 : Int) then
        Option.bind (m_num_under_1 x3.1 x2) fun (x4 : (Bool × Int)) =>
          bif !x4.1 then
            some (((0 : Int)), ((x1.1, (x1.2.1, x0)), x4.2))
          else some ((Go.IntKind.i64.wrap x3.1), ((x3.2.1, (x3.2.2.1, x3.2.2.2)), x4.2))
      else some ((Go.IntKind.i64.wrap x3.1), ((x3.2.1, (x3.2.2.1, x3.2.2.2)), x2))
noncomputable def e_num_bounded : TEnt := ⟨66, .cons (.ptr 0 0) (.cons (.fn 71 .nil (.ptr 1 0)) (.int .i64)), [.st (.cons (.sl (.int .u8)) (.cons (.int .i64) (.int .i64))), .st (.int .i64)], [(.int .i64, [.st (.cons (.sl (.int .u8)) (.cons (.int .i64) (.int .i64))), .st (.int .i64)])], fun s => m_num_bounded s.1 s.2.1 s.2.2⟩
theorem e_num_bounded_ok : EntT Try.prog e_num_bounded := ent_of (tab := [e_num_Number, e_num_under_1]) (loops := []) (joins := []) _ (by
    intro e he
    simp only [List.mem_cons, List.not_mem_nil, or_false] at he
    rcases he with rfl | rfl
    · exact e_num_Number_ok
    · exact e_num_under_1_ok) (fun s => by kernel_rfl) (by kernel_rfl)
/-! (*num.Reader).Upto -/
noncomputable def m_num_Upto (x0 : Int) (x1 : (List Int)) (x2 : Int) (x3 : Int) : Option (Int × ((List Int) × (Int × Int))) :=
  Option.bind (m_num_under x0) fun (x4 : Int) =>
    Option.bind (m_num_bounded (5 : Int) (x1, x2, x3) x4) fun (x5 : (Int × (((List Int) × (Int × Int)) × Int))) =>
      some (x5.1, (x5.2.1.1, (x5.2.1.2.1, x5.2.1.2.2)))
noncomputable def e_num_Upto : TEnt := ⟨46, .cons (.ptr 0 0) (.int .i64), [.st (.cons (.sl (.int .u8)) (.cons (.int .i64) (.int .i64)))], [(.int .i64, [.st (.cons (.sl (.int .u8)) (.cons (.int .i64) (.int .i64)))])], fun s => m_num_Upto s.1 s.2.1 s.2.2.1 s.2.2.2⟩
theorem e_num_Upto_ok : EntT Try.prog e_num_Upto := ent_of (tab := [e_num_under, e_num_bounded]) (loops := []) (joins := []) _ (by
    intro e he
    simp only [List.mem_cons, List.not_mem_nil, or_false] at he
    rcases he with rfl | rfl
    · exact e_num_under_ok
    · exact e_num_bounded_ok) (fun s => by kernel_rfl) (by kernel_rfl)
/-! slices.Clone[[]byte,byte] -/
noncomputable def m_slices_Clone8 (x0 : (List Int)) : Option (List Int) :=
  bif decide (x0.length = (0 : Nat)) then
    Go.Sim.bothM (
      some []) (
      bif decide ((0 : Nat) = (0 : Nat) ∧ (0 : Nat) + x0.length ≤ (140737488355328 : Nat)) then
        bif decide (([] ++ x0).length = (0 : Nat) + x0.length) then
          some ([] ++ x0)
        else none
      else none)
  else bif decide ((0 : Nat) = (0 : Nat) ∧ (0 : Nat) + x0.length ≤ (140737488355328 : Nat)) then
      bif decide (([] ++ x0).length = (0 : Nat) + x0.length) then
        some ([] ++ x0)
      else none
    else none
noncomputable def e_slices_Clone8 : TEnt := ⟨74, .sl (.int .u8), [], [(.sl (.int .u8), [])], fun s => m_slices_Clone8 s⟩
theorem e_slices_Clone8_ok : EntT Try.prog e_slices_Clone8 := ent_of (tab := []) (loops := []) (joins := []) _ (by intro e he; simp at he) (fun s => by kernel_rfl) (by kernel_rfl)
/-! (*num.Reader).Take -/
noncomputable def m_num_Take (x0 : Int) (x1 : (List Int)) (x2 : Int) (x3 : Int) : Option ((List Int) × ((List Int) × (Int × Int))) :=
  bif x3 != (0 : Int) then
    some ([], (x1, (x2, x3)))
  else bif decide (x0 < (0 : Int)) then
      some ([], (x1, (x2, ((4 : Int)))))
    else bif decide ((↑(List.length x1) : Int) < x0) then
        some ([], (x1, (x2, ((4 : Int)))))
      else Option.bind (m_num_drop x0 x1 x2 x3) fun (x4 : ((List Int) × ((List Int) × (Int × Int)))) =>
          Option.bind (m_slices_Clone8 x4.1) fun (x5 : (List Int)) =>
            some (x5, (x4.2.1, (x4.2.2.1, x4.2.2.2)))
noncomputable def e_num_Take : TEnt := ⟨69, .cons (.ptr 0 0) (.int .i64), [.st (.cons (.sl (.int .u8)) (.cons (.int .i64) (.int .i64)))], [(.sl (.int .u8), [.st (.cons (.sl (.int .u8)) (.cons (.int .i64) (.int .i64)))])], fun s => m_num_Take s.1 s.2.1 s.2.2.1 s.2.2.2⟩
theorem e_num_Take_ok : EntT Try.prog e_num_Take := ent_of (tab := [e_num_drop, e_slices_Clone8]) (loops := []) (joins := []) _ (by
    intro e he
    simp only [List.mem_cons, List.not_mem_nil, or_false] at he
    rcases he with rfl | rfl
    · exact e_num_drop_ok
    · exact e_slices_Clone8_ok) (fun s => by kernel_rfl) (by kernel_rfl)
/-! tape.one -/
noncomputable def m_tape_one (x0 : (List Int)) (x1 : Int) (x2 : Int) : Option ((Int × ((List Int) × (Int × (Int × Int)))) × ((List Int) × (Int × Int))) :=
  Option.bind (m_num_Number x0 x1 x2) fun (x3 : (Int × ((List Int) × (Int × Int)))) =>
    Option.bind (
      Option.bind (m_num_Err x3.2.1 x3.2.2.1 x3.2.2.2) fun (x4 : (Int × ((List Int) × (Int × Int)))) =>
        bif x4.1 == (0 : Int) then
          bif decide (x3.1 < (1 : Int)) then
            some (Sum.inl ((x3.1, Bool.true), ((x4.2.1, (x4.2.2.1, x4.2.2.2)), ((((0 : Int)), (((0 : Int)), (((0 : Int)), ((0 : Int))))), (((0 : Int)), (((0 : Int)), (((0 : Int)), ((0 : Int)))))))))
          else some (Sum.inl ((x3.1, (decide ((5 : Int) < x3.1))), ((x4.2.1, (x4.2.2.1, x4.2.2.2)), ((((0 : Int)), (((0 : Int)), (((0 : Int)), ((0 : Int))))), (((0 : Int)), (((0 : Int)), (((0 : Int)), ((0 : Int)))))))))
        else some (Sum.inl ((x3.1, Bool.false), ((x4.2.1, (x4.2.2.1, x4.2.2.2)), ((((0 : Int)), (((0 : Int)), (((0 : Int)), ((0 : Int))))), (((0 : Int)), (((0 : Int)), (((0 : Int)), ((0 : Int)))))))))) fun (x4 : (((Int × Bool) × (((List Int) × (Int × Int)) × ((Int × (Int × (Int × Int))) × (Int × (Int × (Int × Int)))))) ⊕ ((Int × ((List Int) × (Int × (Int × Int)))) × ((List Int) × (Int × Int))))) =>
      match x4 with
      | Sum.inl x5 =>
          Option.bind (
            bif x5.1.2 then
              Option.bind (m_num_Fail (9 : Int) x5.2.1.1 x5.2.1.2.1 x5.2.1.2.2) fun (x6 : ((List Int) × (Int × Int))) =>
                some (Sum.inl (x5.1.1, ((x6.1, (x6.2.1, x6.2.2)), ((x5.2.2.1.1, (x5.2.2.1.2.1, (x5.2.2.1.2.2.1, x5.2.2.1.2.2.2))), (x5.2.2.2.1, (x5.2.2.2.2.1, (x5.2.2.2.2.2.1, x5.2.2.2.2.2.2)))))))
            else some (Sum.inl (x5.1.1, ((x5.2.1.1, (x5.2.1.2.1, x5.2.1.2.2)), ((x5.2.2.1.1, (x5.2.2.1.2.1, (x5.2.2.1.2.2.1, x5.2.2.1.2.2.2))), (x5.2.2.2.1, (x5.2.2.2.2.1, (x5.2.2.2.2.2.1, x5.2.2.2.2.2.2)))))))) fun (x6 : ((Int × (((List Int) × (Int × Int)) × ((Int × (Int × (Int × Int))) × (Int × (Int × (Int × Int)))))) ⊕ ((Int × ((List Int) × (Int × (Int × Int)))) × ((List Int) × (Int × Int))))) =>
            match x6 with
            | Sum.inl x7 =>
                Option.bind (m_num_Err x7.2.1.1 x7.2.1.2.1 x7.2.1.2.2) fun (x8 : (Int × ((List Int) × (Int × Int)))) =>
                  bif x8.1 != (0 : Int) then
                    some ((x7.2.2.2.1, ([], (x7.2.2.2.2.1, (x7.2.2.2.2.2.1, x7.2.2.2.2.2.2)))), (x8.2.1, (x8.2.2.1, x8.2.2.2)))
                  else Option.bind (
                      bif Go.IntKind.i64.wrap x7.1 == (1 : Int) then
                        some (Sum.inl (((Go.IntKind.i64.wrap x7.1), Bool.true), ((x8.2.1, (x8.2.2.1, x8.2.2.2)), ((x7.2.2.1.1, (x7.2.2.1.2.1, (x7.2.2.1.2.2.1, x7.2.2.1.2.2.2))), ((Go.IntKind.i64.wrap x7.1), (x7.2.2.2.2.1, (x7.2.2.2.2.2.1, x7.2.2.2.2.2.2)))))))
                      else some (Sum.inl (((Go.IntKind.i64.wrap x7.1), (Go.IntKind.i64.wrap x7.1 == (2 : Int))), ((x8.2.1, (x8.2.2.1, x8.2.2.2)), ((x7.2.2.1.1, (x7.2.2.1.2.1, (x7.2.2.1.2.2.1, x7.2.2.1.2.2.2))), ((Go.IntKind.i64.wrap x7.1), (x7.2.2.2.2.1, (x7.2.2.2.2.2.1, x7.2.2.2.2.2.2)))))))) fun (x9 : (((Int × Bool) × (((List Int) × (Int × Int)) × ((Int × (Int × (Int × Int))) × (Int × (Int × (Int × Int)))))) ⊕ ((Int × ((List Int) × (Int × (Int × Int)))) × ((List Int) × (Int × Int))))) =>
                      match x9 with
                      | Sum.inl x10 =>
                          bif x10.1.2 then
                            Option.bind (m_num_Upto (4096 : Int) x10.2.1.1 x10.2.1.2.1 x10.2.1.2.2) fun (x11 : (Int × ((List Int) × (Int × Int)))) =>
                              Option.bind (m_num_Take x11.1 x11.2.1 x11.2.2.1 x11.2.2.2) fun (x12 : ((List Int) × ((List Int) × (Int × Int)))) =>
                                some ((x10.2.2.2.1, (x12.1, (x10.2.2.2.2.1, (x10.2.2.2.2.2.1, x10.2.2.2.2.2.2)))), (x12.2.1, (x12.2.2.1, x12.2.2.2)))
                          else bif x10.1.1 == (4 : Int) then
                              Option.bind (m_num_Upto (1048576 : Int) x10.2.1.1 x10.2.1.2.1 x10.2.1.2.2) fun (x11 : (Int × ((List Int) × (Int × Int)))) =>
                                Option.bind (m_num_Upto (1048576 : Int) x11.2.1 x11.2.2.1 x11.2.2.2) fun (x12 : (Int × ((List Int) × (Int × Int)))) =>
                                  some ((x10.2.2.2.1, ([], (x10.2.2.2.2.1, (x11.1, x12.1)))), (x12.2.1, (x12.2.2.1, x12.2.2.2)))
                            else Option.bind (m_num_Number x10.2.1.1 x10.2.1.2.1 x10.2.1.2.2) fun (x11 : (Int × ((List Int) × (Int × Int)))) =>
                                some ((x10.2.2.2.1, ([], (x11.1, (x10.2.2.2.2.2.1, x10.2.2.2.2.2.2)))), (x11.2.1, (x11.2.2.1, x11.2.2.2)))
                      | Sum.inr x10 =>
                          some x10
            | Sum.inr x7 =>
                some x7
      | Sum.inr x5 =>
          some x5
noncomputable def e_tape_one : TEnt := ⟨50, .ptr 0 0, [.st (.cons (.sl (.int .u8)) (.cons (.int .i64) (.int .i64)))], [(.agg (.cons (.int .i64) (.cons (.sl (.int .u8)) (.cons (.int .u64) (.cons (.int .i64) (.int .i64))))), [.st (.cons (.sl (.int .u8)) (.cons (.int .i64) (.int .i64)))])], fun s => m_tape_one s.1 s.2.1 s.2.2⟩
theorem e_tape_one_ok : EntT Try.prog e_tape_one := ent_of (tab := [e_num_Err, e_num_Fail, e_num_Number, e_num_Upto, e_num_Take]) (loops := []) (joins := [(585, [0, 2, 3, 4, 17], (.cons (.ptr 0 0) (.cons (.ptr 1 0) (.cons (.ptr 2 0) (.cons (.int .u64) .bool)))), [.st (.cons (.sl (.int .u8)) (.cons (.int .i64) (.int .i64))), .st (.cons (.int .i64) (.cons (.cst (.slice none 0 0)) (.cons (.int .u64) (.cons (.int .i64) (.int .i64))))), .st (.cons (.int .i64) (.cons (.cst (.slice none 0 0)) (.cons (.int .u64) (.cons (.int .i64) (.int .i64)))))]), (4681, [0, 2, 3, 4], (.cons (.ptr 0 0) (.cons (.ptr 1 0) (.cons (.ptr 2 0) (.int .u64)))), [.st (.cons (.sl (.int .u8)) (.cons (.int .i64) (.int .i64))), .st (.cons (.int .i64) (.cons (.cst (.slice none 0 0)) (.cons (.int .u64) (.cons (.int .i64) (.int .i64))))), .st (.cons (.int .i64) (.cons (.cst (.slice none 0 0)) (.cons (.int .u64) (.cons (.int .i64) (.int .i64)))))]), (9817068113, [0, 2, 3, 28, 32], (.cons (.ptr 0 0) (.cons (.ptr 1 0) (.cons (.ptr 2 0) (.cons (.int .i64) .bool)))), [.st (.cons (.sl (.int .u8)) (.cons (.int .i64) (.int .i64))), .st (.cons (.int .i64) (.cons (.cst (.slice none 0 0)) (.cons (.int .u64) (.cons (.int .i64) (.int .i64))))), .st (.cons (.int .i64) (.cons (.cst (.slice none 0 0)) (.cons (.int .u64) (.cons (.int .i64) (.int .i64)))))])]) _ (by
    intro e he
    simp only [List.mem_cons, List.not_mem_nil, or_false] at he
    rcases he with rfl | rfl | rfl | rfl | rfl
    · exact e_num_Err_ok
    · exact e_num_Fail_ok
    · exact e_num_Number_ok
    · exact e_num_Upto_ok
    · exact e_num_Take_ok) (fun s => by kernel_rfl) (by kernel_rfl)
/-! tape.Parse -/
noncomputable def m_tape_Parse_l1_step (x10 : ((List Int) × (Int × Int))) (x11 : ((List Int) × (Int × Int))) (x12 : (List (Int × ((List Int) × (Int × (Int × Int)))))) : Option ((((List Int) × (Int × Int)) × (((List Int) × (Int × Int)) × (List (Int × ((List Int) × (Int × (Int × Int))))))) ⊕ (Int × (Int × ((List (Int × ((List Int) × (Int × (Int × Int))))) × Int)))) :=
  Option.bind (m_num_Err x11.1 x11.2.1 x11.2.2) fun (x13 : (Int × ((List Int) × (Int × Int)))) =>
    bif x13.1 == (0 : Int) then
      Option.bind (m_num_At x13.2.1 x13.2.2.1 x13.2.2.2) fun (x14 : (Int × ((List Int) × (Int × Int)))) =>
        bif decide (x14.1 < Go.IntKind.i64.wrap ((↑x10.1.length : Int) - (1 : Int))) then
          Option.bind (m_tape_one x14.2.1 x14.2.2.1 x14.2.2.2) fun (x15 : ((Int × ((List Int) × (Int × (Int × Int)))) × ((List Int) × (Int × Int)))) =>
            bif decide ((1 : Nat) = (1 : Nat)) then
              bif decide (x12.length = x12.length ∧ x12.length + (1 : Nat) ≤ (2513169434916 : Nat)) then
                bif decide (x12.length + (1 : Nat) = (x12 ++ [(x15.1.1, x15.1.2.1, x15.1.2.2.1, x15.1.2.2.2.1, x15.1.2.2.2.2)]).length) then
                  some (Sum.inl ((x10.1, (x10.2.1, x10.2.2)), ((x15.2.1, (x15.2.2.1, x15.2.2.2)), (x12 ++ [(x15.1.1, x15.1.2.1, x15.1.2.2.1, x15.1.2.2.2.1, x15.1.2.2.2.2)]))))
                else none
              else none
            else none
        else Option.bind (m_num_Err x14.2.1 x14.2.2.1 x14.2.2.2) fun (x15 : (Int × ((List Int) × (Int × Int)))) =>
            bif x15.1 != (0 : Int) then
              some (Sum.inr (((0 : Int)), (((0 : Int)), ([], x15.1))))
            else bif decide (x12.length = x12.length) then
                some (Sum.inr (x10.2.1, (x10.2.2, (x12, ((0 : Int))))))
              else none
    else Option.bind (m_num_Err x13.2.1 x13.2.2.1 x13.2.2.2) fun (x14 : (Int × ((List Int) × (Int × Int)))) =>
        bif x14.1 != (0 : Int) then
          some (Sum.inr (((0 : Int)), (((0 : Int)), ([], x14.1))))
        else bif decide (x12.length = x12.length) then
            some (Sum.inr (x10.2.1, (x10.2.2, (x12, ((0 : Int))))))
          else none
noncomputable def m_tape_Parse_l1 : (((List Int) × (Int × Int)) × (((List Int) × (Int × Int)) × (List (Int × ((List Int) × (Int × (Int × Int))))))) → Option (Int × (Int × ((List (Int × ((List Int) × (Int × (Int × Int))))) × Int))) := loopM fun s => m_tape_Parse_l1_step s.1 s.2.1 s.2.2
noncomputable def m_tape_Parse (x0 : (List Int)) : Option (Int × (Int × ((List (Int × ((List Int) × (Int × (Int × Int))))) × Int))) :=
  Option.bind (
    bif (↑x0.length : Int) == (0 : Int) then
      some (Sum.inl ((x0, (((12 : Int)), Bool.true)), []))
    else Option.bind (x0[(0 : Nat)]?) fun (x1 : Int) =>
        some (Sum.inl ((x0, (((12 : Int)), (x1 != (84 : Int)))), []))) fun (x1 : ((((List Int) × (Int × Bool)) × (List (Int × ((List Int) × (Int × (Int × Int)))))) ⊕ (Int × (Int × ((List (Int × ((List Int) × (Int × (Int × Int))))) × Int))))) =>
    match x1 with
    | Sum.inl x2 =>
        bif x2.1.2.2 then
          some (((0 : Int)), (((0 : Int)), ([], x2.1.2.1)))
        else bif decide ((0 : Int) ≤ (1 : Int) ∧ (1 : Nat) ≤ x2.1.1.length) then
            Option.bind (m_num_New (List.drop (1 : Nat) x2.1.1)) fun (x3 : (Unit ⊕ ((List Int) × (Int × Int)))) =>
              match x3 with
              | Sum.inl x4 =>
                  none
              | Sum.inr x4 =>
                  Option.bind (m_num_Upto (512 : Int) x4.1 x4.2.1 x4.2.2) fun (x5 : (Int × ((List Int) × (Int × Int)))) =>
                    Option.bind (m_num_Upto (512 : Int) x5.2.1 x5.2.2.1 x5.2.2.2) fun (x6 : (Int × ((List Int) × (Int × Int)))) =>
                      Option.bind (m_num_Err x6.2.1 x6.2.2.1 x6.2.2.2) fun (x7 : (Int × ((List Int) × (Int × Int)))) =>
                        bif x7.1 == (0 : Int) then
                          bif x5.1 == (0 : Int) then
                            Option.bind (
                              Option.bind (m_num_Fail (11 : Int) x7.2.1 x7.2.2.1 x7.2.2.2) fun (x8 : ((List Int) × (Int × Int))) =>
                                bif decide (x2.2.length = x2.2.length) then
                                  some (Sum.inl ((x2.1.1, (x5.1, x6.1)), ((x8.1, (x8.2.1, x8.2.2)), x2.2)))
                                else none) fun (x8 : ((((List Int) × (Int × Int)) × (((List Int) × (Int × Int)) × (List (Int × ((List Int) × (Int × (Int × Int))))))) ⊕ (Int × (Int × ((List (Int × ((List Int) × (Int × (Int × Int))))) × Int))))) =>
                              match x8 with
                              | Sum.inl x9 =>
                                  bif decide (x9.2.2.length = x9.2.2.length) then
                                    Option.bind (m_tape_Parse_l1 ((x9.1.1, (x9.1.2.1, x9.1.2.2)), ((x9.2.1.1, (x9.2.1.2.1, x9.2.1.2.2)), x9.2.2))) fun (x10 : (Int × (Int × ((List (Int × ((List Int) × (Int × (Int × Int))))) × Int)))) =>
                                      some x10
                                  else none
                              | Sum.inr x9 =>
                                  some x9
                          else Option.bind (
                              bif x6.1 == (0 : Int) then
                                Option.bind (m_num_Fail (11 : Int) x7.2.1 x7.2.2.1 x7.2.2.2) fun (x8 : ((List Int) × (Int × Int))) =>
                                  bif decide (x2.2.length = x2.2.length) then
                                    some (Sum.inl ((x2.1.1, (x5.1, x6.1)), ((x8.1, (x8.2.1, x8.2.2)), x2.2)))
                                  else none
                              else bif decide (x2.2.length = x2.2.length) then
                                  some (Sum.inl ((x2.1.1, (x5.1, x6.1)), ((x7.2.1, (x7.2.2.1, x7.2.2.2)), x2.2)))
                                else none) fun (x8 : ((((List Int) × (Int × Int)) × (((List Int) × (Int × Int)) × (List (Int × ((List Int) × (Int × (Int × Int))))))) ⊕ (Int × (Int × ((List (Int × ((List Int) × (Int × (Int × Int))))) × Int))))) =>
                              match x8 with
                              | Sum.inl x9 =>
                                  bif decide (x9.2.2.length = x9.2.2.length) then
                                    Option.bind (m_tape_Parse_l1 ((x9.1.1, (x9.1.2.1, x9.1.2.2)), ((x9.2.1.1, (x9.2.1.2.1, x9.2.1.2.2)), x9.2.2))) fun (x10 : (Int × (Int × ((List (Int × ((List Int) × (Int × (Int × Int))))) × Int)))) =>
                                      some x10
                                  else none
                              | Sum.inr x9 =>
                                  some x9
                        else Option.bind (
                            bif decide (x2.2.length = x2.2.length) then
                              some (Sum.inl ((x2.1.1, (x5.1, x6.1)), ((x7.2.1, (x7.2.2.1, x7.2.2.2)), x2.2)))
                            else none) fun (x8 : ((((List Int) × (Int × Int)) × (((List Int) × (Int × Int)) × (List (Int × ((List Int) × (Int × (Int × Int))))))) ⊕ (Int × (Int × ((List (Int × ((List Int) × (Int × (Int × Int))))) × Int))))) =>
                            match x8 with
                            | Sum.inl x9 =>
                                bif decide (x9.2.2.length = x9.2.2.length) then
                                  Option.bind (m_tape_Parse_l1 ((x9.1.1, (x9.1.2.1, x9.1.2.2)), ((x9.2.1.1, (x9.2.1.2.1, x9.2.1.2.2)), x9.2.2))) fun (x10 : (Int × (Int × ((List (Int × ((List Int) × (Int × (Int × Int))))) × Int)))) =>
                                    some x10
                                else none
                            | Sum.inr x9 =>
                                some x9
          else none
    | Sum.inr x2 =>
        some x2
noncomputable def e_tape_Parse : TEnt := ⟨23, .sl (.int .u8), [], [(.tup (.cons (.int .i64) (.cons (.int .i64) (.cons (.sl (.pair (.int .i64) (.pair (.sl (.int .u8)) (.pair (.int .u64) (.pair (.int .i64) (.int .i64)))))) (.int .i64)))), [])], fun s => m_tape_Parse s⟩
theorem e_tape_Parse_ok : EntT Try.prog e_tape_Parse := ent_of (tab := [e_num_New, e_num_Err, e_num_Fail, e_num_At, e_num_Upto, e_tape_one]) (loops := [(636882293322, [0, 6, 7, 8, 9], (.cons (.sl (.int .u8)) (.cons (.ptr 0 0) (.cons (.int .i64) (.cons (.int .i64) (.own 1))))), [.st (.cons (.sl (.int .u8)) (.cons (.int .i64) (.int .i64))), .li (.pair (.int .i64) (.pair (.sl (.int .u8)) (.pair (.int .u64) (.pair (.int .i64) (.int .i64))))) 64 false])]) (joins := [(303689, [0, 9, 10, 19], (.cons (.sl (.int .u8)) (.cons (.own 0) (.cons (.int .i64) .bool))), [.li (.pair (.int .i64) (.pair (.sl (.int .u8)) (.pair (.int .u64) (.pair (.int .i64) (.int .i64))))) 64 false]), (9951285833, [0, 6, 7, 8, 9], (.cons (.sl (.int .u8)) (.cons (.ptr 0 0) (.cons (.int .i64) (.cons (.int .i64) (.own 1))))), [.st (.cons (.sl (.int .u8)) (.cons (.int .i64) (.int .i64))), .li (.pair (.int .i64) (.pair (.sl (.int .u8)) (.pair (.int .u64) (.pair (.int .i64) (.int .i64))))) 64 false])]) _ (by
    intro e he
    simp only [List.mem_cons, List.not_mem_nil, or_false] at he
    rcases he with rfl | rfl | rfl | rfl | rfl | rfl
    · exact e_num_New_ok
    · exact e_num_Err_ok
    · exact e_num_Fail_ok
    · exact e_num_At_ok
    · exact e_num_Upto_ok
    · exact e_tape_one_ok) (fun s => by kernel_rfl) (by kernel_rfl)
/-! tape.side -/
noncomputable def m_tape_side (x0 : Int) : Option Bool :=
  bif decide ((1 : Int) ≤ x0) then
    some (decide (x0 ≤ (512 : Int)))
  else some Bool.false
noncomputable def e_tape_side : TEnt := ⟨54, .int .i64, [], [(.bool, [])], fun s => m_tape_side s⟩
theorem e_tape_side_ok : EntT Try.prog e_tape_side := ent_of (tab := []) (loops := []) (joins := []) _ (by intro e he; simp at he) (fun s => by kernel_rfl) (by kernel_rfl)
/-! tape.Check$1 -/
noncomputable def m_tape_Check_1 (x0 : Int) : Option Bool :=
  bif decide ((0 : Int) ≤ x0) then
    some (decide (x0 ≤ (1048576 : Int)))
  else some Bool.false
noncomputable def e_tape_Check_1 : TEnt := ⟨57, .int .i64, [], [(.bool, [])], fun s => m_tape_Check_1 s⟩
theorem e_tape_Check_1_ok : EntT Try.prog e_tape_Check_1 := ent_of (tab := []) (loops := []) (joins := []) _ (by intro e he; simp at he) (fun s => by kernel_rfl) (by kernel_rfl)
/-! tape.Check -/
noncomputable def m_tape_Check (x0 : Int) (x1 : (List Int)) (x2 : Int) (x3 : Int) (x4 : Int) : Option Int :=
  Option.bind (
    bif decide (x0 < (1 : Int)) then
      some (Sum.inl (Bool.true, (x0, (x1, (x2, (x3, x4))))))
    else some (Sum.inl ((decide ((5 : Int) < x0)), (x0, (x1, (x2, (x3, x4))))))) fun (x5 : ((Bool × (Int × ((List Int) × (Int × (Int × Int))))) ⊕ Int)) =>
    match x5 with
    | Sum.inl x6 =>
        bif x6.1 then
          some ((9 : Int))
        else bif decide ((4096 : Int) < (↑x6.2.2.1.length : Int)) then
            some ((2 : Int))
          else Option.bind (m_tape_Check_1 x6.2.2.2.2.1) fun (x7 : Bool) =>
              bif !x7 then
                some ((5 : Int))
              else Option.bind (m_tape_Check_1 x6.2.2.2.2.2) fun (x8 : Bool) =>
                  bif !x8 then
                    some ((5 : Int))
                  else some ((0 : Int))
    | Sum.inr x6 =>
        some x6
noncomputable def e_tape_Check : TEnt := ⟨31, .agg (.cons (.int .i64) (.cons (.sl (.int .u8)) (.cons (.int .u64) (.cons (.int .i64) (.int .i64))))), [], [(.int .i64, [])], fun s => m_tape_Check s.1 s.2.1 s.2.2.1 s.2.2.2.1 s.2.2.2.2⟩
theorem e_tape_Check_ok : EntT Try.prog e_tape_Check := ent_of (tab := [e_tape_Check_1]) (loops := []) (joins := [(586, [1, 3, 4], (.cons (.ptr 0 0) (.cons (.fn 57 .nil .nil) .bool)), [.st (.cons (.int .i64) (.cons (.sl (.int .u8)) (.cons (.int .u64) (.cons (.int .i64) (.int .i64)))))])]) _ (by
    intro e he
    simp only [List.mem_cons, List.not_mem_nil, or_false] at he
    rcases he with rfl
    · exact e_tape_Check_1_ok) (fun s => by kernel_rfl) (by kernel_rfl)
/-! bytes.Clone -/
noncomputable def m_bytes_Clone (x0 : (List Int)) : Option (List Int) :=
  bif decide (x0.length = (0 : Nat)) then
    Go.Sim.bothM (
      some []) (
      bif decide ((0 : Nat) = (0 : Nat) ∧ (0 : Nat) + x0.length ≤ (140737488355328 : Nat)) then
        bif decide (([] ++ x0).length = (0 : Nat) + x0.length) then
          some ([] ++ x0)
        else none
      else none)
  else bif decide ((0 : Nat) = (0 : Nat) ∧ (0 : Nat) + x0.length ≤ (140737488355328 : Nat)) then
      bif decide (([] ++ x0).length = (0 : Nat) + x0.length) then
        some ([] ++ x0)
      else none
    else none
noncomputable def e_bytes_Clone : TEnt := ⟨58, .sl (.int .u8), [], [(.sl (.int .u8), [])], fun s => m_bytes_Clone s⟩
theorem e_bytes_Clone_ok : EntT Try.prog e_bytes_Clone := ent_of (tab := []) (loops := []) (joins := []) _ (by intro e he; simp at he) (fun s => by kernel_rfl) (by kernel_rfl)
/-! tape.Plain -/
noncomputable def m_tape_Plain (x0 : Int) (x1 : (List Int)) (x2 : Int) (x3 : Int) (x4 : Int) : Option (Int × ((List Int) × (Int × (Int × Int)))) :=
  Option.bind (
    bif x0 == (1 : Int) then
      some (Sum.inl ((x0, Bool.true), ((x0, (x1, (x2, (x3, x4)))), ((((0 : Int)), (((0 : Int)), (((0 : Int)), ((0 : Int))))), (x0, (((0 : Int)), (((0 : Int)), ((0 : Int)))))))))
    else some (Sum.inl ((x0, (x0 == (2 : Int))), ((x0, (x1, (x2, (x3, x4)))), ((((0 : Int)), (((0 : Int)), (((0 : Int)), ((0 : Int))))), (x0, (((0 : Int)), (((0 : Int)), ((0 : Int)))))))))) fun (x5 : (((Int × Bool) × ((Int × ((List Int) × (Int × (Int × Int)))) × ((Int × (Int × (Int × Int))) × (Int × (Int × (Int × Int)))))) ⊕ (Int × ((List Int) × (Int × (Int × Int)))))) =>
    match x5 with
    | Sum.inl x6 =>
        bif x6.1.2 then
          Option.bind (m_bytes_Clone x6.2.1.2.1) fun (x7 : (List Int)) =>
            some (x6.2.2.2.1, (x7, (x6.2.2.2.2.1, (x6.2.2.2.2.2.1, x6.2.2.2.2.2.2))))
        else bif x6.1.1 == (4 : Int) then
            some (x6.2.2.2.1, ([], (x6.2.2.2.2.1, (x6.2.1.2.2.2.1, x6.2.1.2.2.2.2))))
          else bif x6.1.1 == (3 : Int) then
              some (x6.2.2.2.1, ([], (x6.2.1.2.2.1, (x6.2.2.2.2.2.1, x6.2.2.2.2.2.2))))
            else bif x6.1.1 == (5 : Int) then
                some (x6.2.2.2.1, ([], (x6.2.1.2.2.1, (x6.2.2.2.2.2.1, x6.2.2.2.2.2.2))))
              else some (x6.2.2.2.1, ([], (x6.2.2.2.2.1, (x6.2.2.2.2.2.1, x6.2.2.2.2.2.2))))
    | Sum.inr x6 =>
        some x6
noncomputable def e_tape_Plain : TEnt := ⟨34, .agg (.cons (.int .i64) (.cons (.sl (.int .u8)) (.cons (.int .u64) (.cons (.int .i64) (.int .i64))))), [], [(.agg (.cons (.int .i64) (.cons (.sl (.int .u8)) (.cons (.int .u64) (.cons (.int .i64) (.int .i64))))), [])], fun s => m_tape_Plain s.1 s.2.1 s.2.2.1 s.2.2.2.1 s.2.2.2.2⟩
theorem e_tape_Plain_ok : EntT Try.prog e_tape_Plain := ent_of (tab := [e_bytes_Clone]) (loops := []) (joins := [(153429137, [1, 2, 3, 8, 9], (.cons (.ptr 0 0) (.cons (.ptr 1 0) (.cons (.ptr 2 0) (.cons (.int .i64) .bool)))), [.st (.cons (.int .i64) (.cons (.sl (.int .u8)) (.cons (.int .u64) (.cons (.int .i64) (.int .i64))))), .st (.cons (.int .i64) (.cons (.cst (.slice none 0 0)) (.cons (.int .u64) (.cons (.int .i64) (.int .i64))))), .st (.cons (.int .i64) (.cons (.cst (.slice none 0 0)) (.cons (.int .u64) (.cons (.int .i64) (.int .i64)))))])]) _ (by
    intro e he
    simp only [List.mem_cons, List.not_mem_nil, or_false] at he
    rcases he with rfl
    · exact e_bytes_Clone_ok) (fun s => by kernel_rfl) (by kernel_rfl)
end Go.Sim
/- Models of functions, printed by program (tm.py). -/
set_option maxRecDepth 100000
set_option maxHeartbeats 0
set_option linter.unusedVariables false
namespace Go.Sim
open Go.Proofs
/-! tape.Bytes$1 -/
noncomputable def m_tape_Bytes_1_l1_step (x2 : ((List Int) × (Int × Int))) (x3 : (List Int)) : Option ((((List Int) × (Int × Int)) × (List Int)) ⊕ (List Int)) :=
  bif decide (x2.2.2 < x2.2.1) then
    bif decide ((0 : Int) ≤ x2.2.2) then
      Option.bind (x2.1[x2.2.2.toNat]?) fun (x4 : Int) =>
        bif decide ((1 : Nat) = (1 : Nat)) then
          Option.bind (m_num_Bytes [Go.IntKind.u64.wrap x4]) fun (x5 : (List Int)) =>
            bif decide (x3.length = x3.length ∧ x3.length + List.length x5 ≤ (140737488355328 : Nat)) then
              bif decide (x3.length + List.length x5 = (x3 ++ x5).length) then
                some (Sum.inl ((x2.1, (x2.2.1, (Go.IntKind.i64.wrap (x2.2.2 + (1 : Int))))), (x3 ++ x5)))
              else none
            else none
        else none
    else none
  else bif decide (x3.length = x3.length) then
      some (Sum.inr x3)
    else none
noncomputable def m_tape_Bytes_1_l1 : (((List Int) × (Int × Int)) × (List Int)) → Option (List Int) := loopM fun s => m_tape_Bytes_1_l1_step s.1 s.2
noncomputable def m_tape_Bytes_1 (x0 : (List Int)) (x1 : (List Int)) : Option (List Int) :=
  bif decide (x1.length = x1.length) then
    Option.bind (m_tape_Bytes_1_l1 ((x0, (((↑(List.length x0) : Int)), ((0 : Int)))), x1)) fun (x2 : (List Int)) =>
      some x2
  else none
noncomputable def e_tape_Bytes_1 : TEnt := ⟨55, .cons (.sl (.int .i64)) (.ptr 0 0), [.st (.own 1), .li (.int .u8) 5 false], [(.tup .nil, [.st (.own 1), .li (.int .u8) 5 false])], fun s => m_tape_Bytes_1 s.1 s.2⟩
theorem e_tape_Bytes_1_ok : EntT Try.prog e_tape_Bytes_1 := ent_of (tab := [e_num_Bytes]) (loops := [(74, [1, 5, 6, 7], (.cons (.ptr 0 0) (.cons (.sl (.int .i64)) (.cons (.int .i64) (.int .i64)))), [.st (.own 1), .li (.int .u8) 5 false])]) (joins := []) _ (by
    intro e he
    simp only [List.mem_cons, List.not_mem_nil, or_false] at he
    rcases he with rfl
    · exact e_num_Bytes_ok) (fun s => by kernel_rfl) (by kernel_rfl)
/-! tape.Bytes$1 -/
noncomputable def m_tape_Bytes_1l_l1_step (x2 : ((List Int) × (Int × Int))) (x3 : (List Int)) : Option ((((List Int) × (Int × Int)) × (List Int)) ⊕ (List Int)) :=
  bif decide (x2.2.2 < x2.2.1) then
    bif decide ((0 : Int) ≤ x2.2.2) then
      Option.bind (x2.1[x2.2.2.toNat]?) fun (x4 : Int) =>
        bif decide ((1 : Nat) = (1 : Nat)) then
          Option.bind (m_num_Bytes [Go.IntKind.u64.wrap x4]) fun (x5 : (List Int)) =>
            bif decide (x3.length = x3.length ∧ x3.length + List.length x5 ≤ (140737488355328 : Nat)) then
              bif decide (x3.length + List.length x5 = (x3 ++ x5).length) then
                some (Sum.inl ((x2.1, (x2.2.1, (Go.IntKind.i64.wrap (x2.2.2 + (1 : Int))))), (x3 ++ x5)))
              else none
            else none
        else none
    else none
  else bif decide (x3.length = x3.length) then
      some (Sum.inr x3)
    else none
noncomputable def m_tape_Bytes_1l_l1 : (((List Int) × (Int × Int)) × (List Int)) → Option (List Int) := loopM fun s => m_tape_Bytes_1l_l1_step s.1 s.2
noncomputable def m_tape_Bytes_1l (x0 : (List Int)) (x1 : (List Int)) : Option (List Int) :=
  bif decide (x1.length = x1.length) then
    Option.bind (m_tape_Bytes_1l_l1 ((x0, (((↑(List.length x0) : Int)), ((0 : Int)))), x1)) fun (x2 : (List Int)) =>
      some x2
  else none
noncomputable def e_tape_Bytes_1l : TEnt := ⟨55, .cons (.sl (.int .i64)) (.ptr 0 0), [.st (.own 1), .li (.int .u8) 5 true], [(.tup .nil, [.st (.own 1), .li (.int .u8) 5 true])], fun s => m_tape_Bytes_1l s.1 s.2⟩
theorem e_tape_Bytes_1l_ok : EntT Try.prog e_tape_Bytes_1l := ent_of (tab := [e_num_Bytes]) (loops := [(74, [1, 5, 6, 7], (.cons (.ptr 0 0) (.cons (.sl (.int .i64)) (.cons (.int .i64) (.int .i64)))), [.st (.own 1), .li (.int .u8) 5 true])]) (joins := []) _ (by
    intro e he
    simp only [List.mem_cons, List.not_mem_nil, or_false] at he
    rcases he with rfl
    · exact e_num_Bytes_ok) (fun s => by kernel_rfl) (by kernel_rfl)
/-! tape.Bytes -/
noncomputable def m_tape_Bytes_l1_step (x6 : ((List (Int × ((List Int) × (Int × (Int × Int))))) × (Int × Int))) (x7 : (List Int)) : Option ((((List (Int × ((List Int) × (Int × (Int × Int))))) × (Int × Int)) × (List Int)) ⊕ ((List Int) × Int)) :=
  bif decide (x6.2.2 < x6.2.1) then
    bif decide ((0 : Int) ≤ x6.2.2) then
      Option.bind (x6.1[x6.2.2.toNat]?) fun (x8 : (Int × ((List Int) × (Int × (Int × Int))))) =>
        Option.bind (m_tape_Check x8.1 x8.2.1 x8.2.2.1 x8.2.2.2.1 x8.2.2.2.2) fun (x9 : Int) =>
          bif x9 != (0 : Int) then
            some (Sum.inr ([], x9))
          else bif decide ((1 : Nat) = (1 : Nat)) then
              bif decide (x7.length = x7.length) then
                Option.bind (m_tape_Bytes_1l [x8.1] x7) fun (x10 : (List Int)) =>
                  Option.bind (
                    bif x8.1 == (1 : Int) then
                      bif decide (List.length x10 = List.length x10) then
                        some (Sum.inl ((x6.1, (x6.2.1, (x6.2.2, (x8.1, Bool.true)))), ((x8.1, (x8.2.1, (x8.2.2.1, (x8.2.2.2.1, x8.2.2.2.2)))), x10)))
                      else none
                    else bif decide (List.length x10 = List.length x10) then
                        some (Sum.inl ((x6.1, (x6.2.1, (x6.2.2, (x8.1, (x8.1 == (2 : Int)))))), ((x8.1, (x8.2.1, (x8.2.2.1, (x8.2.2.2.1, x8.2.2.2.2)))), x10)))
                      else none) fun (x11 : ((((List (Int × ((List Int) × (Int × (Int × Int))))) × (Int × (Int × (Int × Bool)))) × ((Int × ((List Int) × (Int × (Int × Int)))) × (List Int))) ⊕ ((((List (Int × ((List Int) × (Int × (Int × Int))))) × (Int × Int)) × (List Int)) ⊕ ((List Int) × Int)))) =>
                    match x11 with
                    | Sum.inl x12 =>
                        bif x12.1.2.2.2.2 then
                          bif decide ((1 : Nat) = (1 : Nat)) then
                            bif decide (x12.2.2.length = x12.2.2.length) then
                              Option.bind (m_tape_Bytes_1l [(↑x12.2.1.2.1.length : Int)] x12.2.2) fun (x13 : (List Int)) =>
                                bif decide (List.length x13 = List.length x13 ∧ List.length x13 + x12.2.1.2.1.length ≤ (140737488355328 : Nat)) then
                                  bif decide (List.length x13 + x12.2.1.2.1.length = (x13 ++ x12.2.1.2.1).length) then
                                    some (Sum.inl ((x12.1.1, (x12.1.2.1, (Go.IntKind.i64.wrap (x12.1.2.2.1 + (1 : Int))))), (x13 ++ x12.2.1.2.1)))
                                  else none
                                else none
                            else none
                          else none
                        else bif x12.1.2.2.2.1 == (4 : Int) then
                            bif decide ((2 : Nat) = (2 : Nat)) then
                              bif decide (x12.2.2.length = x12.2.2.length) then
                                Option.bind (m_tape_Bytes_1l [x12.2.1.2.2.2.1, x12.2.1.2.2.2.2] x12.2.2) fun (x13 : (List Int)) =>
                                  bif decide (List.length x13 = List.length x13) then
                                    some (Sum.inl ((x12.1.1, (x12.1.2.1, (Go.IntKind.i64.wrap (x12.1.2.2.1 + (1 : Int))))), x13))
                                  else none
                              else none
                            else none
                          else bif decide ((1 : Nat) = (1 : Nat)) then
                              Option.bind (m_num_Bytes [x12.2.1.2.2.1]) fun (x13 : (List Int)) =>
                                bif decide (x12.2.2.length = x12.2.2.length ∧ x12.2.2.length + List.length x13 ≤ (140737488355328 : Nat)) then
                                  bif decide (x12.2.2.length + List.length x13 = (x12.2.2 ++ x13).length) then
                                    some (Sum.inl ((x12.1.1, (x12.1.2.1, (Go.IntKind.i64.wrap (x12.1.2.2.1 + (1 : Int))))), (x12.2.2 ++ x13)))
                                  else none
                                else none
                            else none
                    | Sum.inr x12 =>
                        some x12
              else none
            else none
    else none
  else bif decide (x7.length = x7.length) then
      some (Sum.inr (x7, ((0 : Int))))
    else none
noncomputable def m_tape_Bytes_l1 : (((List (Int × ((List Int) × (Int × (Int × Int))))) × (Int × Int)) × (List Int)) → Option ((List Int) × Int) := loopM fun s => m_tape_Bytes_l1_step s.1 s.2
noncomputable def m_tape_Bytes (x0 : Int) (x1 : Int) (x2 : (List (Int × ((List Int) × (Int × (Int × Int)))))) : Option ((List Int) × Int) :=
  Option.bind (m_tape_side x0) fun (x3 : Bool) =>
    bif !x3 then
      some ([], ((11 : Int)))
    else Option.bind (m_tape_side x1) fun (x4 : Bool) =>
        bif !x4 then
          some ([], ((11 : Int)))
        else bif decide ((2 : Nat) = (2 : Nat)) then
            Option.bind (m_tape_Bytes_1l [x0, x1] [(84 : Int)]) fun (x5 : (List Int)) =>
              bif decide (List.length x5 = List.length x5) then
                Option.bind (m_tape_Bytes_l1 ((x2, (((↑x2.length : Int)), ((0 : Int)))), x5)) fun (x6 : ((List Int) × Int)) =>
                  some x6
              else none
          else none
noncomputable def e_tape_Bytes : TEnt := ⟨28, .cons (.int .i64) (.cons (.int .i64) (.sl (.pair (.int .i64) (.pair (.sl (.int .u8)) (.pair (.int .u64) (.pair (.int .i64) (.int .i64))))))), [], [(.tup (.cons (.sl (.int .u8)) (.int .i64)), [])], fun s => m_tape_Bytes s.1 s.2.1 s.2.2⟩
theorem e_tape_Bytes_ok : EntT Try.prog e_tape_Bytes := ent_of (tab := [e_num_Bytes, e_tape_side, e_tape_Check, e_tape_Bytes_1, e_tape_Bytes_1l]) (loops := [(19173962, [8, 9, 28, 29, 30], (.cons (.ptr 0 0) (.cons (.fn 55 .nil (.ptr 0 0)) (.cons (.sl (.pair (.int .i64) (.pair (.sl (.int .u8)) (.pair (.int .u64) (.pair (.int .i64) (.int .i64)))))) (.cons (.int .i64) (.int .i64))))), [.st (.own 1), .li (.int .u8) 5 true])]) (joins := [(1317624654019727953, [8, 9, 11, 28, 29, 30, 45, 52], (.cons (.ptr 0 0) (.cons (.fn 55 .nil (.ptr 0 0)) (.cons (.ptr 1 0) (.cons (.sl (.pair (.int .i64) (.pair (.sl (.int .u8)) (.pair (.int .u64) (.pair (.int .i64) (.int .i64)))))) (.cons (.int .i64) (.cons (.int .i64) (.cons (.int .i64) .bool))))))), [.st (.own 2), .st (.cons (.int .i64) (.cons (.sl (.int .u8)) (.cons (.int .u64) (.cons (.int .i64) (.int .i64))))), .li (.int .u8) 5 true])]) _ (by
    intro e he
    simp only [List.mem_cons, List.not_mem_nil, or_false] at he
    rcases he with rfl | rfl | rfl | rfl | rfl
    · exact e_num_Bytes_ok
    · exact e_tape_side_ok
    · exact e_tape_Check_ok
    · exact e_tape_Bytes_1_ok
    · exact e_tape_Bytes_1l_ok) (fun s => by kernel_rfl) (by kernel_rfl)
/-! bytes.Equal -/
noncomputable def m_bytes_Equal (x0 : (List Int)) (x1 : (List Int)) : Option Bool :=
  some ((Go.strOfNums x0).toList == (Go.strOfNums x1).toList)
noncomputable def e_bytes_Equal : TEnt := ⟨64, .cons (.sl (.int .u8)) (.sl (.int .u8)), [], [(.bool, [])], fun s => m_bytes_Equal s.1 s.2⟩
theorem e_bytes_Equal_ok : EntT Try.prog e_bytes_Equal := ent_of (tab := []) (loops := []) (joins := []) _ (by intro e he; simp at he) (fun s => by kernel_rfl) (by kernel_rfl)
/-! tape.Same$1 -/
noncomputable def m_tape_Same_1 (x0 : (Int × ((List Int) × (Int × (Int × Int))))) (x1 : Int) (x2 : (List Int)) (x3 : Int) (x4 : Int) (x5 : Int) : Option Bool :=
  bif x0.1 == x1 then
    bif x0.2.2.1 == x3 then
      bif x0.2.2.2.1 == x4 then
        bif x0.2.2.2.2 == x5 then
          Option.bind (m_bytes_Equal x0.2.1 x2) fun (x6 : Bool) =>
            some x6
        else some Bool.false
      else some Bool.false
    else some Bool.false
  else some Bool.false
noncomputable def e_tape_Same_1 : TEnt := ⟨63, .cons (.agg (.cons (.int .i64) (.cons (.sl (.int .u8)) (.cons (.int .u64) (.cons (.int .i64) (.int .i64)))))) (.agg (.cons (.int .i64) (.cons (.sl (.int .u8)) (.cons (.int .u64) (.cons (.int .i64) (.int .i64)))))), [], [(.bool, [])], fun s => m_tape_Same_1 s.1 s.2.1 s.2.2.1 s.2.2.2.1 s.2.2.2.2.1 s.2.2.2.2.2⟩
theorem e_tape_Same_1_ok : EntT Try.prog e_tape_Same_1 := ent_of (tab := [e_bytes_Equal]) (loops := []) (joins := []) _ (by
    intro e he
    simp only [List.mem_cons, List.not_mem_nil, or_false] at he
    rcases he with rfl
    · exact e_bytes_Equal_ok) (fun s => by kernel_rfl) (by kernel_rfl)
/-! slices.EqualFunc[[]client.Event,[]client.Event,client.Event,client.Event] -/
noncomputable def m_EqualFunc_ev_l1_step (x2 : (List (Int × ((List Int) × (Int × (Int × Int)))))) (x3 : (List (Int × ((List Int) × (Int × (Int × Int)))))) (x4 : Int) (x5 : Int) : Option (((List (Int × ((List Int) × (Int × (Int × Int))))) × ((List (Int × ((List Int) × (Int × (Int × Int))))) × (Int × Int))) ⊕ Bool) :=
  bif decide (x5 < x4) then
    bif decide ((0 : Int) ≤ x5) then
      Option.bind (x3[x5.toNat]?) fun (x6 : (Int × ((List Int) × (Int × (Int × Int))))) =>
        bif decide ((0 : Int) ≤ x5) then
          Option.bind (x2[x5.toNat]?) fun (x7 : (Int × ((List Int) × (Int × (Int × Int))))) =>
            Option.bind (m_tape_Same_1 (x6.1, x6.2.1, x6.2.2.1, x6.2.2.2.1, x6.2.2.2.2) x7.1 x7.2.1 x7.2.2.1 x7.2.2.2.1 x7.2.2.2.2) fun (x8 : Bool) =>
              bif !x8 then
                some (Sum.inr Bool.false)
              else some (Sum.inl (x2, (x3, (x4, (Go.IntKind.i64.wrap (x5 + (1 : Int)))))))
        else none
    else none
  else some (Sum.inr Bool.true)
noncomputable def m_EqualFunc_ev_l1 : ((List (Int × ((List Int) × (Int × (Int × Int))))) × ((List (Int × ((List Int) × (Int × (Int × Int))))) × (Int × Int))) → Option Bool := loopM fun s => m_EqualFunc_ev_l1_step s.1 s.2.1 s.2.2.1 s.2.2.2
noncomputable def m_EqualFunc_ev (x0 : (List (Int × ((List Int) × (Int × (Int × Int)))))) (x1 : (List (Int × ((List Int) × (Int × (Int × Int)))))) : Option Bool :=
  bif (↑(List.length x0) : Int) != (↑x1.length : Int) then
    some Bool.false
  else Option.bind (m_EqualFunc_ev_l1 (x1, (x0, (((↑(List.length x0) : Int)), ((0 : Int)))))) fun (x2 : Bool) =>
      some x2
noncomputable def e_EqualFunc_ev : TEnt := ⟨62, .cons (.sl (.pair (.int .i64) (.pair (.sl (.int .u8)) (.pair (.int .u64) (.pair (.int .i64) (.int .i64)))))) (.cons (.sl (.pair (.int .i64) (.pair (.sl (.int .u8)) (.pair (.int .u64) (.pair (.int .i64) (.int .i64)))))) (.fn 63 .nil .nil)), [], [(.bool, [])], fun s => m_EqualFunc_ev s.1 s.2⟩
theorem e_EqualFunc_ev_ok : EntT Try.prog e_EqualFunc_ev := ent_of (tab := [e_tape_Same_1]) (loops := [(37450, [1, 2, 15, 16, 17], (.cons (.sl (.pair (.int .i64) (.pair (.sl (.int .u8)) (.pair (.int .u64) (.pair (.int .i64) (.int .i64)))))) (.cons (.fn 63 .nil .nil) (.cons (.sl (.pair (.int .i64) (.pair (.sl (.int .u8)) (.pair (.int .u64) (.pair (.int .i64) (.int .i64)))))) (.cons (.int .i64) (.int .i64))))), [])]) (joins := []) _ (by
    intro e he
    simp only [List.mem_cons, List.not_mem_nil, or_false] at he
    rcases he with rfl
    · exact e_tape_Same_1_ok) (fun s => by kernel_rfl) (by kernel_rfl)
/-! tape.Same -/
noncomputable def m_tape_Same (x0 : (List (Int × ((List Int) × (Int × (Int × Int)))))) (x1 : (List (Int × ((List Int) × (Int × (Int × Int)))))) : Option Bool :=
  Option.bind (m_EqualFunc_ev x0 x1) fun (x2 : Bool) =>
    some x2
noncomputable def e_tape_Same : TEnt := ⟨37, .cons (.sl (.pair (.int .i64) (.pair (.sl (.int .u8)) (.pair (.int .u64) (.pair (.int .i64) (.int .i64)))))) (.sl (.pair (.int .i64) (.pair (.sl (.int .u8)) (.pair (.int .u64) (.pair (.int .i64) (.int .i64)))))), [], [(.bool, [])], fun s => m_tape_Same s.1 s.2⟩
theorem e_tape_Same_ok : EntT Try.prog e_tape_Same := ent_of (tab := [e_tape_Same_1, e_EqualFunc_ev]) (loops := []) (joins := []) _ (by
    intro e he
    simp only [List.mem_cons, List.not_mem_nil, or_false] at he
    rcases he with rfl | rfl
    · exact e_tape_Same_1_ok
    · exact e_EqualFunc_ev_ok) (fun s => by kernel_rfl) (by kernel_rfl)
/-! prolepsisref34.Check -/
noncomputable def m_r34_Check (x0 : Int) (x1 : (List Int)) (x2 : Int) (x3 : Int) (x4 : Int) : Option Int :=
  Option.bind (
    bif decide (x0 < (1 : Int)) then
      some (Sum.inl (Bool.true, (x0, (x1, (x2, (x3, x4))))))
    else some (Sum.inl ((decide ((5 : Int) < x0)), (x0, (x1, (x2, (x3, x4))))))) fun (x5 : ((Bool × (Int × ((List Int) × (Int × (Int × Int))))) ⊕ Int)) =>
    match x5 with
    | Sum.inl x6 =>
        bif x6.1 then
          some ((9 : Int))
        else bif decide ((4096 : Int) < (↑x6.2.2.1.length : Int)) then
            some ((2 : Int))
          else bif decide (x6.2.2.2.2.1 < (0 : Int)) then
              some ((5 : Int))
            else bif decide ((1048576 : Int) < x6.2.2.2.2.1) then
                some ((5 : Int))
              else bif decide (x6.2.2.2.2.2 < (0 : Int)) then
                  some ((5 : Int))
                else bif decide ((1048576 : Int) < x6.2.2.2.2.2) then
                    some ((5 : Int))
                  else some ((0 : Int))
    | Sum.inr x6 =>
        some x6
noncomputable def e_r34_Check : TEnt := ⟨32, .agg (.cons (.int .i64) (.cons (.sl (.int .u8)) (.cons (.int .u64) (.cons (.int .i64) (.int .i64))))), [], [(.int .i64, [])], fun s => m_r34_Check s.1 s.2.1 s.2.2.1 s.2.2.2.1 s.2.2.2.2⟩
theorem e_r34_Check_ok : EntT Try.prog e_r34_Check := ent_of (tab := []) (loops := []) (joins := [(9, [1, 10], (.cons (.ptr 0 0) .bool), [.st (.cons (.int .i64) (.cons (.sl (.int .u8)) (.cons (.int .u64) (.cons (.int .i64) (.int .i64)))))])]) _ (by intro e he; simp at he) (fun s => by kernel_rfl) (by kernel_rfl)
/-! prolepsisref34.Plain -/
noncomputable def m_r34_Plain (x0 : Int) (x1 : (List Int)) (x2 : Int) (x3 : Int) (x4 : Int) : Option (Int × ((List Int) × (Int × (Int × Int)))) :=
  Option.bind (
    bif x0 == (1 : Int) then
      some (Sum.inl (Bool.true, ((x0, (x1, (x2, (x3, x4)))), ((((0 : Int)), (((0 : Int)), (((0 : Int)), ((0 : Int))))), (x0, (((0 : Int)), (((0 : Int)), ((0 : Int)))))))))
    else some (Sum.inl ((x0 == (2 : Int)), ((x0, (x1, (x2, (x3, x4)))), ((((0 : Int)), (((0 : Int)), (((0 : Int)), ((0 : Int))))), (x0, (((0 : Int)), (((0 : Int)), ((0 : Int)))))))))) fun (x5 : ((Bool × ((Int × ((List Int) × (Int × (Int × Int)))) × ((Int × (Int × (Int × Int))) × (Int × (Int × (Int × Int)))))) ⊕ (Int × ((List Int) × (Int × (Int × Int)))))) =>
    match x5 with
    | Sum.inl x6 =>
        bif x6.1 then
          bif decide ((0 : Nat) = (0 : Nat) ∧ (0 : Nat) + x6.2.1.2.1.length ≤ (140737488355328 : Nat)) then
            bif x6.2.1.1 == (3 : Int) then
              bif x6.2.1.1 == (4 : Int) then
                bif decide (([] ++ x6.2.1.2.1).length = (0 : Nat) + x6.2.1.2.1.length) then
                  some (x6.2.2.2.1, (([] ++ x6.2.1.2.1), (x6.2.1.2.2.1, (x6.2.1.2.2.2.1, x6.2.1.2.2.2.2))))
                else none
              else bif decide (([] ++ x6.2.1.2.1).length = (0 : Nat) + x6.2.1.2.1.length) then
                  some (x6.2.2.2.1, (([] ++ x6.2.1.2.1), (x6.2.1.2.2.1, (x6.2.2.2.2.2.1, x6.2.2.2.2.2.2))))
                else none
            else bif x6.2.1.1 == (5 : Int) then
                bif x6.2.1.1 == (4 : Int) then
                  bif decide (([] ++ x6.2.1.2.1).length = (0 : Nat) + x6.2.1.2.1.length) then
                    some (x6.2.2.2.1, (([] ++ x6.2.1.2.1), (x6.2.1.2.2.1, (x6.2.1.2.2.2.1, x6.2.1.2.2.2.2))))
                  else none
                else bif decide (([] ++ x6.2.1.2.1).length = (0 : Nat) + x6.2.1.2.1.length) then
                    some (x6.2.2.2.1, (([] ++ x6.2.1.2.1), (x6.2.1.2.2.1, (x6.2.2.2.2.2.1, x6.2.2.2.2.2.2))))
                  else none
              else bif x6.2.1.1 == (4 : Int) then
                  bif decide (([] ++ x6.2.1.2.1).length = (0 : Nat) + x6.2.1.2.1.length) then
                    some (x6.2.2.2.1, (([] ++ x6.2.1.2.1), (x6.2.2.2.2.1, (x6.2.1.2.2.2.1, x6.2.1.2.2.2.2))))
                  else none
                else bif decide (([] ++ x6.2.1.2.1).length = (0 : Nat) + x6.2.1.2.1.length) then
                    some (x6.2.2.2.1, (([] ++ x6.2.1.2.1), (x6.2.2.2.2.1, (x6.2.2.2.2.2.1, x6.2.2.2.2.2.2))))
                  else none
          else none
        else bif x6.2.1.1 == (3 : Int) then
            bif x6.2.1.1 == (4 : Int) then
              some (x6.2.2.2.1, ([], (x6.2.1.2.2.1, (x6.2.1.2.2.2.1, x6.2.1.2.2.2.2))))
            else some (x6.2.2.2.1, ([], (x6.2.1.2.2.1, (x6.2.2.2.2.2.1, x6.2.2.2.2.2.2))))
          else bif x6.2.1.1 == (5 : Int) then
              bif x6.2.1.1 == (4 : Int) then
                some (x6.2.2.2.1, ([], (x6.2.1.2.2.1, (x6.2.1.2.2.2.1, x6.2.1.2.2.2.2))))
              else some (x6.2.2.2.1, ([], (x6.2.1.2.2.1, (x6.2.2.2.2.2.1, x6.2.2.2.2.2.2))))
            else bif x6.2.1.1 == (4 : Int) then
                some (x6.2.2.2.1, ([], (x6.2.2.2.2.1, (x6.2.1.2.2.2.1, x6.2.1.2.2.2.2))))
              else some (x6.2.2.2.1, ([], (x6.2.2.2.2.1, (x6.2.2.2.2.2.1, x6.2.2.2.2.2.2))))
    | Sum.inr x6 =>
        some x6
noncomputable def e_r34_Plain : TEnt := ⟨35, .agg (.cons (.int .i64) (.cons (.sl (.int .u8)) (.cons (.int .u64) (.cons (.int .i64) (.int .i64))))), [], [(.agg (.cons (.int .i64) (.cons (.sl (.int .u8)) (.cons (.int .u64) (.cons (.int .i64) (.int .i64))))), [])], fun s => m_r34_Plain s.1 s.2.1 s.2.2.1 s.2.2.2.1 s.2.2.2.2⟩
theorem e_r34_Plain_ok : EntT Try.prog e_r34_Plain := ent_of (tab := []) (loops := []) (joins := [(73, [1, 2, 3, 14], (.cons (.ptr 0 0) (.cons (.ptr 1 0) (.cons (.ptr 2 0) .bool))), [.st (.cons (.int .i64) (.cons (.sl (.int .u8)) (.cons (.int .u64) (.cons (.int .i64) (.int .i64))))), .st (.cons (.int .i64) (.cons (.cst (.slice none 0 0)) (.cons (.int .u64) (.cons (.int .i64) (.int .i64))))), .st (.cons (.int .i64) (.cons (.cst (.slice none 0 0)) (.cons (.int .u64) (.cons (.int .i64) (.int .i64)))))])]) _ (by intro e he; simp at he) (fun s => by kernel_rfl) (by kernel_rfl)
/-! prolepsisref34.Bytes -/
noncomputable def m_r34_Bytes_l1_step (x5 : ((List (Int × ((List Int) × (Int × (Int × Int))))) × Int)) (x6 : (List Int)) : Option ((((List (Int × ((List Int) × (Int × (Int × Int))))) × Int) × (List Int)) ⊕ ((List Int) × Int)) :=
  bif decide (x5.2 < (↑x5.1.length : Int)) then
    bif decide ((0 : Int) ≤ x5.2) then
      Option.bind (x5.1[x5.2.toNat]?) fun (x7 : (Int × ((List Int) × (Int × (Int × Int))))) =>
        Option.bind (m_r34_Check x7.1 x7.2.1 x7.2.2.1 x7.2.2.2.1 x7.2.2.2.2) fun (x8 : Int) =>
          bif x8 != (0 : Int) then
            bif decide ((0 : Int) ≤ x5.2) then
              Option.bind (x5.1[x5.2.toNat]?) fun (x9 : (Int × ((List Int) × (Int × (Int × Int))))) =>
                Option.bind (m_r34_Check x9.1 x9.2.1 x9.2.2.1 x9.2.2.2.1 x9.2.2.2.2) fun (x10 : Int) =>
                  some (Sum.inr ([], x10))
            else none
          else bif decide ((0 : Int) ≤ x5.2) then
              Option.bind (x5.1[x5.2.toNat]?) fun (x9 : (Int × ((List Int) × (Int × (Int × Int))))) =>
                bif decide ((1 : Nat) = (1 : Nat)) then
                  bif decide (x6.length = x6.length ∧ x6.length + (1 : Nat) ≤ (140737488355328 : Nat)) then
                    bif decide ((0 : Int) ≤ x5.2) then
                      Option.bind (x5.1[x5.2.toNat]?) fun (x10 : (Int × ((List Int) × (Int × (Int × Int))))) =>
                        bif decide (x10.1 < (3 : Int)) then
                          bif decide ((0 : Int) ≤ x5.2) then
                            Option.bind (x5.1[x5.2.toNat]?) fun (x11 : (Int × ((List Int) × (Int × (Int × Int))))) =>
                              Option.bind (m_r01_Bytes (Go.IntKind.u64.wrap (↑x11.2.1.length : Int))) fun (x12 : (List Int)) =>
                                bif decide ((x6 ++ [Go.IntKind.u8.wrap x9.1]).length = x6.length + (1 : Nat) ∧ x6.length + (1 : Nat) + List.length x12 ≤ (140737488355328 : Nat)) then
                                  bif decide ((0 : Int) ≤ x5.2) then
                                    Option.bind (x5.1[x5.2.toNat]?) fun (x13 : (Int × ((List Int) × (Int × (Int × Int))))) =>
                                      bif decide ((x6 ++ [Go.IntKind.u8.wrap x9.1] ++ x12).length = x6.length + (1 : Nat) + List.length x12 ∧ x6.length + (1 : Nat) + List.length x12 + x13.2.1.length ≤ (140737488355328 : Nat)) then
                                        bif decide (x6.length + (1 : Nat) + List.length x12 + x13.2.1.length = (x6 ++ [Go.IntKind.u8.wrap x9.1] ++ x12 ++ x13.2.1).length) then
                                          some (Sum.inl ((x5.1, (Go.IntKind.i64.wrap (x5.2 + (1 : Int)))), (x6 ++ [Go.IntKind.u8.wrap x9.1] ++ x12 ++ x13.2.1)))
                                        else none
                                      else none
                                  else none
                                else none
                          else none
                        else bif decide ((0 : Int) ≤ x5.2) then
                            Option.bind (x5.1[x5.2.toNat]?) fun (x11 : (Int × ((List Int) × (Int × (Int × Int))))) =>
                              bif x11.1 == (4 : Int) then
                                bif decide ((0 : Int) ≤ x5.2) then
                                  Option.bind (x5.1[x5.2.toNat]?) fun (x12 : (Int × ((List Int) × (Int × (Int × Int))))) =>
                                    bif decide ((0 : Int) ≤ x5.2) then
                                      Option.bind (x5.1[x5.2.toNat]?) fun (x13 : (Int × ((List Int) × (Int × (Int × Int))))) =>
                                        bif decide ((2 : Nat) = (2 : Nat)) then
                                          Option.bind (m_r01_All [Go.IntKind.u64.wrap x12.2.2.2.1, Go.IntKind.u64.wrap x13.2.2.2.2]) fun (x14 : (List Int)) =>
                                            bif decide ((x6 ++ [Go.IntKind.u8.wrap x9.1]).length = x6.length + (1 : Nat) ∧ x6.length + (1 : Nat) + List.length x14 ≤ (140737488355328 : Nat)) then
                                              bif decide (x6.length + (1 : Nat) + List.length x14 = (x6 ++ [Go.IntKind.u8.wrap x9.1] ++ x14).length) then
                                                some (Sum.inl ((x5.1, (Go.IntKind.i64.wrap (x5.2 + (1 : Int)))), (x6 ++ [Go.IntKind.u8.wrap x9.1] ++ x14)))
                                              else none
                                            else none
                                        else none
                                    else none
                                else none
                              else bif decide ((0 : Int) ≤ x5.2) then
                                  Option.bind (x5.1[x5.2.toNat]?) fun (x12 : (Int × ((List Int) × (Int × (Int × Int))))) =>
                                    Option.bind (m_r01_Bytes x12.2.2.1) fun (x13 : (List Int)) =>
                                      bif decide ((x6 ++ [Go.IntKind.u8.wrap x9.1]).length = x6.length + (1 : Nat) ∧ x6.length + (1 : Nat) + List.length x13 ≤ (140737488355328 : Nat)) then
                                        bif decide (x6.length + (1 : Nat) + List.length x13 = (x6 ++ [Go.IntKind.u8.wrap x9.1] ++ x13).length) then
                                          some (Sum.inl ((x5.1, (Go.IntKind.i64.wrap (x5.2 + (1 : Int)))), (x6 ++ [Go.IntKind.u8.wrap x9.1] ++ x13)))
                                        else none
                                      else none
                                else none
                          else none
                    else none
                  else none
                else none
            else none
    else none
  else bif decide (x6.length = x6.length) then
      some (Sum.inr (x6, ((0 : Int))))
    else none
noncomputable def m_r34_Bytes_l1 : (((List (Int × ((List Int) × (Int × (Int × Int))))) × Int) × (List Int)) → Option ((List Int) × Int) := loopM fun s => m_r34_Bytes_l1_step s.1 s.2
noncomputable def m_r34_Bytes (x0 : Int) (x1 : Int) (x2 : (List (Int × ((List Int) × (Int × (Int × Int)))))) : Option ((List Int) × Int) :=
  Option.bind (m_r07_Size x0 x1) fun (x3 : Bool) =>
    bif !x3 then
      some ([], ((11 : Int)))
    else bif decide ((2 : Nat) = (2 : Nat)) then
        Option.bind (m_r01_All [Go.IntKind.u64.wrap x0, Go.IntKind.u64.wrap x1]) fun (x4 : (List Int)) =>
          bif decide ((1 : Nat) = (1 : Nat) ∧ (1 : Nat) + List.length x4 ≤ (140737488355328 : Nat)) then
            bif decide ((1 : Nat) + List.length x4 = ([(84 : Int)] ++ x4).length) then
              Option.bind (m_r34_Bytes_l1 ((x2, ((0 : Int))), ([(84 : Int)] ++ x4))) fun (x5 : ((List Int) × Int)) =>
                some x5
            else none
          else none
      else none
noncomputable def e_r34_Bytes : TEnt := ⟨36, .cons (.int .i64) (.cons (.int .i64) (.sl (.pair (.int .i64) (.pair (.sl (.int .u8)) (.pair (.int .u64) (.pair (.int .i64) (.int .i64))))))), [], [(.tup (.cons (.sl (.int .u8)) (.int .i64)), [])], fun s => m_r34_Bytes s.1 s.2.1 s.2.2⟩
theorem e_r34_Bytes_ok : EntT Try.prog e_r34_Bytes := ent_of (tab := [e_r01_Bytes, e_r01_All, e_r07_Size, e_r34_Check]) (loops := [(299594, [2, 8, 9], (.cons (.sl (.pair (.int .i64) (.pair (.sl (.int .u8)) (.pair (.int .u64) (.pair (.int .i64) (.int .i64)))))) (.cons (.own 0) (.int .i64))), [.li (.int .u8) 5 true])]) (joins := []) _ (by
    intro e he
    simp only [List.mem_cons, List.not_mem_nil, or_false] at he
    rcases he with rfl | rfl | rfl | rfl
    · exact e_r01_Bytes_ok
    · exact e_r01_All_ok
    · exact e_r07_Size_ok
    · exact e_r34_Check_ok) (fun s => by kernel_rfl) (by kernel_rfl)
/-! prolepsisref34.Parse -/
noncomputable def m_r34_Parse_l1_step (x7 : ((List Int) × (Int × Int))) (x8 : ((List Int) × (Int × Int))) (x9 : (List (Int × ((List Int) × (Int × (Int × Int)))))) : Option ((((List Int) × (Int × Int)) × (((List Int) × (Int × Int)) × (List (Int × ((List Int) × (Int × (Int × Int))))))) ⊕ (Int × (Int × ((List (Int × ((List Int) × (Int × (Int × Int))))) × Int)))) :=
  Option.bind (
    bif x8.2.2 == (0 : Int) then
      bif decide (x9.length = x9.length) then
        some (Sum.inl ((x7.1, (x7.2.1, (x7.2.2, (decide (x8.2.1 < (↑x7.1.length : Int)))))), ((x8.1, (x8.2.1, x8.2.2)), x9)))
      else none
    else bif decide (x9.length = x9.length) then
        some (Sum.inl ((x7.1, (x7.2.1, (x7.2.2, Bool.false))), ((x8.1, (x8.2.1, x8.2.2)), x9)))
      else none) fun (x10 : ((((List Int) × (Int × (Int × Bool))) × (((List Int) × (Int × Int)) × (List (Int × ((List Int) × (Int × (Int × Int))))))) ⊕ ((((List Int) × (Int × Int)) × (((List Int) × (Int × Int)) × (List (Int × ((List Int) × (Int × (Int × Int))))))) ⊕ (Int × (Int × ((List (Int × ((List Int) × (Int × (Int × Int))))) × Int)))))) =>
    match x10 with
    | Sum.inl x11 =>
        bif x11.1.2.2.2 then
          Option.bind (m_r01_Number x11.2.1.1 x11.2.1.2.1 x11.2.1.2.2) fun (x12 : (((List Int) × (Int × Int)) × Int)) =>
            Option.bind (
              bif x12.1.2.2 == (0 : Int) then
                bif decide (x12.2 < (1 : Int)) then
                  bif decide (x11.2.2.length = x11.2.2.length) then
                    some (Sum.inl ((x11.1.1, (x11.1.2.1, (x11.1.2.2.1, (x12.2, Bool.true)))), ((x12.1.1, (x12.1.2.1, x12.1.2.2)), (x11.2.2, (((0 : Int)), (((0 : Int)), (((0 : Int)), ((0 : Int)))))))))
                  else none
                else bif decide (x11.2.2.length = x11.2.2.length) then
                    some (Sum.inl ((x11.1.1, (x11.1.2.1, (x11.1.2.2.1, (x12.2, (decide ((5 : Int) < x12.2)))))), ((x12.1.1, (x12.1.2.1, x12.1.2.2)), (x11.2.2, (((0 : Int)), (((0 : Int)), (((0 : Int)), ((0 : Int)))))))))
                  else none
              else bif decide (x11.2.2.length = x11.2.2.length) then
                  some (Sum.inl ((x11.1.1, (x11.1.2.1, (x11.1.2.2.1, (x12.2, Bool.false)))), ((x12.1.1, (x12.1.2.1, x12.1.2.2)), (x11.2.2, (((0 : Int)), (((0 : Int)), (((0 : Int)), ((0 : Int)))))))))
                else none) fun (x13 : ((((List Int) × (Int × (Int × (Int × Bool)))) × (((List Int) × (Int × Int)) × ((List (Int × ((List Int) × (Int × (Int × Int))))) × (Int × (Int × (Int × Int)))))) ⊕ ((((List Int) × (Int × Int)) × (((List Int) × (Int × Int)) × (List (Int × ((List Int) × (Int × (Int × Int))))))) ⊕ (Int × (Int × ((List (Int × ((List Int) × (Int × (Int × Int))))) × Int)))))) =>
              match x13 with
              | Sum.inl x14 =>
                  Option.bind (
                    bif x14.1.2.2.2.2 then
                      bif decide (x14.2.2.1.length = x14.2.2.1.length) then
                        some (Sum.inl ((x14.1.1, (x14.1.2.1, (x14.1.2.2.1, x14.1.2.2.2.1))), ((x14.2.1.1, (x14.2.1.2.1, ((9 : Int)))), (x14.2.2.1, (x14.2.2.2.1, (x14.2.2.2.2.1, (x14.2.2.2.2.2.1, x14.2.2.2.2.2.2)))))))
                      else none
                    else bif decide (x14.2.2.1.length = x14.2.2.1.length) then
                        some (Sum.inl ((x14.1.1, (x14.1.2.1, (x14.1.2.2.1, x14.1.2.2.2.1))), ((x14.2.1.1, (x14.2.1.2.1, x14.2.1.2.2)), (x14.2.2.1, (x14.2.2.2.1, (x14.2.2.2.2.1, (x14.2.2.2.2.2.1, x14.2.2.2.2.2.2)))))))
                      else none) fun (x15 : ((((List Int) × (Int × (Int × Int))) × (((List Int) × (Int × Int)) × ((List (Int × ((List Int) × (Int × (Int × Int))))) × (Int × (Int × (Int × Int)))))) ⊕ ((((List Int) × (Int × Int)) × (((List Int) × (Int × Int)) × (List (Int × ((List Int) × (Int × (Int × Int))))))) ⊕ (Int × (Int × ((List (Int × ((List Int) × (Int × (Int × Int))))) × Int)))))) =>
                    match x15 with
                    | Sum.inl x16 =>
                        Option.bind (
                          bif x16.1.2.2.2 == (1 : Int) then
                            bif decide (x16.2.2.1.length = x16.2.2.1.length) then
                              some (Sum.inl ((x16.1.1, (x16.1.2.1, (x16.1.2.2.1, (x16.1.2.2.2, Bool.true)))), ((x16.2.1.1, (x16.2.1.2.1, x16.2.1.2.2)), (x16.2.2.1, ((Go.IntKind.i64.wrap x16.1.2.2.2), (x16.2.2.2.2.1, (x16.2.2.2.2.2.1, x16.2.2.2.2.2.2)))))))
                            else none
                          else bif decide (x16.2.2.1.length = x16.2.2.1.length) then
                              some (Sum.inl ((x16.1.1, (x16.1.2.1, (x16.1.2.2.1, (x16.1.2.2.2, (x16.1.2.2.2 == (2 : Int)))))), ((x16.2.1.1, (x16.2.1.2.1, x16.2.1.2.2)), (x16.2.2.1, ((Go.IntKind.i64.wrap x16.1.2.2.2), (x16.2.2.2.2.1, (x16.2.2.2.2.2.1, x16.2.2.2.2.2.2)))))))
                            else none) fun (x17 : ((((List Int) × (Int × (Int × (Int × Bool)))) × (((List Int) × (Int × Int)) × ((List (Int × ((List Int) × (Int × (Int × Int))))) × (Int × (Int × (Int × Int)))))) ⊕ ((((List Int) × (Int × Int)) × (((List Int) × (Int × Int)) × (List (Int × ((List Int) × (Int × (Int × Int))))))) ⊕ (Int × (Int × ((List (Int × ((List Int) × (Int × (Int × Int))))) × Int)))))) =>
                          match x17 with
                          | Sum.inl x18 =>
                              bif x18.1.2.2.2.2 then
                                Option.bind (m_r01_Up (x18.2.1.1, x18.2.1.2.1, x18.2.1.2.2) (4096 : Int) (5 : Int)) fun (x19 : (((List Int) × (Int × Int)) × Int)) =>
                                  Option.bind (m_r01_Take (x19.1.1, x19.1.2.1, x19.1.2.2) x19.2) fun (x20 : (((List Int) × (Int × Int)) × (List Int))) =>
                                    bif decide ((1 : Nat) = (1 : Nat)) then
                                      bif decide (x18.2.2.1.length = x18.2.2.1.length ∧ x18.2.2.1.length + (1 : Nat) ≤ (2513169434916 : Nat)) then
                                        bif decide (x18.2.2.1.length + (1 : Nat) = (x18.2.2.1 ++ [(x18.2.2.2.1, x20.2, x18.2.2.2.2.1, x18.2.2.2.2.2.1, x18.2.2.2.2.2.2)]).length) then
                                          some (Sum.inl ((x18.1.1, (x18.1.2.1, x18.1.2.2.1)), ((x20.1.1, (x20.1.2.1, x20.1.2.2)), (x18.2.2.1 ++ [(x18.2.2.2.1, x20.2, x18.2.2.2.2.1, x18.2.2.2.2.2.1, x18.2.2.2.2.2.2)]))))
                                        else none
                                      else none
                                    else none
                              else Option.bind (
                                  bif x18.1.2.2.2.1 == (3 : Int) then
                                    bif decide (x18.2.2.1.length = x18.2.2.1.length) then
                                      some (Sum.inl ((x18.1.1, (x18.1.2.1, (x18.1.2.2.1, (x18.1.2.2.2.1, Bool.true)))), ((x18.2.1.1, (x18.2.1.2.1, x18.2.1.2.2)), (x18.2.2.1, (x18.2.2.2.1, (x18.2.2.2.2.1, (x18.2.2.2.2.2.1, x18.2.2.2.2.2.2)))))))
                                    else none
                                  else bif decide (x18.2.2.1.length = x18.2.2.1.length) then
                                      some (Sum.inl ((x18.1.1, (x18.1.2.1, (x18.1.2.2.1, (x18.1.2.2.2.1, (x18.1.2.2.2.1 == (5 : Int)))))), ((x18.2.1.1, (x18.2.1.2.1, x18.2.1.2.2)), (x18.2.2.1, (x18.2.2.2.1, (x18.2.2.2.2.1, (x18.2.2.2.2.2.1, x18.2.2.2.2.2.2)))))))
                                    else none) fun (x19 : ((((List Int) × (Int × (Int × (Int × Bool)))) × (((List Int) × (Int × Int)) × ((List (Int × ((List Int) × (Int × (Int × Int))))) × (Int × (Int × (Int × Int)))))) ⊕ ((((List Int) × (Int × Int)) × (((List Int) × (Int × Int)) × (List (Int × ((List Int) × (Int × (Int × Int))))))) ⊕ (Int × (Int × ((List (Int × ((List Int) × (Int × (Int × Int))))) × Int)))))) =>
                                  match x19 with
                                  | Sum.inl x20 =>
                                      bif x20.1.2.2.2.2 then
                                        Option.bind (m_r01_Number x20.2.1.1 x20.2.1.2.1 x20.2.1.2.2) fun (x21 : (((List Int) × (Int × Int)) × Int)) =>
                                          bif decide ((1 : Nat) = (1 : Nat)) then
                                            bif decide (x20.2.2.1.length = x20.2.2.1.length ∧ x20.2.2.1.length + (1 : Nat) ≤ (2513169434916 : Nat)) then
                                              bif decide (x20.2.2.1.length + (1 : Nat) = (x20.2.2.1 ++ [(x20.2.2.2.1, [], x21.2, x20.2.2.2.2.2.1, x20.2.2.2.2.2.2)]).length) then
                                                some (Sum.inl ((x20.1.1, (x20.1.2.1, x20.1.2.2.1)), ((x21.1.1, (x21.1.2.1, x21.1.2.2)), (x20.2.2.1 ++ [(x20.2.2.2.1, [], x21.2, x20.2.2.2.2.2.1, x20.2.2.2.2.2.2)]))))
                                              else none
                                            else none
                                          else none
                                      else bif x20.1.2.2.2.1 == (4 : Int) then
                                          Option.bind (m_r01_Up (x20.2.1.1, x20.2.1.2.1, x20.2.1.2.2) (1048576 : Int) (5 : Int)) fun (x21 : (((List Int) × (Int × Int)) × Int)) =>
                                            Option.bind (m_r01_Up (x21.1.1, x21.1.2.1, x21.1.2.2) (1048576 : Int) (5 : Int)) fun (x22 : (((List Int) × (Int × Int)) × Int)) =>
                                              bif decide ((1 : Nat) = (1 : Nat)) then
                                                bif decide (x20.2.2.1.length = x20.2.2.1.length ∧ x20.2.2.1.length + (1 : Nat) ≤ (2513169434916 : Nat)) then
                                                  bif decide (x20.2.2.1.length + (1 : Nat) = (x20.2.2.1 ++ [(x20.2.2.2.1, [], x20.2.2.2.2.1, x21.2, x22.2)]).length) then
                                                    some (Sum.inl ((x20.1.1, (x20.1.2.1, x20.1.2.2.1)), ((x22.1.1, (x22.1.2.1, x22.1.2.2)), (x20.2.2.1 ++ [(x20.2.2.2.1, [], x20.2.2.2.2.1, x21.2, x22.2)]))))
                                                  else none
                                                else none
                                              else none
                                        else bif decide ((1 : Nat) = (1 : Nat)) then
                                            bif decide (x20.2.2.1.length = x20.2.2.1.length ∧ x20.2.2.1.length + (1 : Nat) ≤ (2513169434916 : Nat)) then
                                              bif decide (x20.2.2.1.length + (1 : Nat) = (x20.2.2.1 ++ [(x20.2.2.2.1, [], x20.2.2.2.2.1, x20.2.2.2.2.2.1, x20.2.2.2.2.2.2)]).length) then
                                                some (Sum.inl ((x20.1.1, (x20.1.2.1, x20.1.2.2.1)), ((x20.2.1.1, (x20.2.1.2.1, x20.2.1.2.2)), (x20.2.2.1 ++ [(x20.2.2.2.1, [], x20.2.2.2.2.1, x20.2.2.2.2.2.1, x20.2.2.2.2.2.2)]))))
                                              else none
                                            else none
                                          else none
                                  | Sum.inr x20 =>
                                      some x20
                          | Sum.inr x18 =>
                              some x18
                    | Sum.inr x16 =>
                        some x16
              | Sum.inr x14 =>
                  some x14
        else bif x11.2.1.2.2 != (0 : Int) then
            some (Sum.inr (((0 : Int)), (((0 : Int)), ([], x11.2.1.2.2))))
          else bif decide (x11.2.2.length = x11.2.2.length) then
              some (Sum.inr (x11.1.2.1, (x11.1.2.2.1, (x11.2.2, ((0 : Int))))))
            else none
    | Sum.inr x11 =>
        some x11
noncomputable def m_r34_Parse_l1 : (((List Int) × (Int × Int)) × (((List Int) × (Int × Int)) × (List (Int × ((List Int) × (Int × (Int × Int))))))) → Option (Int × (Int × ((List (Int × ((List Int) × (Int × (Int × Int))))) × Int))) := loopM fun s => m_r34_Parse_l1_step s.1 s.2.1 s.2.2
noncomputable def m_r34_Parse (x0 : (List Int)) : Option (Int × (Int × ((List (Int × ((List Int) × (Int × (Int × Int))))) × Int))) :=
  Option.bind (
    bif (↑x0.length : Int) == (0 : Int) then
      some (Sum.inl (x0, Bool.true))
    else Option.bind (x0[(0 : Nat)]?) fun (x1 : Int) =>
        some (Sum.inl (x0, (x1 != (84 : Int))))) fun (x1 : (((List Int) × Bool) ⊕ (Int × (Int × ((List (Int × ((List Int) × (Int × (Int × Int))))) × Int))))) =>
    match x1 with
    | Sum.inl x2 =>
        bif x2.2 then
          some (((0 : Int)), (((0 : Int)), ([], ((12 : Int)))))
        else Option.bind (m_r01_Up (x2.1, (1 : Int), (0 : Int)) (512 : Int) (5 : Int)) fun (x3 : (((List Int) × (Int × Int)) × Int)) =>
            Option.bind (m_r01_Up (x3.1.1, x3.1.2.1, x3.1.2.2) (512 : Int) (5 : Int)) fun (x4 : (((List Int) × (Int × Int)) × Int)) =>
              bif x4.1.2.2 == (0 : Int) then
                bif x3.2 == (0 : Int) then
                  Option.bind (
                    some (Sum.inl ((x2.1, (x3.2, x4.2)), (x4.1.1, (x4.1.2.1, ((11 : Int))))))) fun (x5 : ((((List Int) × (Int × Int)) × ((List Int) × (Int × Int))) ⊕ (Int × (Int × ((List (Int × ((List Int) × (Int × (Int × Int))))) × Int))))) =>
                    match x5 with
                    | Sum.inl x6 =>
                        Option.bind (m_r34_Parse_l1 ((x6.1.1, (x6.1.2.1, x6.1.2.2)), ((x6.2.1, (x6.2.2.1, x6.2.2.2)), []))) fun (x7 : (Int × (Int × ((List (Int × ((List Int) × (Int × (Int × Int))))) × Int)))) =>
                          some x7
                    | Sum.inr x6 =>
                        some x6
                else Option.bind (
                    bif x4.2 == (0 : Int) then
                      some (Sum.inl ((x2.1, (x3.2, x4.2)), (x4.1.1, (x4.1.2.1, ((11 : Int))))))
                    else some (Sum.inl ((x2.1, (x3.2, x4.2)), (x4.1.1, (x4.1.2.1, x4.1.2.2))))) fun (x5 : ((((List Int) × (Int × Int)) × ((List Int) × (Int × Int))) ⊕ (Int × (Int × ((List (Int × ((List Int) × (Int × (Int × Int))))) × Int))))) =>
                    match x5 with
                    | Sum.inl x6 =>
                        Option.bind (m_r34_Parse_l1 ((x6.1.1, (x6.1.2.1, x6.1.2.2)), ((x6.2.1, (x6.2.2.1, x6.2.2.2)), []))) fun (x7 : (Int × (Int × ((List (Int × ((List Int) × (Int × (Int × Int))))) × Int)))) =>
                          some x7
                    | Sum.inr x6 =>
                        some x6
              else Option.bind (
                  some (Sum.inl ((x2.1, (x3.2, x4.2)), (x4.1.1, (x4.1.2.1, x4.1.2.2))))) fun (x5 : ((((List Int) × (Int × Int)) × ((List Int) × (Int × Int))) ⊕ (Int × (Int × ((List (Int × ((List Int) × (Int × (Int × Int))))) × Int))))) =>
                  match x5 with
                  | Sum.inl x6 =>
                      Option.bind (m_r34_Parse_l1 ((x6.1.1, (x6.1.2.1, x6.1.2.2)), ((x6.2.1, (x6.2.2.1, x6.2.2.2)), []))) fun (x7 : (Int × (Int × ((List (Int × ((List Int) × (Int × (Int × Int))))) × Int)))) =>
                        some x7
                  | Sum.inr x6 =>
                      some x6
    | Sum.inr x2 =>
        some x2
noncomputable def e_r34_Parse : TEnt := ⟨24, .sl (.int .u8), [], [(.tup (.cons (.int .i64) (.cons (.int .i64) (.cons (.sl (.pair (.int .i64) (.pair (.sl (.int .u8)) (.pair (.int .u64) (.pair (.int .i64) (.int .i64)))))) (.int .i64)))), [])], fun s => m_r34_Parse s⟩
theorem e_r34_Parse_ok : EntT Try.prog e_r34_Parse := ent_of (tab := [e_r01_Number, e_r01_Up, e_r01_Take]) (loops := [(153391690, [0, 6, 7, 8, 9], (.cons (.sl (.int .u8)) (.cons (.ptr 0 0) (.cons (.int .i64) (.cons (.int .i64) (.own 1))))), [.st (.cons (.sl (.int .u8)) (.cons (.int .i64) (.int .i64))), .li (.pair (.int .i64) (.pair (.sl (.int .u8)) (.pair (.int .u64) (.pair (.int .i64) (.int .i64))))) 66 false])]) (joins := [(9, [0, 22], (.cons (.sl (.int .u8)) .bool), []), (299593, [0, 6, 7, 8], (.cons (.sl (.int .u8)) (.cons (.ptr 0 0) (.cons (.int .i64) (.int .i64)))), [.st (.cons (.sl (.int .u8)) (.cons (.int .i64) (.int .i64)))]), (1227133522, [0, 6, 7, 8, 9, 55], (.cons (.sl (.int .u8)) (.cons (.ptr 0 0) (.cons (.int .i64) (.cons (.int .i64) (.cons (.own 1) .bool))))), [.st (.cons (.sl (.int .u8)) (.cons (.int .i64) (.int .i64))), .li (.pair (.int .i64) (.pair (.sl (.int .u8)) (.pair (.int .u64) (.pair (.int .i64) (.int .i64))))) 66 false]), (321685690029129, [0, 6, 7, 8, 9, 10, 12, 72], (.cons (.sl (.int .u8)) (.cons (.ptr 0 0) (.cons (.int .i64) (.cons (.int .i64) (.cons (.own 1) (.cons (.ptr 2 0) (.cons (.int .u64) .bool))))))), [.st (.cons (.sl (.int .u8)) (.cons (.int .i64) (.int .i64))), .li (.pair (.int .i64) (.pair (.sl (.int .u8)) (.pair (.int .u64) (.pair (.int .i64) (.int .i64))))) 66 false, .st (.cons (.int .i64) (.cons (.cst (.slice none 0 0)) (.cons (.int .u64) (.cons (.int .i64) (.int .i64)))))]), (2573485520233033, [0, 6, 7, 8, 9, 10, 12], (.cons (.sl (.int .u8)) (.cons (.ptr 0 0) (.cons (.int .i64) (.cons (.int .i64) (.cons (.own 1) (.cons (.ptr 2 0) (.int .u64))))))), [.st (.cons (.sl (.int .u8)) (.cons (.int .i64) (.int .i64))), .li (.pair (.int .i64) (.pair (.sl (.int .u8)) (.pair (.int .u64) (.pair (.int .i64) (.int .i64))))) 66 false, .st (.cons (.int .i64) (.cons (.cst (.slice none 0 0)) (.cons (.int .u64) (.cons (.int .i64) (.int .i64)))))]), (674623788215968240209, [0, 6, 7, 8, 9, 10, 77, 78], (.cons (.sl (.int .u8)) (.cons (.ptr 0 0) (.cons (.int .i64) (.cons (.int .i64) (.cons (.own 1) (.cons (.ptr 2 0) (.cons (.int .u64) .bool))))))), [.st (.cons (.sl (.int .u8)) (.cons (.int .i64) (.int .i64))), .li (.pair (.int .i64) (.pair (.sl (.int .u8)) (.pair (.int .u64) (.pair (.int .i64) (.int .i64))))) 66 false, .st (.cons (.int .i64) (.cons (.cst (.slice none 0 0)) (.cons (.int .u64) (.cons (.int .i64) (.int .i64)))))]), (345407379566575738987097, [0, 6, 7, 8, 9, 10, 77, 93], (.cons (.sl (.int .u8)) (.cons (.ptr 0 0) (.cons (.int .i64) (.cons (.int .i64) (.cons (.own 1) (.cons (.ptr 2 0) (.cons (.int .u64) .bool))))))), [.st (.cons (.sl (.int .u8)) (.cons (.int .i64) (.int .i64))), .li (.pair (.int .i64) (.pair (.sl (.int .u8)) (.pair (.int .u64) (.pair (.int .i64) (.int .i64))))) 66 false, .st (.cons (.int .i64) (.cons (.cst (.slice none 0 0)) (.cons (.int .u64) (.cons (.int .i64) (.int .i64)))))])]) _ (by
    intro e he
    simp only [List.mem_cons, List.not_mem_nil, or_false] at he
    rcases he with rfl | rfl | rfl
    · exact e_r01_Number_ok
    · exact e_r01_Up_ok
    · exact e_r01_Take_ok) (fun s => by kernel_rfl) (by kernel_rfl)
/-! prolepsisref34.Same -/
noncomputable def m_r34_Same_l1_step (x2 : (List (Int × ((List Int) × (Int × (Int × Int)))))) (x3 : (List (Int × ((List Int) × (Int × (Int × Int)))))) (x4 : Int) : Option (((List (Int × ((List Int) × (Int × (Int × Int))))) × ((List (Int × ((List Int) × (Int × (Int × Int))))) × Int)) ⊕ Bool) :=
  bif decide (x4 < (↑(List.length x2) : Int)) then
    bif decide ((0 : Int) ≤ x4) then
      Option.bind (x2[x4.toNat]?) fun (x5 : (Int × ((List Int) × (Int × (Int × Int))))) =>
        bif decide ((0 : Int) ≤ x4) then
          Option.bind (x3[x4.toNat]?) fun (x6 : (Int × ((List Int) × (Int × (Int × Int))))) =>
            bif x5.1 != x6.1 then
              some (Sum.inr Bool.false)
            else bif decide ((0 : Int) ≤ x4) then
                Option.bind (x2[x4.toNat]?) fun (x7 : (Int × ((List Int) × (Int × (Int × Int))))) =>
                  bif decide ((0 : Int) ≤ x4) then
                    Option.bind (x3[x4.toNat]?) fun (x8 : (Int × ((List Int) × (Int × (Int × Int))))) =>
                      bif x7.2.2.1 != x8.2.2.1 then
                        some (Sum.inr Bool.false)
                      else bif decide ((0 : Int) ≤ x4) then
                          Option.bind (x2[x4.toNat]?) fun (x9 : (Int × ((List Int) × (Int × (Int × Int))))) =>
                            bif decide ((0 : Int) ≤ x4) then
                              Option.bind (x3[x4.toNat]?) fun (x10 : (Int × ((List Int) × (Int × (Int × Int))))) =>
                                bif x9.2.2.2.1 != x10.2.2.2.1 then
                                  some (Sum.inr Bool.false)
                                else bif decide ((0 : Int) ≤ x4) then
                                    Option.bind (x2[x4.toNat]?) fun (x11 : (Int × ((List Int) × (Int × (Int × Int))))) =>
                                      bif decide ((0 : Int) ≤ x4) then
                                        Option.bind (x3[x4.toNat]?) fun (x12 : (Int × ((List Int) × (Int × (Int × Int))))) =>
                                          bif x11.2.2.2.2 != x12.2.2.2.2 then
                                            some (Sum.inr Bool.false)
                                          else bif decide ((0 : Int) ≤ x4) then
                                              Option.bind (x2[x4.toNat]?) fun (x13 : (Int × ((List Int) × (Int × (Int × Int))))) =>
                                                bif decide ((0 : Int) ≤ x4) then
                                                  Option.bind (x3[x4.toNat]?) fun (x14 : (Int × ((List Int) × (Int × (Int × Int))))) =>
                                                    bif !(Go.strOfNums x13.2.1).toList == (Go.strOfNums x14.2.1).toList then
                                                      some (Sum.inr Bool.false)
                                                    else some (Sum.inl (x2, (x3, (Go.IntKind.i64.wrap (x4 + (1 : Int))))))
                                                else none
                                            else none
                                      else none
                                  else none
                            else none
                        else none
                  else none
              else none
        else none
    else none
  else some (Sum.inr Bool.true)
noncomputable def m_r34_Same_l1 : ((List (Int × ((List Int) × (Int × (Int × Int))))) × ((List (Int × ((List Int) × (Int × (Int × Int))))) × Int)) → Option Bool := loopM fun s => m_r34_Same_l1_step s.1 s.2.1 s.2.2
noncomputable def m_r34_Same (x0 : (List (Int × ((List Int) × (Int × (Int × Int)))))) (x1 : (List (Int × ((List Int) × (Int × (Int × Int)))))) : Option Bool :=
  bif (↑(List.length x0) : Int) != (↑x1.length : Int) then
    some Bool.false
  else Option.bind (m_r34_Same_l1 (x0, (x1, ((0 : Int))))) fun (x2 : Bool) =>
      some x2
noncomputable def e_r34_Same : TEnt := ⟨25, .cons (.sl (.pair (.int .i64) (.pair (.sl (.int .u8)) (.pair (.int .u64) (.pair (.int .i64) (.int .i64)))))) (.sl (.pair (.int .i64) (.pair (.sl (.int .u8)) (.pair (.int .u64) (.pair (.int .i64) (.int .i64)))))), [], [(.bool, [])], fun s => m_r34_Same s.1 s.2⟩
theorem e_r34_Same_ok : EntT Try.prog e_r34_Same := ent_of (tab := []) (loops := [(37450, [0, 1, 5], (.cons (.sl (.pair (.int .i64) (.pair (.sl (.int .u8)) (.pair (.int .u64) (.pair (.int .i64) (.int .i64)))))) (.cons (.sl (.pair (.int .i64) (.pair (.sl (.int .u8)) (.pair (.int .u64) (.pair (.int .i64) (.int .i64)))))) (.int .i64))), [])]) (joins := []) _ (by intro e he; simp at he) (fun s => by kernel_rfl) (by kernel_rfl)
/-! prolepsislaw29.Of -/
noncomputable def m_L29_Of (x0 : Int) (x1 : (List Int)) (x2 : Int) (x3 : Int) (x4 : Int) : Option (Int × ((List Int) × (Int × (Int × Int)))) :=
  some (x0, (x1, (x2, (x3, x4))))
noncomputable def e_L29_Of : TEnt := ⟨33, .agg (.cons (.int .i64) (.cons (.sl (.int .u8)) (.cons (.int .u64) (.cons (.int .i64) (.int .i64))))), [], [(.agg (.cons (.int .i64) (.cons (.sl (.int .u8)) (.cons (.int .u64) (.cons (.int .i64) (.int .i64))))), [])], fun s => m_L29_Of s.1 s.2.1 s.2.2.1 s.2.2.2.1 s.2.2.2.2⟩
theorem e_L29_Of_ok : EntT Try.prog e_L29_Of := ent_of (tab := []) (loops := []) (joins := []) _ (by intro e he; simp at he) (fun s => by kernel_rfl) (by kernel_rfl)
/-! prolepsislaw34.ofs -/
noncomputable def m_L34_ofs_l1_step (x1 : ((List (Int × ((List Int) × (Int × (Int × Int))))) × Int)) (x2 : (List (Int × ((List Int) × (Int × (Int × Int)))))) : Option ((((List (Int × ((List Int) × (Int × (Int × Int))))) × Int) × (List (Int × ((List Int) × (Int × (Int × Int)))))) ⊕ (List (Int × ((List Int) × (Int × (Int × Int)))))) :=
  bif decide (x1.2 < (↑x1.1.length : Int)) then
    bif decide ((0 : Int) ≤ x1.2) then
      Option.bind (x1.1[x1.2.toNat]?) fun (x3 : (Int × ((List Int) × (Int × (Int × Int))))) =>
        Option.bind (m_L29_Of x3.1 x3.2.1 x3.2.2.1 x3.2.2.2.1 x3.2.2.2.2) fun (x4 : (Int × ((List Int) × (Int × (Int × Int))))) =>
          bif decide ((1 : Nat) = (1 : Nat)) then
            bif decide (x2.length = x2.length ∧ x2.length + (1 : Nat) ≤ (2513169434916 : Nat)) then
              bif decide (x2.length + (1 : Nat) = (x2 ++ [(x4.1, x4.2.1, x4.2.2.1, x4.2.2.2.1, x4.2.2.2.2)]).length) then
                some (Sum.inl ((x1.1, (Go.IntKind.i64.wrap (x1.2 + (1 : Int)))), (x2 ++ [(x4.1, x4.2.1, x4.2.2.1, x4.2.2.2.1, x4.2.2.2.2)])))
              else none
            else none
          else none
    else none
  else bif decide (x2.length = x2.length) then
      some (Sum.inr x2)
    else none
noncomputable def m_L34_ofs_l1 : (((List (Int × ((List Int) × (Int × (Int × Int))))) × Int) × (List (Int × ((List Int) × (Int × (Int × Int)))))) → Option (List (Int × ((List Int) × (Int × (Int × Int))))) := loopM fun s => m_L34_ofs_l1_step s.1 s.2
noncomputable def m_L34_ofs (x0 : (List (Int × ((List Int) × (Int × (Int × Int)))))) : Option (List (Int × ((List Int) × (Int × (Int × Int))))) :=
  Option.bind (m_L34_ofs_l1 ((x0, ((0 : Int))), [])) fun (x1 : (List (Int × ((List Int) × (Int × (Int × Int)))))) =>
    some x1
noncomputable def e_L34_ofs : TEnt := ⟨26, .sl (.pair (.int .i64) (.pair (.sl (.int .u8)) (.pair (.int .u64) (.pair (.int .i64) (.int .i64))))), [], [(.sl (.pair (.int .i64) (.pair (.sl (.int .u8)) (.pair (.int .u64) (.pair (.int .i64) (.int .i64))))), [])], fun s => m_L34_ofs s⟩
theorem e_L34_ofs_ok : EntT Try.prog e_L34_ofs := ent_of (tab := [e_L29_Of]) (loops := [(4682, [0, 3, 4], (.cons (.sl (.pair (.int .i64) (.pair (.sl (.int .u8)) (.pair (.int .u64) (.pair (.int .i64) (.int .i64)))))) (.cons (.own 0) (.int .i64))), [.li (.pair (.int .i64) (.pair (.sl (.int .u8)) (.pair (.int .u64) (.pair (.int .i64) (.int .i64))))) 66 false])]) (joins := []) _ (by
    intro e he
    simp only [List.mem_cons, List.not_mem_nil, or_false] at he
    rcases he with rfl
    · exact e_L29_Of_ok) (fun s => by kernel_rfl) (by kernel_rfl)
/-! prolepsislaw34.cut -/
noncomputable def m_L34_cut_l1_step (x1 : ((List (Int × ((List Int) × (Int × (Int × Int))))) × Int)) (x2 : (List (Int × ((List Int) × (Int × (Int × Int)))))) : Option ((((List (Int × ((List Int) × (Int × (Int × Int))))) × Int) × (List (Int × ((List Int) × (Int × (Int × Int)))))) ⊕ (List (Int × ((List Int) × (Int × (Int × Int)))))) :=
  bif decide (x1.2 < (↑x1.1.length : Int)) then
    bif decide (x1.2 < (30 : Int)) then
      bif decide ((0 : Int) ≤ x1.2) then
        Option.bind (x1.1[x1.2.toNat]?) fun (x3 : (Int × ((List Int) × (Int × (Int × Int))))) =>
          bif decide (((0 : Int) ≤ if (400 : Int) < (↑x3.2.1.length : Int) then (400 : Int) else (↑x3.2.1.length : Int)) ∧ (if (400 : Int) < (↑x3.2.1.length : Int) then (400 : Int) else (↑x3.2.1.length : Int)).toNat ≤ x3.2.1.length) then
            bif decide ((1 : Nat) = (1 : Nat)) then
              bif decide (x2.length = x2.length ∧ x2.length + (1 : Nat) ≤ (2513169434916 : Nat)) then
                bif decide (x2.length + (1 : Nat) = (x2 ++ [(x3.1, List.take (if (400 : Int) < (↑x3.2.1.length : Int) then (400 : Int) else (↑x3.2.1.length : Int)).toNat x3.2.1, x3.2.2.1, x3.2.2.2.1, x3.2.2.2.2)]).length) then
                  some (Sum.inl ((x1.1, (Go.IntKind.i64.wrap (x1.2 + (1 : Int)))), (x2 ++ [(x3.1, List.take (if (400 : Int) < (↑x3.2.1.length : Int) then (400 : Int) else (↑x3.2.1.length : Int)).toNat x3.2.1, x3.2.2.1, x3.2.2.2.1, x3.2.2.2.2)])))
                else none
              else none
            else none
          else none
      else none
    else bif decide (x2.length = x2.length) then
        some (Sum.inr x2)
      else none
  else bif decide (x2.length = x2.length) then
      some (Sum.inr x2)
    else none
noncomputable def m_L34_cut_l1 : (((List (Int × ((List Int) × (Int × (Int × Int))))) × Int) × (List (Int × ((List Int) × (Int × (Int × Int)))))) → Option (List (Int × ((List Int) × (Int × (Int × Int))))) := loopM fun s => m_L34_cut_l1_step s.1 s.2
noncomputable def m_L34_cut (x0 : (List (Int × ((List Int) × (Int × (Int × Int)))))) : Option (List (Int × ((List Int) × (Int × (Int × Int))))) :=
  Option.bind (m_L34_cut_l1 ((x0, ((0 : Int))), [])) fun (x1 : (List (Int × ((List Int) × (Int × (Int × Int)))))) =>
    some x1
noncomputable def e_L34_cut : TEnt := ⟨30, .sl (.pair (.int .i64) (.pair (.sl (.int .u8)) (.pair (.int .u64) (.pair (.int .i64) (.int .i64))))), [], [(.sl (.pair (.int .i64) (.pair (.sl (.int .u8)) (.pair (.int .u64) (.pair (.int .i64) (.int .i64))))), [])], fun s => m_L34_cut s⟩
theorem e_L34_cut_ok : EntT Try.prog e_L34_cut := ent_of (tab := []) (loops := [(4682, [0, 3, 4], (.cons (.sl (.pair (.int .i64) (.pair (.sl (.int .u8)) (.pair (.int .u64) (.pair (.int .i64) (.int .i64)))))) (.cons (.own 0) (.int .i64))), [.li (.pair (.int .i64) (.pair (.sl (.int .u8)) (.pair (.int .u64) (.pair (.int .i64) (.int .i64))))) 64 false])]) (joins := []) _ (by intro e he; simp at he) (fun s => by kernel_rfl) (by kernel_rfl)
/-! prolepsislaw34.known -/
noncomputable def m_L34_known : Option Bool :=
  Option.bind (m_tape_Bytes (1 : Int) (5 : Int) [((1 : Int), [(97 : Int)], (0 : Int), (0 : Int), (0 : Int)), ((3 : Int), [], (300 : Int), (0 : Int), (0 : Int))]) fun (x1 : ((List Int) × Int)) =>
    bif x1.2 == (0 : Int) then
      Option.bind (m_r01_Same x1.1 [(84 : Int), (1 : Int), (5 : Int), (1 : Int), (1 : Int), (97 : Int), (3 : Int), (172 : Int), (2 : Int)]) fun (x2 : Bool) =>
        some x2
    else some Bool.false
noncomputable def e_L34_known : TEnt := ⟨27, .nil, [], [(.bool, [])], fun s => m_L34_known⟩
theorem e_L34_known_ok : EntT Try.prog e_L34_known := ent_of (tab := [e_r01_Same, e_tape_Bytes]) (loops := []) (joins := []) _ (by
    intro e he
    simp only [List.mem_cons, List.not_mem_nil, or_false] at he
    rcases he with rfl | rfl
    · exact e_r01_Same_ok
    · exact e_tape_Bytes_ok) (fun s => by kernel_rfl) (by kernel_rfl)
end Go.Sim
/- Chapter 1: the models of reading. -/
set_option maxRecDepth 100000
set_option maxHeartbeats 4000000
set_option linter.unusedVariables false
namespace Go.Sim
theorem loopM_l {σ T : Type} {step : σ → Option (σ ⊕ T)} {s s' : σ} (h : step s = some (.inl s')) : loopM step s = loopM step s' := by rw [loopM_eq, h]
theorem loopM_r {σ T : Type} {step : σ → Option (σ ⊕ T)} {s : σ} {t : T} (h : step s = some (.inr t)) : loopM step s = some t := by rw [loopM_eq, h]
def I3 (x : Nat × Nat × Nat) : Int × Int × Int := (x.1, x.2.1, x.2.2)
def unr {σ T : Type} (x : Option (σ ⊕ T)) (f : σ → Option T) : Option T := match x with
  | some (.inl s) => f s
  | some (.inr t) => some t
  | none => none
@[simp] theorem unr_l {σ T : Type} (s : σ) (f : σ → Option T) : unr (some (.inl s)) f = f s := rfl
@[simp] theorem unr_r {σ T : Type} (t : T) (f : σ → Option T) : unr (some (.inr t)) f = some t := rfl
@[simp] theorem unr_n {σ T : Type} (f : σ → Option T) : unr none f = none := rfl
theorem loopM_unr {σ T : Type} (step : σ → Option (σ ⊕ T)) (s : σ) : loopM step s = unr (step s) (loopM step) := by rw [loopM_eq]; rfl
theorem r01_Read_l1_eq (a : List Int) (b c d : Int) : m_r01_Read_l1 (a, b, c, d) = unr (m_r01_Read_l1_step a b c d) m_r01_Read_l1 := loopM_unr _ _
theorem num_Read_l1_eq (a : List Int) (b c : Int) : m_num_Read_l1 (a, b, c) = unr (m_num_Read_l1_step a b c) m_num_Read_l1 := loopM_unr _ _
theorem read_ref_loop (bs : List Int) (hB : ∀ c ∈ bs, Byt c) (hl : bs.length ≤ 1000000) : ∀ (k i acc : Nat), k = bs.length - i → i ≤ bs.length → i ≤ 9 → acc < un i →
    m_r01_Read_l1 (bs, (acc : Int), (un i : Int), (i : Int)) = some (I3 (readM (bs.drop i) i acc)) := by
  intro k
  induction k with
  | zero =>
    intro i acc hk hi hi9 ha
    refine loopM_r ?_
    simp only [m_r01_Read_l1_step]
    rw [decide_eq_false (by omega), cond_false, List.drop_eq_nil_of_le (by omega)]
    rfl
  | succ k ih =>
    intro i acc hk hi hi9 ha
    have hlt : i < bs.length := by omega
    obtain ⟨x, hxi⟩ : ∃ x, bs[i]? = some x := ⟨_, List.getElem?_eq_getElem hlt⟩
    have hd : bs.drop i = x :: bs.drop (i + 1) := by rw [List.drop_eq_getElem_cons hlt]; rw [List.getElem?_eq_getElem hlt] at hxi; cases hxi; rfl
    obtain ⟨m, rfl, hm⟩ := (hB x (List.mem_of_getElem? hxi)).nat
    have wm : IntKind.u64.wrap (m : Int) = m := wrap_u64 (by omega) (by omega)
    have wi : IntKind.i64.wrap ((i : Int) + 1) = (i + 1 : Nat) := by rw [wrap_i64n (by omega) (by omega)]; omega
    obtain ⟨q, hq⟩ : ∃ q : Nat, m % 128 * un i = q := ⟨_, rfl⟩
    have hs : (i = 9 → m ≤ 1) → acc + q < un (i + 1) ∧ acc + q < 18446744073709551616 := fun h9 => hq ▸ read_step hm hi9 h9 ha
    have wq : (m : Int).tmod 128 * (un i : Int) = q := by rw [Int.tmod_eq_emod_of_nonneg (by omega), ← hq]; push_cast; rfl
    have wA : (i = 9 → m ≤ 1) → IntKind.u64.wrap ((acc : Int) + IntKind.u64.wrap q) = (acc + q : Nat) := by
      intro h9
      have h := hs h9
      rw [wrap_u64 (n := (q : Int)) (by omega) (by omega), wrap_u64 (by omega) (by omega)]; omega
    rw [hd, readM, Int.toNat_natCast, hq]
    rw [r01_Read_l1_eq]
    simp only [m_r01_Read_l1_step, Bool.cond_eq_ite, decide_eq_true_eq, beq_iff_eq, Int.toNat_natCast, hxi, Option.bind_some, wm, wq]
    rw [if_pos (by omega), if_pos (by omega)]
    by_cases h1 : (i = 9 ∧ 1 < (m : Int)) ∨ (0 < i ∧ (m : Int) = 0)
    · rw [if_pos h1]
      by_cases h9 : i = 9
      · rw [if_pos (by omega)]
        by_cases h2 : 1 < (m : Int)
        · rw [if_pos h2]; rfl
        · rw [if_neg h2, if_pos (by omega), if_pos (by omega)]; rfl
      · rw [if_neg (by omega), if_pos (by omega), if_pos (by omega)]; rfl
    · rw [if_neg h1]
      have wA := wA (by omega)
      have hs := hs (by omega)
      have e1 : ∀ {α : Type} (a b c d : α), (if (i : Int) = 9 then (if 1 < (m : Int) then a else if 0 < (i : Int) then (if (m : Int) = 0 then b else c) else d) else (if 0 < (i : Int) then (if (m : Int) = 0 then b else c) else d)) = if 0 < (i : Int) then c else d := by
        intro α a b c d
        by_cases h9 : i = 9
        · rw [if_pos (by omega), if_neg (by omega)]
          by_cases h0 : 0 < (i : Int)
          · rw [if_pos h0, if_neg (by omega), if_pos h0]
          · rw [if_neg h0, if_neg h0]
        · rw [if_neg (by omega)]
          by_cases h0 : 0 < (i : Int)
          · rw [if_pos h0, if_neg (by omega), if_pos h0]
          · rw [if_neg h0, if_neg h0]
      rw [e1, ite_self, wA, wi]
      by_cases h3 : (m : Int) < 128
      · rw [if_pos h3, if_pos h3]; rfl
      · have wU : IntKind.u64.wrap ((un i : Int) * 128) = (un (i + 1) : Nat) := by
          have := un_le (i := i + 1) (by omega)
          rw [un_succ] at this ⊢
          rw [wrap_u64 (by omega) (by omega)]; omega
        rw [if_neg h3, if_neg h3, wU]
        exact ih (i + 1) (acc + q) (by omega) (by omega) (by omega) hs.1
theorem read_ref (bs : List Int) (hB : ∀ c ∈ bs, Byt c) (hl : bs.length ≤ 1000000) : m_r01_Read bs = some (I3 (readM bs 0 0)) := by
  have := read_ref_loop bs hB hl _ 0 0 rfl (Nat.zero_le _) (by decide) (by decide)
  rw [List.drop_zero] at this
  unfold m_r01_Read
  rw [show ((0 : Int)) = ((0 : Nat) : Int) from rfl, show ((1 : Int)) = (un 0 : Int) from rfl, this]
  rfl
theorem read_num_loop (bs : List Int) (hB : ∀ c ∈ bs, Byt c) (hl : bs.length ≤ 1000000) : ∀ (k i acc : Nat), k = bs.length - i → i ≤ bs.length → i ≤ 9 → acc < un i →
    m_num_Read_l1 (bs, (acc : Int), (i : Int)) = some (I3 (readM (bs.drop i) i acc)) := by
  intro k
  induction k with
  | zero =>
    intro i acc hk hi hi9 ha
    refine loopM_r ?_
    simp only [m_num_Read_l1_step]
    rw [beq_iff_eq.2 (by omega : (i : Int) = (bs.length : Int)), cond_true, List.drop_eq_nil_of_le (by omega)]
    rfl
  | succ k ih =>
    intro i acc hk hi hi9 ha
    have hlt : i < bs.length := by omega
    obtain ⟨x, hxi⟩ : ∃ x, bs[i]? = some x := ⟨_, List.getElem?_eq_getElem hlt⟩
    have hd : bs.drop i = x :: bs.drop (i + 1) := by rw [List.drop_eq_getElem_cons hlt]; rw [List.getElem?_eq_getElem hlt] at hxi; cases hxi; rfl
    have hx := hB x (List.mem_of_getElem? hxi)
    have h128 := and_128 hx
    have hacc := fun h9 => acc_eq (acc := acc) (i := i) hx hi9 h9 ha
    unfold numAcc at hacc
    obtain ⟨m, rfl, hm⟩ := hx.nat
    have wm : IntKind.u64.wrap (m : Int) = m := wrap_u64 (by omega) (by omega)
    have wi : IntKind.i64.wrap ((i : Int) + 1) = (i + 1 : Nat) := by rw [wrap_i64n (by omega) (by omega)]; omega
    have w7 : IntKind.i64.wrap (7 * (i : Int)) = 7 * (i : Int) := wrap_i64n (by omega) (by omega)
    obtain ⟨q, hq⟩ : ∃ q : Nat, m % 128 * un i = q := ⟨_, rfl⟩
    have hs : (i = 9 → m ≤ 1) → acc + q < un (i + 1) ∧ acc + q < 18446744073709551616 := fun h9 => hq ▸ read_step hm hi9 h9 ha
    rw [hd, readM, Int.toNat_natCast, hq]
    rw [num_Read_l1_eq]
    simp only [m_num_Read_l1_step, Bool.cond_eq_ite, decide_eq_true_eq, beq_iff_eq, bne_iff_ne, Int.toNat_natCast, hxi, Option.bind_some, w7]
    rw [wm] at h128 hacc
    simp only [wm]
    rw [if_neg (by omega), if_pos (by omega)]
    by_cases h1 : (i = 9 ∧ 1 < (m : Int)) ∨ (0 < i ∧ (m : Int) = 0)
    · rw [if_pos h1]
      by_cases h9 : i = 9
      · rw [if_pos (by omega)]
        by_cases h2 : 1 < (m : Int)
        · rw [if_pos h2]; rfl
        · rw [if_neg h2, if_pos (by omega), if_pos (by omega)]; rfl
      · rw [if_neg (by omega), if_pos (by omega), if_pos (by omega)]; rfl
    · rw [if_neg h1]
      have hs := hs (by omega)
      have hA := (hacc (by omega)).1
      rw [show ((acc : Int) + (m : Int) % 128 * 2 ^ (7 * i)) = ((acc + q : Nat) : Int) by rw [← hq]; unfold un; push_cast; rfl] at hA
      have e1 : ∀ {α : Type} (a b c d : α), (if (i : Int) = 9 then (if 1 < (m : Int) then a else if 0 < (i : Int) then (if (m : Int) = 0 then b else c) else d) else (if 0 < (i : Int) then (if (m : Int) = 0 then b else c) else d)) = if 0 < (i : Int) then c else d := by
        intro α a b c d
        by_cases h9 : i = 9
        · rw [if_pos (by omega), if_neg (by omega)]
          by_cases h0 : 0 < (i : Int)
          · rw [if_pos h0, if_neg (by omega), if_pos h0]
          · rw [if_neg h0, if_neg h0]
        · rw [if_neg (by omega)]
          by_cases h0 : 0 < (i : Int)
          · rw [if_pos h0, if_neg (by omega), if_pos h0]
          · rw [if_neg h0, if_neg h0]
      rw [e1, ite_self, if_pos (by omega), hA, wi]
      by_cases h3 : (m : Int) < 128
      · rw [if_pos h3, if_neg (by rw [h128.2 h3]; simp)]; rfl
      · rw [if_neg h3, if_pos (fun e => h3 (h128.1 e))]
        exact ih (i + 1) (acc + q) (by omega) (by omega) (by omega) hs.1
theorem read_num (bs : List Int) (hB : ∀ c ∈ bs, Byt c) (hl : bs.length ≤ 1000000) : m_num_Read bs = some (I3 (readM bs 0 0)) := by
  have h0 := read_num_loop bs hB hl _ 0 0 rfl (Nat.zero_le _) (by decide) (by decide)
  rw [List.drop_zero] at h0
  rw [num_Read_l1_eq] at h0
  rw [← h0]
  unfold m_num_Read
  cases bs with
  | nil => simp [m_num_Read_l1_step]
  | cons c r =>
    have hx := hB c List.mem_cons_self
    obtain ⟨m, rfl, hm⟩ := hx.nat
    have wm : IntKind.u64.wrap (m : Int) = m := wrap_u64 (by omega) (by omega)
    simp only [m_num_Read_l1_step, Bool.cond_eq_ite, decide_eq_true_eq, beq_iff_eq, bne_iff_ne, wm, List.length_cons, List.getElem?_cons_zero, Option.bind_some, Int.toNat_zero, Int.natCast_zero]
    have e0 : IntKind.i64.wrap 0 = 0 := by decide +kernel
    have e1 : IntKind.i64.wrap 1 = 1 := by decide +kernel
    simp only [Int.mul_zero, Int.zero_add, e0, e1, Int.toNat_zero, Nat.zero_min, Int.pow_zero, Int.mul_one]
    simp [e0, e1]
    by_cases h1 : bits .and .u64 (m : Int) 128 = 0
    · rw [if_pos h1, if_pos h1, if_neg (by omega), if_neg (by omega)]; rfl
    · rw [if_neg h1, if_neg h1, if_neg (by omega), if_neg (by omega)]; rfl
end Go.Sim
/- Chapter 1: the models of readers. -/
set_option maxRecDepth 100000
set_option maxHeartbeats 4000000
set_option linter.unusedVariables false
namespace Go.Sim
theorem Byts.drop {bs : List Int} (hB : ∀ c ∈ bs, Byt c) (a : Nat) : ∀ c ∈ bs.drop a, Byt c := fun c h => hB c (List.mem_of_mem_drop h)
theorem rNum_0 (bs : List Int) (a : Nat) : rNum bs a 0 = (a + (readM (bs.drop a) 0 0).2.1, (readM (bs.drop a) 0 0).2.2, (readM (bs.drop a) 0 0).1) := by unfold rNum; rw [if_neg (by simp)]
theorem rNum_e (bs : List Int) (a : Nat) {e : Nat} (h : e ≠ 0) : rNum bs a e = (a, e, 0) := by unfold rNum; rw [if_pos h]
theorem rTake_0 (bs : List Int) (a n : Nat) : rTake bs a 0 n = if bs.length < a + n then (a, 4, []) else (a + n, 0, (bs.drop a).take n) := by unfold rTake; rw [if_neg (by simp)]
theorem rTake_e (bs : List Int) (a n : Nat) {e : Nat} (h : e ≠ 0) : rTake bs a e n = (a, e, []) := by unfold rTake; rw [if_pos h]
theorem number_ref {bs : List Int} (hB : ∀ c ∈ bs, Byt c) (hl : bs.length ≤ 1000000) {a : Nat} (ha : a ≤ bs.length) (e : Nat) : m_r01_Number bs a e = some ((bs, ((rNum bs a e).1 : Int), ((rNum bs a e).2.1 : Int)), ((rNum bs a e).2.2 : Int)) := by
  unfold m_r01_Number rNum
  by_cases he : e = 0
  · subst he
    have hr := read_ref (bs.drop a) (Byts.drop hB a) (by simp; omega)
    have := readM_len (bs.drop a) 0 0
    simp only [List.length_drop] at this
    have hw : IntKind.i64.wrap ((a : Int) + ((readM (bs.drop a) 0 0).2.1 : Int)) = ((a + (readM (bs.drop a) 0 0).2.1 : Nat) : Int) := by rw [wrap_i64n (by omega) (by omega)]; push_cast; rfl
    simp [Bool.cond_eq_ite, ha, hr, I3, hw]
  · simp [Bool.cond_eq_ite, he]
theorem number_num {bs : List Int} (hB : ∀ c ∈ bs, Byt c) (hl : bs.length ≤ 1000000) {a s : Nat} (ha : a ≤ bs.length) (hs : s ≤ a) (e : Nat) : m_num_Number (bs.drop a) ((a - s : Nat) : Int) e = some (((rNum bs a e).2.2 : Int), (bs.drop (rNum bs a e).1, (((rNum bs a e).1 - s : Nat) : Int), ((rNum bs a e).2.1 : Int))) := by
  unfold m_num_Number
  by_cases he : e = 0
  · subst he
    rw [rNum_0]
    have hr := read_num (bs.drop a) (Byts.drop hB a) (by simp; omega)
    have hn := readM_len (bs.drop a) 0 0
    have hz := readM_err (bs.drop a) 0 0
    simp only [List.length_drop] at hn
    simp only [hr, Option.bind_some, I3, Bool.cond_eq_ite, bne_iff_ne]
    rw [if_neg (by simp)]
    by_cases h2 : (readM (bs.drop a) 0 0).2.2 = 0
    · rw [if_neg (by omega)]
      unfold m_num_drop
      have hw : IntKind.i64.wrap (((a - s : Nat) : Int) + ((readM (bs.drop a) 0 0).2.1 : Int)) = ((a + (readM (bs.drop a) 0 0).2.1 - s : Nat) : Int) := by rw [wrap_i64n (by omega) (by omega)]; omega
      simp only [Bool.cond_eq_ite, decide_eq_true_eq, Int.toNat_natCast, hw, List.drop_drop, List.length_drop]
      rw [if_pos (by omega), if_pos (by omega), h2]
      simp
    · have hz := hz h2
      rw [if_pos (by omega), hz.1, hz.2]
      simp
  · rw [rNum_e _ _ he]; simp [Bool.cond_eq_ite, he]
theorem up_ref {bs : List Int} (hB : ∀ c ∈ bs, Byt c) (hl : bs.length ≤ 1000000) {a : Nat} (ha : a ≤ bs.length) (e m w : Nat) (hm : m < 2000000) : m_r01_Up (bs, (a : Int), (e : Int)) m w = some ((bs, ((rUp bs a e m w).1 : Int), ((rUp bs a e m w).2.1 : Int)), ((rUp bs a e m w).2.2 : Int)) := by
  unfold m_r01_Up rUp
  have hlt := rNum_lt bs hB a e
  have hz := @rNum_err bs a e
  simp only [number_ref hB hl ha, Option.bind_some, Bool.cond_eq_ite, beq_iff_eq, decide_eq_true_eq]
  rw [wrap_u64 (by omega) (by omega)]
  by_cases h1 : (rNum bs a e).2.1 = 0
  · rw [if_pos (by omega), if_neg (by omega)]
    by_cases h2 : m < (rNum bs a e).2.2
    · rw [if_pos (by omega), if_pos ⟨h1, h2⟩]; rfl
    · rw [if_neg (by omega), if_neg (by omega), wrap_i64n (by omega) (by omega)]
  · rw [if_neg (by omega), if_neg (by omega), hz h1]
    rfl
theorem up_num {bs : List Int} (hB : ∀ c ∈ bs, Byt c) (hl : bs.length ≤ 1000000) {a s : Nat} (ha : a ≤ bs.length) (hs : s ≤ a) (e m : Nat) (hm : m < 2000000) : m_num_Upto m (bs.drop a) ((a - s : Nat) : Int) e = some (((rUp bs a e m 5).2.2 : Int), (bs.drop (rUp bs a e m 5).1, (((rUp bs a e m 5).1 - s : Nat) : Int), ((rUp bs a e m 5).2.1 : Int))) := by
  unfold m_num_Upto m_num_under m_num_bounded rUp
  have hlt := rNum_lt bs hB a e
  have hz := @rNum_err bs a e
  simp only [number_num hB hl ha hs, Option.bind_some, Bool.cond_eq_ite, beq_iff_eq, bne_iff_ne, decide_eq_true_eq]
  by_cases he : e = 0
  · subst he
    rw [if_neg (by simp)]
    by_cases h1 : (rNum bs a 0).2.1 = 0
    · rw [if_pos (by omega)]
      unfold m_num_under_1
      simp only [Bool.cond_eq_ite, decide_eq_true_eq]
      rw [if_pos (by omega), wrap_u64 (by omega) (by omega)]
      by_cases h2 : m < (rNum bs a 0).2.2
      · rw [if_pos ⟨h1, h2⟩]
        simp only [Option.bind_some]
        rw [if_pos (by simp; omega)]
        simp
      · rw [if_neg (fun h => h2 h.2)]
        simp only [Option.bind_some]
        rw [if_neg (by simp; omega), wrap_i64n (by omega) (by omega)]
        simp
    · rw [if_neg (by omega), if_neg (fun h => h1 h.1), hz h1]
      rfl
  · rw [if_pos (by omega)]
    have hr : rNum bs a e = (a, e, 0) := by unfold rNum; rw [if_pos he]
    rw [hr, if_neg (by simp)]
    rfl
theorem take_ref {bs : List Int} (hl : bs.length ≤ 1000000) {a : Nat} (ha : a ≤ bs.length) (e n : Nat) (hn : n < 2000000) : m_r01_Take (bs, (a : Int), (e : Int)) n = some ((bs, ((rTake bs a e n).1 : Int), ((rTake bs a e n).2.1 : Int)), (rTake bs a e n).2.2) := by
  unfold m_r01_Take
  have hw : IntKind.i64.wrap ((a : Int) + (n : Int)) = ((a + n : Nat) : Int) := by rw [wrap_i64n (by omega) (by omega)]; push_cast; rfl
  have hw2 : IntKind.i64.wrap ((bs.length : Int) - (a : Int)) = ((bs.length - a : Nat) : Int) := by rw [wrap_i64n (by omega) (by omega)]; omega
  simp only [Bool.cond_eq_ite, beq_iff_eq, bne_iff_ne, decide_eq_true_eq, hw, hw2, List.nil_append, Int.toNat_natCast]
  by_cases he : e = 0
  · subst he
    rw [rTake_0]
    rw [if_pos (by simp), if_neg (by omega)]
    by_cases h1 : bs.length < a + n
    · rw [if_pos (by omega), if_pos h1]; rfl
    · rw [if_neg (by omega), if_neg (by simp), if_pos (by omega), if_pos (by simp; omega), if_pos (by simp), if_neg h1]
      rw [show a + n - a = n by omega]
  · rw [rTake_e _ _ _ he, if_neg (by omega), if_pos (by omega)]
theorem take_num {bs : List Int} (hl : bs.length ≤ 1000000) {a s : Nat} (ha : a ≤ bs.length) (hs : s ≤ a) (e n : Nat) (hn : n < 2000000) : m_num_Take n (bs.drop a) ((a - s : Nat) : Int) e = some ((rTake bs a e n).2.2, (bs.drop (rTake bs a e n).1, (((rTake bs a e n).1 - s : Nat) : Int), ((rTake bs a e n).2.1 : Int))) := by
  unfold m_num_Take m_num_drop m_slices_Clone8
  have hw : IntKind.i64.wrap (((a - s : Nat) : Int) + (n : Int)) = ((a + n - s : Nat) : Int) := by rw [wrap_i64n (by omega) (by omega)]; omega
  simp only [Bool.cond_eq_ite, beq_iff_eq, bne_iff_ne, decide_eq_true_eq, hw, List.nil_append, Int.toNat_natCast, List.length_drop, List.drop_drop]
  by_cases he : e = 0
  · subst he
    rw [rTake_0]
    rw [if_neg (by simp), if_neg (by omega)]
    by_cases h1 : bs.length < a + n
    · rw [if_pos (by omega), if_pos h1]; rfl
    · rw [if_neg (by omega), if_pos (by omega), if_pos (by omega), if_neg h1]
      simp only [Option.bind_some]
      have hc : (if True ∧ 0 + (List.take n (List.drop a bs)).length ≤ 140737488355328 then if (List.take n (List.drop a bs)).length = 0 + (List.take n (List.drop a bs)).length then some (List.take n (List.drop a bs)) else none else none) = some (List.take n (List.drop a bs)) := by
        rw [if_pos ⟨trivial, by simp; omega⟩, if_pos (by simp)]
      rw [hc]
      by_cases h0 : (List.take n (List.drop a bs)).length = 0
      · rw [if_pos h0, List.length_eq_zero_iff.1 h0, bothM_same]
        rfl
      · rw [if_neg h0]
        rfl
  · rw [rTake_e _ _ _ he, if_pos (by omega)]
end Go.Sim
/- Chapter 34: the models of parsing, one event. -/
set_option maxRecDepth 100000
set_option maxHeartbeats 4000000
set_option linter.unusedVariables false
namespace Go.Sim
abbrev E5 : Type := Int × List Int × Int × Int × Int
def evT (e : Ev) : E5 := (e.kind, e.b, e.n, e.rows, e.cols)
theorem rUp_e (bs : List Int) (a m w : Nat) {e : Nat} (h : e ≠ 0) : rUp bs a e m w = (a, e, 0) := by unfold rUp; rw [rNum_e _ _ h]; simp [h]
theorem kindP_e (bs : List Int) (a k : Nat) {e : Nat} (h : e ≠ 0) : (kindP bs a e k).1 = a ∧ (kindP bs a e k).2.1 = e := by
  unfold kindP
  rw [rUp_e _ _ _ _ h]
  simp only [rUp_e _ _ _ _ h, rTake_e _ _ _ h, rNum_e _ _ h]
  split
  · exact ⟨rfl, rfl⟩
  · split
    · exact ⟨rfl, rfl⟩
    · split <;> exact ⟨rfl, rfl⟩
theorem one_num {bs : List Int} (hB : ∀ c ∈ bs, Byt c) (hl : bs.length ≤ 1000000) {a s : Nat} (ha : a ≤ bs.length) (hs : s ≤ a) : ∃ ev : E5, m_tape_one (bs.drop a) ((a - s : Nat) : Int) 0 = some (ev, (bs.drop (oneP bs a).1, (((oneP bs a).1 - s : Nat) : Int), ((oneP bs a).2.1 : Int))) ∧ ((oneP bs a).2.1 = 0 → ev = evT (oneP bs a).2.2) := by
  have hN : m_num_Number (bs.drop a) ((a - s : Nat) : Int) 0 = _ := number_num hB hl ha hs 0
  have hp := rNum_le (bs := bs) (a := a) (e := 0) ha (by decide)
  have hap := (rNum_mono bs a 0).1
  have hlt := rNum_lt bs hB a 0
  unfold m_tape_one oneP
  simp only [hN, Option.bind_some]
  clear hN
  generalize rNum bs a 0 = u at hp hap hlt ⊢
  obtain ⟨p, e, n⟩ := u
  simp only at hp hap hlt ⊢
  by_cases he : e = 0
  · subst he
    by_cases hn : n < 1 ∨ 5 < n
    · have hk := kindP_e bs p n (e := 9) (by decide)
      rw [if_pos ⟨rfl, hn⟩, hk.1, hk.2]
      by_cases h1 : n < 1
      · refine ⟨(0, [], 0, 0, 0), ?_, fun h => by cases h⟩
        have h1' : decide ((n : Int) < 1) = true := by simp; omega
        simp [m_num_Err, m_num_Fail, h1']
      · refine ⟨(0, [], 0, 0, 0), ?_, fun h => by cases h⟩
        have h1' : decide ((n : Int) < 1) = false := by simp; omega
        have h2' : decide ((5 : Int) < (n : Int)) = true := by simp; omega
        simp [m_num_Err, m_num_Fail, h1', h2']
    · rw [if_neg (fun h => hn h.2)]
      have hps : s ≤ p := Nat.le_trans hs hap
      have hU := fun m hm => up_num hB hl hp.1 hps 0 m hm
      have hN : m_num_Number (bs.drop p) ((p - s : Nat) : Int) 0 = _ := number_num hB hl hp.1 hps 0
      have hk : n = 1 ∨ n = 2 ∨ n = 3 ∨ n = 4 ∨ n = 5 := by omega
      have w1 : IntKind.i64.wrap 1 = 1 := by decide +kernel
      have w2 : IntKind.i64.wrap 2 = 2 := by decide +kernel
      have w3 : IntKind.i64.wrap 3 = 3 := by decide +kernel
      have w4 : IntKind.i64.wrap 4 = 4 := by decide +kernel
      have w5 : IntKind.i64.wrap 5 = 5 := by decide +kernel
      have hU1 : m_num_Upto 4096 (bs.drop p) ((p - s : Nat) : Int) 0 = _ := hU 4096 (by decide)
      have hU2 : m_num_Upto 1048576 (bs.drop p) ((p - s : Nat) : Int) 0 = _ := hU 1048576 (by decide)
      have g1 := rUp_le (bs := bs) (a := p) (e := 0) (m := 4096) (w := 5) hp.1 (by decide) (by decide)
      have g2 := (rUp_mono bs p 0 4096 5).1
      have g3 := rUp_le (bs := bs) (a := p) (e := 0) (m := 1048576) (w := 5) hp.1 (by decide) (by decide)
      have g4 := (rUp_mono bs p 0 1048576 5).1
      have hT := take_num hl g1.1 (Nat.le_trans hps g2) (rUp bs p 0 4096 5).2.1 (rUp bs p 0 4096 5).2.2 (by omega)
      have hV : m_num_Upto 1048576 (bs.drop (rUp bs p 0 1048576 5).1) (((rUp bs p 0 1048576 5).1 - s : Nat) : Int) _ = _ := up_num hB hl g3.1 (Nat.le_trans hps g4) (rUp bs p 0 1048576 5).2.1 1048576 (by decide)
      rcases hk with rfl | rfl | rfl | rfl | rfl
      · refine ⟨_, ?_, fun _ => rfl⟩
        simp [m_num_Err, w1, hU1, hT, kindP, evT]
      · refine ⟨_, ?_, fun _ => rfl⟩
        simp [m_num_Err, w2, hU1, hT, kindP, evT]
      · refine ⟨_, ?_, fun _ => rfl⟩
        simp [m_num_Err, w3, hN, kindP, evT]
      · refine ⟨_, ?_, fun _ => rfl⟩
        simp [m_num_Err, w4, hU2, hV, kindP, evT]
      · refine ⟨_, ?_, fun _ => rfl⟩
        simp [m_num_Err, w5, hN, kindP, evT]
  · rw [if_neg (fun h => he h.1), (kindP_e bs p n he).1, (kindP_e bs p n he).2]
    refine ⟨(0, [], 0, 0, 0), ?_, fun h => absurd h he⟩
    have he' : ((e : Int) == 0) = false := by simp; omega
    have he2 : ((e : Int) != 0) = true := by simp; omega
    simp [m_num_Err, he', he2]
theorem one_ref {bs : List Int} (hB : ∀ c ∈ bs, Byt c) (hl : bs.length ≤ 1000000) {a : Nat} (ha : a ≤ bs.length) (hlt : a < bs.length) (r c : Int) (L : List E5) (hL : L.length ≤ 2000000) : ∃ ev : E5, m_r34_Parse_l1_step (bs, r, c) (bs, (a : Int), 0) L = some (.inl ((bs, r, c), (bs, ((oneP bs a).1 : Int), ((oneP bs a).2.1 : Int)), L ++ [ev])) ∧ ((oneP bs a).2.1 = 0 → ev = evT (oneP bs a).2.2) := by
  have hN : m_r01_Number bs (a : Int) 0 = _ := number_ref hB hl ha 0
  have hp := rNum_le (bs := bs) (a := a) (e := 0) ha (by decide)
  have hap := (rNum_mono bs a 0).1
  have hltn := rNum_lt bs hB a 0
  have hl1 : decide ((a : Int) < (bs.length : Int)) = true := by simp; omega
  have hL1 : decide (L.length + 1 ≤ 2513169434916) = true := by simp; omega
  have hL3 : decide (L.length ≤ 2513169434915) = true := by simp; omega
  have hz := @rNum_err bs a 0
  unfold m_r34_Parse_l1_step oneP
  simp only [hN, hl1, Option.bind_some, beq_self_eq_true, cond_true, decide_true]
  clear hN
  generalize rNum bs a 0 = u at hp hap hltn hz ⊢
  obtain ⟨p, e, n⟩ := u
  simp only at hp hap hltn hz ⊢
  have w1 : IntKind.i64.wrap 1 = 1 := by decide +kernel
  have w2 : IntKind.i64.wrap 2 = 2 := by decide +kernel
  have w3 : IntKind.i64.wrap 3 = 3 := by decide +kernel
  have w4 : IntKind.i64.wrap 4 = 4 := by decide +kernel
  have w5 : IntKind.i64.wrap 5 = 5 := by decide +kernel
  -- what comes behind the kind, for an error that is there
  by_cases hg : e = 0 ∧ ¬ (n < 1 ∨ 5 < n)
  · obtain ⟨rfl, hn⟩ := hg
    rw [if_neg (fun h => hn h.2)]
    have hU := fun m hm => up_ref hB hl hp.1 0 m 5 hm
    have hN : m_r01_Number bs (p : Int) 0 = _ := number_ref hB hl hp.1 0
    have hk : n = 1 ∨ n = 2 ∨ n = 3 ∨ n = 4 ∨ n = 5 := by omega
    have hU1 : m_r01_Up (bs, (p : Int), 0) 4096 5 = _ := hU 4096 (by decide)
    have hU2 : m_r01_Up (bs, (p : Int), 0) 1048576 5 = _ := hU 1048576 (by decide)
    have g1 := rUp_le (bs := bs) (a := p) (e := 0) (m := 4096) (w := 5) hp.1 (by decide) (by decide)
    have g3 := rUp_le (bs := bs) (a := p) (e := 0) (m := 1048576) (w := 5) hp.1 (by decide) (by decide)
    have hT := take_ref hl g1.1 (rUp bs p 0 4096 5).2.1 (rUp bs p 0 4096 5).2.2 (by omega)
    have hV : m_r01_Up (bs, ((rUp bs p 0 1048576 5).1 : Int), _) 1048576 5 = _ := up_ref hB hl g3.1 (rUp bs p 0 1048576 5).2.1 1048576 5 (by decide)
    rcases hk with rfl | rfl | rfl | rfl | rfl
    · refine ⟨_, ?_, fun _ => rfl⟩
      simp [w1, hU1, hT, kindP, evT, hL3]
    · refine ⟨_, ?_, fun _ => rfl⟩
      simp [w2, hU1, hT, kindP, evT, hL3]
    · refine ⟨_, ?_, fun _ => rfl⟩
      simp [w3, hN, kindP, evT, hL3]
    · refine ⟨_, ?_, fun _ => rfl⟩
      simp [w4, hU2, hV, kindP, evT, hL3]
    · refine ⟨_, ?_, fun _ => rfl⟩
      simp [w5, hN, kindP, evT, hL3]
  · have hn : n < 1 ∨ 5 < n := by
      by_cases h : e = 0
      · exact Classical.byContradiction fun q => hg ⟨h, q⟩
      · exact .inl (by have := hz h; omega)
    have b1 : ((n : Int) == 1) = false := by simp; omega
    have b2 : ((n : Int) == 2) = false := by simp; omega
    have b3 : ((n : Int) == 3) = false := by simp; omega
    have b4 : ((n : Int) == 4) = false := by simp; omega
    have b5 : ((n : Int) == 5) = false := by simp; omega
    by_cases h0 : e = 0
    · subst h0
      rw [if_pos ⟨rfl, hn⟩, (kindP_e bs p n (e := 9) (by decide)).1, (kindP_e bs p n (e := 9) (by decide)).2]
      refine ⟨(IntKind.i64.wrap n, [], 0, 0, 0), ?_, fun h => by cases h⟩
      by_cases h1 : n < 1
      · have h1' : decide ((n : Int) < 1) = true := by simp; omega
        simp [h1', b1, b2, b3, b4, b5, hL3]
      · have h1' : decide ((n : Int) < 1) = false := by simp; omega
        have h2' : decide ((5 : Int) < (n : Int)) = true := by simp; omega
        simp [h1', h2', b1, b2, b3, b4, b5, hL3]
    · rw [if_neg (fun h => h0 h.1), (kindP_e bs p n h0).1, (kindP_e bs p n h0).2]
      refine ⟨(IntKind.i64.wrap n, [], 0, 0, 0), ?_, fun h => absurd h h0⟩
      have he' : ((e : Int) == 0) = false := by simp; omega
      simp [he', b1, b2, b3, b4, b5, hL3]
end Go.Sim

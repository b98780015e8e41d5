/- Facts about the seat's types, by program (typ.py). -/
import Derived.Test.YtmcboobmnipjlaaProg
import Derived.Test.YtmcboobmnipjlaaA17
set_option linter.unusedSimpArgs false
set_option linter.unusedVariables false
set_option linter.defProp false
set_option maxRecDepth 100000
namespace Go.Sim
open Go.Proofs
theorem mixed : Try.prog.follows .mixedOrders = true := by kernel_rfl
theorem und_1 : Try.prog.underlying 1 = some (TypeDesc.func #[] #[] false) := Try.underlying1
theorem sz_1 : szT Try.prog 1 = some 1 := by kernel_rfl
theorem agg_1 : aggT Try.prog 1 = false := by kernel_rfl
theorem part_1 (cs : List Value) (o : Nat) : partV Try.prog 1 cs o = cs[o]? := part_one (by rw [und_1]; rfl) agg_1 cs o
theorem al_1 : allocV Try.prog 1 = some (.cells (zeroV Try.prog 1).cells.toList 1 true, ptrOfNew) := alloc_zero (by kernel_rfl)
theorem bx_1 (v : Value) : boxV Try.prog 1 v = if 1 = v.cells.size then some (.cells v.cells.toList 1 true, ptrOfNew) else none := box_sz sz_1 v
theorem zv_1 : zeroV Try.prog 1 = Value.nilFunc := by kernel_rfl
theorem und_2 : Try.prog.underlying 2 = some (TypeDesc.int IntKind.i64) := Try.underlying2
theorem sz_2 : szT Try.prog 2 = some 1 := by kernel_rfl
theorem agg_2 : aggT Try.prog 2 = false := by kernel_rfl
theorem part_2 (cs : List Value) (o : Nat) : partV Try.prog 2 cs o = cs[o]? := part_one (by rw [und_2]; rfl) agg_2 cs o
theorem al_2 : allocV Try.prog 2 = some (.cells (zeroV Try.prog 2).cells.toList 2 true, ptrOfNew) := alloc_zero (by kernel_rfl)
theorem bx_2 (v : Value) : boxV Try.prog 2 v = if 1 = v.cells.size then some (.cells v.cells.toList 2 true, ptrOfNew) else none := box_sz sz_2 v
theorem zv_2 : zeroV Try.prog 2 = (Value.int IntKind.i64 0) := by kernel_rfl
theorem und_3 : Try.prog.underlying 3 = some (TypeDesc.int IntKind.i64) := Try.underlying3
theorem sz_3 : szT Try.prog 3 = some 1 := by kernel_rfl
theorem agg_3 : aggT Try.prog 3 = false := by kernel_rfl
theorem part_3 (cs : List Value) (o : Nat) : partV Try.prog 3 cs o = cs[o]? := part_one (by rw [und_3]; rfl) agg_3 cs o
theorem al_3 : allocV Try.prog 3 = some (.cells (zeroV Try.prog 3).cells.toList 3 true, ptrOfNew) := alloc_zero (by kernel_rfl)
theorem bx_3 (v : Value) : boxV Try.prog 3 v = if 1 = v.cells.size then some (.cells v.cells.toList 3 true, ptrOfNew) else none := box_sz sz_3 v
theorem zv_3 : zeroV Try.prog 3 = (Value.int IntKind.i64 0) := by kernel_rfl
theorem und_4 : Try.prog.underlying 4 = some TypeDesc.bool := Try.underlying4
theorem sz_4 : szT Try.prog 4 = some 1 := by kernel_rfl
theorem agg_4 : aggT Try.prog 4 = false := by kernel_rfl
theorem part_4 (cs : List Value) (o : Nat) : partV Try.prog 4 cs o = cs[o]? := part_one (by rw [und_4]; rfl) agg_4 cs o
theorem eb_4 (a b : Bool) : binV Try.prog .eql 4 (.bool a) (.bool b) = some (.bool (decide (a = b))) := bin_eq_bool und_4
theorem nb_4 (a b : Bool) : binV Try.prog .neq 4 (.bool a) (.bool b) = some (.bool (decide (¬ a = b))) := bin_ne_bool und_4
theorem al_4 : allocV Try.prog 4 = some (.cells (zeroV Try.prog 4).cells.toList 4 true, ptrOfNew) := alloc_zero (by kernel_rfl)
theorem bx_4 (v : Value) : boxV Try.prog 4 v = if 1 = v.cells.size then some (.cells v.cells.toList 4 true, ptrOfNew) else none := box_sz sz_4 v
theorem zv_4 : zeroV Try.prog 4 = (Value.bool false) := by kernel_rfl
theorem und_5 : Try.prog.underlying 5 = some (TypeDesc.int IntKind.u8) := Try.underlying5
theorem sz_5 : szT Try.prog 5 = some 1 := by kernel_rfl
theorem agg_5 : aggT Try.prog 5 = false := by kernel_rfl
theorem part_5 (cs : List Value) (o : Nat) : partV Try.prog 5 cs o = cs[o]? := part_one (by rw [und_5]; rfl) agg_5 cs o
theorem al_5 : allocV Try.prog 5 = some (.cells (zeroV Try.prog 5).cells.toList 5 true, ptrOfNew) := alloc_zero (by kernel_rfl)
theorem bx_5 (v : Value) : boxV Try.prog 5 v = if 1 = v.cells.size then some (.cells v.cells.toList 5 true, ptrOfNew) else none := box_sz sz_5 v
theorem zv_5 : zeroV Try.prog 5 = (Value.int IntKind.u8 0) := by kernel_rfl
theorem und_6 : Try.prog.underlying 6 = some (TypeDesc.int IntKind.u8) := Try.underlying6
theorem sz_6 : szT Try.prog 6 = some 1 := by kernel_rfl
theorem agg_6 : aggT Try.prog 6 = false := by kernel_rfl
theorem part_6 (cs : List Value) (o : Nat) : partV Try.prog 6 cs o = cs[o]? := part_one (by rw [und_6]; rfl) agg_6 cs o
theorem al_6 : allocV Try.prog 6 = some (.cells (zeroV Try.prog 6).cells.toList 6 true, ptrOfNew) := alloc_zero (by kernel_rfl)
theorem bx_6 (v : Value) : boxV Try.prog 6 v = if 1 = v.cells.size then some (.cells v.cells.toList 6 true, ptrOfNew) else none := box_sz sz_6 v
theorem zv_6 : zeroV Try.prog 6 = (Value.int IntKind.u8 0) := by kernel_rfl
theorem und_7 : Try.prog.underlying 7 = some (TypeDesc.struct #[{ name := "x", type := 2, offset := 0, embedded := false, tag := "", pkgPath := "runtime", byteOffset := 0 }, { name := "y", type := 3, offset := 1, embedded := false, tag := "", pkgPath := "runtime", byteOffset := 8 }, { name := "signed", type := 4, offset := 2, embedded := false, tag := "", pkgPath := "runtime", byteOffset := 16 }, { name := "code", type := 6, offset := 3, embedded := false, tag := "", pkgPath := "runtime", byteOffset := 17 }]) := Try.underlying7
theorem sz_7 : szT Try.prog 7 = some 4 := by kernel_rfl
theorem agg_7 : aggT Try.prog 7 = true := by kernel_rfl
theorem part_7 (cs : List Value) (o : Nat) : partV Try.prog 7 cs o = if o + 4 ≤ cs.length then some (.agg ((cs.drop o).take 4).toArray) else none := part_agg agg_7 sz_7 cs o
theorem fa_7_0 (b o : Nat) : fieldAddrV Try.prog 7 (.pointer (some ⟨b, o, none⟩)) 0 = some (.pointer (some ⟨b, o + 0, none⟩)) := by unfold fieldAddrV; rw [und_7]; simp [sz_2]
theorem fi_7_0 (cs : List Value) : fieldV Try.prog 7 (.agg cs.toArray) 0 = partV Try.prog 2 cs 0 := by unfold fieldV; rw [und_7]; rfl
theorem fa_7_1 (b o : Nat) : fieldAddrV Try.prog 7 (.pointer (some ⟨b, o, none⟩)) 1 = some (.pointer (some ⟨b, o + 1, none⟩)) := by unfold fieldAddrV; rw [und_7]; simp [sz_3]
theorem fi_7_1 (cs : List Value) : fieldV Try.prog 7 (.agg cs.toArray) 1 = partV Try.prog 3 cs 1 := by unfold fieldV; rw [und_7]; rfl
theorem fa_7_2 (b o : Nat) : fieldAddrV Try.prog 7 (.pointer (some ⟨b, o, none⟩)) 2 = some (.pointer (some ⟨b, o + 2, none⟩)) := by unfold fieldAddrV; rw [und_7]; simp [sz_4]
theorem fi_7_2 (cs : List Value) : fieldV Try.prog 7 (.agg cs.toArray) 2 = partV Try.prog 4 cs 2 := by unfold fieldV; rw [und_7]; rfl
theorem fa_7_3 (b o : Nat) : fieldAddrV Try.prog 7 (.pointer (some ⟨b, o, none⟩)) 3 = some (.pointer (some ⟨b, o + 3, none⟩)) := by unfold fieldAddrV; rw [und_7]; simp [sz_6]
theorem fi_7_3 (cs : List Value) : fieldV Try.prog 7 (.agg cs.toArray) 3 = partV Try.prog 6 cs 3 := by unfold fieldV; rw [und_7]; rfl
theorem ev_7 (a0 b0 : Int) (a1 b1 : Int) (a2 b2 : Bool) (a3 b3 : Int) : eqV Try.prog 10000 7 (.agg #[.int .i64 a0, .int .i64 a1, .bool a2, .int .u8 a3]) (.agg #[.int .i64 b0, .int .i64 b1, .bool b2, .int .u8 b3]) = some (decide (a0 = b0 ∧ a1 = b1 ∧ a2 = b2 ∧ a3 = b3)) := by rw [eqV_struct _ _ und_7 Try.stoodInHeld7]; simp [eqFieldsV, part_4, eqV_bool (show (9999 : Nat) ≠ 0 by decide) und_4, part_2, eqV_int (show (9999 : Nat) ≠ 0 by decide) und_2, part_3, eqV_int (show (9999 : Nat) ≠ 0 by decide) und_3, part_6, eqV_int (show (9999 : Nat) ≠ 0 by decide) und_6, Bool.decide_and]
theorem es_7 (a0 b0 : Int) (a1 b1 : Int) (a2 b2 : Bool) (a3 b3 : Int) : binV Try.prog .eql 7 (.agg #[.int .i64 a0, .int .i64 a1, .bool a2, .int .u8 a3]) (.agg #[.int .i64 b0, .int .i64 b1, .bool b2, .int .u8 b3]) = some (.bool (decide (a0 = b0 ∧ a1 = b1 ∧ a2 = b2 ∧ a3 = b3))) := bin_eq_struct Try.eqGuardType7 (ev_7 a0 b0 a1 b1 a2 b2 a3 b3)
theorem en_7 (a0 b0 : Int) (a1 b1 : Int) (a2 b2 : Bool) (a3 b3 : Int) : binV Try.prog .neq 7 (.agg #[.int .i64 a0, .int .i64 a1, .bool a2, .int .u8 a3]) (.agg #[.int .i64 b0, .int .i64 b1, .bool b2, .int .u8 b3]) = some (.bool (decide (¬ (a0 = b0 ∧ a1 = b1 ∧ a2 = b2 ∧ a3 = b3)))) := bin_ne_struct Try.eqGuardType7 (ev_7 a0 b0 a1 b1 a2 b2 a3 b3)
theorem al_7 : allocV Try.prog 7 = some (.cells (zeroV Try.prog 7).cells.toList 7 true, ptrOfNew) := alloc_zero (by kernel_rfl)
theorem bx_7 (v : Value) : boxV Try.prog 7 v = if 4 = v.cells.size then some (.cells v.cells.toList 7 true, ptrOfNew) else none := box_sz sz_7 v
theorem bu_7 (ps : List (Nat × Value)) : buildV Try.prog 7 ps = (fillL (([(0, 1), (1, 1), (2, 1), (3, 1)] : List (Nat × Nat))[·]?) [(Value.int IntKind.i64 0), (Value.int IntKind.i64 0), (Value.bool false), (Value.int IntKind.u8 0)] ps).map fun l => .agg l.toArray := build_struct (places := [(0, 1), (1, 1), (2, 1), (3, 1)]) und_7 (by kernel_rfl) Try.type7 rfl (by kernel_rfl)
theorem zv_7 : zeroV Try.prog 7 = (Value.agg #[(Value.int IntKind.i64 0), (Value.int IntKind.i64 0), (Value.bool false), (Value.int IntKind.u8 0)]) := by kernel_rfl
theorem und_8 : Try.prog.underlying 8 = some (TypeDesc.struct #[{ name := "x", type := 2, offset := 0, embedded := false, tag := "", pkgPath := "runtime", byteOffset := 0 }, { name := "y", type := 3, offset := 1, embedded := false, tag := "", pkgPath := "runtime", byteOffset := 8 }, { name := "signed", type := 4, offset := 2, embedded := false, tag := "", pkgPath := "runtime", byteOffset := 16 }, { name := "code", type := 6, offset := 3, embedded := false, tag := "", pkgPath := "runtime", byteOffset := 17 }]) := Try.underlying8
theorem sz_8 : szT Try.prog 8 = some 4 := by kernel_rfl
theorem agg_8 : aggT Try.prog 8 = true := by kernel_rfl
theorem part_8 (cs : List Value) (o : Nat) : partV Try.prog 8 cs o = if o + 4 ≤ cs.length then some (.agg ((cs.drop o).take 4).toArray) else none := part_agg agg_8 sz_8 cs o
theorem fa_8_0 (b o : Nat) : fieldAddrV Try.prog 8 (.pointer (some ⟨b, o, none⟩)) 0 = some (.pointer (some ⟨b, o + 0, none⟩)) := by unfold fieldAddrV; rw [und_8]; simp [sz_2]
theorem fi_8_0 (cs : List Value) : fieldV Try.prog 8 (.agg cs.toArray) 0 = partV Try.prog 2 cs 0 := by unfold fieldV; rw [und_8]; rfl
theorem fa_8_1 (b o : Nat) : fieldAddrV Try.prog 8 (.pointer (some ⟨b, o, none⟩)) 1 = some (.pointer (some ⟨b, o + 1, none⟩)) := by unfold fieldAddrV; rw [und_8]; simp [sz_3]
theorem fi_8_1 (cs : List Value) : fieldV Try.prog 8 (.agg cs.toArray) 1 = partV Try.prog 3 cs 1 := by unfold fieldV; rw [und_8]; rfl
theorem fa_8_2 (b o : Nat) : fieldAddrV Try.prog 8 (.pointer (some ⟨b, o, none⟩)) 2 = some (.pointer (some ⟨b, o + 2, none⟩)) := by unfold fieldAddrV; rw [und_8]; simp [sz_4]
theorem fi_8_2 (cs : List Value) : fieldV Try.prog 8 (.agg cs.toArray) 2 = partV Try.prog 4 cs 2 := by unfold fieldV; rw [und_8]; rfl
theorem fa_8_3 (b o : Nat) : fieldAddrV Try.prog 8 (.pointer (some ⟨b, o, none⟩)) 3 = some (.pointer (some ⟨b, o + 3, none⟩)) := by unfold fieldAddrV; rw [und_8]; simp [sz_6]
theorem fi_8_3 (cs : List Value) : fieldV Try.prog 8 (.agg cs.toArray) 3 = partV Try.prog 6 cs 3 := by unfold fieldV; rw [und_8]; rfl
theorem ev_8 (a0 b0 : Int) (a1 b1 : Int) (a2 b2 : Bool) (a3 b3 : Int) : eqV Try.prog 10000 8 (.agg #[.int .i64 a0, .int .i64 a1, .bool a2, .int .u8 a3]) (.agg #[.int .i64 b0, .int .i64 b1, .bool b2, .int .u8 b3]) = some (decide (a0 = b0 ∧ a1 = b1 ∧ a2 = b2 ∧ a3 = b3)) := by rw [eqV_struct _ _ und_8 Try.stoodInHeld8]; simp [eqFieldsV, part_4, eqV_bool (show (9999 : Nat) ≠ 0 by decide) und_4, part_2, eqV_int (show (9999 : Nat) ≠ 0 by decide) und_2, part_3, eqV_int (show (9999 : Nat) ≠ 0 by decide) und_3, part_6, eqV_int (show (9999 : Nat) ≠ 0 by decide) und_6, Bool.decide_and]
theorem es_8 (a0 b0 : Int) (a1 b1 : Int) (a2 b2 : Bool) (a3 b3 : Int) : binV Try.prog .eql 8 (.agg #[.int .i64 a0, .int .i64 a1, .bool a2, .int .u8 a3]) (.agg #[.int .i64 b0, .int .i64 b1, .bool b2, .int .u8 b3]) = some (.bool (decide (a0 = b0 ∧ a1 = b1 ∧ a2 = b2 ∧ a3 = b3))) := bin_eq_struct Try.eqGuardType8 (ev_8 a0 b0 a1 b1 a2 b2 a3 b3)
theorem en_8 (a0 b0 : Int) (a1 b1 : Int) (a2 b2 : Bool) (a3 b3 : Int) : binV Try.prog .neq 8 (.agg #[.int .i64 a0, .int .i64 a1, .bool a2, .int .u8 a3]) (.agg #[.int .i64 b0, .int .i64 b1, .bool b2, .int .u8 b3]) = some (.bool (decide (¬ (a0 = b0 ∧ a1 = b1 ∧ a2 = b2 ∧ a3 = b3)))) := bin_ne_struct Try.eqGuardType8 (ev_8 a0 b0 a1 b1 a2 b2 a3 b3)
theorem al_8 : allocV Try.prog 8 = some (.cells (zeroV Try.prog 8).cells.toList 8 true, ptrOfNew) := alloc_zero (by kernel_rfl)
theorem bx_8 (v : Value) : boxV Try.prog 8 v = if 4 = v.cells.size then some (.cells v.cells.toList 8 true, ptrOfNew) else none := box_sz sz_8 v
theorem bu_8 (ps : List (Nat × Value)) : buildV Try.prog 8 ps = (fillL (([(0, 1), (1, 1), (2, 1), (3, 1)] : List (Nat × Nat))[·]?) [(Value.int IntKind.i64 0), (Value.int IntKind.i64 0), (Value.bool false), (Value.int IntKind.u8 0)] ps).map fun l => .agg l.toArray := build_struct (places := [(0, 1), (1, 1), (2, 1), (3, 1)]) und_8 (by kernel_rfl) Try.type8 rfl (by kernel_rfl)
theorem zv_8 : zeroV Try.prog 8 = (Value.agg #[(Value.int IntKind.i64 0), (Value.int IntKind.i64 0), (Value.bool false), (Value.int IntKind.u8 0)]) := by kernel_rfl
theorem und_9 : Try.prog.underlying 9 = some TypeDesc.string := Try.underlying9
theorem sz_9 : szT Try.prog 9 = some 1 := by kernel_rfl
theorem agg_9 : aggT Try.prog 9 = false := by kernel_rfl
theorem part_9 (cs : List Value) (o : Nat) : partV Try.prog 9 cs o = cs[o]? := part_one (by rw [und_9]; rfl) agg_9 cs o
theorem ln_9 (s : ByteArray) : lenV Try.prog 9 (.string s) = some (goInt s.size) := by unfold lenV; rw [und_9]
theorem ix_9 (s : ByteArray) (k : IntKind) (i : Int) (hi : 0 ≤ i) : indexV Try.prog 9 (.string s) (.int k i) = (s[i.toNat]?).map (fun b => .int .u8 b.toNat) := (index_string und_9 s k i).trans (if_pos hi)
theorem al_9 : allocV Try.prog 9 = some (.cells (zeroV Try.prog 9).cells.toList 9 true, ptrOfNew) := alloc_zero (by kernel_rfl)
theorem bx_9 (v : Value) : boxV Try.prog 9 v = if 1 = v.cells.size then some (.cells v.cells.toList 9 true, ptrOfNew) else none := box_sz sz_9 v
theorem zv_9 : zeroV Try.prog 9 = (Value.string (⟨#[]⟩ : ByteArray)) := by kernel_rfl
theorem und_10 : Try.prog.underlying 10 = some TypeDesc.string := Try.underlying10
theorem sz_10 : szT Try.prog 10 = some 1 := by kernel_rfl
theorem agg_10 : aggT Try.prog 10 = false := by kernel_rfl
theorem part_10 (cs : List Value) (o : Nat) : partV Try.prog 10 cs o = cs[o]? := part_one (by rw [und_10]; rfl) agg_10 cs o
theorem ln_10 (s : ByteArray) : lenV Try.prog 10 (.string s) = some (goInt s.size) := by unfold lenV; rw [und_10]
theorem ix_10 (s : ByteArray) (k : IntKind) (i : Int) (hi : 0 ≤ i) : indexV Try.prog 10 (.string s) (.int k i) = (s[i.toNat]?).map (fun b => .int .u8 b.toNat) := (index_string und_10 s k i).trans (if_pos hi)
theorem al_10 : allocV Try.prog 10 = some (.cells (zeroV Try.prog 10).cells.toList 10 true, ptrOfNew) := alloc_zero (by kernel_rfl)
theorem bx_10 (v : Value) : boxV Try.prog 10 v = if 1 = v.cells.size then some (.cells v.cells.toList 10 true, ptrOfNew) else none := box_sz sz_10 v
theorem zv_10 : zeroV Try.prog 10 = (Value.string (⟨#[]⟩ : ByteArray)) := by kernel_rfl
theorem und_12 : Try.prog.underlying 12 = some (TypeDesc.int IntKind.u64) := Try.underlying12
theorem sz_12 : szT Try.prog 12 = some 1 := by kernel_rfl
theorem agg_12 : aggT Try.prog 12 = false := by kernel_rfl
theorem part_12 (cs : List Value) (o : Nat) : partV Try.prog 12 cs o = cs[o]? := part_one (by rw [und_12]; rfl) agg_12 cs o
theorem al_12 : allocV Try.prog 12 = some (.cells (zeroV Try.prog 12).cells.toList 12 true, ptrOfNew) := alloc_zero (by kernel_rfl)
theorem bx_12 (v : Value) : boxV Try.prog 12 v = if 1 = v.cells.size then some (.cells v.cells.toList 12 true, ptrOfNew) else none := box_sz sz_12 v
theorem zv_12 : zeroV Try.prog 12 = (Value.int IntKind.u64 0) := by kernel_rfl
theorem und_16 : Try.prog.underlying 16 = some (TypeDesc.pointer 125) := Try.underlying16
theorem sz_16 : szT Try.prog 16 = some 1 := by kernel_rfl
theorem agg_16 : aggT Try.prog 16 = false := by kernel_rfl
theorem part_16 (cs : List Value) (o : Nat) : partV Try.prog 16 cs o = cs[o]? := part_one (by rw [und_16]; rfl) agg_16 cs o
theorem al_16 : allocV Try.prog 16 = some (.cells (zeroV Try.prog 16).cells.toList 16 true, ptrOfNew) := alloc_zero (by kernel_rfl)
theorem bx_16 (v : Value) : boxV Try.prog 16 v = if 1 = v.cells.size then some (.cells v.cells.toList 16 true, ptrOfNew) else none := box_sz sz_16 v
theorem zv_16 : zeroV Try.prog 16 = (Value.pointer none) := by kernel_rfl
theorem und_17 : Try.prog.underlying 17 = some (TypeDesc.pointer 134) := Try.underlying17
theorem sz_17 : szT Try.prog 17 = some 1 := by kernel_rfl
theorem agg_17 : aggT Try.prog 17 = false := by kernel_rfl
theorem part_17 (cs : List Value) (o : Nat) : partV Try.prog 17 cs o = cs[o]? := part_one (by rw [und_17]; rfl) agg_17 cs o
theorem al_17 : allocV Try.prog 17 = some (.cells (zeroV Try.prog 17).cells.toList 17 true, ptrOfNew) := alloc_zero (by kernel_rfl)
theorem bx_17 (v : Value) : boxV Try.prog 17 v = if 1 = v.cells.size then some (.cells v.cells.toList 17 true, ptrOfNew) else none := box_sz sz_17 v
theorem zv_17 : zeroV Try.prog 17 = (Value.pointer none) := by kernel_rfl
theorem und_21 : Try.prog.underlying 21 = some (TypeDesc.int IntKind.i32) := Try.underlying21
theorem sz_21 : szT Try.prog 21 = some 1 := by kernel_rfl
theorem agg_21 : aggT Try.prog 21 = false := by kernel_rfl
theorem part_21 (cs : List Value) (o : Nat) : partV Try.prog 21 cs o = cs[o]? := part_one (by rw [und_21]; rfl) agg_21 cs o
theorem al_21 : allocV Try.prog 21 = some (.cells (zeroV Try.prog 21).cells.toList 21 true, ptrOfNew) := alloc_zero (by kernel_rfl)
theorem bx_21 (v : Value) : boxV Try.prog 21 v = if 1 = v.cells.size then some (.cells v.cells.toList 21 true, ptrOfNew) else none := box_sz sz_21 v
theorem zv_21 : zeroV Try.prog 21 = (Value.int IntKind.i32 0) := by kernel_rfl
theorem und_22 : Try.prog.underlying 22 = some (TypeDesc.struct #[{ name := "Flags", type := 5, offset := 0, embedded := false, tag := "", pkgPath := "", byteOffset := 0 }, { name := "Fore", type := 5, offset := 1, embedded := false, tag := "", pkgPath := "", byteOffset := 1 }, { name := "Back", type := 5, offset := 2, embedded := false, tag := "", pkgPath := "", byteOffset := 2 }]) := Try.underlying22
theorem sz_22 : szT Try.prog 22 = some 3 := by kernel_rfl
theorem agg_22 : aggT Try.prog 22 = true := by kernel_rfl
theorem part_22 (cs : List Value) (o : Nat) : partV Try.prog 22 cs o = if o + 3 ≤ cs.length then some (.agg ((cs.drop o).take 3).toArray) else none := part_agg agg_22 sz_22 cs o
theorem fa_22_0 (b o : Nat) : fieldAddrV Try.prog 22 (.pointer (some ⟨b, o, none⟩)) 0 = some (.pointer (some ⟨b, o + 0, none⟩)) := by unfold fieldAddrV; rw [und_22]; simp [sz_5]
theorem fi_22_0 (cs : List Value) : fieldV Try.prog 22 (.agg cs.toArray) 0 = partV Try.prog 5 cs 0 := by unfold fieldV; rw [und_22]; rfl
theorem fa_22_1 (b o : Nat) : fieldAddrV Try.prog 22 (.pointer (some ⟨b, o, none⟩)) 1 = some (.pointer (some ⟨b, o + 1, none⟩)) := by unfold fieldAddrV; rw [und_22]; simp [sz_5]
theorem fi_22_1 (cs : List Value) : fieldV Try.prog 22 (.agg cs.toArray) 1 = partV Try.prog 5 cs 1 := by unfold fieldV; rw [und_22]; rfl
theorem fa_22_2 (b o : Nat) : fieldAddrV Try.prog 22 (.pointer (some ⟨b, o, none⟩)) 2 = some (.pointer (some ⟨b, o + 2, none⟩)) := by unfold fieldAddrV; rw [und_22]; simp [sz_5]
theorem fi_22_2 (cs : List Value) : fieldV Try.prog 22 (.agg cs.toArray) 2 = partV Try.prog 5 cs 2 := by unfold fieldV; rw [und_22]; rfl
theorem ev_22 (a0 b0 : Int) (a1 b1 : Int) (a2 b2 : Int) : eqV Try.prog 10000 22 (.agg #[.int .u8 a0, .int .u8 a1, .int .u8 a2]) (.agg #[.int .u8 b0, .int .u8 b1, .int .u8 b2]) = some (decide (a0 = b0 ∧ a1 = b1 ∧ a2 = b2)) := by rw [eqV_struct _ _ und_22 Try.stoodInHeld22]; simp [eqFieldsV, part_5, eqV_int (show (9999 : Nat) ≠ 0 by decide) und_5, Bool.decide_and]
theorem es_22 (a0 b0 : Int) (a1 b1 : Int) (a2 b2 : Int) : binV Try.prog .eql 22 (.agg #[.int .u8 a0, .int .u8 a1, .int .u8 a2]) (.agg #[.int .u8 b0, .int .u8 b1, .int .u8 b2]) = some (.bool (decide (a0 = b0 ∧ a1 = b1 ∧ a2 = b2))) := bin_eq_struct Try.eqGuardType22 (ev_22 a0 b0 a1 b1 a2 b2)
theorem en_22 (a0 b0 : Int) (a1 b1 : Int) (a2 b2 : Int) : binV Try.prog .neq 22 (.agg #[.int .u8 a0, .int .u8 a1, .int .u8 a2]) (.agg #[.int .u8 b0, .int .u8 b1, .int .u8 b2]) = some (.bool (decide (¬ (a0 = b0 ∧ a1 = b1 ∧ a2 = b2)))) := bin_ne_struct Try.eqGuardType22 (ev_22 a0 b0 a1 b1 a2 b2)
theorem al_22 : allocV Try.prog 22 = some (.cells (zeroV Try.prog 22).cells.toList 22 true, ptrOfNew) := alloc_zero (by kernel_rfl)
theorem bx_22 (v : Value) : boxV Try.prog 22 v = if 3 = v.cells.size then some (.cells v.cells.toList 22 true, ptrOfNew) else none := box_sz sz_22 v
theorem bu_22 (ps : List (Nat × Value)) : buildV Try.prog 22 ps = (fillL (([(0, 1), (1, 1), (2, 1)] : List (Nat × Nat))[·]?) [(Value.int IntKind.u8 0), (Value.int IntKind.u8 0), (Value.int IntKind.u8 0)] ps).map fun l => .agg l.toArray := build_struct (places := [(0, 1), (1, 1), (2, 1)]) und_22 (by kernel_rfl) Try.type22 rfl (by kernel_rfl)
theorem zv_22 : zeroV Try.prog 22 = (Value.agg #[(Value.int IntKind.u8 0), (Value.int IntKind.u8 0), (Value.int IntKind.u8 0)]) := by kernel_rfl
theorem und_23 : Try.prog.underlying 23 = some (TypeDesc.struct #[{ name := "Flags", type := 5, offset := 0, embedded := false, tag := "", pkgPath := "", byteOffset := 0 }, { name := "Fore", type := 5, offset := 1, embedded := false, tag := "", pkgPath := "", byteOffset := 1 }, { name := "Back", type := 5, offset := 2, embedded := false, tag := "", pkgPath := "", byteOffset := 2 }]) := Try.underlying23
theorem sz_23 : szT Try.prog 23 = some 3 := by kernel_rfl
theorem agg_23 : aggT Try.prog 23 = true := by kernel_rfl
theorem part_23 (cs : List Value) (o : Nat) : partV Try.prog 23 cs o = if o + 3 ≤ cs.length then some (.agg ((cs.drop o).take 3).toArray) else none := part_agg agg_23 sz_23 cs o
theorem fa_23_0 (b o : Nat) : fieldAddrV Try.prog 23 (.pointer (some ⟨b, o, none⟩)) 0 = some (.pointer (some ⟨b, o + 0, none⟩)) := by unfold fieldAddrV; rw [und_23]; simp [sz_5]
theorem fi_23_0 (cs : List Value) : fieldV Try.prog 23 (.agg cs.toArray) 0 = partV Try.prog 5 cs 0 := by unfold fieldV; rw [und_23]; rfl
theorem fa_23_1 (b o : Nat) : fieldAddrV Try.prog 23 (.pointer (some ⟨b, o, none⟩)) 1 = some (.pointer (some ⟨b, o + 1, none⟩)) := by unfold fieldAddrV; rw [und_23]; simp [sz_5]
theorem fi_23_1 (cs : List Value) : fieldV Try.prog 23 (.agg cs.toArray) 1 = partV Try.prog 5 cs 1 := by unfold fieldV; rw [und_23]; rfl
theorem fa_23_2 (b o : Nat) : fieldAddrV Try.prog 23 (.pointer (some ⟨b, o, none⟩)) 2 = some (.pointer (some ⟨b, o + 2, none⟩)) := by unfold fieldAddrV; rw [und_23]; simp [sz_5]
theorem fi_23_2 (cs : List Value) : fieldV Try.prog 23 (.agg cs.toArray) 2 = partV Try.prog 5 cs 2 := by unfold fieldV; rw [und_23]; rfl
theorem ev_23 (a0 b0 : Int) (a1 b1 : Int) (a2 b2 : Int) : eqV Try.prog 10000 23 (.agg #[.int .u8 a0, .int .u8 a1, .int .u8 a2]) (.agg #[.int .u8 b0, .int .u8 b1, .int .u8 b2]) = some (decide (a0 = b0 ∧ a1 = b1 ∧ a2 = b2)) := by rw [eqV_struct _ _ und_23 Try.stoodInHeld23]; simp [eqFieldsV, part_5, eqV_int (show (9999 : Nat) ≠ 0 by decide) und_5, Bool.decide_and]
theorem es_23 (a0 b0 : Int) (a1 b1 : Int) (a2 b2 : Int) : binV Try.prog .eql 23 (.agg #[.int .u8 a0, .int .u8 a1, .int .u8 a2]) (.agg #[.int .u8 b0, .int .u8 b1, .int .u8 b2]) = some (.bool (decide (a0 = b0 ∧ a1 = b1 ∧ a2 = b2))) := bin_eq_struct Try.eqGuardType23 (ev_23 a0 b0 a1 b1 a2 b2)
theorem en_23 (a0 b0 : Int) (a1 b1 : Int) (a2 b2 : Int) : binV Try.prog .neq 23 (.agg #[.int .u8 a0, .int .u8 a1, .int .u8 a2]) (.agg #[.int .u8 b0, .int .u8 b1, .int .u8 b2]) = some (.bool (decide (¬ (a0 = b0 ∧ a1 = b1 ∧ a2 = b2)))) := bin_ne_struct Try.eqGuardType23 (ev_23 a0 b0 a1 b1 a2 b2)
theorem al_23 : allocV Try.prog 23 = some (.cells (zeroV Try.prog 23).cells.toList 23 true, ptrOfNew) := alloc_zero (by kernel_rfl)
theorem bx_23 (v : Value) : boxV Try.prog 23 v = if 3 = v.cells.size then some (.cells v.cells.toList 23 true, ptrOfNew) else none := box_sz sz_23 v
theorem bu_23 (ps : List (Nat × Value)) : buildV Try.prog 23 ps = (fillL (([(0, 1), (1, 1), (2, 1)] : List (Nat × Nat))[·]?) [(Value.int IntKind.u8 0), (Value.int IntKind.u8 0), (Value.int IntKind.u8 0)] ps).map fun l => .agg l.toArray := build_struct (places := [(0, 1), (1, 1), (2, 1)]) und_23 (by kernel_rfl) Try.type23 rfl (by kernel_rfl)
theorem zv_23 : zeroV Try.prog 23 = (Value.agg #[(Value.int IntKind.u8 0), (Value.int IntKind.u8 0), (Value.int IntKind.u8 0)]) := by kernel_rfl
theorem und_24 : Try.prog.underlying 24 = some (TypeDesc.slice 3) := Try.underlying24
theorem sz_24 : szT Try.prog 24 = some 1 := by kernel_rfl
theorem agg_24 : aggT Try.prog 24 = false := by kernel_rfl
theorem part_24 (cs : List Value) (o : Nat) : partV Try.prog 24 cs o = cs[o]? := part_one (by rw [und_24]; rfl) agg_24 cs o
theorem ia_24 (b o len c : Nat) (k : IntKind) (i : Int) (hi : 0 ≤ i ∧ i < len) : indexAddrV Try.prog 24 (.slice (some ⟨b, o, none⟩) len c) (.int k i) = some (.pointer (some ⟨b, o + i.toNat * 1, none⟩)) := (indexAddr_slice und_24 (by kernel_rfl) b o len c k i).trans (if_pos hi)
theorem bs_24 (k : Nat) (ps : List (Nat × Value)) (h : k ≤ 100000) : buildSliceV Try.prog 24 k ps = (fillL (fun i => some (i * 1, 1)) (zeros [(Value.int IntKind.i64 0)] k) ps).map fun l => (AObj.cells l 3 true, sliceOfNew k k) := buildSlice_eq und_24 (by kernel_rfl) (by kernel_rfl) (by have : maxLen = 9223372036854775807 := rfl; omega)
theorem ln_24 (p : Option Addr) (l c : Nat) : lenV Try.prog 24 (.slice p l c) = some (goInt l) := by unfold lenV; rw [und_24]
theorem al_24 : allocV Try.prog 24 = some (.cells (zeroV Try.prog 24).cells.toList 24 true, ptrOfNew) := alloc_zero (by kernel_rfl)
theorem bx_24 (v : Value) : boxV Try.prog 24 v = if 1 = v.cells.size then some (.cells v.cells.toList 24 true, ptrOfNew) else none := box_sz sz_24 v
theorem zv_24 : zeroV Try.prog 24 = (Value.slice none 0 0) := by kernel_rfl
theorem und_27 : Try.prog.underlying 27 = some (TypeDesc.struct #[{ name := "Flags", type := 5, offset := 0, embedded := false, tag := "", pkgPath := "", byteOffset := 0 }, { name := "Fore", type := 5, offset := 1, embedded := false, tag := "", pkgPath := "", byteOffset := 1 }, { name := "Back", type := 5, offset := 2, embedded := false, tag := "", pkgPath := "", byteOffset := 2 }]) := Try.underlying27
theorem sz_27 : szT Try.prog 27 = some 3 := by kernel_rfl
theorem agg_27 : aggT Try.prog 27 = true := by kernel_rfl
theorem part_27 (cs : List Value) (o : Nat) : partV Try.prog 27 cs o = if o + 3 ≤ cs.length then some (.agg ((cs.drop o).take 3).toArray) else none := part_agg agg_27 sz_27 cs o
theorem fa_27_0 (b o : Nat) : fieldAddrV Try.prog 27 (.pointer (some ⟨b, o, none⟩)) 0 = some (.pointer (some ⟨b, o + 0, none⟩)) := by unfold fieldAddrV; rw [und_27]; simp [sz_5]
theorem fi_27_0 (cs : List Value) : fieldV Try.prog 27 (.agg cs.toArray) 0 = partV Try.prog 5 cs 0 := by unfold fieldV; rw [und_27]; rfl
theorem fa_27_1 (b o : Nat) : fieldAddrV Try.prog 27 (.pointer (some ⟨b, o, none⟩)) 1 = some (.pointer (some ⟨b, o + 1, none⟩)) := by unfold fieldAddrV; rw [und_27]; simp [sz_5]
theorem fi_27_1 (cs : List Value) : fieldV Try.prog 27 (.agg cs.toArray) 1 = partV Try.prog 5 cs 1 := by unfold fieldV; rw [und_27]; rfl
theorem fa_27_2 (b o : Nat) : fieldAddrV Try.prog 27 (.pointer (some ⟨b, o, none⟩)) 2 = some (.pointer (some ⟨b, o + 2, none⟩)) := by unfold fieldAddrV; rw [und_27]; simp [sz_5]
theorem fi_27_2 (cs : List Value) : fieldV Try.prog 27 (.agg cs.toArray) 2 = partV Try.prog 5 cs 2 := by unfold fieldV; rw [und_27]; rfl
theorem ev_27 (a0 b0 : Int) (a1 b1 : Int) (a2 b2 : Int) : eqV Try.prog 10000 27 (.agg #[.int .u8 a0, .int .u8 a1, .int .u8 a2]) (.agg #[.int .u8 b0, .int .u8 b1, .int .u8 b2]) = some (decide (a0 = b0 ∧ a1 = b1 ∧ a2 = b2)) := by rw [eqV_struct _ _ und_27 Try.stoodInHeld27]; simp [eqFieldsV, part_5, eqV_int (show (9999 : Nat) ≠ 0 by decide) und_5, Bool.decide_and]
theorem es_27 (a0 b0 : Int) (a1 b1 : Int) (a2 b2 : Int) : binV Try.prog .eql 27 (.agg #[.int .u8 a0, .int .u8 a1, .int .u8 a2]) (.agg #[.int .u8 b0, .int .u8 b1, .int .u8 b2]) = some (.bool (decide (a0 = b0 ∧ a1 = b1 ∧ a2 = b2))) := bin_eq_struct Try.eqGuardType27 (ev_27 a0 b0 a1 b1 a2 b2)
theorem en_27 (a0 b0 : Int) (a1 b1 : Int) (a2 b2 : Int) : binV Try.prog .neq 27 (.agg #[.int .u8 a0, .int .u8 a1, .int .u8 a2]) (.agg #[.int .u8 b0, .int .u8 b1, .int .u8 b2]) = some (.bool (decide (¬ (a0 = b0 ∧ a1 = b1 ∧ a2 = b2)))) := bin_ne_struct Try.eqGuardType27 (ev_27 a0 b0 a1 b1 a2 b2)
theorem al_27 : allocV Try.prog 27 = some (.cells (zeroV Try.prog 27).cells.toList 27 true, ptrOfNew) := alloc_zero (by kernel_rfl)
theorem bx_27 (v : Value) : boxV Try.prog 27 v = if 3 = v.cells.size then some (.cells v.cells.toList 27 true, ptrOfNew) else none := box_sz sz_27 v
theorem bu_27 (ps : List (Nat × Value)) : buildV Try.prog 27 ps = (fillL (([(0, 1), (1, 1), (2, 1)] : List (Nat × Nat))[·]?) [(Value.int IntKind.u8 0), (Value.int IntKind.u8 0), (Value.int IntKind.u8 0)] ps).map fun l => .agg l.toArray := build_struct (places := [(0, 1), (1, 1), (2, 1)]) und_27 (by kernel_rfl) Try.type27 rfl (by kernel_rfl)
theorem zv_27 : zeroV Try.prog 27 = (Value.agg #[(Value.int IntKind.u8 0), (Value.int IntKind.u8 0), (Value.int IntKind.u8 0)]) := by kernel_rfl
theorem und_32 : Try.prog.underlying 32 = some (TypeDesc.func #[27, 5, 4] #[27] false) := Try.underlying32
theorem sz_32 : szT Try.prog 32 = some 1 := by kernel_rfl
theorem agg_32 : aggT Try.prog 32 = false := by kernel_rfl
theorem part_32 (cs : List Value) (o : Nat) : partV Try.prog 32 cs o = cs[o]? := part_one (by rw [und_32]; rfl) agg_32 cs o
theorem al_32 : allocV Try.prog 32 = some (.cells (zeroV Try.prog 32).cells.toList 32 true, ptrOfNew) := alloc_zero (by kernel_rfl)
theorem bx_32 (v : Value) : boxV Try.prog 32 v = if 1 = v.cells.size then some (.cells v.cells.toList 32 true, ptrOfNew) else none := box_sz sz_32 v
theorem zv_32 : zeroV Try.prog 32 = Value.nilFunc := by kernel_rfl
theorem und_40 : Try.prog.underlying 40 = some (TypeDesc.func #[27] #[3] false) := Try.underlying40
theorem sz_40 : szT Try.prog 40 = some 1 := by kernel_rfl
theorem agg_40 : aggT Try.prog 40 = false := by kernel_rfl
theorem part_40 (cs : List Value) (o : Nat) : partV Try.prog 40 cs o = cs[o]? := part_one (by rw [und_40]; rfl) agg_40 cs o
theorem al_40 : allocV Try.prog 40 = some (.cells (zeroV Try.prog 40).cells.toList 40 true, ptrOfNew) := alloc_zero (by kernel_rfl)
theorem bx_40 (v : Value) : boxV Try.prog 40 v = if 1 = v.cells.size then some (.cells v.cells.toList 40 true, ptrOfNew) else none := box_sz sz_40 v
theorem zv_40 : zeroV Try.prog 40 = Value.nilFunc := by kernel_rfl
theorem und_44 : Try.prog.underlying 44 = some (TypeDesc.func #[23, 23] #[4] false) := Try.underlying44
theorem sz_44 : szT Try.prog 44 = some 1 := by kernel_rfl
theorem agg_44 : aggT Try.prog 44 = false := by kernel_rfl
theorem part_44 (cs : List Value) (o : Nat) : partV Try.prog 44 cs o = cs[o]? := part_one (by rw [und_44]; rfl) agg_44 cs o
theorem al_44 : allocV Try.prog 44 = some (.cells (zeroV Try.prog 44).cells.toList 44 true, ptrOfNew) := alloc_zero (by kernel_rfl)
theorem bx_44 (v : Value) : boxV Try.prog 44 v = if 1 = v.cells.size then some (.cells v.cells.toList 44 true, ptrOfNew) else none := box_sz sz_44 v
theorem zv_44 : zeroV Try.prog 44 = Value.nilFunc := by kernel_rfl
theorem und_45 : Try.prog.underlying 45 = some (TypeDesc.slice 5) := Try.underlying45
theorem sz_45 : szT Try.prog 45 = some 1 := by kernel_rfl
theorem agg_45 : aggT Try.prog 45 = false := by kernel_rfl
theorem part_45 (cs : List Value) (o : Nat) : partV Try.prog 45 cs o = cs[o]? := part_one (by rw [und_45]; rfl) agg_45 cs o
theorem ia_45 (b o len c : Nat) (k : IntKind) (i : Int) (hi : 0 ≤ i ∧ i < len) : indexAddrV Try.prog 45 (.slice (some ⟨b, o, none⟩) len c) (.int k i) = some (.pointer (some ⟨b, o + i.toNat * 1, none⟩)) := (indexAddr_slice und_45 (by kernel_rfl) b o len c k i).trans (if_pos hi)
theorem bs_45 (k : Nat) (ps : List (Nat × Value)) (h : k ≤ 100000) : buildSliceV Try.prog 45 k ps = (fillL (fun i => some (i * 1, 1)) (zeros [(Value.int IntKind.u8 0)] k) ps).map fun l => (AObj.cells l 5 true, sliceOfNew k k) := buildSlice_eq und_45 (by kernel_rfl) (by kernel_rfl) (by have : maxLen = 9223372036854775807 := rfl; omega)
theorem ln_45 (p : Option Addr) (l c : Nat) : lenV Try.prog 45 (.slice p l c) = some (goInt l) := by unfold lenV; rw [und_45]
theorem al_45 : allocV Try.prog 45 = some (.cells (zeroV Try.prog 45).cells.toList 45 true, ptrOfNew) := alloc_zero (by kernel_rfl)
theorem bx_45 (v : Value) : boxV Try.prog 45 v = if 1 = v.cells.size then some (.cells v.cells.toList 45 true, ptrOfNew) else none := box_sz sz_45 v
theorem zv_45 : zeroV Try.prog 45 = (Value.slice none 0 0) := by kernel_rfl
theorem und_77 : Try.prog.underlying 77 = some (TypeDesc.array 5 3) := Try.underlying77
theorem sz_77 : szT Try.prog 77 = some 5 := by kernel_rfl
theorem agg_77 : aggT Try.prog 77 = true := by kernel_rfl
theorem part_77 (cs : List Value) (o : Nat) : partV Try.prog 77 cs o = if o + 5 ≤ cs.length then some (.agg ((cs.drop o).take 5).toArray) else none := part_agg agg_77 sz_77 cs o
theorem ia_77 (b o : Nat) (k : IntKind) (i : Int) (hi : 0 ≤ i ∧ i < 5) : indexAddrV Try.prog 77 (.pointer (some ⟨b, o, none⟩)) (.int k i) = some (.pointer (some ⟨b, o + i.toNat * 1, none⟩)) := (indexAddr_array und_77 (by kernel_rfl) b o k i).trans (if_pos hi)
theorem ix_77 (cs : List Value) (k : IntKind) (i : Int) (hi : 0 ≤ i ∧ i < 5) : indexV Try.prog 77 (.agg cs.toArray) (.int k i) = partV Try.prog 3 cs (i.toNat * 1) := (index_array und_77 (by kernel_rfl) cs k i).trans (if_pos hi)
theorem al_77 : allocV Try.prog 77 = some (.cells (zeroV Try.prog 77).cells.toList 77 true, ptrOfNew) := alloc_zero (by kernel_rfl)
theorem bx_77 (v : Value) : boxV Try.prog 77 v = if 5 = v.cells.size then some (.cells v.cells.toList 77 true, ptrOfNew) else none := box_sz sz_77 v
theorem bu_77 (ps : List (Nat × Value)) : buildV Try.prog 77 ps = (fillL (fun i => some (i * 1, 1)) [(Value.int IntKind.i64 0), (Value.int IntKind.i64 0), (Value.int IntKind.i64 0), (Value.int IntKind.i64 0), (Value.int IntKind.i64 0)] ps).map fun l => .agg l.toArray := build_array und_77 (by kernel_rfl) Try.type77 rfl Try.type3
theorem zv_77 : zeroV Try.prog 77 = (Value.agg #[(Value.int IntKind.i64 0), (Value.int IntKind.i64 0), (Value.int IntKind.i64 0), (Value.int IntKind.i64 0), (Value.int IntKind.i64 0)]) := by kernel_rfl
theorem und_123 : Try.prog.underlying 123 = some (TypeDesc.array 0 16) := Try.underlying123
theorem sz_123 : szT Try.prog 123 = some 0 := by kernel_rfl
theorem agg_123 : aggT Try.prog 123 = true := by kernel_rfl
theorem part_123 (cs : List Value) (o : Nat) : partV Try.prog 123 cs o = if o + 0 ≤ cs.length then some (.agg ((cs.drop o).take 0).toArray) else none := part_agg agg_123 sz_123 cs o
theorem ia_123 (b o : Nat) (k : IntKind) (i : Int) (hi : 0 ≤ i ∧ i < 0) : indexAddrV Try.prog 123 (.pointer (some ⟨b, o, none⟩)) (.int k i) = some (.pointer (some ⟨b, o + i.toNat * 1, none⟩)) := (indexAddr_array und_123 (by kernel_rfl) b o k i).trans (if_pos hi)
theorem ix_123 (cs : List Value) (k : IntKind) (i : Int) (hi : 0 ≤ i ∧ i < 0) : indexV Try.prog 123 (.agg cs.toArray) (.int k i) = partV Try.prog 16 cs (i.toNat * 1) := (index_array und_123 (by kernel_rfl) cs k i).trans (if_pos hi)
theorem al_123 : allocV Try.prog 123 = some (.cells (zeroV Try.prog 123).cells.toList 123 true, ptrOfNew) := alloc_zero (by kernel_rfl)
theorem bx_123 (v : Value) : boxV Try.prog 123 v = if 0 = v.cells.size then some (.cells v.cells.toList 123 true, ptrOfNew) else none := box_sz sz_123 v
theorem bu_123 (ps : List (Nat × Value)) : buildV Try.prog 123 ps = (fillL (fun i => some (i * 1, 1)) [] ps).map fun l => .agg l.toArray := build_array und_123 (by kernel_rfl) Try.type123 rfl Try.type16
theorem zv_123 : zeroV Try.prog 123 = (Value.agg #[]) := by kernel_rfl
theorem und_125 : Try.prog.underlying 125 = some (TypeDesc.struct #[{ name := "_", type := 123, offset := 0, embedded := false, tag := "", pkgPath := "runtime", byteOffset := 0 }]) := Try.underlying125
theorem sz_125 : szT Try.prog 125 = some 0 := by kernel_rfl
theorem agg_125 : aggT Try.prog 125 = true := by kernel_rfl
theorem part_125 (cs : List Value) (o : Nat) : partV Try.prog 125 cs o = if o + 0 ≤ cs.length then some (.agg ((cs.drop o).take 0).toArray) else none := part_agg agg_125 sz_125 cs o
theorem al_125 : allocV Try.prog 125 = some (.cells (zeroV Try.prog 125).cells.toList 125 true, ptrOfNew) := alloc_zero (by kernel_rfl)
theorem bx_125 (v : Value) : boxV Try.prog 125 v = if 0 = v.cells.size then some (.cells v.cells.toList 125 true, ptrOfNew) else none := box_sz sz_125 v
theorem bu_125 (ps : List (Nat × Value)) : buildV Try.prog 125 ps = (fillL (([(0, 0)] : List (Nat × Nat))[·]?) [] ps).map fun l => .agg l.toArray := build_struct (places := [(0, 0)]) und_125 (by kernel_rfl) Try.type125 rfl (by kernel_rfl)
theorem zv_125 : zeroV Try.prog 125 = (Value.agg #[]) := by kernel_rfl
theorem und_126 : Try.prog.underlying 126 = some (TypeDesc.int IntKind.u32) := Try.underlying126
theorem sz_126 : szT Try.prog 126 = some 1 := by kernel_rfl
theorem agg_126 : aggT Try.prog 126 = false := by kernel_rfl
theorem part_126 (cs : List Value) (o : Nat) : partV Try.prog 126 cs o = cs[o]? := part_one (by rw [und_126]; rfl) agg_126 cs o
theorem al_126 : allocV Try.prog 126 = some (.cells (zeroV Try.prog 126).cells.toList 126 true, ptrOfNew) := alloc_zero (by kernel_rfl)
theorem bx_126 (v : Value) : boxV Try.prog 126 v = if 1 = v.cells.size then some (.cells v.cells.toList 126 true, ptrOfNew) else none := box_sz sz_126 v
theorem zv_126 : zeroV Try.prog 126 = (Value.int IntKind.u32 0) := by kernel_rfl
theorem und_127 : Try.prog.underlying 127 = some (TypeDesc.int IntKind.u8) := Try.underlying127
theorem sz_127 : szT Try.prog 127 = some 1 := by kernel_rfl
theorem agg_127 : aggT Try.prog 127 = false := by kernel_rfl
theorem part_127 (cs : List Value) (o : Nat) : partV Try.prog 127 cs o = cs[o]? := part_one (by rw [und_127]; rfl) agg_127 cs o
theorem al_127 : allocV Try.prog 127 = some (.cells (zeroV Try.prog 127).cells.toList 127 true, ptrOfNew) := alloc_zero (by kernel_rfl)
theorem bx_127 (v : Value) : boxV Try.prog 127 v = if 1 = v.cells.size then some (.cells v.cells.toList 127 true, ptrOfNew) else none := box_sz sz_127 v
theorem zv_127 : zeroV Try.prog 127 = (Value.int IntKind.u8 0) := by kernel_rfl
theorem und_128 : Try.prog.underlying 128 = some (TypeDesc.int IntKind.u8) := Try.underlying128
theorem sz_128 : szT Try.prog 128 = some 1 := by kernel_rfl
theorem agg_128 : aggT Try.prog 128 = false := by kernel_rfl
theorem part_128 (cs : List Value) (o : Nat) : partV Try.prog 128 cs o = cs[o]? := part_one (by rw [und_128]; rfl) agg_128 cs o
theorem al_128 : allocV Try.prog 128 = some (.cells (zeroV Try.prog 128).cells.toList 128 true, ptrOfNew) := alloc_zero (by kernel_rfl)
theorem bx_128 (v : Value) : boxV Try.prog 128 v = if 1 = v.cells.size then some (.cells v.cells.toList 128 true, ptrOfNew) else none := box_sz sz_128 v
theorem zv_128 : zeroV Try.prog 128 = (Value.int IntKind.u8 0) := by kernel_rfl
theorem und_129 : Try.prog.underlying 129 = some (TypeDesc.func #[135, 135] #[4] false) := Try.underlying129
theorem sz_129 : szT Try.prog 129 = some 1 := by kernel_rfl
theorem agg_129 : aggT Try.prog 129 = false := by kernel_rfl
theorem part_129 (cs : List Value) (o : Nat) : partV Try.prog 129 cs o = cs[o]? := part_one (by rw [und_129]; rfl) agg_129 cs o
theorem al_129 : allocV Try.prog 129 = some (.cells (zeroV Try.prog 129).cells.toList 129 true, ptrOfNew) := alloc_zero (by kernel_rfl)
theorem bx_129 (v : Value) : boxV Try.prog 129 v = if 1 = v.cells.size then some (.cells v.cells.toList 129 true, ptrOfNew) else none := box_sz sz_129 v
theorem zv_129 : zeroV Try.prog 129 = Value.nilFunc := by kernel_rfl
theorem und_130 : Try.prog.underlying 130 = some (TypeDesc.pointer 5) := Try.underlying130
theorem sz_130 : szT Try.prog 130 = some 1 := by kernel_rfl
theorem agg_130 : aggT Try.prog 130 = false := by kernel_rfl
theorem part_130 (cs : List Value) (o : Nat) : partV Try.prog 130 cs o = cs[o]? := part_one (by rw [und_130]; rfl) agg_130 cs o
theorem al_130 : allocV Try.prog 130 = some (.cells (zeroV Try.prog 130).cells.toList 130 true, ptrOfNew) := alloc_zero (by kernel_rfl)
theorem bx_130 (v : Value) : boxV Try.prog 130 v = if 1 = v.cells.size then some (.cells v.cells.toList 130 true, ptrOfNew) else none := box_sz sz_130 v
theorem zv_130 : zeroV Try.prog 130 = (Value.pointer none) := by kernel_rfl
theorem und_131 : Try.prog.underlying 131 = some (TypeDesc.int IntKind.i32) := Try.underlying131
theorem sz_131 : szT Try.prog 131 = some 1 := by kernel_rfl
theorem agg_131 : aggT Try.prog 131 = false := by kernel_rfl
theorem part_131 (cs : List Value) (o : Nat) : partV Try.prog 131 cs o = cs[o]? := part_one (by rw [und_131]; rfl) agg_131 cs o
theorem al_131 : allocV Try.prog 131 = some (.cells (zeroV Try.prog 131).cells.toList 131 true, ptrOfNew) := alloc_zero (by kernel_rfl)
theorem bx_131 (v : Value) : boxV Try.prog 131 v = if 1 = v.cells.size then some (.cells v.cells.toList 131 true, ptrOfNew) else none := box_sz sz_131 v
theorem zv_131 : zeroV Try.prog 131 = (Value.int IntKind.i32 0) := by kernel_rfl
theorem und_132 : Try.prog.underlying 132 = some (TypeDesc.int IntKind.i32) := Try.underlying132
theorem sz_132 : szT Try.prog 132 = some 1 := by kernel_rfl
theorem agg_132 : aggT Try.prog 132 = false := by kernel_rfl
theorem part_132 (cs : List Value) (o : Nat) : partV Try.prog 132 cs o = cs[o]? := part_one (by rw [und_132]; rfl) agg_132 cs o
theorem al_132 : allocV Try.prog 132 = some (.cells (zeroV Try.prog 132).cells.toList 132 true, ptrOfNew) := alloc_zero (by kernel_rfl)
theorem bx_132 (v : Value) : boxV Try.prog 132 v = if 1 = v.cells.size then some (.cells v.cells.toList 132 true, ptrOfNew) else none := box_sz sz_132 v
theorem zv_132 : zeroV Try.prog 132 = (Value.int IntKind.i32 0) := by kernel_rfl
theorem und_134 : Try.prog.underlying 134 = some (TypeDesc.struct #[{ name := "Size_", type := 12, offset := 0, embedded := false, tag := "", pkgPath := "", byteOffset := 0 }, { name := "PtrBytes", type := 12, offset := 1, embedded := false, tag := "", pkgPath := "", byteOffset := 8 }, { name := "Hash", type := 126, offset := 2, embedded := false, tag := "", pkgPath := "", byteOffset := 16 }, { name := "TFlag", type := 127, offset := 3, embedded := false, tag := "", pkgPath := "", byteOffset := 20 }, { name := "Align_", type := 5, offset := 4, embedded := false, tag := "", pkgPath := "", byteOffset := 21 }, { name := "FieldAlign_", type := 5, offset := 5, embedded := false, tag := "", pkgPath := "", byteOffset := 22 }, { name := "Kind_", type := 128, offset := 6, embedded := false, tag := "", pkgPath := "", byteOffset := 23 }, { name := "Equal", type := 129, offset := 7, embedded := false, tag := "", pkgPath := "", byteOffset := 24 }, { name := "GCData", type := 130, offset := 8, embedded := false, tag := "", pkgPath := "", byteOffset := 32 }, { name := "Str", type := 131, offset := 9, embedded := false, tag := "", pkgPath := "", byteOffset := 40 }, { name := "PtrToThis", type := 132, offset := 10, embedded := false, tag := "", pkgPath := "", byteOffset := 44 }]) := Try.underlying134
theorem sz_134 : szT Try.prog 134 = some 11 := by kernel_rfl
theorem agg_134 : aggT Try.prog 134 = true := by kernel_rfl
theorem part_134 (cs : List Value) (o : Nat) : partV Try.prog 134 cs o = if o + 11 ≤ cs.length then some (.agg ((cs.drop o).take 11).toArray) else none := part_agg agg_134 sz_134 cs o
theorem fa_134_0 (b o : Nat) : fieldAddrV Try.prog 134 (.pointer (some ⟨b, o, none⟩)) 0 = some (.pointer (some ⟨b, o + 0, none⟩)) := by unfold fieldAddrV; rw [und_134]; simp [sz_12]
theorem fi_134_0 (cs : List Value) : fieldV Try.prog 134 (.agg cs.toArray) 0 = partV Try.prog 12 cs 0 := by unfold fieldV; rw [und_134]; rfl
theorem fa_134_1 (b o : Nat) : fieldAddrV Try.prog 134 (.pointer (some ⟨b, o, none⟩)) 1 = some (.pointer (some ⟨b, o + 1, none⟩)) := by unfold fieldAddrV; rw [und_134]; simp [sz_12]
theorem fi_134_1 (cs : List Value) : fieldV Try.prog 134 (.agg cs.toArray) 1 = partV Try.prog 12 cs 1 := by unfold fieldV; rw [und_134]; rfl
theorem fa_134_2 (b o : Nat) : fieldAddrV Try.prog 134 (.pointer (some ⟨b, o, none⟩)) 2 = some (.pointer (some ⟨b, o + 2, none⟩)) := by unfold fieldAddrV; rw [und_134]; simp [sz_126]
theorem fi_134_2 (cs : List Value) : fieldV Try.prog 134 (.agg cs.toArray) 2 = partV Try.prog 126 cs 2 := by unfold fieldV; rw [und_134]; rfl
theorem fa_134_3 (b o : Nat) : fieldAddrV Try.prog 134 (.pointer (some ⟨b, o, none⟩)) 3 = some (.pointer (some ⟨b, o + 3, none⟩)) := by unfold fieldAddrV; rw [und_134]; simp [sz_127]
theorem fi_134_3 (cs : List Value) : fieldV Try.prog 134 (.agg cs.toArray) 3 = partV Try.prog 127 cs 3 := by unfold fieldV; rw [und_134]; rfl
theorem fa_134_4 (b o : Nat) : fieldAddrV Try.prog 134 (.pointer (some ⟨b, o, none⟩)) 4 = some (.pointer (some ⟨b, o + 4, none⟩)) := by unfold fieldAddrV; rw [und_134]; simp [sz_5]
theorem fi_134_4 (cs : List Value) : fieldV Try.prog 134 (.agg cs.toArray) 4 = partV Try.prog 5 cs 4 := by unfold fieldV; rw [und_134]; rfl
theorem fa_134_5 (b o : Nat) : fieldAddrV Try.prog 134 (.pointer (some ⟨b, o, none⟩)) 5 = some (.pointer (some ⟨b, o + 5, none⟩)) := by unfold fieldAddrV; rw [und_134]; simp [sz_5]
theorem fi_134_5 (cs : List Value) : fieldV Try.prog 134 (.agg cs.toArray) 5 = partV Try.prog 5 cs 5 := by unfold fieldV; rw [und_134]; rfl
theorem fa_134_6 (b o : Nat) : fieldAddrV Try.prog 134 (.pointer (some ⟨b, o, none⟩)) 6 = some (.pointer (some ⟨b, o + 6, none⟩)) := by unfold fieldAddrV; rw [und_134]; simp [sz_128]
theorem fi_134_6 (cs : List Value) : fieldV Try.prog 134 (.agg cs.toArray) 6 = partV Try.prog 128 cs 6 := by unfold fieldV; rw [und_134]; rfl
theorem fa_134_7 (b o : Nat) : fieldAddrV Try.prog 134 (.pointer (some ⟨b, o, none⟩)) 7 = some (.pointer (some ⟨b, o + 7, none⟩)) := by unfold fieldAddrV; rw [und_134]; simp [sz_129]
theorem fi_134_7 (cs : List Value) : fieldV Try.prog 134 (.agg cs.toArray) 7 = partV Try.prog 129 cs 7 := by unfold fieldV; rw [und_134]; rfl
theorem fa_134_8 (b o : Nat) : fieldAddrV Try.prog 134 (.pointer (some ⟨b, o, none⟩)) 8 = some (.pointer (some ⟨b, o + 8, none⟩)) := by unfold fieldAddrV; rw [und_134]; simp [sz_130]
theorem fi_134_8 (cs : List Value) : fieldV Try.prog 134 (.agg cs.toArray) 8 = partV Try.prog 130 cs 8 := by unfold fieldV; rw [und_134]; rfl
theorem fa_134_9 (b o : Nat) : fieldAddrV Try.prog 134 (.pointer (some ⟨b, o, none⟩)) 9 = some (.pointer (some ⟨b, o + 9, none⟩)) := by unfold fieldAddrV; rw [und_134]; simp [sz_131]
theorem fi_134_9 (cs : List Value) : fieldV Try.prog 134 (.agg cs.toArray) 9 = partV Try.prog 131 cs 9 := by unfold fieldV; rw [und_134]; rfl
theorem fa_134_10 (b o : Nat) : fieldAddrV Try.prog 134 (.pointer (some ⟨b, o, none⟩)) 10 = some (.pointer (some ⟨b, o + 10, none⟩)) := by unfold fieldAddrV; rw [und_134]; simp [sz_132]
theorem fi_134_10 (cs : List Value) : fieldV Try.prog 134 (.agg cs.toArray) 10 = partV Try.prog 132 cs 10 := by unfold fieldV; rw [und_134]; rfl
theorem al_134 : allocV Try.prog 134 = some (.cells (zeroV Try.prog 134).cells.toList 134 true, ptrOfNew) := alloc_zero (by kernel_rfl)
theorem bx_134 (v : Value) : boxV Try.prog 134 v = if 11 = v.cells.size then some (.cells v.cells.toList 134 true, ptrOfNew) else none := box_sz sz_134 v
theorem bu_134 (ps : List (Nat × Value)) : buildV Try.prog 134 ps = (fillL (([(0, 1), (1, 1), (2, 1), (3, 1), (4, 1), (5, 1), (6, 1), (7, 1), (8, 1), (9, 1), (10, 1)] : List (Nat × Nat))[·]?) [(Value.int IntKind.u64 0), (Value.int IntKind.u64 0), (Value.int IntKind.u32 0), (Value.int IntKind.u8 0), (Value.int IntKind.u8 0), (Value.int IntKind.u8 0), (Value.int IntKind.u8 0), Value.nilFunc, (Value.pointer none), (Value.int IntKind.i32 0), (Value.int IntKind.i32 0)] ps).map fun l => .agg l.toArray := build_struct (places := [(0, 1), (1, 1), (2, 1), (3, 1), (4, 1), (5, 1), (6, 1), (7, 1), (8, 1), (9, 1), (10, 1)]) und_134 (by kernel_rfl) Try.type134 rfl (by kernel_rfl)
theorem zv_134 : zeroV Try.prog 134 = (Value.agg #[(Value.int IntKind.u64 0), (Value.int IntKind.u64 0), (Value.int IntKind.u32 0), (Value.int IntKind.u8 0), (Value.int IntKind.u8 0), (Value.int IntKind.u8 0), (Value.int IntKind.u8 0), Value.nilFunc, (Value.pointer none), (Value.int IntKind.i32 0), (Value.int IntKind.i32 0)]) := by kernel_rfl
theorem und_135 : Try.prog.underlying 135 = some TypeDesc.unsafePointer := Try.underlying135
theorem sz_135 : szT Try.prog 135 = some 1 := by kernel_rfl
theorem agg_135 : aggT Try.prog 135 = false := by kernel_rfl
theorem part_135 (cs : List Value) (o : Nat) : partV Try.prog 135 cs o = cs[o]? := part_one (by rw [und_135]; rfl) agg_135 cs o
theorem al_135 : allocV Try.prog 135 = some (.cells (zeroV Try.prog 135).cells.toList 135 true, ptrOfNew) := alloc_zero (by kernel_rfl)
theorem bx_135 (v : Value) : boxV Try.prog 135 v = if 1 = v.cells.size then some (.cells v.cells.toList 135 true, ptrOfNew) else none := box_sz sz_135 v
theorem zv_135 : zeroV Try.prog 135 = (Value.pointer none) := by kernel_rfl
attribute [push_cast] und_1 sz_1 part_1 al_1 bx_1 zv_1 und_2 sz_2 part_2 al_2 bx_2 zv_2 und_3 sz_3 part_3 al_3 bx_3 zv_3 und_4 sz_4 part_4 eb_4 nb_4 al_4 bx_4 zv_4 und_5 sz_5 part_5 al_5 bx_5 zv_5 und_6 sz_6 part_6 al_6 bx_6 zv_6 und_7 sz_7 part_7 fa_7_0 fi_7_0 fa_7_1 fi_7_1 fa_7_2 fi_7_2 fa_7_3 fi_7_3 es_7 en_7 al_7 bx_7 bu_7 zv_7 und_8 sz_8 part_8 fa_8_0 fi_8_0 fa_8_1 fi_8_1 fa_8_2 fi_8_2 fa_8_3 fi_8_3 es_8 en_8 al_8 bx_8 bu_8 zv_8 und_9 sz_9 part_9 ln_9 ix_9 al_9 bx_9 zv_9 und_10 sz_10 part_10 ln_10 ix_10 al_10 bx_10 zv_10 und_12 sz_12 part_12 al_12 bx_12 zv_12 und_16 sz_16 part_16 al_16 bx_16 zv_16 und_17 sz_17 part_17 al_17 bx_17 zv_17 und_21 sz_21 part_21 al_21 bx_21 zv_21 und_22 sz_22 part_22 fa_22_0 fi_22_0 fa_22_1 fi_22_1 fa_22_2 fi_22_2 es_22 en_22 al_22 bx_22
attribute [push_cast] bu_22 zv_22 und_23 sz_23 part_23 fa_23_0 fi_23_0 fa_23_1 fi_23_1 fa_23_2 fi_23_2 es_23 en_23 al_23 bx_23 bu_23 zv_23 und_24 sz_24 part_24 ia_24 bs_24 ln_24 al_24 bx_24 zv_24 und_27 sz_27 part_27 fa_27_0 fi_27_0 fa_27_1 fi_27_1 fa_27_2 fi_27_2 es_27 en_27 al_27 bx_27 bu_27 zv_27 und_32 sz_32 part_32 al_32 bx_32 zv_32 und_40 sz_40 part_40 al_40 bx_40 zv_40 und_44 sz_44 part_44 al_44 bx_44 zv_44 und_45 sz_45 part_45 ia_45 bs_45 ln_45 al_45 bx_45 zv_45
attribute [push_cast] und_77 sz_77 part_77 ia_77 ix_77 al_77 bx_77 bu_77 zv_77
attribute [push_cast] und_123 sz_123 part_123 ia_123 ix_123 al_123 bx_123 bu_123 zv_123 und_125 sz_125 part_125 al_125 bx_125 bu_125 zv_125 und_126 sz_126 part_126 al_126 bx_126 zv_126 und_127 sz_127 part_127 al_127 bx_127 zv_127 und_128 sz_128 part_128 al_128 bx_128 zv_128 und_129 sz_129 part_129 al_129 bx_129 zv_129 und_130 sz_130 part_130 al_130 bx_130 zv_130
attribute [push_cast] und_131 sz_131 part_131 al_131 bx_131 zv_131 und_132 sz_132 part_132 al_132 bx_132 zv_132 und_134 sz_134 part_134 fa_134_0 fi_134_0 fa_134_1 fi_134_1 fa_134_2 fi_134_2 fa_134_3 fi_134_3 fa_134_4 fi_134_4 fa_134_5 fi_134_5 fa_134_6 fi_134_6 fa_134_7 fi_134_7 fa_134_8 fi_134_8 fa_134_9 fi_134_9 fa_134_10 fi_134_10 al_134 bx_134 bu_134 zv_134 und_135 sz_135 part_135 al_135 bx_135 zv_135
end Go.Sim

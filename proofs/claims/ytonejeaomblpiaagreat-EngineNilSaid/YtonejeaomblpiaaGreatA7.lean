/- New blocks and append. -/
import Derived.Test.YtonejeaomblpiaaGreatA6
import Derived.Lib.ConvBytes
set_option linter.unusedSimpArgs false
set_option linter.unusedVariables false
set_option linter.defProp false
namespace Go.Sim
open Go.RowKit

theorem szT_some {P : Program} {t : TypeId} {n : Nat} (h : szT P t = some n) : ∃ i, P.info? t = some i ∧ i.size = n := by
  unfold szT at h
  cases hi : P.info? t with
  | none => simp [hi] at h
  | some i => simp [hi] at h; exact ⟨i, rfl, h⟩
theorem zeroOk_some {P : Program} {t : TypeId} (h : zeroOk P t = true) : ∃ i z, P.info? t = some i ∧ i.zero = some z ∧ z.cells.toList.all constOk = true := by
  unfold zeroOk at h
  cases hi : P.info? t with
  | none => simp [hi] at h
  | some i =>
    cases hz : i.zero with
    | none => simp [hi, hz] at h
    | some z => simp only [hi, hz] at h; exact ⟨i, z, rfl, hz, h⟩
def zeroCellsT (P : Program) (t : TypeId) : Option (List Value) :=
  match P.info? t with
  | some i => match i.zero with | some z => if allConst z ∧ z.cells.size = i.size then some z.cells.toList else none | none => none
  | none => none
theorem zeroCellsT_some {P : Program} {t : TypeId} {l : List Value} (h : zeroCellsT P t = some l) : ∃ i z, P.info? t = some i ∧ i.zero = some z ∧ z.cells.size = i.size ∧ l = z.cells.toList ∧ l.all constOk = true := by
  unfold zeroCellsT at h
  cases hi : P.info? t with
  | none => simp [hi] at h
  | some i =>
    cases hz : i.zero with
    | none => simp [hi, hz] at h
    | some z =>
      simp only [hi, hz] at h
      split at h
      · rename_i hc
        cases h
        exact ⟨i, z, rfl, hz, hc.2, rfl, hc.1⟩
      · cases h
/-- So many zero elements. -/
def zeros (z : List Value) (n : Nat) : List Value := (List.replicate n z).flatten
theorem length_zeros (z : List Value) (n : Nat) : (zeros z n).length = n * z.length := by simp [zeros]
theorem zeros_const {z : List Value} (h : z.all constOk = true) (n : Nat) : (zeros z n).all constOk = true := by
  simp only [zeros, List.all_flatten, List.all_replicate]
  split
  · rfl
  · exact h
theorem zeros_get (z : List Value) : ∀ (n i : Nat), i < n * z.length → (zeros z n)[i]? = z[i % z.length]?
  | 0, i, h => by simp at h
  | n + 1, i, h => by
    have hz : 0 < z.length := by
      rcases Nat.eq_zero_or_pos z.length with q | q
      · rw [q] at h; simp at h
      · exact q
    have e : zeros z (n + 1) = z ++ zeros z n := by simp [zeros, List.replicate_succ]
    rw [e]
    by_cases hi : i < z.length
    · rw [List.getElem?_append_left hi, Nat.mod_eq_of_lt hi]
    · rw [List.getElem?_append_right (by omega), zeros_get z n (i - z.length) (by rw [Nat.add_mul] at h; omega)]
      congr 1
      rw [Nat.mod_eq_sub_mod (by omega : z.length ≤ i)]
theorem madeCells_zeros (z : Array Value) (n : Nat) : (madeCells z (n * z.size)).toList = zeros z.toList n := by
  apply List.ext_getElem?
  intro i
  by_cases hi : i < n * z.size
  · have hz : 0 < z.size := by
      rcases Nat.eq_zero_or_pos z.size with q | q
      · rw [q] at hi; simp at hi
      · exact q
    have hm := Nat.mod_lt i hz
    rw [zeros_get _ _ _ (by simpa using hi)]
    simp [madeCells, List.getElem?_range hi, hm]
  · rw [List.getElem?_eq_none (by simp [madeCells]; omega), List.getElem?_eq_none (by rw [length_zeros]; simp; omega)]

/-- What a new block is, and what tells of it. -/
abbrev Made := AObj × (Nat → Value)

def sliceOfNew (n c : Nat) (b : Nat) : Value := .slice (some ⟨b, 0, none⟩) n c
def ptrOfNew (b : Nat) : Value := .pointer (some ⟨b, 0, none⟩)

def buildSliceV (P : Program) (t : TypeId) (len : Nat) (ps : List (Nat × Value)) : Option Made :=
  match P.underlying t with
  | some (.slice e) =>
    match zeroCellsT P e, szT P e with
    | some z, some s =>
      if len * s ≤ 16777216 ∧ 0 < s ∧ len ≤ maxLen then
        match Instr.fill (fun i => some (i * s, s)) (zeros z len).toArray ps with
        | some cs => some (.cells cs.toList e true, sliceOfNew len len)
        | none => none
      else none
    | _, _ => none
  | _ => none

def makeSliceV (P : Program) (t : TypeId) (l c : Value) : Option Made :=
  match P.underlying t, idxV l, idxV c with
  | some (.slice e), some l, some c =>
    match zeroCellsT P e, P.info? e with
    | some z, some i => if l ≤ c ∧ i.bytes * c ≤ 281474976710656 ∧ c ≤ maxLen ∧ 0 < i.size then some (.cells (zeros z c) e true, sliceOfNew l c) else none
    | _, _ => none
  | _, _, _ => none

def bytesOf (s : ByteArray) : List Value := s.data.toList.map fun b => .int .u8 b.toNat

def newV (P : Program) (o : Op) (ρ : Rho) : Option Made :=
  match o with
  | .box t x => match ρ x with
    | some v => if szT P t = some v.cells.size then some (.cells v.cells.toList t true, ptrOfNew) else none
    | none => none
  | .alloc t => match zeroCellsT P t with
    | some z => some (.cells z t true, ptrOfNew)
    | none => none
  | .buildSlice t len parts => match allP ρ parts.toList with
    | some ps => buildSliceV P t len ps
    | none => none
  | .makeSlice t l c => match ρ l, ρ c with
    | some a, some b => makeSliceV P t a b
    | _, _ => none
  | .makeMap t none => match P.underlying t with
    | some (.map _ _) => some (.map [] 0, fun b => .map (some b))
    | _ => none
  | .makeChan t s => match P.underlying t, ρ s with
    | some (.chan _ e), some (.int _ n) => match P.info? e with
      | some i => if 0 ≤ n ∧ n ≤ 1000000 ∧ i.bytes ≤ 1000000 then some (.chan n.toNat [], fun b => .chan (some b)) else none
      | none => none
    | _, _ => none
  | .convert src dst x => match P.underlying src, P.underlying dst, ρ x with
    | some _, some (.slice e), some (.string s) =>
      match P.underlying e with
      | some (.int .u8) => if szT P e = some 1 ∧ s.size ≤ maxLen then some (.cells (bytesOf s) e true, sliceOfNew s.size unk) else none
      | _ => none
    | _, _, _ => none
  | _ => none

/-- The machine makes the like. -/
structure NewRel (P : Program) (β : Place) (w : World) (mk : Nat → Value) (o : AObj) (mv : Value) (w' : World) (s : Sh) : Prop where
  heap : ∃ mo, w'.heap = w.heap.push mo
  os : w'.os = w.os
  tape : w'.tape = w.tape
  output : w'.output = w.output
  rel : ∀ (β' : Place) (b : Nat), (∀ c x, β c = some x → β' c = some x) → β' b = some (w.heap.size, s) → VRel β' (mk b) mv ∧ ORel P β' w' w.heap.size s o

theorem push_new (hp : Array Obj) (o : Obj) : (hp.push o)[hp.size]? = some o := by simp

theorem newV_sound {P : Program} {β : Place} {ρ : Rho} {μ : Operand → Value} {o : Oper} {q : AObj} {mk : Nat → Value} (hρ : RhoRel β ρ μ) (h : newV P o.op ρ = some (q, mk)) (w : World) :
    ∃ mv w' s, (execOp μ o).run P w = .ok (.value mv) w' ∧ NewRel P β w mk q mv w' s := by
  unfold newV at h
  unfold execOp
  split at h
  · rename_i t x he
    rw [he]
    split at h
    · rename_i v hv
      split at h
      · rename_i hs
        cases h
        have hr := hρ _ _ hv
        have hc := hr.cells
        have hsz : (μ x).cells.size = v.cells.size := by have := hc.length; simpa using this.symm
        refine ⟨.pointer (some ⟨w.heap.size, 0, none⟩), { w with heap := w.heap.push (.cells (μ x).cells t) }, ⟨0, v.cells.size, v.cells.size⟩, by simp [Instr.box, newVar, newRow], ⟨⟨_, rfl⟩, rfl, rfl, rfl, fun β' b hβ hb => ⟨.ptr hb, ?_⟩⟩⟩
        refine ⟨(μ x).cells, (0, 0), _, push_new _ _, by simp [hsz], ?_, fun _ => ⟨⟨fun i _ => by simp, Nat.le_refl _⟩, rfl, hsz, hs⟩⟩
        have := hc.mono hβ
        rw [List.drop_zero, List.take_of_length_le (by simp [hsz])]
        exact this
      · cases h
    · cases h
  · rename_i t he
    rw [he]
    split at h
    · rename_i z hz
      cases h
      obtain ⟨i, zv, hi, hzv, hsz, rfl, hall⟩ := zeroCellsT_some hz
      refine ⟨.pointer (some ⟨w.heap.size, 0, none⟩), { w with heap := w.heap.push (.cells zv.cells t) }, ⟨0, zv.cells.size, i.size⟩, ?_, ⟨⟨_, rfl⟩, rfl, rfl, rfl, fun β' b hβ hb => ⟨.ptr hb, ?_⟩⟩⟩
      · simp [Instr.alloc, zeroValue, typeInfo, hi, hzv, newVar, newRow]
      · refine ⟨zv.cells, (0, 0), _, push_new _ _, by simp, ?_, fun _ => ⟨⟨fun i _ => by simp, Nat.le_refl _⟩, rfl, rfl, by simp [hi]⟩⟩
        rw [List.drop_zero, List.take_of_length_le (by simp)]
        exact VRels.const hall
    · cases h
  · rename_i t len parts he
    rw [he]
    split at h
    · rename_i ps hp
      have hr := allP_rel hρ hp
      unfold buildSliceV at h
      split at h
      · rename_i e hu
        split at h
        · rename_i z s hz hs
          obtain ⟨i, zv, hi, hzv, hsz, rfl, hall⟩ := zeroCellsT_some hz
          have his : i.size = s := by simpa [szT, hi] using hs
          split at h
          · rename_i hc
            obtain ⟨hc1, hc2, hc3⟩ := hc
            split at h
            · rename_i cs hf
              cases h
              have hmc : (madeCells zv.cells (len * s)).toList = zeros zv.cells.toList len := by rw [← his, ← hsz]; exact madeCells_zeros _ _
              obtain ⟨r', hf', hr'⟩ := fill_rel hr (mcs := madeCells zv.cells (len * s)) (by rw [hmc]; exact VRels.const (zeros_const hall len)) hf
              have hfl : ∀ {β : Place} {ps : List (Nat × Value)} {cs r : Array Value}, Instr.fill (fun i => some (i * s, s)) cs ps = some r → r.size = cs.size := by
                intro β ps
                induction ps with
                | nil => intro cs r e; simp [Instr.fill] at e; rw [e]
                | cons p ps ih =>
                  intro cs r e
                  obtain ⟨i, v⟩ := p
                  unfold Instr.fill at e
                  simp only at e
                  split at e
                  · cases e
                  · rw [ih e]
                    have : ∀ (l : List (Value × Nat)) (c : Array Value), (l.foldl (fun cs (p : Value × Nat) => cs.setIfInBounds (i * s + p.2) p.1) c).size = c.size := by
                      intro l
                      induction l with
                      | nil => intro c; rfl
                      | cons a l ih2 => intro c; rw [List.foldl_cons, ih2]; simp
                    rw [← Array.foldl_toList]
                    exact this _ _
              have hsz' : r'.size = len * s := by
                rw [hfl (β := β) hf', size_madeCells]
              refine ⟨.slice (some ⟨w.heap.size, 0, none⟩) len len, { w with heap := w.heap.push (.cells r' e) }, ⟨0, r'.size, s⟩, ?_, ⟨⟨_, rfl⟩, rfl, rfl, rfl, fun β' b hβ hb => ⟨?_, ?_⟩⟩⟩
              · have hle : ¬ (len * i.size > 2 ^ 24) := by rw [his]; simp; exact hc1
                have hzz : (if len * i.size = 0 then (pure #[] : Sem (Array Value)) else do pure (← zeroValue e).cells).run P w = .ok (if len * i.size = 0 then #[] else zv.cells) w := by
                  split <;> simp [zeroValue, typeInfo, hi, hzv]
                have hmm : (Array.range (len * i.size)).map ((if len * i.size = 0 then #[] else zv.cells)[· % (if len * i.size = 0 then #[] else zv.cells).size]!) = madeCells zv.cells (len * s) := by
                  rw [his]
                  split
                  · rename_i h0; rw [h0]; simp [madeCells, Array.range_zero']
                  · rfl
                have hf'' : Instr.fill (fun i_1 => some (i_1 * i.size, i.size)) (madeCells zv.cells (len * s)) (parts.map fun (p : Nat × Operand) => (p.1, μ p.2)).toList = some r' := by
                  rw [his]; simpa using hf'
                simp only [Instr.buildSlice, Sem.run_bind, run_underlying hu, Result.andThen_ok, sizeOf, typeInfo, run_program, hi, Sem.run_pure]
                rw [if_neg hle]
                by_cases h0 : len * i.size = 0
                · simp only [if_pos h0] at hmm ⊢
                  simp only [Sem.run_bind, Sem.run_pure, Result.andThen_ok, hmm]
                  rw [hf'']
                  simp [newRow]
                · simp only [if_neg h0] at hmm ⊢
                  simp only [Sem.run_bind, Sem.run_pure, Result.andThen_ok, zeroValue, typeInfo, run_program, hi, hzv, hmm]
                  rw [hf'']
                  simp [newRow]
              · have := VRel.slice (β := β') (o := 0) (n := len) (c := len) (c' := len) hb (.inr (.inr rfl)) (Nat.le_refl _) hc3 (.inr (.inr (by simp [hsz'])))
                simpa [sliceOfNew] using this
              · refine ⟨r', (0, 0), _, push_new _ _, by have := hr'.length; simp at this; simp [this], ?_, fun _ => ⟨⟨fun i _ => by simp, Nat.le_refl _⟩, rfl, rfl, by simp [hi, his]⟩⟩
                rw [List.drop_zero, List.take_of_length_le (by have := hr'.length; simp at this; simp [this])]
                exact hr'.mono hβ
            · cases h
          · cases h
        · cases h
      · cases h
    · cases h
  · rename_i t l c he
    rw [he]
    split at h
    · rename_i a b ha hb
      unfold makeSliceV at h
      split at h
      · rename_i e l0 c0 hu hl0 hc0
        obtain ⟨kl, el⟩ := idxV_int ((hρ _ _ ha).idx hl0)
        obtain ⟨kc, ec⟩ := idxV_int ((hρ _ _ hb).idx hc0)
        split at h
        · rename_i z i hz hi
          obtain ⟨i', zv, hi', hzv, hsz, rfl, hall⟩ := zeroCellsT_some hz
          rw [hi] at hi'
          cases hi'
          split at h
          · rename_i hc
            cases h
            obtain ⟨h1, h2, h3, h4⟩ := hc
            have hmc : (madeCells zv.cells (c0 * i.size)).toList = zeros zv.cells.toList c0 := by rw [← hsz]; exact madeCells_zeros _ _
            have hrun := run_make (P := P) w t e i zv hu hi hzv kl kc l0 c0 (by omega) (by omega) (by have h2' : ((i.bytes * c0 : Nat) : Int) ≤ 281474976710656 := Int.ofNat_le.2 h2; rwa [Int.natCast_mul] at h2') (by simp only [maxLen] at h3; omega)
            simp only [Int.toNat_natCast] at hrun
            refine ⟨.slice (some ⟨w.heap.size, 0, none⟩) l0 c0, w.alloc (.cells (madeCells zv.cells (c0 * i.size)) e), ⟨0, c0 * i.size, i.size⟩, by simp only [el, ec, Sem.run_bind, hrun, Result.andThen_ok, Sem.run_pure], ⟨⟨_, rfl⟩, rfl, rfl, rfl, fun β' b hβ hb => ⟨?_, ?_⟩⟩⟩
            · have := VRel.slice (β := β') (o := 0) (n := l0) (c := c0) (c' := c0) hb (.inr (.inr rfl)) h1 h3 (.inr (.inr (by simp)))
              simpa [sliceOfNew] using this
            · refine ⟨madeCells zv.cells (c0 * i.size), (0, 0), _, push_new _ _, by rw [length_zeros, size_madeCells]; simp [hsz], ?_, fun _ => ⟨⟨fun i _ => by simp, Nat.le_refl _⟩, rfl, size_madeCells _ _, by simp [hi]⟩⟩
              rw [List.drop_zero, List.take_of_length_le (by rw [hmc]; exact Nat.le_refl _), hmc]
              exact VRels.const (zeros_const hall c0)
          · cases h
        · cases h
      · cases h
    · cases h
  · rename_i t he
    rw [he]
    split at h
    · rename_i k e hu
      cases h
      refine ⟨.map (some w.heap.size), { w with heap := w.heap.push (.map #[] 0) }, ⟨0, 0, 0⟩, ?_, ⟨⟨_, rfl⟩, rfl, rfl, rfl, fun β' b hβ hb => ⟨.map hb, ⟨#[], push_new _ _, .nil⟩⟩⟩⟩
      have hmm := @run_makeMap P
      simp [Instr.makeMap]
    · cases h
  · rename_i t s he
    rw [he]
    split at h
    · rename_i d e k n hu hx
      split at h
      · rename_i i hi
        split at h
        · rename_i hc
          cases h
          have hv := hρ _ _ hx
          generalize hms : μ s = ms at hv
          cases hv
          refine ⟨.chan (some w.heap.size), { w with heap := w.heap.push (.chan n.toNat #[] false 0 0 false) }, ⟨0, 0, 0⟩, ?_, ⟨⟨_, rfl⟩, rfl, rfl, rfl, fun β' b hβ hb => ⟨.chan hb, ⟨rfl, #[], 0, 0, push_new _ _, .nil⟩⟩⟩⟩
          have hle : (i.bytes : Int) * n ≤ 1000000 * 1000000 := by
            have h1 : (i.bytes : Int) * n ≤ 1000000 * n := Int.mul_le_mul_of_nonneg_right (by omega) hc.1
            omega
          have hnot : ¬ (n < 0 ∨ n > IntKind.i64.max ∨ (i.bytes : Int) * n > 2 ^ 48 - 112) := by
            have : IntKind.i64.max = 9223372036854775807 := by decide
            omega
          simp only [Instr.makeChan, hms, asInt, asIntOf, Sem.run_bind, Sem.run_pure, Result.andThen_ok, run_underlying hu, typeInfo, run_program, hi]
          rw [if_neg hnot]
          simp [newObj, Sem.run]
        · cases h
      · cases h
    · cases h
  · rename_i src dst x he
    rw [he]
    split at h
    · rename_i D e s hu1 hu2 hx
      split at h
      · rename_i hu3
        split at h
        · rename_i hc
          cases h
          have hm := hρ _ _ hx
          generalize hmx : μ x = mx at hm
          cases hm
          have hcap1 := grownCap_ge w s.size 0 e
          have hcap2 : grownCap w s.size 0 e ≤ maxLen := grownCap_le_maxLen w s.size 0 e hc.2
          have hds : s.data.size = s.size := rfl
          have hmcs : (Lib.bytesCells w e s).size = grownCap w s.size 0 e := by simp [Lib.bytesCells]; omega
          refine ⟨.slice (some ⟨w.heap.size, 0, none⟩) s.size (grownCap w s.size 0 e), Lib.bytesWorld w e s, ⟨0, grownCap w s.size 0 e, 1⟩, by simp only [hmx, Sem.run_bind, Lib.run_convert_string_bytes w src dst e s hu1 hu2 hu3, Result.andThen_ok, Sem.run_pure],
            ⟨⟨.cells (Lib.bytesCells w e s) e ((Lib.bytesCells w e s).size, (Lib.bytesCells w e s).size + 1), ?_⟩, rfl, rfl, rfl, fun β' b hβ hb => ⟨?_, ?_⟩⟩⟩
          · apply Array.ext_getElem?
            intro k
            rw [Array.getElem?_push]
            rcases Nat.lt_trichotomy k w.heap.size with hk | hk | hk
            · rw [Lib.bytesWorld_at_old w e s k hk, if_neg (by omega)]
            · subst hk; rw [Lib.bytesWorld_at_new, if_pos rfl]
            · rw [Array.getElem?_eq_none (by rw [Lib.bytesWorld_size]; omega), if_neg (by omega), Array.getElem?_eq_none (by omega)]
          · have := VRel.slice (β := β') (o := 0) (n := s.size) (c := unk) (c' := grownCap w s.size 0 e) hb (.inl rfl) hcap1 hcap2 (.inr (.inr (by simp)))
            simpa [sliceOfNew] using this
          · have hlen : (bytesOf s).length = s.size := by simp [bytesOf]
            refine ⟨Lib.bytesCells w e s, _, _, Lib.bytesWorld_at_new w e s, by rw [hlen, hmcs]; show 0 + s.size ≤ _; omega, ?_, fun _ => ⟨⟨fun i hi => by omega, by simp⟩, rfl, hmcs, hc.1⟩⟩
            rw [List.drop_zero, hlen]
            have : (Lib.bytesCells w e s).toList.take s.size = bytesOf s := by
              simp only [Lib.bytesCells, bytesOf, Array.toList_append]
              rw [List.take_left' (by simp)]
              simp
            rw [this]
            refine VRels.const ?_
            rw [List.all_eq_true]
            intro v hv
            obtain ⟨c, _, rfl⟩ := List.mem_map.1 hv
            rfl
        · cases h
      · cases h
    · cases h
  · cases h
end Go.Sim

/- Operations that only reckon: pureV, by what they are. -/
import Derived.Test.YtonejeaomblpiaaGreatA3
set_option linter.unusedSimpArgs false
set_option linter.unusedVariables false
set_option linter.defProp false
namespace Go.Sim
open Go.RowKit

def unV (op : UnOp) (x : Value) : Option Value :=
  match op, x with
  | .not, .bool b => some (.bool (!b))
  | .neg, .int k n => some (.int k (k.wrap (0 - n)))
  | .xor, .int k n => some (.int k (bits .xor k (if k.signed then -1 else k.max) n))
  | _, _ => none

def convV (P : Program) (src dst : TypeId) (x : Value) : Option Value :=
  match P.underlying src, P.underlying dst, x with
  | some _, some (.int k), .int _ n => some (.int k (k.wrap n))
  | some .string, some .string, .string s => some (.string s)
  | _, _, _ => none

def fieldV (P : Program) (t : TypeId) (x : Value) (f : Nat) : Option Value :=
  match P.underlying t, x with
  | some (.struct fs), .agg cs =>
    match fs[f]? with
    | some fd => partV P fd.type cs.toList fd.offset
    | none => none
  | _, _ => none

def fieldAddrV (P : Program) (t : TypeId) (x : Value) (f : Nat) : Option Value :=
  match P.underlying t, x with
  | some (.struct fs), .pointer (some ⟨b, o, none⟩) =>
    match fs[f]? with
    | some fd =>
      match szT P fd.type with
      | some n => if n = 0 then none else some (.pointer (some ⟨b, o + fd.offset, none⟩))
      | none => none
    | none => none
  | _, _ => none

def idxV : Value → Option Nat
  | .int _ i => if 0 ≤ i then some i.toNat else none
  | _ => none

def indexAddrV (P : Program) (t : TypeId) (x i : Value) : Option Value :=
  match P.underlying t, x, idxV i with
  | some (.slice e), .slice (some ⟨b, o, none⟩) n _, some i =>
    match szT P e with
    | some s => if i < n then some (.pointer (some ⟨b, o + i * s, none⟩)) else none
    | none => none
  | some (.array len e), .pointer (some ⟨b, o, none⟩), some i =>
    match szT P e with
    | some s => if i < len then some (.pointer (some ⟨b, o + i * s, none⟩)) else none
    | none => none
  | _, _, _ => none

def indexV (P : Program) (t : TypeId) (x i : Value) : Option Value :=
  match P.underlying t, x, idxV i with
  | some (.array len e), .agg cs, some i =>
    match szT P e with
    | some s => if i < len then partV P e cs.toList (i * s) else none
    | none => none
  | some .string, .string s, some i => (s[i]?).map fun b => .int .u8 b.toNat
  | _, _, _ => none

/-- low, high and the given max of a slice expression: n the length, c what is sure of the capacity. -/
def boundsV (n c : Nat) (lo hi mx : Option Value) : Option (Nat × Nat × Option Nat) :=
  match mx with
  | some vm =>
    match idxV vm, hi with
    | some m, some vh =>
      match idxV vh with
      | some h =>
        if m ≤ c ∧ h ≤ m then
          match lo with
          | some vl => match idxV vl with | some l => if l ≤ h then some (l, h, some m) else none | none => none
          | none => some (0, h, some m)
        else none
      | none => none
    | _, _ => none
  | none =>
    match hi with
    | some vh =>
      match idxV vh with
      | some h =>
        if h ≤ c then
          match lo with
          | some vl => match idxV vl with | some l => if l ≤ h then some (l, h, none) else none | none => none
          | none => some (0, h, none)
        else none
      | none => none
    | none =>
      match lo with
      | some vl => match idxV vl with | some l => if l ≤ n then some (l, n, none) else none | none => none
      | none => some (0, n, none)

theorem run_bound {P : Program} {x : Value} {i y : Nat} {code : BoundsCode} (h : idxV x = some i) (hi : i ≤ y) (w : World) : (Instr.sliceBound x y code).run P w = .ok i w := by
  cases x with
  | int k j =>
    simp only [idxV] at h
    split at h
    · rename_i h0
      cases h
      have h1 : j ≤ (y : Int) := by omega
      simp [Instr.sliceBound, asIntOf, h0, h1]
    · cases h
  | _ => simp [idxV] at h
theorem VRel.idx {β : Place} {x mx : Value} {i : Nat} (hx : VRel β x mx) (h : idxV x = some i) : idxV mx = some i := by
  cases hx <;> first | exact h | (simp [idxV] at h)

inductive ORels (β : Place) : Option Value → Option Value → Prop
  | none : ORels β .none .none
  | some {v v' : Value} (h : VRel β v v') : ORels β (.some v) (.some v')

theorem run_bounds {P : Program} {β : Place} {b : Bool} {n c c' : Nat} {lo hi mx mlo mhi mmx : Option Value} {l h : Nat} {om : Option Nat} (hlo : ORels β lo mlo) (hhi : ORels β hi mhi) (hmx : ORels β mx mmx) (hc : c ≤ c')
    (e : boundsV n c lo hi mx = some (l, h, om)) (w : World) : (Instr.sliceBounds b n c' mlo mhi mmx).run P w = .ok (l, h, om.getD c') w ∧ l ≤ h := by
  unfold boundsV at e
  cases hmx with
  | @some vm vm' rm =>
    cases hm : idxV vm with
    | none => simp [hm] at e
    | some m =>
      have hm' := rm.idx hm
      cases hhi with
      | none => simp [hm] at e
      | @some vh vh' rh =>
        simp only [hm] at e
        cases hh : idxV vh with
        | none => simp [hh] at e
        | some h0 =>
          have hh' := rh.idx hh
          simp only [hh] at e
          split at e
          · rename_i hle
            cases hlo with
            | none =>
              cases e
              refine ⟨?_, Nat.zero_le _⟩
              simp [Instr.sliceBounds, run_bound hm' (Nat.le_trans hle.1 hc), run_bound hh' hle.2]
            | @some vl vl' rl =>
              cases hl : idxV vl with
              | none => simp [hl] at e
              | some l0 =>
                have hl' := rl.idx hl
                simp only [hl] at e
                split at e
                · rename_i hll
                  cases e
                  refine ⟨?_, hll⟩
                  simp [Instr.sliceBounds, run_bound hm' (Nat.le_trans hle.1 hc), run_bound hh' hle.2, run_bound hl' hll]
                · cases e
          · cases e
  | none =>
    cases hhi with
    | @some vh vh' rh =>
      cases hh : idxV vh with
      | none => simp [hh] at e
      | some h0 =>
        have hh' := rh.idx hh
        simp only [hh] at e
        split at e
        · rename_i hle
          cases hlo with
          | none =>
            cases e
            refine ⟨?_, Nat.zero_le _⟩
            simp [Instr.sliceBounds, run_bound hh' (Nat.le_trans hle hc)]
          | @some vl vl' rl =>
            cases hl : idxV vl with
            | none => simp [hl] at e
            | some l0 =>
              have hl' := rl.idx hl
              simp only [hl] at e
              split at e
              · rename_i hll
                cases e
                refine ⟨?_, hll⟩
                simp [Instr.sliceBounds, run_bound hh' (Nat.le_trans hle hc), run_bound hl' hll]
              · cases e
        · cases e
    | none =>
      cases hlo with
      | none =>
        cases e
        exact ⟨by simp [Instr.sliceBounds], Nat.zero_le _⟩
      | @some vl vl' rl =>
        cases hl : idxV vl with
        | none => simp [hl] at e
        | some l0 =>
          have hl' := rl.idx hl
          simp only [hl] at e
          split at e
          · rename_i hll
            cases e
            exact ⟨by simp [Instr.sliceBounds, run_bound hl' hll], hll⟩
          · cases e

/-- What is sure of a capacity. -/
def sureCap (n c : Nat) : Nat := if c = unk then n else if c = noapp then n else if c = dud then 0 else c

/-- Slicing: E tells how many cells an element of a block has. -/
def sliceV (P : Program) (E : Nat → Option Nat) (t : TypeId) (x : Value) (lo hi mx : Option Value) : Option Value :=
  match P.underlying t, x with
  | some .string, .string s =>
    if mx.isSome then none else
    match boundsV s.size s.size lo hi none with
    | some (l, h, _) => some (.string (s.extract l h))
    | none => none
  | some (.array n e), .pointer (some ⟨b, o, none⟩) =>
    match szT P e, boundsV n n lo hi mx with
    | some s, some (l, h, om) => if om.getD n ≤ maxLen then (if om.getD n = l then some (.slice (some ⟨b, o, none⟩) (h - l) 0) else some (.slice (some ⟨b, o + l * s, none⟩) (h - l) noapp)) else none
    | _, _ => none
  | some (.slice e), .slice none 0 0 =>
    match szT P e, boundsV 0 0 lo hi mx with
    | some _, some _ => some (.slice none 0 0)
    | _, _ => none
  | some (.slice e), .slice (some ⟨b, o, none⟩) n c =>
    match szT P e, boundsV n (sureCap n c) lo hi mx with
    | some s, some (l, h, om) =>
      if c = dud then (match om with | some _ => none | none => some (.slice (some ⟨b, o, none⟩) 0 dud)) else
      if c ≠ noapp ∧ E b ≠ some s then none else
      match om with
      | some m => if m = l then some (.slice (some ⟨b, o, none⟩) (h - l) 0) else some (.slice (some ⟨b, o + l * s, none⟩) (h - l) (if c = noapp then noapp else m - l))
      | none =>
        if c = unk ∨ c = noapp then (if l < n then some (.slice (some ⟨b, o + l * s, none⟩) (h - l) c) else some (.slice (some ⟨b, o, none⟩) 0 dud))
        else if c = l then some (.slice (some ⟨b, o, none⟩) (h - l) 0) else some (.slice (some ⟨b, o + l * s, none⟩) (h - l) (c - l))
    | _, _ => none
  | _, _ => none

theorem unV_sound {P : Program} {β : Place} {op : UnOp} {x mx v : Value} (hx : VRel β x mx) (h : unV op x = some v) (w : World) : (Op.unary op mx).run P w = .ok v w ∧ VRel β v v := by
  unfold unV at h
  split at h
  · cases hx; cases h; exact ⟨rfl, .bool _⟩
  · cases hx; cases h; exact ⟨by simp [Op.unary, Op.intArith], .int _ _⟩
  · cases hx; cases h; exact ⟨by rw [unary_xor, intBits_xor]; rfl, .int _ _⟩
  · cases h

theorem convV_sound {P : Program} {β : Place} {src dst : TypeId} {x mx v : Value} (hx : VRel β x mx) (h : convV P src dst x = some v) (w : World) : (convert src dst mx).run P w = .ok v w ∧ VRel β v v := by
  unfold convV at h
  split at h
  · rename_i D k k' n e1 e2
    cases hx; cases h
    refine ⟨?_, .int _ _⟩
    simp [convert, run_underlying e1, run_underlying e2, Conv.intToInt]
  · rename_i s e1 e2
    cases hx; cases h
    refine ⟨?_, .string _⟩
    simp [convert, run_underlying e1, run_underlying e2]
  · cases h

theorem fieldV_sound {P : Program} {β : Place} {t : TypeId} {x mx v : Value} {f : Nat} (hx : VRel β x mx) (h : fieldV P t x f = some v) (w : World) : ∃ mv, (Instr.field t mx f).run P w = .ok mv w ∧ VRel β v mv := by
  unfold fieldV at h
  split at h
  · rename_i fs cs hu
    obtain ⟨mcs, rfl, r⟩ := VRel.agg_iff.1 hx
    split at h
    · rename_i fd hf
      obtain ⟨mv, e, rv⟩ := partV_sound r h w
      exact ⟨mv, by simp [Instr.field, run_underlying hu, hf, asAgg, e], rv⟩
    · cases h
  · cases h

theorem VRel.ptr_inv {β : Place} {b o : Nat} {mv : Value} (h : VRel β (.pointer (some ⟨b, o, none⟩)) mv) : ∃ m s, β b = some (m, s) ∧ mv = .pointer (some ⟨m, s.off + o, none⟩) := by
  cases h with
  | ptr h => exact ⟨_, _, h, rfl⟩

theorem fieldAddrV_sound {P : Program} {β : Place} {t : TypeId} {x mx v : Value} {f : Nat} (hx : VRel β x mx) (h : fieldAddrV P t x f = some v) (w : World) : ∃ mv, (Instr.fieldAt t mx f).run P w = .ok mv w ∧ VRel β v mv := by
  unfold fieldAddrV at h
  split at h
  · rename_i fs b o hu
    obtain ⟨m, s, hb, rfl⟩ := hx.ptr_inv
    split at h
    · rename_i fd hf
      split at h
      · rename_i n hs
        split at h
        · cases h
        · rename_i hn
          cases h
          refine ⟨_, ?_, .ptr hb⟩
          have hrs := run_sizeT hs w
          simp only [Instr.fieldAt, Sem.run_bind, run_underlying hu, Result.andThen_ok, hf, Instr.sureAddr, Sem.run_pure, fieldPlace, hrs, if_neg hn, Addr.add_lit, Nat.add_assoc]
      · cases h
    · cases h
  · cases h

theorem idxV_int {v : Value} {i : Nat} (h : idxV v = some i) : ∃ k, v = .int k (i : Int) := by
  cases v with
  | int k j =>
    simp only [idxV] at h
    split at h
    · rename_i h0
      cases h
      exact ⟨k, by congr 1; omega⟩
    · cases h
  | _ => simp [idxV] at h

theorem VRel.slice_inv {β : Place} {b o n c : Nat} {mv : Value} (h : VRel β (.slice (some ⟨b, o, none⟩) n c) mv) :
    (∃ m s c', β b = some (m, s) ∧ mv = .slice (some ⟨m, s.off + o, none⟩) n c' ∧ (c = unk ∨ c = noapp ∨ c = c') ∧ n ≤ c' ∧ c' ≤ maxLen ∧ (c = noapp ∨ c' = 0 ∨ s.off + o + c' * s.z ≤ s.T)) ∨ (n = 0 ∧ c = Sim.dud ∧ ∃ a' c', mv = .slice (some a') 0 c') := by
  cases h with
  | slice h hc hn hm hr => exact .inl ⟨_, _, _, h, rfl, hc, hn, hm, hr⟩
  | dud => exact .inr ⟨rfl, rfl, _, _, rfl⟩

theorem indexAddrV_sound {P : Program} {β : Place} {t : TypeId} {x i mx mi v : Value} (hx : VRel β x mx) (hi : VRel β i mi) (h : indexAddrV P t x i = some v) (w : World) : ∃ mv, (Instr.indexAt t mx mi).run P w = .ok mv w ∧ VRel β v mv := by
  unfold indexAddrV at h
  split at h
  · rename_i e b o n c j hu hj
    obtain ⟨k, rfl⟩ := idxV_int (hi.idx hj)
    split at h
    · rename_i s hs
      split at h
      · rename_i hlt
        cases h
        rcases hx.slice_inv with ⟨m, s', c', hb, rfl, hc, hn, hm, _⟩ | ⟨rfl, _⟩
        · refine ⟨_, ?_, .ptr hb⟩
          have he : P.elem t = e := by simp [Program.elem, hu]
          rw [run_indexAt_slice w t _ n c' k j (by rw [he]; exact hu), he, run_sizeT hs w, if_pos ⟨by omega, by omega⟩]
          simp [Addr.add_lit, Nat.add_assoc]
        · omega
      · cases h
    · cases h
  · rename_i len e b o j hu hj
    obtain ⟨k, rfl⟩ := idxV_int (hi.idx hj)
    obtain ⟨m, s', hb, rfl⟩ := hx.ptr_inv
    split at h
    · rename_i s hs
      split at h
      · rename_i hlt
        cases h
        refine ⟨_, ?_, .ptr hb⟩
        have he : P.elem t = e := by simp [Program.elem, hu]
        have hl : P.arrayLen t = len := by simp [Program.arrayLen, hu]
        rw [run_indexAt_array w t _ k j (by rw [he, hl]; exact hu), he, hl, run_sizeT hs w, if_pos ⟨by omega, by omega⟩]
        simp [Addr.add_lit, Nat.add_assoc]
      · cases h
    · cases h
  · cases h

theorem indexV_sound {P : Program} {β : Place} {t : TypeId} {x i mx mi v : Value} (hx : VRel β x mx) (hi : VRel β i mi) (h : indexV P t x i = some v) (w : World) : ∃ mv, (Instr.index t mx mi).run P w = .ok mv w ∧ VRel β v mv := by
  unfold indexV at h
  split at h
  · rename_i len e cs j hu hj
    obtain ⟨k, rfl⟩ := idxV_int (hi.idx hj)
    obtain ⟨mcs, rfl, r⟩ := VRel.agg_iff.1 hx
    split at h
    · rename_i s hs
      split at h
      · rename_i hlt
        obtain ⟨mv, e1, rv⟩ := partV_sound r h w
        refine ⟨mv, ?_, rv⟩
        have h1 : (0 : Int) ≤ (j : Int) ∧ (j : Int) < (len : Int) := ⟨by omega, by omega⟩
        simp only [Instr.index, asIntOf, Sem.run_bind, Sem.run_pure, Result.andThen_ok, run_underlying hu, if_pos h1, run_sizeT hs w, Int.toNat_natCast, e1]
      · cases h
    · cases h
  · rename_i s j hu hj
    obtain ⟨k, rfl⟩ := idxV_int (hi.idx hj)
    cases hx
    cases hb : s[j]? with
    | none => simp [hb] at h
    | some b =>
      simp [hb] at h
      subst h
      refine ⟨_, ?_, .int _ _⟩
      have h1 : (0 : Int) ≤ (j : Int) := by omega
      simp only [Instr.index, asIntOf, Sem.run_bind, Sem.run_pure, Result.andThen_ok, run_underlying hu, if_pos h1, Int.toNat_natCast, hb]
  · cases h

theorem sliceV_sound {P : Program} {β : Place} {E : Nat → Option Nat} {t : TypeId} {x mx v : Value} {lo hi mm mlo mhi mmm : Option Value} (hx : VRel β x mx) (hlo : ORels β lo mlo) (hhi : ORels β hi mhi) (hmm : ORels β mm mmm)
    (hE : ∀ b m (s : Sh) q, β b = some (m, s) → E b = some q → s.z = q)
    (h : sliceV P E t x lo hi mm = some v) (w : World) : ∃ mv, (Instr.sliceAt t mx mlo mhi mmm).run P w = .ok mv w ∧ VRel β v mv := by
  unfold sliceV at h
  split at h
  · rename_i s hu
    cases hx
    split at h
    · cases h
    · rename_i hn
      cases hmm with
      | some _ => simp at hn
      | none =>
        split at h
        · rename_i l hh om hb
          cases h
          have := (run_bounds (P := P) (b := false) hlo hhi .none (Nat.le_refl _) hb w).1
          refine ⟨_, ?_, .string _⟩
          simp [Instr.sliceAt, Instr.slice, run_underlying hu, this]
        · cases h
  · rename_i n e b o hu
    obtain ⟨m, s', hb', rfl⟩ := hx.ptr_inv
    split at h
    · rename_i s l hh om hs hb
      split at h
      · rename_i hmax
        obtain ⟨hrb, hle⟩ := run_bounds (P := P) (b := false) hlo hhi hmm (Nat.le_refl _) hb w
        have hbb : hh ≤ om.getD n := by
          unfold boundsV at hb
          repeat' split at hb
          all_goals first | (cases hb; first | (simp; done) | (simp; omega) | omega) | (cases hb; done)
        have hrun : (Instr.sliceAt t (.pointer (some ⟨m, s'.off + o, none⟩)) mlo mhi mmm).run P w = .ok (.slice (some ⟨m, if om.getD n = l then s'.off + o else s'.off + o + l * s, none⟩) (hh - l) (om.getD n - l)) w := by
          simp only [Instr.sliceAt, Sem.run_bind, run_underlying hu, Result.andThen_ok, Instr.sureAddr, Sem.run_pure, hrb, run_sizeT hs w, Addr.add_lit]
          split <;> simp_all
        refine ⟨_, hrun, ?_⟩
        split at h
        · rename_i hq
          cases h
          rw [if_pos hq]
          have h0 : om.getD n - l = 0 := by omega
          rw [h0]
          exact .slice hb' (.inr (.inr rfl)) (by omega) (Nat.zero_le _) (.inr (.inl rfl))
        · rename_i hq
          cases h
          rw [if_neg hq]
          have := VRel.slice (β := β) (o := o + l * s) (n := hh - l) (c := noapp) (c' := om.getD n - l) hb' (.inr (.inl rfl)) (by omega) (by omega) (.inl rfl)
          rwa [← Nat.add_assoc] at this
      · cases h
    · cases h
  · rename_i e hu
    cases hx
    split at h
    · rename_i s p hs hb
      cases h
      obtain ⟨l, hh, om⟩ := p
      obtain ⟨hrb, hle⟩ := run_bounds (P := P) (b := true) hlo hhi hmm (Nat.le_refl 0) hb w
      have hbb : hh ≤ 0 ∧ om.getD 0 ≤ 0 := by
        unfold boundsV at hb
        repeat' split at hb
        all_goals first | (cases hb; first | (simp; done) | (simp; omega) | omega) | (cases hb; done)
      have : l = 0 ∧ hh = 0 ∧ om.getD 0 = 0 := ⟨by omega, by omega, by omega⟩
      obtain ⟨rfl, rfl, h3⟩ := this
      refine ⟨.slice none 0 0, ?_, .nilslice⟩
      simp only [Instr.sliceAt, Instr.slice, Sem.run_bind, run_underlying hu, Result.andThen_ok, hrb, run_sizeT hs w, h3]
      simp
    · cases h
  · rename_i e b o n c hu
    split at h
    · rename_i s l hh om hs hb
      rcases hx.slice_inv with ⟨m, s', c', hb', rfl, hc, hn, hm, hroom⟩ | ⟨rfl, rfl, a', c', rfl⟩
      · have hdc : c ≠ dud := by
          rintro rfl
          rcases hc with hc | hc | hc
          · simp [dud, unk] at hc
          · simp [dud, noapp] at hc
          · simp only [dud, maxLen] at hc hm; omega
        have hcu' : c' ≠ unk ∧ c' ≠ noapp := by constructor <;> (rintro rfl; simp only [unk, noapp, maxLen] at hm; omega)
        have hsure : sureCap n c ≤ c' := by
          unfold sureCap
          rcases hc with rfl | rfl | rfl
          · simp; exact hn
          · simp [noapp, unk]; exact hn
          · (repeat' split) <;> omega
        obtain ⟨hrb, hle⟩ := run_bounds (P := P) (b := true) hlo hhi hmm hsure hb w
        have hbb : hh ≤ om.getD c' ∧ om.getD c' ≤ c' := by
          unfold boundsV at hb
          repeat' split at hb
          all_goals first | (cases hb; first | (simp; done) | (simp; omega) | omega) | (cases hb; done)
        have hrun : (Instr.sliceAt t (.slice (some ⟨m, s'.off + o, none⟩) n c') mlo mhi mmm).run P w = .ok (.slice (some ⟨m, if om.getD c' = l then s'.off + o else s'.off + o + l * s, none⟩) (hh - l) (om.getD c' - l)) w := by
          simp only [Instr.sliceAt, Instr.slice, Sem.run_bind, run_underlying hu, Result.andThen_ok, hrb, run_sizeT hs w]
          split <;> simp_all [Addr.add_lit]
        refine ⟨_, hrun, ?_⟩
        rw [if_neg hdc] at h
        split at h
        · cases h
        · rename_i hEE
          have room : ∀ k, k ≤ c' → l ≤ k → c ≠ noapp → (k - l = 0 ∨ s'.off + (o + l * s) + (k - l) * s'.z ≤ s'.T) := by
            intro k hk hlk hcn
            have hz : s'.z = s := by
              refine hE b m s' s hb' ?_
              by_cases hq : E b = some s
              · exact hq
              · exact absurd ⟨hcn, hq⟩ hEE
            rcases hroom with hroom | hroom | hroom
            · exact absurd hroom hcn
            · left; omega
            · right
              rw [hz] at hroom ⊢
              have h1 : l * s + (k - l) * s = k * s := by rw [← Nat.add_mul]; congr 1; omega
              have h2 : k * s ≤ c' * s := Nat.mul_le_mul_right _ hk
              omega
          have shifted : ∀ q c2 c3, (c2 = unk ∨ c2 = noapp ∨ c2 = c3) → q ≤ c3 → c3 ≤ maxLen → (c2 = noapp ∨ c3 = 0 ∨ s'.off + (o + l * s) + c3 * s'.z ≤ s'.T) → VRel β (.slice (some ⟨b, o + l * s, none⟩) q c2) (.slice (some ⟨m, s'.off + o + l * s, none⟩) q c3) := fun q c2 c3 h1 h2 h3 h4 => by
            have := VRel.slice (β := β) (o := o + l * s) hb' h1 h2 h3 h4
            rwa [← Nat.add_assoc] at this
          split at h
          · rename_i mx
            simp only [Option.getD_some] at hbb ⊢
            split at h
            · rename_i hq
              cases h
              rw [if_pos hq]
              have h0 : mx - l = 0 := by omega
              rw [h0]
              exact .slice hb' (.inr (.inr rfl)) (by omega) (Nat.zero_le _) (.inr (.inl rfl))
            · rename_i hq
              cases h
              rw [if_neg hq]
              by_cases hcn : c = noapp
              · rw [if_pos hcn]
                exact shifted _ _ _ (.inr (.inl rfl)) (by omega) (by omega) (.inl rfl)
              · rw [if_neg hcn]
                exact shifted _ _ _ (.inr (.inr rfl)) (by omega) (by omega) (.inr (room mx hbb.2 (by omega) hcn))
          · simp only [Option.getD_none] at hbb ⊢
            split at h
            · rename_i hcu
              have hsn : sureCap n c = n := by
                unfold sureCap
                rcases hcu with rfl | rfl
                · simp
                · simp [noapp, unk]
              split at h
              · rename_i hln
                cases h
                rw [if_neg (by omega)]
                refine shifted _ _ _ (hcu.imp id .inl) (by omega) (by omega) ?_
                by_cases hcn : c = noapp
                · exact .inl hcn
                · exact .inr (room c' (Nat.le_refl _) (by omega) hcn)
              · rename_i hln
                cases h
                have : hh - l = 0 := by
                  rw [hsn] at hb
                  unfold boundsV at hb
                  repeat' split at hb
                  all_goals first | (cases hb; omega) | (cases hb; done)
                rw [this]
                exact .dud
            · rename_i hcu
              have hcc : c = c' := by
                rcases hc with hc | hc | hc
                · exact absurd (.inl hc) hcu
                · exact absurd (.inr hc) hcu
                · exact hc
              subst hcc
              split at h
              · rename_i hq
                cases h
                rw [if_pos hq]
                have h0 : c - l = 0 := by omega
                rw [h0]
                exact .slice hb' (.inr (.inr rfl)) (by omega) (Nat.zero_le _) (.inr (.inl rfl))
              · rename_i hq
                cases h
                rw [if_neg hq]
                exact shifted _ _ _ (.inr (.inr rfl)) (by omega) (by omega) (.inr (room c (Nat.le_refl _) (by omega) (fun e => hcu (.inr e))))
      · have hsure : sureCap 0 Sim.dud ≤ c' := by simp [sureCap, Sim.dud, unk, noapp]
        obtain ⟨hrb, hle⟩ := run_bounds (P := P) (b := true) hlo hhi hmm hsure hb w
        have hbb : hh = 0 := by
          have : sureCap 0 Sim.dud = 0 := by simp [sureCap, Sim.dud, unk, noapp]
          rw [this] at hb
          unfold boundsV at hb
          repeat' split at hb
          all_goals first | (cases hb; omega) | (cases hb; done)
        subst hbb
        have hl0 : l = 0 := by omega
        subst hl0
        rw [if_pos rfl] at h
        split at h
        · cases h
        · cases h
          refine ⟨.slice (some a') 0 c', ?_, .dud⟩
          simp only [Instr.sliceAt, Instr.slice, Sem.run_bind, run_underlying hu, Result.andThen_ok, hrb, run_sizeT hs w]
          simp [Addr.add_zero']
    · cases h
  · cases h
end Go.Sim

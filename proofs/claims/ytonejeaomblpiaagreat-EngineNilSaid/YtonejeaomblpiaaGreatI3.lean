/- One operation, reckoned; lists of them. -/
import Derived.Test.YtonejeaomblpiaaGreatI2
set_option linter.unusedSimpArgs false
set_option linter.unusedVariables false
set_option linter.defProp false
namespace Go.Sim
open Go.RowKit

abbrev CallX := Fn → List Value → PH → KX → Bool
def FnCalls (P : Program) (f : Fn) (args : List Value) (h : Heap) (K : Value → Heap → Prop) : Prop :=
  match f with
  | .func k => ADoes P k args h K
  | .yield l => AYield P l args h K
  | _ => False
def CallOk (P : Program) (call : CallX) : Prop := ∀ f args p K, call f args p K = true → FnCalls P f args p.heap (up K)

def isU8 (P : Program) (e : TypeId) : Bool := match P.underlying e with
  | some (.int .u8) => true
  | _ => false
theorem isU8_sound {P : Program} {e : TypeId} (h : isU8 P e = true) : P.underlying e = some (.int .u8) := by
  unfold isU8 at h
  split at h
  · assumption
  · cases h
def convX (P : Program) (s d : TypeId) (x : Value) (p : PH) (K : KX) : Bool :=
  match P.underlying s, P.underlying d, x with
  | some (.slice e), some .string, x => isU8 P e && match bytesStrV p.heap x with
    | some v => K v p
    | none => false
  | some .string, some (.slice e), .string t => isU8 P e && (szT P e == some 1) && decide (t.size ≤ maxLen) && pushX p (.cells (bytesOf t) e true) (K (sliceOfNew t.size unk p.next))
  | some (.slice _), some (.slice e), .slice (some ⟨b, o, none⟩) n c => s == d && !(c == dud) && isU8 P e && match p.get b with
    | some (.cells _ _ true) => K (.slice (some ⟨b, o, none⟩) n c) p
    | _ => false
  | _, _, x => match convV P s d x with
    | some v => K v p
    | none => false
theorem convX_sound {P : Program} {s d : TypeId} {x : Value} {p : PH} {K : KX} (h : convX P s d x p K = true) : convWp P s d x p.heap (up K) := by
  unfold convX at h
  unfold convWp
  split at h
  · rename_i e _ hs hd
    rw [Bool.and_eq_true] at h
    simp only [hs, hd]
    refine ⟨isU8_sound h.1, ?_⟩
    have h2 := h.2
    split at h2
    · rename_i v hv; rw [hv]; exact ⟨p, rfl, h2⟩
    · cases h2
  · rename_i e t hs hd
    simp only [Bool.and_eq_true, beq_iff_eq, decide_eq_true_eq] at h
    obtain ⟨⟨⟨h1, h2⟩, h3⟩, h4⟩ := h
    obtain ⟨k1, k2⟩ := pushX_sound h4
    simp only [hs, hd]
    exact ⟨isU8_sound h1, h2, h3, _, k1, k2⟩
  · rename_i e0 e b o n c hs hd
    simp only [Bool.and_eq_true, beq_iff_eq, Bool.not_eq_true', beq_eq_false_iff_ne] at h
    obtain ⟨⟨⟨h1, h2⟩, h3⟩, h4⟩ := h
    simp only [hs, hd]
    refine ⟨h1, h2, isU8_sound h3, ?_⟩
    split at h4
    · rename_i hg
      show match p.get b with
        | some (.cells _ _ true) => up K _ p.heap
        | _ => False
      rw [hg]; exact ⟨p, rfl, h4⟩
    · cases h4
  · rename_i n1 n2 n3
    split at h
    · rename_i v hv
      split
      · rename_i e _ hs hd
        exact absurd hd (n1 _ hs)
      · rename_i e t hs hd
        exact absurd rfl (n2 _ _ hs hd)
      · rename_i hs hd
        exact absurd rfl (n3 _ _ _ _ _ _ hs hd)
      · rw [hv]; exact ⟨p, rfl, h⟩
    · cases h
def newX (P : Program) (o : Op) (ρ : Rho) (p : PH) (K : KX) : Bool :=
  match newV P o ρ with
  | some (q, mk) => pushX p q (K (mk p.next))
  | none => false
theorem newX_sound {P : Program} {o : Op} {ρ : Rho} {p : PH} {K : KX} (h : newX P o ρ p K = true) : (match newV P o ρ with
    | some (q, mk) => up K (mk p.heap.next) (p.heap.push q)
    | none => False) := by
  unfold newX at h
  split at h
  · rename_i q mk hn
    obtain ⟨k1, k2⟩ := pushX_sound h
    exact ⟨_, k1, k2⟩
  · cases h
def rangeX (P : Program) (t : TypeId) (x : Value) (p : PH) (K : KX) : Bool :=
  match P.underlying t, x with
  | some .string, .string s => pushX p (.striter s 0) (K (ptrOfNew p.next))
  | some (.map _ _), .map none => pushX p (.iter none 0 [] 0) (K (ptrOfNew p.next))
  | some (.map _ _), .map (some r) => match p.get r with
    | some (.map _ ck) => pushX p (.iter (some r) ck [] ck) (K (ptrOfNew p.next))
    | _ => false
  | _, _ => false
theorem rangeX_sound {P : Program} {t : TypeId} {x : Value} {p : PH} {K : KX} (h : rangeX P t x p K = true) : rangeWp P t x p.heap (up K) := by
  unfold rangeX at h
  unfold rangeWp
  split at h
  · obtain ⟨k1, k2⟩ := pushX_sound h; simp only [*]; exact ⟨_, k1, k2⟩
  · obtain ⟨k1, k2⟩ := pushX_sound h; simp only [*]; exact ⟨_, k1, k2⟩
  · split at h
    · rename_i es ck hg
      obtain ⟨k1, k2⟩ := pushX_sound h
      have hg' : p.heap.get _ = some (.map es ck) := hg
      simp only [*]; exact ⟨_, k1, k2⟩
    · cases h
  · cases h
def nextX (P : Program) (it : Value) (isString : Bool) (p : PH) (K : KX) : Bool :=
  match it, isString with
  | .pointer (some ⟨r, 0, none⟩), true => match p.get r with
    | some (.striter s pos) =>
      if pos < s.size then (match setX p r (.striter s (pos + (Utf8.decode s pos).2)) with
        | some p' => K (.tuple #[.bool true, goInt pos, .int .i32 (Utf8.decode s pos).1]) p'
        | none => false)
      else K (.tuple #[.bool false]) p
    | _ => false
  | .pointer (some ⟨r, 0, none⟩), false => match p.get r with
    | some (.iter none _ _ _) => K (.tuple #[.bool false]) p
    | some (.iter (some b) since seen last) => match p.get b with
      | some (.map es ck) =>
        !(!seen.isEmpty && !es.isEmpty && es.all fun e => decide (e.born ≥ last)) &&
        (!((es.filter fun e => !seen.contains e.born).filter fun e => decide (e.born < since)).isEmpty || K (.tuple #[.bool false]) p) &&
        es.all fun e => seen.contains e.born || (match setX p r (.iter (some b) since (seen ++ [e.born]) ck) with
          | some p' => K (.tuple #[.bool true, e.key, e.val]) p'
          | none => false)
      | _ => false
    | _ => false
  | _, _ => false
theorem nextX_sound {P : Program} {it : Value} {isString : Bool} {p : PH} {K : KX} (h : nextX P it isString p K = true) : nextWp P it isString p.heap (up K) := by
  unfold nextX at h
  unfold nextWp
  split at h
  · rename_i r
    split at h
    · rename_i s pos hg
      have hg' : p.heap.get r = some (.striter s pos) := hg
      simp only [hg']
      split at h
      · rename_i hp
        rw [if_pos hp]
        split at h
        · rename_i p' hs
          exact ⟨p', setX_sound hs hg, h⟩
        · cases h
      · rename_i hp
        rw [if_neg hp]
        exact ⟨p, rfl, h⟩
    · cases h
  · rename_i r
    split at h
    · rename_i a b c hg
      have hg' : p.heap.get r = some (.iter none a b c) := hg
      simp only [hg']
      exact ⟨p, rfl, h⟩
    · rename_i b since seen last hg
      have hg' : p.heap.get r = some (.iter (some b) since seen last) := hg
      simp only [hg']
      split at h
      · rename_i es ck hgb
        have hgb' : p.heap.get b = some (.map es ck) := hgb
        simp only [hgb']
        rw [Bool.and_eq_true, Bool.and_eq_true] at h
        obtain ⟨⟨h1, h2⟩, h3⟩ := h
        have h1' : (!seen.isEmpty && !es.isEmpty && es.all fun e => decide (e.born ≥ last)) = false := by
          cases hq : (!seen.isEmpty && !es.isEmpty && es.all fun e => decide (e.born ≥ last)) with
          | false => rfl
          | true => rw [hq] at h1; cases h1
        refine ⟨h1', fun he => ?_, fun e he hs => ?_⟩
        · rw [he] at h2
          exact ⟨p, rfl, by simpa using h2⟩
        · have := List.all_eq_true.1 h3 e he
          rw [hs] at this
          simp only [Bool.false_or] at this
          split at this
          · rename_i p' hset
            exact ⟨p', setX_sound hset hg, this⟩
          · cases this
      · cases h
    · cases h
  · cases h
def entryX (P : Program) (it : Value) (p : PH) (K : KX) : Bool :=
  match it with
  | .pointer (some ⟨r, 0, none⟩) => match p.get r with
    | some (.iter (some b) _ seen last) => match seen.getLast?, p.get b with
      | some stamp, some (.map es ck) => decide (ck = last) &&
          match es.find? (fun e => e.born == stamp) with
          | some e => K (.tuple #[e.key, e.val]) p
          | none => false
      | _, _ => false
    | _ => false
  | _ => false
theorem entryX_sound {P : Program} {it : Value} {p : PH} {K : KX} (h : entryX P it p K = true) : entryWp P it p.heap (up K) := by
  unfold entryX at h
  unfold entryWp
  split at h
  · rename_i r
    split at h
    · rename_i b since seen last hg
      have hg' : p.heap.get r = some (.iter (some b) since seen last) := hg
      simp only [hg']
      split at h
      · rename_i stamp es ck hl hgb
        have hgb' : p.heap.get b = some (.map es ck) := hgb
        simp only [hl, hgb']
        rw [Bool.and_eq_true, decide_eq_true_eq] at h
        obtain ⟨h1, h2⟩ := h
        rw [if_pos h1]
        split at h2
        · rename_i e he; rw [he]; exact ⟨p, rfl, h2⟩
        · cases h2
      · cases h
    · cases h
  · cases h
end Go.Sim

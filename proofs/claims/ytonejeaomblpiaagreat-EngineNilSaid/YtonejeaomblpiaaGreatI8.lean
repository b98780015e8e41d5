/- Arguments that are integers all through. -/
import Derived.Test.YtonejeaomblpiaaGreatI7
set_option linter.unusedSimpArgs false
set_option linter.unusedVariables false
set_option linter.defProp false
namespace Go.Sim
open Go.RowKit

def isI (v : Value) : Prop := ∃ k x, v = .int k x
def intT (P : Program) : Nat → TypeId → Bool
  | 0, _ => false
  | d + 1, t => match P.underlying t with
    | some (.int _) => true
    | some (.struct fs) => plainF P (intT P d) fs.toList 0 (P.cellsOf t)
    | some (.array n e) => intT P d e && decide (n * P.cellsOf e = P.cellsOf t)
    | _ => false
theorem flat_fields {P : Program} {pt : TypeId → Bool} {cs : List Value} {N : Nat} (hl : cs.length = N) : ∀ (fs : List Field) (off : Nat), plainF P pt fs off N = true →
    (∀ f ∈ fs, pt f.type = true → ∀ v ∈ (cs.drop f.offset).take (P.cellsOf f.type), isI v) → ∀ v ∈ cs.drop off, isI v
  | [], off, hp, _, v, hv => by
    simp only [plainF, decide_eq_true_eq] at hp
    rw [List.drop_eq_nil_of_le (by omega)] at hv
    cases hv
  | f :: fs, off, hp, hw, v, hv => by
    simp only [plainF, Bool.and_eq_true, decide_eq_true_eq] at hp
    obtain ⟨⟨h1, h2⟩, h3⟩ := hp
    rw [← List.take_append_drop (P.cellsOf f.type) (cs.drop off), List.mem_append] at hv
    rcases hv with hv | hv
    · exact hw f (by simp) h2 v (by rw [h1]; exact hv)
    · rw [List.drop_drop] at hv
      exact flat_fields hl fs _ h3 (fun g hg => hw g (by simp [hg])) v hv
theorem flat_items {cs : List Value} {z n : Nat} (hl : cs.length = n * z) (hw : ∀ i, i < n → ∀ v ∈ (cs.drop (i * z)).take z, isI v) : ∀ (j i : Nat), i + j = n → ∀ v ∈ cs.drop (i * z), isI v
  | 0, i, h, v, hv => by
    have : i = n := by omega
    subst this
    rw [List.drop_eq_nil_of_le (by omega)] at hv
    cases hv
  | j + 1, i, h, v, hv => by
    rw [← List.take_append_drop z (cs.drop (i * z)), List.mem_append] at hv
    rcases hv with hv | hv
    · exact hw i (by omega) v hv
    · rw [List.drop_drop, ← Nat.succ_mul] at hv
      exact flat_items hl hw j (i + 1) (by omega) v hv
theorem rv_flat {P : Program} {h : Heap} : ∀ (d : Nat) {t : TypeId} {cs : List Value}, intT P d t = true → RV P h d t cs → ∀ v ∈ cs, isI v
  | 0, _, _, _, q => q.elim
  | d + 1, t, cs, hi, q => by
    unfold intT at hi
    unfold RV at q
    split at hi
    · rename_i k hu
      rw [hu] at q
      obtain ⟨x, rfl, _⟩ := q
      intro v hv
      simp only [List.mem_singleton] at hv
      exact ⟨k, x, hv⟩
    · rename_i fs hu
      rw [hu] at q
      have := flat_fields q.1 fs.toList 0 hi fun f hf hp => rv_flat d hp (q.2 f hf)
      simpa using this
    · rename_i n e hu
      rw [hu] at q
      simp only [Bool.and_eq_true, decide_eq_true_eq] at hi
      have := flat_items (z := P.cellsOf e) (n := n) (by rw [hi.2]; exact q.1) (fun i hlt => rv_flat d hi.1 (q.2 i hlt)) n 0 (by omega)
      simpa using this
    · cases hi
theorem ints_any {β β0 : Place} : ∀ {l ms : List Value}, (∀ v ∈ l, isI v) → VRels β l ms → VRels β0 l ms
  | [], _, _, h => by cases h; exact .nil
  | v :: l, _, hi, h => by
    cases h with
    | cons h1 h2 =>
      obtain ⟨k, x, rfl⟩ := hi v (by simp)
      cases h1
      exact .cons (.int _ _) (ints_any (fun v hv => hi v (by simp [hv])) h2)
theorem ints_form {cs : List Value} {n : Nat} (hl : cs.length = n) (hi : ∀ v ∈ cs, isI v) : ∃ (kk : Nat → IntKind) (xx : Nat → Int), cs = (List.range n).map fun i => .int (kk i) (xx i) := by
  refine ⟨fun i => match cs[i]? with
    | some (.int k _) => k
    | _ => .u8, fun i => match cs[i]? with
    | some (.int _ x) => x
    | _ => 0, ?_⟩
  apply List.ext_getElem?
  intro i
  rw [List.getElem?_map]
  by_cases h : i < n
  · rw [List.getElem?_range h]
    have hc : cs[i]? = some (cs[i]'(by omega)) := List.getElem?_eq_getElem (by omega)
    obtain ⟨k, x, e⟩ := hi (cs[i]'(by omega)) (List.getElem_mem _)
    rw [hc, e]
    simp [hc, e]
  · rw [List.getElem?_eq_none (by omega), List.getElem?_eq_none (by simp; omega)]
    rfl
theorem agg_any {β β0 : Place} {cs : List Value} {mv : Value} (hi : ∀ v ∈ cs, isI v) (h : VRel β (.agg cs.toArray) mv) : VRel β0 (.agg cs.toArray) mv := by
  obtain ⟨xs, rfl, r⟩ := VRel.agg_iff.1 h
  exact VRel.agg_iff.2 ⟨xs, rfl, ints_any (by simpa using hi) r⟩
end Go.Sim

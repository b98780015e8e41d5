/- Appending. -/
import Derived.Test.YtonejeaomblpiaaGreatA18
set_option linter.unusedSimpArgs false
set_option linter.unusedVariables false
set_option linter.defProp false
namespace Go.Sim
open Go.RowKit
def appOk (P : Program) (t t2 e e2 : TypeId) (b : Nat) : Bool := match P.underlying t, P.underlying t2, P.info? e with
  | some (.slice x), some (.slice y), some i => x == e && y == e2 && i.size == 1 && i.bytes == b && (zeroCellsT P e).isSome
  | _, _, _ => false
theorem append_x {P : Program} {t t2 e e2 : TypeId} {b : Nat} {h₀ h : Heap} {s x : Value} {xs ys : List Value} {K : Value → Heap → Prop} (hok : appOk P t t2 e e2 b = true) (hs : OwnSl h₀ h s e xs) (hx : SlAt h x e ys) (h1 : ys.all Value.oneCell' = true)
    (hlen : (xs.length + ys.length) * b ≤ 140737488355328) (hm : xs.length + ys.length ≤ maxLen) (h0 : Ext h₀ h)
    (hK : ∀ v' h', OwnSl h₀ h' v' e (xs ++ ys) → Ext h₀ h' → h.next ≤ h'.next → (∀ c, c < h.next → blockOf s ≠ some c → h'.get c = h.get c) → (blockOf v' = blockOf s ∨ blockOf v' = some h.next) → K v' h') : appWp P [t, t2] h s x K := by
  unfold appOk at hok
  split at hok
  · rename_i x y i hu hu2 hi
    simp only [Bool.and_eq_true, beq_iff_eq] at hok
    obtain ⟨⟨⟨⟨rfl, rfl⟩, hsz⟩, hb⟩, hz⟩ := hok
    exact append_own hu hu2 hi hsz hz hs hx h1 (by rw [hb]; exact hlen) hm h0 hK
  · cases hok


theorem append_1 {P : Program} {t t2 e : TypeId} {b bx : Nat} {h₀ h : Heap} {s v : Value} {xs : List Value} {K : Value → Heap → Prop} (hok : appOk P t t2 e e b = true) (hs : OwnSl h₀ h s e xs) (hg : h.get bx = some (.cells [v] e true)) (h1 : v.oneCell' = true)
    (hb : b ≤ 1000) (hlen : xs.length ≤ 1000000000) (h0 : Ext h₀ h)
    (hK : ∀ v' h', OwnSl h₀ h' v' e (xs ++ [v]) → Ext h₀ h' → h.next ≤ h'.next → (∀ c, c < h.next → blockOf s ≠ some c → h'.get c = h.get c) → (blockOf v' = blockOf s ∨ blockOf v' = some h.next) → K v' h') : appWp P [t, t2] h s (.slice (some ⟨bx, 0, none⟩) 1 1) K := by
  refine append_x hok hs (ys := [v]) (.inr <| .inr ⟨bx, 0, 1, [v], true, rfl, hg, rfl, by simp [maxLen]⟩) (by simp [h1]) ?_ (by simp [maxLen]; omega) h0 hK
  exact Nat.le_trans (Nat.mul_le_mul_left _ hb) (by simp only [List.length_cons, List.length_nil]; omega)
theorem OwnSl.base {h₀ h₁ h : Heap} {v : Value} {e : TypeId} {xs : List Value} (hs : OwnSl h₁ h v e xs) (hx : Ext h₀ h₁) : OwnSl h₀ h v e xs := by
  rcases hs with hs | ⟨b, o, c, cs, h1, h2, h3, h4, h5⟩
  · exact .inl hs
  · exact .inr ⟨b, o, c, cs, h1, h2, h3, Nat.le_trans hx.le h4, h5⟩
end Go.Sim
namespace Go.Sim
/-- What a slice answers, without a look at its place. -/
theorem SlAt.view {P : Program} {h : Heap} {v : Value} {e t e' : TypeId} {xs : List Value} (hs : SlAt h v e xs) (hu : P.underlying t = some (.slice e')) (hz : szT P e' = some 1) :
    ∃ b o cs rw, lenV P t v = some (goInt xs.length) ∧ (∀ (k : IntKind) (i : Int), (0 ≤ i ∧ i < xs.length) → indexAddrV P t v (.int k i) = some (.pointer (some ⟨b, o + i.toNat, none⟩))) ∧
      (0 < xs.length → h.get b = some (.cells cs e rw)) ∧ (∀ j, j < xs.length → cs[o + j]? = xs[j]?) ∧ xs.length ≤ maxLen ∧ (0 < xs.length → b < h.next) := by
  rcases hs with ⟨rfl, rfl⟩ | ⟨b, o, rfl, rfl⟩ | ⟨b, o, c, cs, rw, rfl, hb, ht, hl⟩
  · exact ⟨0, 0, [], true, by unfold lenV; rw [hu]; rfl, fun k i hi => by simp at hi; omega, by simp, by simp, by simp, by simp⟩
  · exact ⟨0, 0, [], true, by unfold lenV; rw [hu]; rfl, fun k i hi => by simp at hi; omega, by simp, by simp, by simp, by simp⟩
  · refine ⟨b, o, cs, rw, by unfold lenV; rw [hu], fun k i hi => ?_, fun _ => hb, fun j hj => by rw [slice_at ht hj, List.getElem?_eq_getElem hj], hl, fun _ => h.wf _ _ hb⟩
    rw [indexAddr_slice hu hz, if_pos hi, Nat.mul_one]
section
variable {P : Program} {t e : TypeId}
theorem eq_ptr (hu : P.underlying t = some (.pointer e)) (a : Addr) : binV P .eql t (.pointer (some a)) (.pointer none) = some (.bool false) := by simp [binV, eqV, hu]
theorem ne_ptr (hu : P.underlying t = some (.pointer e)) (a : Addr) : binV P .neq t (.pointer (some a)) (.pointer none) = some (.bool true) := by simp [binV, eqV, hu]
theorem eq_nilptr (hu : P.underlying t = some (.pointer e)) : binV P .eql t (.pointer none) (.pointer none) = some (.bool true) := by simp [binV, eqV, hu]
theorem ne_nilptr (hu : P.underlying t = some (.pointer e)) : binV P .neq t (.pointer none) (.pointer none) = some (.bool false) := by simp [binV, eqV, hu]
theorem eq_slice (hu : P.underlying t = some (.slice e)) (a : Addr) (n c : Nat) : binV P .eql t (.slice (some a) n c) (.slice none 0 0) = some (.bool false) := by simp [binV, eqV, hu]
theorem ne_slice (hu : P.underlying t = some (.slice e)) (a : Addr) (n c : Nat) : binV P .neq t (.slice (some a) n c) (.slice none 0 0) = some (.bool true) := by simp [binV, eqV, hu]
theorem eq_nilslice (hu : P.underlying t = some (.slice e)) : binV P .eql t (.slice none 0 0) (.slice none 0 0) = some (.bool true) := by simp [binV, eqV, hu]
theorem ne_nilslice (hu : P.underlying t = some (.slice e)) : binV P .neq t (.slice none 0 0) (.slice none 0 0) = some (.bool false) := by simp [binV, eqV, hu]
end
theorem Heap.ext'' {h h' : Heap} (hn : h.next = h'.next) (hg : ∀ b, h.get b = h'.get b) : h = h' := by
  cases h; cases h'
  simp only at hn hg
  subst hn
  have := funext hg
  subst this
  rfl
theorem Heap.set_self {h : Heap} {b : Nat} {o : AObj} (hg : h.get b = some o) : h.set b o = h := by
  refine Heap.ext'' rfl fun c => ?_
  rw [Heap.get_set]
  by_cases hc : c = b
  · subst hc; rw [if_pos rfl, hg]; rfl
  · rw [if_neg hc]
end Go.Sim

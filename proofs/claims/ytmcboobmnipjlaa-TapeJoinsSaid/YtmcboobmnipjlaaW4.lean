/- Part 4 of the claim TapeJoins: A22, A23, D1, D2, D3, D4, D5, D6, D7, D8, D9, D10 -/
import Derived.Test.YtmcboobmnipjlaaW3
set_option linter.unusedSimpArgs false
set_option linter.unusedVariables false
set_option linter.defProp false
/- Slices of elements of one cell that may be sliced again. -/
namespace Go.Sim
open Go.RowKit

/-- A slice of values of one cell each, that may be sliced. -/
def SlR (h : Heap) (v : Value) (e : TypeId) (xs : List Value) : Prop :=
  (v = .slice none 0 0 ∧ xs = []) ∨ (∃ b o, v = .slice (some ⟨b, o, none⟩) 0 dud ∧ xs = []) ∨ ∃ b o c cs rw, v = .slice (some ⟨b, o, none⟩) xs.length c ∧ h.get b = some (.cells cs e rw) ∧ (cs.drop o).take xs.length = xs ∧ xs.length ≤ maxLen ∧
    (c = noapp ∨ (rw = true ∧ (c = unk ∨ (xs.length ≤ c ∧ c ≤ maxLen))))
theorem SlR.at {h : Heap} {v : Value} {e : TypeId} {xs : List Value} (hs : SlR h v e xs) : SlAt h v e xs := by
  rcases hs with hs | hs | ⟨b, o, c, cs, rw, h1, h2, h3, h4, _⟩
  · exact .inl hs
  · exact .inr (.inl hs)
  · exact .inr (.inr ⟨b, o, c, cs, rw, h1, h2, h3, h4⟩)
theorem SlR.form {h : Heap} {v : Value} {e : TypeId} {xs : List Value} (hs : SlR h v e xs) : ∃ a n c, v = .slice a n c := by
  rcases hs with ⟨rfl, _⟩ | ⟨b, o, rfl, _⟩ | ⟨b, o, c, cs, rw, rfl, _⟩
  · exact ⟨_, _, _, rfl⟩
  · exact ⟨_, _, _, rfl⟩
  · exact ⟨_, _, _, rfl⟩
theorem SlR.ext {h h' : Heap} {v : Value} {e : TypeId} {xs : List Value} (hs : SlR h v e xs) (hx : ∀ b, blockOf v = some b → h'.get b = h.get b) : SlR h' v e xs := by
  rcases hs with hs | hs | ⟨b, o, c, cs, rw, h1, h2, h3⟩
  · exact .inl hs
  · exact .inr (.inl hs)
  · exact .inr (.inr ⟨b, o, c, cs, rw, h1, (hx b (by rw [h1]; rfl)).trans h2, h3⟩)
theorem SlR.of_ext {h h' : Heap} {v : Value} {e : TypeId} {xs : List Value} (hs : SlR h v e xs) (hx : Ext h h') : SlR h' v e xs := by
  rcases hs with hs | hs | ⟨b, o, c, cs, rw, h1, h2, h3⟩
  · exact .inl hs
  · exact .inr (.inl hs)
  · exact .inr (.inr ⟨b, o, c, cs, rw, h1, (hx.get b (h.wf _ _ h2)).trans h2, h3⟩)
theorem SlR.of_extB {h h' : Heap} {v : Value} {e e' : TypeId} {xs cs : List Value} {r : Nat} {w : Bool} (hs : SlR h v e xs) (hr : h.get r = some (.cells cs e' w)) (hne : e' ≠ e) (hx : ExtB r h h') : SlR h' v e xs := by
  rcases hs with hs | hs | ⟨b, o', c, cs', rw, h1, h2, h3⟩
  · exact .inl hs
  · exact .inr (.inl hs)
  · refine .inr (.inr ⟨b, o', c, cs', rw, h1, ?_, h3⟩)
    rw [hx.get b (h.wf _ _ h2) (by rintro rfl; rw [h2] at hr; cases hr; exact hne rfl)]
    exact h2
theorem SlR.of_get {h h' : Heap} {v : Value} {e : TypeId} {xs : List Value} (hs : SlR h v e xs) (hx : ∀ b, b < h.next → h'.get b = h.get b) : SlR h' v e xs := by
  rcases hs with hs | hs | ⟨b, o, c, cs, rw, h1, h2, h3⟩
  · exact .inl hs
  · exact .inr (.inl hs)
  · exact .inr (.inr ⟨b, o, c, cs, rw, h1, (hx b (h.wf _ _ h2)).trans h2, h3⟩)
/-- The bounds of a slice's part. -/
theorem SlR.part {P : Program} {h : Heap} {v : Value} {e t : TypeId} {xs : List Value} {lo hi : Option Value} {l r : Nat} (hs : SlR h v e xs) (hu : P.underlying t = some (.slice e)) (hz : szT P e = some 1)
    (hb : ∀ c, xs.length ≤ c → boundsV xs.length c lo hi none = some (l, r, none)) (hl : l ≤ r) (hr : r ≤ xs.length) :
    ∃ v', sliceV P (elemSz P h) t v lo hi none = some v' ∧ SlR h v' e ((xs.drop l).take (r - l)) ∧ (blockOf v' = blockOf v) := by
  rcases hs with ⟨rfl, rfl⟩ | ⟨b, o, rfl, rfl⟩ | ⟨b, o, c, cs, rw, rfl, hg, ht, hm, hc⟩
  · have := hb 0 (by simp)
    refine ⟨.slice none 0 0, ?_, .inl ⟨rfl, by simp⟩, rfl⟩
    unfold sliceV
    simp only [hu, hz]
    rw [show ([] : List Value).length = 0 from rfl] at this
    rw [this]
  · have := hb 0 (by simp)
    refine ⟨.slice (some ⟨b, o, none⟩) 0 dud, ?_, .inr (.inl ⟨b, o, rfl, by simp⟩), rfl⟩
    unfold sliceV
    simp only [hu, hz]
    rw [show sureCap 0 dud = 0 from by decide]
    rw [show ([] : List Value).length = 0 from rfl] at this
    rw [this]
    simp
  · have hdu : dud > maxLen := by decide
    have hun : unk > maxLen := by decide
    have hno : noapp > maxLen := by decide
    have hnu : noapp ≠ unk := by decide
    have hud : unk ≠ dud := by decide
    have hnd : noapp ≠ dud := by decide
    have hcap : xs.length ≤ sureCap xs.length c := by
      unfold sureCap
      rcases hc with rfl | ⟨_, rfl | ⟨h1, h2⟩⟩
      · rw [if_neg hnu, if_pos rfl]; exact Nat.le_refl _
      · rw [if_pos rfl]; exact Nat.le_refl _
      · rw [if_neg (by omega), if_neg (by omega), if_neg (by omega)]; exact h1
    have hbd := hb _ hcap
    have hlen : ((xs.drop l).take (r - l)).length = r - l := by simp; omega
    have hpart : (cs.drop (o + l)).take (r - l) = (xs.drop l).take (r - l) := by
      rw [← ht]
      rw [List.drop_take, List.take_take, List.drop_drop]
      congr 1
      omega
    have hE : elemSz P h b = if rw then some 1 else none := by
      unfold elemSz
      rw [hg]
      cases rw
      · rfl
      · simpa using hz
    unfold sliceV
    simp only [hu, hz, hbd, Nat.mul_one]
    have nodud : c ≠ dud := by
      rcases hc with rfl | ⟨_, rfl | ⟨_, h3⟩⟩
      · exact hnd
      · exact hud
      · omega
    rw [if_neg nodud]
    have hE2 : ¬ (c ≠ noapp ∧ elemSz P h b ≠ some 1) := by
      rintro ⟨h1, h2⟩
      rcases hc with rfl | ⟨rfl, _⟩
      · exact h1 rfl
      · rw [hE] at h2; exact h2 rfl
    rw [if_neg hE2]
    by_cases hcu : c = unk ∨ c = noapp
    · rw [if_pos hcu]
      by_cases hlt : l < xs.length
      · rw [if_pos hlt]
        refine ⟨_, rfl, .inr (.inr ⟨b, o + l, c, cs, rw, by rw [hlen], hg, by rw [hlen]; exact hpart, by rw [hlen]; omega, ?_⟩), rfl⟩
        rcases hc with rfl | ⟨h1, rfl | ⟨h2, h3⟩⟩
        · exact .inl rfl
        · exact .inr ⟨h1, .inl rfl⟩
        · rcases hcu with h | h <;> omega
      · rw [if_neg hlt]
        refine ⟨_, rfl, .inr (.inl ⟨b, o, ?_, ?_⟩), rfl⟩
        · rfl
        · rw [List.drop_eq_nil_of_le (by omega)]; simp
    · rw [if_neg hcu]
      obtain ⟨h1, h4, h5⟩ : rw = true ∧ xs.length ≤ c ∧ c ≤ maxLen := by
        rcases hc with rfl | ⟨k1, rfl | k2⟩
        · exact absurd (.inr rfl) hcu
        · exact absurd (.inl rfl) hcu
        · exact ⟨k1, k2⟩
      by_cases hcl : c = l
      · rw [if_pos hcl]
        have h0 : (xs.drop l).take (r - l) = [] := by rw [List.drop_eq_nil_of_le (by omega)]; simp
        rw [h0]
        refine ⟨_, rfl, .inr (.inr ⟨b, o, 0, cs, rw, ?_, hg, rfl, Nat.zero_le _, .inr ⟨h1, .inr ⟨Nat.le_refl _, Nat.zero_le _⟩⟩⟩), rfl⟩
        rw [show r - l = 0 by omega]; rfl
      · rw [if_neg hcl]
        refine ⟨_, rfl, .inr (.inr ⟨b, o + l, c - l, cs, rw, by rw [hlen], hg, by rw [hlen]; exact hpart, by rw [hlen]; omega, .inr ⟨h1, .inr ⟨by rw [hlen]; omega, by omega⟩⟩⟩), rfl⟩
theorem SlR.hi {P : Program} {h : Heap} {v : Value} {e t : TypeId} {xs : List Value} {n : Nat} (hs : SlR h v e xs) (hu : P.underlying t = some (.slice e)) (hz : szT P e = some 1) (hn : n ≤ xs.length) :
    ∃ v', sliceV P (elemSz P h) t v none (some (.int .i64 n)) none = some v' ∧ SlR h v' e (xs.take n) ∧ blockOf v' = blockOf v := by
  have := hs.part (lo := none) (hi := some (.int .i64 n)) (l := 0) (r := n) hu hz (fun c hc => by simp [boundsV, idxV]; omega) (Nat.zero_le _) hn
  simpa using this
theorem SlR.lo {P : Program} {h : Heap} {v : Value} {e t : TypeId} {xs : List Value} {n : Nat} (hs : SlR h v e xs) (hu : P.underlying t = some (.slice e)) (hz : szT P e = some 1) (hn : n ≤ xs.length) :
    ∃ v', sliceV P (elemSz P h) t v (some (.int .i64 n)) none none = some v' ∧ SlR h v' e (xs.drop n) ∧ blockOf v' = blockOf v := by
  have := hs.part (lo := some (.int .i64 n)) (hi := none) (l := n) (r := xs.length) hu hz (fun c hc => by simp [boundsV, idxV]; omega) hn (Nat.le_refl _)
  rwa [List.take_of_length_le (by simp)] at this
theorem OwnSl.since {h₀ h₁ h : Heap} {v : Value} {e : TypeId} {xs : List Value} (hs : OwnSl h₁ h v e xs) (hx : h₀.next ≤ h₁.next) : OwnSl h₀ h v e xs := by
  rcases hs with hs | ⟨b, o, c, cs, h1, h2, h3, h4, h5⟩
  · exact .inl hs
  · exact .inr ⟨b, o, c, cs, h1, h2, h3, Nat.le_trans hx h4, h5⟩
theorem SlR.of_own {h₀ h : Heap} {v : Value} {e : TypeId} {xs : List Value} (hs : OwnSl h₀ h v e xs) : SlR h v e xs := by
  rcases hs with hs | ⟨b, o, c, cs, h1, h2, ⟨h3, h3'⟩, h4, h5, h6, h7, h8⟩
  · exact .inl hs
  · exact .inr (.inr ⟨b, o, c, cs, true, h1, h5, h6, h7, .inr ⟨rfl, h3'⟩⟩)
theorem Heap.set_set (h : Heap) (b : Nat) (o o' : AObj) : (h.set b o).set b o' = h.set b o' := by
  refine Heap.ext'' rfl fun c => ?_
  by_cases hc : c = b
  · subst hc
    simp only [Heap.get_set, if_true]
    cases h.get c <;> rfl
  · simp only [Heap.get_set, if_neg hc]
theorem SlR.ne {h : Heap} {v : Value} {e e' : TypeId} {xs cs : List Value} {r b : Nat} {w : Bool} (hs : SlR h v e xs) (hr : h.get r = some (.cells cs e' w)) (hne : e' ≠ e) (hx : xs ≠ []) (hb : blockOf v = some b) : b ≠ r := by
  rcases hs with ⟨rfl, _⟩ | ⟨b', o, rfl, h2⟩ | ⟨b', o, c, cs', rw, rfl, hg, _⟩
  · cases hb
  · exact absurd h2 hx
  · cases hb
    rintro rfl
    rw [hg] at hr
    cases hr
    exact hne rfl
/-- What lies in one block of another kind changes; the slice stays. -/
theorem SlR.set {h : Heap} {v : Value} {e e' : TypeId} {xs cs : List Value} {r : Nat} {w : Bool} {o : AObj} (hs : SlR h v e xs) (hr : h.get r = some (.cells cs e' w)) (hne : e' ≠ e) : SlR (h.set r o) v e xs := by
  rcases hs with hs | hs | ⟨b, o', c, cs', rw, h1, h2, h3⟩
  · exact .inl hs
  · exact .inr (.inl hs)
  · refine .inr (.inr ⟨b, o', c, cs', rw, h1, ?_, h3⟩)
    rw [Heap.get_set_ne _ _ (by rintro rfl; rw [h2] at hr; cases hr; exact hne rfl)]
    exact h2
end Go.Sim
/- Slices of elements of more cells than one. -/
namespace Go.Sim
open Go.RowKit

/-- A slice of values of z cells each. -/
def SlZ (z : Nat) (h : Heap) (v : Value) (e : TypeId) (ys : List (List Value)) : Prop :=
  (v = .slice none 0 0 ∧ ys = []) ∨ (∃ b o, v = .slice (some ⟨b, o, none⟩) 0 dud ∧ ys = []) ∨ ∃ b o c cs rw, v = .slice (some ⟨b, o, none⟩) ys.length c ∧ h.get b = some (.cells cs e rw) ∧ (cs.drop o).take (ys.length * z) = ys.flatten ∧ (∀ y ∈ ys, y.length = z) ∧ ys.length ≤ maxLen
/-- One's own. -/
def OwnZ (z : Nat) (h₀ h : Heap) (v : Value) (e : TypeId) (ys : List (List Value)) : Prop :=
  (v = .slice none 0 0 ∧ ys = []) ∨ ∃ b o c cs, v = .slice (some ⟨b, o, none⟩) ys.length c ∧ c ≠ dud ∧ (c ≠ noapp ∧ (c = unk ∨ (ys.length ≤ c ∧ c ≤ maxLen))) ∧ h₀.next ≤ b ∧ h.get b = some (.cells cs e true) ∧ (cs.drop o).take (ys.length * z) = ys.flatten ∧ (∀ y ∈ ys, y.length = z) ∧ ys.length ≤ maxLen ∧ o + ys.length * z ≤ cs.length
section
variable {z : Nat} {h₀ h h' : Heap} {v : Value} {e : TypeId} {ys : List (List Value)}
theorem OwnZ.at (hs : OwnZ z h₀ h v e ys) : SlZ z h v e ys := by
  rcases hs with hs | ⟨b, o, c, cs, h1, _, _, _, h2, h3, h4, h5, _⟩
  · exact .inl hs
  · exact .inr (.inr ⟨b, o, c, cs, true, h1, h2, h3, h4, h5⟩)
theorem SlZ.form (hs : SlZ z h v e ys) : ∃ a n c, v = .slice a n c := by
  rcases hs with ⟨rfl, _⟩ | ⟨b, o, rfl, _⟩ | ⟨b, o, c, cs, rw, rfl, _⟩
  · exact ⟨_, _, _, rfl⟩
  · exact ⟨_, _, _, rfl⟩
  · exact ⟨_, _, _, rfl⟩
theorem SlZ.of_get (hs : SlZ z h v e ys) (hx : ∀ b cs rw, h.get b = some (.cells cs e rw) → h'.get b = h.get b) : SlZ z h' v e ys := by
  rcases hs with hs | hs | ⟨b, o, c, cs, rw, h1, h2, h3⟩
  · exact .inl hs
  · exact .inr (.inl hs)
  · exact .inr (.inr ⟨b, o, c, cs, rw, h1, (hx b cs rw h2).trans h2, h3⟩)
theorem OwnZ.of_get (hs : OwnZ z h₀ h v e ys) (hx : ∀ b cs rw, h.get b = some (.cells cs e rw) → h'.get b = h.get b) : OwnZ z h₀ h' v e ys := by
  rcases hs with hs | ⟨b, o, c, cs, h1, h2, h3, h4, h5, h6⟩
  · exact .inl hs
  · exact .inr ⟨b, o, c, cs, h1, h2, h3, h4, (hx b cs true h5).trans h5, h6⟩
theorem SlZ.ext (hs : SlZ z h v e ys) (hx : Ext h h') : SlZ z h' v e ys := hs.of_get fun b _ _ hb => hx.get b (h.wf _ _ hb)
theorem OwnZ.ext (hs : OwnZ z h₀ h v e ys) (hx : Ext h h') : OwnZ z h₀ h' v e ys := hs.of_get fun b _ _ hb => hx.get b (h.wf _ _ hb)
theorem flat_len_z (hz : ∀ y ∈ ys, y.length = z) : ys.flatten.length = ys.length * z := by
  induction ys with
  | nil => simp
  | cons y r ih =>
    rw [List.flatten_cons, List.length_append, hz y List.mem_cons_self, ih fun y hy => hz y (List.mem_cons_of_mem _ hy), List.length_cons, Nat.succ_mul]
    omega
theorem flat_drop_z (hz : ∀ y ∈ ys, y.length = z) : ∀ {i : Nat} (hi : i < ys.length), (ys.flatten.drop (i * z)).take z = ys[i] := by
  induction ys with
  | nil => intro i hi; simp at hi
  | cons y r ih =>
    intro i hi
    have hy := hz y List.mem_cons_self
    cases i with
    | zero =>
      rw [Nat.zero_mul, List.drop_zero, List.flatten_cons, ← hy, List.take_left']
      · rfl
      · rfl
    | succ i =>
      have := ih (fun y hy => hz y (List.mem_cons_of_mem _ hy)) (i := i) (by simpa using hi)
      rw [List.flatten_cons, Nat.succ_mul, Nat.add_comm, ← List.drop_drop, ← hy, List.drop_left' rfl, hy]
      exact this
end
/-- What a slice answers. -/
theorem SlZ.view {P : Program} {z : Nat} {h : Heap} {v : Value} {e t e' : TypeId} {ys : List (List Value)} (hs : SlZ z h v e ys) (hu : P.underlying t = some (.slice e')) (hz : szT P e' = some z) (h0 : 0 < z) :
    ∃ b o cs rw, lenV P t v = some (goInt ys.length) ∧ (∀ (k : IntKind) (i : Int), (0 ≤ i ∧ i < ys.length) → indexAddrV P t v (.int k i) = some (.pointer (some ⟨b, o + i.toNat * z, none⟩))) ∧
      (0 < ys.length → h.get b = some (.cells cs e rw)) ∧ (∀ j (hj : j < ys.length), (cs.drop (o + j * z)).take z = ys[j] ∧ ys[j].length = z ∧ o + j * z + z ≤ cs.length) ∧ ys.length ≤ maxLen ∧ (0 < ys.length → b < h.next) := by
  rcases hs with ⟨rfl, rfl⟩ | ⟨b, o, rfl, rfl⟩ | ⟨b, o, c, cs, rw, rfl, hb, ht, hl, hm⟩
  · exact ⟨0, 0, [], true, by unfold lenV; rw [hu]; rfl, fun k i hi => by simp at hi; omega, by simp, by simp, by simp, by simp⟩
  · exact ⟨0, 0, [], true, by unfold lenV; rw [hu]; rfl, fun k i hi => by simp at hi; omega, by simp, by simp, by simp, by simp⟩
  · refine ⟨b, o, cs, rw, by unfold lenV; rw [hu], fun k i hi => ?_, fun _ => hb, fun j hj => ?_, hm, fun _ => h.wf _ _ hb⟩
    · rw [indexAddr_slice hu hz, if_pos hi]
    · have hy := hl ys[j] (List.getElem_mem hj)
      have hle : (j + 1) * z ≤ ys.length * z := Nat.mul_le_mul_right _ hj
      rw [Nat.succ_mul] at hle
      have h1 := flat_drop_z hl hj
      rw [← ht, List.drop_take, List.take_take, List.drop_drop, Nat.min_eq_left (by omega)] at h1
      refine ⟨h1, hy, ?_⟩
      have h2 := congrArg List.length h1
      rw [hy, List.length_take, List.length_drop] at h2
      omega
theorem srcV_z {P : Program} {z : Nat} {t2 e e2 : TypeId} {h : Heap} {x : Value} {ys : List (List Value)} (hu : P.underlying t2 = some (.slice e2)) (hx : SlZ z h x e ys) (h0 : 0 < z) (h1 : ys.flatten.all Value.oneCell' = true) : srcV P z t2 h x = some (ys.length, ys.flatten) := by
  unfold srcV
  rw [hu]
  rcases hx with ⟨rfl, rfl⟩ | ⟨b, o, rfl, rfl⟩ | ⟨b, o, c, cs, rw, rfl, hb, ht, hl, _⟩
  · rfl
  · rfl
  · simp only
    by_cases hn : ys = []
    · subst hn; rfl
    · have hp : 0 < ys.length := List.length_pos_iff.2 hn
      rw [if_neg (by omega), hb]
      have h2 := congrArg List.length ht
      rw [flat_len_z hl, List.length_take, List.length_drop] at h2
      have h3 : 0 < ys.length * z := Nat.mul_pos hp h0
      simp only
      rw [ht, if_pos ⟨by omega, h1⟩]
def appZ (P : Program) (z : Nat) (t t2 e e2 : TypeId) (b : Nat) : Bool := match P.underlying t, P.underlying t2, P.info? e with
  | some (.slice x), some (.slice y), some i => x == e && y == e2 && i.size == z && i.bytes == b && (zeroCellsT P e).isSome && decide (0 < z)
  | _, _, _ => false
theorem append_z {P : Program} {z : Nat} {t t2 e e2 : TypeId} {bb : Nat} {h₀ h : Heap} {s x : Value} {xs ys : List (List Value)} {K : Value → Heap → Prop} (hok : appZ P z t t2 e e2 bb = true)
    (hs : OwnZ z h₀ h s e xs) (hx : SlZ z h x e ys) (hyz : ∀ y ∈ ys, y.length = z) (h1 : ys.flatten.all Value.oneCell' = true) (hlen : (xs.length + ys.length) * bb ≤ 140737488355328) (hm : xs.length + ys.length ≤ maxLen) (h0 : Ext h₀ h)
    (hK : ∀ v' h', OwnZ z h₀ h' v' e (xs ++ ys) → Ext h₀ h' → h.next ≤ h'.next → (∀ c, c < h.next → blockOf s ≠ some c → h'.get c = h.get c) → (blockOf v' = blockOf s ∨ blockOf v' = some h.next) → K v' h') : appWp P [t, t2] h s x K := by
  unfold appZ at hok
  split at hok
  case h_2 => cases hok
  rename_i x' y' i hu hu2 hi
  simp only [Bool.and_eq_true, beq_iff_eq, decide_eq_true_eq] at hok
  obtain ⟨⟨⟨⟨⟨rfl, rfl⟩, hsz⟩, hb⟩, hz⟩, h0z⟩ := hok
  unfold appWp appendV
  simp only [hu, hi]
  cases hzz : zeroCellsT P x' with
  | none => rw [hzz] at hz; cases hz
  | some zc =>
    simp only [hsz, srcV_z hu2 hx h0z h1]
    rw [← hb] at hlen
    have hs0 := hs
    rcases hs with ⟨rfl, rfl⟩ | ⟨b, o, c, cs, rfl, hc1, hc2, hb0, hg, ht, hl, hml, hle2⟩
    · simp only
      by_cases hy : ys.length = 0
      · rw [if_pos hy]
        have hy' : ys = [] := List.length_eq_zero_iff.1 hy
        subst hy'
        exact hK _ _ hs0 h0 (Nat.le_refl _) (fun _ _ _ => rfl) (.inl rfl)
      · rw [if_neg hy, if_pos ⟨by simpa using hm, by simpa using hlen⟩]
        refine hK _ _ (.inr ⟨h.next, 0, unk, ys.flatten, rfl, by decide, ⟨by decide, .inl rfl⟩, h0.le, Heap.get_push_self _ _, ?_, by simpa using hyz, by simpa using hm, ?_⟩) (h0.push _) (by simp) (fun c hc _ => Heap.get_push_ne _ _ (by omega)) (.inr rfl)
        · rw [List.nil_append, List.drop_zero]; exact List.take_of_length_le (by rw [flat_len_z hyz]; exact Nat.le_refl _)
        · rw [List.nil_append, flat_len_z hyz]; omega
    · simp only
      by_cases hy : ys.length = 0
      · rw [if_pos hy]
        have hy' : ys = [] := List.length_eq_zero_iff.1 hy
        subst hy'
        exact hK _ _ (by simpa using hs0) h0 (Nat.le_refl _) (fun _ _ _ => rfl) (.inl rfl)
      · rw [if_neg hy, if_neg (by simp [hc1, hc2]), if_pos ⟨hm, hlen⟩, hg]
        have hz1 : szT P x' = some z := by unfold szT; rw [hi]; simp [hsz]
        simp only
        have hall : ∀ y ∈ xs ++ ys, y.length = z := by
          intro y hy
          rcases List.mem_append.1 hy with hy | hy
          · exact hl y hy
          · exact hyz y hy
        have hfl : (cs.drop o).take (xs.length * z) ++ ys.flatten = (xs ++ ys).flatten := by rw [ht, List.flatten_append]
        have key : ∀ h2 : Heap, h.next = h2.next → Ext h₀ h2 → (∀ c, c < h.next → c ≠ b → h2.get c = h.get c) → K (sliceOfNew (xs.length + ys.length) unk h2.next) (h2.push (.cells ((cs.drop o).take (xs.length * z) ++ ys.flatten) x' true)) := by
          intro h2 hn hx2 hg2
          rw [hfl]
          refine hK _ _ (.inr ⟨h2.next, 0, unk, (xs ++ ys).flatten, by simp [sliceOfNew], by decide, ⟨by decide, .inl rfl⟩, hx2.le, Heap.get_push_self _ _, ?_, hall, by simpa using hm, ?_⟩) (hx2.push _) (by simp; omega) (fun c hc hne => ?_) (.inr (by simp [sliceOfNew, blockOf, hn]))
          · rw [List.drop_zero]; exact List.take_of_length_le (by rw [flat_len_z hall]; exact Nat.le_refl _)
          · rw [flat_len_z hall]; omega
          · rw [Heap.get_push_ne _ _ (by omega)]
            exact hg2 c hc (by rintro rfl; exact hne rfl)
        rw [if_pos ⟨hle2, hz1, trivial⟩]
        split
        · exact key h rfl h0 (fun _ _ _ => rfl)
        · exact key (h.kill b) rfl (h0.kill hb0) (fun c _ hne => Heap.get_kill_ne h hne)
theorem withV_part {P : Program} {h : Heap} {v : Value} {e t : TypeId} {xs : List Value} {lo hi : Option Value} {K : Value → Prop} {l r : Nat} (hs : SlR h v e xs) (hu : P.underlying t = some (.slice e)) (hz : szT P e = some 1)
    (hb : ∀ c, xs.length ≤ c → boundsV xs.length c lo hi none = some (l, r, none)) (hl : l ≤ r) (hr : r ≤ xs.length) (hK : ∀ v', SlR h v' e ((xs.drop l).take (r - l)) → K v') : withV (sliceV P (elemSz P h) t v lo hi none) K := by
  obtain ⟨v', E, S, _⟩ := hs.part hu hz hb hl hr
  rw [E]
  exact hK v' S
theorem withV_lo {P : Program} {h : Heap} {v : Value} {e t : TypeId} {xs : List Value} {K : Value → Prop} {n : Nat} (hs : SlR h v e xs) (hu : P.underlying t = some (.slice e)) (hz : szT P e = some 1) (hn : n ≤ xs.length)
    (hK : ∀ v', SlR h v' e (xs.drop n) → K v') : withV (sliceV P (elemSz P h) t v (some (.int .i64 n)) none none) K := by
  obtain ⟨v', E, S, _⟩ := hs.lo hu hz hn
  rw [E]
  exact hK v' S
theorem withV_hi {P : Program} {h : Heap} {v : Value} {e t : TypeId} {xs : List Value} {K : Value → Prop} {n : Nat} (hs : SlR h v e xs) (hu : P.underlying t = some (.slice e)) (hz : szT P e = some 1) (hn : n ≤ xs.length)
    (hK : ∀ v', SlR h v' e (xs.take n) → K v') : withV (sliceV P (elemSz P h) t v none (some (.int .i64 n)) none) K := by
  obtain ⟨v', E, S, _⟩ := hs.hi hu hz hn
  rw [E]
  exact hK v' S
theorem withV_both {P : Program} {h : Heap} {v : Value} {e t : TypeId} {xs : List Value} {K : Value → Prop} {l r : Nat} (hs : SlR h v e xs) (hu : P.underlying t = some (.slice e)) (hz : szT P e = some 1) (hl : l ≤ r) (hr : r ≤ xs.length)
    (hK : ∀ v', SlR h v' e ((xs.drop l).take (r - l)) → K v') : withV (sliceV P (elemSz P h) t v (some (.int .i64 l)) (some (.int .i64 r)) none) K :=
  withV_part hs hu hz (fun c hc => by simp [boundsV, idxV]; omega) hl hr hK
/-- A part of a row reads as its value. -/
theorem part_z {P : Program} {t : TypeId} {n : Nat} {cs : List Value} {o : Nat} {y : List Value} (ha : aggT P t = true) (hs : szT P t = some n) (h1 : (cs.drop o).take n = y) (h2 : o + n ≤ cs.length) : partV P t cs o = some (.agg y.toArray) := by
  rw [part_agg ha hs, if_pos h2, h1]
theorem get_z {cs : List Value} {o n k : Nat} {y : List Value} (h1 : (cs.drop o).take n = y) (hk : k < n) : cs[o + k]? = y[k]? := by
  rw [← h1, List.getElem?_take, if_pos hk, List.getElem?_drop]
end Go.Sim
/- Deep values: what they are, and how they stand to the abstract ones. -/
namespace Go.Sim
open Go.RowKit

/-- A value that carries its contents, in one cell: a scalar, or a slice that nobody writes. -/
inductive PV where
  | v (x : Value)
  | sl (z : Nat) (rows : List (List PV))
inductive DV where
  | p (x : PV)
  | ptr (id off : Nat)
  | ep (id i off tot : Nat)
  | dp (row : List PV) (off : Nat)
  | ref (id lo n tot : Nat)
  | aref (id off n : Nat)
  | fn (f : FuncId) (pre cap : List DV)
  | agg (xs : List DV)
  | tup (xs : List DV)
/-- An object: a variable; a list of one's own; one that is no longer written; nothing. -/
inductive Obj where
  | st (cells : List DV)
  | li (e : Option TypeId) (rows : List (List PV))
  | fz (e : Option TypeId) (rows : List (List PV))
  | dead

inductive All2 {α β : Type} (R : α → β → Prop) : List α → List β → Prop
  | nil : All2 R [] []
  | cons {a : α} {b : β} {l : List α} {m : List β} (h : R a b) (t : All2 R l m) : All2 R (a :: l) (b :: m)
namespace All2
variable {α β : Type} {R R' : α → β → Prop}
theorem mono {l : List α} {m : List β} (h : All2 R l m) (hr : ∀ a b, R a b → R' a b) : All2 R' l m := by
  induction h with
  | nil => exact .nil
  | cons h _ ih => exact .cons (hr _ _ h) ih
theorem length {l : List α} {m : List β} (h : All2 R l m) : l.length = m.length := by
  induction h with
  | nil => rfl
  | cons _ _ ih => simp [ih]
theorem get {l : List α} {m : List β} (h : All2 R l m) : ∀ {i : Nat} {a : α}, l[i]? = some a → ∃ b, m[i]? = some b ∧ R a b := by
  induction h with
  | nil => intro i a e; simp at e
  | cons h _ ih =>
    intro i a e
    cases i with
    | zero => simp at e; subst e; exact ⟨_, rfl, h⟩
    | succ i => simp at e; simpa using ih e
theorem get' {l : List α} {m : List β} (h : All2 R l m) : ∀ {i : Nat} {b : β}, m[i]? = some b → ∃ a, l[i]? = some a ∧ R a b := by
  induction h with
  | nil => intro i a e; simp at e
  | cons h _ ih =>
    intro i a e
    cases i with
    | zero => simp at e; subst e; exact ⟨_, rfl, h⟩
    | succ i => simp at e; simpa using ih e
theorem of_get : ∀ {l : List α} {m : List β}, l.length = m.length → (∀ (i : Nat) a b, l[i]? = some a → m[i]? = some b → R a b) → All2 R l m
  | [], [], _, _ => .nil
  | a :: l, b :: m, hl, h => .cons (h 0 a b rfl rfl) (of_get (by simpa using hl) fun i a b ha hb => h (i + 1) a b (by simpa using ha) (by simpa using hb))
  | [], _ :: _, hl, _ => by simp at hl
  | _ :: _, [], hl, _ => by simp at hl
theorem append {l l' : List α} {m m' : List β} (h : All2 R l m) (k : All2 R l' m') : All2 R (l ++ l') (m ++ m') := by
  induction h with
  | nil => exact k
  | cons h _ ih => exact .cons h ih
theorem take {l : List α} {m : List β} (h : All2 R l m) : ∀ n, All2 R (l.take n) (m.take n) := by
  induction h with
  | nil => intro n; simpa using All2.nil
  | cons h _ ih => intro n; cases n with
    | zero => exact .nil
    | succ n => exact .cons h (ih n)
theorem drop {l : List α} {m : List β} (h : All2 R l m) : ∀ n, All2 R (l.drop n) (m.drop n) := by
  induction h with
  | nil => intro n; simpa using All2.nil
  | cons h t ih => intro n; cases n with
    | zero => exact .cons h t
    | succ n => exact ih n
theorem set {l : List α} {m : List β} (h : All2 R l m) {a : α} {b : β} (hv : R a b) : ∀ i, All2 R (l.set i a) (m.set i b) := by
  induction h with
  | nil => intro n; exact .nil
  | cons h t ih => intro n; cases n with
    | zero => exact .cons hv t
    | succ n => exact .cons h (ih n)
end All2

/-- What slicing and appending ask of a capacity. -/
def CapOk (P : Program) (c n : Nat) (rw : Bool) (e : TypeId) (z : Nat) : Prop := c = noapp ∨ (rw = true ∧ szT P e = some z ∧ (c = unk ∨ (n ≤ c ∧ c ≤ maxLen)))
theorem CapOk.nodud {P : Program} {c n z : Nat} {rw : Bool} {e : TypeId} (h : CapOk P c n rw e z) : c ≠ dud := by
  have h1 : dud > maxLen := by decide
  have h2 : noapp ≠ dud := by decide
  have h3 : unk ≠ dud := by decide
  rcases h with rfl | ⟨_, _, rfl | ⟨_, h⟩⟩
  · exact h2
  · exact h3
  · omega

/-- A value of one cell that tells of no place. -/
def scal : Value → Bool
  | .tuple _ => false
  | x => constOk x
theorem scal_const {x : Value} (h : scal x = true) : constOk x = true := by
  unfold scal at h
  split at h
  · cases h
  · exact h
theorem scal_one {x : Value} (h : scal x = true) : x.oneCell' = true := by
  cases x <;> first | rfl | (simp [scal, constOk] at h)
/-- A deep value, and the abstract one; S are the blocks that nobody writes. -/
inductive PR (P : Program) (S : Nat → Prop) (h : Heap) : PV → Value → Prop
  | v {x : Value} (hx : scal x = true) : PR P S h (.v x) x
  | nil {z : Nat} : PR P S h (.sl z []) (.slice none 0 0)
  | dud {z b o : Nat} : PR P S h (.sl z []) (.slice (some ⟨b, o, none⟩) 0 Sim.dud)
  | sl {rows : List (List PV)} {b o c z : Nat} {cs : List Value} {e : TypeId} {rw : Bool} (hS : S b) (hb : h.get b = some (.cells cs e rw)) (h0 : 0 < z) (hl : o + rows.length * z ≤ cs.length)
      (hz : ∀ (i : Nat) (r : List PV), rows[i]? = some r → r.length = z)
      (hr : ∀ (i : Nat) (r : List PV) (j : Nat) (x : PV) (u : Value), rows[i]? = some r → r[j]? = some x → cs[o + i * z + j]? = some u → PR P S h x u)
      (hc : CapOk P c rows.length rw e z) (hm : rows.length ≤ maxLen) : PR P S h (.sl z rows) (.slice (some ⟨b, o, none⟩) rows.length c)

theorem PR.mono {P : Program} {S S' : Nat → Prop} {h h' : Heap} (hs : ∀ b, S b → S' b ∧ h'.get b = h.get b) {x : PV} {v : Value} (hx : PR P S h x v) : PR P S' h' x v := by
  induction hx with
  | v hx => exact .v hx
  | nil => exact .nil
  | dud => exact .dud
  | sl hS hb h0 hl hz _ hc hm ih => exact .sl (hs _ hS).1 ((hs _ hS).2.trans hb) h0 hl hz ih hc hm
theorem PR.one {P : Program} {S : Nat → Prop} {h : Heap} {x : PV} {v : Value} (hx : PR P S h x v) : v.oneCell' = true := by
  cases hx with
  | v hx => exact scal_one hx
  | nil => rfl
  | dud => rfl
  | sl => rfl
theorem PR.scal {P : Program} {S : Nat → Prop} {h : Heap} {x v : Value} (hx : PR P S h (.v x) v) : v = x := by
  cases hx; rfl

/-! ### Values -/
/-- Where objects lie: the block, and where in it a list begins. -/
abbrev Pl := Nat → Option (Nat × Nat)
/-- A list's slice. -/
def RefV (P : Program) (γ : Pl) (z id lo n tot : Nat) (v : Value) : Prop :=
  (v = .slice none 0 0 ∧ tot = 0 ∧ γ id = none) ∨ (∃ b o c, v = .slice (some ⟨b, o, none⟩) 0 c ∧ n = 0 ∧ 0 < tot) ∨
  ∃ b o c, γ id = some (b, o) ∧ v = .slice (some ⟨b, o + lo * z, none⟩) n c ∧ c ≠ dud ∧ c ≠ noapp ∧ (c = unk ∨ (n ≤ c ∧ c ≤ maxLen))
/-- How many cells an element has. -/
def Obj.isList : Obj → List (List PV) → Prop
  | .li _ r, rows => r = rows
  | .fz _ r, rows => r = rows
  | _, _ => False
def DB (P : Program) (S : Nat → Prop) (γ : Pl) (L : List Obj) (h : Heap) : DV → Value → Prop
  | .p x, v => PR P S h x v
  | .ptr id off, v => ∃ b, γ id = some (b, 0) ∧ (∃ c, L[id]? = some (.st c)) ∧ v = .pointer (some ⟨b, off, none⟩)
  | .ep id i off tot, v => id < L.length ∧ v.oneCell' = true ∧ ∀ o rows, L[id]? = some o → o.isList rows → tot ≤ rows.length ∧ (rows.length = tot → i < tot ∧ ∀ z, (∀ r ∈ rows, r.length = z) → ∃ b o, γ id = some (b, o) ∧ v = .pointer (some ⟨b, o + i * z + off, none⟩))
  | .dp row off, v => ∃ b o cs e rw, S b ∧ h.get b = some (.cells cs e rw) ∧ v = .pointer (some ⟨b, o + off, none⟩) ∧ o + row.length ≤ cs.length ∧ ∀ (j : Nat) (x : PV) (u : Value), row[j]? = some x → cs[o + j]? = some u → PR P S h x u
  | .ref id lo n tot, v => id < L.length ∧ v.oneCell' = true ∧ ∀ o rows, L[id]? = some o → o.isList rows → tot ≤ rows.length ∧ (rows.length = tot → lo + n ≤ tot ∧ ∀ z, (∀ r ∈ rows, r.length = z) → RefV P γ z id lo n tot v)
  | .aref id off n, v => ∃ b, γ id = some (b, 0) ∧ (∃ c, L[id]? = some (.st c)) ∧ v = .slice (some ⟨b, off, none⟩) n noapp
  | _, _ => False
/-- In one cell. -/
def DC (P : Program) (S : Nat → Prop) (γ : Pl) (L : List Obj) (h : Heap) : DV → Value → Prop
  | .fn f pre cap, v => ∃ as bs : Array Value, v = .func (.func f) as bs ∧ All2 (DB P S γ L h) pre as.toList ∧ All2 (DB P S γ L h) cap bs.toList
  | d, v => DB P S γ L h d v
def D1 (P : Program) (S : Nat → Prop) (γ : Pl) (L : List Obj) (h : Heap) : DV → Value → Prop
  | .agg xs, v => ∃ vs : Array Value, v = .agg vs ∧ All2 (DC P S γ L h) xs vs.toList
  | d, v => DC P S γ L h d v
def DR (P : Program) (S : Nat → Prop) (γ : Pl) (L : List Obj) (h : Heap) : DV → Value → Prop
  | .tup xs, v => ∃ vs : Array Value, v = .tuple vs ∧ All2 (D1 P S γ L h) xs vs.toList
  | d, v => D1 P S γ L h d v
end Go.Sim
/- Deep values: objects, and what changes of them. -/
namespace Go.Sim
open Go.RowKit

def Obj.owns : Obj → Bool
  | .st _ => true
  | .li (some _) _ => true
  | _ => false
/-- How a function was entered: how many blocks there were; which it may write; which it may read; where the objects are that it was given. -/
structure Ent where
  start : Nat
  W : Nat → Prop
  A : Nat → Prop
  pin : Nat → Nat → Prop
  cnt : Nat
  few : ∀ id b, pin id b → id < cnt
  sub : ∀ b, W b → A b
/-- A block that no object is written through. -/
def Free (W0 : Ent) (γ : Pl) (L : List Obj) (h : Heap) (b : Nat) : Prop := b < h.next ∧ (W0.start ≤ b ∨ W0.A b) ∧ ∀ id o x, L[id]? = some o → o.owns = true → γ id ≠ some (b, x)
/-- A list's rows lie in a block. -/
def Rows (P : Program) (S : Nat → Prop) (h : Heap) (b o : Nat) (e : TypeId) (rows : List (List PV)) : Prop :=
  ∃ cs z, h.get b = some (.cells cs e true) ∧ szT P e = some z ∧ 0 < z ∧ o + rows.length * z ≤ cs.length ∧ rows.length ≤ maxLen ∧ (∀ r ∈ rows, r.length = z) ∧
    ∀ (i : Nat) (r : List PV) (j : Nat) (x : PV) (u : Value), rows[i]? = some r → r[j]? = some x → cs[o + i * z + j]? = some u → PR P S h x u
def OR (P : Program) (S : Nat → Prop) (γ : Pl) (L : List Obj) (h : Heap) (id : Nat) : Obj → Prop
  | .st cells => ∃ b e vs, γ id = some (b, 0) ∧ h.get b = some (.cells vs e true) ∧ All2 (DC P S γ L h) cells vs
  | .li none rows => rows = [] ∧ γ id = none
  | .li (some e) rows => ∃ b o, γ id = some (b, o) ∧ Rows P S h b o e rows
  | .fz none rows => rows = [] ∧ γ id = none
  | .fz (some e) rows => ∃ b o, γ id = some (b, o) ∧ S b ∧ Rows P S h b o e rows
  | .dead => True
/-- Objects and the abstract heap; h0 and W0: the heap at the function's entry, and the blocks it was given. -/
structure Hp (P : Program) (h0 : Heap) (W0 : Ent) (γ : Pl) (L : List Obj) (h : Heap) : Prop where
  start : W0.start = h0.next
  pin : ∀ id b, W0.pin id b → γ id = some (b, 0) ∧ ∃ c, L[id]? = some (.st c)
  obj : ∀ id o, L[id]? = some o → OR P (Free W0 γ L h) γ L h id o
  inj : ∀ id id' o o' b x x', L[id]? = some o → L[id']? = some o' → o.owns = true → o'.owns = true → γ id = some (b, x) → γ id' = some (b, x') → id = id'
  dom : ∀ id x, γ id = some x → id < L.length
  new : ∀ id o b x, L[id]? = some o → o.owns = true → γ id = some (b, x) → h0.next ≤ b ∨ W0.W b
  next : h0.next ≤ h.next
  frame : ∀ b, b < h0.next → ¬ W0.W b → h.get b = h0.get b

theorem OR.lt {P : Program} {S : Nat → Prop} {γ : Pl} {L : List Obj} {h : Heap} {id b x : Nat} {o : Obj} (hs : ∀ b, S b → b < h.next) (ho : OR P S γ L h id o) (hg : γ id = some (b, x)) (hd : o.owns = true) : b < h.next ∧ ∃ cs e, h.get b = some (.cells cs e true) := by
  cases o with
  | st cells =>
    obtain ⟨b', e, vs, h1, h2, _⟩ := ho
    rw [hg] at h1; cases h1
    exact ⟨h.wf _ _ h2, _, _, h2⟩
  | li e rows =>
    cases e with
    | none => cases hd
    | some e =>
      obtain ⟨b', o, h1, cs, z, h2, _⟩ := ho
      rw [hg] at h1; cases h1
      exact ⟨h.wf _ _ h2, _, _, h2⟩
  | fz e rows => cases hd
  | dead => cases hd

/-- What told of values tells of them still. -/
structure Carry (W0 : Ent) (γ : Pl) (L : List Obj) (h : Heap) (γ' : Pl) (L' : List Obj) (h' : Heap) : Prop where
  free : ∀ b, Free W0 γ L h b → Free W0 γ' L' h' b ∧ h'.get b = h.get b
  len : L.length ≤ L'.length
  st : ∀ id b, γ id = some (b, 0) → (∃ c, L[id]? = some (.st c)) → γ' id = some (b, 0) ∧ ∃ c, L'[id]? = some (.st c)
  li : ∀ id o' rows', id < L.length → L'[id]? = some o' → o'.isList rows' → ∃ o rows, L[id]? = some o ∧ o.isList rows ∧ rows.length ≤ rows'.length ∧
    (rows'.length = rows.length → γ' id = γ id ∧ ∀ z, (∀ r ∈ rows', r.length = z) → ∀ r ∈ rows, r.length = z)

section
variable {P : Program} {W0 : Ent} {γ γ' : Pl} {L L' : List Obj} {h h' : Heap}
theorem Carry.pr (c : Carry W0 γ L h γ' L' h') {x : PV} {v : Value} (hx : PR P (Free W0 γ L h) h x v) : PR P (Free W0 γ' L' h') h' x v := hx.mono c.free
theorem Carry.db (c : Carry W0 γ L h γ' L' h') {d : DV} {v : Value} (hd : DB P (Free W0 γ L h) γ L h d v) : DB P (Free W0 γ' L' h') γ' L' h' d v := by
  cases d with
  | p x => exact c.pr hd
  | ptr id off =>
    obtain ⟨b, h1, h2, h3⟩ := hd
    obtain ⟨h4, h5⟩ := c.st id b h1 h2
    exact ⟨b, h4, h5, h3⟩
  | aref id off n =>
    obtain ⟨b, h1, h2, h3⟩ := hd
    obtain ⟨h4, h5⟩ := c.st id b h1 h2
    exact ⟨b, h4, h5, h3⟩
  | ep id i off tot =>
    obtain ⟨h1, h2, h3⟩ := hd
    refine ⟨Nat.lt_of_lt_of_le h1 c.len, h2, fun o' rows' e hl => ?_⟩
    obtain ⟨o, rows, e1, e2, e3, e4⟩ := c.li id o' rows' h1 e hl
    obtain ⟨k1, k2⟩ := h3 o rows e1 e2
    refine ⟨Nat.le_trans k1 e3, fun e5 => ?_⟩
    have e6 : rows'.length = rows.length := by omega
    obtain ⟨e7, e8⟩ := e4 e6
    rw [e7]
    obtain ⟨k3, k4⟩ := k2 (by omega)
    exact ⟨k3, fun z hz => k4 z (e8 z hz)⟩
  | dp row off =>
    obtain ⟨b, o, cs, e, rw, h1, h2, h3, h4, h5⟩ := hd
    exact ⟨b, o, cs, e, rw, (c.free b h1).1, (c.free b h1).2.trans h2, h3, h4, fun j x u ex eu => c.pr (h5 j x u ex eu)⟩
  | ref id lo n tot =>
    obtain ⟨h1, h2, h3⟩ := hd
    refine ⟨Nat.lt_of_lt_of_le h1 c.len, h2, fun o' rows' e hl => ?_⟩
    obtain ⟨o, rows, e1, e2, e3, e4⟩ := c.li id o' rows' h1 e hl
    obtain ⟨k1, k2⟩ := h3 o rows e1 e2
    refine ⟨Nat.le_trans k1 e3, fun e5 => ?_⟩
    have e6 : rows'.length = rows.length := by omega
    obtain ⟨e7, e8⟩ := e4 e6
    obtain ⟨k3, k4⟩ := k2 (by omega)
    refine ⟨k3, fun z hz => ?_⟩
    have := k4 z (e8 z hz)
    unfold RefV at this ⊢
    rw [e7]
    exact this
  | fn f pre cap => exact hd.elim
  | agg xs => exact hd.elim
  | tup xs => exact hd.elim
theorem Carry.dc (c : Carry W0 γ L h γ' L' h') {d : DV} {v : Value} (hd : DC P (Free W0 γ L h) γ L h d v) : DC P (Free W0 γ' L' h') γ' L' h' d v := by
  cases d with
  | fn f pre cap =>
    obtain ⟨as, bs, h1, h2, h3⟩ := hd
    exact ⟨as, bs, h1, h2.mono fun _ _ => c.db, h3.mono fun _ _ => c.db⟩
  | agg xs => exact hd.elim
  | tup xs => exact hd.elim
  | p x => exact c.db (P := P) (d := .p x) hd
  | ptr a b => exact c.db (P := P) (d := .ptr a b) hd
  | ep a b e f => exact c.db (P := P) (d := .ep a b e f) hd
  | dp a b => exact c.db (P := P) (d := .dp a b) hd
  | ref a b e f => exact c.db (P := P) (d := .ref a b e f) hd
  | aref a b e => exact c.db (P := P) (d := .aref a b e) hd
theorem Carry.d1 (c : Carry W0 γ L h γ' L' h') {d : DV} {v : Value} (hd : D1 P (Free W0 γ L h) γ L h d v) : D1 P (Free W0 γ' L' h') γ' L' h' d v := by
  cases d with
  | agg xs =>
    obtain ⟨vs, h1, h2⟩ := hd
    exact ⟨vs, h1, h2.mono fun _ _ => c.dc⟩
  | tup xs => exact hd.elim
  | fn a b e => exact c.dc (P := P) (d := .fn a b e) hd
  | p x => exact c.dc (P := P) (d := .p x) hd
  | ptr a b => exact c.dc (P := P) (d := .ptr a b) hd
  | ep a b e f => exact c.dc (P := P) (d := .ep a b e f) hd
  | dp a b => exact c.dc (P := P) (d := .dp a b) hd
  | ref a b e f => exact c.dc (P := P) (d := .ref a b e f) hd
  | aref a b e => exact c.dc (P := P) (d := .aref a b e) hd
theorem Carry.dr (c : Carry W0 γ L h γ' L' h') {d : DV} {v : Value} (hd : DR P (Free W0 γ L h) γ L h d v) : DR P (Free W0 γ' L' h') γ' L' h' d v := by
  cases d with
  | tup xs =>
    obtain ⟨vs, h1, h2⟩ := hd
    exact ⟨vs, h1, h2.mono fun _ _ => c.d1⟩
  | agg xs => exact c.d1 (P := P) (d := .agg xs) hd
  | fn a b e => exact c.d1 (P := P) (d := .fn a b e) hd
  | p x => exact c.d1 (P := P) (d := .p x) hd
  | ptr a b => exact c.d1 (P := P) (d := .ptr a b) hd
  | ep a b e f => exact c.d1 (P := P) (d := .ep a b e f) hd
  | dp a b => exact c.d1 (P := P) (d := .dp a b) hd
  | ref a b e f => exact c.d1 (P := P) (d := .ref a b e f) hd
  | aref a b e => exact c.d1 (P := P) (d := .aref a b e) hd
theorem Carry.refl (γ : Pl) (L : List Obj) (h : Heap) : Carry W0 γ L h γ L h :=
  ⟨fun _ hb => ⟨hb, rfl⟩, Nat.le_refl _, fun _ _ hb hc => ⟨hb, hc⟩, fun id o' rows' _ e hl => ⟨o', rows', e, hl, Nat.le_refl _, fun _ => ⟨rfl, fun _ hz => hz⟩⟩⟩
theorem Carry.rows (c : Carry W0 γ L h γ' L' h') {b o : Nat} {e : TypeId} {rows : List (List PV)} (hg : h'.get b = h.get b) (hd : Rows P (Free W0 γ L h) h b o e rows) : Rows P (Free W0 γ' L' h') h' b o e rows := by
  obtain ⟨cs, z, h1, h2, h3, h4, h5, h6, h7⟩ := hd
  exact ⟨cs, z, hg.trans h1, h2, h3, h4, h5, h6, fun i r j x u a b d => c.pr (h7 i r j x u a b d)⟩

/-- A new object, on a new block. -/
def plAdd (γ : Pl) (id b : Nat) : Pl := fun i => if i = id then some (b, 0) else γ i
theorem carry_push (hγ : ∀ id x, γ id = some x → id < L.length) (q : AObj) (o : Obj) : Carry W0 γ L h (plAdd γ L.length h.next) (L ++ [o]) (h.push q) := by
  have hne : ∀ id, id < L.length → plAdd γ L.length h.next id = γ id := fun id hi => if_neg (by omega)
  refine ⟨fun b hb => ⟨⟨by have := hb.1; simp; omega, hb.2.1, fun id o' x e ho hg => ?_⟩, Heap.get_push_ne _ _ (by have := hb.1; omega)⟩, by simp, fun id b e ⟨c, hc⟩ => ?_, fun id o' rows' hi e hl => ?_⟩
  · by_cases hi : id < L.length
    · rw [List.getElem?_append_left hi] at e
      rw [hne id hi] at hg
      exact hb.2.2 id o' x e ho hg
    · by_cases h2 : id = L.length
      · subst h2
        simp [plAdd] at hg
        have := hb.1
        omega
      · rw [List.getElem?_eq_none (by simp; omega)] at e
        cases e
  · have hi := hγ id _ e
    rw [hne id hi, List.getElem?_append_left hi]
    exact ⟨e, c, hc⟩
  · rw [List.getElem?_append_left hi] at e
    exact ⟨o', rows', e, hl, Nat.le_refl _, fun _ => ⟨hne id hi, fun _ hz => hz⟩⟩
/-- An object that lies nowhere yet. -/
theorem carry_virtual (o : Obj) (ho : o.owns = false) : Carry W0 γ L h γ (L ++ [o]) h := by
  refine ⟨fun b hb => ⟨⟨hb.1, hb.2.1, fun id o' x e ho' hg => ?_⟩, rfl⟩, by simp, fun id b e ⟨c, hc⟩ => ⟨e, c, ?_⟩, fun id o' rows' hi e hl => ?_⟩
  · by_cases hi : id < L.length
    · rw [List.getElem?_append_left hi] at e
      exact hb.2.2 id o' x e ho' hg
    · by_cases h2 : id = L.length
      · subst h2
        simp at e; subst e
        rw [ho] at ho'; cases ho'
      · rw [List.getElem?_eq_none (by simp; omega)] at e
        cases e
  · rw [List.getElem?_append_left (List.getElem?_eq_some_iff.1 hc).1]; exact hc
  · rw [List.getElem?_append_left hi] at e
    exact ⟨o', rows', e, hl, Nat.le_refl _, fun _ => ⟨rfl, fun _ hz => hz⟩⟩
end
end Go.Sim
/- Deep values: objects made, written, appended to, given up. -/
namespace Go.Sim
open Go.RowKit
section
variable {P : Program} {h0 : Heap} {W0 : Ent} {γ : Pl} {L : List Obj} {h : Heap}

/-- Objects other than the changed one stay. -/
theorem Hp.others {γ' : Pl} {L' : List Obj} {h' : Heap} (H : Hp P h0 W0 γ L h) (c : Carry W0 γ L h γ' L' h') {id : Nat} {o : Obj} (hi : L[id]? = some o) (hg : γ' id = γ id) (hb : ∀ b x, γ id = some (b, x) → o.owns = true → h'.get b = h.get b) : OR P (Free W0 γ' L' h') γ' L' h' id o := by
  have ho := H.obj id o hi
  cases o with
  | st cells =>
    obtain ⟨b, e, vs, h1, h2, h3⟩ := ho
    exact ⟨b, e, vs, hg.trans h1, (hb b 0 h1 rfl).trans h2, h3.mono fun _ _ => c.dc⟩
  | li e rows =>
    cases e with
    | none => exact ⟨ho.1, hg.trans ho.2⟩
    | some e =>
      obtain ⟨b, o, h1, h2⟩ := ho
      exact ⟨b, o, hg.trans h1, c.rows (hb b o h1 rfl) h2⟩
  | fz e rows =>
    cases e with
    | none => exact ⟨ho.1, hg.trans ho.2⟩
    | some e =>
      obtain ⟨b, o, h1, h2, h3⟩ := ho
      exact ⟨b, o, hg.trans h1, (c.free b h2).1, c.rows (c.free b h2).2 h3⟩
  | dead => trivial
theorem getElem?_snoc {α : Type} {l : List α} {a b : α} {i : Nat} (h : (l ++ [a])[i]? = some b) : (i < l.length ∧ l[i]? = some b) ∨ (i = l.length ∧ a = b) := by
  by_cases hi : i < l.length
  · rw [List.getElem?_append_left hi] at h; exact .inl ⟨hi, h⟩
  · by_cases h2 : i = l.length
    · subst h2; simp at h; exact .inr ⟨rfl, h⟩
    · rw [List.getElem?_eq_none (by simp; omega)] at h; cases h
theorem Hp.push (H : Hp P h0 W0 γ L h) {q : AObj} {o : Obj} (hn : OR P (Free W0 (plAdd γ L.length h.next) (L ++ [o]) (h.push q)) (plAdd γ L.length h.next) (L ++ [o]) (h.push q) L.length o) :
    Hp P h0 W0 (plAdd γ L.length h.next) (L ++ [o]) (h.push q) := by
  have c := carry_push (W0 := W0) (h := h) H.dom q o
  have hne : ∀ id, id < L.length → plAdd γ L.length h.next id = γ id := fun id hi => if_neg (by omega)
  have hlt : ∀ id o b x, L[id]? = some o → o.owns = true → γ id = some (b, x) → b < h.next := fun id o b x e e2 e3 => (OR.lt (fun b hb => hb.1) (H.obj id o e) e3 e2).1
  refine ⟨H.start, fun id b e => (let ⟨a, b'⟩ := H.pin id b e; c.st id b a b'), fun id o' e => ?_, fun id id' o1 o2 b x x' e1 e2 d1 d2 g1 g2 => ?_, fun id x e => ?_, fun id o' b x e d g => ?_, by have := H.next; simp; omega, fun b hb hw => ?_⟩
  · rcases getElem?_snoc e with ⟨hi, e⟩ | ⟨rfl, rfl⟩
    · exact H.others c e (hne id hi) fun b x g d => Heap.get_push_ne _ _ (by have := hlt id o' b x e d g; omega)
    · exact hn
  · rcases getElem?_snoc e1 with ⟨hi1, e1⟩ | ⟨rfl, rfl⟩ <;> rcases getElem?_snoc e2 with ⟨hi2, e2⟩ | ⟨rfl, rfl⟩
    · rw [hne id hi1] at g1
      rw [hne id' hi2] at g2
      exact H.inj id id' o1 o2 b x x' e1 e2 d1 d2 g1 g2
    · rw [hne id hi1] at g1
      have := hlt id o1 b x e1 d1 g1
      simp [plAdd] at g2
      omega
    · rw [hne id' hi2] at g2
      have := hlt id' o2 b x' e2 d2 g2
      simp [plAdd] at g1
      omega
    · rfl
  · unfold plAdd at e
    split at e
    · rename_i hi; simp; omega
    · have := H.dom id x e; simp; omega
  · rcases getElem?_snoc e with ⟨hi, e⟩ | ⟨rfl, rfl⟩
    · rw [hne id hi] at g; exact H.new id o' b x e d g
    · simp [plAdd] at g
      exact .inl (by have := H.next; omega)
  · rw [Heap.get_push_ne _ _ (by have := H.next; omega)]; exact H.frame b hb hw
theorem Hp.virtual (H : Hp P h0 W0 γ L h) {o : Obj} (ho : o.owns = false) (hn : OR P (Free W0 γ (L ++ [o]) h) γ (L ++ [o]) h L.length o) : Hp P h0 W0 γ (L ++ [o]) h := by
  have c := carry_virtual (W0 := W0) (γ := γ) (L := L) (h := h) o ho
  refine ⟨H.start, fun id b e => (let ⟨a, b'⟩ := H.pin id b e; c.st id b a b'), fun id o' e => ?_, fun id id' o1 o2 b x x' e1 e2 d1 d2 g1 g2 => ?_, fun id x e => by have := H.dom id x e; simp; omega, fun id o' b x e d g => ?_, H.next, H.frame⟩
  · rcases getElem?_snoc e with ⟨hi, e⟩ | ⟨rfl, rfl⟩
    · exact H.others c e rfl fun _ _ _ _ => rfl
    · exact hn
  · rcases getElem?_snoc e1 with ⟨hi1, e1⟩ | ⟨rfl, rfl⟩ <;> rcases getElem?_snoc e2 with ⟨hi2, e2⟩ | ⟨rfl, rfl⟩
    · exact H.inj id id' o1 o2 b x x' e1 e2 d1 d2 g1 g2
    · rw [ho] at d2; cases d2
    · rw [ho] at d1; cases d1
    · rfl
  · rcases getElem?_snoc e with ⟨hi, e⟩ | ⟨rfl, rfl⟩
    · exact H.new id o' b x e d g
    · rw [ho] at d; cases d

/-! ### One object changes in its place -/
theorem getElem?_set' {α : Type} {l : List α} {a b : α} {i j : Nat} (h : (l.set i a)[j]? = some b) : (j ≠ i ∧ l[j]? = some b) ∨ (j = i ∧ i < l.length ∧ a = b) := by
  by_cases hi : j = i
  · subst hi
    by_cases hl : j < l.length
    · simp [List.getElem?_set, hl] at h; exact .inr ⟨rfl, hl, h⟩
    · rw [List.getElem?_eq_none (by simp; omega)] at h; cases h
  · rw [List.getElem?_set_ne (Ne.symm hi)] at h; exact .inl ⟨hi, h⟩
/-- An object is written: its block has other contents, or it lies on another block now. -/
theorem carry_write {γ' : Pl} {h' : Heap} {id : Nat} {o o' : Obj} (hi : L[id]? = some o) (hd : o.owns = true ∨ γ id = none) (hγ : ∀ j, j ≠ id → γ' j = γ j)
    (hst : ∀ c, o = .st c → γ' id = γ id ∧ ∃ c', o' = .st c')
    (hli : ∀ rows', o'.isList rows' → ∃ rows, o.isList rows ∧ rows.length ≤ rows'.length ∧ (rows'.length = rows.length → γ' id = γ id ∧ ∀ z, (∀ r ∈ rows', r.length = z) → ∀ r ∈ rows, r.length = z))
    (hn : h.next ≤ h'.next) (hnew : ∀ b x, γ' id = some (b, x) → o'.owns = true → γ id = some (b, x) ∨ h.next ≤ b)
    (hget : ∀ b, b < h.next → (∀ x, γ id ≠ some (b, x)) → h'.get b = h.get b) : Carry W0 γ L h γ' (L.set id o') h' := by
  have hlt : id < L.length := (List.getElem?_eq_some_iff.1 hi).1
  refine ⟨fun b hb => ⟨⟨Nat.lt_of_lt_of_le hb.1 hn, hb.2.1, fun j q x e dq g => ?_⟩, hget b hb.1 fun x hx => hd.elim (fun hd => hb.2.2 id o x hi hd hx) (fun hd => by rw [hd] at hx; cases hx)⟩, by simp, fun j b e ⟨c, hc⟩ => ?_, fun j q rows' hj e hl => ?_⟩
  · rcases getElem?_set' e with ⟨hj, e⟩ | ⟨rfl, _, rfl⟩
    · rw [hγ j hj] at g; exact hb.2.2 j q x e dq g
    · rcases hnew b x g dq with g | g
      · exact hd.elim (fun hd => hb.2.2 j o x hi hd g) (fun hd => by rw [hd] at g; cases g)
      · have := hb.1; omega
  · by_cases hj : j = id
    · subst hj
      rw [hi] at hc; cases hc
      obtain ⟨k1, c', rfl⟩ := hst c rfl
      exact ⟨k1.trans e, c', by simp [List.getElem?_set, hlt]⟩
    · exact ⟨(hγ j hj).trans e, c, by rw [List.getElem?_set_ne (Ne.symm hj)]; exact hc⟩
  · rcases getElem?_set' e with ⟨hj', e⟩ | ⟨rfl, _, rfl⟩
    · exact ⟨q, rows', e, hl, Nat.le_refl _, fun _ => ⟨hγ j hj', fun _ hz => hz⟩⟩
    · obtain ⟨rows, k1, k2, k3⟩ := hli rows' hl
      exact ⟨o, rows, hi, k1, k2, k3⟩
theorem Hp.write {γ' : Pl} {h' : Heap} {id : Nat} {o o' : Obj} (H : Hp P h0 W0 γ L h) (hi : L[id]? = some o) (hd0 : o.owns = true ∨ γ id = none) (c : Carry W0 γ L h γ' (L.set id o') h') (hγ : ∀ j, j ≠ id → γ' j = γ j)
    (hn : h.next ≤ h'.next) (hnew : ∀ b x, γ' id = some (b, x) → (∃ x', γ id = some (b, x')) ∨ h.next ≤ b) (hdom : ∀ x, γ' id = some x → id < L.length)
    (hget : ∀ b, b < h.next → (∀ x, γ id ≠ some (b, x)) → h'.get b = h.get b)
    (ho : OR P (Free W0 γ' (L.set id o') h') γ' (L.set id o') h' id o') : Hp P h0 W0 γ' (L.set id o') h' := by
  have hd : ∀ {b x}, γ id = some (b, x) → o.owns = true := fun g => hd0.elim (fun q => q) (fun q => by rw [q] at g; cases g)
  have hlt : ∀ id o b x, L[id]? = some o → o.owns = true → γ id = some (b, x) → b < h.next := fun id o b x e e2 e3 => (OR.lt (fun b hb => hb.1) (H.obj id o e) e3 e2).1
  refine ⟨H.start, fun id b e => (let ⟨a, b'⟩ := H.pin id b e; c.st id b a b'), fun j q e => ?_, fun j j' o1 o2 b x x' e1 e2 d1 d2 g1 g2 => ?_, fun j x e => ?_, fun j q b x e dq g => ?_, Nat.le_trans H.next hn, fun b hb hw => ?_⟩
  · rcases getElem?_set' e with ⟨hj, e⟩ | ⟨rfl, _, rfl⟩
    · exact H.others c e (hγ j hj) fun b x g d => hget b (hlt j q b x e d g) fun x' g' => hj (H.inj j id q o b x x' e hi d (hd g') g g')
    · exact ho
  · rcases getElem?_set' e1 with ⟨hj1, f1⟩ | ⟨hj1, _, q1⟩ <;> rcases getElem?_set' e2 with ⟨hj2, f2⟩ | ⟨hj2, _, q2⟩
    · rw [hγ j hj1] at g1
      rw [hγ j' hj2] at g2
      exact H.inj j j' o1 o2 b x x' f1 f2 d1 d2 g1 g2
    · rw [hγ j hj1] at g1
      rw [hj2] at g2
      rcases hnew b x' g2 with ⟨x2, g2⟩ | g2
      · rw [hj2]; exact H.inj j id o1 o b x x2 f1 hi d1 (hd g2) g1 g2
      · have := hlt j o1 b x f1 d1 g1; omega
    · rw [hγ j' hj2] at g2
      rw [hj1] at g1
      rcases hnew b x g1 with ⟨x2, g1⟩ | g1
      · rw [hj1]; exact (H.inj j' id o2 o b x' x2 f2 hi d2 (hd g1) g2 g1).symm
      · have := hlt j' o2 b x' f2 d2 g2; omega
    · rw [hj1, hj2]
  · rw [List.length_set]
    by_cases hj : j = id
    · subst hj; exact hdom x e
    · rw [hγ j hj] at e; exact H.dom j x e
  · rcases getElem?_set' e with ⟨hj, e⟩ | ⟨rfl, _, rfl⟩
    · rw [hγ j hj] at g; exact H.new j q b x e dq g
    · rcases hnew b x g with ⟨x2, g⟩ | g
      · exact H.new j o b x2 hi (hd g) g
      · exact .inl (Nat.le_trans H.next g)
  · by_cases hx : ∃ x, γ id = some (b, x)
    · obtain ⟨x, hx⟩ := hx
      rcases H.new id o b x hi (hd hx) hx with k | k
      · omega
      · exact absurd k hw
    · rw [hget b (Nat.lt_of_lt_of_le hb H.next) fun x g => hx ⟨x, g⟩]; exact H.frame b hb hw
end
end Go.Sim
/- Deep values: operations that only reckon. -/
namespace Go.Sim
open Go.RowKit

def dlook (t : Nat) : List (Nat × DV) → Option DV
  | [] => none
  | (t', d) :: l => if t' = t then some d else dlook t l
structure DFrm where
  n : Nat
  c : Nat
  l : List (Nat × DV)
def DFrm.put (a : DFrm) (t : Option Nat) (d : DV) : DFrm := match t with
  | some t => if t < a.n then ⟨a.n, a.c, (t, d) :: a.l⟩ else a
  | none => a
abbrev undD : DV := .tup []
def constD (v : Value) : Option DV := if scal v then some (.p (.v v)) else match v with
  | .tuple xs => if xs.size = 0 then some undD else none
  | _ => none
def DFrm.ev (a : DFrm) : Operand → Option DV
  | .tmp t => dlook t a.l
  | .const v => constD v
  | .func f => some (.fn f [] [])
  | .global _ => none
abbrev DRho := Operand → Option DV
/-- What the operands are. -/
def RhoD (P : Program) (W0 : Ent) (γ : Pl) (L : List Obj) (h : Heap) (ρ : DRho) (r : Rho) : Prop := ∀ x d, ρ x = some d → ∃ v, r x = some v ∧ DR P (Free W0 γ L h) γ L h d v
def allD (ρ : DRho) : List Operand → Option (List DV)
  | [] => some []
  | x :: r => match ρ x, allD ρ r with
    | some v, some vs => some (v :: vs)
    | _, _ => none
def allDP (ρ : DRho) : List (Nat × Operand) → Option (List (Nat × DV))
  | [] => some []
  | (i, x) :: r => match ρ x, allDP ρ r with
    | some v, some vs => some ((i, v) :: vs)
    | _, _ => none
section
variable {P : Program} {W0 : Ent} {γ : Pl} {L : List Obj} {h : Heap} {ρ : DRho} {r : Rho}
theorem allD_sound (hρ : RhoD P W0 γ L h ρ r) : ∀ {xs : List Operand} {ds : List DV}, allD ρ xs = some ds → ∃ vs, allV r xs = some vs ∧ All2 (DR P (Free W0 γ L h) γ L h) ds vs
  | [], ds, e => by cases e; exact ⟨[], rfl, .nil⟩
  | x :: xs, ds, e => by
    unfold allD at e
    cases h1 : ρ x with
    | none => rw [h1] at e; cases e
    | some d =>
      cases h2 : allD ρ xs with
      | none => rw [h1, h2] at e; cases e
      | some ds' =>
        rw [h1, h2] at e
        cases e
        obtain ⟨v, e1, r1⟩ := hρ x d h1
        obtain ⟨vs, e2, r2⟩ := allD_sound hρ h2
        exact ⟨v :: vs, by simp only [allV, e1, e2], .cons r1 r2⟩
theorem allDP_sound (hρ : RhoD P W0 γ L h ρ r) : ∀ {xs : List (Nat × Operand)} {ds : List (Nat × DV)}, allDP ρ xs = some ds → ∃ vs, allP r xs = some vs ∧ All2 (fun d v => d.1 = v.1 ∧ (DR P (Free W0 γ L h) γ L h) d.2 v.2) ds vs
  | [], ds, e => by cases e; exact ⟨[], rfl, .nil⟩
  | (i, x) :: xs, ds, e => by
    unfold allDP at e
    cases h1 : ρ x with
    | none => rw [h1] at e; cases e
    | some d =>
      cases h2 : allDP ρ xs with
      | none => rw [h1, h2] at e; cases e
      | some ds' =>
        rw [h1, h2] at e
        cases e
        obtain ⟨v, e1, r1⟩ := hρ x d h1
        obtain ⟨vs, e2, r2⟩ := allDP_sound hρ h2
        exact ⟨(i, v) :: vs, by simp only [allP, e1, e2], .cons ⟨rfl, r1⟩ r2⟩

/-! ### Cells -/
def cellsD : DV → List DV
  | .agg xs => xs
  | d => [d]
theorem db_one {S : Nat → Prop} {d : DV} {v : Value} (hd : DB P S γ L h d v) : v.oneCell' = true := by
  cases d with
  | p x => exact PR.one hd
  | ptr => obtain ⟨_, _, _, rfl⟩ := hd; rfl
  | aref => obtain ⟨_, _, _, rfl⟩ := hd; rfl
  | ep => exact hd.2.1
  | ref => exact hd.2.1
  | dp => obtain ⟨_, _, _, _, _, _, _, rfl, _⟩ := hd; rfl
  | _ => exact hd.elim
theorem dc_one {S : Nat → Prop} {d : DV} {v : Value} (hd : DC P S γ L h d v) : v.oneCell' = true := by
  cases d with
  | fn => obtain ⟨_, _, rfl, _⟩ := hd; rfl
  | p x => exact db_one (P := P) (S := S) (γ := γ) (L := L) (h := h) (d := .p x) hd
  | ptr a b => exact db_one (P := P) (S := S) (γ := γ) (L := L) (h := h) (d := .ptr a b) hd
  | aref a b c => exact db_one (P := P) (S := S) (γ := γ) (L := L) (h := h) (d := .aref a b c) hd
  | ep a b c e => exact db_one (P := P) (S := S) (γ := γ) (L := L) (h := h) (d := .ep a b c e) hd
  | ref a b c e => exact db_one (P := P) (S := S) (γ := γ) (L := L) (h := h) (d := .ref a b c e) hd
  | dp a b => exact db_one (P := P) (S := S) (γ := γ) (L := L) (h := h) (d := .dp a b) hd
  | agg => exact hd.elim
  | tup => exact hd.elim
theorem one_cells {v : Value} (h : v.oneCell' = true) : v.cells = #[v] := by
  cases v <;> first | rfl | (simp [Value.oneCell'] at h)
theorem d1_of_dc {S : Nat → Prop} {d : DV} {v : Value} (hd : DC P S γ L h d v) : D1 P S γ L h d v := by
  cases d <;> first | exact hd | exact hd.elim
theorem dr_of_d1 {S : Nat → Prop} {d : DV} {v : Value} (hd : D1 P S γ L h d v) : DR P S γ L h d v := by
  cases d <;> first | exact hd | exact hd.elim
theorem dc_of_d1 {S : Nat → Prop} {d : DV} {v : Value} (hd : D1 P S γ L h d v) (ha : ∀ xs, d ≠ .agg xs) : DC P S γ L h d v := by
  cases d <;> first | exact hd | exact absurd rfl (ha _)
def is1 : DV → Bool
  | .tup _ => false
  | _ => true
theorem d1_of_dr {S : Nat → Prop} {d : DV} {v : Value} (hd : DR P S γ L h d v) (ha : is1 d = true) : D1 P S γ L h d v := by
  cases d <;> first | exact hd | (simp [is1] at ha)
theorem d1_cells {S : Nat → Prop} {d : DV} {v : Value} (hd : D1 P S γ L h d v) : All2 (DC P S γ L h) (cellsD d) v.cells.toList ∧ v.cells.toList.all Value.oneCell' = true := by
  have key : ∀ (d : DV), (∀ xs, d ≠ .agg xs) → D1 P S γ L h d v → All2 (DC P S γ L h) [d] v.cells.toList ∧ v.cells.toList.all Value.oneCell' = true := by
    intro d ha hd
    have h1 := dc_of_d1 hd ha
    have h2 := dc_one h1
    rw [one_cells h2]
    exact ⟨.cons h1 .nil, by simp [h2]⟩
  cases d with
  | agg xs =>
    obtain ⟨vs, rfl, h1⟩ := hd
    refine ⟨h1, ?_⟩
    rw [List.all_eq_true]
    intro u hu
    obtain ⟨i, hi, rfl⟩ := List.mem_iff_getElem.1 hu
    obtain ⟨d, _, hd⟩ := h1.get' (List.getElem?_eq_getElem hi)
    exact dc_one hd
  | _ => exact key _ (by intro xs e; cases e) hd

def dpartV (P : Program) (t : TypeId) (cs : List DV) (off : Nat) : Option DV :=
  match P.underlying t with
  | none => none
  | some _ => if aggT P t then match szT P t with
      | some n => if off + n ≤ cs.length then some (.agg ((cs.drop off).take n)) else none
      | none => none
    else cs[off]?
theorem dpart_sound {S : Nat → Prop} {t : TypeId} {cs : List DV} {vs : List Value} {off : Nat} {d : DV} (hr : All2 (DC P S γ L h) cs vs) (hd : dpartV P t cs off = some d) : ∃ v, partV P t vs off = some v ∧ D1 P S γ L h d v := by
  unfold dpartV at hd
  unfold partV
  cases hu : P.underlying t with
  | none => rw [hu] at hd; cases hd
  | some q =>
    simp only [hu] at hd ⊢
    by_cases ha : aggT P t = true
    · simp only [ha, if_true] at hd ⊢
      cases hs : szT P t with
      | none => simp [hs] at hd
      | some n =>
        simp only [hs] at hd ⊢
        rw [hr.length] at hd
        split at hd
        · rename_i hle
          cases hd
          rw [if_pos hle]
          exact ⟨_, rfl, _, rfl, by simpa using (hr.drop off).take n⟩
        · cases hd
    · simp only [ha] at hd ⊢
      obtain ⟨v, e, q⟩ := hr.get (by simpa using hd)
      exact ⟨v, e, d1_of_dc q⟩

/-! ### Scalars -/
def valsD : List DV → Option (List Value)
  | [] => some []
  | .p (.v x) :: l => (valsD l).map (x :: ·)
  | _ :: _ => none
def valD : DV → Option Value
  | .p (.v x) => some x
  | .agg xs => (valsD xs).map fun l => .agg l.toArray
  | _ => none
theorem valsD_sound {S : Nat → Prop} : ∀ {ds : List DV} {vs xs : List Value}, All2 (DC P S γ L h) ds vs → valsD ds = some xs → vs = xs
  | [], _, _, .nil, e => by cases e; rfl
  | d :: ds, _, _, .cons hd t, e => by
    unfold valsD at e
    split at e
    · rename_i heq; cases heq
    · rename_i x l heq
      cases heq
      cases hq : valsD ds with
      | none => rw [hq] at e; cases e
      | some ys =>
        rw [hq] at e; cases e
        have h1 : _ = x := PR.scal (P := P) (S := S) (h := h) hd
        rw [h1, valsD_sound t hq]
    · cases e
theorem valD_sound {S : Nat → Prop} {d : DV} {v x : Value} (hd : DR P S γ L h d v) (e : valD d = some x) : v = x := by
  unfold valD at e
  split at e
  · cases e; exact PR.scal (P := P) (S := S) (h := h) hd
  · rename_i xs
    obtain ⟨vs, rfl, h1⟩ := hd
    cases hq : valsD xs with
    | none => rw [hq] at e; cases e
    | some l =>
      rw [hq] at e; cases e
      have := valsD_sound h1 hq
      rw [← this]
  · cases e
/-- A scalar as a deep value. -/
def scD (o : Option Value) : Option DV := match o with
  | some v => if scal v then some (.p (.v v)) else none
  | none => none
theorem scD_sound {S : Nat → Prop} {o : Option Value} {d : DV} (e : scD o = some d) : ∃ v, o = some v ∧ DR P S γ L h d v := by
  unfold scD at e
  split at e
  · split at e
    · rename_i v hv; cases e; exact ⟨v, rfl, PR.v hv⟩
    · cases e
  · cases e
end
end Go.Sim
/- Deep values: pure operations, sound. -/
namespace Go.Sim
open Go.RowKit
section
variable {P : Program} {W0 : Ent} {γ : Pl} {L : List Obj} {h : Heap} {ρ : DRho} {r : Rho}

/-! ### Comparing -/
def nilV : Value → Bool
  | .pointer none => true
  | .slice none 0 0 => true
  | .map none => true
  | .nilFunc => true
  | _ => false
/-- What stands for a value that isn't nil. -/
def shadow : DV → Option Value
  | .ptr _ _ => some (.pointer (some ⟨0, 0, none⟩))
  | .dp _ _ => some (.pointer (some ⟨0, 0, none⟩))
  | .fn f _ _ => some (.func (.func f) #[] #[])
  | .p (.sl _ (_ :: _)) => some (.slice (some ⟨0, 0, none⟩) 1 0)
  | _ => none
inductive Alike : Value → Value → Prop
  | ptr (a b : Addr) : Alike (.pointer (some a)) (.pointer (some b))
  | sl (a b : Addr) (n n' c c' : Nat) : Alike (.slice (some a) n c) (.slice (some b) n' c')
  | fn (f g : FuncId) (x x' y y' : Array Value) : Alike (.func (.func f) x y) (.func (.func g) x' y')
theorem shadow_sound {d : DV} {v s : Value} (hd : (DR P (Free W0 γ L h) γ L h) d v) (e : shadow d = some s) : Alike s v := by
  unfold shadow at e
  split at e
  · cases e; obtain ⟨_, _, _, rfl⟩ := hd; exact .ptr _ _
  · cases e; obtain ⟨_, _, _, _, _, _, _, rfl, _⟩ := hd; exact .ptr _ _
  · cases e; obtain ⟨_, _, rfl, _⟩ := hd; exact .fn _ _ _ _ _ _
  · cases e
    cases (show PR P (Free W0 γ L h) h _ v from hd)
    exact .sl _ _ _ _ _ _
  · cases e
theorem eqV_alike {s v y : Value} (ha : Alike s v) (hn : nilV y = true) (d : Nat) (t : TypeId) : eqV P (d + 1) t s y = eqV P (d + 1) t v y ∧ eqV P (d + 1) t y s = eqV P (d + 1) t y v := by
  unfold nilV at hn
  constructor <;> (split at hn <;> first | cases hn | skip) <;> cases ha <;> (unfold eqV; cases P.underlying t with
    | none => rfl
    | some q => cases q <;> rfl)
theorem bin_alike {s v y : Value} (ha : Alike s v) (hn : nilV y = true) (op : BinOp) (t : TypeId) : binV P op t s y = binV P op t v y ∧ binV P op t y s = binV P op t y v := by
  have h1 := eqV_alike (P := P) ha hn 9999 t
  unfold nilV at hn
  constructor <;> (split at hn <;> first | cases hn | skip) <;> cases ha <;> cases op <;> simp only [binV] <;> first | rfl | rw [h1.1] | rw [h1.2]
def dbinV (P : Program) (op : BinOp) (t : TypeId) (a b : DV) : Option DV :=
  match valD a, valD b with
  | some x, some y => scD (binV P op t x y)
  | none, some y => if nilV y then match shadow a with
      | some x => scD (binV P op t x y)
      | none => none
    else none
  | some x, none => if nilV x then match shadow b with
      | some y => scD (binV P op t x y)
      | none => none
    else none
  | none, none => none
theorem dbin_sound {op : BinOp} {t : TypeId} {a b d : DV} {u w : Value} (ha : (DR P (Free W0 γ L h) γ L h) a u) (hb : (DR P (Free W0 γ L h) γ L h) b w) (e : dbinV P op t a b = some d) : ∃ v, binV P op t u w = some v ∧ (DR P (Free W0 γ L h) γ L h) d v := by
  unfold dbinV at e
  cases h1 : valD a with
  | some x =>
    have := valD_sound ha h1; subst this
    cases h2 : valD b with
    | some y =>
      have := valD_sound hb h2; subst this
      rw [h1, h2] at e
      exact scD_sound e
    | none =>
      rw [h1, h2] at e
      simp only at e
      split at e
      · rename_i hn
        cases h3 : shadow b with
        | none => rw [h3] at e; cases e
        | some y =>
          rw [h3] at e
          rw [← (bin_alike (shadow_sound hb h3) hn op t).2]
          exact scD_sound e
      · cases e
  | none =>
    cases h2 : valD b with
    | none => rw [h1, h2] at e; cases e
    | some y =>
      have := valD_sound hb h2; subst this
      rw [h1, h2] at e
      simp only at e
      split at e
      · rename_i hn
        cases h3 : shadow a with
        | none => rw [h3] at e; cases e
        | some x =>
          rw [h3] at e
          rw [← (bin_alike (shadow_sound ha h3) hn op t).1]
          exact scD_sound e
      · cases e

/-! ### Structures -/
def setManyD : List DV → Nat → List DV → List DV
  | cs, _, [] => cs
  | cs, i, v :: r => setManyD (cs.set i v) (i + 1) r
theorem setMany_all2 {R : DV → Value → Prop} : ∀ {ys : List DV} {ws : List Value} {cs : List DV} {vs : List Value} {i : Nat}, All2 R cs vs → All2 R ys ws → All2 R (setManyD cs i ys) (setMany vs i ws)
  | [], _, cs, vs, i, h1, .nil => h1
  | y :: ys, w :: ws, cs, vs, i, h1, .cons hy t => by unfold setManyD setMany; exact setMany_all2 (h1.set hy i) t
@[simp] theorem length_setManyD : ∀ (ys cs : List DV) (i : Nat), (setManyD cs i ys).length = cs.length
  | [], _, _ => rfl
  | v :: r, cs, i => by rw [setManyD, length_setManyD r]; simp
def placesOf (P : Program) (t : TypeId) : Option (Nat → Option (Nat × Nat)) :=
  match P.underlying t with
  | some (.struct fs) => (fs.toList.mapM (fun f => (P.info? f.type).map fun i => (f.offset, i.size))).map fun l i => l[i]?
  | some (.array _ e) => (P.info? e).map fun ie i => some (i * ie.size, ie.size)
  | _ => none
def zeroD (P : Program) (t : TypeId) : Option (List DV) := match zeroCellsT P t with
  | some z => if z.all scal then some (z.map fun v => .p (.v v)) else none
  | none => none
theorem zero_all2 {S : Nat → Prop} {z : List Value} (hz : z.all scal = true) : All2 (DC P S γ L h) (z.map fun v => .p (.v v)) z := by
  induction z with
  | nil => exact .nil
  | cons v z ih =>
    simp only [List.all_cons, Bool.and_eq_true] at hz
    exact .cons (PR.v hz.1) (ih hz.2)
theorem zeroD_sound {S : Nat → Prop} {t : TypeId} {ds : List DV} (e : zeroD P t = some ds) : ∃ z, zeroCellsT P t = some z ∧ All2 (DC P S γ L h) ds z := by
  unfold zeroD at e
  split at e
  · split at e
    · rename_i z hz hs; cases e; exact ⟨z, hz, zero_all2 hs⟩
    · cases e
  · cases e
def fillD (place : Nat → Option (Nat × Nat)) (cells : List DV) : List (Nat × DV) → Option (List DV)
  | [] => some cells
  | (i, v) :: r => match place i with
    | none => none
    | some (off, sz) => if is1 v = true ∧ (cellsD v).length = sz ∧ off + sz ≤ cells.length then fillD place (setManyD cells off (cellsD v)) r else none
theorem fill_sound {place : Nat → Option (Nat × Nat)} : ∀ {ps : List (Nat × DV)} {qs : List (Nat × Value)} {cs xs : List DV} {vs : List Value}, All2 (DC P (Free W0 γ L h) γ L h) cs vs → All2 (fun d v => d.1 = v.1 ∧ (DR P (Free W0 γ L h) γ L h) d.2 v.2) ps qs → fillD place cs ps = some xs →
    ∃ ws, fillL place vs qs = some ws ∧ All2 (DC P (Free W0 γ L h) γ L h) xs ws
  | [], _, cs, xs, vs, h1, .nil, e => by cases e; exact ⟨vs, rfl, h1⟩
  | (i, d) :: ps, _, cs, xs, vs, h1, .cons (b := (j, v)) hd t, e => by
    obtain ⟨rfl, hd⟩ := hd
    unfold fillD at e
    unfold fillL
    cases hp : place i with
    | none => rw [hp] at e; cases e
    | some q =>
      obtain ⟨off, sz⟩ := q
      simp only [hp] at e ⊢
      split at e
      · rename_i hc
        have h2 := (d1_cells (d1_of_dr hd hc.1)).1
        have h3 : v.cells.size = sz := by have := h2.length; rw [← hc.2.1, this]; simp
        rw [if_pos ⟨h3, by rw [← h1.length]; exact hc.2.2⟩]
        exact fill_sound (setMany_all2 h1 h2) t e
      · cases e
def dbuildV (P : Program) (t : TypeId) (ps : List (Nat × DV)) : Option DV :=
  match placesOf P t, zeroD P t with
  | some pl, some z => if zeroOk P t then (fillD pl z ps).map .agg else none
  | _, _ => none
theorem buildV_places {t : TypeId} {pl : Nat → Option (Nat × Nat)} {z : List Value} {ps : List (Nat × Value)} (hp : placesOf P t = some pl) (hz : zeroCellsT P t = some z) (ho : zeroOk P t = true) :
    buildV P t ps = (fillL pl z ps).map fun l => .agg l.toArray := by
  obtain ⟨i, zv, h1, h2, _, h3, _⟩ := zeroCellsT_some hz
  first | subst h3 | (rw [← h3])
  unfold placesOf at hp
  split at hp
  · rename_i fs hu
    cases hm : fs.toList.mapM (fun f => (P.info? f.type).map fun i => (f.offset, i.size)) with
    | none => rw [hm] at hp; cases hp
    | some l =>
      rw [hm] at hp; cases hp
      exact build_struct hu ho h1 h2 hm
  · rename_i n e hu
    cases hm : P.info? e with
    | none => rw [hm] at hp; cases hp
    | some ie =>
      rw [hm] at hp; cases hp
      exact build_array hu ho h1 h2 hm
  · cases hp
theorem dbuild_sound {t : TypeId} {ps : List (Nat × DV)} {qs : List (Nat × Value)} {d : DV} (hr : All2 (fun d v => d.1 = v.1 ∧ (DR P (Free W0 γ L h) γ L h) d.2 v.2) ps qs) (e : dbuildV P t ps = some d) : ∃ v, buildV P t qs = some v ∧ (DR P (Free W0 γ L h) γ L h) d v := by
  unfold dbuildV at e
  split at e
  · rename_i pl z hp hz
    split at e
    · rename_i ho
      obtain ⟨zv, h1, h2⟩ := zeroD_sound (P := P) (γ := γ) (L := L) (h := h) (S := Free W0 γ L h) hz
      cases hf : fillD pl z ps with
      | none => rw [hf] at e; cases e
      | some xs =>
        rw [hf] at e; cases e
        obtain ⟨ws, h3, h4⟩ := fill_sound h2 hr hf
        rw [buildV_places hp h1 ho, h3]
        exact ⟨_, rfl, _, rfl, by simpa using h4⟩
    · cases e
  · cases e
def dfieldV (P : Program) (t : TypeId) (x : DV) (f : Nat) : Option DV :=
  match P.underlying t, x with
  | some (.struct fs), .agg cs => match fs[f]? with
    | some fd => dpartV P fd.type cs fd.offset
    | none => none
  | _, _ => none
theorem dfield_sound {t : TypeId} {x d : DV} {v : Value} {f : Nat} (hx : (DR P (Free W0 γ L h) γ L h) x v) (e : dfieldV P t x f = some d) : ∃ u, fieldV P t v f = some u ∧ (DR P (Free W0 γ L h) γ L h) d u := by
  unfold dfieldV at e
  split at e
  · rename_i fs cs hu
    obtain ⟨vs, rfl, h1⟩ := hx
    unfold fieldV
    simp only [hu]
    cases hf : fs[f]? with
    | none => rw [hf] at e; cases e
    | some fd =>
      simp only [hf] at e
      obtain ⟨v, e1, h2⟩ := dpart_sound h1 e
      exact ⟨v, e1, dr_of_d1 h2⟩
  · cases e

/-! ### Addresses -/
/-- How far a field lies in. -/
def offF (P : Program) (t : TypeId) (f : Nat) : Option Nat :=
  match P.underlying t with
  | some (.struct fs) => match fs[f]? with
    | some fd => match szT P fd.type with
      | some n => if n = 0 then none else some fd.offset
      | none => none
    | none => none
  | _ => none
theorem fieldAddr_off {t : TypeId} {f k : Nat} (e : offF P t f = some k) (b o : Nat) : fieldAddrV P t (.pointer (some ⟨b, o, none⟩)) f = some (.pointer (some ⟨b, o + k, none⟩)) := by
  unfold offF at e
  unfold fieldAddrV
  split at e
  · rename_i fs hu
    simp only [hu]
    split at e
    · rename_i fd hf
      simp only [hf]
      split at e
      · rename_i n hn
        simp only [hn]
        split at e
        · cases e
        · rename_i h0; cases e; rw [if_neg h0]
      · cases e
    · cases e
  · cases e
/-- A list's rows, if a tally of them still holds. -/
def rowsOf (L : List Obj) (id tot : Nat) : Option (List (List PV)) :=
  match L[id]? with
  | some (.li _ rows) => if rows.length = tot then some rows else none
  | some (.fz _ rows) => if rows.length = tot then some rows else none
  | _ => none
theorem rowsOf_some {id tot : Nat} {rows : List (List PV)} (e : rowsOf L id tot = some rows) : ∃ o, L[id]? = some o ∧ o.isList rows ∧ rows.length = tot := by
  unfold rowsOf at e
  split at e
  · rename_i hh; split at e
    · cases e; exact ⟨_, hh, rfl, by assumption⟩
    · cases e
  · rename_i hh; split at e
    · cases e; exact ⟨_, hh, rfl, by assumption⟩
    · cases e
  · cases e
theorem Hp.width {h0 : Heap} (H : Hp P h0 W0 γ L h) {id : Nat} {o : Obj} {rows : List (List PV)} (e : L[id]? = some o) (hl : o.isList rows) : ∃ z, ∀ r ∈ rows, r.length = z := by
  have ho := H.obj id o e
  cases o with
  | li t rs =>
    cases hl
    cases t with
    | none => obtain ⟨h1, _⟩ := ho; exact ⟨0, by rw [h1]; simp⟩
    | some t => obtain ⟨_, _, _, _, z, _, _, _, _, _, h1, _⟩ := ho; exact ⟨z, h1⟩
  | fz t rs =>
    cases hl
    cases t with
    | none => obtain ⟨h1, _⟩ := ho; exact ⟨0, by rw [h1]; simp⟩
    | some t => obtain ⟨_, _, _, _, _, z, _, _, _, _, _, h1, _⟩ := ho; exact ⟨z, h1⟩
  | st c => exact hl.elim
  | dead => exact hl.elim
/-- On by some cells. -/
def onD (L : List Obj) (k : Nat) : DV → Option DV
  | .ptr id off => some (.ptr id (off + k))
  | .ep id i off tot => match rowsOf L id tot with
    | some _ => some (.ep id i (off + k) tot)
    | none => none
  | .dp row off => some (.dp row (off + k))
  | _ => none
theorem ep_on {h0 : Heap} (H : Hp P h0 W0 γ L h) {id i off tot k : Nat} {v : Value} {rows : List (List PV)} (hx : (DR P (Free W0 γ L h) γ L h) (.ep id i off tot) v) (e : rowsOf L id tot = some rows) :
    ∃ b o, v = .pointer (some ⟨b, o, none⟩) ∧ (DR P (Free W0 γ L h) γ L h) (.ep id i (off + k) tot) (.pointer (some ⟨b, o + k, none⟩)) := by
  obtain ⟨q, h1, h2, h3⟩ := rowsOf_some e
  obtain ⟨z, hz⟩ := H.width h1 h2
  obtain ⟨k1, k2, k3⟩ := hx
  obtain ⟨k4, k5⟩ := k3 q rows h1 h2
  obtain ⟨k6, k7⟩ := k5 h3
  obtain ⟨b, o, g, rfl⟩ := k7 z hz
  refine ⟨b, _, rfl, k1, rfl, fun q' rows' e1 e2 => ?_⟩
  obtain ⟨m4, m5⟩ := k3 q' rows' e1 e2
  refine ⟨m4, fun e3 => ?_⟩
  obtain ⟨m6, m7⟩ := m5 e3
  refine ⟨m6, fun z' hz' => ?_⟩
  obtain ⟨b', o', g', e'⟩ := m7 z' hz'
  rw [g] at g'
  cases g'
  refine ⟨b, o, g, ?_⟩
  have e2 : o + i * z + off = o + i * z' + off := by
    simp only [Value.pointer.injEq, Option.some.injEq, Addr.mk.injEq, true_and, and_true] at e'
    exact e'
  rw [show o + i * z + off + k = o + i * z' + (off + k) by omega]
theorem on_sound {h0 : Heap} (H : Hp P h0 W0 γ L h) {x d : DV} {v : Value} {k : Nat} (hx : (DR P (Free W0 γ L h) γ L h) x v) (e : onD L k x = some d) : ∃ b o, v = .pointer (some ⟨b, o, none⟩) ∧ (DR P (Free W0 γ L h) γ L h) d (.pointer (some ⟨b, o + k, none⟩)) := by
  unfold onD at e
  split at e
  · cases e
    obtain ⟨b, h1, h2, rfl⟩ := hx
    exact ⟨b, _, rfl, b, h1, h2, rfl⟩
  · split at e
    · rename_i rows hr
      cases e
      exact ep_on H hx hr
    · cases e
  · cases e
    obtain ⟨b, o, cs, e, rw, h1, h2, rfl, h3⟩ := hx
    exact ⟨b, _, rfl, b, o, cs, e, rw, h1, h2, by rw [Nat.add_assoc], h3⟩
  · cases e
def dfieldAddrV (P : Program) (L : List Obj) (t : TypeId) (x : DV) (f : Nat) : Option DV := match offF P t f with
  | some k => onD L k x
  | none => none
theorem dfieldAddr_sound {h0 : Heap} (H : Hp P h0 W0 γ L h) {t : TypeId} {x d : DV} {v : Value} {f : Nat} (hx : (DR P (Free W0 γ L h) γ L h) x v) (e : dfieldAddrV P L t x f = some d) : ∃ u, fieldAddrV P t v f = some u ∧ (DR P (Free W0 γ L h) γ L h) d u := by
  unfold dfieldAddrV at e
  split at e
  · rename_i k hk
    obtain ⟨b, o, rfl, h1⟩ := on_sound H hx e
    exact ⟨_, fieldAddr_off hk b o, h1⟩
  · cases e
end
end Go.Sim
/- Deep values: memory. -/
namespace Go.Sim
open Go.RowKit
section
variable {P : Program} {γ : Pl} {L : List Obj} {h : Heap} {h0 : Heap} {W0 : Ent}

theorem dc_p {S : Nat → Prop} {x : PV} {v : Value} (hx : PR P S h x v) : DC P S γ L h (.p x) v := hx
theorem row_all2 {S : Nat → Prop} {row : List PV} {cs : List Value} {o : Nat} (hl : o + row.length ≤ cs.length) (hr : ∀ (j : Nat) (x : PV) (u : Value), row[j]? = some x → cs[o + j]? = some u → PR P S h x u) :
    All2 (DC P S γ L h) (row.map .p) ((cs.drop o).take row.length) := by
  refine All2.of_get (by simp; omega) fun j d u e1 e2 => ?_
  rw [List.getElem?_map] at e1
  cases hx : row[j]? with
  | none => rw [hx] at e1; cases e1
  | some x =>
    rw [hx] at e1; cases e1
    rw [List.getElem?_take] at e2
    split at e2
    · rw [List.getElem?_drop] at e2; exact hr j x u hx e2
    · cases e2
/-- A part of a part. -/
theorem part_at {t : TypeId} {cs : List Value} {o n off : Nat} {v : Value} (hl : o + n ≤ cs.length) (e : partV P t ((cs.drop o).take n) off = some v) : partV P t cs (o + off) = some v := by
  unfold partV at e ⊢
  cases hu : P.underlying t with
  | none => simp [hu] at e
  | some q =>
    simp only [hu] at e ⊢
    by_cases ha : aggT P t = true
    · simp only [ha, if_true] at e ⊢
      cases hs : szT P t with
      | none => simp [hs] at e
      | some k =>
        simp only [hs] at e ⊢
        split at e
        · rename_i hk
          simp at hk
          rw [if_pos (by omega), ← e]
          congr 2
          rw [List.drop_take, List.take_take, List.drop_drop, Nat.min_eq_left (by omega)]
        · cases e
    · simp only [ha] at e ⊢
      simp only [Bool.false_eq_true, if_false] at e ⊢
      rw [List.getElem?_take] at e
      split at e
      · rw [List.getElem?_drop] at e; exact e
      · cases e

/-! ### Where an element lies -/
def intD (d : DV) : Option Int := match d with
  | .p (.v (.int _ n)) => some n
  | _ => none
theorem intD_sound {d : DV} {v : Value} {n : Int} (hd : (DR P (Free W0 γ L h) γ L h) d v) (e : intD d = some n) : ∃ k, v = .int k n := by
  unfold intD at e
  split at e
  · rename_i k m
    cases e
    exact ⟨k, PR.scal (P := P) (S := Free W0 γ L h) (h := h) hd⟩
  · cases e
def dindexAddrV (P : Program) (L : List Obj) (t : TypeId) (x i : DV) : Option DV :=
  match intD i with
  | none => none
  | some n => if 0 ≤ n then
      match P.underlying t with
      | some (.slice e) => match szT P e with
        | some s => match x with
          | .p (.sl z rows) => if z = s then match rows[n.toNat]? with
              | some row => some (.dp row 0)
              | none => none
            else none
          | .ref id lo m tot => match rowsOf L id tot with
            | some rows => if n.toNat < m then match rows[lo + n.toNat]? with
                | some row => if row.length = s then some (.ep id (lo + n.toNat) 0 tot) else none
                | none => none
              else none
            | none => none
          | .aref id off m => if n.toNat < m then some (.ptr id (off + n.toNat * s)) else none
          | _ => none
        | none => none
      | some (.array len e) => match szT P e with
        | some s => if n.toNat < len then onD L (n.toNat * s) x else none
        | none => none
      | _ => none
    else none
theorem dindexAddr_sound (H : Hp P h0 W0 γ L h) {t : TypeId} {x i d : DV} {v w : Value} (hx : (DR P (Free W0 γ L h) γ L h) x v) (hi : (DR P (Free W0 γ L h) γ L h) i w) (e : dindexAddrV P L t x i = some d) : ∃ u, indexAddrV P t v w = some u ∧ (DR P (Free W0 γ L h) γ L h) d u := by
  unfold dindexAddrV at e
  split at e
  · cases e
  rename_i n hn
  obtain ⟨k, rfl⟩ := intD_sound hi hn
  split at e
  case isFalse => cases e
  rename_i h0n
  split at e
  · rename_i t' hu
    split at e
    case h_2 => cases e
    rename_i s hs
    split at e
    · rename_i z rows
      split at e
      case isFalse => cases e
      rename_i hz
      subst hz
      split at e
      case h_2 => cases e
      rename_i row hrow
      cases e
      have hlt : n.toNat < rows.length := (List.getElem?_eq_some_iff.1 hrow).1
      cases (show PR P (Free W0 γ L h) h _ v from hx) with
      | nil => simp at hlt
      | dud => simp at hlt
      | sl hS hb h0 hl hz hr hc hm =>
        rename_i b o c cs te rw
        rw [indexAddr_slice hu hs, if_pos (by omega)]
        refine ⟨_, rfl, b, o + n.toNat * z, cs, te, rw, hS, hb, rfl, ?_, fun j x u e1 e2 => hr n.toNat row j x u hrow e1 e2⟩
        rw [hz _ _ hrow]
        have : (n.toNat + 1) * z ≤ rows.length * z := Nat.mul_le_mul_right _ hlt
        rw [Nat.succ_mul] at this
        omega
    · rename_i id lo m tot
      split at e
      case h_2 => cases e
      rename_i rows hro
      split at e
      case isFalse => cases e
      rename_i hm
      split at e
      case h_2 => cases e
      rename_i row hrow
      split at e
      case isFalse => cases e
      rename_i hsz
      cases e
      obtain ⟨q, q1, q2, q3⟩ := rowsOf_some hro
      obtain ⟨z, hz⟩ := H.width q1 q2
      have hzs : z = s := by rw [← hz row (List.mem_of_getElem? hrow)]; exact hsz
      subst hzs
      obtain ⟨k1, k2, k3⟩ := hx
      obtain ⟨k4, k5⟩ := k3 q rows q1 q2
      obtain ⟨k6, k7⟩ := k5 q3
      rcases k7 z hz with ⟨rfl, h1, h2⟩ | ⟨b, o, c, rfl, h1, h2⟩ | ⟨b, o, c, g, rfl, h1⟩
      · omega
      · omega
      · rw [indexAddr_slice hu hs, if_pos (by omega)]
        have hadd : o + lo * z + n.toNat * z = o + (lo + n.toNat) * z + 0 := by rw [Nat.add_mul]; omega
        rw [hadd]
        refine ⟨_, rfl, k1, rfl, fun q' rows' e1 e2 => ?_⟩
        obtain ⟨m4, m5⟩ := k3 q' rows' e1 e2
        refine ⟨m4, fun e3 => ?_⟩
        obtain ⟨m6, m7⟩ := m5 e3
        refine ⟨by omega, fun z' hz' => ?_⟩
        have hro' : rows' = rows := by
          rw [q1] at e1; cases e1
          cases q <;> first | (cases q2; cases e2; rfl) | exact q2.elim
        subst hro'
        have hzz : z' = z := by rw [← hz row (List.mem_of_getElem? hrow), hz' row (List.mem_of_getElem? hrow)]
        subst hzz
        exact ⟨b, o, g, rfl⟩
    · rename_i id off m
      split at e
      case isFalse => cases e
      rename_i hm
      cases e
      obtain ⟨b, h1, h2, rfl⟩ := hx
      rw [indexAddr_slice hu hs, if_pos (by omega)]
      exact ⟨_, rfl, b, h1, h2, rfl⟩
    · cases e
  · rename_i len t' hu
    split at e
    case h_2 => cases e
    rename_i s hs
    split at e
    case isFalse => cases e
    rename_i hlen
    obtain ⟨b, o, rfl, h1⟩ := on_sound H hx e
    rw [indexAddr_array hu hs, if_pos (by omega)]
    exact ⟨_, rfl, h1⟩
  · cases e

/-! ### Loads -/
def dloadV (P : Program) (L : List Obj) (t : TypeId) (x : DV) : Option DV :=
  match x with
  | .ptr id off => match L[id]? with
    | some (.st cells) => dpartV P t cells off
    | _ => none
  | .ep id i off tot => match rowsOf L id tot with
    | some rows => match rows[i]? with
      | some row => dpartV P t (row.map .p) off
      | none => none
    | none => none
  | .dp row off => dpartV P t (row.map .p) off
  | _ => none
theorem dload_sound (H : Hp P h0 W0 γ L h) {t : TypeId} {x d : DV} {v : Value} (hx : (DR P (Free W0 γ L h) γ L h) x v) (e : dloadV P L t x = some d) : ∃ u, loadV P t h v = some u ∧ (DR P (Free W0 γ L h) γ L h) d u := by
  unfold dloadV at e
  split at e
  · rename_i id off
    split at e
    · rename_i cells hc
      obtain ⟨b, h1, h2, rfl⟩ := hx
      obtain ⟨b', te, vs, g1, g2, g3⟩ := H.obj id _ hc
      rw [h1] at g1; cases g1
      obtain ⟨u, e1, r1⟩ := dpart_sound g3 e
      exact ⟨u, by simp only [loadV, loadT, g2]; exact e1, dr_of_d1 r1⟩
    · cases e
  · rename_i id i off tot
    split at e
    case h_2 => cases e
    rename_i rows hro
    split at e
    case h_2 => cases e
    rename_i row hrow
    obtain ⟨q, q1, q2, q3⟩ := rowsOf_some hro
    obtain ⟨z, hz⟩ := H.width q1 q2
    obtain ⟨k1, k2, k3⟩ := hx
    obtain ⟨k4, k5⟩ := k3 q rows q1 q2
    obtain ⟨k6, k7⟩ := k5 q3
    obtain ⟨b, o, g, rfl⟩ := k7 z hz
    have hR : ∃ te, Rows P (Free W0 γ L h) h b o te rows := by
      have ho := H.obj id q q1
      cases q with
      | li te rs =>
        cases q2
        cases te with
        | none => rw [ho.2] at g; cases g
        | some te => obtain ⟨b', o', g', hR⟩ := ho; rw [g] at g'; cases g'; exact ⟨te, hR⟩
      | fz te rs =>
        cases q2
        cases te with
        | none => rw [ho.2] at g; cases g
        | some te => obtain ⟨b', o', g', _, hR⟩ := ho; rw [g] at g'; cases g'; exact ⟨te, hR⟩
      | st c => exact q2.elim
      | dead => exact q2.elim
    obtain ⟨te, cs, z', r1, r2, r3, r4, r5, r6, r7⟩ := hR
    have hzz : z' = z := by rw [← hz row (List.mem_of_getElem? hrow), r6 row (List.mem_of_getElem? hrow)]
    subst hzz
    have hil : i < rows.length := (List.getElem?_eq_some_iff.1 hrow).1
    have hmul : (i + 1) * z' ≤ rows.length * z' := Nat.mul_le_mul_right _ hil
    rw [Nat.succ_mul] at hmul
    have hrl := r6 row (List.mem_of_getElem? hrow)
    have h2 := row_all2 (P := P) (γ := γ) (L := L) (S := Free W0 γ L h) (row := row) (cs := cs) (o := o + i * z') (by omega) (fun j x u e1 e2 => r7 i row j x u hrow e1 e2)
    obtain ⟨u, e1, rr⟩ := dpart_sound h2 e
    exact ⟨u, by simp only [loadV, loadT, r1]; exact part_at (by omega) e1, dr_of_d1 rr⟩
  · rename_i row off
    obtain ⟨b, o, cs, te, rw, h1, h2, rfl, h3, h4⟩ := hx
    obtain ⟨u, e1, rr⟩ := dpart_sound (row_all2 h3 h4) e
    exact ⟨u, by simp only [loadV, loadT, h2]; exact part_at h3 e1, dr_of_d1 rr⟩
  · cases e
end
end Go.Sim
/- Deep values: stores, new objects. -/
namespace Go.Sim
open Go.RowKit
theorem setMany_get : ∀ (vs cs : List Value) (i m : Nat), i + vs.length ≤ cs.length → (setMany cs i vs)[m]? = if i ≤ m ∧ m < i + vs.length then vs[m - i]? else cs[m]?
  | [], cs, i, m, _ => by rw [if_neg (by simp only [List.length_nil]; omega)]; rfl
  | v :: r, cs, i, m, hl => by
    rw [setMany, setMany_get r _ _ _ (by simp only [List.length_cons, List.length_set] at hl ⊢; omega)]
    simp only [List.length_cons] at hl ⊢
    by_cases h1 : i + 1 ≤ m ∧ m < i + 1 + r.length
    · rw [if_pos h1, if_pos (by omega), show m - i = (m - (i + 1)) + 1 by omega, List.getElem?_cons_succ]
    · rw [if_neg h1]
      by_cases h2 : m = i
      · subst h2
        rw [if_pos (by omega), Nat.sub_self, List.getElem?_cons_zero, List.getElem?_set_self (by omega)]
      · rw [if_neg (by omega), List.getElem?_set_ne (Ne.symm h2)]
def setManyP : List PV → Nat → List PV → List PV
  | cs, _, [] => cs
  | cs, i, v :: r => setManyP (cs.set i v) (i + 1) r
@[simp] theorem length_setManyP : ∀ (ys cs : List PV) (i : Nat), (setManyP cs i ys).length = cs.length
  | [], _, _ => rfl
  | v :: r, cs, i => by rw [setManyP, length_setManyP r]; simp
theorem setManyP_get : ∀ (vs cs : List PV) (i m : Nat), i + vs.length ≤ cs.length → (setManyP cs i vs)[m]? = if i ≤ m ∧ m < i + vs.length then vs[m - i]? else cs[m]?
  | [], cs, i, m, _ => by rw [if_neg (by simp only [List.length_nil]; omega)]; rfl
  | v :: r, cs, i, m, hl => by
    rw [setManyP, setManyP_get r _ _ _ (by simp only [List.length_cons, List.length_set] at hl ⊢; omega)]
    simp only [List.length_cons] at hl ⊢
    by_cases h1 : i + 1 ≤ m ∧ m < i + 1 + r.length
    · rw [if_pos h1, if_pos (by omega), show m - i = (m - (i + 1)) + 1 by omega, List.getElem?_cons_succ]
    · rw [if_neg h1]
      by_cases h2 : m = i
      · subst h2
        rw [if_pos (by omega), Nat.sub_self, List.getElem?_cons_zero, List.getElem?_set_self (by omega)]
      · rw [if_neg (by omega), List.getElem?_set_ne (Ne.symm h2)]
/-- Cells that may stand in a row. -/
def pvs : List DV → Option (List PV)
  | [] => some []
  | .p x :: l => (pvs l).map (x :: ·)
  | _ :: _ => none
section
variable {P : Program} {γ : Pl} {L : List Obj} {h : Heap} {h0 : Heap} {W0 : Ent}
theorem pvs_sound {S : Nat → Prop} : ∀ {ds : List DV} {vs : List Value} {xs : List PV}, All2 (DC P S γ L h) ds vs → pvs ds = some xs → All2 (PR P S h) xs vs
  | [], _, _, .nil, e => by cases e; exact .nil
  | d :: ds, _, _, .cons hd t, e => by
    unfold pvs at e
    split at e
    · rename_i heq; cases heq
    · rename_i x l heq
      cases heq
      cases hq : pvs ds with
      | none => rw [hq] at e; cases e
      | some ys => rw [hq] at e; cases e; exact .cons hd (pvs_sound t hq)
    · cases e

/-! ### Stores -/
def dstoreV (P : Program) (L : List Obj) (t : TypeId) (p x : DV) : Option (List Obj) :=
  match p with
  | .ptr id off => match L[id]? with
    | some (.st cells) => if is1 x = true ∧ szT P t = some (cellsD x).length ∧ off + (cellsD x).length ≤ cells.length then some (L.set id (.st (setManyD cells off (cellsD x)))) else none
    | _ => none
  | .ep id i off tot => match L[id]? with
    | some (.li te rows) => if rows.length = tot then match rows[i]? with
        | some row => if is1 x = true then match pvs (cellsD x) with
            | some ps => if szT P t = some ps.length ∧ off + ps.length ≤ row.length then some (L.set id (.li te (rows.set i (setManyP row off ps)))) else none
            | none => none
          else none
        | none => none
      else none
    | _ => none
  | _ => none
theorem write_st (H : Hp P h0 W0 γ L h) {id b : Nat} {cells cells' : List DV} {vs vs' : List Value} {te : TypeId} (hi : L[id]? = some (.st cells)) (hg : γ id = some (b, 0)) (hb : h.get b = some (.cells vs te true)) (hr : All2 (DC P (Free W0 γ L h) γ L h) cells' vs') :
    Hp P h0 W0 γ (L.set id (.st cells')) (h.set b (.cells vs' te true)) ∧ Carry W0 γ L h γ (L.set id (.st cells')) (h.set b (.cells vs' te true)) := by
  have hget : ∀ b', b' < h.next → (∀ x, γ id ≠ some (b', x)) → (h.set b (.cells vs' te true)).get b' = h.get b' := fun b' _ hx => Heap.get_set_ne _ _ (by rintro rfl; exact hx 0 hg)
  have c := carry_write (W0 := W0) (h := h) (γ' := γ) (h' := h.set b (.cells vs' te true)) (o' := .st cells') hi (.inl rfl) (fun _ _ => rfl) (fun c _ => ⟨rfl, _, rfl⟩) (fun rows' hl => hl.elim) (Nat.le_refl _) (fun b x e _ => .inl e) hget
  refine ⟨H.write hi (.inl rfl) c (fun _ _ => rfl) (Nat.le_refl _) (fun b x e => .inl ⟨x, e⟩) (fun x e => H.dom _ _ e) hget ?_, c⟩
  exact ⟨b, te, vs', hg, Heap.get_set_self hb, hr.mono fun _ _ => c.dc⟩
theorem write_li (H : Hp P h0 W0 γ L h) {id b o : Nat} {rows rows' : List (List PV)} {cs cs' : List Value} {te : TypeId} {z : Nat} (hi : L[id]? = some (.li (some te) rows)) (hg : γ id = some (b, o)) (hb : h.get b = some (.cells cs te true))
    (hlen : rows'.length = rows.length) (hw : ∀ r ∈ rows, r.length = z) (hw' : ∀ r ∈ rows', r.length = z) (hz : szT P te = some z) (h0z : 0 < z) (hl : o + rows.length * z ≤ cs'.length) (hm : rows.length ≤ maxLen)
    (hr : ∀ (i : Nat) (r : List PV) (j : Nat) (x : PV) (u : Value), rows'[i]? = some r → r[j]? = some x → cs'[o + i * z + j]? = some u → PR P (Free W0 γ L h) h x u) :
    Hp P h0 W0 γ (L.set id (.li (some te) rows')) (h.set b (.cells cs' te true)) ∧ Carry W0 γ L h γ (L.set id (.li (some te) rows')) (h.set b (.cells cs' te true)) := by
  have hget : ∀ b', b' < h.next → (∀ x, γ id ≠ some (b', x)) → (h.set b (.cells cs' te true)).get b' = h.get b' := fun b' _ hx => Heap.get_set_ne _ _ (by rintro rfl; exact hx o hg)
  have c := carry_write (W0 := W0) (h := h) (γ' := γ) (h' := h.set b (.cells cs' te true)) (o' := .li (some te) rows') hi (.inl rfl) (fun _ _ => rfl) (fun c e => (by cases e))
    (fun r' hl' => ⟨rows, rfl, by cases hl'; omega, fun _ => ⟨rfl, fun z' hz' r hr' => by
      cases hl'
      rw [hw r hr']
      have hne : 0 < rows.length := List.length_pos_of_mem hr'
      have h1 : rows'[0]'(by omega) ∈ rows' := List.getElem_mem _
      rw [← hz' _ h1, hw' _ h1]⟩⟩) (Nat.le_refl _) (fun b x e _ => .inl e) hget
  refine ⟨H.write hi (.inl rfl) c (fun _ _ => rfl) (Nat.le_refl _) (fun b x e => .inl ⟨x, e⟩) (fun x e => H.dom _ _ e) hget ?_, c⟩
  exact ⟨b, o, hg, cs', z, Heap.get_set_self hb, hz, h0z, by rw [hlen]; exact hl, by rw [hlen]; exact hm, hw', fun i r j x u e1 e2 e3 => c.pr (hr i r j x u e1 e2 e3)⟩
theorem dstore_sound (H : Hp P h0 W0 γ L h) {t : TypeId} {p x : DV} {v u : Value} {L' : List Obj} (hp : (DR P (Free W0 γ L h) γ L h) p v) (hx : (DR P (Free W0 γ L h) γ L h) x u) (e : dstoreV P L t p x = some L') :
    ∃ h', storeV P t h v u = some h' ∧ Hp P h0 W0 γ L' h' ∧ Carry W0 γ L h γ L' h' := by
  unfold dstoreV at e
  split at e
  · rename_i id off
    split at e
    case h_2 => cases e
    rename_i cells hc
    split at e
    case isFalse => cases e
    rename_i hcond
    obtain ⟨k1, k2, k3⟩ := hcond
    cases e
    obtain ⟨b, h1, _, rfl⟩ := hp
    obtain ⟨b', te, vs, g1, g2, g3⟩ := H.obj id _ hc
    rw [h1] at g1; cases g1
    obtain ⟨q1, q2⟩ := d1_cells (d1_of_dr hx k1)
    have hsz : u.cells.size = (cellsD x).length := by rw [q1.length]; simp
    refine ⟨_, ?_, write_st H hc h1 g2 (setMany_all2 g3 q1)⟩
    simp only [storeV, g2]
    rw [if_pos ⟨by rw [hsz]; exact k2, by rw [hsz, ← g3.length]; exact k3, q2⟩]
  · rename_i id i off tot
    split at e
    case h_2 => cases e
    rename_i te rows hc
    split at e
    case isFalse => cases e
    rename_i htot
    split at e
    case h_2 => cases e
    rename_i row hrow
    split at e
    case isFalse => cases e
    rename_i k1
    split at e
    case h_2 => cases e
    rename_i ps hps
    split at e
    case isFalse => cases e
    rename_i hcond
    obtain ⟨k2, k3⟩ := hcond
    cases e
    have hil : i < rows.length := (List.getElem?_eq_some_iff.1 hrow).1
    have ho := H.obj id _ hc
    cases te with
    | none => obtain ⟨h1, _⟩ := ho; rw [h1] at hil; simp at hil
    | some te =>
      obtain ⟨b, o, hg, cs, z, r1, r2, r3, r4, r5, r6, r7⟩ := ho
      obtain ⟨m1, m2, m3⟩ := hp
      obtain ⟨m4, m5⟩ := m3 _ rows hc rfl
      obtain ⟨m6, m7⟩ := m5 htot
      obtain ⟨b', o', g', rfl⟩ := m7 z r6
      rw [hg] at g'; cases g'
      obtain ⟨q1, q2⟩ := d1_cells (d1_of_dr hx k1)
      have q3 := pvs_sound q1 hps
      have hsz : u.cells.size = ps.length := by rw [q3.length]; simp
      have hrl := r6 row (List.mem_of_getElem? hrow)
      have hmul : (i + 1) * z ≤ rows.length * z := Nat.mul_le_mul_right _ hil
      rw [Nat.succ_mul] at hmul
      have hul : u.cells.toList.length = ps.length := by simpa using hsz
      refine ⟨_, ?_, write_li H hc hg r1 (cs' := setMany cs (o + i * z + off) u.cells.toList) (rows' := rows.set i (setManyP row off ps)) (by simp) r6 (fun r hr => ?_) r2 r3 (by simpa using r4) r5 ?_⟩
      · simp only [storeV, r1]
        rw [if_pos ⟨by rw [hsz]; exact k2, by rw [hsz]; omega, q2⟩]
      · obtain ⟨j, hj⟩ := List.mem_iff_getElem?.1 hr
        rcases getElem?_set' hj with ⟨_, hj⟩ | ⟨_, _, rfl⟩
        · exact r6 r (List.mem_of_getElem? hj)
        · simpa using hrl
      · intro i' r' j x' w e1 e2 e3
        rw [setMany_get _ _ _ _ (by rw [hul]; omega)] at e3
        rcases getElem?_set' e1 with ⟨hne, e1⟩ | ⟨rfl, _, rfl⟩
        · have hr'l := r6 r' (List.mem_of_getElem? e1)
          have hj : j < z := by rw [← hr'l]; exact (List.getElem?_eq_some_iff.1 e2).1
          have hi'l : i' < rows.length := (List.getElem?_eq_some_iff.1 e1).1
          rw [if_neg ?_] at e3
          · exact r7 i' r' j x' w e1 e2 e3
          · rw [hul]
            rintro ⟨a1, a2⟩
            rcases Nat.lt_or_gt_of_ne hne with hlt | hlt
            · have : (i' + 1) * z ≤ i * z := Nat.mul_le_mul_right _ hlt
              rw [Nat.succ_mul] at this
              omega
            · have : (i + 1) * z ≤ i' * z := Nat.mul_le_mul_right _ hlt
              rw [Nat.succ_mul] at this
              omega
        · have hj : j < row.length := by have := (List.getElem?_eq_some_iff.1 e2).1; simpa using this
          rw [setManyP_get _ _ _ _ k3] at e2
          by_cases hin : off ≤ j ∧ j < off + ps.length
          · rw [if_pos hin] at e2
            rw [if_pos (by rw [hul]; omega)] at e3
            obtain ⟨w', e4, rr⟩ := q3.get e2
            rw [show o + i' * z + j - (o + i' * z + off) = j - off by omega, e4] at e3
            cases e3
            exact rr
          · rw [if_neg hin] at e2
            rw [if_neg (by rw [hul]; omega)] at e3
            exact r7 i' row j x' w hrow e2 e3
  · cases e

/-! ### New objects -/
theorem new_st (H : Hp P h0 W0 γ L h) {cells : List DV} {vs : List Value} (te : TypeId) (hr : All2 (DC P (Free W0 γ L h) γ L h) cells vs) :
    ∃ γ', Hp P h0 W0 γ' (L ++ [.st cells]) (h.push (.cells vs te true)) ∧ Carry W0 γ L h γ' (L ++ [.st cells]) (h.push (.cells vs te true)) ∧ DR P (Free W0 γ' (L ++ [.st cells]) (h.push (.cells vs te true))) γ' (L ++ [.st cells]) (h.push (.cells vs te true)) (.ptr L.length 0) (ptrOfNew h.next) := by
  have c := carry_push (W0 := W0) (h := h) H.dom (.cells vs te true) (.st cells)
  refine ⟨_, H.push ?_, c, h.next, by simp [plAdd], ⟨cells, by simp⟩, rfl⟩
  exact ⟨h.next, te, vs, by simp [plAdd], Heap.get_push_self _ _, hr.mono fun _ _ => c.dc⟩
theorem new_li (H : Hp P h0 W0 γ L h) {rows : List (List PV)} {cs : List Value} {te : TypeId} {z c : Nat} (hz : szT P te = some z) (h0z : 0 < z) (hl : rows.length * z ≤ cs.length) (hm : rows.length ≤ maxLen) (hw : ∀ r ∈ rows, r.length = z)
    (hr : ∀ (i : Nat) (r : List PV) (j : Nat) (x : PV) (u : Value), rows[i]? = some r → r[j]? = some x → cs[i * z + j]? = some u → PR P (Free W0 γ L h) h x u) (hc : c = unk ∨ (rows.length ≤ c ∧ c ≤ maxLen)) :
    ∃ γ', Hp P h0 W0 γ' (L ++ [.li (some te) rows]) (h.push (.cells cs te true)) ∧ Carry W0 γ L h γ' (L ++ [.li (some te) rows]) (h.push (.cells cs te true)) ∧
      DR P (Free W0 γ' (L ++ [.li (some te) rows]) (h.push (.cells cs te true))) γ' (L ++ [.li (some te) rows]) (h.push (.cells cs te true)) (.ref L.length 0 rows.length rows.length) (sliceOfNew rows.length c h.next) := by
  have c' := carry_push (W0 := W0) (h := h) H.dom (.cells cs te true) (.li (some te) rows)
  have hd1 : dud > maxLen := by decide
  have hd2 : noapp > maxLen := by decide
  have hd3 : unk ≠ dud := by decide
  have hd4 : unk ≠ noapp := by decide
  refine ⟨_, H.push ?_, c', by simp, rfl, fun o rs e1 e2 => ?_⟩
  · exact ⟨h.next, 0, by simp [plAdd], cs, z, Heap.get_push_self _ _, hz, h0z, by omega, hm, hw, fun i r j x u e1 e2 e3 => c'.pr (hr i r j x u e1 e2 (by simpa using e3))⟩
  · simp at e1
    subst e1
    cases e2
    refine ⟨Nat.le_refl _, fun _ => ⟨by omega, fun z' _ => .inr (.inr ⟨h.next, 0, c, by simp [plAdd], by simp [sliceOfNew], ?_, ?_, hc⟩)⟩⟩
    · rcases hc with rfl | hc
      · exact hd3
      · omega
    · rcases hc with rfl | hc
      · exact hd4
      · omega
end
end Go.Sim
/- Deep values: lists. -/
namespace Go.Sim
open Go.RowKit
section
variable {P : Program} {γ : Pl} {L : List Obj} {h : Heap} {h0 : Heap} {W0 : Ent}

/-- Rows in a row of cells. -/
structure FlatR (P : Program) (S : Nat → Prop) (h : Heap) (z : Nat) (rows : List (List PV)) (cs : List Value) : Prop where
  len : cs.length = rows.length * z
  wide : ∀ r ∈ rows, r.length = z
  get : ∀ (i : Nat) (r : List PV) (j : Nat) (x : PV) (u : Value), rows[i]? = some r → r[j]? = some x → cs[i * z + j]? = some u → PR P S h x u
theorem flat_nil {S : Nat → Prop} (z : Nat) : FlatR P S h z [] [] := ⟨by simp, by simp, fun i r j x u e => by simp at e⟩
theorem FlatR.append {S : Nat → Prop} {z : Nat} {r1 r2 : List (List PV)} {c1 c2 : List Value} (a : FlatR P S h z r1 c1) (b : FlatR P S h z r2 c2) : FlatR P S h z (r1 ++ r2) (c1 ++ c2) := by
  refine ⟨by rw [List.length_append, List.length_append, a.len, b.len, Nat.add_mul], fun r hr => ?_, fun i r j x u e1 e2 e3 => ?_⟩
  · rcases List.mem_append.1 hr with hr | hr
    · exact a.wide r hr
    · exact b.wide r hr
  · by_cases hi : i < r1.length
    · rw [List.getElem?_append_left hi] at e1
      have hj : j < z := by rw [← a.wide r (List.mem_of_getElem? e1)]; exact (List.getElem?_eq_some_iff.1 e2).1
      have : (i + 1) * z ≤ r1.length * z := Nat.mul_le_mul_right _ hi
      rw [Nat.succ_mul] at this
      rw [List.getElem?_append_left (by rw [a.len]; omega)] at e3
      exact a.get i r j x u e1 e2 e3
    · rw [List.getElem?_append_right (by omega)] at e1
      have : r1.length * z ≤ i * z := Nat.mul_le_mul_right _ (by omega)
      rw [List.getElem?_append_right (by rw [a.len]; omega), a.len] at e3
      refine b.get _ r j x u e1 e2 ?_
      rw [Nat.sub_mul, ← e3]
      congr 1
      omega
theorem flat_one {S : Nat → Prop} {row : List PV} {vs : List Value} (hr : All2 (PR P S h) row vs) : FlatR P S h row.length [row] vs := by
  refine ⟨by simp [hr.length], by simp, fun i r j x u e1 e2 e3 => ?_⟩
  cases i with
  | succ i => simp at e1
  | zero =>
    simp at e1; subst e1
    obtain ⟨w, e4, rr⟩ := hr.get e2
    rw [Nat.zero_mul, Nat.zero_add] at e3
    rw [e4] at e3; cases e3
    exact rr
/-- The part that a slice tells of, flat. -/
theorem flat_part {S : Nat → Prop} {cs : List Value} {o z lo n : Nat} {rows : List (List PV)} (hl : o + rows.length * z ≤ cs.length) (hw : ∀ r ∈ rows, r.length = z) (hn : lo + n ≤ rows.length)
    (hr : ∀ (i : Nat) (r : List PV) (j : Nat) (x : PV) (u : Value), rows[i]? = some r → r[j]? = some x → cs[o + i * z + j]? = some u → PR P S h x u) :
    FlatR P S h z ((rows.drop lo).take n) ((cs.drop (o + lo * z)).take (n * z)) := by
  have h1 : (lo + n) * z ≤ rows.length * z := Nat.mul_le_mul_right _ hn
  rw [Nat.add_mul] at h1
  refine ⟨by simp; rw [Nat.min_eq_left (by omega), Nat.min_eq_left (by omega)], fun r hr => hw r (List.mem_of_mem_drop (List.mem_of_mem_take hr)), fun i r j x u e1 e2 e3 => ?_⟩
  rw [List.getElem?_take] at e1 e3
  split at e1
  case isFalse => cases e1
  split at e3
  case isFalse => cases e3
  rw [List.getElem?_drop] at e1 e3
  refine hr (lo + i) r j x u e1 e2 ?_
  rw [← e3]
  congr 1
  rw [Nat.add_mul]
  omega

/-! ### What is appended -/
/-- The rows that a value tells of. -/
def dsrc (P : Program) (L : List Obj) (s : Nat) (t : TypeId) (x : DV) : Option (List (List PV)) :=
  match P.underlying t with
  | some (.slice _) => match x with
    | .p (.sl z rows) => if z = s then some rows else none
    | .p (.v (.slice none 0 0)) => some []
    | .ref id lo n tot => match rowsOf L id tot with
      | some rows => if rows.all (fun r => r.length == s) then some ((rows.drop lo).take n) else none
      | none => none
    | .aref id off n => match L[id]? with
      | some (.st cells) => if s = 1 ∧ off + n ≤ cells.length then (pvs ((cells.drop off).take n)).map fun l => l.map fun x => [x] else none
      | _ => none
    | _ => none
  | some .string => match x with
    | .p (.v (.string b)) => if s = 1 then some (b.data.toList.map fun c => [.v (.int .u8 c.toNat)]) else none
    | _ => none
  | _ => none
theorem Hp.rows (H : Hp P h0 W0 γ L h) {id b o : Nat} {q : Obj} {rows : List (List PV)} (e : L[id]? = some q) (hl : q.isList rows) (hg : γ id = some (b, o)) : ∃ te, Rows P (Free W0 γ L h) h b o te rows := by
  have ho := H.obj id q e
  cases q with
  | li te rs =>
    cases hl
    cases te with
    | none => rw [ho.2] at hg; cases hg
    | some te => obtain ⟨b', o', g', hR⟩ := ho; rw [hg] at g'; cases g'; exact ⟨te, hR⟩
  | fz te rs =>
    cases hl
    cases te with
    | none => rw [ho.2] at hg; cases hg
    | some te => obtain ⟨b', o', g', _, hR⟩ := ho; rw [hg] at g'; cases g'; exact ⟨te, hR⟩
  | st c => exact hl.elim
  | dead => exact hl.elim
theorem flat_all {S : Nat → Prop} {z : Nat} {rows : List (List PV)} {cs : List Value} (hf : FlatR P S h z rows cs) : cs.all Value.oneCell' = true := by
  rw [List.all_eq_true]
  intro u hu
  obtain ⟨k, hk, rfl⟩ := List.mem_iff_getElem.1 hu
  have hz : 0 < z := by
    rcases Nat.eq_zero_or_pos z with q | q
    · rw [hf.len, q] at hk; simp at hk
    · exact q
  have hi : k / z < rows.length := by rw [Nat.div_lt_iff_lt_mul hz, ← hf.len]; exact hk
  have hrw := hf.wide _ (List.getElem_mem hi)
  have hj : k % z < rows[k / z].length := by rw [hrw]; exact Nat.mod_lt _ hz
  refine PR.one (hf.get (k / z) rows[k / z] (k % z) _ _ (List.getElem?_eq_getElem hi) (List.getElem?_eq_getElem hj) ?_)
  rw [show k / z * z + k % z = k by rw [Nat.mul_comm]; exact Nat.div_add_mod k z]
  exact List.getElem?_eq_getElem hk
theorem flat_singles {S : Nat → Prop} {xs : List PV} {vs : List Value} (hr : All2 (PR P S h) xs vs) : FlatR P S h 1 (xs.map fun x => [x]) vs := by
  induction hr with
  | nil => exact flat_nil 1
  | cons hx t ih => exact (flat_one (.cons hx .nil)).append ih
theorem dsrc_sound (H : Hp P h0 W0 γ L h) {s : Nat} {t : TypeId} {x : DV} {v : Value} {rows : List (List PV)} (hx : (DR P (Free W0 γ L h) γ L h) x v) (e : dsrc P L s t x = some rows) :
    ∃ cs, srcV P s t h v = some (rows.length, cs) ∧ FlatR P (Free W0 γ L h) h s rows cs := by
  unfold dsrc at e
  unfold srcV
  split at e
  · rename_i te hu
    simp only [hu]
    split at e
    · rename_i z rs
      split at e
      case isFalse => cases e
      rename_i hz
      subst hz
      cases e
      cases (show PR P (Free W0 γ L h) h _ v from hx) with
      | nil => exact ⟨[], rfl, flat_nil z⟩
      | dud => exact ⟨[], rfl, flat_nil z⟩
      | sl hS hb hz0 hl hz hr hc hm =>
        rename_i b o c cs te rw
        have hf := flat_part (P := P) (h := h) (S := Free W0 γ L h) (cs := cs) (o := o) (z := z) (lo := 0) (n := rows.length) hl (fun r hr => by obtain ⟨i, hi⟩ := List.mem_iff_getElem?.1 hr; exact hz i r hi) (by omega) hr
        simp only [List.drop_zero, List.take_length, Nat.zero_mul, Nat.add_zero] at hf
        by_cases h0r : rows.length = 0
        · have : rows = [] := List.length_eq_zero_iff.1 h0r
          subst this
          exact ⟨[], rfl, flat_nil z⟩
        · simp only [if_neg h0r, hb]
          rw [if_pos ⟨hl, flat_all hf⟩]
          exact ⟨_, rfl, hf⟩
    · cases e
      have : v = .slice none 0 0 := PR.scal (P := P) (S := Free W0 γ L h) (h := h) hx
      subst this
      exact ⟨[], rfl, flat_nil s⟩
    · rename_i id lo n tot
      split at e
      case h_2 => cases e
      rename_i rs hro
      split at e
      case isFalse => cases e
      rename_i hall
      cases e
      obtain ⟨q, q1, q2, q3⟩ := rowsOf_some hro
      have hall' : ∀ r ∈ rs, r.length = s := fun r hr => by have := List.all_eq_true.1 hall r hr; simpa using this
      obtain ⟨k1, k2, k3⟩ := hx
      obtain ⟨k4, k5⟩ := k3 q rs q1 q2
      obtain ⟨k6, k7⟩ := k5 q3
      have hlen : ((rs.drop lo).take n).length = n := by simp; omega
      rw [hlen]
      rcases k7 s hall' with ⟨rfl, h1, h2⟩ | ⟨b, o, c, rfl, h1, h2⟩ | ⟨b, o, c, g, rfl, h1⟩
      · have : n = 0 := by omega
        subst this
        exact ⟨[], rfl, by simpa using flat_nil s⟩
      · subst h1
        exact ⟨[], rfl, by simpa using flat_nil s⟩
      · by_cases hn : n = 0
        · subst hn
          exact ⟨[], rfl, by simpa using flat_nil s⟩
        · obtain ⟨te, cs, z, r1, r2, r3, r4, r5, r6, r7⟩ := H.rows q1 q2 g
          have hne : 0 < rs.length := by omega
          have hzs : z = s := by rw [← r6 _ (List.getElem_mem hne), hall' _ (List.getElem_mem hne)]
          subst hzs
          have hf := flat_part (P := P) (h := h) (S := Free W0 γ L h) r4 r6 (lo := lo) (n := n) (by omega) r7
          simp only [if_neg hn, r1]
          have hm : (lo + n) * z ≤ rs.length * z := Nat.mul_le_mul_right _ (by omega)
          rw [Nat.add_mul] at hm
          rw [if_pos ⟨by omega, flat_all hf⟩]
          exact ⟨_, rfl, hf⟩
    · rename_i id off n
      split at e
      case h_2 => cases e
      rename_i cells hc
      split at e
      case isFalse => cases e
      rename_i hcond
      obtain ⟨rfl, hle⟩ := hcond
      cases hp : pvs ((cells.drop off).take n) with
      | none => rw [hp] at e; cases e
      | some xs =>
        rw [hp] at e; cases e
        obtain ⟨b, h1, _, rfl⟩ := hx
        obtain ⟨b', te, vs, g1, g2, g3⟩ := H.obj id _ hc
        rw [h1] at g1; cases g1
        have hr := pvs_sound ((g3.drop off).take n) hp
        have hlen : xs.length = n := by rw [hr.length, ← ((g3.drop off).take n).length]; simp; omega
        have hf := flat_singles hr
        rw [List.length_map, hlen]
        by_cases hn : n = 0
        · subst hn
          have : xs = [] := List.length_eq_zero_iff.1 hlen
          subst this
          exact ⟨[], rfl, flat_nil 1⟩
        · simp only [if_neg hn, g2, Nat.mul_one]
          rw [if_pos ⟨by rw [← g3.length]; exact hle, flat_all hf⟩]
          exact ⟨_, rfl, hf⟩
    · cases e
  · rename_i hu
    simp only [hu]
    split at e
    · rename_i bs
      split at e
      case isFalse => cases e
      rename_i hs
      subst hs
      cases e
      have : v = .string bs := PR.scal (P := P) (S := Free W0 γ L h) (h := h) hx
      subst this
      simp only [if_true]
      refine ⟨bytesOf bs, ?_, ?_⟩
      · rw [List.length_map]; rfl
      · have key : ∀ l : List UInt8, All2 (PR P (Free W0 γ L h) h) (l.map fun c => PV.v (.int .u8 c.toNat)) (l.map fun c => Value.int .u8 c.toNat) := by
          intro l
          induction l with
          | nil => exact .nil
          | cons c l ih => exact .cons (PR.v rfl) ih
        have := flat_singles (key bs.data.toList)
        rw [List.map_map] at this
        exact this
    · cases e
  · cases e
end
end Go.Sim
/- Deep values: appending, slicing. -/
namespace Go.Sim
open Go.RowKit
def plMove (γ : Pl) (id b : Nat) : Pl := fun i => if i = id then some (b, 0) else γ i
section
variable {P : Program} {γ : Pl} {L : List Obj} {h : Heap} {h0 : Heap} {W0 : Ent}

theorem FlatR.mono {S S' : Nat → Prop} {h h' : Heap} {z : Nat} {rows : List (List PV)} {cs : List Value} (hf : FlatR P S h z rows cs) (hs : ∀ b, S b → S' b ∧ h'.get b = h.get b) : FlatR P S' h' z rows cs :=
  ⟨hf.len, hf.wide, fun i r j x u e1 e2 e3 => (hf.get i r j x u e1 e2 e3).mono hs⟩
/-- A list moves to a new block. -/
theorem move_li (H : Hp P h0 W0 γ L h) {id : Nat} {te0 : Option TypeId} {te : TypeId} {rows rows' : List (List PV)} {cs : List Value} {z : Nat} {hk : Heap} (hi : L[id]? = some (.li te0 rows)) (hlt : rows.length < rows'.length)
    (hz : szT P te = some z) (h0z : 0 < z) (hm : rows'.length ≤ maxLen) (hf : FlatR P (Free W0 γ L h) h z rows' cs) (hk1 : hk.next = h.next) (hk2 : ∀ b, (∀ x, γ id ≠ some (b, x)) → hk.get b = h.get b) (hte : te0 = none → γ id = none) :
    Hp P h0 W0 (plMove γ id h.next) (L.set id (.li (some te) rows')) (hk.push (.cells cs te true)) ∧ Carry W0 γ L h (plMove γ id h.next) (L.set id (.li (some te) rows')) (hk.push (.cells cs te true)) ∧
      DR P (Free W0 (plMove γ id h.next) (L.set id (.li (some te) rows')) (hk.push (.cells cs te true))) (plMove γ id h.next) (L.set id (.li (some te) rows')) (hk.push (.cells cs te true)) (.ref id 0 rows'.length rows'.length) (sliceOfNew rows'.length unk hk.next) := by
  have hid : id < L.length := (List.getElem?_eq_some_iff.1 hi).1
  have hγ : ∀ j, j ≠ id → plMove γ id h.next j = γ j := fun j hj => if_neg hj
  have hget : ∀ b', b' < h.next → (∀ x, γ id ≠ some (b', x)) → (hk.push (.cells cs te true)).get b' = h.get b' := fun b' hb hx => by
    rw [Heap.get_push_ne _ _ (by omega)]; exact hk2 b' hx
  have hd : (Obj.li te0 rows).owns = true ∨ γ id = none := by
    cases te0 with
    | none => exact .inr (hte rfl)
    | some _ => exact .inl rfl
  have hn : h.next ≤ (hk.push (.cells cs te true)).next := by simp; omega
  have c := carry_write (W0 := W0) (h := h) (γ' := plMove γ id h.next) (h' := hk.push (.cells cs te true)) (o' := .li (some te) rows') hi hd hγ (fun c e => (by cases e)) (fun r' hl' => ⟨rows, rfl, by cases hl'; omega, fun e => by cases hl'; omega⟩) hn
    (fun b x e _ => .inr (by simp [plMove] at e; omega)) hget
  have hdu : unk ≠ dud := by decide
  have hdn : unk ≠ noapp := by decide
  refine ⟨H.write hi hd c hγ hn (fun b x e => .inr (by simp [plMove] at e; omega)) (fun _ _ => hid) hget ?_, c, by simpa using hid, rfl, fun o rs e1 e2 => ?_⟩
  · refine ⟨h.next, 0, by simp [plMove], cs, z, by rw [← hk1]; exact Heap.get_push_self _ _, hz, h0z, by rw [hf.len]; omega, hm, hf.wide, fun i r j x u e1 e2 e3 => c.pr (hf.get i r j x u e1 e2 (by simpa using e3))⟩
  · simp [List.getElem?_set, hid] at e1
    subst e1
    cases e2
    exact ⟨Nat.le_refl _, fun _ => ⟨by omega, fun z' _ => .inr (.inr ⟨h.next, 0, unk, by simp [plMove], by simp [sliceOfNew, hk1], hdu, hdn, .inl rfl⟩)⟩⟩
theorem virtual_li (H : Hp P h0 W0 γ L h) : Hp P h0 W0 γ (L ++ [.li none []]) h ∧ Carry W0 γ L h γ (L ++ [.li none []]) h ∧ DR P (Free W0 γ (L ++ [.li none []]) h) γ (L ++ [.li none []]) h (.ref L.length 0 0 0) (.slice none 0 0) := by
  have hno : γ L.length = none := by
    cases hq : γ L.length with
    | none => rfl
    | some x => have := H.dom _ _ hq; omega
  refine ⟨H.virtual rfl ⟨rfl, hno⟩, carry_virtual _ rfl, by simp, rfl, fun o rs e1 e2 => ?_⟩
  simp at e1
  subst e1
  cases e2
  exact ⟨Nat.le_refl _, fun _ => ⟨by omega, fun z _ => .inl ⟨rfl, rfl, hno⟩⟩⟩

def dappendV (P : Program) (ts : List TypeId) (L : List Obj) (s x : DV) : Option (DV × List Obj) :=
  match ts with
  | [t, t2] => match P.underlying t with
    | some (.slice e) => match P.info? e, zeroCellsT P e with
      | some i, some _ => match dsrc P L i.size t2 x with
        | some ys => match s with
          | .p (.v (.slice none 0 0)) => if 0 < i.size ∧ ys.length ≤ maxLen ∧ ys.length * i.bytes ≤ 140737488355328 then some (.ref L.length 0 ys.length ys.length, L ++ [.li (if ys.length = 0 then none else some e) ys]) else none
          | .ref id lo n tot => match L[id]? with
            | some (.li te rows) => if lo = 0 ∧ rows.length = tot ∧ n = tot ∧ (te = none ∨ te = some e) ∧ 0 < i.size ∧ n + ys.length ≤ maxLen ∧ (n + ys.length) * i.bytes ≤ 140737488355328 then
                some (.ref id 0 (n + ys.length) (n + ys.length), L.set id (.li (if ys.length = 0 then te else some e) (rows ++ ys))) else none
            | _ => none
          | _ => none
        | none => none
      | _, _ => none
    | _ => none
  | _ => none
theorem dappend_sound (H : Hp P h0 W0 γ L h) {ts : List TypeId} {s x d : DV} {v w : Value} {L' : List Obj} (hs : (DR P (Free W0 γ L h) γ L h) s v) (hx : (DR P (Free W0 γ L h) γ L h) x w) (e : dappendV P ts L s x = some (d, L')) :
    ∃ v' h' γ', appendV P ts h v w = some (v', h') ∧ Hp P h0 W0 γ' L' h' ∧ Carry W0 γ L h γ' L' h' ∧ DR P (Free W0 γ' L' h') γ' L' h' d v' := by
  unfold dappendV at e
  split at e
  case h_2 => cases e
  rename_i t t2
  split at e
  case h_2 => cases e
  rename_i te hu
  split at e
  case h_2 => cases e
  rename_i i zz hi hzz
  split at e
  case h_2 => cases e
  rename_i ys hys
  obtain ⟨cs, hsrc, hf⟩ := dsrc_sound H hx hys
  have hsz : szT P te = some i.size := by unfold szT; rw [hi]; rfl
  unfold appendV
  simp only [hu, hi, hzz, hsrc]
  split at e
  · -- nil
    split at e
    case isFalse => cases e
    rename_i hc
    obtain ⟨c1, c2, c3⟩ := hc
    cases e
    have : v = .slice none 0 0 := PR.scal (P := P) (S := Free W0 γ L h) (h := h) hs
    subst this
    by_cases h0y : ys.length = 0
    · have : ys = [] := List.length_eq_zero_iff.1 h0y
      subst this
      simp only [List.length_nil, if_true]
      obtain ⟨a1, a2, a3⟩ := virtual_li H
      exact ⟨_, _, γ, rfl, a1, a2, a3⟩
    · simp only [if_neg h0y]
      rw [if_pos ⟨c2, c3⟩]
      obtain ⟨γ', a1, a2, a3⟩ := new_li H (te := te) (c := unk) hsz c1 (by rw [hf.len]; exact Nat.le_refl _) c2 hf.wide hf.get (.inl rfl)
      exact ⟨_, _, γ', rfl, a1, a2, a3⟩
  · rename_i id lo n tot
    split at e
    case h_2 => cases e
    rename_i te0 rows hli
    split at e
    case isFalse => cases e
    rename_i hc
    obtain ⟨rfl, c1, c2, c3, c4, c5, c6⟩ := hc
    cases e
    subst c1
    subst c2
    by_cases h0y : ys.length = 0
    · have : ys = [] := List.length_eq_zero_iff.1 h0y
      subst this
      have hL : L.set id (.li te0 (rows ++ [])) = L := by
        rw [List.append_nil]
        refine List.ext_getElem? fun j => ?_
        by_cases hj : j = id
        · subst hj
          rw [List.getElem?_set_self (List.getElem?_eq_some_iff.1 hli).1, hli]
        · rw [List.getElem?_set_ne (Ne.symm hj)]
      simp only [List.length_nil, if_true, Nat.add_zero]
      rw [hL]
      have hv : ∃ a n c, v = .slice a n c ∧ (a = none → n = 0 ∧ c = 0) ∧ (∀ q, a = some q → q.spot = none) := by
        obtain ⟨k1, k2, k3⟩ := hs
        obtain ⟨k4, k5⟩ := k3 _ rows hli rfl
        obtain ⟨k6, k7⟩ := k5 rfl
        obtain ⟨z, hz⟩ := H.width hli rfl
        rcases k7 z hz with ⟨rfl, _⟩ | ⟨b, o, c, rfl, _⟩ | ⟨b, o, c, _, rfl, _⟩
        · exact ⟨_, _, _, rfl, fun _ => ⟨rfl, rfl⟩, fun q e => (by cases e)⟩
        · exact ⟨_, _, _, rfl, fun e => (by cases e), fun q e => (by cases e; rfl)⟩
        · exact ⟨_, _, _, rfl, fun e => (by cases e), fun q e => (by cases e; rfl)⟩
      obtain ⟨a, m, c, rfl, ha, hq⟩ := hv
      cases a with
      | none => obtain ⟨rfl, rfl⟩ := ha rfl; exact ⟨_, _, γ, rfl, H, Carry.refl _ _ _, hs⟩
      | some q =>
        obtain ⟨qb, qo, qv⟩ := q
        have := hq _ rfl
        simp only at this
        subst this
        exact ⟨_, _, γ, rfl, H, Carry.refl _ _ _, hs⟩
    · obtain ⟨k1, k2, k3⟩ := hs
      obtain ⟨k4, k5⟩ := k3 _ rows hli rfl
      obtain ⟨k6, k7⟩ := k5 rfl
      obtain ⟨z0, hz0⟩ := H.width hli rfl
      have ho := H.obj id _ hli
      have hlen : (rows ++ ys).length = rows.length + ys.length := List.length_append
      simp only [if_neg h0y]
      cases te0 with
      | none =>
        obtain ⟨rfl, hγn⟩ := ho
        rcases k7 z0 hz0 with ⟨rfl, _⟩ | ⟨b, o, c, rfl, _, h2⟩ | ⟨b, o, c, g, _⟩
        · simp only
          simp only [List.length_nil, Nat.zero_add] at c5 c6
          rw [if_pos ⟨c5, c6⟩]
          obtain ⟨a1, a2, a3⟩ := move_li H (rows' := [] ++ ys) (hk := h) hli (by simp; omega) hsz c4 (by simpa using c5) (by simpa using hf) rfl (fun _ _ => rfl) (fun _ => hγn)
          simp only [List.nil_append, List.length_nil, Nat.zero_add] at a1 a2 a3 ⊢
          exact ⟨_, _, _, rfl, a1, a2, a3⟩
        · simp at h2
        · rw [hγn] at g; cases g
      | some te' =>
        have hte : te' = te := by rcases c3 with c3 | c3 <;> cases c3; rfl
        subst hte
        obtain ⟨b', o', g', cs0, z, r1, r2, r3, r4, r5, r6, r7⟩ := ho
        have hzi : z = i.size := by rw [hsz] at r2; cases r2; rfl
        subst hzi
        rcases k7 _ r6 with ⟨rfl, _, h2⟩ | ⟨b, o, c, rfl, h1, h2⟩ | ⟨b, o, c, g, rfl, d1, d2, d3⟩
        · rw [h2] at g'; cases g'
        · omega
        · rw [g'] at g; cases g
          simp only [Nat.zero_mul, Nat.add_zero]
          rw [if_neg (by rintro (q | q) <;> contradiction), if_pos ⟨c5, c6⟩]
          simp only [r1]
          rw [if_pos ⟨r4, r2, trivial⟩]
          have hf0 := flat_part (P := P) (h := h) (S := Free W0 γ L h) r4 r6 (lo := 0) (n := rows.length) (by omega) r7
          simp only [List.drop_zero, List.take_length, Nat.zero_mul, Nat.add_zero] at hf0
          have hff := hf0.append hf
          have key : ∀ hk : Heap, hk.next = h.next → (∀ b, (∀ x, γ id ≠ some (b, x)) → hk.get b = h.get b) → ∃ v' h'' γ', some (sliceOfNew (rows.length + ys.length) unk hk.next, hk.push (.cells ((cs0.drop o').take (rows.length * i.size) ++ cs) te' true)) = some (v', h'') ∧
              Hp P h0 W0 γ' (L.set id (.li (some te') (rows ++ ys))) h'' ∧ Carry W0 γ L h γ' (L.set id (.li (some te') (rows ++ ys))) h'' ∧ DR P (Free W0 γ' (L.set id (.li (some te') (rows ++ ys))) h'') γ' (L.set id (.li (some te') (rows ++ ys))) h'' (.ref id 0 (rows.length + ys.length) (rows.length + ys.length)) v' := by
            intro hk hk1 hk2
            obtain ⟨a1, a2, a3⟩ := move_li H (rows' := rows ++ ys) (hk := hk) hli (by rw [hlen]; omega) hsz c4 (by rw [hlen]; exact c5) hff hk1 hk2 (fun e => by cases e)
            rw [hlen] at a3
            exact ⟨_, _, _, rfl, a1, a2, a3⟩
          have e1 : h.next = h.next := rfl
          split
          · exact key h rfl fun _ _ => rfl
          · have := key (h.kill b') rfl fun b hb => Heap.get_kill_ne h (by rintro rfl; exact hb o' g')
            exact this
  · cases e
end
end Go.Sim
/- Deep values: slices, lengths, texts, lists made. -/
namespace Go.Sim
open Go.RowKit
theorem bounds_le {n c : Nat} {lo hi mx : Option Value} {l r : Nat} {om : Option Nat} (hc : n ≤ c) (e : boundsV n n lo hi mx = some (l, r, om)) : boundsV n c lo hi mx = some (l, r, om) ∧ l ≤ r ∧ r ≤ n ∧ (∀ m, om = some m → r ≤ m ∧ m ≤ n) := by
  unfold boundsV at e ⊢
  split at e
  · split at e
    · rename_i m vh h1 
      split at e
      · split at e
        · rename_i h2
          rename_i hh _ 
          split at e
          · split at e
            · split at e
              · rename_i vl l' h3 h4
                cases e
                rw [if_pos ⟨by omega, h2.2⟩]
                simp only [h3, if_pos h4]
                exact ⟨trivial, h4, by omega, fun m' e' => by cases e'; omega⟩
              · cases e
            · cases e
          · cases e
            rw [if_pos ⟨by omega, h2.2⟩]
            exact ⟨rfl, by omega, by omega, fun m' e' => by cases e'; omega⟩
        · cases e
      · cases e
    · cases e
  · split at e
    · split at e
      · split at e
        · rename_i h2
          split at e
          · split at e
            · split at e
              · rename_i vl l' h3 h4
                cases e
                rw [if_pos (by omega)]
                simp only [h3, if_pos h4]
                exact ⟨trivial, h4, by omega, fun m' e' => by cases e'⟩
              · cases e
            · cases e
          · cases e
            rw [if_pos (by omega)]
            exact ⟨rfl, by omega, by omega, fun m' e' => by cases e'⟩
        · cases e
      · cases e
    · split at e
      · split at e
        · split at e
          · rename_i vl l' h3 h4
            cases e
            simp only [h3, if_pos h4]
            exact ⟨trivial, by omega, Nat.le_refl _, fun m' e' => by cases e'⟩
          · cases e
        · cases e
      · cases e
        exact ⟨rfl, by omega, Nat.le_refl _, fun m' e' => by cases e'⟩

section
variable {P : Program} {γ : Pl} {L : List Obj} {h : Heap} {h0 : Heap} {W0 : Ent}

/-! ### Slices -/
def listTy : Obj → Option TypeId
  | .li e _ => e
  | .fz e _ => e
  | _ => none
def dsliceV (P : Program) (L : List Obj) (t : TypeId) (x : DV) (lo hi mx : Option Value) : Option DV :=
  match P.underlying t with
  | some .string => match x with
    | .p (.v (.string s)) => scD (sliceV P (fun _ => none) t (.string s) lo hi mx)
    | _ => none
  | some (.slice e) => match szT P e with
    | some s => match x with
      | .p (.sl z rows) => if z = s then match boundsV rows.length rows.length lo hi mx with
          | some (l, r, none) => some (.p (.sl z ((rows.drop l).take (r - l))))
          | _ => none
        else none
      | .p (.v (.slice none 0 0)) => match boundsV 0 0 lo hi mx with
        | some _ => some (.p (.v (.slice none 0 0)))
        | none => none
      | .ref id a n tot => match rowsOf L id tot with
        | some _ => if (L[id]?.bind listTy).bind (szT P) = some s ∧ 0 < n then match boundsV n n lo hi mx with
            | some (l, r, _) => some (.ref id (a + l) (r - l) tot)
            | none => none
          else none
        | none => none
      | .aref id off n => match boundsV n n lo hi mx with
        | some (l, r, none) => if l < n then some (.aref id (off + l * s) (r - l)) else none
        | _ => none
      | _ => none
    | none => none
  | some (.array n e) => match szT P e with
    | some s => match x with
      | .ptr id off => match boundsV n n lo hi mx with
        | some (l, r, none) => if l < n ∧ n ≤ maxLen then some (.aref id (off + l * s) (r - l)) else none
        | _ => none
      | _ => none
    | none => none
  | _ => none
theorem dslice_sound (H : Hp P h0 W0 γ L h) {t : TypeId} {x d : DV} {v : Value} {lo hi mx : Option Value} (hx : (DR P (Free W0 γ L h) γ L h) x v) (e : dsliceV P L t x lo hi mx = some d) : ∃ u, sliceV P (elemSz P h) t v lo hi mx = some u ∧ (DR P (Free W0 γ L h) γ L h) d u := by
  have hdu : dud > maxLen := by decide
  have hun : unk > maxLen := by decide
  have hno : noapp > maxLen := by decide
  have hnu : noapp ≠ unk := by decide
  have hud : unk ≠ dud := by decide
  have hnd : noapp ≠ dud := by decide
  unfold dsliceV at e
  split at e
  · rename_i hu
    split at e
    case h_2 => cases e
    rename_i s
    have : v = .string s := PR.scal (P := P) (S := Free W0 γ L h) (h := h) hx
    subst this
    obtain ⟨u, e1, r1⟩ := scD_sound (P := P) (S := Free W0 γ L h) (γ := γ) (L := L) (h := h) e
    refine ⟨u, ?_, r1⟩
    rw [← e1]
    unfold sliceV
    simp only [hu]
  · rename_i te hu
    split at e
    case h_2 => cases e
    rename_i s hs
    unfold sliceV
    simp only [hu]
    split at e
    · rename_i z rows
      split at e
      case isFalse => cases e
      rename_i hz
      subst hz
      split at e
      case h_2 => cases e
      rename_i l r hb
      cases e
      obtain ⟨_, hlr, hr, _⟩ := bounds_le (Nat.le_refl _) hb
      cases (show PR P (Free W0 γ L h) h _ v from hx) with
      | nil =>
        simp only [hs]
        rw [show ([] : List (List PV)).length = 0 from rfl] at hb
        simp only [hb]
        refine ⟨_, rfl, ?_⟩
        rw [List.drop_nil, List.take_nil]
        exact PR.nil
      | dud =>
        simp only [hs]
        rw [show sureCap 0 dud = 0 from by decide]
        rw [show ([] : List (List PV)).length = 0 from rfl] at hb
        simp only [hb, if_true]
        refine ⟨_, rfl, ?_⟩
        rw [List.drop_nil, List.take_nil]
        exact PR.dud
      | sl hS hg h0z hl hw hrr hc hm =>
        rename_i b o c cs te' rw'
        have hcap : rows.length ≤ sureCap rows.length c := by
          unfold sureCap
          rcases hc with rfl | ⟨_, _, rfl | ⟨h1, h2⟩⟩
          · rw [if_neg hnu, if_pos rfl]; exact Nat.le_refl _
          · rw [if_pos rfl]; exact Nat.le_refl _
          · rw [if_neg (by omega), if_neg (by omega), if_neg (by omega)]; exact h1
        have hbd := (bounds_le hcap hb).1
        simp only [hs, hbd]
        rw [if_neg hc.nodud]
        have hE : ¬ (c ≠ noapp ∧ elemSz P h b ≠ some z) := by
          rintro ⟨h1, h2⟩
          rcases hc with rfl | ⟨rfl, h3, _⟩
          · exact h1 rfl
          · exact h2 (by unfold elemSz; rw [hg]; exact h3)
        rw [if_neg hE]
        have hlen : ((rows.drop l).take (r - l)).length = r - l := by simp; omega
        have hmul : r * z ≤ rows.length * z := Nat.mul_le_mul_right _ hr
        have hsub : (r - l) * z = r * z - l * z := Nat.sub_mul _ _ _
        have hlz : l * z ≤ r * z := Nat.mul_le_mul_right _ hlr
        have key : ∀ c', CapOk P c' (r - l) rw' te' z → PR P (Free W0 γ L h) h (.sl z ((rows.drop l).take (r - l))) (.slice (some ⟨b, o + l * z, none⟩) (r - l) c') := by
          intro c' hc'
          have := PR.sl (P := P) (S := Free W0 γ L h) (h := h) (rows := (rows.drop l).take (r - l)) (b := b) (o := o + l * z) (c := c') (z := z) hS hg h0z (by rw [hlen, hsub]; omega)
            (fun i q e1 => by
              rw [List.getElem?_take] at e1
              split at e1
              · rw [List.getElem?_drop] at e1; exact hw _ q e1
              · cases e1)
            (fun i q j x u e1 e2 e3 => by
              rw [List.getElem?_take] at e1
              split at e1
              · rw [List.getElem?_drop] at e1
                exact hrr (l + i) q j x u e1 e2 (by rw [← e3]; congr 1; rw [Nat.add_mul]; omega)
              · cases e1) (by rw [hlen]; exact hc') (by rw [hlen]; omega)
          rw [hlen] at this
          exact this
        by_cases hcu : c = unk ∨ c = noapp
        · rw [if_pos hcu]
          by_cases hlt : l < rows.length
          · rw [if_pos hlt]
            refine ⟨_, rfl, key c ?_⟩
            rcases hc with rfl | ⟨h1, h2, rfl | h3⟩
            · exact .inl rfl
            · exact .inr ⟨h1, h2, .inl rfl⟩
            · rcases hcu with rfl | rfl
              · omega
              · omega
          · rw [if_neg hlt]
            have : (rows.drop l).take (r - l) = [] := by rw [show r - l = 0 by omega]; simp
            rw [this]
            exact ⟨_, rfl, PR.dud⟩
        · rw [if_neg hcu]
          rcases hc with rfl | ⟨h1, h2, rfl | ⟨h3, h4⟩⟩
          · exact absurd (.inr rfl) hcu
          · exact absurd (.inl rfl) hcu
          by_cases hcl : c = l
          · rw [if_pos hcl]
            have : r - l = 0 := by omega
            rw [this]
            simp only [List.take_zero]
            refine ⟨_, rfl, ?_⟩
            exact PR.sl (rows := []) (z := z) (c := 0) hS hg h0z (by simp; omega) (by simp) (by simp) (.inr ⟨h1, h2, .inr ⟨Nat.le_refl _, Nat.zero_le _⟩⟩) (Nat.zero_le _)
          · rw [if_neg hcl]
            exact ⟨_, rfl, key (c - l) (.inr ⟨h1, h2, .inr ⟨by omega, by omega⟩⟩)⟩
    · split at e
      case h_2 => cases e
      rename_i q hb
      cases e
      have : v = .slice none 0 0 := PR.scal (P := P) (S := Free W0 γ L h) (h := h) hx
      subst this
      simp only [hs, hb]
      exact ⟨_, rfl, PR.v rfl⟩
    · rename_i id a n tot
      split at e
      case h_2 => cases e
      rename_i rows hro
      split at e
      case isFalse => cases e
      rename_i hcond
      obtain ⟨hsz, hn0⟩ := hcond
      split at e
      case h_2 => cases e
      rename_i l r om hb
      cases e
      obtain ⟨q, q1, q2, q3⟩ := rowsOf_some hro
      obtain ⟨z, hz⟩ := H.width q1 q2
      obtain ⟨k1, k2, k3⟩ := hx
      obtain ⟨k4, k5⟩ := k3 q rows q1 q2
      obtain ⟨k6, k7⟩ := k5 q3
      rcases k7 z hz with ⟨rfl, h1, h2⟩ | ⟨b, o, c, rfl, h1, h2⟩ | ⟨b, o, c, g, rfl, d1, d2, d3⟩
      · omega
      · omega
      obtain ⟨te', cs, z', r1, r2, r3, r4, r5, r6, r7⟩ := H.rows q1 q2 g
      have hne : 0 < rows.length := by omega
      have hzz : z' = z := by rw [← r6 _ (List.getElem_mem hne), hz _ (List.getElem_mem hne)]
      subst hzz
      have hte : listTy q = some te' := by
        have ho := H.obj id q q1
        cases q with
        | li tq rs =>
          cases tq with
          | none => rw [ho.2] at g; cases g
          | some tq =>
            obtain ⟨b', o', g', cs', zz, s1, s2, _⟩ := ho
            rw [g] at g'; cases g'
            rw [r1] at s1; cases s1; rfl
        | fz tq rs =>
          cases tq with
          | none => rw [ho.2] at g; cases g
          | some tq =>
            obtain ⟨b', o', g', _, cs', zz, s1, s2, _⟩ := ho
            rw [g] at g'; cases g'
            rw [r1] at s1; cases s1; rfl
        | st => exact q2.elim
        | dead => exact q2.elim
      have hsz' : z' = s := by
        rw [q1] at hsz
        simp only [Option.bind_some, hte, r2, Option.some.injEq] at hsz
        exact hsz
      subst hsz'
      have hcap : n ≤ sureCap n c := by
        unfold sureCap
        rcases d3 with rfl | ⟨h1, h2⟩
        · rw [if_pos rfl]; exact Nat.le_refl _
        · rw [if_neg (by omega), if_neg (by omega), if_neg (by omega)]; exact h1
      have hcap2 : c ≠ unk → sureCap n c = c := fun hc => by
        unfold sureCap
        rcases d3 with rfl | ⟨h1, h2⟩
        · exact absurd rfl hc
        · rw [if_neg hc, if_neg d2, if_neg d1]
      obtain ⟨hbd, hlr, hr, hom⟩ := bounds_le hcap hb
      simp only [hs, hbd]
      rw [if_neg d1]
      have hE : ¬ (c ≠ noapp ∧ elemSz P h b ≠ some z') := by
        rintro ⟨_, h2⟩
        exact h2 (by unfold elemSz; rw [r1]; exact r2)
      rw [if_neg hE]
      -- what the new slice is
      have fin : ∀ u, ((∃ b' o' c', u = .slice (some ⟨b', o', none⟩) 0 c' ∧ r - l = 0) ∨ (∃ c', u = .slice (some ⟨b, o + a * z' + l * z', none⟩) (r - l) c' ∧ c' ≠ dud ∧ c' ≠ noapp ∧ (c' = unk ∨ (r - l ≤ c' ∧ c' ≤ maxLen)))) → (DR P (Free W0 γ L h) γ L h) (.ref id (a + l) (r - l) tot) u := by
        intro u hu
        refine ⟨k1, ?_, fun q' rows' e1 e2 => ?_⟩
        · rcases hu with ⟨_, _, _, rfl, _⟩ | ⟨_, rfl, _⟩ <;> rfl
        · obtain ⟨m4, m5⟩ := k3 q' rows' e1 e2
          refine ⟨m4, fun e3 => ⟨by omega, fun z2 hz2 => ?_⟩⟩
          have hro' : rows' = rows := by
            rw [q1] at e1; cases e1
            cases q <;> first | (cases q2; cases e2; rfl) | exact q2.elim
          subst hro'
          have hz3 : z2 = z' := by rw [← r6 _ (List.getElem_mem hne), hz2 _ (List.getElem_mem hne)]
          subst hz3
          rcases hu with ⟨b', o', c', rfl, h2⟩ | ⟨c', rfl, f1, f2, f3⟩
          · exact .inr (.inl ⟨b', o', c', rfl, h2, by omega⟩)
          · refine .inr (.inr ⟨b, o, c', g, by rw [Nat.add_mul, Nat.add_assoc], f1, f2, f3⟩)
      have e0 : o + a * z' = o + a * z' := rfl
      cases om with
      | some m =>
        obtain ⟨m1, m2⟩ := hom m rfl
        simp only
        by_cases hml : m = l
        · rw [if_pos hml]
          have : r - l = 0 := by omega
          exact ⟨_, rfl, fin _ (.inl ⟨b, o + a * z', 0, by rw [this], this⟩)⟩
        · rw [if_neg hml, if_neg d2]
          have : m - l ≤ maxLen := by omega
          exact ⟨_, rfl, fin _ (.inr ⟨m - l, rfl, by omega, by omega, .inr ⟨by omega, this⟩⟩)⟩
      | none =>
        simp only
        by_cases hcu : c = unk
        · rw [if_pos (.inl hcu)]
          by_cases hlt : l < n
          · rw [if_pos hlt]
            exact ⟨_, rfl, fin _ (.inr ⟨c, rfl, d1, d2, .inl hcu⟩)⟩
          · rw [if_neg hlt]
            have : r - l = 0 := by omega
            exact ⟨_, rfl, fin _ (.inl ⟨b, o + a * z', dud, rfl, this⟩)⟩
        · rw [if_neg (by rintro (q | q) <;> contradiction)]
          have hd := d3.resolve_left hcu
          by_cases hcl : c = l
          · rw [if_pos hcl]
            have : r - l = 0 := by omega
            exact ⟨_, rfl, fin _ (.inl ⟨b, o + a * z', 0, by rw [this], this⟩)⟩
          · rw [if_neg hcl]
            exact ⟨_, rfl, fin _ (.inr ⟨c - l, rfl, by omega, by omega, .inr ⟨by omega, by omega⟩⟩)⟩
    · rename_i id off n
      split at e
      case h_2 => cases e
      rename_i l r hb
      split at e
      case isFalse => cases e
      rename_i hl
      cases e
      obtain ⟨b, h1, h2, rfl⟩ := hx
      have hcap : sureCap n noapp = n := by unfold sureCap; rw [if_neg hnu, if_pos rfl]
      simp only [hs, hcap, hb]
      rw [if_neg hnd, if_neg (by rintro ⟨q, _⟩; exact q rfl), if_pos (by simp), if_pos hl]
      exact ⟨_, rfl, b, h1, h2, rfl⟩
    · cases e
  · rename_i n te hu
    split at e
    case h_2 => cases e
    rename_i s hs
    split at e
    case h_2 => cases e
    rename_i id off
    split at e
    case h_2 => cases e
    rename_i l r hb
    split at e
    case isFalse => cases e
    rename_i hl
    cases e
    obtain ⟨b, h1, h2, rfl⟩ := hx
    unfold sliceV
    simp only [hu, hs, hb, Option.getD_none]
    rw [if_pos hl.2, if_neg (by omega)]
    exact ⟨_, rfl, b, h1, h2, rfl⟩
  · cases e

/-! ### Lengths -/
def dlenV (P : Program) (L : List Obj) (t : TypeId) (x : DV) : Option DV :=
  match P.underlying t with
  | some (.slice _) => match x with
    | .p (.sl _ rows) => some (.p (.v (goInt rows.length)))
    | .p (.v (.slice none 0 0)) => some (.p (.v (goInt (0 : Nat))))
    | .ref id _ n tot => match rowsOf L id tot with
      | some _ => some (.p (.v (goInt n)))
      | none => none
    | .aref _ _ n => some (.p (.v (goInt n)))
    | _ => none
  | some .string => match x with
    | .p (.v (.string s)) => some (.p (.v (goInt s.size)))
    | _ => none
  | some (.array n _) => match x with
    | .agg _ => some (.p (.v (goInt n)))
    | _ => none
  | _ => none
theorem dlen_sound (H : Hp P h0 W0 γ L h) {t : TypeId} {x d : DV} {v : Value} (hx : (DR P (Free W0 γ L h) γ L h) x v) (e : dlenV P L t x = some d) : ∃ u, lenH P t h v = some u ∧ (DR P (Free W0 γ L h) γ L h) d u := by
  unfold dlenV at e
  unfold lenH
  split at e
  · rename_i te hu
    simp only [hu]
    unfold lenV
    simp only [hu]
    split at e
    · cases e
      cases (show PR P (Free W0 γ L h) h _ v from hx) with
      | nil => exact ⟨_, rfl, PR.v rfl⟩
      | dud => exact ⟨_, rfl, PR.v rfl⟩
      | sl => exact ⟨_, rfl, PR.v rfl⟩
    · cases e
      have : v = .slice none 0 0 := PR.scal (P := P) (S := Free W0 γ L h) (h := h) hx
      subst this
      exact ⟨_, rfl, PR.v rfl⟩
    · rename_i id a n tot
      split at e
      case h_2 => cases e
      rename_i rows hro
      cases e
      obtain ⟨q, q1, q2, q3⟩ := rowsOf_some hro
      obtain ⟨z, hz⟩ := H.width q1 q2
      obtain ⟨k1, k2, k3⟩ := hx
      obtain ⟨k4, k5⟩ := k3 q rows q1 q2
      obtain ⟨k6, k7⟩ := k5 q3
      rcases k7 z hz with ⟨rfl, h1, h2⟩ | ⟨b, o, c, rfl, h1, h2⟩ | ⟨b, o, c, g, rfl, d1⟩
      · have : n = 0 := by omega
        subst this
        exact ⟨_, rfl, PR.v rfl⟩
      · subst h1
        exact ⟨_, rfl, PR.v rfl⟩
      · exact ⟨_, rfl, PR.v rfl⟩
    · cases e
      obtain ⟨b, _, _, rfl⟩ := hx
      exact ⟨_, rfl, PR.v rfl⟩
    · cases e
  · rename_i hu
    simp only [hu]
    split at e
    · cases e
      rename_i s
      have : v = .string s := PR.scal (P := P) (S := Free W0 γ L h) (h := h) hx
      subst this
      exact ⟨_, by simp only [lenV, hu], PR.v rfl⟩
    · cases e
  · rename_i n te hu
    simp only [hu]
    split at e
    · cases e
      obtain ⟨vs, rfl, _⟩ := hx
      exact ⟨_, by simp only [lenV, hu], PR.v rfl⟩
    · cases e
  · cases e
end
end Go.Sim

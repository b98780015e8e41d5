/- What a law's arguments are, read as data: lifted into an abstract heap that is only read. -/
import Derived.Test.YtonejeaomblpiaaGreatA17
import Derived.ProofKit
import Derived.OpenShut
import Derived.Carry
set_option linter.unusedSimpArgs false
set_option linter.unusedVariables false
set_option linter.defProp false
namespace Go.Sim
open Go.RowKit

/-! ### Types of plain data -/
def plainF (P : Program) (pt : TypeId → Bool) : List Field → Nat → Nat → Bool
  | [], off, n => decide (off = n)
  | f :: fs, off, n => decide (f.offset = off) && pt f.type && plainF P pt fs (off + P.cellsOf f.type) n
def plainT (P : Program) : Nat → TypeId → Bool
  | 0, _ => false
  | d + 1, t => match P.underlying t with
    | some .bool => true
    | some (.int _) => true
    | some .string => true
    | some (.slice e) => plainT P d e && decide (0 < P.cellsOf e)
    | some (.struct fs) => plainF P (plainT P d) fs.toList 0 (P.cellsOf t)
    | some (.array n e) => plainT P d e && decide (n * P.cellsOf e = P.cellsOf t)
    | _ => false

/-- Abstract cells that read as a value of a type. -/
def RV (P : Program) (h : Heap) : Nat → TypeId → List Value → Prop
  | 0, _, _ => False
  | d + 1, t, cs => match P.underlying t with
    | some .bool => ∃ b, cs = [.bool b]
    | some (.int k) => ∃ x, cs = [.int k x] ∧ (Lit.int k x).wf = true
    | some .string => ∃ s : ByteArray, cs = [.string s] ∧ s.size ≤ maxLen
    | some (.slice e) => cs = [.slice none 0 0] ∨ cs = [.slice (some ⟨0, 0, none⟩) 0 dud] ∨ ∃ (b : Nat) (rows : List (List Value)), cs = [.slice (some ⟨b, 0, none⟩) rows.length noapp] ∧ rows ≠ [] ∧ rows.length ≤ maxLen ∧
        h.get b = some (.cells rows.flatten e false) ∧ ∀ r ∈ rows, r.length = P.cellsOf e ∧ RV P h d e r
    | some (.struct fs) => cs.length = P.cellsOf t ∧ ∀ f ∈ fs.toList, RV P h d f.type ((cs.drop f.offset).take (P.cellsOf f.type))
    | some (.array n e) => cs.length = P.cellsOf t ∧ ∀ i, i < n → RV P h d e ((cs.drop (i * P.cellsOf e)).take (P.cellsOf e))
    | _ => False

theorem RV.ext {P : Program} {h h' : Heap} (hx : Ext h h') : ∀ {d : Nat} {t : TypeId} {cs : List Value}, RV P h d t cs → RV P h' d t cs
  | 0, _, _, q => q
  | d + 1, t, cs, q => by
    unfold RV at q ⊢
    split at q
    · exact q
    · exact q
    · exact q
    · rcases q with q | q | ⟨b, rows, h1, h0, h2, h3, h4⟩
      · exact .inl q
      · exact .inr (.inl q)
      · exact .inr (.inr ⟨b, rows, h1, h0, h2, (hx.get b (h.wf _ _ h3)).trans h3, fun r hr => ⟨(h4 r hr).1, (h4 r hr).2.ext hx⟩⟩)
    · exact ⟨q.1, fun f hf => (q.2 f hf).ext hx⟩
    · exact ⟨q.1, fun i hi => (q.2 i hi).ext hx⟩
    · exact q

/-- More fuel does no harm. -/
theorem RV.succ {P : Program} {h : Heap} : ∀ {d : Nat} {t : TypeId} {cs : List Value}, RV P h d t cs → RV P h (d + 1) t cs
  | 0, _, _, q => q.elim
  | d + 1, t, cs, q => by
    unfold RV at q ⊢
    split at q
    · exact q
    · exact q
    · exact q
    · rcases q with q | q | ⟨b, rows, h1, h0, h2, h3, h4⟩
      · exact .inl q
      · exact .inr (.inl q)
      · exact .inr (.inr ⟨b, rows, h1, h0, h2, h3, fun r hr => ⟨(h4 r hr).1, (h4 r hr).2.succ⟩⟩)
    · exact ⟨q.1, fun f hf => (q.2 f hf).succ⟩
    · exact ⟨q.1, fun i hi => (q.2 i hi).succ⟩
    · exact q.elim

/-- Nothing may be written. -/
def RO (h : Heap) : Prop := ∀ b o, h.get b = some o → o.rw = false

/-- How the abstract state goes on while the machine's stays. -/
structure Lift (P : Program) (w : World) (β : Place) (h : Heap) (β' : Place) (h' : Heap) : Prop where
  rel : Rel P β' h' w
  ro : RO h'
  place : ∀ b x, β b = some x → β' b = some x
  ext : Ext h h'
theorem Lift.refl {P : Program} {w : World} {β : Place} {h : Heap} (hr : Rel P β h w) (ho : RO h) : Lift P w β h β h := ⟨hr, ho, fun _ _ e => e, Ext.refl h⟩
theorem Lift.trans {P : Program} {w : World} {β β1 β2 : Place} {h h1 h2 : Heap} (x : Lift P w β h β1 h1) (y : Lift P w β1 h1 β2 h2) : Lift P w β h β2 h2 :=
  ⟨y.rel, y.ro, fun b q e => y.place _ _ (x.place _ _ e), x.ext.trans y.ext⟩

theorem Lift.push {P : Program} {w : World} {β : Place} {h : Heap} (hr : Rel P β h w) (ho : RO h) {m off : Nat} {mc : Array Value} {te e : TypeId} {fr : Nat × Nat} {cs : List Value}
    (hm : w.heap[m]? = some (.cells mc te fr)) (hle : off + cs.length ≤ mc.size) (hv : VRels β cs ((mc.toList.drop off).take cs.length)) :
    Lift P w β h (β.add h.next m ⟨off, 0, 0⟩) (h.push (.cells cs e false)) := by
  have hn := hr.noNext
  have hmono := Place.add_mono m ⟨off, 0, 0⟩ hn
  have hmw : m < w.heap.size := (Array.getElem?_eq_some_iff.1 hm).1
  have old : ∀ b, b ≠ h.next → (h.push (.cells cs e false)).get b = h.get b := fun b hb => Heap.get_push_ne _ _ hb
  refine ⟨⟨fun b m1 s1 q => ?_, fun b m1 s1 o q g => ?_, fun b b' m1 s1 s2 o o' q q' g g' hrw => ?_⟩, fun b o g => ?_, hmono, (Ext.refl h).push _⟩
  · by_cases hb : b = h.next
    · subst hb; rw [Place.add_same] at q; cases q; exact ⟨by simp, hmw⟩
    · rw [Place.add_ne _ _ _ hb] at q
      obtain ⟨h1, h2⟩ := hr.dom b m1 s1 q
      exact ⟨by simp; omega, h2⟩
  · by_cases hb : b = h.next
    · subst hb
      rw [Place.add_same] at q
      cases q
      rw [Heap.get_push_self] at g
      cases g
      exact ⟨mc, fr, te, hm, hle, hv.mono hmono, fun e => by cases e⟩
    · rw [Place.add_ne _ _ _ hb] at q
      rw [old b hb] at g
      exact (hr.obj b m1 s1 o q g).mono hmono rfl
  · exfalso
    by_cases hb : b = h.next
    · subst hb; rw [Heap.get_push_self] at g; cases g; cases hrw
    · rw [old b hb] at g; rw [ho b o g] at hrw; cases hrw
  · by_cases hb : b = h.next
    · subst hb; rw [Heap.get_push_self] at g; cases g; rfl
    · rw [old b hb] at g; exact ho b o g

section
variable {H : Type} {enc : TypeId × Value → H} {P : Program} {w : World}

/-- A list of readings, each lifted. -/
theorem lift_list (d : Nat) (t : TypeId) (step : ∀ (n : Nat) (cs : List Value) (x : DataW H × List MemPlace), DataW.trod enc P w 0 (fun _ => true) true n t cs = some x → ∀ β h, Rel P β h w → RO h →
      ∃ β' h' acs, Lift P w β h β' h' ∧ VRels β' acs cs ∧ RV P h' d t acs) :
    ∀ (ls : List (List Value)), (∀ l ∈ ls, ∃ n x, DataW.trod enc P w 0 (fun _ => true) true n t l = some x) → ∀ β h, Rel P β h w → RO h →
      ∃ (β' : Place) (h' : Heap) (als : List (List Value)), Lift P w β h β' h' ∧ VRels β' als.flatten ls.flatten ∧ als.length = ls.length ∧ (∀ (i : Nat) (a : List Value), als[i]? = some a → ∃ l : List Value, ls[i]? = some l ∧ a.length = l.length ∧ RV P h' d t a)
  | [], _, β, h, hr, ho => ⟨β, h, [], Lift.refl hr ho, .nil, rfl, fun i a e => by simp at e⟩
  | l :: ls, hl, β, h, hr, ho => by
    obtain ⟨n, x, e⟩ := hl l (by simp)
    obtain ⟨β1, h1, acs, L1, v1, r1⟩ := step n l x e β h hr ho
    obtain ⟨β2, h2, als, L2, v2, hlen, r2⟩ := lift_list d t step ls (fun l' h' => hl l' (by simp [h'])) β1 h1 L1.rel L1.ro
    refine ⟨β2, h2, acs :: als, L1.trans L2, ?_, by simp [hlen], fun i a e => ?_⟩
    · simp only [List.flatten_cons]
      exact (v1.mono L2.place).append v2
    · cases i with
      | zero => simp at e; subst e; exact ⟨l, rfl, v1.length, r1.ext L2.ext⟩
      | succ i => simpa using r2 i a (by simpa using e)

theorem flat_len : ∀ (ls : List (List Value)) (z : Nat), (∀ l ∈ ls, l.length = z) → ls.flatten.length = ls.length * z
  | [], z, _ => by simp
  | a :: ls, z, hz => by
    rw [List.flatten_cons, List.length_append, flat_len ls z (fun l h => hz l (by simp [h])), hz a (by simp), List.length_cons, Nat.add_mul]
    omega
theorem flat_at : ∀ (ls : List (List Value)) (z i : Nat) (l : List Value), (∀ l ∈ ls, l.length = z) → ls[i]? = some l → (ls.flatten.drop (i * z)).take z = l
  | [], z, i, l, _, e => by simp at e
  | a :: ls, z, 0, l, hz, e => by
    simp at e; subst e
    have := hz a (by simp)
    simp [← this]
  | a :: ls, z, i + 1, l, hz, e => by
    have ha := hz a (by simp)
    have := flat_at ls z i l (fun l h => hz l (by simp [h])) (by simpa using e)
    rw [List.flatten_cons, List.drop_append, show (i + 1) * z = a.length + i * z by rw [ha, Nat.add_mul]; omega]
    rw [List.drop_eq_nil_of_le (by omega)]
    simpa using this

theorem flat_of (xs : List Value) (z : Nat) : ∀ (n : Nat), xs.length = n * z → ((List.range n).map fun i => (xs.drop (i * z)).take z).flatten = xs
  | 0, h => by
    have : xs.length = 0 := by simpa using h
    simp [List.length_eq_zero_iff.1 this]
  | n + 1, h => by
    have hn : (n + 1) * z = n * z + z := by rw [Nat.add_mul]; omega
    have ih := flat_of (xs.take (n * z)) z n (by simp; omega)
    rw [List.range_succ, List.map_append, List.flatten_append]
    have e : (List.range n).map (fun i => (xs.drop (i * z)).take z) = (List.range n).map (fun i => ((xs.take (n * z)).drop (i * z)).take z) := by
      apply List.map_congr_left
      intro i hi
      have hi' : i < n := by simpa using hi
      have : (i + 1) * z ≤ n * z := Nat.mul_le_mul_right _ hi'
      rw [List.drop_take, List.take_take, Nat.min_eq_left (by rw [Nat.add_mul] at this; omega)]
    rw [e, ih]
    simp only [List.map_cons, List.map_nil, List.flatten_cons, List.flatten_nil, List.append_nil]
    rw [List.take_of_length_le (l := xs.drop (n * z)) (by simp; omega)]
    exact List.take_append_drop _ _

/-- What stands in a slice, row by row. -/
theorem rows_of {a : Addr} {z n : Nat} {ls : List (List Value)} (hz : 0 < z) (hn : 0 < n) (hl : ls.length = n) (h : ∀ i, i < n → w.cells? 0 (a.add (i * z)) z = ls[i]?) :
    ∃ mc te fr, w.heap[a.block]? = some (.cells mc te fr) ∧ a.spot = none ∧ a.off + n * z ≤ mc.size ∧ ls.flatten = (mc.toList.drop a.off).take (n * z) ∧ ∀ l ∈ ls, l.length = z := by
  have each : ∀ i, i < n → ∃ l, ls[i]? = some l ∧ l.length = z ∧ ∀ j, j < z → w.cell? ((a.add (i * z)).add j) = l[j]? := by
    intro i hi
    have hs : ∃ l, ls[i]? = some l := ⟨_, List.getElem?_eq_getElem (by omega)⟩
    obtain ⟨l, e⟩ := hs
    have hc := h i hi
    rw [e] at hc
    unfold World.cells? at hc
    rw [if_pos (Nat.zero_le _)] at hc
    have h1 := mapM_some_length hc
    refine ⟨l, e, by simpa using h1, fun j hj => mapM_some_get hc j j (by simp [hj])⟩
  have addadd : ∀ i j, (a.add i).add j = a.add (i + j) := by
    intro i j
    unfold Addr.add
    by_cases h1 : i = 0
    · subst h1; simp
    · by_cases h2 : j = 0
      · subst h2; simp
      · simp [h1, h2]; omega
  obtain ⟨l0, e0, hl0, c0⟩ := each 0 hn
  have c00 := c0 0 hz
  rw [Nat.zero_mul, addadd] at c00
  simp only [Nat.add_zero, Addr.add, if_true] at c00
  have hv0 : ∃ v, w.cell? a = some v := ⟨l0[0]'(by omega), by rw [c00]; exact List.getElem?_eq_getElem _⟩
  obtain ⟨v0, hv0⟩ := hv0
  unfold World.cell? at hv0
  split at hv0
  · rename_i mc te fr hm
    by_cases hsp : a.spot.isSome = true
    · rw [if_pos hsp] at hv0; cases hv0
    · have hspn : a.spot = none := by cases hq : a.spot with
        | none => rfl
        | some _ => rw [hq] at hsp; simp at hsp
      have cell : ∀ k, w.cell? (a.add k) = mc[a.off + k]? := by
        intro k
        unfold World.cell? Addr.add
        by_cases hk : k = 0
        · subst hk; simp [hm, hspn]
        · simp [hk, hm]
      have all : ∀ i, i < n → ∀ j, j < z → mc[a.off + (i * z + j)]? = (ls.flatten)[i * z + j]? := by
        intro i hi j hj
        obtain ⟨l, e, hl1, c1⟩ := each i hi
        have hlen : ∀ l ∈ ls, l.length = z := by
          intro l hm2
          obtain ⟨k, hk⟩ := List.getElem?_of_mem hm2
          have hkl : k < ls.length := (List.getElem?_eq_some_iff.1 hk).1
          obtain ⟨l2, e2, hl2, _⟩ := each k (by omega)
          rw [hk] at e2; cases e2; exact hl2
        have := flat_at ls z i l hlen e
        have h2 : l[j]? = ls.flatten[i * z + j]? := by
          rw [← this, List.getElem?_take, if_pos hj, List.getElem?_drop]
        rw [← h2, ← c1 j hj, addadd, cell]
      have hlen : ∀ l ∈ ls, l.length = z := by
        intro l hm2
        obtain ⟨k, hk⟩ := List.getElem?_of_mem hm2
        have hkl : k < ls.length := (List.getElem?_eq_some_iff.1 hk).1
        obtain ⟨l2, e2, hl2, _⟩ := each k (by omega)
        rw [hk] at e2; cases e2; exact hl2
      have hfl := flat_len ls z hlen
      rw [hl] at hfl
      have pos : ∀ q, q < n * z → mc[a.off + q]? = ls.flatten[q]? := by
        intro q hq
        have h1 := all (q / z) ((Nat.div_lt_iff_lt_mul hz).2 hq) (q % z) (Nat.mod_lt _ hz)
        rw [Nat.mul_comm, Nat.div_add_mod] at h1
        exact h1
      have hsz : a.off + n * z ≤ mc.size := by
        have hq : n * z - 1 < n * z := by have := Nat.mul_le_mul_right z hn; omega
        have h1 := pos (n * z - 1) hq
        rw [List.getElem?_eq_getElem (by omega)] at h1
        have := (Array.getElem?_eq_some_iff.1 h1).1
        omega
      refine ⟨mc, te, fr, hm, hspn, hsz, ?_, hlen⟩
      apply List.ext_getElem?
      intro q
      by_cases hq : q < n * z
      · rw [← pos q hq, List.getElem?_take, if_pos hq, List.getElem?_drop]
        simp
      · rw [List.getElem?_eq_none (by omega), List.getElem?_eq_none (by simp; omega)]
  · cases hv0


theorem lift_fields (d : Nat) (ih : ∀ t, plainT P d t = true → ∀ (n : Nat) (cs : List Value) (x : DataW H × List MemPlace), DataW.trod enc P w 0 (fun _ => true) true n t cs = some x → ∀ β h, Rel P β h w → RO h →
      ∃ (β' : Place) (h' : Heap) (acs : List Value), Lift P w β h β' h' ∧ VRels β' acs cs ∧ RV P h' d t acs) :
    ∀ (fs : List Field) (off N : Nat) (cs : List Value), plainF P (plainT P d) fs off N = true → off + cs.length = N →
      (∀ f ∈ fs, off ≤ f.offset → ∃ n x, DataW.trod enc P w 0 (fun _ => true) true n f.type ((cs.drop (f.offset - off)).take (P.cellsOf f.type)) = some x) → ∀ β h, Rel P β h w → RO h →
      ∃ (β' : Place) (h' : Heap) (acs : List Value), Lift P w β h β' h' ∧ VRels β' acs cs ∧ ∀ f ∈ fs, off ≤ f.offset ∧ RV P h' d f.type ((acs.drop (f.offset - off)).take (P.cellsOf f.type))
  | [], off, N, cs, hp, hl, _, β, h, hr, ho => by
    simp only [plainF, decide_eq_true_eq] at hp
    have : cs.length = 0 := by omega
    have : cs = [] := List.length_eq_zero_iff.1 this
    subst this
    exact ⟨β, h, [], Lift.refl hr ho, .nil, by simp⟩
  | f :: fs, off, N, cs, hp, hl, ht, β, h, hr, ho => by
    simp only [plainF, Bool.and_eq_true, decide_eq_true_eq] at hp
    obtain ⟨⟨hoff, hpt⟩, hrest⟩ := hp
    have hle : ∀ (fs : List Field) (off N : Nat), plainF P (plainT P d) fs off N = true → off ≤ N ∧ ∀ f ∈ fs, off ≤ f.offset := by
      intro fs
      induction fs with
      | nil => intro off N hp; simp [plainF] at hp; exact ⟨by omega, by simp⟩
      | cons g gs ihg =>
        intro off N hp
        simp only [plainF, Bool.and_eq_true, decide_eq_true_eq] at hp
        obtain ⟨h1, h2⟩ := ihg _ _ hp.2
        refine ⟨by omega, fun f hf => ?_⟩
        rcases List.mem_cons.1 hf with rfl | hf
        · omega
        · have := h2 f hf; omega
    obtain ⟨hN, hge⟩ := hle _ _ _ hrest
    obtain ⟨n, x, e⟩ := ht f (by simp) (by omega)
    rw [hoff, Nat.sub_self, List.drop_zero] at e
    obtain ⟨β1, h1, a1, L1, v1, r1⟩ := ih f.type hpt n _ x e β h hr ho
    obtain ⟨β2, h2, a2, L2, v2, r2⟩ := lift_fields d ih fs (off + P.cellsOf f.type) N (cs.drop (P.cellsOf f.type)) hrest (by simp; omega) (fun g hg hgo => by
      obtain ⟨n, x, e⟩ := ht g (by simp [hg]) (by omega)
      refine ⟨n, x, ?_⟩
      rw [List.drop_drop]
      rw [← e]
      congr 3
      omega) β1 h1 L1.rel L1.ro
    have hlen1 : a1.length = P.cellsOf f.type := by rw [v1.length]; simp; omega
    refine ⟨β2, h2, a1 ++ a2, L1.trans L2, ?_, fun g hg => ?_⟩
    · have := (v1.mono L2.place).append v2
      rwa [List.take_append_drop] at this
    · rcases List.mem_cons.1 hg with rfl | hg
      · refine ⟨by omega, ?_⟩
        rw [hoff, Nat.sub_self, List.drop_zero, List.take_left' hlen1]
        exact r1.ext L2.ext
      · obtain ⟨q1, q2⟩ := r2 g hg
        refine ⟨by omega, ?_⟩
        rw [List.drop_append, List.drop_eq_nil_of_le (by omega), List.nil_append, hlen1]
        rwa [show g.offset - off - P.cellsOf f.type = g.offset - (off + P.cellsOf f.type) by omega]

theorem lift (d : Nat) : ∀ t, plainT P d t = true → ∀ (n : Nat) (cs : List Value) (x : DataW H × List MemPlace), DataW.trod enc P w 0 (fun _ => true) true n t cs = some x → ∀ β h, Rel P β h w → RO h →
    ∃ (β' : Place) (h' : Heap) (acs : List Value), Lift P w β h β' h' ∧ VRels β' acs cs ∧ RV P h' d t acs := by
  induction d with
  | zero => intro t h; simp [plainT] at h
  | succ d ih =>
    intro t hp n cs x ht β h hr ho
    unfold plainT at hp
    cases hu : P.underlying t with
    | none => simp [hu] at hp
    | some D =>
      rw [hu] at hp
      cases D <;> simp only [Bool.false_eq_true] at hp
      case bool =>
        obtain ⟨b, rfl, _⟩ := DataW.trod_bool hu ht
        exact ⟨β, h, [.bool b], Lift.refl hr ho, .cons (.bool b) .nil, by unfold RV; rw [hu]; exact ⟨b, rfl⟩⟩
      case int k =>
        obtain ⟨m, rfl, _, hw⟩ := DataW.trod_int hu ht
        exact ⟨β, h, [.int k m], Lift.refl hr ho, .cons (.int k m) .nil, by unfold RV; rw [hu]; exact ⟨m, rfl, hw⟩⟩
      case string =>
        obtain ⟨s, rfl, _, hs⟩ := DataW.trod_string hu ht
        exact ⟨β, h, [.string s], Lift.refl hr ho, .cons (.string s) .nil, by unfold RV; rw [hu]; exact ⟨s, rfl, hs⟩⟩
      case struct fs =>
        obtain ⟨xs, m, rfl, _, hl, hxl, hx⟩ := DataW.trod_struct hu ht
        have hp' : plainF P (plainT P d) fs.toList 0 (P.cellsOf t) = true := hp
        obtain ⟨β', h', acs, L, v, r⟩ := lift_fields d ih fs.toList 0 (P.cellsOf t) cs hp' (by omega) (fun f hf _ => by
          obtain ⟨i, hi⟩ := List.getElem?_of_mem hf
          have hi' : fs[i]? = some f := by simpa using hi
          have := hx i f hi'
          have hlt : i < xs.length := by rw [hxl]; exact (Array.getElem?_eq_some_iff.1 hi').1
          rw [List.getElem?_eq_getElem hlt] at this
          exact ⟨m, _, by simpa using this⟩) β h hr ho
        refine ⟨β', h', acs, L, v, ?_⟩
        unfold RV
        rw [hu]
        refine ⟨by rw [v.length]; exact hl, fun f hf => ?_⟩
        have := (r f hf).2
        simpa using this
      case array n2 e =>
        simp only [Bool.and_eq_true, decide_eq_true_eq] at hp
        obtain ⟨hpe, hsz⟩ := hp
        obtain ⟨xs, m, rfl, _, hl, hxl, hx⟩ := DataW.trod_array hu ht
        have hflat := flat_of cs (P.cellsOf e) n2 (by rw [hl, hsz])
        obtain ⟨β', h', als, L, v, hlen, r⟩ := lift_list d e (fun n cs x ht β h hr ho => ih e hpe n cs x ht β h hr ho) ((List.range n2).map fun i => (cs.drop (i * P.cellsOf e)).take (P.cellsOf e)) (fun l hl2 => by
          obtain ⟨i, hi, rfl⟩ := List.mem_map.1 hl2
          have hi' : i < n2 := by simpa using hi
          have := hx i hi'
          rw [List.getElem?_eq_getElem (by omega)] at this
          exact ⟨m, _, this⟩) β h hr ho
        rw [hflat] at v
        refine ⟨β', h', als.flatten, L, v, ?_⟩
        have hz : ∀ a ∈ als, a.length = P.cellsOf e ∧ RV P h' d e a := by
          intro a ha
          obtain ⟨i, hi⟩ := List.getElem?_of_mem ha
          obtain ⟨l, h1, h2, h3⟩ := r i a hi
          refine ⟨?_, h3⟩
          rw [h2]
          have hm := List.mem_of_getElem? h1
          obtain ⟨k, hk, rfl⟩ := List.mem_map.1 hm
          have hk' : k < n2 := by simpa using hk
          have : (k + 1) * P.cellsOf e ≤ n2 * P.cellsOf e := Nat.mul_le_mul_right _ hk'
          rw [Nat.add_mul] at this
          simp
          omega
        unfold RV
        rw [hu]
        refine ⟨by rw [v.length]; exact hl, fun i hi => ?_⟩
        have hal : i < als.length := by rw [hlen]; simpa using hi
        rw [flat_at als (P.cellsOf e) i als[i] (fun a ha => (hz a ha).1) (List.getElem?_eq_getElem hal)]
        exact (hz _ (List.getElem_mem hal)).2
      case slice e =>
        simp only [Bool.and_eq_true, decide_eq_true_eq] at hp
        obtain ⟨hpe, hpos⟩ := hp
        rcases DataW.trod_slice hu ht with ⟨rfl, _⟩ | ⟨a, len, cap, elems, rest, m, rfl, rfl, _, _, hlc, hcm, hel, hx, _, _⟩
        · exact ⟨β, h, [.slice none 0 0], Lift.refl hr ho, .cons .nilslice .nil, by unfold RV; rw [hu]; exact .inl rfl⟩
        · by_cases h0 : len = 0
          · subst h0
            exact ⟨β, h, [.slice (some ⟨0, 0, none⟩) 0 dud], Lift.refl hr ho, .cons .dud .nil, by unfold RV; rw [hu]; exact .inr (.inl rfl)⟩
          · have hex : ∀ i, i < len → ∃ l y, w.cells? 0 (a.add (i * P.cellsOf e)) (P.cellsOf e) = some l ∧ DataW.trod enc P w 0 (fun _ => true) true m e l = some y := by
              intro i hi
              have := hx i hi
              rw [List.getElem?_eq_getElem (by omega), Option.bind_eq_some_iff] at this
              obtain ⟨l, h1, h2⟩ := this
              exact ⟨l, _, h1, h2⟩
            let ls : List (List Value) := (List.range len).map fun i => (w.cells? 0 (a.add (i * P.cellsOf e)) (P.cellsOf e)).getD []
            have hls : ∀ i, i < len → w.cells? 0 (a.add (i * P.cellsOf e)) (P.cellsOf e) = ls[i]? := by
              intro i hi
              obtain ⟨l, _, h1, _⟩ := hex i hi
              simp [ls, hi, h1]
            have hlsl : ls.length = len := by simp [ls]
            obtain ⟨mc, te, fr, hm, hsp, hsz, hfl, hlz⟩ := rows_of hpos (by omega) hlsl hls
            obtain ⟨β', h', als, L, v, hlen, r⟩ := lift_list d e (fun n cs x ht β h hr ho => ih e hpe n cs x ht β h hr ho) ls (fun l hl2 => by
              obtain ⟨i, hi, rfl⟩ := List.mem_map.1 hl2
              obtain ⟨l, y, h1, h2⟩ := hex i (by simpa using hi)
              exact ⟨m, y, by rw [h1]; exact h2⟩) β h hr ho
            have hz : ∀ a ∈ als, a.length = P.cellsOf e ∧ RV P h' d e a := by
              intro a ha
              obtain ⟨i, hi⟩ := List.getElem?_of_mem ha
              obtain ⟨l, h1, h2, h3⟩ := r i a hi
              exact ⟨by rw [h2]; exact hlz l (List.mem_of_getElem? h1), h3⟩
            have hfl2 : als.flatten.length = len * P.cellsOf e := by rw [flat_len als _ (fun a ha => (hz a ha).1), hlen, hlsl]
            have L2 := Lift.push (off := a.off) (e := e) (cs := als.flatten) L.rel L.ro hm (by omega) (by rw [hfl2, ← hfl]; exact v)
            refine ⟨_, _, [.slice (some ⟨h'.next, 0, none⟩) als.length noapp], L.trans L2, .cons ?_ .nil, ?_⟩
            · have haddr : a = ⟨a.block, a.off + 0, none⟩ := by
                cases a; simp_all
              rw [haddr, hlen, hlsl]
              exact VRel.slice (s := ⟨a.off, 0, 0⟩) (Place.add_same _ _ _ _) (.inr (.inl rfl)) hlc hcm (.inl rfl)
            · unfold RV
              rw [hu]
              refine .inr (.inr ⟨h'.next, als, rfl, ?_, by omega, Heap.get_push_self _ _, fun r hr => ⟨(hz r hr).1, (hz r hr).2.ext L2.ext⟩⟩)
              rintro rfl
              simp at hlen
              omega
end

/-- A value that reads as one of a type. -/
def RVal (P : Program) (h : Heap) (d : Nat) (t : TypeId) (v : Value) : Prop :=
  match P.underlying t with
  | some (.struct _) => ∃ cs : List Value, v = .agg cs.toArray ∧ RV P h d t cs
  | some (.array _ _) => ∃ cs : List Value, v = .agg cs.toArray ∧ RV P h d t cs
  | _ => RV P h d t [v]
def RVals (P : Program) (h : Heap) (d : Nat) : List TypeId → List Value → Prop
  | [], [] => True
  | t :: ts, v :: vs => RVal P h d t v ∧ RVals P h d ts vs
  | _, _ => False
theorem RVal.ext {P : Program} {h h' : Heap} (hx : Ext h h') {d : Nat} {t : TypeId} {v : Value} (q : RVal P h d t v) : RVal P h' d t v := by
  unfold RVal at q ⊢
  split
  · rename_i hu; rw [hu] at q; obtain ⟨cs, e, r⟩ := q; exact ⟨cs, e, r.ext hx⟩
  · rename_i hu; rw [hu] at q; obtain ⟨cs, e, r⟩ := q; exact ⟨cs, e, r.ext hx⟩
  · rename_i h1 h2
    split at q
    · rename_i hu; exact absurd hu (h1 _)
    · rename_i hu; exact absurd hu (h2 _ _)
    · exact q.ext hx
theorem RVals.ext {P : Program} {h h' : Heap} (hx : Ext h h') {d : Nat} : ∀ {ts : List TypeId} {vs : List Value}, RVals P h d ts vs → RVals P h' d ts vs
  | [], [], q => q
  | t :: ts, v :: vs, q => ⟨q.1.ext hx, RVals.ext hx q.2⟩
  | [], _ :: _, q => q
  | _ :: _, [], q => q

theorem rvs_one {P : Program} {h : Heap} {d : Nat} {t : TypeId} {acs : List Value} (r : RV P h d t acs) (ha : ∀ fs, P.underlying t ≠ some (.struct fs)) (hb : ∀ n e, P.underlying t ≠ some (.array n e)) : ∃ a, acs = [a] := by
  cases d with
  | zero => exact r.elim
  | succ d =>
    unfold RV at r
    split at r
    · obtain ⟨b, rfl⟩ := r; exact ⟨_, rfl⟩
    · obtain ⟨b, rfl, _⟩ := r; exact ⟨_, rfl⟩
    · obtain ⟨b, rfl, _⟩ := r; exact ⟨_, rfl⟩
    · rcases r with rfl | rfl | ⟨_, _, rfl, _⟩ <;> exact ⟨_, rfl⟩
    · rename_i hu; exact absurd hu (ha _)
    · rename_i hu; exact absurd hu (hb _ _)
    · exact r.elim

/-- All arguments are lifted. -/
theorem lift_args {H : Type} {enc : TypeId × Value → H} {P : Program} {w : World} (d : Nat) : ∀ (ts : List TypeId) (vs : List Value) (ds : List (DataW H)) (ps : List MemPlace), DataW.TrodAll enc P w 0 (fun _ => true) true ts vs ds ps →
    ts.all (plainT P d) = true → (∀ (j : Nat) t v, ts[j]? = some t → vs[j]? = some v → ∃ base, Value.okWide P w .any base t v) → ∀ β h, Rel P β h w → RO h →
    ∃ (β' : Place) (h' : Heap) (as : List Value), Lift P w β h β' h' ∧ VRels β' as vs ∧ RVals P h' d ts as
  | [], [], _, _, _, _, _, β, h, hr, ho => ⟨β, h, [], Lift.refl hr ho, .nil, trivial⟩
  | t :: ts, v :: vs, d1 :: ds, ps, ht, hp, hok, β, h, hr, ho => by
    obtain ⟨p, q, ⟨fuel, h1⟩, h2, rfl⟩ := ht
    simp only [List.all_cons, Bool.and_eq_true] at hp
    obtain ⟨β1, hp1, acs, L1, v1, r1⟩ := lift d t hp.1 fuel _ _ h1 β h hr ho
    obtain ⟨β2, hp2, as, L2, v2, r2⟩ := lift_args d ts vs ds q h2 hp.2 (fun j t v e1 e2 => hok (j + 1) t v (by simpa using e1) (by simpa using e2)) β1 hp1 L1.rel L1.ro
    obtain ⟨base, hv⟩ := hok 0 t v rfl rfl
    have v1' := v1.mono L2.place
    have r1' := r1.ext L2.ext
    have aggs : (∃ cs, v = .agg cs) → ∃ a : List Value, acs = a ∧ VRel β2 (.agg a.toArray) v := by
      rintro ⟨cs, rfl⟩
      exact ⟨acs, rfl, VRel.agg_iff.2 ⟨cs, rfl, by simpa [Value.cells] using v1'⟩⟩
    cases hu : P.underlying t with
    | none =>
      exfalso
      have := hp.1
      cases d with
      | zero => simp [plainT] at this
      | succ d => unfold plainT at this; rw [hu] at this; simp at this
    | some D =>
      by_cases hagg : (∃ fs, D = .struct fs) ∨ ∃ n e, D = .array n e
      · have hc : ∃ cs, v = .agg cs := by
          unfold Value.okWide at hv
          rw [hu] at hv
          rcases hagg with ⟨fs, rfl⟩ | ⟨n, e, rfl⟩
          · obtain ⟨cs, e, _⟩ := hv; exact ⟨cs, e⟩
          · obtain ⟨cs, e, _⟩ := hv; exact ⟨cs, e⟩
        obtain ⟨a, rfl, hrel⟩ := aggs hc
        refine ⟨β2, hp2, .agg acs.toArray :: as, L1.trans L2, .cons hrel v2, ?_, r2⟩
        unfold RVal
        rw [hu]
        rcases hagg with ⟨fs, rfl⟩ | ⟨n, e, rfl⟩
        · exact ⟨acs, rfl, r1'⟩
        · exact ⟨acs, rfl, r1'⟩
      · have n1 : ∀ fs, P.underlying t ≠ some (.struct fs) := fun fs e => hagg (.inl ⟨fs, Option.some.inj (hu.symm.trans e)⟩)
        have n2 : ∀ n e, P.underlying t ≠ some (.array n e) := fun n e e1 => hagg (.inr ⟨n, e, Option.some.inj (hu.symm.trans e1)⟩)
        obtain ⟨a, rfl⟩ := rvs_one r1' n1 n2
        have hnot : ∀ cs, v ≠ .agg cs := by
          rintro cs rfl
          unfold Value.okWide at hv
          rw [hu] at hv
          cases D <;> first
            | exact hagg (.inl ⟨_, rfl⟩)
            | exact hagg (.inr ⟨_, _, rfl⟩)
            | (simp only [Cell.okWide, hu, Cell.ok] at hv; done)
            | (simp [Cell.okWide, hu, Cell.ok] at hv; done)
            | (have := hp.1; cases d <;> simp [plainT, hu] at this; done)
        have hcell : v.cells.toList = [v] := by
          cases v <;> first | rfl | exact absurd rfl (hnot _)
        rw [hcell] at v1'
        refine ⟨β2, hp2, a :: as, L1.trans L2, ?_, ?_, r2⟩
        · cases v1' with
          | cons x _ => exact .cons x v2
        · unfold RVal
          split
          · rename_i hu2; exact absurd hu2 (n1 _)
          · rename_i hu2; exact absurd hu2 (n2 _ _)
          · exact r1'
  | [], _ :: _, _, _, ht, _, _, _, _, _, _ => by simp [DataW.TrodAll] at ht
  | _ :: _, [], _, _, ht, _, _, _, _, _, _ => by simp [DataW.TrodAll] at ht
  | _ :: _, _ :: _, [], _, ht, _, _, _, _, _, _ => by simp [DataW.TrodAll] at ht
end Go.Sim
namespace Go.Sim
open Go.RowKit
section
variable {P : Program} {h : Heap} {d : Nat} {t : TypeId} {cs : List Value}
theorem RV_bool (hu : P.underlying t = some .bool) : RV P h (d + 1) t cs = ∃ b, cs = [.bool b] := by unfold RV; rw [hu]
theorem RV_int {k : IntKind} (hu : P.underlying t = some (.int k)) : RV P h (d + 1) t cs = ∃ x, cs = [.int k x] ∧ (Lit.int k x).wf = true := by unfold RV; rw [hu]
theorem RV_string (hu : P.underlying t = some .string) : RV P h (d + 1) t cs = ∃ s : ByteArray, cs = [.string s] ∧ s.size ≤ maxLen := by unfold RV; rw [hu]
theorem RV_struct {fs : Array Field} (hu : P.underlying t = some (.struct fs)) : RV P h (d + 1) t cs = (cs.length = P.cellsOf t ∧ ∀ f ∈ fs.toList, RV P h d f.type ((cs.drop f.offset).take (P.cellsOf f.type))) := by
  conv => lhs; unfold RV
  rw [hu]
theorem RV_array {n : Nat} {e : TypeId} (hu : P.underlying t = some (.array n e)) : RV P h (d + 1) t cs = (cs.length = P.cellsOf t ∧ ∀ i, i < n → RV P h d e ((cs.drop (i * P.cellsOf e)).take (P.cellsOf e))) := by
  conv => lhs; unfold RV
  rw [hu]
theorem RV_slice {e : TypeId} (hu : P.underlying t = some (.slice e)) : RV P h (d + 1) t cs = (cs = [.slice none 0 0] ∨ cs = [.slice (some ⟨0, 0, none⟩) 0 dud] ∨ ∃ (b : Nat) (rows : List (List Value)), cs = [.slice (some ⟨b, 0, none⟩) rows.length noapp] ∧ rows ≠ [] ∧ rows.length ≤ maxLen ∧
        h.get b = some (.cells rows.flatten e false) ∧ ∀ r ∈ rows, r.length = P.cellsOf e ∧ RV P h d e r) := by
  conv => lhs; unfold RV
  rw [hu]
theorem RVal_struct {v : Value} {fs : Array Field} (hu : P.underlying t = some (.struct fs)) : RVal P h d t v = ∃ cs : List Value, v = .agg cs.toArray ∧ RV P h d t cs := by unfold RVal; rw [hu]
theorem RVal_int {v : Value} {k : IntKind} (hu : P.underlying t = some (.int k)) : RVal P h (d + 1) t v = ∃ x, v = .int k x ∧ (Lit.int k x).wf = true := by
  unfold RVal; rw [hu]; simp [RV_int hu]
theorem RVal_bool {v : Value} (hu : P.underlying t = some .bool) : RVal P h (d + 1) t v = ∃ x, v = .bool x := by
  unfold RVal; rw [hu]; simp [RV_bool hu]
theorem RVal_string {v : Value} (hu : P.underlying t = some .string) : RVal P h (d + 1) t v = ∃ s : ByteArray, v = .string s ∧ s.size ≤ maxLen := by
  unfold RVal; rw [hu]; simp [RV_string hu]
theorem RVal_slice {v : Value} {e : TypeId} (hu : P.underlying t = some (.slice e)) : RVal P h (d + 1) t v = (v = .slice none 0 0 ∨ v = .slice (some ⟨0, 0, none⟩) 0 dud ∨ ∃ (b : Nat) (rows : List (List Value)), v = .slice (some ⟨b, 0, none⟩) rows.length noapp ∧ rows ≠ [] ∧ rows.length ≤ maxLen ∧
        h.get b = some (.cells rows.flatten e false) ∧ ∀ r ∈ rows, r.length = P.cellsOf e ∧ RV P h d e r) := by
  unfold RVal; rw [hu]; simp [RV_slice hu]
end
theorem cons_of_len {cs : List Value} {n : Nat} (h : cs.length = n + 1) : ∃ a r, cs = a :: r ∧ r.length = n := by
  cases cs with
  | nil => simp at h
  | cons a r => exact ⟨a, r, rfl, by simpa using h⟩
/-- A slice of whole numbers that came in. -/
theorem rv_ints {P : Program} {h : Heap} {d : Nat} {t e : TypeId} {k : IntKind} {v : Value} (hu : P.underlying t = some (.slice e)) (he : P.underlying e = some (.int k)) (hv : RVal P h (d + 2) t v) :
    ∃ l : List Int, (∀ x ∈ l, (Lit.int k x).wf = true) ∧ ((v = .slice none 0 0 ∧ l = []) ∨ (v = .slice (some ⟨0, 0, none⟩) 0 dud ∧ l = []) ∨ ∃ b, v = .slice (some ⟨b, 0, none⟩) l.length noapp ∧ l ≠ [] ∧ l.length ≤ maxLen ∧ h.get b = some (.cells (l.map (.int k)) e false)) := by
  rw [RVal_slice hu] at hv
  rcases hv with rfl | rfl | ⟨b, rows, rfl, h1, h2, h3, h4⟩
  · exact ⟨[], by simp, .inl ⟨rfl, rfl⟩⟩
  · exact ⟨[], by simp, .inr (.inl ⟨rfl, rfl⟩)⟩
  · have key : ∀ rows : List (List Value), (∀ r ∈ rows, r.length = P.cellsOf e ∧ RV P h (d + 1) e r) → ∃ l : List Int, (∀ x ∈ l, (Lit.int k x).wf = true) ∧ l.length = rows.length ∧ rows.flatten = l.map (.int k) := by
      intro rows
      induction rows with
      | nil => intro _; exact ⟨[], by simp, rfl, rfl⟩
      | cons r rows ih =>
        intro hr
        obtain ⟨l, q1, q2, q3⟩ := ih fun r h => hr r (by simp [h])
        have := (hr r (by simp)).2
        rw [RV_int he] at this
        obtain ⟨x, rfl, hx⟩ := this
        exact ⟨x :: l, by simpa using ⟨hx, q1⟩, by simp [q2], by simp [q3]⟩
    obtain ⟨l, q1, q2, q3⟩ := key rows h4
    refine ⟨l, q1, .inr (.inr ⟨b, by rw [q2], ?_, by omega, by rw [h3, q3]⟩)⟩
    rintro rfl
    simp at q2
    exact h1 (List.length_eq_zero_iff.1 q2.symm)
end Go.Sim
namespace Go.Sim
theorem RVals_cons {P : Program} {h : Heap} {d : Nat} {t : TypeId} {ts : List TypeId} {l : List Value} (hv : RVals P h d (t :: ts) l) : ∃ a r, l = a :: r ∧ RVal P h d t a ∧ RVals P h d ts r := by
  cases l with
  | nil => exact hv.elim
  | cons a r => exact ⟨a, r, rfl, hv.1, hv.2⟩
theorem RVals_nil {P : Program} {h : Heap} {d : Nat} {l : List Value} (hv : RVals P h d [] l) : l = [] := by
  cases l with
  | nil => rfl
  | cons a r => exact hv.elim
end Go.Sim

/- A reckoning of a closed call holds in any heap. -/
import Derived.Test.YtonejeaomblpiaaGreatI6
import Derived.Test.YtonejeaomblpiaaGreatB2
set_option linter.unusedSimpArgs false
set_option linter.unusedVariables false
set_option linter.defProp false
namespace Go.Sim
open Go.RowKit

/-- A value in which nothing points anywhere. -/
def flatV : Nat → Value → Bool
  | 0, _ => false
  | _ + 1, .bool _ => true
  | _ + 1, .int _ _ => true
  | _ + 1, .string _ => true
  | n + 1, .agg xs => xs.toList.all (flatV n)
  | n + 1, .tuple xs => xs.toList.all (flatV n)
  | _, _ => false
theorem flatV_rel {β : Place} : ∀ {n : Nat} {v mv : Value}, flatV n v = true → VRel β v mv → mv = v ∧ ∀ β', VRel β' v mv
  | 0, v, mv, h, _ => by cases h
  | n + 1, .bool _, mv, _, k => by cases k; exact ⟨rfl, fun _ => .bool _⟩
  | n + 1, .int _ _, mv, _, k => by cases k; exact ⟨rfl, fun _ => .int _ _⟩
  | n + 1, .string _, mv, _, k => by cases k; exact ⟨rfl, fun _ => .string _⟩
  | n + 1, .agg xs, mv, h, k => by
    obtain ⟨ys, rfl, k2⟩ := VRel.agg_iff.1 k
    have key : ∀ {l m : List Value}, l.all (flatV n) = true → VRels β l m → m = l ∧ ∀ β', VRels β' l m := by
      intro l m hl hk
      induction hk with
      | nil => exact ⟨rfl, fun _ => .nil⟩
      | cons h1 _ ih =>
        simp only [List.all_cons, Bool.and_eq_true] at hl
        obtain ⟨e1, r1⟩ := flatV_rel hl.1 h1
        obtain ⟨e2, r2⟩ := ih hl.2
        exact ⟨by rw [e1, e2], fun β' => .cons (r1 β') (r2 β')⟩
    obtain ⟨e, r⟩ := key h k2
    exact ⟨by rw [Array.ext' e], fun β' => VRel.agg_iff.2 ⟨ys, rfl, r β'⟩⟩
  | n + 1, .tuple xs, mv, h, k => by
    obtain ⟨ys, rfl, k2⟩ := VRel.tuple_iff.1 k
    have key : ∀ {l m : List Value}, l.all (flatV n) = true → VRels β l m → m = l ∧ ∀ β', VRels β' l m := by
      intro l m hl hk
      induction hk with
      | nil => exact ⟨rfl, fun _ => .nil⟩
      | cons h1 _ ih =>
        simp only [List.all_cons, Bool.and_eq_true] at hl
        obtain ⟨e1, r1⟩ := flatV_rel hl.1 h1
        obtain ⟨e2, r2⟩ := ih hl.2
        exact ⟨by rw [e1, e2], fun β' => .cons (r1 β') (r2 β')⟩
    obtain ⟨e, r⟩ := key h k2
    exact ⟨by rw [Array.ext' e], fun β' => VRel.tuple_iff.2 ⟨ys, rfl, r β'⟩⟩
  | n + 1, .pointer _, _, h, _ => by cases h
  | n + 1, .slice _ _ _, _, h, _ => by cases h
  | n + 1, .map _, _, h, _ => by cases h
  | n + 1, .chan _, _, h, _ => by cases h
  | n + 1, .func _ _ _, _, h, _ => by cases h
  | n + 1, .nilFunc, _, h, _ => by cases h
  | n + 1, .iface _ _, _, h, _ => by cases h
  | n + 1, .nilIface, _, h, _ => by cases h

theorem calls_flat {P : Program} {f : FuncId} {l0 l : List Value} {h0 h : Heap} {r : Value} {d : Nat} (hf : flatV d r = true) (c : ACalls P f l0 h0 (fun v _ => v = r)) (hro : RO h0)
    (hsub : ∀ β w ms, VRels β l ms → Rel P β h w → ∃ β0, VRels β0 l0 ms ∧ Rel P β0 h0 w) : ACalls P f l h (fun v h' => v = r ∧ h' = h) := by
  refine ⟨c.1, fun β w ms hv hr => ?_⟩
  obtain ⟨β0, hv0, hr0⟩ := hsub β w ms hv hr
  refine (c.2 β0 w ms hv0 hr0).mono ?_
  rintro e w' ⟨mv, rfl, v, h', β', hvr, hr', st, rfl⟩
  have hfr : ∀ m, m < w.heap.size → w'.heap[m]? = w.heap[m]? := fun m hm => st.frame m hm (by
    rintro ⟨b, s, o, _, hg, hrw⟩
    rw [hro b o hg] at hrw
    cases hrw)
  obtain ⟨rfl, hany⟩ := flatV_rel hf hvr
  refine ⟨_, rfl, _, h, β, hany β, ⟨fun b m s e => ⟨(hr.dom b m s e).1, Nat.lt_of_lt_of_le (hr.dom b m s e).2 st.size⟩, fun b m s o e g => ?_, hr.inj⟩, ?_, rfl, rfl⟩
  · exact ORel.mono (fun _ _ e => e) (hfr m (hr.dom b m s e).2) (hr.obj b m s o e g)
  · exact ⟨fun _ _ e => e, fun _ _ e => ⟨e, rfl⟩, Nat.le_refl _, fun b o' _ g => ⟨o', g, rfl⟩, fun b m s e e' => (by rw [e] at e'; cases e'), st.os, st.tape, st.output, st.size, fun m hm _ => hfr m hm, st.loops⟩
theorem calls_under {P : Program} {f : FuncId} {l0 l : List Value} {h0 h : Heap} (c : ACalls P f l0 h0 (fun v _ => v = .bool true)) (hro : RO h0)
    (hsub : ∀ β w ms, VRels β l ms → Rel P β h w → ∃ β0, VRels β0 l0 ms ∧ Rel P β0 h0 w) : ACalls P f l h (fun v h' => v = .bool true ∧ h' = h) := calls_flat (d := 1) rfl c hro hsub

def isTrueV : Value → Bool
  | .bool true => true
  | _ => false
theorem isTrueV_eq {v : Value} (h : isTrueV v = true) : v = .bool true := by
  unfold isTrueV at h
  split at h
  · rfl
  · cases h
theorem reckon_true {P : Program} {M : Memo} (hm : MemoOk P M) {n : Nat} {f : FuncId} {args : List Value} {p : PH} (h : bodyX P M (execX P M n) f args p (fun v _ => isTrueV v) = true) : ACalls P f args p.heap (fun v _ => v = .bool true) :=
  (reckon hm h).mono fun _ _ ⟨_, _, q⟩ => isTrueV_eq q
def p0 (n : Nat) : PH := ⟨n, .nil⟩
theorem p0_get (n b : Nat) : (p0 n).heap.get b = none := by
  show (p0 n).get b = none
  unfold PH.get p0
  simp [Tr.get]
theorem p0_ro (n : Nat) : RO (p0 n).heap := fun b o h => by rw [p0_get] at h; cases h
/-- Places of some blocks, by new numbers; none of them is looked at. -/
theorem p0_rel {P : Program} {β β0 : Place} {h : Heap} {w : World} {n : Nat} (hr : Rel P β h w) (h1 : ∀ c m s, β0 c = some (m, s) → c < n ∧ ∃ b, β b = some (m, s)) : Rel P β0 (p0 n).heap w :=
  ⟨fun c m s e => let ⟨hc, b, hb⟩ := h1 c m s e; ⟨hc, (hr.dom b m s hb).2⟩, fun b m s o _ g => (by rw [p0_get] at g; cases g), fun b b' m s s' o o' _ _ g => (by rw [p0_get] at g; cases g)⟩
/-- A call of values in which nothing points anywhere, for the memo. -/
theorem memo_of {P : Program} {M : Memo} (hm : MemoOk P M) {n : Nat} {f : FuncId} {args : List Value} {r : Value} (hr : flatV 5 r = true) (ha : args.all (flatV 5) = true)
    (h : bodyX P M (execX P M n) f args (p0 0) (fun v _ => valEq r v) = true) : ∀ h, ACalls P f args h (fun v h' => v = r ∧ h' = h) := by
  intro h1
  refine calls_flat hr ((reckon hm h).mono fun _ _ ⟨_, _, q⟩ => (valEq_sound _ _ q).symm) (p0_ro 0) fun β w ms hv hrel => ⟨fun _ => none, ?_, p0_rel hrel fun c m s e => (by cases e)⟩
  have key : ∀ {l m : List Value}, l.all (flatV 5) = true → VRels β l m → VRels (fun _ => none) l m := by
    intro l m hl hk
    induction hk with
    | nil => exact .nil
    | cons h1 _ ih =>
      simp only [List.all_cons, Bool.and_eq_true] at hl
      exact .cons ((flatV_rel hl.1 h1).2 _) (ih hl.2)
  exact key ha hv
end Go.Sim

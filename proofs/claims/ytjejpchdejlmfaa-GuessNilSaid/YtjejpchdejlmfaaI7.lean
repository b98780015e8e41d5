/- A reckoning of a closed call holds in any heap. -/
import Derived.Test.YtjejpchdejlmfaaI6
import Derived.Test.YtjejpchdejlmfaaB2
set_option linter.unusedSimpArgs false
set_option linter.unusedVariables false
set_option linter.defProp false
namespace Go.Sim
open Go.RowKit

theorem calls_under {P : Program} {f : FuncId} {l0 l : List Value} {h0 h : Heap} (c : ACalls P f l0 h0 (fun v _ => v = .bool true)) (hro : RO h0)
    (hsub : ∀ β w ms, VRels β l ms → Rel P β h w → ∃ β0, VRels β0 l0 ms ∧ Rel P β0 h0 w) : ACalls P f l h (fun v h' => v = .bool true ∧ h' = h) := by
  refine ⟨c.1, fun β w ms hv hr => ?_⟩
  obtain ⟨β0, hv0, hr0⟩ := hsub β w ms hv hr
  refine (c.2 β0 w ms hv0 hr0).mono ?_
  rintro e w' ⟨mv, rfl, v, h', β', hvr, hr', st, rfl⟩
  have hfr : ∀ m, m < w.heap.size → w'.heap[m]? = w.heap[m]? := fun m hm => st.frame m hm (by
    rintro ⟨b, s, o, _, hg, hrw⟩
    rw [hro b o hg] at hrw
    cases hrw)
  have hmv : mv = .bool true := by cases hvr; rfl
  subst hmv
  refine ⟨_, rfl, _, h, β, .bool _, ⟨fun b m s e => ⟨(hr.dom b m s e).1, Nat.lt_of_lt_of_le (hr.dom b m s e).2 st.size⟩, fun b m s o e g => ?_, hr.inj⟩, ?_, rfl, rfl⟩
  · exact ORel.mono (fun _ _ e => e) (hfr m (hr.dom b m s e).2) (hr.obj b m s o e g)
  · exact ⟨fun _ _ e => e, fun _ _ e => ⟨e, rfl⟩, Nat.le_refl _, fun b o' _ g => ⟨o', g, rfl⟩, fun b m s e e' => (by rw [e] at e'; cases e'), st.os, st.tape, st.output, st.size, fun m hm _ => hfr m hm⟩

def isTrueV : Value → Bool
  | .bool true => true
  | _ => false
theorem isTrueV_eq {v : Value} (h : isTrueV v = true) : v = .bool true := by
  unfold isTrueV at h
  split at h
  · rfl
  · cases h
theorem reckon_true {P : Program} {n : Nat} {f : FuncId} {args : List Value} {p : PH} (h : callX P (execX P n) f args p (fun v _ => isTrueV v) = true) : ACalls P f args p.heap (fun v _ => v = .bool true) :=
  (reckon h).mono fun _ _ ⟨_, _, q⟩ => isTrueV_eq q
def p0 (n : Nat) : PH := ⟨n, .nil⟩
theorem p0_get (n b : Nat) : (p0 n).heap.get b = none := by
  show (p0 n).get b = none
  unfold PH.get p0
  simp [Tr.get]
theorem p0_ro (n : Nat) : RO (p0 n).heap := fun b o h => by rw [p0_get] at h; cases h
/-- Places of some blocks, by new numbers; none of them is looked at. -/
theorem p0_rel {P : Program} {β β0 : Place} {h : Heap} {w : World} {n : Nat} (hr : Rel P β h w) (h1 : ∀ c m s, β0 c = some (m, s) → c < n ∧ ∃ b, β b = some (m, s)) : Rel P β0 (p0 n).heap w :=
  ⟨fun c m s e => let ⟨hc, b, hb⟩ := h1 c m s e; ⟨hc, (hr.dom b m s hb).2⟩, fun b m s o _ g => (by rw [p0_get] at g; cases g), fun b b' m s s' o o' _ _ g => (by rw [p0_get] at g; cases g)⟩
end Go.Sim

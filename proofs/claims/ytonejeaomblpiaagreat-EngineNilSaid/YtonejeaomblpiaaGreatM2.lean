/- Copying; ranging over maps and strings. -/
import Derived.Test.YtonejeaomblpiaaGreatM1
set_option linter.unusedSimpArgs false
set_option linter.unusedVariables false
set_option linter.defProp false
namespace Go.Sim
open Go.RowKit

def copyV (P : Program) (ts : List TypeId) (h : Heap) (d x : Value) : Option (Value × Heap) :=
  match ts with
  | [t, t2] =>
    match P.underlying t with
    | some (.slice e) =>
      match szT P e with
      | some z =>
        match srcV P z t2 h x with
        | some (m, news) =>
          match d with
          | .slice none 0 0 => if m = 0 then some (goInt 0, h) else none
          | .slice (some ⟨b, o, none⟩) n _ =>
            if m = 0 then some (goInt 0, h) else
            if m ≤ n then
              match h.get b with
              | some (.cells cs e' true) => if o + news.length ≤ cs.length then some (goInt m, h.set b (.cells (setMany cs o news) e' true)) else none
              | _ => none
            else none
          | _ => none
        | none => none
      | none => none
    | _ => none
  | _ => none

theorem copyV_sound {P : Program} {β : Place} {h h' : Heap} {w : World} {ts : List TypeId} {ty : TypeId} {d x md mx v : Value} (hr : Rel P β h w) (hd : VRel β d md) (hx : VRel β x mx) (ha : copyV P ts h d x = some (v, h')) :
    ∃ w', (Builtin.copy_ ts.toArray ty #[md, mx]).run P w = .ok v w' ∧ VRel β v v ∧ Rel P β h' w' ∧ Step β h w β h' w' := by
  unfold copyV at ha
  split at ha
  · rename_i t t2
    split at ha
    · rename_i e hu
      split at ha
      · rename_i z hz
        split at ha
        · rename_i m news hs
          obtain ⟨mnews, hrn, hlen, hone, hlo, _, hfo⟩ := srcV_sound hr hx hs
          have hml : mnews.length = m * z := by rw [← hrn.length]; exact hlen
          have zero : m = 0 → ∀ (a : Option Addr) (n c : Nat), (Builtin.copy_ #[t, t2] ty #[.slice a n c, mx]).run P w = .ok (goInt 0) w := by
            rintro rfl a n c
            have hf := hfo w rfl
            have hnil : mnews = [] := List.length_eq_zero_iff.1 (by simpa using hml)
            subst hnil
            unfold Builtin.copy_
            cases a <;> simp [run_underlying hu, hlo, run_sizeT hz, hf, storeCells, goInt]
          split at ha
          · split at ha
            · rename_i hm
              cases ha
              cases hd
              exact ⟨w, zero hm _ _ _, VRel.const rfl, hr, Step.refl _ _ _⟩
            · cases ha
          · rename_i b o n c
            split at ha
            · rename_i hm
              cases ha
              rcases hd.slice_inv with ⟨m', s', c', hb, rfl, _⟩ | ⟨_, _, a', c', rfl⟩
              · exact ⟨w, zero hm _ _ _, VRel.const rfl, hr, Step.refl _ _ _⟩
              · exact ⟨w, zero hm _ _ _, VRel.const rfl, hr, Step.refl _ _ _⟩
            · rename_i hm
              split at ha
              · rename_i hmn
                split at ha
                · rename_i cs e' hg
                  split at ha
                  · rename_i hle
                    cases ha
                    rcases hd.slice_inv with ⟨m', s', c', hb, rfl, _⟩ | ⟨rfl, rfl, a', c', rfl⟩
                    · obtain ⟨w', e1, hr', st⟩ := run_storeCells_rel (P := P) hrn o 0 hr hb hg (by simpa using hle) hone
                      simp only [Nat.add_zero] at hr' st
                      refine ⟨w', ?_, VRel.const rfl, hr', st⟩
                      have hf := hfo w rfl
                      have hmin : Nat.min m n = m := Nat.min_eq_left hmn
                      unfold Builtin.copy_
                      simp [run_underlying hu, hlo, run_sizeT hz, hmin, hf, e1]
                    · exact absurd (Nat.le_zero.1 hmn) hm
                  · cases ha
                · cases ha
              · cases ha
          · cases ha
        · cases ha
      · cases ha
    · cases ha
  · cases ha
end Go.Sim

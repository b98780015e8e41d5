/- A reckoning of a closed call holds in any heap. -/
import Derived.Test.YtonejeaomblpiaaGreatI6
import Derived.Test.YtonejeaomblpiaaGreatB2
set_option linter.unusedSimpArgs false
set_option linter.unusedVariables false
set_option linter.defProp false
namespace Go.Sim
open Go.RowKit

/-- A value in which nothing points anywhere. -/
def flatV : Nat → Value → Bool
  | 0, _ => false
  | _ + 1, .bool _ => true
  | _ + 1, .int _ _ => true
  | _ + 1, .string _ => true
  | n + 1, .agg xs => xs.toList.all (flatV n)
  | n + 1, .tuple xs => xs.toList.all (flatV n)
  | _, _ => false
theorem flatV_rel {β : Place} : ∀ {n : Nat} {v mv : Value}, flatV n v = true → VRel β v mv → mv = v ∧ ∀ β', VRel β' v mv
  | 0, v, mv, h, _ => by cases h
  | n + 1, .bool _, mv, _, k => by cases k; exact ⟨rfl, fun _ => .bool _⟩
  | n + 1, .int _ _, mv, _, k => by cases k; exact ⟨rfl, fun _ => .int _ _⟩
  | n + 1, .string _, mv, _, k => by cases k; exact ⟨rfl, fun _ => .string _⟩
  | n + 1, .agg xs, mv, h, k => by
    obtain ⟨ys, rfl, k2⟩ := VRel.agg_iff.1 k
    have key : ∀ {l m : List Value}, l.all (flatV n) = true → VRels β l m → m = l ∧ ∀ β', VRels β' l m := by
      intro l m hl hk
      induction hk with
      | nil => exact ⟨rfl, fun _ => .nil⟩
      | cons h1 _ ih =>
        simp only [List.all_cons, Bool.and_eq_true] at hl
        obtain ⟨e1, r1⟩ := flatV_rel hl.1 h1
        obtain ⟨e2, r2⟩ := ih hl.2
        exact ⟨by rw [e1, e2], fun β' => .cons (r1 β') (r2 β')⟩
    obtain ⟨e, r⟩ := key h k2
    exact ⟨by rw [Array.ext' e], fun β' => VRel.agg_iff.2 ⟨ys, rfl, r β'⟩⟩
  | n + 1, .tuple xs, mv, h, k => by
    obtain ⟨ys, rfl, k2⟩ := VRel.tuple_iff.1 k
    have key : ∀ {l m : List Value}, l.all (flatV n) = true → VRels β l m → m = l ∧ ∀ β', VRels β' l m := by
      intro l m hl hk
      induction hk with
      | nil => exact ⟨rfl, fun _ => .nil⟩
      | cons h1 _ ih =>
        simp only [List.all_cons, Bool.and_eq_true] at hl
        obtain ⟨e1, r1⟩ := flatV_rel hl.1 h1
        obtain ⟨e2, r2⟩ := ih hl.2
        exact ⟨by rw [e1, e2], fun β' => .cons (r1 β') (r2 β')⟩
    obtain ⟨e, r⟩ := key h k2
    exact ⟨by rw [Array.ext' e], fun β' => VRel.tuple_iff.2 ⟨ys, rfl, r β'⟩⟩
  | n + 1, .pointer _, _, h, _ => by cases h
  | n + 1, .slice _ _ _, _, h, _ => by cases h
  | n + 1, .map _, _, h, _ => by cases h
  | n + 1, .chan _, _, h, _ => by cases h
  | n + 1, .func _ _ _, _, h, _ => by cases h
  | n + 1, .nilFunc, _, h, _ => by cases h
  | n + 1, .iface _ _, _, h, _ => by cases h
  | n + 1, .nilIface, _, h, _ => by cases h

theorem calls_flat {P : Program} {f : FuncId} {l0 l : List Value} {h0 h : Heap} {r : Value} {d : Nat} (hf : flatV d r = true) (c : ACalls P f l0 h0 (fun v _ => v = r)) (hro : RO h0)
    (hsub : ∀ β w ms, VRels β l ms → Rel P β h w → ∃ β0, VRels β0 l0 ms ∧ Rel P β0 h0 w) : ACalls P f l h (fun v h' => v = r ∧ h' = h) := by
  refine ⟨c.1, fun β w ms hv hr => ?_⟩
  obtain ⟨β0, hv0, hr0⟩ := hsub β w ms hv hr
  refine (c.2 β0 w ms hv0 hr0).mono ?_
  rintro e w' ⟨mv, rfl, v, h', β', hvr, hr', st, rfl⟩
  have hfr : ∀ m, m < w.heap.size → w'.heap[m]? = w.heap[m]? := fun m hm => st.frame m hm (by
    rintro ⟨b, s, o, _, hg, hrw⟩
    rw [hro b o hg] at hrw
    cases hrw)
  obtain ⟨rfl, hany⟩ := flatV_rel hf hvr
  refine ⟨_, rfl, _, h, β, hany β, ⟨fun b m s e => ⟨(hr.dom b m s e).1, Nat.lt_of_lt_of_le (hr.dom b m s e).2 st.size⟩, fun b m s o e g => ?_, hr.inj⟩, ?_, rfl, rfl⟩
  · exact ORel.mono (fun _ _ e => e) (hfr m (hr.dom b m s e).2) (hr.obj b m s o e g)
  · exact ⟨fun _ _ e => e, fun _ _ e => ⟨e, rfl⟩, Nat.le_refl _, fun b o' _ g => ⟨o', g, rfl⟩, fun b m s e e' => (by rw [e] at e'; cases e'), st.os, st.tape, st.output, st.size, fun m hm _ => hfr m hm, st.loops⟩
theorem calls_under {P : Program} {f : FuncId} {l0 l : List Value} {h0 h : Heap} (c : ACalls P f l0 h0 (fun v _ => v = .bool true)) (hro : RO h0)
    (hsub : ∀ β w ms, VRels β l ms → Rel P β h w → ∃ β0, VRels β0 l0 ms ∧ Rel P β0 h0 w) : ACalls P f l h (fun v h' => v = .bool true ∧ h' = h) := calls_flat (d := 1) rfl c hro hsub

def isTrueV : Value → Bool
  | .bool true => true
  | _ => false
theorem isTrueV_eq {v : Value} (h : isTrueV v = true) : v = .bool true := by
  unfold isTrueV at h
  split at h
  · rfl
  · cases h
theorem reckon_true {P : Program} {M : Memo} (hm : MemoOk P M) {n : Nat} {f : FuncId} {args : List Value} {p : PH} (h : bodyX P M (execX P M n) f args p (fun v _ => isTrueV v) = true) : ACalls P f args p.heap (fun v _ => v = .bool true) :=
  (reckon hm h).mono fun _ _ ⟨_, _, q⟩ => isTrueV_eq q
def p0 (n : Nat) : PH := ⟨n, .nil⟩
theorem p0_get (n b : Nat) : (p0 n).heap.get b = none := by
  show (p0 n).get b = none
  unfold PH.get p0
  simp [Tr.get]
theorem p0_ro (n : Nat) : RO (p0 n).heap := fun b o h => by rw [p0_get] at h; cases h
/-- Places of some blocks, by new numbers; none of them is looked at. -/
theorem p0_rel {P : Program} {β β0 : Place} {h : Heap} {w : World} {n : Nat} (hr : Rel P β h w) (h1 : ∀ c m s, β0 c = some (m, s) → c < n ∧ ∃ b, β b = some (m, s)) : Rel P β0 (p0 n).heap w :=
  ⟨fun c m s e => let ⟨hc, b, hb⟩ := h1 c m s e; ⟨hc, (hr.dom b m s hb).2⟩, fun b m s o _ g => (by rw [p0_get] at g; cases g), fun b b' m s s' o o' _ _ g => (by rw [p0_get] at g; cases g)⟩
/-- A call of values in which nothing points anywhere, for the memo. -/
theorem memo_of {P : Program} {M : Memo} (hm : MemoOk P M) {n : Nat} {f : FuncId} {args : List Value} {r : Value} (hr : flatV 5 r = true) (ha : args.all (flatV 5) = true)
    (h : bodyX P M (execX P M n) f args (p0 0) (fun v _ => valEq r v) = true) : EntOk P ⟨f, args, none, r⟩ := by
  intro h1
  refine calls_flat hr ((reckon hm h).mono fun _ _ ⟨_, _, q⟩ => (valEq_sound _ _ q).symm) (p0_ro 0) fun β w ms hv hrel => ⟨fun _ => none, ?_, p0_rel hrel fun c m s e => (by cases e)⟩
  have key : ∀ {l m : List Value}, l.all (flatV 5) = true → VRels β l m → VRels (fun _ => none) l m := by
    intro l m hl hk
    induction hk with
    | nil => exact .nil
    | cons h1 _ ih =>
      simp only [List.all_cons, Bool.and_eq_true] at hl
      exact .cons ((flatV_rel hl.1 h1).2 _) (ih hl.2)
  exact key ha hv

/-- The heap of these blocks alone. -/
def preX (n0 : Nat) (pre : Blocks) : PH := ⟨n0, pre.foldr (fun e t => Tr.set 31 t e.1 (some e.2)) .nil⟩
theorem preX_get (n0 : Nat) (pre : Blocks) (hp : pre.all (fun e => Nat.blt e.1 1073741824) = true) (b : Nat) : (preX n0 pre).t.get b = lookB b pre := by
  unfold preX
  simp only
  induction pre with
  | nil => simp [Tr.get, lookB]
  | cons e r ih =>
    obtain ⟨c, o⟩ := e
    simp only [List.all_cons, Bool.and_eq_true] at hp
    have hc := lt_of_blt hp.1
    simp only [List.foldr_cons]
    rw [Tr.get_set _ 31 _ _ _ (by omega), ih hp.2]
    by_cases hb : b = c
    · subst hb
      rw [if_pos rfl, lookB_self]
    · rw [if_neg hb, lookB_ne (Ne.symm hb)]
/-- Blocks that were there and are not among those behind lie as they lay. -/
def keptX (p : PH) (post : Blocks) : Blocks → Bool
  | [] => true
  | (b, o) :: r => (match lookB b post with
    | some _ => true
    | none => (match p.get b with
      | some o' => objEq o o'
      | none => false)) && keptX p post r
theorem keptX_sound {p : PH} {post : Blocks} : ∀ {l : Blocks}, keptX p post l = true → ∀ b o, lookB b l = some o → lookB b post = none → p.heap.get b = some o
  | [], _, b, o, e, _ => by cases e
  | (c, q) :: r, h, b, o, e, hn => by
    simp only [keptX, Bool.and_eq_true] at h
    unfold lookB at e
    cases hc : Nat.beq c b with
    | true =>
      rw [hc] at e
      cases e
      have := Nat.eq_of_beq_eq_true hc
      subst this
      have h1 := h.1
      rw [hn] at h1
      simp only at h1
      split at h1
      · rename_i o' hg
        rw [objEq_sound h1]
        exact hg
      · cases h1
    | false => rw [hc] at e; exact keptX_sound h.2 b o e hn

/-- A run with some blocks alone holds with more blocks round about. -/
theorem ent_frame {P : Program} {f : FuncId} {args : List Value} {h0 : Heap} {v : Value} {n0 n1 : Nat} {pre post : Blocks} (hn : h0.next = n0) (h0g : ∀ b o, h0.get b = some o → lookB b pre = some o) (hb1 : ∀ b o, lookB b post = some o → b < n1) (hle : n0 ≤ n1)
    (c : ACalls P f args h0 (fun u h' => u = v ∧ h'.next ≤ n1 ∧ lies h' post ∧ ∀ b o, h0.get b = some o → lookB b post = none → h'.get b = some o)) : EntOk P ⟨f, args, some (n0, pre, n1, post), v⟩ := by
  refine ⟨hle, fun h hnx hl => ⟨c.1, fun β w ms hv hr => ?_⟩⟩
  subst hn
  have sub : ∀ b o, h0.get b = some o → h.get b = some o := fun b o e => hl b o (h0g b o e)
  have hr0 : Rel P β h0 w := ⟨fun b m s e => by rw [← hnx]; exact hr.dom b m s e, fun b m s o e g => hr.obj b m s o e (sub b o g), fun b b' m s s' o o' e e' g g' q => hr.inj b b' m s s' o o' e e' (sub b o g) (sub b' o' g') q⟩
  refine (c.2 β w ms hv hr0).mono ?_
  rintro e w' ⟨mv, rfl, u, h', β', hvr, hr', st, rfl, hle', hpost, hkept⟩
  let H : Heap := ⟨n1, fun b => if b < n1 then (match lookB b post with | some o => some o | none => if b < h.next then h.get b else none) else none, fun b o hb => by
    by_cases hlt : b < n1
    · exact hlt
    · simp [hlt] at hb⟩
  -- what is in H: of the run, or round about it
  have split : ∀ b o, H.get b = some o → (h'.get b = some o) ∨ (b < h.next ∧ h0.get b = none ∧ h.get b = some o) := by
    intro b o hb
    have hb' : (if b < n1 then (match lookB b post with | some o => some o | none => if b < h.next then h.get b else none) else none) = some o := hb
    by_cases hlt : b < n1
    · rw [if_pos hlt] at hb'
      cases hp : lookB b post with
      | some o2 => rw [hp] at hb'; cases hb'; exact .inl (hpost b o hp)
      | none =>
        rw [hp] at hb'
        simp only at hb'
        by_cases hn : b < h.next
        · rw [if_pos hn] at hb'
          cases hg : h0.get b with
          | some o2 =>
            have := sub b o2 hg
            rw [this] at hb'
            cases hb'
            exact .inl (hkept b o hg hp)
          | none => exact .inr ⟨hn, rfl, hb'⟩
        · rw [if_neg hn] at hb'; cases hb'
    · rw [if_neg hlt] at hb'; cases hb'
  have rwsub : ∀ m, RwAt β h0 m → RwAt β h m := fun m ⟨b, s, o, e, g, q⟩ => ⟨b, s, o, e, sub b o g, q⟩
  -- a block round about keeps its place
  have far : ∀ b o m s, b < h.next → h0.get b = none → h.get b = some o → β' b = some (m, s) → β b = some (m, s) ∧ m < w.heap.size ∧ ¬ RwAt β h0 m := by
    intro b o m s hlt hn hg e
    have hb : β b = some (m, s) := by
      cases hq : β b with
      | some x =>
        have := st.place b x hq
        rw [e] at this
        exact this.symm ▸ rfl
      | none =>
        have := (st.stays b (by omega) hq).1
        rw [e] at this
        cases this
    refine ⟨hb, (hr.dom b m s hb).2, ?_⟩
    rintro ⟨b2, s2, o2, e2, g2, q2⟩
    have := hr.inj b2 b m s2 s o2 o e2 hb (sub b2 o2 g2) hg q2
    subst this
    rw [hn] at g2
    cases g2
  -- a block of the run in a place of old is an old one that could be written, or lies where one lay
  have core : ∀ b o m s, h'.get b = some o → β' b = some (m, s) → m < w.heap.size → (∃ o0, β b = some (m, s) ∧ h0.get b = some o0 ∧ o0.rw = o.rw) ∨ RwAt β h0 m := by
    intro b o m s hg e hm
    cases hq : β b with
    | some x =>
      have := st.place b x hq
      rw [e] at this
      cases this
      obtain ⟨o0, g0, r0⟩ := st.live b o (hr0.dom b m s hq).1 hg
      exact .inl ⟨o0, rfl, g0, r0⟩
    | none =>
      rcases st.new b m s hq e with h1 | h1
      · omega
      · exact .inr h1
  have hR : Rel P β' H w' := by
    refine ⟨fun b m s e => ⟨Nat.lt_of_lt_of_le (hr'.dom b m s e).1 hle', (hr'.dom b m s e).2⟩, fun b m s o e g => ?_, fun b b' m s s' o o' e e' g g' hq => ?_⟩
    · rcases split b o g with g1 | ⟨g1, g2, g3⟩
      · exact hr'.obj b m s o e g1
      · obtain ⟨k1, k2, k3⟩ := far b o m s g1 g2 g3 e
        exact (hr.obj b m s o k1 g3).mono st.place (st.frame m k2 k3)
    · rcases split b o g with g1 | ⟨g1, g2, g3⟩ <;> rcases split b' o' g' with k1 | ⟨k1, k2, k3⟩
      · exact hr'.inj b b' m s s' o o' e e' g1 k1 hq
      · obtain ⟨f1, f2, f3⟩ := far b' o' m s' k1 k2 k3 e'
        rcases core b o m s g1 e f2 with ⟨o0, c1, c2, c3⟩ | c1
        · exact absurd ⟨b, s, o0, c1, c2, c3.trans hq⟩ f3
        · exact absurd c1 f3
      · obtain ⟨f1, f2, f3⟩ := far b o m s g1 g2 g3 e
        rcases core b' o' m s' k1 e' f2 with ⟨o0, c1, c2, c3⟩ | c1
        · exact hr.inj b b' m s s' o o0 f1 c1 g3 (sub b' o0 c2) hq
        · exact absurd c1 f3
      · obtain ⟨f1, _, _⟩ := far b o m s g1 g2 g3 e
        obtain ⟨f2, _, _⟩ := far b' o' m s' k1 k2 k3 e'
        exact hr.inj b b' m s s' o o' f1 f2 g3 k3 hq
  refine ⟨mv, rfl, u, H, β', hvr, hR, ?_, rfl, rfl, fun b => rfl⟩
  refine ⟨st.place, fun b hb e => ?_, show h.next ≤ n1 by omega, fun b o' hb g => ?_, fun b m s e e' => (st.new b m s e e').imp id (rwsub m), st.os, st.tape, st.output, st.size, fun m hm hq => st.frame m hm fun q => hq (rwsub m q), st.loops⟩
  · obtain ⟨s1, s2⟩ := st.stays b (by omega) e
    refine ⟨s1, ?_⟩
    show (if b < n1 then (match lookB b post with | some o => some o | none => if b < h.next then h.get b else none) else none) = h.get b
    rw [if_pos (by omega)]
    cases hp : lookB b post with
    | some o =>
      have := hpost b o hp
      rw [s2] at this
      exact (sub b o this).symm
    | none => simp only; rw [if_pos hb]
  · rcases split b o' g with g1 | ⟨_, _, g3⟩
    · obtain ⟨o, g0, r0⟩ := st.live b o' (by omega) g1
      exact ⟨o, sub b o g0, r0⟩
    · exact ⟨o', g3, rfl⟩
/-- An entry of the memo, by a run. -/
theorem ent_of {P : Program} {M : Memo} (hm : MemoOk P M) {n : Nat} {f : FuncId} {args : List Value} {v : Value} {n0 n1 : Nat} {pre post : Blocks}
    (h1 : (pre.all (fun e => Nat.blt e.1 1073741824) && Nat.ble n0 n1 && post.all (fun e => Nat.blt e.1 n1)) = true)
    (h2 : bodyX P M (execX P M n) f args (preX n0 pre) (fun u p => valEq v u && Nat.ble p.next n1 && liesX p post && keptX p post pre) = true) : EntOk P ⟨f, args, some (n0, pre, n1, post), v⟩ := by
  simp only [Bool.and_eq_true] at h1
  obtain ⟨⟨k1, k2⟩, k3⟩ := h1
  have gpre : ∀ b o, (preX n0 pre).heap.get b = some o → lookB b pre = some o := by
    intro b o e
    have e' : (preX n0 pre).get b = some o := e
    unfold PH.get at e'
    split at e'
    · rw [preX_get n0 pre k1] at e'; exact e'
    · cases e'
  refine ent_frame (h0 := (preX n0 pre).heap) rfl gpre (fun b o e => ?_) (Nat.le_of_ble_eq_true k2) ((reckon hm h2).mono ?_)
  · rw [List.all_eq_true] at k3
    have : ∀ {l : Blocks}, (∀ e ∈ l, Nat.blt e.1 n1 = true) → lookB b l = some o → b < n1 := by
      intro l hl he
      induction l with
      | nil => cases he
      | cons x r ih =>
        obtain ⟨c, q⟩ := x
        unfold lookB at he
        cases hc : Nat.beq c b with
        | true =>
          have := Nat.eq_of_beq_eq_true hc
          subst this
          exact lt_of_blt (hl (c, q) (List.mem_cons_self ..))
        | false => rw [hc] at he; exact ih (fun e h => hl e (List.mem_cons_of_mem _ h)) he
    exact this k3 e
  · rintro u h' ⟨p, rfl, q⟩
    simp only [Bool.and_eq_true] at q
    obtain ⟨⟨⟨q1, q2⟩, q3⟩, q4⟩ := q
    refine ⟨(valEq_sound _ _ q1).symm, Nat.le_of_ble_eq_true q2, liesX_sound q3, fun b o e hn => ?_⟩
    exact keptX_sound q4 b o (gpre b o e) hn
end Go.Sim

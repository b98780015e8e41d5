/- Ranging over functions: a loop's record and its rounds. -/
import Derived.Test.YtonejeaomblpiaaGreatA20
set_option linter.unusedSimpArgs false
set_option linter.unusedVariables false
set_option linter.defProp false
set_option maxHeartbeats 800000
namespace Go.Sim
open Go.RowKit

/-- A round's arguments in the frame. -/
def putSl (ps : List Tmp) (vs : List Value) (a : Frm) : Frm := (ps.zip vs).foldl (fun a p => a.put (some p.1) p.2) a
theorem ARel.puts {D : List Deferred} {β : Place} : ∀ (ps : List Tmp) {vs ms : List Value} {a : Frm} {m : Act}, ARel D β a m → VRels β vs ms →
    ARel D β (putSl ps vs a) { tmps := (ps.zip ms).foldl (fun t p => t.setIfInBounds p.1 p.2) m.tmps, defers := m.defers }
  | [], _, _, a, m, ha, _ => by simpa [putSl] using ha
  | t :: ps, _, _, a, m, ha, .nil => by simpa [putSl] using ha
  | t :: ps, _, _, a, m, ha, .cons hv hvs => ARel.puts ps (ha.put hv (some t)) hvs

/-- At a round's end. -/
def roundQ (l : Nat) (K : Value → Heap → Prop) : Exit → Frm → Heap → Prop := fun e _ h =>
  match h.get l with
  | some (.loop _ _ n sl ps x y) => match e with
    | .normal => K (.bool true) (h.set l (.loop .ready none n sl ps x y))
    | .ret => K (.bool false) (h.set l (.loop .done (some .ret) n sl ps x y))
    | .exit id => K (.bool false) (h.set l (.loop .done (some (.exit id)) n sl ps x y))
    | .goto t => K (.bool false) (h.set l (.loop .done (some (.goto t)) n sl ps x y))
    | _ => False
  | _ => False
/-- At a round's beginning, the assignments done. -/
def beginQ (P : Program) (l : Nat) (c : Code) (K : Value → Heap → Prop) : Exit → Frm → Heap → Prop := fun e a h =>
  match e, h.get l with
  | .normal, some (.loop .ready pend n sl ps x y) => AWp P c (roundQ l K) a (h.set l (.loop .busy pend n sl ps x y))
  | _, _ => False
theorem Rel.loop_set {P : Program} {β : Place} {h : Heap} {w : World} {l m n : Nat} {s : Sh} {st st' : LoopState} {pend pend' : Option Code} {sl : List (Nat × Value)} {ps : List Tmp} {x y : Code} (hr : Rel P β h w) (hb : β l = some (m, s)) (hg : h.get l = some (.loop st pend n sl ps x y))
    {r : Loop} (hw : w.heap[m]? = some (.loop r)) : r.state = st ∧ r.pending = pend ∧ Rel P β (h.set l (.loop st' pend' n sl ps x y)) (w.putObj m (.loop { r with state := st', pending := pend' })) ∧ Step β h w β (h.set l (.loop st' pend' n sl ps x y)) (w.putObj m (.loop { r with state := st', pending := pend' })) := by
  obtain ⟨h0, fn, tm, d, hw', hs, hsl⟩ := hr.obj l m s _ hb hg
  rw [hw] at hw'
  simp only [Option.some.injEq, Obj.loop.injEq] at hw'
  subst hw'
  refine ⟨rfl, rfl, ?_⟩
  have hlt := (hr.dom l m s hb).2
  exact hr.update (w' := w.putObj m _) (o' := .loop st' pend' n sl ps x y) hb hg rfl rfl (World.putObj_size) (fun k hk => World.putObj_heap_other hk) rfl rfl rfl
    ⟨h0, fn, tm, d, World.putObj_heap_same hlt, hs, hsl⟩

theorem ayield_intro {P : Program} {l n : Nat} {st : LoopState} {pend : Option Code} {sl : List (Nat × Value)} {ps : List Tmp} {x y : Code} {vs : List Value} {h : Heap} {K : Value → Heap → Prop} (hg : h.get l = some (.loop st pend n sl ps x y)) (hl : vs.length = ps.length)
    (hx : AWp P x (beginQ P l y K) (putSl ps vs ⟨n, sl⟩) h) : AYield P l vs h K := by
  intro β m s w ms hb hv hr
  obtain ⟨h0, fn, tm, d, hw, hsz, hsl⟩ := hr.obj l m s _ hb hg
  have hlen := hv.length
  refine ⟨fn, _, x, y, run_yield hw (by simp [← hlen, hl]), ?_⟩
  have ha : ARel [] β (putSl ps vs ⟨n, sl⟩) { tmps := (ps.zip ms).foldl (fun t p => t.setIfInBounds p.1 p.2) tm, defers := [] } :=
    ARel.puts (m := { tmps := tm, defers := [] }) ps ⟨rfl, hsz, hsl⟩ hv
  have htm : (ps.zip ms).foldl (fun t p => t.setIfInBounds p.1 p.2) tm = (ps.toArray.zip ms.toArray).foldl (fun tmps (t, a) => tmps.setIfInBounds t a) tm := by
    rw [← Array.foldl_toList, Array.toList_zip]
  rw [htm] at ha
  refine roundIn_of_wpIn (F := Fence.wide) trivial (wpIn_mono (hx (some m) [] β _ w ha hr (fun l e => by cases e; exact ⟨_, hw⟩)) ?_)
  rintro e m1 w1 ⟨a1, h1, β1, D1, ra, rr, g, q⟩
  unfold beginQ at q
  split at q
  · rename_i pend1 n1 sl1 ps1 x1 y1 hg1
    have hb1 := g.st.place l _ hb
    obtain ⟨_, fn1, tm1, d1, hw1, _⟩ := rr.obj l m s _ hb1 hg1
    refine ⟨_, run_beginRound hw1 rfl, ?_⟩
    obtain ⟨_, _, rr2, st2⟩ := rr.loop_set (st' := .busy) (pend' := pend1) hb1 hg1 hw1
    refine wpIn_mono (q (some m) D1 β1 m1 _ ra rr2 (fun l e => by cases e; exact st2.loops m _ hw1)) ?_
    rintro e m3 w3 ⟨a3, h3, β3, D3, ra3, rr3, g3, q3⟩
    unfold roundQ at q3
    split at q3
    · rename_i st4 pend4 n4 sl4 ps4 x4 y4 hg3
      have hb3 := g3.st.place l _ hb1
      obtain ⟨_, fn3, tm3, d3, hw3, _⟩ := rr3.obj l m s _ hb3 hg3
      have fin : ∀ jump : Option Code, K (.bool jump.isNone) (h3.set l (.loop (if jump.isNone then .ready else .done) jump n4 sl4 ps4 x4 y4)) →
          ∃ v w', (Instr.endRound m jump).run P w3 = .ok v w' ∧ ∃ mv, Ending.returned v = .returned mv ∧ ∃ v h' β', VRel β' v mv ∧ Rel P β' h' w' ∧ Step β h w β' h' w' ∧ K v h' := by
        intro jump hk
        obtain ⟨_, _, rr5, st5⟩ := rr3.loop_set (st' := if jump.isNone then .ready else .done) (pend' := jump) hb3 hg3 hw3
        exact ⟨_, _, run_endRound jump hw3, _, rfl, _, _, β3, .bool _, rr5, ((g.st.trans hr st2).trans hr g3.st).trans hr st5, hk⟩
      cases e with
      | normal => exact fin none q3
      | ret => exact fin (some .ret) q3
      | exit id => exact fin (some (.exit id)) q3
      | goto t => exact fin (some (.goto t)) q3
      | panic c => exact q3.elim
      | outgrown => exact q3.elim
    · exact q3.elim
  · exact q.elim

/-- When the function that is ranged over has returned. -/
def endQ (l : Nat) (Q : Exit → Frm → Heap → Prop) (a : Frm) (h : Heap) : Prop :=
  match h.get l with
  | some (.loop st pend n sl ps x y) => st ≠ .busy ∧ match pend with
    | none => Q .normal a (h.set l (.loop .exhausted pend n sl ps x y))
    | some .ret => Q .ret a (h.set l (.loop .exhausted pend n sl ps x y))
    | some (.exit id) => Q (.exit id) a (h.set l (.loop .exhausted pend n sl ps x y))
    | some (.goto t) => Q (.goto t) a (h.set l (.loop .exhausted pend n sl ps x y))
    | _ => False
  | _ => False
theorem Rel.alloc_beside {P : Program} {β : Place} {h : Heap} {w : World} (hr : Rel P β h w) (o : Obj) : Rel P β h (w.alloc o) ∧ Step β h w β h (w.alloc o) := by
  have hh : (w.alloc o).heap = w.heap.push o := rfl
  have old : ∀ m, m < w.heap.size → (w.alloc o).heap[m]? = w.heap[m]? := fun m hm => by rw [hh, Array.getElem?_push, if_neg (by omega)]
  refine ⟨⟨fun b m s e => ?_, fun b m s q e g => (hr.obj b m s q e g).mono (fun _ _ e => e) (old m (hr.dom b m s e).2), hr.inj⟩, ?_⟩
  · obtain ⟨h1, h2⟩ := hr.dom b m s e
    exact ⟨h1, by rw [hh]; simp; omega⟩
  · exact ⟨fun _ _ e => e, fun _ _ e => ⟨e, rfl⟩, Nat.le_refl _, fun _ o' _ e => ⟨o', e, rfl⟩, fun _ _ _ e e' => by simp [e] at e', rfl, rfl, rfl, by rw [hh]; simp, fun m hm _ => old m hm,
      fun m r e => ⟨r, by rw [old m (Array.getElem?_eq_some_iff.1 e).1]; exact e⟩⟩
theorem enter_loop {P : Program} {ro : Option Nat} {D : List Deferred} {β : Place} {h : Heap} {w : World} (hr : Rel P β h w) (ok : RoOk ro w) (fn : FuncId) (tmps : Array Value) (ps : Array Tmp) (x y : Code) :
    ∃ (mark : List Deferred) (w0 : World) (d : Nat), (Instr.enterLoop fn tmps ps x y ro).run P w = .ok (w0.heap.size, mark) (w0.alloc (.loop { state := .ready, pending := none, fn, tmps, params := ps, assign := x, body := y, defers := d })) ∧
      Rel P β h w0 ∧ Gone D β h w (mark ++ D) β h w0 := by
  cases ro with
  | none =>
    refine ⟨_, w.alloc (.deferred (some [])), w.heap.size, ?_, (hr.alloc_beside _).1, (hr.alloc_beside _).2, [w.heap.size], rfl, by simp, fun z hz => ?_⟩
    · rw [run_enterLoop_outer, World.size_alloc]; rfl
    · rw [List.mem_singleton.1 hz]
      exact ⟨Nat.le_refl _, World.alloc_heap_new w _⟩
  | some l =>
    obtain ⟨r, hw⟩ := ok l rfl
    refine ⟨[], w, r.defers, ?_, hr, Gone.refl _ _ _ _⟩
    unfold Instr.enterLoop
    simp only [Sem.run_bind, run_getLoop hw, Result.andThen_ok, Sem.run_pure, run_newObj_alloc]
theorem callsIn_wd {ro : Option Nat} {n : Nat} {P : Program} {f : FuncId} {args : Array Value} {w : World} {R : Ending → World → Prop} (h : Calls P f args w R) : CallsIn (wd ro) n P f args w R := callsIn_wide (n := n).2 h
/-- Ranging over a function. -/
theorem arange {P : Program} {f : Operand} {ps : List Tmp} {x y : Code} {Q : Exit → Frm → Heap → Prop} {a : Frm} {h : Heap} {k : FuncId} {first cap : Array Value} (hf : a.ev f = some (.func (.func k) first cap))
    (hc : ACalls P k (first.toList ++ [.func (.yield h.next) #[] #[]] ++ cap.toList) (h.push (.loop .ready none a.n a.l ps x y)) (fun _ h' => endQ h.next Q a h')) : AWp P (.rangeFunc f ps.toArray x y) Q a h := by
  intro ro D β m w ha hr ok
  refine wpIn_rangeFunc fun fn _ => ?_
  obtain ⟨mark, w0, d, he, hr0, g0⟩ := enter_loop (D := D) hr ok fn m.tmps ps.toArray x y
  obtain ⟨first', cap', hm, r1, r2⟩ := (VRel.func_iff rfl).1 (ha.rho _ _ hf)
  have hmono := Place.add_mono w0.heap.size ⟨0, 0, 0⟩ hr0.noNext
  obtain ⟨hr1, st1⟩ := hr0.alloc (s := ⟨0, 0, 0⟩) (w' := w0.alloc (.loop { state := .ready, pending := none, fn, tmps := m.tmps, params := ps.toArray, assign := x, body := y, defers := d })) (o := .loop .ready none a.n a.l ps x y) rfl rfl rfl rfl
    ⟨rfl, fn, m.tmps, d, World.alloc_heap_new w0 _, ha.size, fun t v e => let ⟨mv, e1, r⟩ := ha.rel t v e; ⟨mv, e1, r.mono hmono⟩⟩
  obtain ⟨⟨gn, hgn, hbn, hname⟩, hcall⟩ := hc
  have hyield : VRel (β.add h.next w0.heap.size ⟨0, 0, 0⟩) (.func (.yield h.next) #[] #[]) (.func (.yield w0.heap.size) #[] #[]) := .yield (Place.add_same _ _ _ _)
  generalize w0.alloc (.loop { state := .ready, pending := none, fn, tmps := m.tmps, params := ps.toArray, assign := x, body := y, defers := d }) = w1 at he hr1 st1
  have hcl := hcall _ _ (first'.toList ++ [.func (.yield w0.heap.size) #[] #[]] ++ cap'.toList) (((r1.mono hmono).append (.cons hyield .nil)).append (r2.mono hmono)) hr1
  have hres : (resolve m.eval (rangeCall f w0.heap.size) 0).run P w1 = .ok ⟨.fn (.func k) cap', first' ++ #[Value.func (.yield w0.heap.size) #[] #[]]⟩ w1 := by
    have e2 : (resolve m.eval (rangeCall f w0.heap.size) 0) = Deferred.ofValue (m.eval f) #[Value.func (.yield w0.heap.size) #[] #[]] := by
      simp [resolve, rangeCall, Act.eval]
    rw [e2, hm]
    simp only [Deferred.ofValue, Sem.run_pure]
  have hinv : (invoke (.fn (.func k) cap') (first' ++ #[Value.func (.yield w0.heap.size) #[] #[]])).run P w1 = .ok (.enter k (first'.toList ++ [Value.func (.yield w0.heap.size) #[] #[]] ++ cap'.toList).toArray) w1 := by
    have harr : (first'.toList ++ [Value.func (.yield w0.heap.size) #[] #[]] ++ cap'.toList).toArray = first' ++ #[Value.func (.yield w0.heap.size) #[] #[]] ++ cap' := by apply Array.ext'; simp
    rw [harr]
    simp only [invoke, callFunc, run_program, hgn, hname, hbn, Sem.run_bind, Result.andThen_ok, Bool.false_eq_true, if_false, Sem.run_pure]
  refine ⟨w0.heap.size, mark, w1, _, w1, k, _, w1, he, hres, ?_, hinv, ?_, ?_⟩
  · exact fun _ _ => trivial
  · intro hh
    exact absurd hh (by simp [Fence.wide])
  refine callsIn_wd (hcl.mono ?_)
  · rintro e w3 ⟨mv, rfl, v, h3, β3, _, rr3, st3, q⟩
    unfold endQ at q
    split at q
    · rename_i st pend n sl ps' x' y' hg3
      obtain ⟨hne, q⟩ := q
      have hb3 := st3.place _ _ (Place.add_same β h.next w0.heap.size ⟨0, 0, 0⟩)
      obtain ⟨_, fn3, tm3, d3, hw3, _⟩ := rr3.obj _ _ _ _ hb3 hg3
      obtain ⟨_, _, rr4, st4⟩ := rr3.loop_set (st' := .exhausted) (pend' := pend) hb3 hg3 hw3
      have ha3 : ARel (mark ++ D) β3 a { m with defers := mark ++ m.defers } := by
        have := ha.mono (fun b z e => st3.place _ _ (hmono b z e))
        exact ⟨by rw [← ha.defers], this.size, this.rel⟩
      have gg := (g0.trans hr hr0 (.of ((st1.trans hr0 st3).trans hr0 st4)))
      refine ⟨pend, _, run_endLoop hw3 hne, ?_⟩
      cases pend with
      | none => exact ⟨a, _, β3, _, ha3, rr4, gg, q⟩
      | some c =>
        cases c <;> first
          | exact q.elim
          | exact wpIn_ret ⟨a, _, β3, _, ha3, rr4, gg, q⟩
          | exact wpIn_exit ⟨a, _, β3, _, ha3, rr4, gg, q⟩
          | exact wpIn_goto ⟨a, _, β3, _, ha3, rr4, gg, q⟩
    · exact q.elim
end Go.Sim

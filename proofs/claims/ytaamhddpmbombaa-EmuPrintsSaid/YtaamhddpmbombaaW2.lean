/- Part 2 of the claim EmuPrints: M1, M2, M3, A9, A10, A11, A12 -/
import Derived.MapKept
import Derived.WideKeyRuns
import Derived.Laws.BytesArg
import Derived.OrdersIn
import Derived.TacticsIn
import Derived.RangeFuncRecord
import Derived.Conc.LoneSelect
import Derived.Test.YtaamhddpmbombaaW1
set_option linter.unusedSimpArgs false
set_option linter.unusedVariables false
set_option linter.defProp false
noncomputable section
namespace Go.Sim
open Go.RowKit Go.MapKept
def constK : Value → Bool
 | .agg xs => xs.toList.all qF
 | v => qF v
theorem VRel.of_const {β : Place} {v mv : Value} (h : qF v = true) (hv : VRel β v mv) : mv = v := by
 cases hv with
 | @tuple xs xs' hx _ =>
  have h1 : xs = #[] := by simpa [qF] using h
  subst h1
  have h2 : xs' = #[] := Array.size_eq_zero_iff.1 (by simpa using hx.symm)
  rw [h2]
 | _ => first | rfl | (simp [qF] at h)
theorem VRels.of_const {β : Place} : ∀ {l l' : List Value}, l.all qF = true → VRels β l l' → l' = l
 | _, _, _, .nil => rfl
 | _, _, h, .cons hv t => by
  simp only [List.all_cons, Bool.and_eq_true] at h
  rw [hv.of_const h.1, VRels.of_const h.2 t]
theorem VRel.constK {β : Place} {v : Value} (h : constK v = true) : VRel β v v := by
 cases v <;> first | exact VRel.const h | skip
 rename_i xs
 exact VRel.agg_iff.2 ⟨xs, rfl, VRels.const h⟩
theorem VRel.of_constK {β : Place} {v mv : Value} (h : Sim.constK v = true) (hv : VRel β v mv) : mv = v := by
 cases v <;> first | exact hv.of_const h | skip
 obtain ⟨xs', rfl, r⟩ := VRel.agg_iff.1 hv
 have := VRels.of_const h r
 congr 1
 apply Array.ext'
 exact this
def wi : TypeDesc → Bool
 | .int _ => true
 | .string => true
 | .bool => true
 | _ => false
def We (P : Program) (kt : TypeId) (x y : Value) : Option Bool :=
 match P.underlying kt with
 | some (.struct fs) => eqV P 10000 kt x y
 | some D => if wi D then Instr.sameNow D x y else none
 | none => none
def wz (P : Program) (kt : TypeId) (k : Value) : List MapEntry → Nat → Option (Option (Nat × Value))
 | [], _ => some none
 | e :: es, i =>
  match We P kt k e.key with
  | some true => some (some (i, e.val))
  | some false => wz P kt k es (i + 1)
  | none => none
def kV (P : Program) (kt : TypeId) (k : Value) : Bool :=
 match P.underlying kt, k with
 | some (.int _), .int _ _ => constK k
 | some .string, .string _ => constK k
 | some .bool, .bool _ => constK k
 | some (.struct fs), .agg xs => constK k && fs.toList.all fun f => f.name == "_" || (match P.underlying f.type with
  | some D => wi D && (wy P f.type xs.toList f.offset).isSome
  | none => false)
 | _, _ => false
theorem yC {P : Program} {kt : TypeId} {k : Value} (h : kV P kt k = true) : constK k = true := by
 unfold kV at h
 split at h <;> first | exact h | (simp at h; exact h.1) | cases h
theorem J7 {P : Program} {kt : TypeId} {k : Value} (h : kV P kt k = true) (em : Bool) (w : World) : (Instr.checkKey em 10000 kt k).run P w = .ok () w := by
 have simple : ∀ (n : Nat) (t : TypeId) (D : TypeDesc) (v : Value), P.underlying t = some D → wi D = true → (Instr.checkKey em (n + 1) t v).run P w = .ok () w := by
  intro n t D v hu hs
  unfold Instr.checkKey
  simp only [Sem.run_bind, run_underlying hu, Result.andThen_ok]
  cases D <;> simp [wi] at hs <;> cases v <;> rfl
 unfold kV at h
 split at h
 ·rename_i hu; exact simple 9999 kt _ _ hu rfl
 ·rename_i hu; exact simple 9999 kt _ _ hu rfl
 ·rename_i hu; exact simple 9999 kt _ _ hu rfl
 ·rename_i fs xs hu
  simp only [Bool.and_eq_true] at h
  obtain ⟨hc, hf⟩ := h
  have hx : VRel (fun _ => none) (.agg xs) (.agg xs) := VRel.constK hc
  obtain ⟨mxs, e1, rx⟩ := VRel.agg_iff.1 hx
  cases e1
  show (Instr.checkKey em (9999 + 1) kt (.agg xs)).run P w = .ok () w
  unfold Instr.checkKey
  simp only [Sem.run_bind, run_underlying hu, Result.andThen_ok]
  rw [← Array.forIn_toList]
  clear hu hx hc
  generalize fs.toList = L at hf
  induction L with
  | nil => simp
  | cons f L ih =>
   simp only [List.all_cons, Bool.and_eq_true, Bool.or_eq_true, beq_iff_eq] at hf
   obtain ⟨h1, h2⟩ := hf
   by_cases hn : f.name = "_"
   ·simp only [List.forIn_cons, Sem.run_bind, hn, ne_eq, not_true_eq_false, if_false, Sem.run_pure, Result.andThen_ok]
    exact ih h2
   ·rcases h1 with h1 | h1
    ·exact absurd h1 hn
    ·cases hD : P.underlying f.type with
     | none => simp [hD] at h1
     | some D =>
      simp only [hD, Bool.and_eq_true] at h1
      obtain ⟨v, hv⟩ := Option.isSome_iff_exists.1 h1.2
      obtain ⟨mv, ep, _⟩ := jk rx hv w
      have ec := simple 9998 f.type D mv hD h1.1
      simp only [List.forIn_cons, Sem.run_bind, hn, ne_eq, not_false_eq_true, if_true, ep, Result.andThen_ok, ec, Sem.run_pure]
      exact ih h2
 ·cases h
theorem ERels.length {β : Place} {l l' : List MapEntry} (h : ERels β l l') : l.length = l'.length := by
 induction h with
 | nil => rfl
 | cons _ _ _ ih => simp [ih]
def FRel (β : Place) (i n : Nat) : Option (Nat × Value) → Option (Nat × Value) → Prop
 | none, none => True
 | some (j, v), some (j', v') => j = j' ∧ i ≤ j ∧ j < i + n ∧ VRel β v v'
 | _, _ => False
theorem FRel.next {β : Place} {i n : Nat} {a b : Option (Nat × Value)} (h : FRel β (i + 1) n a b) : FRel β i (n + 1) a b := by
 cases a with
 | none => cases b with
  | none => trivial
  | some b => exact h.elim
 | some a =>
  cases b with
  | none => exact h.elim
  | some b =>
   obtain ⟨h1, h2, h3, h4⟩ := h
   exact ⟨h1, by omega, by omega, h4⟩
theorem Yj {P : Program} {β : Place} {kt : TypeId} {D : TypeDesc} {k : Value} (hu : P.underlying kt = some D) (hs : wi D = true) : ∀ {es mes : List MapEntry} (i : Nat) {r : Option (Nat × Value)}, ERels β es mes → wz P kt k es i = some r →
  ∃ mr, Instr.findNow D k mes i = some mr ∧ FRel β i es.length r mr
 | [], _, i, r, .nil, h => by
  simp only [wz, Option.some.injEq] at h
  subst h
  exact ⟨none, rfl, trivial⟩
 | _ :: _, _, i, r, .cons (k := k2) (v := v) (v' := v') (n := n) hk hv t, h => by
  have hn : ∀ fs, D ≠ .struct fs := by rintro fs rfl; simp [wi] at hs
  have hq : We P kt k k2 = Instr.sameNow D k k2 := by
   unfold We
   rw [hu]
   cases D <;> simp [wi] at hs <;> simp [wi]
  simp only [wz, hq] at h
  simp only [Instr.findNow]
  cases hsn : Instr.sameNow D k k2 with
  | none => simp [hsn] at h
  | some b =>
   rw [hsn] at h
   cases b
   ·obtain ⟨mr, e1, e2⟩ := Yj hu hs (i + 1) t h
    exact ⟨mr, e1, e2.next⟩
   ·simp only [Option.some.injEq] at h
    subst h
    exact ⟨_, rfl, rfl, Nat.le_refl _, by simp, hv⟩
theorem vY {P : Program} {β : Place} {kt : TypeId} {fs : Array Field} {k : Value} (hu : P.underlying kt = some (.struct fs)) (hk : VRel β k k) (w : World) : ∀ {es mes : List MapEntry} (i : Nat) {r : Option (Nat × Value)}, ERels β es mes → wz P kt k es i = some r →
  ∃ mr, (Instr.findAsking kt k mes i).run P w = .ok mr w ∧ FRel β i es.length r mr
 | [], _, i, r, .nil, h => by
  simp only [wz, Option.some.injEq] at h
  subst h
  exact ⟨none, by simp [Instr.findAsking], trivial⟩
 | _ :: _, _, i, r, .cons (k := k2) (v := v) (v' := v') (n := n) hk2 hv t, h => by
  have hq : We P kt k k2 = eqV P 10000 kt k k2 := by unfold We; rw [hu]
  simp only [wz, hq] at h
  cases hsn : eqV P 10000 kt k k2 with
  | none => simp [hsn] at h
  | some b =>
   have he := vu (P := P) 10000 hk hk2 hsn w
   rw [hsn] at h
   have heq : (Op.equal kt k k2).run P w = .ok b w := by simpa [Op.equal, Op.maxDepth] using he
   cases b
   ·obtain ⟨mr, e1, e2⟩ := vY hu hk w (i + 1) t h
    exact ⟨mr, by simp only [Instr.findAsking, Sem.run_bind, heq, Result.andThen_ok, Bool.false_eq_true, if_false, e1], e2.next⟩
   ·simp only [Option.some.injEq] at h
    subst h
    exact ⟨some (i, v'), by simp only [Instr.findAsking, Sem.run_bind, heq, Result.andThen_ok, if_true, Sem.run_pure], rfl, Nat.le_refl _, by simp, hv⟩
theorem Kr {P : Program} {β : Place} {kt : TypeId} {k : Value} {es mes : List MapEntry} {r : Option (Nat × Value)} (hok : kV P kt k = true) (hk : VRel β k k) (he : ERels β es mes) (h : wz P kt k es 0 = some r) (w : World) :
  ∃ mr, (Instr.findKey kt k mes).run P w = .ok mr w ∧ FRel β 0 es.length r mr := by
 unfold kV at hok
 split at hok
 ·rename_i hu
  obtain ⟨mr, e1, e2⟩ := Yj hu rfl 0 he h
  exact ⟨mr, run_findKey hu e1, e2⟩
 ·rename_i hu
  obtain ⟨mr, e1, e2⟩ := Yj hu rfl 0 he h
  exact ⟨mr, run_findKey hu e1, e2⟩
 ·rename_i hu
  obtain ⟨mr, e1, e2⟩ := Yj hu rfl 0 he h
  exact ⟨mr, run_findKey hu e1, e2⟩
 ·rename_i fs xs hu
  obtain ⟨mr, e1, e2⟩ := vY hu hk w 0 he h
  exact ⟨mr, by rw [run_findKey_eq (P := P) (w := w) (k := kt) (by rw [hu]) (.agg xs) mes]; exact e1, e2⟩
 ·cases hok
theorem KH {P : Program} {w : World} {r : Nat} {es : Array MapEntry} {clock : Nat} (hb : w.heap[r]? = some (.map es clock)) : (getObj r).run P w = .ok (.map es clock) w := by
 simp [getObj, Sem.run, hb]
theorem JA {P : Program} {w : World} {r : Nat} {es : Array MapEntry} {clock : Nat} (o : Obj) (hb : w.heap[r]? = some (.map es clock)) : (setObj r o).run P w = .ok () { w with heap := w.heap.setIfInBounds r o } := by
 simp [setObj, Sem.run, hb]
def jH (h : Heap) (m : Value) : Option (List MapEntry) :=
 match m with
 | .map none => some []
 | .map (some r) => match h.get r with
  | some (.map es _) => some es
  | _ => none
 | _ => none
def Jz (P : Program) (t : TypeId) (h : Heap) (m k : Value) (ok : Bool) : Option Value :=
 match P.underlying t, jH h m with
 | some (.map kt et), some es =>
  if kV P kt k = true then
   match wz P kt k es 0 with
   | some (some (_, v)) => some (if ok then .tuple #[v, .bool true] else v)
   | some none => match (P.info? et).bind (·.zero) with
    | some z => if constK z = true then some (if ok then .tuple #[z, .bool false] else z) else none
    | none => none
   | none => none
  else none
 | _, _ => none
theorem U5 {P : Program} {β : Place} {h : Heap} {w : World} {t : TypeId} {m mm k mk : Value} {ok : Bool} {v : Value} (hr : Rel P β h w) (hm : VRel β m mm) (hk : VRel β k mk) (hl : Jz P t h m k ok = some v) :
  ∃ mv, (Instr.lookup t mm mk ok).run P w = .ok mv w ∧ VRel β v mv := by
 unfold Jz at hl
 split at hl
 ·rename_i kt et es hu hes
  split at hl
  ·rename_i hok
   obtain rfl := hk.of_constK (yC hok)
   have fin : ∀ mes : Array MapEntry, ERels β es mes.toList → (∃ mv, ((do
      Instr.checkKey mes.isEmpty 10000 kt mk
      let (v, ok') ← match ← Instr.findKey kt mk mes.toList with
       | some (_, v) => pure (v, true)
       | none => pure (← zeroValue et, false)
      pure (if ok then .tuple #[v, .bool ok'] else v) : Sem Value)).run P w = .ok mv w ∧ VRel β v mv) := by
    intro mes hE
    have hc := J7 hok mes.isEmpty w
    split at hl
    ·rename_i i v1 hf
     cases hl
     obtain ⟨mr, e1, e2⟩ := Kr hok hk hE hf w
     cases mr with
     | none => exact e2.elim
     | some p =>
      obtain ⟨j, v'⟩ := p
      obtain ⟨_, _, _, hv'⟩ := e2
      refine ⟨_, by simp only [Sem.run_bind, hc, e1, Result.andThen_ok, Sem.run_pure]; rfl, ?_⟩
      cases ok
      ·exact hv'
      ·exact VRel.tuple_iff.2 ⟨_, rfl, .cons hv' (.cons (.bool true) .nil)⟩
    ·rename_i hf
     obtain ⟨mr, e1, e2⟩ := Kr hok hk hE hf w
     cases mr with
     | some p => exact e2.elim
     | none =>
      split at hl
      ·rename_i z hz
       split at hl
       ·rename_i hcz
        cases hl
        cases hi : P.info? et with
        | none => rw [hi] at hz; cases hz
        | some i =>
         rw [hi] at hz
         have hzv : (zeroValue et).run P w = .ok z w := by
          have : i.zero = some z := hz
          simp [zeroValue, typeInfo, hi, this]
         have hz' := VRel.constK (β := β) hcz
         refine ⟨_, by simp only [Sem.run_bind, hc, e1, Result.andThen_ok, Sem.run_pure, hzv]; rfl, ?_⟩
         cases ok
         ·exact hz'
         ·exact VRel.tuple_iff.2 ⟨_, rfl, .cons hz' (.cons (.bool false) .nil)⟩
       ·cases hl
      ·cases hl
    ·cases hl
   unfold jH at hes
   split at hes
   ·cases hes
    cases hm
    obtain ⟨mv, e, r⟩ := fin #[] .nil
    refine ⟨mv, ?_, r⟩
    rw [← e]
    unfold Instr.lookup
    simp only [Sem.run_bind, run_underlying hu, Result.andThen_ok, Sem.run_pure]
    rfl
   ·rename_i b
    split at hes
    ·rename_i es' ck hg
     cases hes
     cases hm with
     | @map _ m s hb =>
      obtain ⟨mes, hh, hE⟩ := hr.obj _ _ _ _ hb hg
      obtain ⟨mv, e, r⟩ := fin mes hE
      refine ⟨mv, ?_, r⟩
      rw [← e]
      unfold Instr.lookup
      simp only [Sem.run_bind, run_underlying hu, Result.andThen_ok, Sem.run_pure, KH hh]
      rfl
    ·cases hes
   ·cases hes
  ·cases hl
 ·cases hl
open Go.RowKit
theorem Wr {w : World} {r : Nat} {o o' : Obj} (hb : w.heap[r]? = some o) : (w.heap.setIfInBounds r o')[r]? = some o' ∧ ∀ r', r' ≠ r → (w.heap.setIfInBounds r o')[r']? = w.heap[r']? := by
 have hlt : r < w.heap.size := (Array.getElem?_eq_some_iff.1 hb).1
 exact ⟨by simp [hlt], fun r' hne => by simp [Ne.symm hne]⟩
def a0r (es : List MapEntry) (clock : Nat) (k v : Value) (r : Option (Nat × Value)) : List MapEntry × Nat :=
 match r with
 | some (i, _) => (es.modify i fun e => { e with key := k, val := v }, clock)
 | none => (es ++ [⟨k, v, clock⟩], clock + 1)
def a1F (es : List MapEntry) (k : Value) : Option (Nat × Value) → Bool
 | some (i, _) => match es[i]? with
  | some e => Instr.sameBits 10000 e.key k
  | none => false
 | none => true
def Qp (P : Program) (t : TypeId) (h : Heap) (m k v : Value) : Option Heap :=
 match P.underlying t, m with
 | some (.map kt _), .map (some r) =>
  match h.get r with
  | some (.map es ck) =>
   if kV P kt k = true then
    match wz P kt k es 0 with
    | some f =>
     if a1F es k f = true then
      some (h.set r (.map (a0r es ck k v f).1 (a0r es ck k v f).2))
     else none
    | none => none
   else none
  | _ => none
 | _, _ => none
theorem ERels.modify {β : Place} {k v v' : Value} (hk : VRel β k k) (hv : VRel β v v') : ∀ {es mes : List MapEntry} (i : Nat), ERels β es mes → ERels β (es.modify i fun e => { e with key := k, val := v }) (mes.modify i fun e => { e with key := k, val := v' })
 | _, _, i, .nil => by cases i <;> exact .nil
 | _, _, 0, .cons _ _ t => .cons hk hv t
 | _, _, i + 1, .cons h1 h2 t => .cons h1 h2 (ERels.modify hk hv i t)
theorem ERels.snoc {β : Place} {k v v' : Value} {n : Nat} (hk : VRel β k k) (hv : VRel β v v') : ∀ {es mes : List MapEntry}, ERels β es mes → ERels β (es ++ [⟨k, v, n⟩]) (mes ++ [⟨k, v', n⟩])
 | _, _, .nil => .cons hk hv .nil
 | _, _, .cons h1 h2 t => .cons h1 h2 (ERels.snoc hk hv t)
theorem ERels.at {β : Place} : ∀ {es mes : List MapEntry} (i : Nat) {e : MapEntry}, ERels β es mes → es[i]? = some e → ∃ e', mes[i]? = some e' ∧ e'.key = e.key ∧ e'.born = e.born ∧ VRel β e.val e'.val
 | _, _, i, e, .nil, h => by simp at h
 | _, _, 0, e, .cons h1 h2 t, h => by simp at h; subst h; exact ⟨_, rfl, rfl, rfl, h2⟩
 | _, _, i + 1, e, .cons h1 h2 t, h => by simpa using ERels.at i t (by simpa using h)
theorem ERels.erase {β : Place} : ∀ {es mes : List MapEntry} (i : Nat), ERels β es mes → ERels β (es.eraseIdx i) (mes.eraseIdx i)
 | _, _, i, .nil => by cases i <;> exact .nil
 | _, _, 0, .cons _ _ t => t
 | _, _, i + 1, .cons h1 h2 t => .cons h1 h2 (ERels.erase i t)
theorem Rel.setMap {P : Program} {β : Place} {h : Heap} {w : World} {r m : Nat} {s : Sh} {es es' : List MapEntry} {ck ck' : Nat} {mes' : Array MapEntry} {mo : Obj} (hr : Rel P β h w) (hb : β r = some (m, s)) (hg : h.get r = some (.map es ck)) (hm : w.heap[m]? = some mo)
  (hE : ERels β es' mes'.toList) : Rel P β (h.set r (.map es' ck')) { w with heap := w.heap.setIfInBounds m (.map mes' ck') } ∧ Step β h w β (h.set r (.map es' ck')) { w with heap := w.heap.setIfInBounds m (.map mes' ck') } := by
 obtain ⟨h1, h2⟩ := Wr (o' := .map mes' ck') hm
 exact hr.update hb hg rfl rfl (by simp) h2 rfl rfl rfl ⟨mes', h1, hE⟩
theorem JO {P : Program} {β : Place} {h h' : Heap} {w : World} {t : TypeId} {m mm k mk v mv : Value} (hr : Rel P β h w) (hm : VRel β m mm) (hk : VRel β k mk) (hv : VRel β v mv) (hp : Qp P t h m k v = some h') :
  ∃ w', (Instr.mapUpdate t mm mk mv).run P w = .ok () w' ∧ Rel P β h' w' ∧ Step β h w β h' w' := by
 unfold Qp at hp
 split at hp
 ·rename_i kt et b hu
  split at hp
  ·rename_i es ck hg
   split at hp
   ·rename_i hok
    obtain rfl := hk.of_constK (yC hok)
    split at hp
    ·rename_i f hf
     split at hp
     ·rename_i hs
      cases hp
      cases hm with
      | @map _ mb s hb =>
       obtain ⟨mes, hh, hE⟩ := hr.obj _ _ _ _ hb hg
       have hc := J7 hok false w
       obtain ⟨mr, e1, e2⟩ := Kr hok hk hE hf w
       have start : ∀ (w' : World) (x : Sem Unit), x.run P w = .ok () w' → ((match mr with
         | some (i, _) => do
          let key ← Instr.keyThatStays (((mes[i]?).map (·.key)).getD mk) mk
          setObj mb (.map (mes.modify i fun e => { e with key, val := mv }) ck)
         | none => setObj mb (.map (mes.push { key := mk, val := mv, born := ck }) (ck + 1)) : Sem Unit)).run P w = x.run P w →
         (Instr.mapUpdate t (.map (some mb)) mk mv).run P w = .ok () w' := by
        intro w' x h1 h2
        unfold Instr.mapUpdate
        simp only [Sem.run_bind, run_underlying hu, Result.andThen_ok, KH hh, hc, e1]
        rw [← h1, ← h2]
        cases mr <;> rfl
       cases f with
       | none =>
        cases mr with
        | some p => exact e2.elim
        | none =>
         obtain ⟨r1, st⟩ := hr.setMap (es' := (a0r es ck mk v none).1) (ck' := ck + 1) (mes' := mes.push { key := mk, val := mv, born := ck }) hb hg hh (by
          simp only [a0r, Array.toList_push]
          exact ERels.snoc hk hv hE)
         exact ⟨_, start _ (setObj mb (.map (mes.push { key := mk, val := mv, born := ck }) (ck + 1))) (JA _ hh) rfl, r1, st⟩
       | some p =>
        obtain ⟨i, v0⟩ := p
        cases mr with
        | none => exact e2.elim
        | some p' =>
         obtain ⟨j, v0'⟩ := p'
         obtain ⟨rfl, _, hlt, _⟩ := e2
         have he : ∃ e, es[i]? = some e := ⟨_, List.getElem?_eq_getElem (by omega)⟩
         obtain ⟨e, he⟩ := he
         obtain ⟨e', hme, hkey, _, _⟩ := ERels.at i hE he
         simp only [a1F, he] at hs
         have hst : (Instr.keyThatStays (((mes[i]?).map (·.key)).getD mk) mk).run P w = .ok mk w := by
          have : mes[i]? = some e' := by simpa using hme
          unfold Instr.keyThatStays
          simp only [this, Option.map_some, Option.getD_some, hkey, hs, if_true, Sem.run_pure]
         obtain ⟨r1, st⟩ := hr.setMap (es' := (a0r es ck mk v (some (i, v0))).1) (ck' := ck) (mes' := mes.modify i fun e => { e with key := mk, val := mv }) hb hg hh (by
          simp only [a0r, Array.toList_modify]
          exact ERels.modify hk hv i hE)
         refine ⟨_, start _ (setObj mb (.map (mes.modify i fun e => { e with key := mk, val := mv }) ck)) (JA _ hh) ?_, r1, st⟩
         simp only [Sem.run_bind, hst, Result.andThen_ok]
     ·cases hp
    ·cases hp
   ·cases hp
  ·cases hp
 ·cases hp
def Y7 (P : Program) (t : TypeId) (h : Heap) (m k : Value) : Option Heap :=
 match P.underlying t, m with
 | some (.map kt _), .map none => if kV P kt k = true then some h else none
 | some (.map kt _), .map (some r) =>
  match h.get r with
  | some (.map es ck) =>
   if kV P kt k = true then
    match wz P kt k es 0 with
    | some (some (i, _)) => some (h.set r (.map (es.eraseIdx i) ck))
    | some none => some (h.set r (.map es ck))
    | none => none
   else none
  | _ => none
 | _, _ => none
theorem Uc {P : Program} {β : Place} {h h' : Heap} {w : World} {t ty : TypeId} {m mm k mk : Value} (hr : Rel P β h w) (hm : VRel β m mm) (hk : VRel β k mk) {ts : Array TypeId} (ht : ts[0]? = some t) (hp : Y7 P t h m k = some h') :
  ∃ w', (Builtin.delete_ ts ty #[mm, mk]).run P w = .ok (.tuple #[]) w' ∧ Rel P β h' w' ∧ Step β h w β h' w' := by
 unfold Y7 at hp
 split at hp
 ·rename_i kt et hu
  split at hp
  ·rename_i hok
   cases hp
   cases hm
   obtain rfl := hk.of_constK (yC hok)
   refine ⟨w, ?_, hr, Step.refl _ _ _⟩
   unfold Builtin.delete_
   simp [ht, run_underlying hu, J7 hok]
  ·cases hp
 ·rename_i kt et b hu
  split at hp
  ·rename_i es ck hg
   split at hp
   ·rename_i hok
    obtain rfl := hk.of_constK (yC hok)
    cases hm with
    | @map _ mb s hb =>
     obtain ⟨mes, hh, hE⟩ := hr.obj _ _ _ _ hb hg
     have hc := J7 hok mes.isEmpty w
     split at hp
     ·rename_i i v hf
      cases hp
      obtain ⟨mr, e1, e2⟩ := Kr hok hk hE hf w
      cases mr with
      | none => exact e2.elim
      | some p =>
       obtain ⟨j, v'⟩ := p
       obtain ⟨rfl, _, _, _⟩ := e2
       obtain ⟨r1, st⟩ := hr.setMap (es' := es.eraseIdx i) (ck' := ck) (mes' := mes.eraseIdxIfInBounds i) hb hg hh (by
        simp only [Array.toList_eraseIdxIfInBounds]
        exact ERels.erase i hE)
       refine ⟨_, ?_, r1, st⟩
       unfold Builtin.delete_
       simp [ht, run_underlying hu, KH hh, hc, e1, JA _ hh]
     ·rename_i hf
      cases hp
      obtain ⟨mr, e1, e2⟩ := Kr hok hk hE hf w
      cases mr with
      | some p => exact e2.elim
      | none =>
       obtain ⟨r1, st⟩ := hr.setMap (es' := es) (ck' := ck) (mes' := mes) hb hg hh hE
       refine ⟨_, ?_, r1, st⟩
       unfold Builtin.delete_
       simp [ht, run_underlying hu, KH hh, hc, e1, JA _ hh]
     ·cases hp
   ·cases hp
  ·cases hp
 ·cases hp
open Go.RowKit
def JW (P : Program) (ts : List TypeId) (h : Heap) (d x : Value) : Option (Value × Heap) :=
 match ts with
 | [t, t2] =>
  match P.underlying t with
  | some (.slice e) =>
   match szT P e with
   | some z =>
    match uX P z t2 h x with
    | some (m, news) =>
     match d with
     | .slice none 0 0 => if m = 0 then some (goInt 0, h) else none
     | .slice (some ⟨b, o, none⟩) n _ =>
      if m = 0 then some (goInt 0, h) else
      if m ≤ n then
       match h.get b with
       | some (.cells cs e' true) => if o + news.length ≤ cs.length then some (goInt m, h.set b (.cells (qL cs o news) e' true)) else none
       | _ => none
      else none
     | _ => none
    | none => none
   | none => none
  | _ => none
 | _ => none
theorem a4q {P : Program} {β : Place} {h h' : Heap} {w : World} {ts : List TypeId} {ty : TypeId} {d x md mx v : Value} (hr : Rel P β h w) (hd : VRel β d md) (hx : VRel β x mx) (ha : JW P ts h d x = some (v, h')) :
  ∃ w', (Builtin.copy_ ts.toArray ty #[md, mx]).run P w = .ok v w' ∧ VRel β v v ∧ Rel P β h' w' ∧ Step β h w β h' w' := by
 unfold JW at ha
 split at ha
 ·rename_i t t2
  split at ha
  ·rename_i e hu
   split at ha
   ·rename_i z hz
    split at ha
    ·rename_i m news hs
     obtain ⟨mnews, hrn, hlen, hone, hlo, _, hfo⟩ := X7 hr hx hs
     have hml : mnews.length = m * z := by rw [← hrn.length]; exact hlen
     have zero : m = 0 → ∀ (a : Option Addr) (n c : Nat), (Builtin.copy_ #[t, t2] ty #[.slice a n c, mx]).run P w = .ok (goInt 0) w := by
      rintro rfl a n c
      have hf := hfo w rfl
      have hnil : mnews = [] := List.length_eq_zero_iff.1 (by simpa using hml)
      subst hnil
      unfold Builtin.copy_
      cases a <;> simp [run_underlying hu, hlo, zJ hz, hf, storeCells, goInt]
     split at ha
     ·split at ha
      ·rename_i hm
       cases ha
       cases hd
       exact ⟨w, zero hm _ _ _, VRel.const rfl, hr, Step.refl _ _ _⟩
      ·cases ha
     ·rename_i b o n c
      split at ha
      ·rename_i hm
       cases ha
       rcases hd.slice_inv with ⟨m', s', c', hb, rfl, _⟩ | ⟨_, _, a', c', rfl⟩ | ⟨_, _, a', rfl⟩
       ·exact ⟨w, zero hm _ _ _, VRel.const rfl, hr, Step.refl _ _ _⟩
       ·exact ⟨w, zero hm _ _ _, VRel.const rfl, hr, Step.refl _ _ _⟩
       ·exact ⟨w, zero hm _ _ _, VRel.const rfl, hr, Step.refl _ _ _⟩
      ·rename_i hm
       split at ha
       ·rename_i hmn
        split at ha
        ·rename_i cs e' hg
         split at ha
         ·rename_i hle
          cases ha
          rcases hd.slice_inv with ⟨m', s', c', hb, rfl, _⟩ | ⟨rfl, rfl, a', c', rfl⟩ | ⟨rfl, rfl, a', rfl⟩
          ·obtain ⟨w', e1, hr', st⟩ := Q6 (P := P) hrn o 0 hr hb hg (by simpa using hle) hone
           simp only [Nat.add_zero] at hr' st
           refine ⟨w', ?_, VRel.const rfl, hr', st⟩
           have hf := hfo w rfl
           have hmin : Nat.min m n = m := Nat.min_eq_left hmn
           unfold Builtin.copy_
           simp [run_underlying hu, hlo, zJ hz, hmin, hf, e1]
          ·exact absurd (Nat.le_zero.1 hmn) hm
          ·exact absurd (Nat.le_zero.1 hmn) hm
         ·cases ha
        ·cases ha
       ·cases ha
     ·cases ha
    ·cases ha
   ·cases ha
  ·cases ha
 ·cases ha
open Go.RowKit
def adv (P : Program) (β : Place) (h : Heap) (w : World) (r : Sem Value) (K : Value → Heap → Prop) : Prop :=
 ∃ mv w' v h' β', r.run P w = .ok mv w' ∧ VRel β' v mv ∧ Rel P β' h' w' ∧ Step β h w β' h' w' ∧ K v h'
def Qn (P : Program) (t : TypeId) (x : Value) (h : Heap) (K : Value → Heap → Prop) : Prop :=
 match P.underlying t, x with
 | some .string, .string s => K (kH h.next) (h.push (.striter s 0))
 | some (.map _ _), .map none => K (kH h.next) (h.push (.iter none 0 [] 0))
 | some (.map _ _), .map (some r) => match h.get r with
  | some (.map _ ck) => K (kH h.next) (h.push (.iter (some r) ck [] ck))
  | _ => False
 | _, _ => False
theorem a48 {P : Program} {β : Place} {h : Heap} {w : World} {t : TypeId} {x mx : Value} {K : Value → Heap → Prop} (hr : Rel P β h w) (hx : VRel β x mx) (hk : Qn P t x h K) : adv P β h w (Instr.range t mx) K := by
 have make : ∀ (o : AObj) (mo : Obj), (Instr.range t mx).run P w = .ok (.pointer (some ⟨w.heap.size, 0, none⟩)) { w with heap := w.heap.push mo } →
   ORel P (β.add h.next w.heap.size ⟨0, 0, 0⟩) { w with heap := w.heap.push mo } w.heap.size ⟨0, 0, 0⟩ o → K (kH h.next) (h.push o) → adv P β h w (Instr.range t mx) K := by
  intro o mo hrun ho hK
  obtain ⟨hr', st⟩ := hr.alloc (w' := { w with heap := w.heap.push mo }) (s := ⟨0, 0, 0⟩) rfl rfl rfl rfl ho
  exact ⟨_, _, _, _, _, hrun, VRel.ptr (o := 0) (Place.add_same _ _ _ _), hr', st, hK⟩
 unfold Qn at hk
 split at hk
 ·rename_i s hu
  cases hx
  exact make _ (.stringIter s 0) (by simp [Instr.range, run_underlying hu]) (show ORel P _ _ _ _ (.striter s 0) from ⟨rfl, by simp⟩) hk
 ·rename_i k e hu
  cases hx
  exact make _ (.mapIter none 0 #[] 0) (by simp [Instr.range, run_underlying hu]) (show ORel P _ _ _ _ (.iter none 0 [] 0) from ⟨rfl, none, by simp, trivial⟩) hk
 ·rename_i k e r hu
  split at hk
  ·rename_i es ck hg
   cases hx with
   | @map _ m s hb =>
    obtain ⟨mes, hh, _⟩ := hr.obj _ _ _ _ hb hg
    refine make _ (.mapIter (some m) ck #[] ck) ?_ (show ORel P _ _ _ _ (.iter (some r) ck [] ck) from ⟨rfl, some m, by simp, s, Place.add_mono _ _ hr.noNext _ _ hb⟩) hk
    unfold Instr.range
    simp only [Sem.run_bind, run_underlying hu, Result.andThen_ok, KH hh]
    rfl
  ·exact hk.elim
 ·exact hk.elim
def J1 (P : Program) (it : Value) (isString : Bool) (h : Heap) (K : Value → Heap → Prop) : Prop :=
 match it, isString with
 | .pointer (some ⟨r, 0, none⟩), true => match h.get r with
  | some (.striter s pos) =>
   if pos < s.size then K (.tuple #[.bool true, goInt pos, .int .i32 (Utf8.decode s pos).1]) (h.set r (.striter s (pos + (Utf8.decode s pos).2)))
   else K (.tuple #[.bool false]) h
  | _ => False
 | .pointer (some ⟨r, 0, none⟩), false => match h.get r with
  | some (.iter none _ _ _) => K (.tuple #[.bool false]) h
  | some (.iter (some b) since seen last) => match h.get b with
   | some (.map es ck) =>
    (!seen.isEmpty && !es.isEmpty && es.all fun e => decide (e.born ≥ last)) = false ∧
    (((es.filter fun e => !seen.contains e.born).filter fun e => decide (e.born < since)) = [] → K (.tuple #[.bool false]) h) ∧
    ∀ e ∈ es, seen.contains e.born = false → K (.tuple #[.bool true, e.key, e.val]) (h.set r (.iter (some b) since (seen ++ [e.born]) ck))
   | _ => False
  | _ => False
 | _, _ => False
theorem ERels.filter {β : Place} (p : Nat → Bool) : ∀ {es mes : List MapEntry}, ERels β es mes → ERels β (es.filter fun e => p e.born) (mes.filter fun e => p e.born)
 | _, _, .nil => .nil
 | _, _, .cons (n := n) hk hv t => by
  by_cases hp : p n = true
  ·simp only [List.filter_cons, hp, if_true]; exact .cons hk hv (ERels.filter p t)
  ·simp only [List.filter_cons, hp]; exact ERels.filter p t
theorem ERels.back {β : Place} : ∀ {es mes : List MapEntry} (i : Nat) {e' : MapEntry}, ERels β es mes → mes[i]? = some e' → ∃ e, es[i]? = some e ∧ e'.key = e.key ∧ VRel β e.key e.key ∧ e'.born = e.born ∧ VRel β e.val e'.val
 | _, _, i, e, .nil, h => by simp at h
 | _, _, 0, e, .cons h1 h2 t, h => by simp at h; subst h; exact ⟨_, rfl, rfl, h1, rfl, h2⟩
 | _, _, i + 1, e, .cons h1 h2 t, h => by simpa using ERels.back i t (by simpa using h)
theorem ERels.all {β : Place} (p : Nat → Bool) : ∀ {es mes : List MapEntry}, ERels β es mes → (mes.all fun e => p e.born) = (es.all fun e => p e.born)
 | _, _, .nil => rfl
 | _, _, .cons (n := n) hk hv t => by simp [ERels.all p t]
theorem a6I {P : Program} {β : Place} {h : Heap} {w : World} {it mit : Value} {isString : Bool} {ty : TypeId} {K : Value → Heap → Prop} (hr : Rel P β h w) (hx : VRel β it mit) (hk : J1 P it isString h K) : adv P β h w (Instr.next mit isString ty) K := by
 have stay : (Instr.next mit isString ty).run P w = .ok (.tuple #[.bool false]) w → K (.tuple #[.bool false]) h → adv P β h w (Instr.next mit isString ty) K := by
  intro hrun hK
  exact ⟨_, w, .tuple #[.bool false], h, β, hrun, VRel.tuple_iff.2 ⟨_, rfl, .cons (.bool false) .nil⟩, hr, Step.refl _ _ _, hK⟩
 unfold J1 at hk
 split at hk
 ·rename_i r
  obtain ⟨m, s, hb, rfl⟩ := hx.ptr_inv
  split at hk
  ·rename_i t pos hg
   obtain ⟨h0, hh⟩ := hr.obj _ _ _ _ hb hg
   rw [h0] at stay ⊢
   have hget : (getObj m).run P w = .ok (.stringIter t pos) w := by simp [getObj, Sem.run, hh]
   by_cases hp : pos < t.size
   ·rw [if_pos hp] at hk
    have hset : (setObj m (.stringIter t (pos + (Utf8.decode t pos).2))).run P w = .ok () { w with heap := w.heap.setIfInBounds m (.stringIter t (pos + (Utf8.decode t pos).2)) } := by simp [setObj, Sem.run, hh]
    obtain ⟨k1, k2⟩ := Wr (o' := .stringIter t (pos + (Utf8.decode t pos).2)) hh
    obtain ⟨hr', st⟩ := hr.update (w' := { w with heap := w.heap.setIfInBounds m (.stringIter t (pos + (Utf8.decode t pos).2)) }) (o' := .striter t (pos + (Utf8.decode t pos).2)) hb hg rfl rfl (by simp) k2 rfl rfl rfl ⟨h0, k1⟩
    refine ⟨.tuple #[.bool true, goInt pos, .int .i32 (Utf8.decode t pos).1], _, _, _, _, ?_, VRel.tuple_iff.2 ⟨_, rfl, .cons (.bool true) (.cons (.int _ _) (.cons (.int _ _) .nil))⟩, hr', st, hk⟩
    unfold Instr.next
    simp [hget, hp, hset]
   ·rw [if_neg hp] at hk
    refine stay ?_ hk
    unfold Instr.next
    simp [hget, hp]
  ·exact hk.elim
 ·rename_i r
  obtain ⟨m, s, hb, rfl⟩ := hx.ptr_inv
  split at hk
  ·rename_i since seen last hg
   obtain ⟨h0, mb, hh, hI⟩ := hr.obj _ _ _ _ hb hg
   rw [h0] at stay ⊢
   cases mb with
   | some _ => exact hI.elim
   | none =>
    have hget : (getObj m).run P w = .ok (.mapIter none since seen.toArray last) w := by simp [getObj, Sem.run, hh]
    refine stay ?_ hk
    unfold Instr.next
    simp [hget]
  ·rename_i b since seen last hg
   obtain ⟨h0, mb, hh, hI⟩ := hr.obj _ _ _ _ hb hg
   rw [h0] at stay ⊢
   cases mb with
   | none => exact hI.elim
   | some mb =>
    obtain ⟨sb, hbb⟩ := hI
    split at hk
    ·rename_i es ck hgb
     obtain ⟨mes, hhb, hE⟩ := hr.obj _ _ _ _ hbb hgb
     obtain ⟨hcond, hnone, hall⟩ := hk
     have hget : (getObj m).run P w = .ok (.mapIter (some mb) since seen.toArray last) w := by simp [getObj, Sem.run, hh]
     have hlen := hE.length
     have hc : (!seen.toArray.isEmpty && !mes.isEmpty && mes.all fun e => decide (e.born ≥ last)) = false := by
      rw [← hcond]
      have e1 : mes.isEmpty = es.isEmpty := by
       rw [Bool.eq_iff_iff]
       simp only [Array.isEmpty_iff, List.isEmpty_iff]
       constructor
       ·rintro rfl; exact List.length_eq_zero_iff.1 (by simpa using hlen)
       ·rintro rfl; exact Array.toList_eq_nil_iff.1 (List.length_eq_zero_iff.1 (by simpa using hlen.symm))
      have e2 : (mes.all fun e => decide (e.born ≥ last)) = es.all fun e => decide (e.born ≥ last) := by
       rw [← ERels.all (fun n => decide (n ≥ last)) hE, Array.all_toList]
      rw [e1, e2]
      simp
     let left := mes.filter fun e => !seen.toArray.contains e.born
     let old := left.filter fun e => decide (e.born < since)
     let new := left.filter fun e => decide (e.born ≥ since)
     let cand := (if old.isEmpty then #[none] else #[]) ++ (old ++ new).map some
     have hcand : 0 < cand.size := by
      by_cases ho : old.isEmpty = true
      ·simp only [cand, ho, if_true]; simp only [Array.size_append, Array.size_map]; exact Nat.lt_of_lt_of_le (by decide : 0 < 1) (Nat.le_add_right _ _)
      ·simp only [cand]
       have : old.size ≠ 0 := fun h => ho (by simpa [Array.isEmpty] using h)
       simp; omega
     have hch : ∃ i w1, (choose (.mapNext cand.size)).run P w = .ok i w1 ∧ i < cand.size ∧ w1.heap = w.heap ∧ w1.os = w.os ∧ w1.tape = w.tape ∧ w1.output = w.output := by
      rw [run_choose_drew]
      by_cases hf : Question.forced (.mapNext cand.size) = true
      ·rw [if_pos hf]; exact ⟨0, w, rfl, hcand, rfl, rfl, rfl, rfl⟩
      ·rw [if_neg hf]; exact ⟨_, w.drew, rfl, by simp only [Question.cut]; exact Nat.mod_lt _ hcand, rfl, rfl, rfl, rfl⟩
     obtain ⟨i, w1, hrun, hi, q1, q2, q3, q4⟩ := hch
     have hr1 : Rel P β h w1 := hr.same q1
     have hst1 : Step β h w β h w1 := Step.same q1 q2 q3 q4
     have pre : ∀ (y : Sem Value) (u : Value) (w2 : World), y.run P w1 = .ok u w2 → (match cand[i]? with
       | some (some e) => do
        setObj m (.mapIter (some mb) since (seen.toArray.push e.born) ck)
        pure (.tuple #[.bool true, e.key, e.val])
       | some none => pure (.tuple #[.bool false])
       | none => stuck "Next: no such candidate" : Sem Value).run P w1 = y.run P w1 →
       (Instr.next (.pointer (some ⟨m, 0 + 0, none⟩)) false ty).run P w = .ok u w2 := by
      intro y u w2 h1 h2
      have hcf : ¬ (!seen.toArray.isEmpty && !mes.isEmpty && mes.all fun e => decide (e.born ≥ last)) = true := by rw [hc]; simp
      rw [← h1, ← h2]
      unfold Instr.next
      simp only [Sem.run_bind, hget, Result.andThen_ok, KH hhb]
      rw [if_neg hcf]
      simp only [Sem.run_bind, Sem.run_pure, Result.andThen_ok]
      have := hrun
      simp only [cand, old, new, left] at this
      simp only [ge_iff_le] at this ⊢
      rw [this]
      simp only [Result.andThen_ok]
      rfl
     cases hci : cand[i]? with
     | none => rw [Array.getElem?_eq_none_iff] at hci; omega
     | some ce =>
      cases ce with
      | none =>
       have ho : old.isEmpty = true := by
        cases hq : old.isEmpty with
        | true => rfl
        | false =>
         exfalso
         have := Array.mem_of_getElem? hci
         simp only [cand, hq, Bool.false_eq_true, if_false, Array.mem_append, Array.mem_map] at this
         rcases this with h1 | ⟨x, _, h2⟩
         ·simp at h1
         ·cases h2
       have hK := hnone (by
        have hE1 := ERels.filter (fun n => decide (n < since)) (ERels.filter (fun n => !seen.contains n) hE)
        have : old.toList = [] := by simpa [Array.isEmpty_iff] using ho
        have hl := hE1.length
        have e3 : (mes.toList.filter fun e => !seen.contains e.born).filter (fun e => decide (e.born < since)) = old.toList := by
         simp [old, left]
        rw [e3, this] at hl
        exact List.length_eq_zero_iff.1 (by simpa using hl))
       refine ⟨_, w1, .tuple #[.bool false], h, β, pre (pure (.tuple #[.bool false])) _ w1 rfl (by rw [hci]), VRel.tuple_iff.2 ⟨_, rfl, .cons (.bool false) .nil⟩, hr1, hst1, hK⟩
      | some e' =>
       have hmem : e' ∈ mes.toList ∧ seen.contains e'.born = false := by
        have : e' ∈ (old ++ new) := by
         have := Array.mem_of_getElem? hci
         simp only [cand, Array.mem_append, Array.mem_map] at this
         rcases this with h1 | ⟨x, h1, h2⟩
         ·exfalso
          split at h1
          ·simp at h1
          ·simp at h1
         ·cases h2; exact Array.mem_append.2 (by simpa using h1)
        simp only [old, new, left, Array.mem_append, Array.mem_filter] at this
        rcases this with ⟨⟨h1, h2⟩, _⟩ | ⟨⟨h1, h2⟩, _⟩ <;> exact ⟨by simpa using h1, by simpa using h2⟩
       obtain ⟨j, hj⟩ := List.getElem?_of_mem hmem.1
       obtain ⟨e, he, hkey, hkk, hborn, hval⟩ := ERels.back j hE hj
       have hK := hall e (List.mem_of_getElem? he) (by rw [← hborn]; exact hmem.2)
       have hh1 : w1.heap[m]? = some (.mapIter (some mb) since seen.toArray last) := by rw [q1]; exact hh
       obtain ⟨k1, k2⟩ := Wr (w := w1) (o' := .mapIter (some mb) since (seen.toArray.push e'.born) ck) hh1
       obtain ⟨hr', st⟩ := hr1.update (w' := { w1 with heap := w1.heap.setIfInBounds m (.mapIter (some mb) since (seen.toArray.push e'.born) ck) }) (o' := .iter (some b) since (seen ++ [e.born]) ck) hb hg rfl rfl (by simp) k2 rfl rfl rfl ⟨h0, some mb, by rw [k1, hborn]; simp, sb, hbb⟩
       have hset : (setObj m (.mapIter (some mb) since (seen.toArray.push e'.born) ck)).run P w1 = .ok () { w1 with heap := w1.heap.setIfInBounds m (.mapIter (some mb) since (seen.toArray.push e'.born) ck) } := by simp [setObj, Sem.run, hh1]
       refine ⟨.tuple #[.bool true, e'.key, e'.val], _, .tuple #[.bool true, e.key, e.val], _, β, pre (do
        setObj m (.mapIter (some mb) since (seen.toArray.push e'.born) ck)
        pure (.tuple #[.bool true, e'.key, e'.val])) _ _ (by simp only [Sem.run_bind, hset, Result.andThen_ok, Sem.run_pure]) (by rw [hci]), VRel.tuple_iff.2 ⟨_, rfl, .cons (.bool true) (.cons (by rw [hkey]; exact hkk) (.cons hval .nil))⟩, hr', hst1.trans hr st, hK⟩
    ·exact hk.elim
  ·exact hk.elim
 ·exact hk.elim
def Qf (P : Program) (it : Value) (h : Heap) (K : Value → Heap → Prop) : Prop :=
 match it with
 | .pointer (some ⟨r, 0, none⟩) => match h.get r with
  | some (.iter (some b) _ seen last) => match seen.getLast?, h.get b with
   | some stamp, some (.map es ck) => if ck = last then
     match es.find? (fun e => e.born == stamp) with
     | some e => K (.tuple #[e.key, e.val]) h
     | none => False
    else False
   | _, _ => False
  | _ => False
 | _ => False
theorem ERels.find {β : Place} (n : Nat) : ∀ {es mes : List MapEntry} {e : MapEntry}, ERels β es mes → es.find? (fun e => e.born == n) = some e → ∃ e', mes.find? (fun e => e.born == n) = some e' ∧ e'.key = e.key ∧ VRel β e.key e.key ∧ VRel β e.val e'.val
 | _, _, e, .nil, h => by simp at h
 | _, _, e, .cons (k := kk) (v := v) (v' := v') (n := k) h1 h2 t, h => by
  by_cases hk : k = n
  ·subst hk
   simp at h
   subst h
   exact ⟨⟨kk, v', k⟩, by simp, rfl, h1, h2⟩
  ·have hk' : (k == n) = false := by simpa using hk
   simp only [List.find?_cons, hk'] at h ⊢
   exact ERels.find n t h
theorem a3L {P : Program} {β : Place} {h : Heap} {w : World} {it mit : Value} {K : Value → Heap → Prop} (hr : Rel P β h w) (hx : VRel β it mit) (hk : Qf P it h K) : adv P β h w (Instr.entry mit) K := by
 unfold Qf at hk
 split at hk
 ·rename_i r
  obtain ⟨m, s, hb, rfl⟩ := hx.ptr_inv
  split at hk
  ·rename_i b since seen last hg
   obtain ⟨h0, mb, hh, hI⟩ := hr.obj _ _ _ _ hb hg
   rw [h0]
   cases mb with
   | none => exact hI.elim
   | some mb =>
    obtain ⟨sb, hbb⟩ := hI
    split at hk
    ·rename_i stamp es ck hl hgb
     obtain ⟨mes, hhb, hE⟩ := hr.obj _ _ _ _ hbb hgb
     split at hk
     ·rename_i hck
      split at hk
      ·rename_i e hf
       obtain ⟨e', hf', hkey, hkk, hval⟩ := ERels.find stamp hE hf
       refine ⟨.tuple #[e'.key, e'.val], w, .tuple #[e.key, e.val], h, β, ?_, VRel.tuple_iff.2 ⟨_, rfl, .cons (by rw [hkey]; exact hkk) (.cons hval .nil)⟩, hr, Step.refl _ _ _, hk⟩
       have hget : (getObj m).run P w = .ok (.mapIter (some mb) since seen.toArray last) w := by simp [getObj, Sem.run, hh]
       have hbk : seen.toArray.back? = some stamp := by simpa using hl
       have hff : mes.find? (fun e => e.born == stamp) = some e' := by rw [← Array.find?_toList]; exact hf'
       unfold Instr.entry
       simp only [Sem.run_bind, hget, Result.andThen_ok, hbk, KH hhb]
       simp [hck, hff]
      ·exact hk.elim
     ·exact hk.elim
    ·exact hk.elim
  ·exact hk.elim
 ·exact hk.elim
open Go.RowKit
def ins (t : Nat) (v : Value) (l : List (Nat × Value)) : List (Nat × Value) := (t, v) :: l
theorem Z4 (t : Nat) (v : Value) (u : Nat) (l : List (Nat × Value)) : wv u (ins t v l) = if u = t then some v else wv u l := by
 by_cases h : u = t
 ·subst h; simp [ins, wv]
 ·simp [ins, wv, h, Ne.symm h]
structure Frm where
 n : Nat
 l : List (Nat × Value)
def Frm.get (a : Frm) (t : Nat) : Option Value := wv t a.l
def Frm.put (a : Frm) (d : Option Nat) (v : Value) : Frm :=
 match d with
 | some t => if t < a.n then ⟨a.n, ins t v a.l⟩ else a
 | none => a
def Frm.ev (a : Frm) : Operand → Option Value
 | .tmp t => a.get t
 | .const v => if qF v then some v else none
 | .func f => some (.func (.func f) #[] #[])
 | .global _ => none
abbrev wd (ro : Option Nat) : Fence := { Fence.wide with round := ro }
theorem Jd (ro : Option Nat) (P : Program) (m : Machine) : m.fenced P (wd ro) := fenced_wide P m
theorem a8G (ro : Option Nat) (n : Nat) : (wd ro).room n := room_wide n
structure ARel (D : List Deferred) (β : Place) (a : Frm) (m : Act) : Prop where
 defers : m.defers = D
 size : m.tmps.size = a.n
 rel : ∀ t v, a.get t = some v → ∃ mv, m.tmps[t]? = some mv ∧ VRel β v mv
theorem ARel.mono {D : List Deferred} {β β' : Place} (hβ : ∀ b x, β b = some x → β' b = some x) {a : Frm} {m : Act} (h : ARel D β a m) : ARel D β' a m :=
 ⟨h.defers, h.size, fun t v e => let ⟨mv, e1, r⟩ := h.rel t v e; ⟨mv, e1, r.mono hβ⟩⟩
theorem ARel.put {D : List Deferred} {β : Place} {a : Frm} {m : Act} (h : ARel D β a m) {v mv : Value} (hv : VRel β v mv) (d : Option Nat) : ARel D β (a.put d v) (m.put d mv) := by
 cases d with
 | none => exact h
 | some t =>
  unfold Frm.put Act.put
  by_cases ht : t < a.n
  ·simp only [ht, if_true]
   refine ⟨h.defers, by simpa using h.size, fun u w e => ?_⟩
   unfold Frm.get at e
   rw [Z4] at e
   by_cases hu : u = t
   ·subst hu
    simp at e
    subst e
    exact ⟨mv, by simp [h.size, ht], hv⟩
   ·rw [if_neg hu] at e
    obtain ⟨mw, e1, r⟩ := h.rel u w e
    exact ⟨mw, by simp [Array.getElem?_setIfInBounds_ne (Ne.symm hu), e1], r⟩
  ·simp only [ht, if_false]
   refine ⟨h.defers, by simpa using h.size, fun u w e => ?_⟩
   obtain ⟨mw, e1, r⟩ := h.rel u w e
   have hlt : u < m.tmps.size := (Array.getElem?_eq_some_iff.1 e1).1
   have hne : t ≠ u := by rintro rfl; rw [h.size] at hlt; exact ht hlt
   exact ⟨mw, by simp [Array.getElem?_setIfInBounds_ne hne, e1], r⟩
theorem ARel.rho {D : List Deferred} {β : Place} {a : Frm} {m : Act} (h : ARel D β a m) : QM β a.ev m.eval := by
 intro x v e
 cases x with
 | tmp t =>
  obtain ⟨mv, e1, r⟩ := h.rel t v e
  simp [Act.eval, e1]
  exact r
 | const c =>
  simp only [Frm.ev] at e
  split at e
  ·cases e; exact VRel.const (by assumption)
  ·cases e
 | func f =>
  cases e
  exact (VRel.func_iff rfl).2 ⟨_, _, rfl, .nil, .nil⟩
 | global g => cases e
def acm (P : Program) (f : FuncId) : Prop := ∃ fn, P.funcs[f]? = some fn ∧ fn.body.isNone = false ∧ (fn.name == "runtime.NumGoroutine") = false
def ACalls (P : Program) (f : FuncId) (args : List Value) (h : Heap) (Q : Value → Heap → Prop) : Prop :=
 acm P f ∧ ∀ (β : Place) (w : World) (ms : List Value), VRels β args ms → Rel P β h w →
  Calls P f ms.toArray w fun e w' => ∃ mv, e = .returned mv ∧ ∃ v h' β', VRel β' v mv ∧ Rel P β' h' w' ∧ Step β h w β' h' w' ∧ Q v h'
theorem ACalls.mono {P : Program} {f : FuncId} {args : List Value} {h : Heap} {Q Q' : Value → Heap → Prop} (hc : ACalls P f args h Q) (hq : ∀ v h', Q v h' → Q' v h') : ACalls P f args h Q' :=
 ⟨hc.1, fun β w ms hv hr => (hc.2 β w ms hv hr).mono fun e w' ⟨mv, e1, v, h', β', a, b, c, d⟩ => ⟨mv, e1, v, h', β', a, b, c, hq _ _ d⟩⟩
def a9b (P : Program) (f : FuncId) (args : List Value) (h : Heap) (Q : Value → Heap → Prop) : Prop :=
 ∃ fn t r es ck, P.funcs[f]? = some fn ∧ fn.name = "maps.clone" ∧ fn.origin = "" ∧ fn.body.isNone = true ∧ args = [.iface t (.map (some r))] ∧ h.get r = some (.map es ck) ∧ Q (.iface t (.map (some h.next))) (h.push (.map es ck))
def ADoes (P : Program) (f : FuncId) (args : List Value) (h : Heap) (Q : Value → Heap → Prop) : Prop := ACalls P f args h Q ∨ a9b P f args h Q
theorem ADoes.of {P : Program} {f : FuncId} {args : List Value} {h : Heap} {Q : Value → Heap → Prop} (hc : ACalls P f args h Q) : ADoes P f args h Q := .inl hc
theorem ADoes.mono {P : Program} {f : FuncId} {args : List Value} {h : Heap} {Q Q' : Value → Heap → Prop} (hc : ADoes P f args h Q) (hq : ∀ v h', Q v h' → Q' v h') : ADoes P f args h Q' :=
 Or.imp (·.mono hq) (fun ⟨fn, t, r, es, ck, h1, h2, h3, h4, h5, h6, h7⟩ => ⟨fn, t, r, es, ck, h1, h2, h3, h4, h5, h6, hq _ _ h7⟩) hc
theorem a3M {fn : Func} (h1 : fn.name = "maps.clone") (h2 : fn.origin = "") : Extern.findNext fn = none ∧ Extern.find fn = some Extern.MapsClone.clone := by
 have e1 : Extern.allNextRows.lookup "maps.clone" = none := by kernel_rfl
 have e2 : Extern.allNextRows.lookup "" = none := by kernel_rfl
 have e3 : Extern.allGenericRows.lookup "maps.clone" = none := by kernel_rfl
 have e4 : Extern.allTypedRows.lookup "maps.clone" = none := by kernel_rfl
 have e5 : Extern.allRows.lookup "maps.clone" = some Extern.MapsClone.clone := by kernel_rfl
 constructor
 ·simp only [Extern.findNext, h1, h2, e1, e2, Option.map_none]; rfl
 ·simp only [Extern.find, h1, h2, e3, e4, e5, Option.map_none]; rfl
def AYield (P : Program) (l : Nat) (args : List Value) (h : Heap) (Q : Value → Heap → Prop) : Prop :=
 ∀ (β : Place) (m : Nat) (s : Sh) (w : World) (ms : List Value), β l = some (m, s) → VRels β args ms → Rel P β h w →
  ∃ f tmps x y, (Instr.yield m ms.toArray).run P w = .ok (.round m f tmps x y) w ∧
   RoundIn Fence.wide 0 P m f tmps x y w fun e w' => ∃ mv, e = .returned mv ∧ ∃ v h' β', VRel β' v mv ∧ Rel P β' h' w' ∧ Step β h w β' h' w' ∧ Q v h'
theorem AYield.mono {P : Program} {l : Nat} {args : List Value} {h : Heap} {Q Q' : Value → Heap → Prop} (hc : AYield P l args h Q) (hq : ∀ v h', Q v h' → Q' v h') : AYield P l args h Q' := by
 intro β m s w ms hb hv hr
 obtain ⟨f, tmps, x, y, e, hro⟩ := hc β m s w ms hb hv hr
 exact ⟨f, tmps, x, y, e, hro.mono fun e w' ⟨mv, e1, v, h', β', a, b, c, d⟩ => ⟨mv, e1, v, h', β', a, b, c, hq _ _ d⟩⟩
def yc : List Value → Option (List Int)
 | [] => some []
 | .int .u8 n :: r => (yc r).map (n :: ·)
 | _ => none
def j6 (h : Heap) (x : Value) : Option Value :=
 match x with
 | .slice none 0 0 => some (.string (strOfNums []))
 | .slice (some ⟨b, o, none⟩) n _ =>
  if n = 0 then some (.string (strOfNums [])) else
  match h.get b with
  | some (.cells cs _ _) => if o + n ≤ cs.length then (yc ((cs.drop o).take n)).map fun xs => .string (strOfNums xs) else none
  | _ => none
 | _ => none
def qV (P : Program) (h : Heap) (b : Nat) : Option Nat :=
 match h.get b with
 | some (.cells _ e true) => szT P e
 | _ => none
def jG (P : Program) (s d : TypeId) (x : Value) (h : Heap) (K : Value → Heap → Prop) : Prop :=
 match P.underlying s, P.underlying d, x with
 | some (.slice e), some .string, x => P.underlying e = some (.int .u8) ∧ match j6 h x with
  | some v => K v h
  | none => False
 | some .string, some (.slice e), .string t => P.underlying e = some (.int .u8) ∧ szT P e = some 1 ∧ t.size ≤ maxLen ∧ K (qu t.size unk h.next) (h.push (.cells (je t) e true))
 | some (.slice _), some (.slice e), .slice (some ⟨b, o, none⟩) n c => s = d ∧ (c ≠ dud ∧ ¬ (n = 0 ∧ c = 0)) ∧ P.underlying e = some (.int .u8) ∧ match h.get b with
  | some (.cells _ _ true) => K (.slice (some ⟨b, o, none⟩) n c) h
  | _ => False
 | _, _, x => match vS P s d x with
  | some v => K v h
  | none => False
def Zf (P : Program) (f : Value) (vs : List Value) (h : Heap) (K : Value → Heap → Prop) : Prop :=
 match f with
 | .func (.func k) first cap => ADoes P k (first.toList ++ vs ++ cap.toList) h K
 | .func (.yield l) xs _ => xs.size = 0 ∧ AYield P l vs h K
 | _ => False
def Vz (P : Program) (t : TypeId) (h : Heap) (x : Value) : Option Value :=
 match P.underlying t with
 | some (.map _ _) => (jH h x).map fun es => goInt es.length
 | some (.chan _ _) => match x with
  | .chan none => some (goInt (0 : Nat))
  | .chan (some r) => match h.get r with
   | some (.chan _ buf) => some (goInt buf.length)
   | _ => none
  | _ => none
 | _ => a8t P t x
def a1k (P : Program) (x : Value) (asserted : TypeId) (ok : Bool) : Option Value :=
 match P.underlying asserted, x with
 | some (.interface _), _ => none
 | some _, .iface t v => if t = asserted then some (if ok then .tuple #[v, .bool true] else v) else none
 | _, _ => none
def a88 (P : Program) (t : TypeId) (x : Value) : Option Value :=
 match P.underlying t with
 | some (.interface _) => none
 | some _ => some (.iface t x)
 | none => none
def agD (P : Program) (t : TypeId) (h : Heap) (x : Value) : Option Value :=
 match P.underlying t, x with
 | some (.chan _ _), .chan none => some (goInt (0 : Nat))
 | some (.chan _ _), .chan (some r) => match h.get r with
  | some (.chan cap _) => some (goInt cap)
  | _ => none
 | some (.slice _), .slice none 0 0 => some (goInt (0 : Nat))
 | some (.slice _), .slice (some ⟨_, _, none⟩) n c => if c = dud then none else if c = unk ∨ c = qG then some (.func (.yield n) #[.nilFunc] #[]) else some (goInt c)
 | _, _ => none
def a1z (P : Program) (t : TypeId) (x : Value) : Option Value :=
 match x with
 | .slice _ 0 _ => if (P.underlying t).isSome then some (.tuple #[]) else none
 | _ => none
def Ki (P : Program) (s : SelectCase) (ρ : Rho) (h : Heap) (K : Value → Heap → Prop) : Prop :=
 match (P.info? s.elem).bind (·.zero), ρ s.chan with
 | some z, some (.chan (some r)) => qF z = true ∧ match h.get r with
  | some (.chan cap buf) => match s.send with
   | some x => match ρ x with
    | some v => if buf.length < cap then K (.tuple #[goInt 0, .bool false]) (h.set r (.chan cap (buf ++ [v]))) else K (.tuple #[goInt (-1), .bool false]) h
    | none => False
   | none => match buf with
    | [] => K (.tuple #[goInt (-1), .bool false, z]) h
    | v :: rest => K (.tuple #[goInt 0, .bool true, v]) (h.set r (.chan cap rest))
  | _ => False
 | _, _ => False
def qB (P : Program) (o : Op) (ρ : Rho) (h : Heap) (K : Value → Heap → Prop) : Prop :=
 match o with
 | .load t x => match ρ x with
  | some p => match kJ P t h p with
   | some v => K v h
   | none => False
  | none => False
 | .store t x y => match ρ x, ρ y with
  | some p, some v => match wm P t h p v with
   | some h' => K undef h'
   | none => False
  | _, _ => False
 | .slice t x lo hi mx => match ρ x, jn ρ lo, jn ρ hi, jn ρ mx with
  | some v, some l, some hh, some m => match z9 P (qV P h) t v l hh m with
   | some v => K v h
   | none => False
  | _, _, _, _ => False
 | .convert s d x => match ρ x with
  | some v => jG P s d v h K
  | none => False
 | .box t x => match jp P (.box t x) ρ with
  | some (q, mk) => K (mk h.next) (h.push q)
  | none => False
 | .alloc t => match jp P (.alloc t) ρ with
  | some (q, mk) => K (mk h.next) (h.push q)
  | none => False
 | .buildSlice t n ps => match jp P (.buildSlice t n ps) ρ with
  | some (q, mk) => K (mk h.next) (h.push q)
  | none => False
 | .makeSlice t l c => match jp P (.makeSlice t l c) ρ with
  | some (q, mk) => K (mk h.next) (h.push q)
  | none => False
 | .makeMap t r => match jp P (.makeMap t r) ρ with
  | some (q, mk) => K (mk h.next) (h.push q)
  | none => False
 | .makeChan t r => match jp P (.makeChan t r) ρ with
  | some (q, mk) => K (mk h.next) (h.push q)
  | none => False
 | .select cases false => match cases.toList with
  | [s] => Ki P s ρ h K
  | _ => False
 | .call { callee := .value f, args := args, argTypes := _ } => match ρ f, kC ρ args.toList with
  | some fv, some vs => Zf P fv vs h K
  | _, _ => False
 | .call { callee := .builtin .append, args := args, argTypes := ts } => match kC ρ args.toList with
  | some [s, x] => match kD P ts.toList h s x with
   | some (v, h') => K v h'
   | none => False
  | _ => False
 | .call { callee := .builtin .len, args := args, argTypes := ts } => match kC ρ args.toList, ts.toList with
  | some [x], [t] => match Vz P t h x with
   | some v => K v h
   | none => False
  | _, _ => False
 | .call { callee := .builtin .cap, args := args, argTypes := ts } => match kC ρ args.toList, ts.toList with
  | some [x], [t] => match agD P t h x with
   | some v => K v h
   | none => False
  | _, _ => False
 | .call { callee := .builtin .clear, args := args, argTypes := ts } => match kC ρ args.toList, ts.toList with
  | some [x], [t] => match a1z P t x with
   | some v => K v h
   | none => False
  | _, _ => False
 | .call { callee := .builtin .copy, args := args, argTypes := ts } => match kC ρ args.toList with
  | some [d, x] => match JW P ts.toList h d x with
   | some (v, h') => K v h'
   | none => False
  | _ => False
 | .call { callee := .builtin .delete, args := args, argTypes := ts } => match kC ρ args.toList, ts.toList with
  | some [m, k], t :: _ => match Y7 P t h m k with
   | some h' => K (.tuple #[]) h'
   | none => False
  | _, _ => False
 | .insert t x y z => match ρ x, ρ y, ρ z with
  | some m, some k, some v => match Qp P t h m k v with
   | some h' => K undef h'
   | none => False
  | _, _, _ => False
 | .mapUpdate t x y z => match ρ x, ρ y, ρ z with
  | some m, some k, some v => match Qp P t h m k v with
   | some h' => K undef h'
   | none => False
  | _, _, _ => False
 | .lookup t x y ok => match ρ x, ρ y with
  | some m, some k => match Jz P t h m k ok with
   | some v => K v h
   | none => False
  | _, _ => False
 | .range t x => match ρ x with
  | some v => Qn P t v h K
  | none => False
 | .next x s => match ρ x with
  | some v => J1 P v s h K
  | none => False
 | .entry x => match ρ x with
  | some v => Qf P v h K
  | none => False
 | .makeInterface t x => match ρ x with
  | some v => match a88 P t v with
   | some v' => K v' h
   | none => False
  | none => False
 | .typeAssert x _ t ok => match ρ x with
  | some v => match a1k P v t ok with
   | some v' => K v' h
   | none => False
  | none => False
 | o => match z8 P o ρ with
  | some v => K v h
  | none => False
def a0B (P : Program) (β : Place) (h : Heap) (w : World) (m : Act) (dst : Option Tmp) (K : Value → Heap → Prop) (next : Act → World → Prop) : Prop :=
 ∀ v h' β' mv w', K v h' → VRel β' v mv → Rel P β' h' w' → Step β h w β' h' w' → next (m.put dst mv) w'
theorem Yq {P : Program} {β : Place} {h : Heap} {w : World} {x mx v : Value} {s d e : TypeId} (hr : Rel P β h w) (hx : VRel β x mx) (hs : P.underlying s = some (.slice e)) (hd : P.underlying d = some .string) (he : P.underlying e = some (.int .u8)) (hv : j6 h x = some v) :
  (convert s d mx).run P w = .ok v w ∧ qF v = true := by
 unfold j6 at hv
 split at hv
 ·cases hx; cases hv
  refine ⟨?_, rfl⟩
  rw [run_convert_bytes_nil w s e hs he 0 0 d hd]
  rfl
 ·rename_i b o n c
  have key : ∀ (m' p c' : Nat) (xs : List Int), xs.length = n → (∀ i, i < n → w.cell? ⟨m', p + i, none⟩ = some (.int .u8 (xs.getD i 0))) → mx = .slice (some ⟨m', p, none⟩) n c' → (convert s d mx).run P w = .ok (.string (strOfNums xs)) w := by
   rintro m' p c' xs hl hc rfl
   exact run_convert_bytes_arg w s e hs he m' p n c' xs hl hc d hd
  split at hv
  ·rename_i hn
   cases hv
   subst hn
   refine ⟨?_, rfl⟩
   rcases hx.slice_inv with ⟨m', s', c', hb, rfl, _⟩ | ⟨_, _, a', c', rfl⟩ | ⟨_, _, a', rfl⟩
   ·exact key _ _ _ [] rfl (fun i hi => by omega) rfl
   ·simp [convert, run_underlying hs, run_underlying hd, run_underlying he, Conv.bytesToString, loadCells, loadCellsFrom]
    rfl
   ·simp [convert, run_underlying hs, run_underlying hd, run_underlying he, Conv.bytesToString, loadCells, loadCellsFrom]
    rfl
  ·rename_i hn
   split at hv
   ·rename_i cs e' rw hg
    split at hv
    ·rename_i hle
     cases hnums : yc ((cs.drop o).take n) with
     | none => simp [hnums] at hv
     | some xs =>
      simp [hnums] at hv
      subst hv
      refine ⟨?_, rfl⟩
      rcases hx.slice_inv with ⟨m', s', c', hb, rfl, _⟩ | ⟨rfl, _⟩ | ⟨rfl, _⟩
      ·have ho := hr.obj b m' s' _ hb hg
       have hnm : ∀ {l : List Value} {xs : List Int}, yc l = some xs → l = xs.map (Value.int .u8) := by
        intro l
        induction l with
        | nil => intro xs e; simp [yc] at e; subst e; rfl
        | cons v l ih =>
         intro xs e
         cases v <;> try (simp [yc] at e; done)
         rename_i k q
         cases k <;> try (simp [yc] at e; done)
         simp only [yc] at e
         cases hq : yc l with
         | none => simp [hq] at e
         | some ys => simp [hq] at e; subst e; simp [ih hq]
       have hxs := hnm hnums
       have hlen : xs.length = n := by
        have := congrArg List.length hxs
        simp at this
        omega
       refine key m' (s'.off + o) c' xs hlen (fun i hi => ?_) rfl
       have h1 : cs[o + i]? = some (.int .u8 (xs.getD i 0)) := by
        have h2 := congrArg (fun l => l[i]?) hxs
        simp only [List.getElem?_take, if_pos hi, List.getElem?_drop, List.getElem?_map] at h2
        rw [h2, List.getElem?_eq_getElem (by omega)]
        simp [List.getD_eq_getElem?_getD, List.getElem?_eq_getElem (show i < xs.length by omega)]
       obtain ⟨mv, e1, r⟩ := ho.cell h1
       cases r
       rw [Nat.add_assoc]
       exact e1
      ·exact absurd rfl hn
      ·exact absurd rfl hn
    ·cases hv
   ·cases hv
 ·cases hv
def W6 (w : World) (m : Nat) : Nat := match w.heap[m]? with
 | some (.cells mc _ _) => mc.size
 | _ => 0
theorem a2m {P : Program} {β : Place} {h : Heap} {w : World} {b m : Nat} {s : Sh} {cs : List Value} {e : TypeId} (hr : Rel P β h w) (hb : β b = some (m, s)) (hg : h.get b = some (.cells cs e true)) :
  Rel P β h (w.freeze ⟨m, W6 w m, none⟩ 1) ∧ Step β h w β h (w.freeze ⟨m, W6 w m, none⟩ 1) ∧ w.shape? m = some (e, W6 w m) := by
 obtain ⟨mc, fr, te, h1, h2, h3, h4⟩ := hr.obj b m s _ hb hg
 obtain ⟨⟨hfz, hlh⟩, rfl, hT, hz⟩ := h4 rfl
 have hs : W6 w m = mc.size := by simp [W6, h1]
 have hset : h.set b (.cells cs te true) = h := by
  cases h with
  | mk n g l =>
   have : (Heap.set ⟨n, g, l⟩ b (.cells cs te true)).get = g := by
    funext c
    show (if c = b then (g b).map (fun _ => AObj.cells cs te true) else g c) = g c
    by_cases hc : c = b
    ·subst hc; simp only [if_true]; have : g c = some (.cells cs te true) := hg; rw [this]; rfl
    ·rw [if_neg hc]
   unfold Heap.set at this ⊢
   simp only at this ⊢
   congr
 rw [hs]
 have hm : (w.freeze ⟨m, mc.size, none⟩ 1).heap[m]? = some (.cells mc te (if fr.1 == fr.2 then (mc.size, mc.size + 1) else (min fr.1 mc.size, max fr.2 (mc.size + 1)))) := by
  obtain ⟨f1, f2⟩ := fr
  simp [World.freeze, Array.getElem?_modify, h1]
 have hup := hr.update (w' := w.freeze ⟨m, mc.size, none⟩ 1) (o' := .cells cs te true) hb hg rfl rfl (by simp [World.freeze]) (fun k hk => by simp [World.freeze, Array.getElem?_modify, Ne.symm hk]) rfl rfl rfl
  ⟨mc, _, te, hm, h2, h3, fun _ => ⟨by
   split
   ·exact ⟨fun i hi hc => by simp only at hc; omega, by simp⟩
   ·rename_i hne
    have hne' : fr.1 ≠ fr.2 := by simpa using hne
    refine ⟨fun i hi hc => ?_, by simp only; omega⟩
    have hge : mc.size ≤ fr.1 := by
     by_cases hlt : fr.1 < mc.size
     ·exact absurd ⟨Nat.le_refl _, by omega⟩ (hfz fr.1 hlt)
     ·omega
    simp only at hc
    omega, rfl, hT, hz⟩⟩
 rw [hset] at hup
 exact ⟨hup.1, hup.2, by simp [World.shape?, h1]⟩
def OpS (ro : Option Nat) (P : Program) (o : Oper) (m : Act) (w : World) (next : Act → World → Prop) : Prop :=
 ∀ (b : Frame) (ops : Array Oper) (i : Nat) (rest : List Nat) (k : List Item) (cs : List Frame), b.roundOf = ro → ops[i]? = some o → Region.wanted o (yielded ops m.tmps) = true →
  ∃ m' w', next m' w' ∧ Steps P (lone (b.atR m (.inRegion ops (i :: rest) :: k)) cs w) (lone (b.atR m' (.inRegion ops rest :: k)) cs w')
section opS
variable {ro : Option Nat} {P : Program} {o : Oper} {m : Act} {w w' : World} {next : Act → World → Prop}
theorem OpS.mono {next' : Act → World → Prop} (h : OpS ro P o m w next) (hn : ∀ m w, next m w → next' m w) : OpS ro P o m w next' :=
 fun b ops i rest k cs hb ho hw => let ⟨m', w', q, s⟩ := h b ops i rest k cs hb ho hw; ⟨m', w', hn _ _ q, s⟩
theorem Kw (hd : ∀ c, o.op ≠ .defer c) {b : Frame} {ops : Array Oper} {i : Nat} {rest : List Nat} {k : List Item} {cs : List Frame} (hb : b.roundOf = ro) (ho : ops[i]? = some o) (hw : Region.wanted o (yielded ops m.tmps) = true) :
  stepG P true { frame := b.atR m (.inRegion ops (i :: rest) :: k), callers := cs, status := .running, dying := none } w = stepG.apply P true (b.atR m (.inRegion ops (i :: rest) :: k)) cs none (execOp m.eval o) w := by
 have hg := stepGR_op (P := P) (b := b) (k := k) (cs := cs) (w := w) (rest := rest) ho hw
 rw [Oper.semAt_eq _ m.eval o hd] at hg
 exact hg
theorem Yu {b : Frame} {ops : Array Oper} {i : Nat} {rest : List Nat} {k : List Item} (ho : ops[i]? = some o) (v : Value) : (b.atR m (.inRegion ops (i :: rest) :: k)).finish v = b.atR (m.put o.dst v) (.inRegion ops rest :: k) := by
 rw [Frame.finish_atR, ho]; rfl
theorem j5 {v : Value} (hd : ∀ c, o.op ≠ .defer c) (hr : (execOp m.eval o).run P w = .ok (.value v) w') (hn : next (m.put o.dst v) w') : OpS ro P o m w next := by
 intro b ops i rest k cs hb ho hw
 refine ⟨_, _, hn, .one (step_lone_go ?_)⟩
 rw [Kw hd hb ho hw, ← Yu ho]
 simp [stepG.apply, hr]
theorem ua (hd : ∀ c, o.op ≠ .defer c) (hr : (execOp m.eval o).run P w = .ok .skip w') (hn : next (m.put o.dst undef) w') : OpS ro P o m w next := by
 intro b ops i rest k cs hb ho hw
 refine ⟨_, _, hn, .one (step_lone_go ?_)⟩
 rw [Kw hd hb ho hw, ← Yu ho]
 simp [stepG.apply, hr]
theorem aaq {f : FuncId} {args : Array Value} (hd : ∀ c, o.op ≠ .defer c) (hr : (execOp m.eval o).run P w = .ok (.enter f args) w') (hc : Calls P f args w' fun e w'' => ∃ v, e = .returned v ∧ next (m.put o.dst v) w'') : OpS ro P o m w next := by
 intro b ops i rest k cs hb ho hw
 obtain ⟨e, w'', fr, ⟨v, rfl, hn⟩, hs, hfn, hl⟩ := hc (b.atR m (.inRegion ops (i :: rest) :: k) :: cs)
 refine ⟨_, _, hn, ?_⟩
 have henter : step P (lone (b.atR m (.inRegion ops (i :: rest) :: k)) cs w) = .next (lone (Frame.enter P f args .normal) (b.atR m (.inRegion ops (i :: rest) :: k) :: cs) w') :=
  step_lone_go (by rw [Kw hd hb ho hw]; simp [stepG.apply, hr, Frame.atR])
 refine .head henter (Steps.trans hs (.one ?_))
 rw [← Yu ho]
 exact step_leave_returned hl
theorem aaS {l : Nat} {f : FuncId} {tmps : Array Value} {x y : Code} (hd : ∀ c, o.op ≠ .defer c) (hr : (execOp m.eval o).run P w = .ok (.round l f tmps x y) w') (hc : RoundIn Fence.wide 0 P l f tmps x y w' fun e w'' => ∃ v, e = .returned v ∧ next (m.put o.dst v) w'') : OpS ro P o m w next := by
 intro b ops i rest k cs hb ho hw
 obtain ⟨e, w'', ⟨v, rfl, hn⟩, hs⟩ := hc.2 (b.atR m (.inRegion ops (i :: rest) :: k)) cs (room_wide _)
 refine ⟨_, _, hn, ?_⟩
 have henter : step P (lone (b.atR m (.inRegion ops (i :: rest) :: k)) cs w) = .next (lone (Frame.round l f tmps x y .normal) (b.atR m (.inRegion ops (i :: rest) :: k) :: cs) w') :=
  step_lone_go (by rw [Kw hd hb ho hw]; simp [stepG.apply, hr, Frame.atR])
 rw [← Yu ho]
 exact .head henter (StepsIn.steps hs)
theorem Yi {c : CommCase} {shape : CommShape} {blocking : Bool} {v : Value} {w1 : World} (hd : ∀ c, o.op ≠ .defer c) (hr : (execOp m.eval o).run P w = .ok (.comm #[c] blocking shape) w1)
  (hs : ∀ fr cs es, stepG P true (Conc.G fr cs) w = .comm (Conc.G fr cs) #[c] blocking shape w1 es → step P (Conc.solo (Conc.G fr cs) w) = .next (Conc.solo (Conc.G (fr.finish v) cs) w')) (hn : next (m.put o.dst v) w') : OpS ro P o m w next := by
 intro b ops i rest k cs hb ho hw
 refine ⟨_, _, hn, ?_⟩
 rw [← Yu ho]
 have hg := Kw (P := P) (w := w) (rest := rest) (k := k) (cs := cs) hd hb ho hw
 have : ∃ es, stepG P true (Conc.G (b.atR m (.inRegion ops (i :: rest) :: k)) cs) w = .comm (Conc.G (b.atR m (.inRegion ops (i :: rest) :: k)) cs) #[c] blocking shape w1 es := by
  refine ⟨seen P (b.atR m (.inRegion ops (i :: rest) :: k)).fn (if (b.atR m (.inRegion ops (i :: rest) :: k)).kind = .early then #[] else Sem.events P (execOp m.eval o) w #[]), hg.trans ?_⟩
  simp [stepG.apply, hr, Conc.G, GStep.after]
 obtain ⟨es, he⟩ := this
 exact .one (hs _ _ es he)
end opS
theorem jw {ro : Option Nat} {P : Program} {β : Place} {h : Heap} {w : World} {m : Act} {o : Oper} {q : AObj} {mk : Nat → Value} {K : Value → Heap → Prop} {next : Act → World → Prop} {ρ : Rho}
  (hρ : QM β ρ m.eval) (hr : Rel P β h w) (hd : ∀ c, o.op ≠ .defer c) (hn : jp P o.op ρ = some (q, mk)) (hK : K (mk h.next) (h.push q)) (hf : a0B P β h w m o.dst K next) : OpS ro P o m w next := by
 obtain ⟨mv, w', s, hrun, hnew⟩ := Xr hρ hn w
 obtain ⟨mo, hmo⟩ := hnew.heap
 have hmono := Place.add_mono w.heap.size s hr.noNext
 obtain ⟨hv, ho⟩ := hnew.rel (β.add h.next w.heap.size s) h.next hmono (Place.add_same _ _ _ _)
 obtain ⟨hr', st⟩ := hr.alloc hmo hnew.os hnew.tape hnew.output ho
 exact j5 hd hrun (hf _ _ _ mv w' hK hv hr' st)
theorem u7 {P : Program} {β : Place} {h : Heap} {w : World} {t : TypeId} {x mx v : Value} (hr : Rel P β h w) (hx : VRel β x mx) (hl : Vz P t h x = some v) (ty : TypeId) : (Builtin.len_ #[t] ty #[mx]).run P w = .ok v w ∧ qF v = true := by
 unfold Vz at hl
 split at hl
 ·rename_i k e hu
  cases hes : jH h x with
  | none => simp [hes] at hl
  | some es =>
   simp only [hes, Option.map_some, Option.some.injEq] at hl
   subst hl
   unfold jH at hes
   split at hes
   ·cases hes
    cases hx
    refine ⟨?_, rfl⟩
    unfold Builtin.len_
    simp [run_underlying hu, goInt]
   ·split at hes
    ·rename_i es' ck hg
     cases hes
     cases hx with
     | @map _ m s hb =>
      obtain ⟨mes, hh, hE⟩ := hr.obj _ _ _ _ hb hg
      have hlen := hE.length
      refine ⟨?_, rfl⟩
      unfold Builtin.len_
      simp [run_underlying hu, KH hh, goInt, hlen]
    ·cases hes
   ·cases hes
 ·rename_i d e hu
  split at hl
  ·cases hl; cases hx
   refine ⟨?_, rfl⟩
   unfold Builtin.len_
   simp [run_underlying hu, goInt]
  ·split at hl
   ·rename_i cap buf hg
    cases hl
    cases hx with
    | @chan _ m s hb =>
     obtain ⟨_, mb, sn, rc, hh, hb⟩ := hr.obj _ _ _ _ hb hg
     have hlen := hb.length
     refine ⟨?_, rfl⟩
     unfold Builtin.len_
     have hget : (getObj m).run P w = .ok (.chan cap mb false sn rc false) w := by simp [getObj, Sem.run, hh]
     simp [run_underlying hu, hget, goInt, hlen]
   ·cases hl
  ·cases hl
 ·exact Xc hx hl ty w
theorem a8i {P : Program} {β : Place} {h : Heap} {w : World} {t : TypeId} {x mx v : Value} (hr : Rel P β h w) (hx : VRel β x mx) (hl : agD P t h x = some v) (ty : TypeId) : ∃ mv, (Builtin.cap_ #[t] ty #[mx]).run P w = .ok mv w ∧ VRel β v mv := by
 unfold agD at hl
 split at hl
 ·rename_i d e hu
  cases hl; cases hx
  refine ⟨_, ?_, .int _ _⟩
  unfold Builtin.cap_
  simp [run_underlying hu, goInt]
 ·rename_i d e r hu
  split at hl
  ·rename_i cap buf hg
   cases hl
   cases hx with
   | @chan _ m s hb =>
    obtain ⟨_, mb, sn, rc, hh, hb⟩ := hr.obj _ _ _ _ hb hg
    refine ⟨_, ?_, .int _ _⟩
    unfold Builtin.cap_
    have hget : (getObj m).run P w = .ok (.chan cap mb false sn rc false) w := by simp [getObj, Sem.run, hh]
    simp [run_underlying hu, hget, goInt]
  ·cases hl
 ·rename_i e hu
  cases hl; cases hx
  refine ⟨_, ?_, .int _ _⟩
  unfold Builtin.cap_
  simp [run_underlying hu, goInt]
 ·rename_i e b o n c hu
  split at hl
  ·cases hl
  ·rename_i hd
   have hs : ∀ (a : Option Addr) (c' : Nat), (Builtin.cap_ #[t] ty #[.slice a n c']).run P w = .ok (goInt c') w := fun a c' => by
    unfold Builtin.cap_
    simp [run_underlying hu, goInt]
   cases hx with
   | @slice _ _ m _ _ c' s hb hc hn hm hr' =>
    refine ⟨_, hs _ c', ?_⟩
    split at hl
    ·cases hl
     exact .least (by omega)
    ·rename_i hk
     cases hl
     have : c = c' := by
      rcases hc with h | h | h
      ·exact absurd (.inl h) hk
      ·exact absurd (.inr h) hk
      ·exact h
     subst this
     exact .int _ _
   | dud => exact absurd rfl hd
   | zero =>
    refine ⟨_, hs _ 0, ?_⟩
    rw [if_neg (by simp [unk, qG])] at hl
    cases hl
    exact .int _ _
 ·cases hl
theorem a2D {P : Program} {β : Place} {w : World} {t : TypeId} {x mx v : Value} (hx : VRel β x mx) (hl : a1z P t x = some v) (ty : TypeId) : (Builtin.clear_ #[t] ty #[mx]).run P w = .ok v w ∧ qF v = true := by
 unfold a1z at hl
 split at hl
 ·split at hl
  ·rename_i hu
   cases hl
   obtain ⟨D, hu⟩ := Option.isSome_iff_exists.1 hu
   have key : ∀ (a : Option Addr) (c : Nat), (Builtin.clear_ #[t] ty #[.slice a 0 c]).run P w = .ok (.tuple #[]) w := fun a c => by
    unfold Builtin.clear_
    cases a <;> cases D <;> simp [run_underlying hu]
   cases hx
   ·exact ⟨key _ _, rfl⟩
   ·exact ⟨key _ _, rfl⟩
   ·exact ⟨key _ _, rfl⟩
   ·exact ⟨key _ _, rfl⟩
  ·cases hl
 ·cases hl
theorem JH (w : World) (c cap : Nat) (buf : Array Value) (s r : Nat) : ∀ k, k ≠ c → (w.setChan c cap buf false s r false).heap[k]? = w.heap[k]? := fun k hk => by
 simp only [World.setChan]; rw [Array.getElem?_setIfInBounds_ne (Ne.symm hk)]
theorem a4B {ro : Option Nat} {P : Program} {β : Place} {h : Heap} {w : World} {m : Act} {o : Oper} {K : Value → Heap → Prop} {next : Act → World → Prop} {ρ : Rho} {cases : Array SelectCase} {s : SelectCase}
  (hρ : QM β ρ m.eval) (hr : Rel P β h w) (hd : ∀ c, o.op ≠ .defer c) (he : o.op = .select cases false) (hc : cases.toList = [s]) (hs : Ki P s ρ h K) (hf : a0B P β h w m o.dst K next) : OpS ro P o m w next := by
 unfold Ki at hs
 split at hs
 ·rename_i z r hz hch
  obtain ⟨hk, hs⟩ := hs
  obtain ⟨i, hi, hzv⟩ : ∃ i, P.info? s.elem = some i ∧ i.zero = some z := by
   cases hi : P.info? s.elem with
   | none => simp [hi] at hz
   | some i => exact ⟨i, rfl, by simpa [hi] using hz⟩
  have hzr : (zeroValue s.elem).run P w = .ok z w := by simp [zeroValue, typeInfo, hi, hzv]
  obtain rfl : cases = #[s] := by apply Array.ext'; simpa using hc
  obtain ⟨m', s', hb, hme⟩ : ∃ m' s', β r = some (m', s') ∧ m.eval s.chan = .chan (some m') := by
   have := hρ _ _ hch
   generalize m.eval s.chan = mc at this
   cases this with
   | chan h => exact ⟨_, _, h, rfl⟩
  have hrun : (execOp m.eval o).run P w = .ok (.comm #[{ chan := .chan (some m'), send := s.send.map m.eval, zero := z }] false .select) w := by
   unfold execOp
   rw [he]
   have hmm : (#[s].mapM fun (s : SelectCase) => do pure { chan := m.eval s.chan, send := s.send.map m.eval, zero := ← zeroValue s.elem : CommCase }).run P w = .ok #[{ chan := .chan (some m'), send := s.send.map m.eval, zero := z }] w := by
    rw [Array.mapM_eq_mapM_toList, Sem.run_map]
    simp [hzr, hme]
   simp only [Sem.run_bind, hmm, Result.andThen_ok, Sem.run_pure]
  split at hs
  ·rename_i cap buf hg
   obtain ⟨h0, mbuf, sn, rc, hw, hbuf⟩ := hr.obj r m' s' _ hb hg
   have hlen : buf.length = mbuf.size := by simpa using hbuf.length
   have hlt := (hr.dom r m' s' hb).2
   split at hs
   ·rename_i x hx
    rw [hx] at hrun
    split at hs
    ·rename_i v hv
     split at hs
     ·rename_i hroom
      obtain ⟨hr', st⟩ := hr.update (w' := w.setChan m' cap (mbuf.push (m.eval x)) false (sn + 1) rc false) (o' := .chan cap (buf ++ [v])) hb hg rfl rfl (Conc.size_setChan ..) (JH _ _ _ _ _ _) rfl rfl rfl
       ⟨h0, _, _, _, Conc.heap_setChan _ _ _ _ _ _ _ _ hlt, by rw [Array.toList_push]; exact hbuf.append (.cons (hρ _ _ hv) .nil)⟩
      exact Yi hd hrun (fun fr cs es hst => Conc.step_lone_select_send_room hst hw (by omega)) (hf _ _ _ _ _ hs (VRel.tuple_iff.2 ⟨_, rfl, .cons (VRel.const rfl) (.cons (.bool _) .nil)⟩) hr' st)
     ·rename_i hroom
      exact Yi hd hrun (fun fr cs es hst => Conc.step_lone_select_send_full hst hw (by omega)) (hf _ _ _ _ _ hs (VRel.tuple_iff.2 ⟨_, rfl, .cons (VRel.const rfl) (.cons (.bool _) .nil)⟩) hr (Step.refl _ _ _))
    ·cases hs
   ·rename_i hx
    rw [hx] at hrun
    split at hs
    ·have hm0 : mbuf = #[] := by apply Array.ext'; simpa using hlen.symm
     subst hm0
     exact Yi hd hrun (fun fr cs es hst => Conc.step_lone_select_default hst hw) (hf _ _ _ _ _ hs (VRel.tuple_iff.2 ⟨_, rfl, .cons (VRel.const rfl) (.cons (.bool _) (.cons (VRel.const hk) .nil))⟩) hr (Step.refl _ _ _))
    ·rename_i v rest
     obtain ⟨mv, hmv, hvr⟩ := hbuf.get (i := 0) (v := v) rfl
     have hpos : 0 < mbuf.size := by rw [← hlen]; simp
     have hhead : mbuf.getD 0 undef = mv := by
      have : mbuf[0]? = some mv := by simpa using hmv
      simp [Array.getD_eq_getD_getElem?, this]
     obtain ⟨hr', st⟩ := hr.update (w' := w.setChan m' cap (mbuf.extract 1 mbuf.size) false sn (rc + 1) false) (o' := .chan cap rest) hb hg rfl rfl (Conc.size_setChan ..) (JH _ _ _ _ _ _) rfl rfl rfl
      ⟨h0, _, _, _, Conc.heap_setChan _ _ _ _ _ _ _ _ hlt, by
       have := hbuf.drop 1
       simpa [Array.toList_extract, List.extract_eq_take_drop, List.take_of_length_le] using this⟩
     exact Yi hd hrun (fun fr cs es hst => Conc.step_lone_select_recv_buf hst hw hpos) (hf _ _ _ _ _ hs (by rw [hhead]; exact VRel.tuple_iff.2 ⟨_, rfl, .cons (VRel.const rfl) (.cons (.bool _) (.cons hvr .nil))⟩) hr' st)
  ·cases hs
 ·cases hs
theorem a8F {β : Place} {μ : Operand → Value} {args : Array Operand} {x : Value} (h : VRels β [x] (args.toList.map μ)) : ∃ y, args = #[y] ∧ VRel β x (μ y) := by
 cases hargs : args.toList with
 | nil => rw [hargs] at h; cases h
 | cons y ys =>
  rw [hargs] at h
  cases h with
  | cons h1 t1 =>
   cases ys with
   | cons _ _ => cases t1
   | nil => exact ⟨y, by apply Array.ext'; simpa using hargs, h1⟩
theorem agK {β : Place} {μ : Operand → Value} {args : Array Operand} {x x' : Value} (h : VRels β [x, x'] (args.toList.map μ)) : ∃ y z, args = #[y, z] ∧ VRel β x (μ y) ∧ VRel β x' (μ z) := by
 cases hargs : args.toList with
 | nil => rw [hargs] at h; cases h
 | cons y ys =>
  rw [hargs] at h
  cases h with
  | cons h1 t1 =>
   cases ys with
   | nil => cases t1
   | cons z zs =>
    cases t1 with
    | cons h2 t2 =>
     cases zs with
     | cons _ _ => cases t2
     | nil => exact ⟨y, z, by apply Array.ext'; simpa using hargs, h1, h2⟩
theorem xE {ro : Option Nat} {P : Program} {β : Place} {h : Heap} {w : World} {m : Act} {o : Oper} {K : Value → Heap → Prop} {next : Act → World → Prop} {ρ : Rho}
  (hρ : QM β ρ m.eval) (hr : Rel P β h w) (hop : qB P o.op ρ h K) (hf : a0B P β h w m o.dst K next) : OpS ro P o m w next := by
 have hnd0 : ∀ c, o.op ≠ .defer c := by
  intro c hc
  unfold qB at hop
  rw [hc] at hop
  exact hop.elim
 have val : ∀ v mv, K v h → VRel β v mv → (execOp m.eval o).run P w = .ok (.value mv) w → OpS ro P o m w next := by
  intro v mv hK hv hrun
  exact j5 hnd0 hrun (hf v h β mv w hK hv hr (Step.refl _ _ _))
 have does : ∀ {r : Sem Value} {v mv : Value} {h' : Heap} {β' : Place} {w' : World}, r.run P w = .ok mv w' → (execOp m.eval o).run P w = .ok (.value mv) w' → K v h' → VRel β' v mv → Rel P β' h' w' → Step β h w β' h' w' → OpS ro P o m w next := by
  intro r v mv h' β' w' _ hrun hK hv hr' st
  exact j5 hnd0 hrun (hf v h' β' mv w' hK hv hr' st)
 unfold qB at hop
 split at hop
 ·rename_i t x he
  split at hop
  ·rename_i p hp
   split at hop
   ·rename_i v hl
    obtain ⟨mv, e, r⟩ := J3 hr (hρ _ _ hp) hl
    exact val v mv hop r (by unfold execOp; rw [he]; simp [e])
   ·cases hop
  ·cases hop
 ·rename_i t x y he
  split at hop
  ·rename_i p v hp hv
   split at hop
   ·rename_i h' hs
    obtain ⟨w', e, hr', st⟩ := a0Z hr (hρ _ _ hp) (hρ _ _ hv) hs
    have hrun : (execOp m.eval o).run P w = .ok .skip w' := by unfold execOp; rw [he]; simp [e]
    exact ua hnd0 hrun (hf _ _ _ undef w' hop VRel.undef hr' st)
   ·cases hop
  ·cases hop
 ·rename_i t x lo hi mx he
  split at hop
  ·rename_i a l hh mm ha hl hhh hm
   split at hop
   ·rename_i v hs
    obtain ⟨mv, e, r⟩ := Yd (P := P) (hρ _ _ ha) (Z3 hρ hl) (Z3 hρ hhh) (Z3 hρ hm) (fun b m' s q hb hE => by
     unfold qV at hE
     split at hE
     ·rename_i cs e hg
      obtain ⟨mc, fr, te, _, _, _, hz⟩ := hr.obj b m' s _ hb hg; obtain ⟨_, _, _, hz⟩ := hz rfl
      unfold szT at hE
      rw [hz] at hE
      simpa using hE
     ·cases hE) hs w
    exact val v mv hop r (by unfold execOp; rw [he]; simp [e])
   ·cases hop
  ·cases hop
 ·rename_i s d x he
  split at hop
  ·rename_i v hv
   unfold jG at hop
   split at hop
   ·rename_i e hs hd
    obtain ⟨he2, hop⟩ := hop
    split at hop
    ·rename_i r hbs
     obtain ⟨e1, hk⟩ := Yq hr (hρ _ _ hv) hs hd he2 hbs
     exact val _ _ hop (VRel.const hk) (by unfold execOp; rw [he]; simp [e1])
    ·cases hop
   ·rename_i e t hs hd
    obtain ⟨h1, h2, h3, hop⟩ := hop
    refine jw (q := .cells (je t) e true) (mk := qu t.size unk) hρ hr hnd0 ?_ hop hf
    rw [he]
    simp [jp, hs, hd, hv, h1, h2, h3]
   ·rename_i e0 e b off n c hs hd
    obtain ⟨h1, hnd, h2, hop⟩ := hop
    split at hop
    ·rename_i cs e' hg
     subst h1
     have hee := hs.symm.trans hd
     cases hee
     rcases (hρ _ _ hv).slice_inv with ⟨m', s', c', hb, hm, _⟩ | ⟨_, hcon, _⟩ | ⟨hcon1, hcon2, _⟩
     ·obtain ⟨hr', st, hrun⟩ := a2m hr hb hg
      have hst : OpS ro P o m w next := by
       have e1 : (convert s s (m.eval x)).run P w = .ok (m.eval x) (w.freeze ⟨m', W6 w m', none⟩ 1) := by
        rw [hm]
        simp [convert, run_underlying hs, run_underlying h2, markStringish, hrun]
       have e2 : (execOp m.eval o).run P w = .ok (.value (m.eval x)) (w.freeze ⟨m', W6 w m', none⟩ 1) := by
        unfold execOp; rw [he]; simp [e1]
       exact j5 hnd0 e2 (hf _ _ _ _ _ hop (hρ _ _ hv) hr' st)
      exact hst
     ·exact absurd hcon hnd.1
     ·exact absurd ⟨hcon1, hcon2⟩ hnd.2
    ·cases hop
   ·split at hop
    ·rename_i r hc
     obtain ⟨e1, hk⟩ := vW (P := P) (hρ _ _ hv) hc w
     exact val _ _ hop hk (by unfold execOp; rw [he]; simp [e1])
    ·cases hop
  ·cases hop
 ·rename_i t x he
  split at hop
  ·rename_i q mk hn
   exact jw hρ hr hnd0 (by rw [he]; exact hn) hop hf
  ·cases hop
 ·rename_i t he
  split at hop
  ·rename_i q mk hn
   exact jw hρ hr hnd0 (by rw [he]; exact hn) hop hf
  ·cases hop
 ·rename_i t n ps he
  split at hop
  ·rename_i q mk hn
   exact jw hρ hr hnd0 (by rw [he]; exact hn) hop hf
  ·cases hop
 ·rename_i t l c he
  split at hop
  ·rename_i q mk hn
   exact jw hρ hr hnd0 (by rw [he]; exact hn) hop hf
  ·cases hop
 ·rename_i t r he
  split at hop
  ·rename_i q mk hn
   exact jw hρ hr hnd0 (by rw [he]; exact hn) hop hf
  ·cases hop
 ·rename_i t r he
  split at hop
  ·rename_i q mk hn
   exact jw hρ hr hnd0 (by rw [he]; exact hn) hop hf
  ·cases hop
 ·rename_i cases he
  split at hop
  ·rename_i s hcs
   exact a4B hρ hr hnd0 he hcs hop hf
  ·cases hop
 ·rename_i f args ts he
  split at hop
  ·rename_i fv vs hfv hvs
   unfold Zf at hop
   split at hop
   ·rename_i k first cap
    obtain ⟨first', cap', hm, r1, r2⟩ := (VRel.func_iff rfl).1 (hρ _ _ hfv)
    have hvr := kI hρ hvs
    have harr0 : (first'.toList ++ args.toList.map m.eval ++ cap'.toList).toArray = first' ++ args.map m.eval ++ cap' := by apply Array.ext'; simp
    rcases hop with hop | ⟨fn, t, r, es, ck, hfn, hname, horg, hb, hargs, hg, hK⟩
    rotate_left
    ·have hall := (r1.append hvr).append r2
     rw [hargs] at hall
     generalize hml : first'.toList ++ args.toList.map m.eval ++ cap'.toList = ml at hall harr0
     cases hall with | cons k1 k2 =>
     cases k2
     cases k1 with | iface k1 =>
     cases k1 with | @map _ m' s hbr =>
     obtain ⟨mes, hw, hE⟩ := hr.obj _ _ _ _ hbr hg
     obtain ⟨e1, e2⟩ := a3M hname horg
     obtain ⟨hr', st⟩ := hr.alloc (s := ⟨0, 0, 0⟩) (w' := w.alloc (.map mes ck)) (o := .map es ck) (mo := .map mes ck) rfl rfl rfl rfl ⟨mes, World.alloc_heap_new w _, hE.mono (Place.add_mono _ _ hr.noNext)⟩
     have hcl : (Extern.MapsClone.clone #[.iface t (.map (some m'))]).run P w = .ok (.iface t (.map (some w.heap.size))) (w.alloc (.map mes ck)) := by
      have e : Extern.MapsClone.clone #[.iface t (.map (some m'))] = (getObj m' >>= fun o => match o with
        | .map entries clock => (newObj (.map entries clock) >>= fun n => pure (.iface t (.map (some n))))
        | _ => stuck "maps.clone: a map expected") := rfl
      have hget : (getObj m').run P w = .ok (.map mes ck) w := by simp [getObj, Sem.run, hw]
      rw [e]
      simp only [Sem.run_bind, hget, Result.andThen_ok, run_newObj_alloc, Sem.run_pure]
     have hrun : (execOp m.eval o).run P w = .ok (.value (.iface t (.map (some w.heap.size)))) (w.alloc (.map mes ck)) := by
      unfold execOp
      rw [he]
      have hne : (fn.name == "runtime.NumGoroutine") = false := by rw [hname]; decide
      simp only [resolve, hm, Deferred.ofValue, Sem.run_bind, Sem.run_pure, Result.andThen_ok, invoke, ← harr0, callFunc, run_program, hfn, hne, hb, Bool.false_eq_true, if_false, if_true, e1, e2, mark, Sem.run, hcl]
     exact j5 hnd0 hrun (hf _ _ _ _ _ hK (.iface (.map (Place.add_same _ _ _ _))) hr' st)
    obtain ⟨⟨fn, hfn, hb, hname⟩, hcall⟩ := hop
    have hc := hcall β w (first'.toList ++ args.toList.map m.eval ++ cap'.toList) ((r1.append hvr).append r2) hr
    have hrun : (execOp m.eval o).run P w = .ok (.enter k (first'.toList ++ args.toList.map m.eval ++ cap'.toList).toArray) w := by
     unfold execOp
     rw [he]
     have harr : (first'.toList ++ args.toList.map m.eval ++ cap'.toList).toArray = first' ++ args.map m.eval ++ cap' := by apply Array.ext'; simp
     rw [harr]
     simp only [resolve, hm, Deferred.ofValue, Sem.run_bind, Sem.run_pure, Result.andThen_ok, invoke, callFunc, run_program, hfn, hname, hb, Bool.false_eq_true, if_false]
    refine aaq hnd0 hrun (hc.mono ?_)
    rintro e w' ⟨mv, rfl, v, h', β', hv', hr', st, hK⟩
    exact ⟨mv, rfl, hf v h' β' mv w' hK hv' hr' st⟩
   ·rename_i l _ _
    obtain ⟨h0, hop⟩ := hop
    obtain ⟨m', s, hb, hm⟩ := (hρ _ _ hfv).yield_inv h0
    have hvr := kI hρ hvs
    obtain ⟨f', tmps, x, y, e, hround⟩ := hop β m' s w _ hb hvr hr
    have hrun : (execOp m.eval o).run P w = .ok (.round m' f' tmps x y) w := by
     unfold execOp
     rw [he]
     have harr : (args.toList.map m.eval).toArray = args.map m.eval := by apply Array.ext'; simp
     rw [harr] at e
     simp only [resolve, hm, Deferred.ofValue, Sem.run_bind, Sem.run_pure, Result.andThen_ok, invoke, Array.empty_append, e]
    refine aaS hnd0 hrun (hround.mono ?_)
    rintro e w' ⟨mv, rfl, v, h', β', hv', hr', st, hK⟩
    exact ⟨mv, rfl, hf v h' β' mv w' hK hv' hr' st⟩
   ·cases hop
  ·cases hop
 ·rename_i args ts he
  split at hop
  ·rename_i s x hvs
   split at hop
   ·rename_i v h' ha
    have hvr := kI hρ hvs
    cases hargs : args.toList with
    | nil => rw [hargs] at hvr; cases hvr
    | cons y ys =>
     rw [hargs] at hvr
     cases hvr with
     | cons h1 t1 =>
      cases ys with
      | nil => cases t1
      | cons z zs =>
       cases t1 with
       | cons h2 t2 =>
        cases zs with
        | cons _ _ => cases t2
        | nil =>
         obtain ⟨β', mv, w', e, r, hr', st⟩ := U6 (ty := o.type) hr h1 h2 ha
         have h3 : args = #[y, z] := by apply Array.ext'; simpa using hargs
         subst h3
         have hrun : (execOp m.eval o).run P w = .ok (.value mv) w' := by
          unfold execOp
          rw [he]
          simp only [resolve, Sem.run_bind, Sem.run_pure, Result.andThen_ok, invoke, builtin, List.map_toArray, List.map_cons, List.map_nil, e]
         exact j5 hnd0 hrun (hf v h' β' mv w' hop r hr' st)
   ·cases hop
  ·cases hop
 ·rename_i args ts he
  split at hop
  ·rename_i x t hvs hts
   split at hop
   ·rename_i v hl
    obtain ⟨y, rfl, h1⟩ := a8F (kI hρ hvs)
    obtain ⟨e, hk⟩ := u7 hr h1 hl o.type
    obtain rfl : ts = #[t] := by apply Array.ext'; simpa using hts
    refine val v v hop (VRel.const hk) ?_
    unfold execOp
    rw [he]
    simp only [resolve, Sem.run_bind, Sem.run_pure, Result.andThen_ok, invoke, builtin, List.map_toArray, List.map_cons, List.map_nil, e]
   ·cases hop
  ·cases hop
 ·rename_i args ts he
  split at hop
  ·rename_i x t hvs hts
   split at hop
   ·rename_i v hl
    obtain ⟨y, rfl, h1⟩ := a8F (kI hρ hvs)
    obtain ⟨mv, e, hk⟩ := a8i hr h1 hl o.type
    obtain rfl : ts = #[t] := by apply Array.ext'; simpa using hts
    refine val v mv hop hk ?_
    unfold execOp
    rw [he]
    simp only [resolve, Sem.run_bind, Sem.run_pure, Result.andThen_ok, invoke, builtin, List.map_toArray, List.map_cons, List.map_nil, e]
   ·cases hop
  ·cases hop
 ·rename_i args ts he
  split at hop
  ·rename_i x t hvs hts
   split at hop
   ·rename_i v hl
    obtain ⟨y, rfl, h1⟩ := a8F (kI hρ hvs)
    obtain ⟨e, hk⟩ := a2D (w := w) h1 hl o.type
    obtain rfl : ts = #[t] := by apply Array.ext'; simpa using hts
    refine val v v hop (VRel.const hk) ?_
    unfold execOp
    rw [he]
    simp only [resolve, Sem.run_bind, Sem.run_pure, Result.andThen_ok, invoke, builtin, List.map_toArray, List.map_cons, List.map_nil, e]
   ·cases hop
  ·cases hop
 ·rename_i args ts he
  split at hop
  ·rename_i d x hvs
   split at hop
   ·rename_i v h' ha
    obtain ⟨y, z, rfl, h1, h2⟩ := agK (kI hρ hvs)
    obtain ⟨w', e, r, hr', st⟩ := a4q (ty := o.type) hr h1 h2 ha
    have hrun : (execOp m.eval o).run P w = .ok (.value v) w' := by
     unfold execOp
     rw [he]
     simp only [Array.toArray_toList] at e
     simp only [resolve, Sem.run_bind, Sem.run_pure, Result.andThen_ok, invoke, builtin, List.map_toArray, List.map_cons, List.map_nil, e]
    exact j5 hnd0 hrun (hf v h' β v w' hop r hr' st)
   ·cases hop
  ·cases hop
 ·rename_i args ts he
  split at hop
  ·rename_i mp k t _ hvs hts
   split at hop
   ·rename_i h' ha
    obtain ⟨y, z, rfl, h1, h2⟩ := agK (kI hρ hvs)
    obtain ⟨w', e, hr', st⟩ := Uc (ty := o.type) (ts := ts) hr h1 h2 (by rw [← Array.getElem?_toList, hts]; rfl) ha
    have hrun : (execOp m.eval o).run P w = .ok (.value (.tuple #[])) w' := by
     unfold execOp
     rw [he]
     simp only [resolve, Sem.run_bind, Sem.run_pure, Result.andThen_ok, invoke, builtin, List.map_toArray, List.map_cons, List.map_nil, e]
    exact j5 hnd0 hrun (hf (.tuple #[]) h' β (.tuple #[]) w' hop (VRel.const rfl) hr' st)
   ·cases hop
  ·cases hop
 ·rename_i t x y z he
  split at hop
  ·rename_i mp k v h1 h2 h3
   split at hop
   ·rename_i h' hs
    obtain ⟨w', e, hr', st⟩ := JO hr (hρ _ _ h1) (hρ _ _ h2) (hρ _ _ h3) hs
    have hrun : (execOp m.eval o).run P w = .ok .skip w' := by unfold execOp; rw [he]; simp [e]
    exact ua hnd0 hrun (hf _ _ _ undef w' hop VRel.undef hr' st)
   ·cases hop
  ·cases hop
 ·rename_i t x y z he
  split at hop
  ·rename_i mp k v h1 h2 h3
   split at hop
   ·rename_i h' hs
    obtain ⟨w', e, hr', st⟩ := JO hr (hρ _ _ h1) (hρ _ _ h2) (hρ _ _ h3) hs
    have hrun : (execOp m.eval o).run P w = .ok .skip w' := by unfold execOp; rw [he]; simp [e]
    exact ua hnd0 hrun (hf _ _ _ undef w' hop VRel.undef hr' st)
   ·cases hop
  ·cases hop
 ·rename_i t x y ok he
  split at hop
  ·rename_i mp k h1 h2
   split at hop
   ·rename_i v hl
    obtain ⟨mv, e, r⟩ := U5 hr (hρ _ _ h1) (hρ _ _ h2) hl
    exact val v mv hop r (by unfold execOp; rw [he]; simp [e])
   ·cases hop
  ·cases hop
 ·rename_i t x he
  split at hop
  ·rename_i v h1
   obtain ⟨mv, w', v', h', β', e, hv, hr', st, hK⟩ := a48 hr (hρ _ _ h1) hop
   exact does e (by unfold execOp; rw [he]; simp [e]) hK hv hr' st
  ·cases hop
 ·rename_i x s he
  split at hop
  ·rename_i v h1
   obtain ⟨mv, w', v', h', β', e, hv, hr', st, hK⟩ := a6I (ty := o.type) hr (hρ _ _ h1) hop
   exact does e (by unfold execOp; rw [he]; simp [e]) hK hv hr' st
  ·cases hop
 ·rename_i x he
  split at hop
  ·rename_i v h1
   obtain ⟨mv, w', v', h', β', e, hv, hr', st, hK⟩ := a3L hr (hρ _ _ h1) hop
   exact does e (by unfold execOp; rw [he]; simp [e]) hK hv hr' st
  ·cases hop
 ·rename_i t x he
  split at hop
  ·rename_i v h1
   split at hop
   ·rename_i v' hi
    unfold a88 at hi
    split at hi
    ·cases hi
    ·rename_i D hD hu
     cases hi
     refine val _ (.iface t (m.eval x)) hop (.iface (hρ _ _ h1)) ?_
     unfold execOp
     rw [he]
     simp only [Instr.makeInterface, Sem.run_bind, run_underlying hu, Result.andThen_ok]
     cases D <;> first | rfl | exact absurd rfl (hD _)
    ·cases hi
   ·cases hop
  ·cases hop
 ·rename_i x xt t ok he
  split at hop
  ·rename_i v h1
   split at hop
   ·rename_i v' hi
    unfold a1k at hi
    split at hi
    ·cases hi
    ·rename_i D t' u hD hu
     split at hi
     ·rename_i ht
      subst ht
      cases hi
      have h2 := hρ _ _ h1
      generalize hme : m.eval x = mx at h2
      cases h2 with
      | @iface _ _ mu h3 =>
       refine val _ (if ok then .tuple #[mu, .bool true] else mu) hop ?_ ?_
       ·cases ok
        ·exact h3
        ·exact VRel.tuple_iff.2 ⟨_, rfl, .cons h3 (.cons (.bool true) .nil)⟩
       ·unfold execOp
        rw [he]
        simp only [hme, Instr.typeAssert, Sem.run_bind, run_underlying hu, Result.andThen_ok]
        cases D <;> first | exact absurd rfl (hD _) | (simp; done)
     ·cases hi
    ·cases hi
   ·cases hop
  ·cases hop
 ·split at hop
  ·rename_i v hp
   obtain ⟨mv, e, r⟩ := Ku (P := P) hρ hp w
   exact val v mv hop r e
  ·cases hop
open Go.RowKit
def RoOk (ro : Option Nat) (w : World) : Prop := ∀ l, ro = some l → ∃ r : Loop, w.heap[l]? = some (.loop r)
theorem RoOk.step {ro : Option Nat} {β β' : Place} {h h' : Heap} {w w' : World} (ok : RoOk ro w) (st : Step β h w β' h' w') : RoOk ro w' :=
 fun l e => let ⟨r, e1⟩ := ok l e; st.loops l r e1
def agN (x : Nat) : Deferred := ⟨.collected x, #[]⟩
structure Gone (D : List Deferred) (β : Place) (h : Heap) (w : World) (D' : List Deferred) (β' : Place) (h' : Heap) (w' : World) : Prop where
 st : Step β h w β' h' w'
 marks : ∃ xs : List Nat, D' = xs.map agN ++ D ∧ xs.Nodup ∧ ∀ x ∈ xs, w.heap.size ≤ x ∧ w'.heap[x]? = some (.deferred (some []))
theorem Gone.of {D : List Deferred} {β : Place} {h : Heap} {w : World} {β' : Place} {h' : Heap} {w' : World} (st : Step β h w β' h' w') : Gone D β h w D β' h' w' :=
 ⟨st, [], rfl, .nil, fun _ q => by cases q⟩
theorem Gone.refl (D : List Deferred) (β : Place) (h : Heap) (w : World) : Gone D β h w D β h w := .of (Step.refl _ _ _)
theorem Gone.trans {P : Program} {D D1 D2 : List Deferred} {β β1 β2 : Place} {h h1 h2 : Heap} {w w1 w2 : World} (hr : Rel P β h w) (rr : Rel P β1 h1 w1) (a : Gone D β h w D1 β1 h1 w1) (c : Gone D1 β1 h1 w1 D2 β2 h2 w2) : Gone D β h w D2 β2 h2 w2 := by
 obtain ⟨st, xs, e, nd, hx⟩ := a
 obtain ⟨st2, ys, e2, nd2, hy⟩ := c
 refine ⟨st.trans hr st2, ys ++ xs, by rw [e2, e]; simp, ?_, fun x q => ?_⟩
 ·refine List.nodup_append.2 ⟨nd2, nd, fun x hx1 y hy1 he => ?_⟩
  subst he
  have h1 := (hy x hx1).1
  have h2 := (Array.getElem?_eq_some_iff.1 (hx x hy1).2).1
  omega
 ·rcases List.mem_append.1 q with q | q
  ·exact ⟨Nat.le_trans st.size (hy x q).1, (hy x q).2⟩
  ·exact ⟨(hx x q).1, st2.deferred rr (hx x q).2⟩
def After (P : Program) (D : List Deferred) (β : Place) (h : Heap) (w : World) (Q : Exit → Frm → Heap → Prop) : Exit → Act → World → Prop :=
 fun e m' w' => ∃ a' h' β' D', ARel D' β' a' m' ∧ Rel P β' h' w' ∧ Gone D β h w D' β' h' w' ∧ Q e a' h'
theorem After.trans {P : Program} {D D1 : List Deferred} {β β1 : Place} {h h1 : Heap} {w w1 w' : World} {Q : Exit → Frm → Heap → Prop} {e : Exit} {m' : Act} (x : After P D1 β1 h1 w1 Q e m' w') (hr : Rel P β h w) (rr : Rel P β1 h1 w1) (g : Gone D β h w D1 β1 h1 w1) : After P D β h w Q e m' w' := by
 obtain ⟨a, h', β', D', ra, rr', st, q⟩ := x
 exact ⟨a, h', β', D', ra, rr', g.trans hr rr st, q⟩
def AWp (P : Program) (c : Code) (Q : Exit → Frm → Heap → Prop) (a : Frm) (h : Heap) : Prop :=
 ∀ ro D β m w, ARel D β a m → Rel P β h w → RoOk ro w → c.wpIn (wd ro) 0 P (After P D β h w Q) m w
def ait (P : Program) (its : List Item) (Q : Exit → Frm → Heap → Prop) (a : Frm) (h : Heap) : Prop :=
 ∀ ro D β m w, ARel D β a m → Rel P β h w → RoOk ro w → ∀ (b : Frame) (k : List Item) (cs : List Frame), b.roundOf = ro →
  ∃ e m' w', After P D β h w Q e m' w' ∧ ArrivesIn (Machine.fenced P (wd ro)) P (lone (b.atR m (its ++ k)) cs w) b k cs e m' w'
section
variable {P : Program} {Q Q' : Exit → Frm → Heap → Prop} {a : Frm} {h : Heap}
theorem AWp.mono {c : Code} (hc : AWp P c Q a h) (hq : ∀ e a h, Q e a h → Q' e a h) : AWp P c Q' a h :=
 fun ro D β m w ha hr ok => wpIn_mono (hc ro D β m w ha hr ok) (fun e m' w' ⟨a', h', β', D', x, y, z, q⟩ => ⟨a', h', β', D', x, y, z, hq _ _ _ q⟩)
def kG (K : Frm → Heap → Prop) (Q : Exit → Frm → Heap → Prop) : Exit → Frm → Heap → Prop
 | .normal, a, h => K a h
 | e, a, h => Q e a h
def jQ (id : Nat) (Q : Exit → Frm → Heap → Prop) : Exit → Frm → Heap → Prop
 | .exit id', a, h => if id' = id then Q .normal a h else Q (.exit id') a h
 | e, a, h => Q e a h
theorem aez (hq : Q .normal a h) : AWp P .skip Q a h := fun ro D β m w ha hr ok => wpIn_skip ⟨a, h, β, D, ha, hr, Gone.refl _ _ _ _, hq⟩
theorem aaF {l : Nat} (hq : Q .normal a h) : AWp P (.label l) Q a h := fun ro D β m w ha hr ok => wpIn_label ⟨a, h, β, D, ha, hr, Gone.refl _ _ _ _, hq⟩
theorem ad4 {id : Nat} (hq : Q (.exit id) a h) : AWp P (.exit id) Q a h := fun ro D β m w ha hr ok => wpIn_exit ⟨a, h, β, D, ha, hr, Gone.refl _ _ _ _, hq⟩
theorem adJ {l : Nat} (hq : Q (.goto l) a h) : AWp P (.goto l) Q a h := fun ro D β m w ha hr ok => wpIn_goto ⟨a, h, β, D, ha, hr, Gone.refl _ _ _ _, hq⟩
theorem afM (hq : Q .ret a h) : AWp P .ret Q a h := fun ro D β m w ha hr ok => wpIn_ret ⟨a, h, β, D, ha, hr, Gone.refl _ _ _ _, hq⟩
theorem afg {x y : Code} (hx : AWp P x (kG (fun a h => AWp P y Q a h) Q) a h) : AWp P (.seq x y) Q a h := by
 intro ro D β m w ha hr ok
 refine wpIn_seq (wpIn_mono (hx ro D β m w ha hr ok) (fun e m' w' => ?_))
 rintro ⟨a', h', β', D', ra, rr, st, q⟩
 cases e <;> first
  | exact wpIn_mono (q ro D' β' m' w' ra rr (ok.step st.st)) (fun e2 m2 w2 x => x.trans hr rr st)
  | exact ⟨a', h', β', D', ra, rr, st, q⟩
theorem aet {c : Operand} {x y : Code} {t : Bool} (hc : a.ev c = some (.bool t)) (ht : t = true → AWp P x Q a h) (hf : t = false → AWp P y Q a h) : AWp P (.cond c x y) Q a h := by
 intro ro D β m w ha hr ok
 have := ha.rho c _ hc
 generalize hm : m.eval c = mv at this
 cases this
 cases t
 ·exact wpIn_cond_false hm (hf rfl ro D β m w ha hr ok)
 ·exact wpIn_cond_true hm (ht rfl ro D β m w ha hr ok)
theorem aap {id : Nat} {c : Code} (hc : AWp P c (jQ id Q) a h) : AWp P (.block id c) Q a h := by
 intro ro D β m w ha hr ok
 refine wpIn_block (wpIn_mono (hc ro D β m w ha hr ok) (fun e m' w' => ?_))
 rintro ⟨a', h', β', D', ra, rr, st, q⟩
 cases e with
 | exit id' =>
  simp only [Exit.inBlock]
  simp only [jQ] at q
  split at q
  ·rename_i hi; rw [if_pos hi]; exact ⟨a', h', β', D', ra, rr, st, q⟩
  ·rename_i hi; rw [if_neg hi]; exact ⟨a', h', β', D', ra, rr, st, q⟩
 | _ => exact ⟨a', h', β', D', ra, rr, st, q⟩
def LWp (P : Program) (c : Code) (Q : Exit → Frm → Heap → Prop) (a : Frm) (h : Heap) : Prop := ait P [.code c, .inLoop c] Q a h
theorem ve {c : Code} (hc : AWp P c (kG (fun a h => LWp P c Q a h) Q) a h) : LWp P c Q a h := by
 intro ro D β m w ha hr ok b k cs hb
 obtain ⟨e, m1, w1, ⟨a1, h1, β1, D1, ra, rr, st, q⟩, harr⟩ := hc ro D β m w ha hr ok b (.inLoop c :: k) cs hb trivial (a8G _ _)
 have pass : (e ≠ .normal) → Q e a1 h1 → ∃ e m' w', After P D β h w Q e m' w' ∧ ArrivesIn (Machine.fenced P (wd ro)) P (lone (b.atR m (.code c :: .inLoop c :: k)) cs w) b k cs e m' w' :=
  fun hne q => ⟨_, m1, w1, ⟨a1, h1, β1, D1, ra, rr, st, q⟩, .pass (x := .inLoop c) rfl (fun _ _ => .inl hne) harr⟩
 cases e with
 | normal =>
  obtain ⟨e2, m2, w2, x2, harr2⟩ := q ro D1 β1 m1 w1 ra rr (ok.step st.st) b k cs hb
  exact ⟨e2, m2, w2, x2.trans hr rr st, .of_steps (StepsIn.trans harr (.one (Jd _ _ _) stepR_inLoop)) harr2⟩
 | exit id => exact pass (by simp) q
 | goto l => exact pass (by simp) q
 | ret => exact pass (by simp) q
 | panic ch => exact pass (by simp) q
 | outgrown => exact pass (by simp) q
theorem a4S {c : Code} (hc : LWp P c Q a h) : AWp P (.loop c) Q a h := by
 intro ro D β m w ha hr ok b k cs hb _ _
 obtain ⟨e, m', w', hq, harr⟩ := hc ro D β m w ha hr ok b k cs hb
 exact ⟨e, m', w', hq, .of_steps (.one (Jd _ _ _) stepR_loop) harr⟩
theorem V4 {σ : Type} {c : Code} (I : σ → Frm → Heap → Prop) (μ : σ → Nat) (x : σ) (h0 : I x a h)
  (round : ∀ x a h, I x a h → AWp P c (kG (fun a' h' => ∃ x', I x' a' h' ∧ μ x' < μ x) Q) a h) : AWp P (.loop c) Q a h := by
 have key : ∀ n x a h, μ x = n → I x a h → LWp P c Q a h := by
  intro n
  induction n using Nat.strongRecOn with
  | _ n ih =>
   intro x a h hn hI
   refine ve ((round x a h hI).mono fun e a1 h1 q => ?_)
   cases e <;> first
    | exact q
    | (obtain ⟨x1, hI1, hlt⟩ := q; exact ih (μ x1) (hn ▸ hlt) x1 a1 h1 rfl hI1)
 exact a4S (key _ x a h rfl h0)
def a58 (ro : Option Nat) (P : Program) (ops : Array Oper) (R : Act → World → Prop) (l : List Nat) (m : Act) (w : World) : Prop :=
 ∀ (b : Frame) (k : List Item) (cs : List Frame), b.roundOf = ro → ∃ m' w', R m' w' ∧ Steps P (lone (b.atR m (.inRegion ops l :: k)) cs w) (lone (b.atR m' k) cs w')
def ItemS (ro : Option Nat) (P : Program) (ops : Array Oper) (i : Nat) (next : Act → World → Prop) (m : Act) (w : World) : Prop :=
 ∀ (b : Frame) (rest : List Nat) (k : List Item) (cs : List Frame), b.roundOf = ro → ∃ m' w', next m' w' ∧ Steps P (lone (b.atR m (.inRegion ops (i :: rest) :: k)) cs w) (lone (b.atR m' (.inRegion ops rest :: k)) cs w')
section regS
variable {ro : Option Nat} {ops : Array Oper} {R : Act → World → Prop} {next next' : Act → World → Prop} {m : Act} {w : World} {i : Nat} {o : Oper}
theorem KU (ho : ops[i]? = some o) (hw : Region.wanted o (yielded ops m.tmps) = true) (h : OpS ro P o m w next) : ItemS ro P ops i next m w :=
 fun b rest k cs hb => h b ops i rest k cs hb ho hw
theorem xi (ho : ops[i]? = some o) (hw : Region.wanted o (yielded ops m.tmps) = false) (hn : next (m.put o.dst undef) w) : ItemS ro P ops i next m w := by
 intro b rest k cs hb
 have hs := stepR_op_skip (P := P) (b := b) (a := m) (k := k) (cs := cs) (w := w) (ops := ops) (i := i) (rest := rest) (by simp [ho, hw])
 rw [ho] at hs
 exact ⟨_, _, hn, .one hs⟩
theorem ItemS.mono (h : ItemS ro P ops i next m w) (hn : ∀ m w, next m w → next' m w) : ItemS ro P ops i next' m w :=
 fun b rest k cs hb => let ⟨m', w', q, s⟩ := h b rest k cs hb; ⟨m', w', hn _ _ q, s⟩
theorem xv (h : R m w) : a58 ro P ops R [] m w := fun b k cs hb => ⟨m, w, h, .one stepR_region_end⟩
theorem Jt {rest : List Nat} (h : ItemS ro P ops i (a58 ro P ops R rest) m w) : a58 ro P ops R (i :: rest) m w := by
 intro b k cs hb
 obtain ⟨m', w', q, s⟩ := h b rest k cs hb
 obtain ⟨m2, w2, q2, s2⟩ := q b k cs hb
 exact ⟨m2, w2, q2, Steps.trans s s2⟩
theorem XD {a b : Machine} (h : Steps P a b) : StepsIn (Machine.fenced P (wd ro)) P a b := stepsIn_wide.2 h
theorem a3G {id : Nat} {Q : Exit → Act → World → Prop} (h : a58 ro P ops (Q .normal) (List.range ops.size) m w) : (Code.region id ops false).wpIn (wd ro) 0 P Q m w := by
 intro b k cs hb _ _
 obtain ⟨m', w', q, s⟩ := h b k cs hb
 exact ⟨.normal, m', w', q, XD (.head stepR_region s)⟩
def afB (ro : Option Nat) (P : Program) (ops : Array Oper) (R : Act → World → Prop) : Nat → Array Bool → Act → World → Prop
 | 0, listed, m, w => Region.ready .any ops listed = [] ∧ R m w
 | fuel + 1, listed, m, w => (Region.ready .any ops listed = [] → R m w) ∧ ∀ i ∈ Region.ready .any ops listed, ItemS ro P ops i (afB ro P ops R fuel (listed.setIfInBounds i true)) m w
theorem XU : ∀ (fuel t : Nat) (listed : Array Bool) (m : Act) (w : World), afB ro P ops R fuel listed m w → a58 ro P ops R (Region.linearise.go .any ops fuel t listed []) m w
 | 0, t, listed, m, w, h => by
  simp only [Region.linearise.go, List.reverse_nil]
  exact xv h.2
 | fuel + 1, t, listed, m, w, h => by
  simp only [Region.linearise.go]
  change a58 ro P ops R (match (Region.ready .any ops listed)[t % (Region.ready .any ops listed).length]? with
   | some i => Region.linearise.go .any ops fuel (t / (Region.ready .any ops listed).length) (listed.setIfInBounds i true) [i]
   | none => [].reverse) m w
  cases hi : (Region.ready .any ops listed)[t % (Region.ready .any ops listed).length]? with
  | none =>
   refine xv (h.1 ?_)
   cases hr : Region.ready .any ops listed with
   | nil => rfl
   | cons x xs =>
    rw [hr, List.getElem?_eq_none_iff] at hi
    have := Nat.mod_lt t (show 0 < (x :: xs).length by simp)
    omega
  | some i =>
   simp only []
   rw [linearise_go_acc, List.reverse_singleton, List.singleton_append]
   exact Jt ((h.2 i (List.mem_of_getElem? hi)).mono fun m w q => XU fuel _ _ m w q)
theorem a7R {id : Nat} {Q : Exit → Act → World → Prop} (hm : P.follows .mixedOrders = true) (h : afB ro P ops (Q .normal) ops.size (Array.replicate ops.size false) m { w with drawn := w.drawn + 1 }) : (Code.region id ops true).wpIn (wd ro) 0 P Q m w := by
 intro b k cs hb _ _
 have h2 := XU ops.size (w.tape w.drawn (.order b.fn id)) _ m _ h
 obtain ⟨m', w', q, s⟩ := h2 b k cs hb
 refine ⟨.normal, m', w', q, XD (.head stepR_region_draw ?_)⟩
 simp only [Region.schedule, hm, Bool.true_or, if_true]
 exact s
end regS
def Qy (P : Program) (a : Frm) (h : Heap) : ResultVar → Option Value
 | .tmp t => a.get t
 | .cell p t => match a.get p with
  | some v => kJ P t h v
  | none => none
def za (P : Program) (a : Frm) (h : Heap) : List ResultVar → Option (List Value)
 | [] => some []
 | x :: r => match Qy P a h x, za P a h r with
  | some v, some vs => some (v :: vs)
  | _, _ => none
def jW : List Value → Value
 | [v] => v
 | vs => .tuple vs.toArray
def a0k (tmps : Array Value) : ResultVar → Sem Value
 | .tmp t => pure (tmps.getD t undef)
 | .cell a t => do loadVar t (← asAddr (tmps.getD a undef))
theorem a71 (fn : Func) (tmps : Array Value) : results fn tmps = (do let vs ← fn.results.mapM (a0k tmps); pure (if h : vs.size = 1 then vs[0] else .tuple vs)) := by
 unfold results
 congr 1
theorem uA {D : List Deferred} {β : Place} {w : World} {m : Act} {fn : Func} {vs : List Value} (ha : ARel D β a m) (hr : Rel P β h w) (hv : za P a h fn.results.toList = some vs) :
  ∃ mv, (results fn m.tmps).run P w = .ok mv w ∧ VRel β (jW vs) mv := by
 have one : ∀ (x : ResultVar) (v : Value), Qy P a h x = some v → ∃ mv, (a0k m.tmps x).run P w = .ok mv w ∧ VRel β v mv := by
  intro x v hx
  cases x with
  | tmp t =>
   obtain ⟨mv, e, r⟩ := ha.rel t v hx
   exact ⟨mv, by simp [a0k, e], r⟩
  | cell p t =>
   simp only [Qy] at hx
   split at hx
   ·rename_i q hq
    obtain ⟨mq, e, r⟩ := ha.rel p q hq
    obtain ⟨mv, e2, r2⟩ := J3 hr r hx
    refine ⟨mv, ?_, r2⟩
    have : ∃ ad, mq = .pointer (some ad) := by
     unfold kJ at hx
     split at hx
     ·obtain ⟨m', s', _, rfl⟩ := r.ptr_inv; exact ⟨_, rfl⟩
     ·cases hx
    obtain ⟨ad, rfl⟩ := this
    have e3 : m.tmps.getD p undef = .pointer (some ad) := by simp [e]
    simp only [a0k, e3, asAddr, Sem.run_bind, Sem.run_pure, Result.andThen_ok]
    simpa [Instr.loadAt, Instr.sureAddr] using e2
   ·cases hx
 have all : ∀ (l : List ResultVar) (vs : List Value), za P a h l = some vs → ∃ ms, (l.mapM (a0k m.tmps)).run P w = .ok ms w ∧ VRels β vs ms := by
  intro l
  induction l with
  | nil => intro vs e; simp [za] at e; subst e; exact ⟨[], by simp, .nil⟩
  | cons x l ih =>
   intro vs e
   unfold za at e
   split at e
   ·rename_i v vs' e1 e2
    cases e
    obtain ⟨mv, r1, q1⟩ := one x v e1
    obtain ⟨ms, r2, q2⟩ := ih vs' e2
    refine ⟨mv :: ms, ?_, .cons q1 q2⟩
    simp only [List.mapM_cons, Sem.run_bind, r1, r2, Result.andThen_ok, Sem.run_pure]
   ·cases e
 obtain ⟨ms, e, r⟩ := all _ vs hv
 have e' : (fn.results.mapM (a0k m.tmps)).run P w = .ok ms.toArray w := by
  rw [Array.mapM_eq_mapM_toList, Sem.run_map, e]
  rfl
 refine ⟨_, by rw [a71, Sem.run_bind, e']; rfl, ?_⟩
 have hlen := r.length
 cases r with
 | nil => simp [jW]; exact VRel.undef
 | cons h1 t1 =>
  cases t1 with
  | nil => simpa [jW] using h1
  | cons h2 t2 =>
   simp [jW]
   exact VRel.tuple_iff.2 ⟨_, rfl, by simpa using VRels.cons h1 (.cons h2 t2)⟩
def a51 (P : Program) (rs : List ResultVar) (Q : Value → Heap → Prop) : Exit → Frm → Heap → Prop
 | .normal, a, h => ∃ vs, za P a h rs = some vs ∧ Q (jW vs) h
 | .ret, a, h => ∃ vs, za P a h rs = some vs ∧ Q (jW vs) h
 | _, _, _ => False
def kw : Nat → List Value → List (Nat × Value)
 | _, [] => []
 | k, v :: vs => (k, v) :: kw (k + 1) vs
theorem JQ : ∀ (vs : List Value) (k t : Nat) (v : Value), wv t (kw k vs) = some v → k ≤ t ∧ vs[t - k]? = some v
 | [], k, t, v, h => by simp [kw, wv] at h
 | u :: vs, k, t, v, h => by
  simp only [kw, wv] at h
  split at h
  ·rename_i e; subst e; cases h; exact ⟨Nat.le_refl _, by simp⟩
  ·rename_i e
   obtain ⟨h1, h2⟩ := JQ vs (k + 1) t v h
   refine ⟨by omega, ?_⟩
   have : t - k = (t - (k + 1)) + 1 := by omega
   rw [this]
   simpa using h2
theorem Rel.put_deferred {β : Place} {w : World} {x : Nat} {q q' : Option (List Deferred)} (hr : Rel P β h w) (e : w.heap[x]? = some (.deferred q)) : Rel P β h (w.putObj x (.deferred q')) := by
 refine ⟨fun b m s hb => by rw [World.putObj_size]; exact hr.dom b m s hb, fun b m s o hb hg => ?_, hr.inj⟩
 have ho := hr.obj b m s o hb hg
 by_cases hm : m = x
 ·subst hm
  exfalso
  cases o with
  | cells => obtain ⟨_, _, _, h1, _⟩ := ho; rw [e] at h1; cases h1
  | map => obtain ⟨_, h1, _⟩ := ho; rw [e] at h1; cases h1
  | iter => obtain ⟨_, _, h1, _⟩ := ho; rw [e] at h1; cases h1
  | striter => obtain ⟨_, h1⟩ := ho; rw [e] at h1; cases h1
  | chan => obtain ⟨_, _, _, _, h1, _⟩ := ho; rw [e] at h1; cases h1
  | loop => obtain ⟨_, _, _, _, h1, _⟩ := ho; rw [e] at h1; cases h1
 ·exact ho.mono (fun _ _ e => e) (World.putObj_heap_other hm)
theorem Step.put_deferred {β β' : Place} {h h' : Heap} {w w' : World} {x : Nat} {q q' : Option (List Deferred)} (st : Step β h w β' h' w') (hx : w.heap.size ≤ x) (e : w'.heap[x]? = some (.deferred q)) : Step β h w β' h' (w'.putObj x (.deferred q')) := by
 refine ⟨st.place, st.stays, st.next, st.live, st.new, st.os, st.tape, st.output, by rw [World.putObj_size]; exact st.size, fun m hm hn => ?_, fun m r e1 => ?_⟩
 ·rw [World.putObj_heap_other (by omega)]; exact st.frame m hm hn
 ·obtain ⟨r', e2⟩ := st.loops m r e1
  exact ⟨r', by rw [World.putObj_heap_other (by rintro rfl; rw [e] at e2; cases e2)]; exact e2⟩
theorem Yr {fn : Func} {m : Act} {D : List Deferred} {β β' : Place} {h0 : Heap} {w0 : World} {vs : List Value} {Q : Value → Heap → Prop} (ha : ARel D β' a m) (hv : za P a h fn.results.toList = some vs) (hq : Q (jW vs) h) :
  ∀ (xs : List Nat) (w : World), xs.Nodup → (∀ x ∈ xs, w0.heap.size ≤ x ∧ w.heap[x]? = some (.deferred (some []))) → Rel P β' h w → Step β h0 w0 β' h w →
   LeavesInM Fence.wide 0 P fn m.tmps (fun e w' => ∃ mv, e = .returned mv ∧ ∃ v h' β', VRel β' v mv ∧ Rel P β' h' w' ∧ Step β h0 w0 β' h' w' ∧ Q v h') (xs.map agN) .returning w
 | [], w, _, _, hr, st => by
  obtain ⟨mv, e2, r⟩ := uA ha hr hv
  exact ⟨mv, e2, mv, rfl, _, h, β', r, hr, st, hq⟩
 | x :: xs, w, nd, hx, hr, st => by
  obtain ⟨h1, h2⟩ := hx x (by simp)
  obtain ⟨n1, n2⟩ := List.nodup_cons.1 nd
  refine ⟨by simp, .inl ⟨x, w.putObj x (.deferred none), rfl, run_takeDeferred h2, ?_⟩⟩
  refine Yr ha hv hq xs _ n2 (fun y hy => ?_) (hr.put_deferred h2) (st.put_deferred h1 h2)
  obtain ⟨k1, k2⟩ := hx y (by simp [hy])
  exact ⟨k1, by rw [World.putObj_heap_other (by rintro rfl; exact n1 hy)]; exact k2⟩
theorem ZN {f : FuncId} {fn : Func} {c : Code} {n : Nat} {rs : List ResultVar} {args : List Value} {Q : Value → Heap → Prop} (hf : P.funcs[f]? = some fn) (hb : fn.body = some c) (hn : fn.ntmps = n) (hrs : fn.results.toList = rs)
  (hname : (fn.name == "runtime.NumGoroutine") = false) (hle : args.length ≤ n) (hbody : AWp P c (a51 P rs Q) ⟨n, kw 0 args⟩ h) : ACalls P f args h Q := by
 refine ⟨⟨fn, hf, by simp [hb], hname⟩, fun β w ms hv hr => callsIn_wide.1 (callsIn_of_wp_marks (n := 0) hf hb trivial ?_)⟩
 have hlen := hv.length
 have ha : ARel [] β ⟨n, kw 0 args⟩ { tmps := ms.toArray ++ Array.replicate (fn.ntmps - ms.toArray.size) undef, defers := [] } := by
  refine ⟨rfl, by simp [hn]; omega, fun t v e => ?_⟩
  obtain ⟨_, h2⟩ := JQ args 0 t v e
  obtain ⟨mv, e1, r⟩ := hv.get (i := t) (v := v) (by simpa using h2)
  refine ⟨mv, ?_, r⟩
  have hlt : t < ms.length := (List.getElem?_eq_some_iff.1 e1).1
  rw [Array.getElem?_append_left (by simpa using hlt)]
  simpa using e1
 refine wpIn_mono (hbody none [] β _ w ha hr (fun _ e => by cases e)) (fun e m' w' => ?_)
 rintro ⟨a', h', β', D', ra, rr, ⟨st, xs, hD, nd, hx⟩, q⟩
 subst hrs
 rw [List.append_nil] at hD
 have fin : (∃ vs, za P a' h' fn.results.toList = some vs ∧ Q (jW vs) h') → LeavesInM Fence.wide 0 P fn m'.tmps (fun e w' => ∃ mv, e = .returned mv ∧ ∃ v h' β', VRel β' v mv ∧ Rel P β' h' w' ∧ Step β h w β' h' w' ∧ Q v h') m'.defers .returning w' := by
  rintro ⟨vs, e1, q⟩
  rw [ra.defers, hD]
  exact Yr ra e1 q xs w' nd hx rr st
 cases e with
 | normal => exact fin q
 | ret => exact fin q
 | exit id => exact q.elim
 | goto l => exact q.elim
 | panic c => exact q.elim
 | outgrown => exact q.elim
end
open Go.RowKit
def qH (o : Option Value) (f : Value → Prop) : Prop := match o with | some v => f v | none => False
theorem a8v (v : Value) (f : Value → Prop) : qH (some v) f = f v := rfl
theorem a3V {o o' : Option Value} {f : Value → Prop} (h : o = o') : qH o f = qH o' f := by rw [h]
def wh (o : Option Value) (A B : Prop) : Prop := match o with | some (.bool b) => (b = true → A) ∧ (b = false → B) | _ => False
theorem a0U {o o' : Option Value} {A B : Prop} (h : o = o') : wh o A B = wh o' A B := by rw [h]
def zA (o : Option Bool) (A B : Prop) : Prop := match o with | some b => (b = true → A) ∧ (b = false → B) | none => False
theorem uO {o o' : Option Bool} {A B : Prop} (h : o = o') : zA o A B = zA o' A B := by rw [h]
structure C where
 d : Option Tmp
 op : Op
 g : Option (Option Tmp × Bool)
def j8 (ops : Array Oper) (o : Oper) : C := ⟨o.dst, o.op, o.guard.map fun p => ((ops[p.1]?).bind (·.dst), p.2)⟩
def zo (t : Option Tmp) (want : Bool) (a : Frm) : Option Bool :=
 match t with
 | some t => match a.get t with
  | some (.bool b) => some (if want then b else !b)
  | some (.tuple _) => some false
  | _ => none
 | none => none
def VG (o : Option Value) (want : Bool) : Option Bool := match o with | some (.bool b) => some (if want then b else !b) | some (.tuple _) => some false | _ => none
def cWp (P : Program) : List C → (Frm → Heap → Prop) → Frm → Heap → Prop
 | [], K, a, h => K a h
 | c :: r, K, a, h =>
  match c.g with
  | none => qB P c.op a.ev h (fun v h' => cWp P r K (a.put c.d v) h')
  | some (t, want) => zA (zo t want a) (qB P c.op a.ev h (fun v h' => cWp P r K (a.put c.d v) h')) (cWp P r K (a.put c.d undef) h)
theorem Yf {D : List Deferred} {β : Place} {ops : Array Oper} {o : Oper} {m : Act} {a : Frm} {g : Nat} {want b : Bool} (ha : ARel D β a m) (hg : o.guard = some (g, want)) (hv : zo ((ops[g]?).bind (·.dst)) want a = some b) :
  Region.wanted o (yielded ops m.tmps) = b := by
 unfold zo at hv
 unfold Region.wanted
 simp only [hg]
 split at hv
 ·rename_i t ht
  split at hv
  ·rename_i c hc
   cases hv
   obtain ⟨mv, e, r⟩ := ha.rel t _ hc
   cases r
   have : yielded ops m.tmps g = some c := by simp [yielded, ht, e]
   rw [this]
   cases c <;> cases want <;> rfl
  ·rename_i c hc
   cases hv
   obtain ⟨mv, e, r⟩ := ha.rel t _ hc
   obtain ⟨xs, rfl, _⟩ := VRel.tuple_iff.1 r
   have : yielded ops m.tmps g = none := by simp [yielded, ht, e]
   rw [this]
   rfl
  ·cases hv
 ·cases hv
theorem YC {ro : Option Nat} {P : Program} {ops : Array Oper} {K : Frm → Heap → Prop} {R : Act → World → Prop} : ∀ (l : List Oper) (k : Nat) (hk : ∀ j, l[j]? = ops[k + j]?) {D : List Deferred} {a : Frm} {h : Heap} {β : Place} {m : Act} {w : World}, ARel D β a m → Rel P β h w → cWp P (l.map (j8 ops)) K a h →
  (∀ a' h' β' m' w', K a' h' → ARel D β' a' m' → Rel P β' h' w' → Step β h w β' h' w' → R m' w') → a58 ro P ops R (List.range' k l.length) m w
 | [], k, hk, D, a, h, β, m, w, ha, hr, hl, hR => xv (hR a h β m w hl ha hr (Step.refl _ _ _))
 | o :: r, k, hk, D, a, h, β, m, w, ha, hr, hl, hR => by
  have h0 : ops[k]? = some o := by simpa using (hk 0).symm
  have hk' : ∀ j, r[j]? = ops[k + 1 + j]? := fun j => by have := hk (j + 1); simpa [Nat.add_assoc, Nat.add_comm 1 j] using this
  have go : qB P o.op a.ev h (fun v h' => cWp P (r.map (j8 ops)) K (a.put o.dst v) h') → OpS ro P o m w (a58 ro P ops R (List.range' (k + 1) r.length)) := fun hop => xE ha.rho hr hop (by
   intro v h' β' mv w' hK hv hr' st
   exact YC r (k + 1) hk' ((ha.mono st.place).put hv o.dst) hr' hK fun a2 h2 β2 m2 w2 k x y z => hR a2 h2 β2 m2 w2 k x y (st.trans hr z))
  rw [List.length_cons, List.range'_succ]
  simp only [List.map_cons, cWp, j8] at hl
  cases hg : o.guard with
  | none =>
   simp only [hg, Option.map_none] at hl
   exact Jt (KU h0 (by simp [Region.wanted, hg]) (go hl))
  | some p =>
   obtain ⟨g, want⟩ := p
   simp only [hg, Option.map_some] at hl
   cases hv : zo ((ops[g]?).bind (·.dst)) want a with
   | none => rw [hv] at hl; exact hl.elim
   | some b =>
    rw [hv] at hl
    have hw := Yf ha hg hv
    cases b
    ·exact Jt (xi h0 hw (YC r (k + 1) hk' (ha.put VRel.undef o.dst) hr (hl.2 rfl) hR))
    ·exact Jt (KU h0 hw (go (hl.1 rfl)))
theorem a1p {P : Program} {Q : Exit → Frm → Heap → Prop} {a : Frm} {h : Heap} {id : Nat} {ops : Array Oper} (hl : cWp P (ops.toList.map (j8 ops)) (Q .normal) a h) : AWp P (.region id ops false) Q a h :=
 fun ro D β m w ha hr ok => a3G (by
  rw [List.range_eq_range', ← Array.length_toList]
  exact YC ops.toList 0 (fun j => by simp) ha hr hl fun a' h' β' m' w' q x y z => ⟨a', h', β', D, x, y, .of z, q⟩)
def Vc (P : Program) (l : List C) (K : Frm → Heap → Prop) (a : Frm) (h : Heap) : Prop := cWp P l K a h
theorem Vn (P : Program) (l : List C) (K : Frm → Heap → Prop) (a : Frm) (h : Heap) (B : Prop) : zA (some true) (Vc P l K a h) B = cWp P l K a h := by simp [zA, Vc]
theorem vq (P : Program) (l : List C) (K : Frm → Heap → Prop) (a : Frm) (h : Heap) (A : Prop) : zA (some false) A (Vc P l K a h) = cWp P l K a h := by simp [zA, Vc]
theorem afA (P : Program) (K : Frm → Heap → Prop) (a : Frm) (h : Heap) : cWp P [] K a h = K a h := rfl
theorem aaA (P : Program) (d : Option Tmp) (op : Op) (t : Option Tmp) (want : Bool) (r : List C) (K : Frm → Heap → Prop) (a : Frm) (h : Heap) :
  cWp P (⟨d, op, some (t, want)⟩ :: r) K a h = zA (zo t want a) (Vc P (⟨d, op, none⟩ :: r) K a h) (Vc P r K (a.put d undef) h) := rfl
def QN (P : Program) : Code → (Exit → Frm → Heap → Prop) → Frm → Heap → Prop
 | .skip, Q, a, h => Q .normal a h
 | .region id ops d, Q, a, h => if d then AWp P (.region id ops true) Q a h else cWp P (ops.toList.map (j8 ops)) (Q .normal) a h
 | .seq x y, Q, a, h => QN P x (kG (QN P y Q) Q) a h
 | .cond c x y, Q, a, h => wh (a.ev c) (QN P x Q a h) (QN P y Q a h)
 | .block id c, Q, a, h => QN P c (jQ id Q) a h
 | .exit id, Q, a, h => Q (.exit id) a h
 | .ret, Q, a, h => Q .ret a h
 | .label _, Q, a, h => Q .normal a h
 | .goto l, Q, a, h => Q (.goto l) a h
 | .loop c, Q, a, h => AWp P (.loop c) Q a h
 | .rangeFunc f ps x y, Q, a, h => AWp P (.rangeFunc f ps x y) Q a h
 | .scope c, Q, a, h => AWp P (.scope c) Q a h
 | .refuse s, Q, a, h => AWp P (.refuse s) Q a h
def WG (P : Program) (c : Code) (Q : Exit → Frm → Heap → Prop) (a : Frm) (h : Heap) : Prop := QN P c Q a h
theorem Xv (P : Program) (c : Code) (Q : Exit → Frm → Heap → Prop) (a : Frm) (h : Heap) (B : Prop) : wh (some (.bool true)) (WG P c Q a h) B = QN P c Q a h := by simp [wh, WG]
theorem Vq (P : Program) (c : Code) (Q : Exit → Frm → Heap → Prop) (a : Frm) (h : Heap) (A : Prop) : wh (some (.bool false)) A (WG P c Q a h) = QN P c Q a h := by simp [wh, WG]
section
variable (P : Program) (Q : Exit → Frm → Heap → Prop) (a : Frm) (h : Heap)
variable (K : Frm → Heap → Prop)
theorem a1q : kG K Q .normal a h = K a h := rfl
theorem a6d (id : Nat) : kG K Q (.exit id) a h = Q (.exit id) a h := rfl
theorem a5O (l : Nat) : kG K Q (.goto l) a h = Q (.goto l) a h := rfl
theorem a9F : kG K Q .ret a h = Q .ret a h := rfl
theorem uG (id : Nat) : jQ id Q .normal a h = Q .normal a h := rfl
theorem a3T (id id' : Nat) : jQ id Q (.exit id') a h = if id' = id then Q .normal a h else Q (.exit id') a h := rfl
theorem a4e (id l : Nat) : jQ id Q (.goto l) a h = Q (.goto l) a h := rfl
theorem a5J (id : Nat) : jQ id Q .ret a h = Q .ret a h := rfl
def xZ (o : Option (List Value)) (Q : Value → Heap → Prop) (h : Heap) : Prop := match o with | some vs => Q (jW vs) h | none => False
theorem a7q (vs : List Value) (R : Value → Heap → Prop) : xZ (some vs) R h = R (jW vs) h := rfl
theorem aaZ (rs : List ResultVar) (R : Value → Heap → Prop) : a51 P rs R .ret a h = xZ (za P a h rs) R h := by
 unfold a51 xZ
 cases hq : za P a h rs <;> simp [hq]
theorem a1E (rs : List ResultVar) (R : Value → Heap → Prop) : a51 P rs R .normal a h = xZ (za P a h rs) R h := by
 unfold a51 xZ
 cases hq : za P a h rs <;> simp [hq]
end
section
variable (P : Program) (d : Option Tmp) (r : List C) (K : Frm → Heap → Prop) (a : Frm) (h : Heap)
theorem abF (x : Operand) : cWp P (⟨d, .move x, none⟩ :: r) K a h = qH (a.ev x) fun v => cWp P r K (a.put d v) h := by
 simp only [cWp, qB, z8]; cases a.ev x <;> rfl
theorem a5f (x : Operand) : cWp P (⟨d, .assign x, none⟩ :: r) K a h = qH (a.ev x) fun v => cWp P r K (a.put d v) h := by
 simp only [cWp, qB, z8]; cases a.ev x <;> rfl
def a39 (c x y : Option Value) : Option Value := match c with | some (.bool b) => if b then x else y | _ => none
theorem a9H (c x y : Operand) : cWp P (⟨d, .pick c x y, none⟩ :: r) K a h = qH (a39 (a.ev c) (a.ev x) (a.ev y)) fun v => cWp P r K (a.put d v) h := by
 simp only [cWp, qB, z8]
 unfold a39
 cases a.ev c with
 | none => rfl
 | some v => cases v <;> rfl
theorem a60 (op : BinOp) (t t' : TypeId) (x y : Operand) : cWp P (⟨d, .binOp op t x y t', none⟩ :: r) K a h =
  qH (a.ev x) fun u => qH (a.ev y) fun v => qH (qZ P op t u v) fun v => cWp P r K (a.put d v) h := by
 simp only [cWp, qB, z8]; cases a.ev x <;> cases a.ev y <;> simp only [qH] <;> (cases qZ P op t _ _ <;> rfl)
theorem abe (op : UnOp) (t : TypeId) (x : Operand) : cWp P (⟨d, .unOp op t x, none⟩ :: r) K a h =
  qH (a.ev x) fun u => qH (unV op u) fun v => cWp P r K (a.put d v) h := by
 simp only [cWp, qB, z8]; cases a.ev x <;> simp only [qH] <;> (cases unV op _ <;> rfl)
theorem a9J (t : TypeId) (x : Operand) : cWp P (⟨d, .load t x, none⟩ :: r) K a h =
  qH (a.ev x) fun u => qH (kJ P t h u) fun v => cWp P r K (a.put d v) h := by
 simp only [cWp, qB]; cases a.ev x <;> simp only [qH] <;> (cases kJ P t h _ <;> rfl)
def a4X (o : Option Heap) (f : Heap → Prop) : Prop := match o with | some h => f h | none => False
theorem a6n (h : Heap) (f : Heap → Prop) : a4X (some h) f = f h := rfl
theorem a3g {o o' : Option Heap} {f : Heap → Prop} (h : o = o') : a4X o f = a4X o' f := by rw [h]
theorem a6k (t : TypeId) (x y : Operand) : cWp P (⟨d, .store t x y, none⟩ :: r) K a h =
  qH (a.ev x) fun u => qH (a.ev y) fun v => a4X (wm P t h u v) fun h' => cWp P r K (a.put d undef) h' := by
 simp only [cWp, qB]; cases a.ev x <;> cases a.ev y <;> simp only [qH, a4X] <;> (cases wm P t h _ _ <;> rfl)
theorem X5 (t : TypeId) (x : Operand) (f : Nat) : cWp P (⟨d, .fieldAddr t x f, none⟩ :: r) K a h =
  qH (a.ev x) fun u => qH (jh P t u f) fun v => cWp P r K (a.put d v) h := by
 simp only [cWp, qB, z8]; cases a.ev x <;> simp only [qH] <;> (cases jh P t _ f <;> rfl)
theorem a72 (t : TypeId) (x : Operand) (f : Nat) : cWp P (⟨d, .field t x f, none⟩ :: r) K a h =
  qH (a.ev x) fun u => qH (Wj P t u f) fun v => cWp P r K (a.put d v) h := by
 simp only [cWp, qB, z8]; cases a.ev x <;> simp only [qH] <;> (cases Wj P t _ f <;> rfl)
theorem xN (t : TypeId) (x y : Operand) : cWp P (⟨d, .indexAddr t x y, none⟩ :: r) K a h =
  qH (a.ev x) fun u => qH (a.ev y) fun v => qH (ky P t u v) fun v => cWp P r K (a.put d v) h := by
 simp only [cWp, qB, z8]; cases a.ev x <;> cases a.ev y <;> simp only [qH] <;> (cases ky P t _ _ <;> rfl)
theorem a6h (t : TypeId) (x y : Operand) : cWp P (⟨d, .index t x y, none⟩ :: r) K a h =
  qH (a.ev x) fun u => qH (a.ev y) fun v => qH (ZT P t u v) fun v => cWp P r K (a.put d v) h := by
 simp only [cWp, qB, z8]; cases a.ev x <;> cases a.ev y <;> simp only [qH] <;> (cases ZT P t _ _ <;> rfl)
theorem a0A (x : Operand) (i : Nat) : cWp P (⟨d, .extract x i, none⟩ :: r) K a h =
  qH (a.ev x) fun u => qH (match u with | .tuple vs => vs[i]? | _ => none) fun v => cWp P r K (a.put d v) h := by
 simp only [cWp, qB, z8]
 cases a.ev x with
 | none => rfl
 | some u => cases u <;> simp only [qH] <;> (split <;> simp_all)
theorem U4 (x : Operand) : cWp P (⟨d, .nilCheck x, none⟩ :: r) K a h =
  qH (a.ev x) fun u => qH (match u with | .pointer (some q) => some (.pointer (some q)) | _ => none) fun v => cWp P r K (a.put d v) h := by
 simp only [cWp, qB, z8]
 cases a.ev x with
 | none => rfl
 | some u => cases u <;> simp only [qH] <;> (first | rfl | (rename_i q; cases q <;> rfl))
theorem a1R (s e : TypeId) (x : Operand) : cWp P (⟨d, .convert s e x, none⟩ :: r) K a h =
  qH (a.ev x) fun u => jG P s e u h (fun v h' => cWp P r K (a.put d v) h') := by
 simp only [cWp, qB]; cases a.ev x <;> rfl
theorem a7y (t : TypeId) (ps : List (Nat × Operand)) : cWp P (⟨d, .build t ps.toArray, none⟩ :: r) K a h =
  qH (match K4 a.ev ps with | some vs => QH P t vs | none => none) fun v => cWp P r K (a.put d v) h := by
 simp only [cWp, qB, z8, qH]; cases K4 a.ev ps <;> simp only <;> (first | rfl | (split <;> simp_all))
theorem Uo (f : FuncId) (xs ys : List Operand) : cWp P (⟨d, .makeFunc (.func f) xs.toArray ys.toArray, none⟩ :: r) K a h =
  qH (match kC a.ev xs, kC a.ev ys with | some u, some v => some (.func (.func f) u.toArray v.toArray) | _, _ => none) fun v => cWp P r K (a.put d v) h := by
 simp only [cWp, qB, z8, Fn.plain, if_true, qH]; cases kC a.ev xs <;> cases kC a.ev ys <;> rfl
theorem a7X (t : TypeId) (x : Operand) (lo hi mx : Option Operand) : cWp P (⟨d, .slice t x lo hi mx, none⟩ :: r) K a h =
  qH (a.ev x) fun u => qH (match jn a.ev lo, jn a.ev hi, jn a.ev mx with | some l, some hh, some m => z9 P (qV P h) t u l hh m | _, _, _ => none) fun v => cWp P r K (a.put d v) h := by
 simp only [cWp, qB, qH]; cases a.ev x <;> cases jn a.ev lo <;> cases jn a.ev hi <;> cases jn a.ev mx <;> simp only <;> (first | rfl | (split <;> simp_all))
def KF (o : Option a8u) (f : AObj → (Nat → Value) → Prop) : Prop := match o with | some (q, mk) => f q mk | none => False
theorem a7P (q : AObj) (mk : Nat → Value) (f : AObj → (Nat → Value) → Prop) : KF (some (q, mk)) f = f q mk := rfl
theorem a2W {o o' : Option a8u} {f : AObj → (Nat → Value) → Prop} (h : o = o') : KF o f = KF o' f := by rw [h]
def aiu (P : Program) (t : TypeId) (v : Value) : Option a8u := if szT P t = some v.cells.size then some (.cells v.cells.toList t true, kH) else none
theorem adi (t : TypeId) (x : Operand) : cWp P (⟨d, .box t x, none⟩ :: r) K a h =
  qH (a.ev x) fun u => KF (aiu P t u) fun q mk => cWp P r K (a.put d (mk h.next)) (h.push q) := by
 simp only [cWp, qB, jp, aiu]; cases a.ev x <;> simp only [qH, KF] <;> (first | rfl | (split <;> split <;> simp_all))
def ae0 (P : Program) (t : TypeId) : Option a8u := match qT P t with | some z => some (.cells z t true, kH) | none => none
theorem a77 (t : TypeId) : cWp P (⟨d, .alloc t, none⟩ :: r) K a h =
  KF (ae0 P t) fun q mk => cWp P r K (a.put d (mk h.next)) (h.push q) := by
 simp only [cWp, qB, jp, ae0, KF]
 rfl
theorem Vg (t : TypeId) (n : Nat) (ps : List (Nat × Operand)) : cWp P (⟨d, .buildSlice t n ps.toArray, none⟩ :: r) K a h =
  KF (match K4 a.ev ps with | some vs => kM P t n vs | none => none) fun q mk => cWp P r K (a.put d (mk h.next)) (h.push q) := by
 simp only [cWp, qB, jp, KF]
 rfl
theorem Xs (t : TypeId) (x y : Operand) : cWp P (⟨d, .makeSlice t x y, none⟩ :: r) K a h =
  qH (a.ev x) fun u => qH (a.ev y) fun v => KF (Q8 P t u v) fun q mk => cWp P r K (a.put d (mk h.next)) (h.push q) := by
 simp only [cWp, qB, jp, qH, KF]; cases a.ev x <;> cases a.ev y <;> rfl
def Yb (o : Option (List Value)) (f : List Value → Prop) : Prop := match o with | some v => f v | none => False
theorem a7L (v : List Value) (f : List Value → Prop) : Yb (some v) f = f v := rfl
theorem a3v {o o' : Option (List Value)} {f : List Value → Prop} (h : o = o') : Yb o f = Yb o' f := by rw [h]
theorem a4g (k : FuncId) (x y : Array Value) (vs : List Value) (R : Value → Heap → Prop) : Zf P (.func (.func k) x y) vs h R = ADoes P k (x.toList ++ vs ++ y.toList) h R := rfl
theorem a9T (f : Operand) (xs : List Operand) (ts : Array TypeId) : cWp P (⟨d, .call ⟨.value f, xs.toArray, ts⟩, none⟩ :: r) K a h =
  qH (a.ev f) fun fv => Yb (kC a.ev xs) fun vs => Zf P fv vs h fun v h' => Vc P r K (a.put d v) h' := by
 simp only [cWp, qB, qH, Yb]; cases a.ev f <;> cases kC a.ev xs <;> rfl
def Yx (o : Option (Value × Heap)) (f : Value → Heap → Prop) : Prop := match o with | some (v, h) => f v h | none => False
theorem a4m (v : Value) (h : Heap) (f : Value → Heap → Prop) : Yx (some (v, h)) f = f v h := rfl
theorem a2I {o o' : Option (Value × Heap)} {f : Value → Heap → Prop} (h : o = o') : Yx o f = Yx o' f := by rw [h]
theorem a4d (x y : Operand) (ts : List TypeId) : cWp P (⟨d, .call ⟨.builtin .append, #[x, y], ts.toArray⟩, none⟩ :: r) K a h =
  qH (a.ev x) fun u => qH (a.ev y) fun v => Yx (kD P ts h u v) fun v h' => cWp P r K (a.put d v) h' := by
 simp only [cWp, qB, kC, qH, Yx]; cases a.ev x <;> cases a.ev y <;> simp only <;> (first | rfl | (split <;> simp_all))
theorem acr (x : Operand) (t : TypeId) : cWp P (⟨d, .call ⟨.builtin .len, #[x], #[t]⟩, none⟩ :: r) K a h =
  qH (a.ev x) fun u => qH (Vz P t h u) fun v => cWp P r K (a.put d v) h := by
 simp only [cWp, qB, kC, qH]; cases a.ev x <;> simp only <;> (first | rfl | (split <;> simp_all))
theorem acW (xs : List Operand) (ts : Array TypeId) : cWp P (⟨d, .call ⟨.builtin .min, xs.toArray, ts⟩, none⟩ :: r) K a h =
  Yb (kC a.ev xs) fun vs => qH (a6z vs) fun v => cWp P r K (a.put d v) h := by
 simp only [cWp, qB, z8, w5, qH, Yb]; cases kC a.ev xs <;> simp only <;> (first | rfl | (split <;> simp_all))
theorem ac9 (xs : List Operand) (ts : Array TypeId) : cWp P (⟨d, .call ⟨.builtin .max, xs.toArray, ts⟩, none⟩ :: r) K a h =
  Yb (kC a.ev xs) fun vs => qH (a6t vs) fun v => cWp P r K (a.put d v) h := by
 simp only [cWp, qB, z8, w5, qH, Yb]; cases kC a.ev xs <;> simp only <;> (first | rfl | (split <;> simp_all))
end
open Go.RowKit
theorem a4k {o o' : Option (List Value)} {Q : Value → Heap → Prop} {h h' : Heap} (ho : o = o') (hh : h = h') : xZ o Q h = xZ o' Q h' := by rw [ho, hh]
theorem a15 {P : Program} {s d : TypeId} {x x' : Value} {h h' : Heap} {K : Value → Heap → Prop} (hx : x = x') (hh : h = h') : jG P s d x h K = jG P s d x' h' K := by rw [hx, hh]
def Xy (f : Func) : Code := f.body.getD .skip
inductive Fr where
 | seq (y : Code)
 | block (id : Nat)
 | loop (K : Frm → Heap → Prop)
def stk (P : Program) : List Fr → (Exit → Frm → Heap → Prop) → Exit → Frm → Heap → Prop
 | [], Q => Q
 | .seq y :: s, Q => kG (QN P y (stk P s Q)) (stk P s Q)
 | .block id :: s, Q => jQ id (stk P s Q)
 | .loop K :: s, Q => kG K (stk P s Q)
section
variable (P : Program) (s : List Fr) (Q : Exit → Frm → Heap → Prop) (a : Frm) (h : Heap)
theorem afx (e : Exit) : stk P [] Q e a h = Q e a h := rfl
theorem agv (y : Code) : stk P (.seq y :: s) Q .normal a h = QN P y (stk P s Q) a h := rfl
theorem a0J (y : Code) (id : Nat) : stk P (.seq y :: s) Q (.exit id) a h = stk P s Q (.exit id) a h := rfl
theorem a2g (y : Code) (l : Nat) : stk P (.seq y :: s) Q (.goto l) a h = stk P s Q (.goto l) a h := rfl
theorem abb (id : Nat) : stk P (.block id :: s) Q .normal a h = stk P s Q .normal a h := rfl
theorem X0 (id id' : Nat) : stk P (.block id :: s) Q (.exit id') a h = if id' = id then stk P s Q .normal a h else stk P s Q (.exit id') a h := rfl
theorem Xj (id l : Nat) : stk P (.block id :: s) Q (.goto l) a h = stk P s Q (.goto l) a h := rfl
theorem aem (K : Frm → Heap → Prop) : stk P (.loop K :: s) Q .normal a h = K a h := rfl
theorem Uz (K : Frm → Heap → Prop) (id : Nat) : stk P (.loop K :: s) Q (.exit id) a h = stk P s Q (.exit id) a h := rfl
theorem uw (K : Frm → Heap → Prop) (l : Nat) : stk P (.loop K :: s) Q (.goto l) a h = stk P s Q (.goto l) a h := rfl
theorem VF : ∀ s, stk P s Q .ret a h = Q .ret a h
 | [] => rfl
 | .seq _ :: s => VF s
 | .block _ :: s => VF s
 | .loop _ :: s => VF s
end
theorem afi (n : Nat) (l : List (Nat × Value)) (t : Nat) : Frm.get ⟨n, l⟩ t = wv t l := rfl
theorem afK (n : Nat) (l : List (Nat × Value)) (t : Nat) (v : Value) : Frm.put ⟨n, l⟩ (some t) v = if t < n then ⟨n, (t, v) :: l⟩ else ⟨n, l⟩ := rfl
theorem a2e (a : Frm) (v : Value) : Frm.put a none v = a := rfl
theorem ahZ (a : Frm) (t : Nat) : a.ev (.tmp t) = a.get t := rfl
theorem agd (a : Frm) (f : FuncId) : a.ev (.func f) = some (.func (.func f) #[] #[]) := rfl
theorem ahe (a : Frm) (k : IntKind) (n : Int) : a.ev (.const (.int k n)) = some (.int k n) := rfl
theorem aga (a : Frm) (b : Bool) : a.ev (.const (.bool b)) = some (.bool b) := rfl
theorem abj (a : Frm) (s : ByteArray) : a.ev (.const (.string s)) = some (.string s) := rfl
theorem aax (a : Frm) : a.ev (.const (.pointer none)) = some (.pointer none) := rfl
theorem a34 (a : Frm) : a.ev (.const (.slice none 0 0)) = some (.slice none 0 0) := rfl
theorem abt (a : Frm) : a.ev (.const (.map none)) = some (.map none) := rfl
theorem a8x (a : Frm) : a.ev (.const .nilFunc) = some .nilFunc := rfl
theorem aac (t t' : Nat) (v : Value) (r : List (Nat × Value)) : wv t ((t', v) :: r) = if t' = t then some v else wv t r := rfl
theorem abR (t : Nat) : wv t [] = none := rfl
theorem aci (k : Nat) : kw k [] = [] := rfl
theorem aai (k : Nat) (v : Value) (l : List Value) : kw k (v :: l) = (k, v) :: kw (k + 1) l := rfl
theorem adG (ρ : Rho) : kC ρ [] = some [] := rfl
theorem aa3 (ρ : Rho) (x : Operand) (l : List Operand) : kC ρ (x :: l) = match ρ x, kC ρ l with | some v, some vs => some (v :: vs) | _, _ => none := rfl
theorem acI (ρ : Rho) : K4 ρ [] = some [] := rfl
theorem aaO (ρ : Rho) (i : Nat) (x : Operand) (l : List (Nat × Operand)) : K4 ρ ((i, x) :: l) = match ρ x, K4 ρ l with | some v, some vs => some ((i, v) :: vs) | _, _ => none := rfl
theorem aa2 (ρ : Rho) : jn ρ none = some none := rfl
theorem a9S (ρ : Rho) (x : Operand) : jn ρ (some x) = (ρ x).map some := rfl
theorem a5d (P : Program) (a : Frm) (h : Heap) : za P a h [] = some [] := rfl
theorem a0X (P : Program) (a : Frm) (h : Heap) (x : ResultVar) (l : List ResultVar) : za P a h (x :: l) = match Qy P a h x, za P a h l with | some v, some vs => some (v :: vs) | _, _ => none := rfl
theorem a63 (P : Program) (a : Frm) (h : Heap) (t : Nat) : Qy P a h (.tmp t) = a.get t := rfl
theorem a5A (P : Program) (a : Frm) (h : Heap) (p : Nat) (t : TypeId) : Qy P a h (.cell p t) = match a.get p with | some v => kJ P t h v | none => none := rfl
theorem adh (v : Value) : jW [v] = v := rfl
theorem ac0 (u v : Value) : jW [u, v] = .tuple #[u, v] := rfl
theorem a8o (u v x : Value) : jW [u, v, x] = .tuple #[u, v, x] := rfl
theorem abv (u v x y : Value) : jW [u, v, x, y] = .tuple #[u, v, x, y] := rfl
theorem aeA : jW [] = .tuple #[] := rfl
theorem adF (t : Nat) (want : Bool) (a : Frm) : zo (some t) want a = VG (a.get t) want := rfl
theorem a2a (b : Bool) : VG (some (.bool b)) true = some b := rfl
theorem uL (b : Bool) : VG (some (.bool b)) false = some (!b) := rfl
theorem a9K (x y : Option Value) : a39 (some (.bool true)) x y = x := rfl
theorem a69 (x y : Option Value) : a39 (some (.bool false)) x y = y := rfl
theorem ace (b : Bool) (u v : Value) : a39 (some (.bool b)) (some u) (some v) = some (if b then u else v) := by cases b <;> rfl
theorem aeW (P : Program) (t : TypeId) (k k' : IntKind) (a b : Int) : qZ P .shl t (.int k a) (.int k' b) = QF .shl k a b := by simp [qZ, zy]
theorem ag0 (P : Program) (t : TypeId) (k k' : IntKind) (a b : Int) : qZ P .shr t (.int k a) (.int k' b) = QF .shr k a b := by simp [qZ, zy]
theorem afY (P : Program) (op : BinOp) (t : TypeId) (a b : ByteArray) : qZ P op t (.string a) (.string b) = Ua op a b := rfl
theorem ags (P : Program) (t : TypeId) (k : IntKind) (a b : Int) : qZ P .add t (.int k a) (.int k b) = some (.int k (k.wrap (a + b))) := by simp [qZ, zy, QK]
theorem aeK (P : Program) (t : TypeId) (k : IntKind) (a b : Int) : qZ P .sub t (.int k a) (.int k b) = some (.int k (k.wrap (a - b))) := by simp [qZ, zy, QK]
theorem afu (P : Program) (t : TypeId) (k : IntKind) (a b : Int) : qZ P .mul t (.int k a) (.int k b) = some (.int k (k.wrap (a * b))) := by simp [qZ, zy, QK]
theorem aeI (P : Program) (t : TypeId) (k : IntKind) (a b : Int) : qZ P .and t (.int k a) (.int k b) = some (.int k (bits .and k a b)) := by simp [qZ, zy, QK]
theorem ahG (P : Program) (t : TypeId) (k : IntKind) (a b : Int) : qZ P .or t (.int k a) (.int k b) = some (.int k (bits .or k a b)) := by simp [qZ, zy, QK]
theorem a6X (P : Program) (t : TypeId) (k : IntKind) (a b : Int) : qZ P .andNot t (.int k a) (.int k b) = some (.int k (bits .andNot k a b)) := by simp [qZ, zy, QK]
theorem af8 (P : Program) (t : TypeId) (k : IntKind) (a b : Int) : qZ P .quo t (.int k a) (.int k b) = if b = 0 then none else some (.int k (k.wrap (a.tdiv b))) := by simp [qZ, zy, QK]
theorem afG (P : Program) (t : TypeId) (k : IntKind) (a b : Int) : qZ P .rem t (.int k a) (.int k b) = if b = 0 then none else some (.int k (a.tmod b)) := by simp [qZ, zy, QK]
theorem ag4 (P : Program) (t : TypeId) (k : IntKind) (a b : Int) : qZ P .eql t (.int k a) (.int k b) = some (.bool (decide (a = b))) := by simp [qZ, zy, QK]; exact Bool.beq_eq_decide_eq _ _
theorem afF (P : Program) (t : TypeId) (k : IntKind) (a b : Int) : qZ P .neq t (.int k a) (.int k b) = some (.bool (decide (¬ a = b))) := by simp [qZ, zy, QK]; rw [bne, Bool.beq_eq_decide_eq]
theorem agm (P : Program) (t : TypeId) (k : IntKind) (a b : Int) : qZ P .lss t (.int k a) (.int k b) = some (.bool (decide (a < b))) := by simp [qZ, zy, QK]
theorem aeT (P : Program) (t : TypeId) (k : IntKind) (a b : Int) : qZ P .leq t (.int k a) (.int k b) = some (.bool (decide (a ≤ b))) := by simp [qZ, zy, QK]
theorem agC (P : Program) (t : TypeId) (k : IntKind) (a b : Int) : qZ P .gtr t (.int k a) (.int k b) = some (.bool (decide (b < a))) := by simp [qZ, zy, QK]
theorem af2 (P : Program) (t : TypeId) (k : IntKind) (a b : Int) : qZ P .geq t (.int k a) (.int k b) = some (.bool (decide (b ≤ a))) := by simp [qZ, zy, QK]
theorem afQ (k : IntKind) (a b : Int) : QF .shl k a b = if b < 0 then none else some (.int k (k.wrap (a * 2 ^ (min b.toNat k.bits)))) := rfl
theorem agI (k : IntKind) (a b : Int) : QF .shr k a b = if b < 0 then none else some (.int k (a.fdiv (2 ^ (min b.toNat k.bits)))) := rfl
theorem ah2 (b : Bool) : unV .not (.bool b) = some (.bool (!b)) := rfl
theorem ahk (k : IntKind) (n : Int) : unV .neg (.int k n) = some (.int k (k.wrap (0 - n))) := rfl
theorem af1 (P : Program) (t : TypeId) (h : Heap) (b i : Nat) : kJ P t h (.pointer (some ⟨b, i, none⟩)) = match h.get b with
 | some (.cells cs _ _) => wy P t cs i
 | _ => none := rfl
theorem adM (P : Program) (t : TypeId) (h : Heap) (b i : Nat) (x : Value) : wm P t h (.pointer (some ⟨b, i, none⟩)) x = match h.get b with
  | some (.cells cs e true) =>
   if szT P t = some x.cells.size ∧ i + x.cells.size ≤ cs.length ∧ x.cells.toList.all Value.oneCell' = true then
    some (h.set b (.cells (qL cs i x.cells.toList) e true))
   else none
  | _ => none := rfl
theorem aa8 (xs : Array Value) : Value.cells (.agg xs) = xs := rfl
theorem abC (k : IntKind) (n : Int) : Value.cells (.int k n) = #[.int k n] := rfl
theorem a7m (b : Bool) : Value.cells (.bool b) = #[.bool b] := rfl
theorem a14 (b : ByteArray) : Value.cells (.string b) = #[.string b] := rfl
theorem aaw (b : Option Addr) : Value.cells (.pointer b) = #[.pointer b] := rfl
theorem a3S (b : Option Addr) (n c : Nat) : Value.cells (.slice b n c) = #[.slice b n c] := rfl
theorem aby (b : Option Nat) : Value.cells (.map b) = #[.map b] := rfl
theorem a7w (f : Fn) (x y : Array Value) : Value.cells (.func f x y) = #[.func f x y] := rfl
theorem afq (k : IntKind) (n : Int) : (Value.int k n).oneCell' = true := rfl
theorem ad1 (n : Bool) : (Value.bool n).oneCell' = true := rfl
theorem a7f (n : ByteArray) : (Value.string n).oneCell' = true := rfl
theorem aeN (b : Option Addr) : (Value.pointer b).oneCell' = true := rfl
theorem a9Q (b : Option Addr) (n c : Nat) : (Value.slice b n c).oneCell' = true := rfl
theorem ag3 (b : Option Nat) : (Value.map b).oneCell' = true := rfl
theorem aeb (f : Fn) (x y : Array Value) : (Value.func f x y).oneCell' = true := rfl
theorem abW (cs : List Value) (i : Nat) : qL cs i [] = cs := rfl
theorem aa6 (cs : List Value) (i : Nat) (v : Value) (r : List Value) : qL cs i (v :: r) = qL (cs.set i v) (i + 1) r := rfl
attribute [go_sem ↓] afA aaA afx agv a0J a2g abb X0 Xj aem Uz uw VF
 a1q a6d a5O a9F uG a3T a4e a5J aaZ a1E a7q
 a8v a7P a7L a4m a6n Xv Vq Vn vq a4g
 abF a5f a9H a60 abe a9J a6k X5 a72 xN a6h a0A U4 a1R a7y Uo a7X adi a77 Vg Xs a9T acr acW ac9
attribute [push_cast] afi afK a2e ahZ agd ahe aga abj aax a34 abt a8x aac abR aci aai adG aa3 acI aaO aa2 a9S a5d a0X a63 a5A adh ac0 a8o abv aeA adF a2a uL a9K a69 ace afY ags aeK afu aeI ahG a6X af8 afG ag4 afF agm aeT agC af2 aeW ag0 afQ agI ah2 ahk af1 adM aa8 abC a7m a14 aaw a3S aby a7w afq ad1 a7f aeN a9Q ag3 aeb abW aa6 Option.map_some Option.map_none if_true if_false ite_self List.length_cons List.length_nil List.getElem?_cons_zero List.getElem?_cons_succ List.getElem?_nil Option.some.injEq
attribute [congr] a3V a2W a3v a2I a3g a0U uO a4k a15
end Go.Sim

/- Maps: keys, places, what is found. -/
import Derived.Test.YtonejeaomblpiaaGreatA8
import Derived.MapKept
import Derived.WideKeyRuns
set_option linter.unusedSimpArgs false
set_option linter.unusedVariables false
set_option linter.defProp false
namespace Go.Sim
open Go.RowKit Go.MapKept

/-- A value without addresses, an aggregate of such ones too. -/
def constK : Value → Bool
  | .agg xs => xs.toList.all constOk
  | v => constOk v
theorem VRel.of_const {β : Place} {v mv : Value} (h : constOk v = true) (hv : VRel β v mv) : mv = v := by
  cases hv with
  | @tuple xs xs' hx _ =>
    have h1 : xs = #[] := by simpa [constOk] using h
    subst h1
    have h2 : xs' = #[] := Array.size_eq_zero_iff.1 (by simpa using hx.symm)
    rw [h2]
  | _ => first | rfl | (simp [constOk] at h)
theorem VRels.of_const {β : Place} : ∀ {l l' : List Value}, l.all constOk = true → VRels β l l' → l' = l
  | _, _, _, .nil => rfl
  | _, _, h, .cons hv t => by
    simp only [List.all_cons, Bool.and_eq_true] at h
    rw [hv.of_const h.1, VRels.of_const h.2 t]
theorem VRel.constK {β : Place} {v : Value} (h : constK v = true) : VRel β v v := by
  cases v <;> first | exact VRel.const h | skip
  rename_i xs
  exact VRel.agg_iff.2 ⟨xs, rfl, VRels.const h⟩
theorem VRel.of_constK {β : Place} {v mv : Value} (h : Sim.constK v = true) (hv : VRel β v mv) : mv = v := by
  cases v <;> first | exact hv.of_const h | skip
  obtain ⟨xs', rfl, r⟩ := VRel.agg_iff.1 hv
  have := VRels.of_const h r
  congr 1
  apply Array.ext'
  exact this
def simpleK : TypeDesc → Bool
  | .int _ => true
  | .string => true
  | .bool => true
  | _ => false
/-- Is one key another one? -/
def keyEqV (P : Program) (kt : TypeId) (x y : Value) : Option Bool :=
  match P.underlying kt with
  | some (.struct fs) => eqV P 10000 kt x y
  | some D => if simpleK D then Instr.sameNow D x y else none
  | none => none
/-- At which place a key stands; the outer none: that isn't known. -/
def findV (P : Program) (kt : TypeId) (k : Value) : List MapEntry → Nat → Option (Option (Nat × Value))
  | [], _ => some none
  | e :: es, i =>
    match keyEqV P kt k e.key with
    | some true => some (some (i, e.val))
    | some false => findV P kt k es (i + 1)
    | none => none
/-- May a value be a key? -/
def okKeyV (P : Program) (kt : TypeId) (k : Value) : Bool :=
  match P.underlying kt, k with
  | some (.int _), .int _ _ => constK k
  | some .string, .string _ => constK k
  | some .bool, .bool _ => constK k
  | some (.struct fs), .agg xs => constK k && fs.toList.all fun f => f.name == "_" || (match P.underlying f.type with
    | some D => simpleK D && (partV P f.type xs.toList f.offset).isSome
    | none => false)
  | _, _ => false

theorem okKey_constK {P : Program} {kt : TypeId} {k : Value} (h : okKeyV P kt k = true) : constK k = true := by
  unfold okKeyV at h
  split at h <;> first | exact h | (simp at h; exact h.1) | cases h
theorem run_check {P : Program} {kt : TypeId} {k : Value} (h : okKeyV P kt k = true) (em : Bool) (w : World) : (Instr.checkKey em 10000 kt k).run P w = .ok () w := by
  have simple : ∀ (n : Nat) (t : TypeId) (D : TypeDesc) (v : Value), P.underlying t = some D → simpleK D = true → (Instr.checkKey em (n + 1) t v).run P w = .ok () w := by
    intro n t D v hu hs
    unfold Instr.checkKey
    simp only [Sem.run_bind, run_underlying hu, Result.andThen_ok]
    cases D <;> simp [simpleK] at hs <;> cases v <;> rfl
  unfold okKeyV at h
  split at h
  · rename_i hu; exact simple 9999 kt _ _ hu rfl
  · rename_i hu; exact simple 9999 kt _ _ hu rfl
  · rename_i hu; exact simple 9999 kt _ _ hu rfl
  · rename_i fs xs hu
    simp only [Bool.and_eq_true] at h
    obtain ⟨hc, hf⟩ := h
    have hx : VRel (fun _ => none) (.agg xs) (.agg xs) := VRel.constK hc
    obtain ⟨mxs, e1, rx⟩ := VRel.agg_iff.1 hx
    cases e1
    show (Instr.checkKey em (9999 + 1) kt (.agg xs)).run P w = .ok () w
    unfold Instr.checkKey
    simp only [Sem.run_bind, run_underlying hu, Result.andThen_ok]
    rw [← Array.forIn_toList]
    clear hu hx hc
    generalize fs.toList = L at hf
    induction L with
    | nil => simp
    | cons f L ih =>
      simp only [List.all_cons, Bool.and_eq_true, Bool.or_eq_true, beq_iff_eq] at hf
      obtain ⟨h1, h2⟩ := hf
      by_cases hn : f.name = "_"
      · simp only [List.forIn_cons, Sem.run_bind, hn, ne_eq, not_true_eq_false, if_false, Sem.run_pure, Result.andThen_ok]
        exact ih h2
      · rcases h1 with h1 | h1
        · exact absurd h1 hn
        · cases hD : P.underlying f.type with
          | none => simp [hD] at h1
          | some D =>
            simp only [hD, Bool.and_eq_true] at h1
            obtain ⟨v, hv⟩ := Option.isSome_iff_exists.1 h1.2
            obtain ⟨mv, ep, _⟩ := partV_sound rx hv w
            have ec := simple 9998 f.type D mv hD h1.1
            simp only [List.forIn_cons, Sem.run_bind, hn, ne_eq, not_false_eq_true, if_true, ep, Result.andThen_ok, ec, Sem.run_pure]
            exact ih h2
  · cases h

theorem ERels.length {β : Place} {l l' : List MapEntry} (h : ERels β l l') : l.length = l'.length := by
  induction h with
  | nil => rfl
  | cons _ _ _ ih => simp [ih]

/-- How a finding and the machine's stand to each other. -/
def FRel (β : Place) (i n : Nat) : Option (Nat × Value) → Option (Nat × Value) → Prop
  | none, none => True
  | some (j, v), some (j', v') => j = j' ∧ i ≤ j ∧ j < i + n ∧ VRel β v v'
  | _, _ => False
theorem FRel.next {β : Place} {i n : Nat} {a b : Option (Nat × Value)} (h : FRel β (i + 1) n a b) : FRel β i (n + 1) a b := by
  cases a with
  | none => cases b with
    | none => trivial
    | some b => exact h.elim
  | some a =>
    cases b with
    | none => exact h.elim
    | some b =>
      obtain ⟨h1, h2, h3, h4⟩ := h
      exact ⟨h1, by omega, by omega, h4⟩
theorem find_now {P : Program} {β : Place} {kt : TypeId} {D : TypeDesc} {k : Value} (hu : P.underlying kt = some D) (hs : simpleK D = true) : ∀ {es mes : List MapEntry} (i : Nat) {r : Option (Nat × Value)}, ERels β es mes → findV P kt k es i = some r →
    ∃ mr, Instr.findNow D k mes i = some mr ∧ FRel β i es.length r mr
  | [], _, i, r, .nil, h => by
    simp only [findV, Option.some.injEq] at h
    subst h
    exact ⟨none, rfl, trivial⟩
  | _ :: _, _, i, r, .cons (k := k2) (v := v) (v' := v') (n := n) hk hv t, h => by
    have hn : ∀ fs, D ≠ .struct fs := by rintro fs rfl; simp [simpleK] at hs
    have hq : keyEqV P kt k k2 = Instr.sameNow D k k2 := by
      unfold keyEqV
      rw [hu]
      cases D <;> simp [simpleK] at hs <;> simp [simpleK]
    simp only [findV, hq] at h
    simp only [Instr.findNow]
    cases hsn : Instr.sameNow D k k2 with
    | none => simp [hsn] at h
    | some b =>
      rw [hsn] at h
      cases b
      · obtain ⟨mr, e1, e2⟩ := find_now hu hs (i + 1) t h
        exact ⟨mr, e1, e2.next⟩
      · simp only [Option.some.injEq] at h
        subst h
        exact ⟨_, rfl, rfl, Nat.le_refl _, by simp, hv⟩
theorem find_asking {P : Program} {β : Place} {kt : TypeId} {fs : Array Field} {k : Value} (hu : P.underlying kt = some (.struct fs)) (hk : VRel β k k) (w : World) : ∀ {es mes : List MapEntry} (i : Nat) {r : Option (Nat × Value)}, ERels β es mes → findV P kt k es i = some r →
    ∃ mr, (Instr.findAsking kt k mes i).run P w = .ok mr w ∧ FRel β i es.length r mr
  | [], _, i, r, .nil, h => by
    simp only [findV, Option.some.injEq] at h
    subst h
    exact ⟨none, by simp [Instr.findAsking], trivial⟩
  | _ :: _, _, i, r, .cons (k := k2) (v := v) (v' := v') (n := n) hk2 hv t, h => by
    have hq : keyEqV P kt k k2 = eqV P 10000 kt k k2 := by unfold keyEqV; rw [hu]
    simp only [findV, hq] at h
    cases hsn : eqV P 10000 kt k k2 with
    | none => simp [hsn] at h
    | some b =>
      have he := eqV_sound (P := P) 10000 hk hk2 hsn w
      rw [hsn] at h
      have heq : (Op.equal kt k k2).run P w = .ok b w := by simpa [Op.equal, Op.maxDepth] using he
      cases b
      · obtain ⟨mr, e1, e2⟩ := find_asking hu hk w (i + 1) t h
        exact ⟨mr, by simp only [Instr.findAsking, Sem.run_bind, heq, Result.andThen_ok, Bool.false_eq_true, if_false, e1], e2.next⟩
      · simp only [Option.some.injEq] at h
        subst h
        exact ⟨some (i, v'), by simp only [Instr.findAsking, Sem.run_bind, heq, Result.andThen_ok, if_true, Sem.run_pure], rfl, Nat.le_refl _, by simp, hv⟩
/-- What the machine finds. -/
theorem run_find {P : Program} {β : Place} {kt : TypeId} {k : Value} {es mes : List MapEntry} {r : Option (Nat × Value)} (hok : okKeyV P kt k = true) (hk : VRel β k k) (he : ERels β es mes) (h : findV P kt k es 0 = some r) (w : World) :
    ∃ mr, (Instr.findKey kt k mes).run P w = .ok mr w ∧ FRel β 0 es.length r mr := by
  unfold okKeyV at hok
  split at hok
  · rename_i hu
    obtain ⟨mr, e1, e2⟩ := find_now hu rfl 0 he h
    exact ⟨mr, run_findKey hu e1, e2⟩
  · rename_i hu
    obtain ⟨mr, e1, e2⟩ := find_now hu rfl 0 he h
    exact ⟨mr, run_findKey hu e1, e2⟩
  · rename_i hu
    obtain ⟨mr, e1, e2⟩ := find_now hu rfl 0 he h
    exact ⟨mr, run_findKey hu e1, e2⟩
  · rename_i fs xs hu
    obtain ⟨mr, e1, e2⟩ := find_asking hu hk w 0 he h
    exact ⟨mr, by rw [run_findKey_eq (P := P) (w := w) (k := kt) (by rw [hu]) (.agg xs) mes]; exact e1, e2⟩
  · cases hok

theorem getMap {P : Program} {w : World} {r : Nat} {es : Array MapEntry} {clock : Nat} (hb : w.heap[r]? = some (.map es clock)) : (getObj r).run P w = .ok (.map es clock) w := by
  simp [getObj, Sem.run, hb]
theorem setMapObj {P : Program} {w : World} {r : Nat} {es : Array MapEntry} {clock : Nat} (o : Obj) (hb : w.heap[r]? = some (.map es clock)) : (setObj r o).run P w = .ok () { w with heap := w.heap.setIfInBounds r o } := by
  simp [setObj, Sem.run, hb]
/-! ### The operations -/
def entriesV (h : Heap) (m : Value) : Option (List MapEntry) :=
  match m with
  | .map none => some []
  | .map (some r) => match h.get r with
    | some (.map es _) => some es
    | _ => none
  | _ => none
def lookupV (P : Program) (t : TypeId) (h : Heap) (m k : Value) (ok : Bool) : Option Value :=
  match P.underlying t, entriesV h m with
  | some (.map kt et), some es =>
    if okKeyV P kt k = true then
      match findV P kt k es 0 with
      | some (some (_, v)) => some (if ok then .tuple #[v, .bool true] else v)
      | some none => match (P.info? et).bind (·.zero) with
        | some z => if constK z = true then some (if ok then .tuple #[z, .bool false] else z) else none
        | none => none
      | none => none
    else none
  | _, _ => none
theorem lookupV_sound {P : Program} {β : Place} {h : Heap} {w : World} {t : TypeId} {m mm k mk : Value} {ok : Bool} {v : Value} (hr : Rel P β h w) (hm : VRel β m mm) (hk : VRel β k mk) (hl : lookupV P t h m k ok = some v) :
    ∃ mv, (Instr.lookup t mm mk ok).run P w = .ok mv w ∧ VRel β v mv := by
  unfold lookupV at hl
  split at hl
  · rename_i kt et es hu hes
    split at hl
    · rename_i hok
      obtain rfl := hk.of_constK (okKey_constK hok)
      have fin : ∀ mes : Array MapEntry, ERels β es mes.toList → (∃ mv, ((do
            Instr.checkKey mes.isEmpty 10000 kt mk
            let (v, ok') ← match ← Instr.findKey kt mk mes.toList with
              | some (_, v) => pure (v, true)
              | none => pure (← zeroValue et, false)
            pure (if ok then .tuple #[v, .bool ok'] else v) : Sem Value)).run P w = .ok mv w ∧ VRel β v mv) := by
        intro mes hE
        have hc := run_check hok mes.isEmpty w
        split at hl
        · rename_i i v1 hf
          cases hl
          obtain ⟨mr, e1, e2⟩ := run_find hok hk hE hf w
          cases mr with
          | none => exact e2.elim
          | some p =>
            obtain ⟨j, v'⟩ := p
            obtain ⟨_, _, _, hv'⟩ := e2
            refine ⟨_, by simp only [Sem.run_bind, hc, e1, Result.andThen_ok, Sem.run_pure]; rfl, ?_⟩
            cases ok
            · exact hv'
            · exact VRel.tuple_iff.2 ⟨_, rfl, .cons hv' (.cons (.bool true) .nil)⟩
        · rename_i hf
          obtain ⟨mr, e1, e2⟩ := run_find hok hk hE hf w
          cases mr with
          | some p => exact e2.elim
          | none =>
            split at hl
            · rename_i z hz
              split at hl
              · rename_i hcz
                cases hl
                cases hi : P.info? et with
                | none => rw [hi] at hz; cases hz
                | some i =>
                  rw [hi] at hz
                  have hzv : (zeroValue et).run P w = .ok z w := by
                    have : i.zero = some z := hz
                    simp [zeroValue, typeInfo, hi, this]
                  have hz' := VRel.constK (β := β) hcz
                  refine ⟨_, by simp only [Sem.run_bind, hc, e1, Result.andThen_ok, Sem.run_pure, hzv]; rfl, ?_⟩
                  cases ok
                  · exact hz'
                  · exact VRel.tuple_iff.2 ⟨_, rfl, .cons hz' (.cons (.bool false) .nil)⟩
              · cases hl
            · cases hl
        · cases hl
      unfold entriesV at hes
      split at hes
      · cases hes
        cases hm
        obtain ⟨mv, e, r⟩ := fin #[] .nil
        refine ⟨mv, ?_, r⟩
        rw [← e]
        unfold Instr.lookup
        simp only [Sem.run_bind, run_underlying hu, Result.andThen_ok, Sem.run_pure]
        rfl
      · rename_i b
        split at hes
        · rename_i es' ck hg
          cases hes
          cases hm with
          | @map _ m s hb =>
            obtain ⟨mes, hh, hE⟩ := hr.obj _ _ _ _ hb hg
            obtain ⟨mv, e, r⟩ := fin mes hE
            refine ⟨mv, ?_, r⟩
            rw [← e]
            unfold Instr.lookup
            simp only [Sem.run_bind, run_underlying hu, Result.andThen_ok, Sem.run_pure, getMap hh]
            rfl
        · cases hes
      · cases hes
    · cases hl
  · cases hl
end Go.Sim
namespace Go.Sim
open Go.RowKit
/-! ### Writing -/
theorem heapset_at {w : World} {r : Nat} {o o' : Obj} (hb : w.heap[r]? = some o) : (w.heap.setIfInBounds r o')[r]? = some o' ∧ ∀ r', r' ≠ r → (w.heap.setIfInBounds r o')[r']? = w.heap[r']? := by
  have hlt : r < w.heap.size := (Array.getElem?_eq_some_iff.1 hb).1
  exact ⟨by simp [hlt], fun r' hne => by simp [Ne.symm hne]⟩
/-- The map with an entry more, or another one in its place. -/
def putV (es : List MapEntry) (clock : Nat) (k v : Value) (r : Option (Nat × Value)) : List MapEntry × Nat :=
  match r with
  | some (i, _) => (es.modify i fun e => { e with key := k, val := v }, clock)
  | none => (es ++ [⟨k, v, clock⟩], clock + 1)
/-- Does the key that stands there stay the same to the bit? -/
def staysV (es : List MapEntry) (k : Value) : Option (Nat × Value) → Bool
  | some (i, _) => match es[i]? with
    | some e => Instr.sameBits 10000 e.key k
    | none => false
  | none => true
def mapPutV (P : Program) (t : TypeId) (h : Heap) (m k v : Value) : Option Heap :=
  match P.underlying t, m with
  | some (.map kt _), .map (some r) =>
    match h.get r with
    | some (.map es ck) =>
      if okKeyV P kt k = true then
        match findV P kt k es 0 with
        | some f =>
          if staysV es k f = true then
            some (h.set r (.map (putV es ck k v f).1 (putV es ck k v f).2))
          else none
        | none => none
      else none
    | _ => none
  | _, _ => none
theorem ERels.modify {β : Place} {k v v' : Value} (hk : VRel β k k) (hv : VRel β v v') : ∀ {es mes : List MapEntry} (i : Nat), ERels β es mes → ERels β (es.modify i fun e => { e with key := k, val := v }) (mes.modify i fun e => { e with key := k, val := v' })
  | _, _, i, .nil => by cases i <;> exact .nil
  | _, _, 0, .cons _ _ t => .cons hk hv t
  | _, _, i + 1, .cons h1 h2 t => .cons h1 h2 (ERels.modify hk hv i t)
theorem ERels.snoc {β : Place} {k v v' : Value} {n : Nat} (hk : VRel β k k) (hv : VRel β v v') : ∀ {es mes : List MapEntry}, ERels β es mes → ERels β (es ++ [⟨k, v, n⟩]) (mes ++ [⟨k, v', n⟩])
  | _, _, .nil => .cons hk hv .nil
  | _, _, .cons h1 h2 t => .cons h1 h2 (ERels.snoc hk hv t)
theorem ERels.at {β : Place} : ∀ {es mes : List MapEntry} (i : Nat) {e : MapEntry}, ERels β es mes → es[i]? = some e → ∃ e', mes[i]? = some e' ∧ e'.key = e.key ∧ e'.born = e.born ∧ VRel β e.val e'.val
  | _, _, i, e, .nil, h => by simp at h
  | _, _, 0, e, .cons h1 h2 t, h => by simp at h; subst h; exact ⟨_, rfl, rfl, rfl, h2⟩
  | _, _, i + 1, e, .cons h1 h2 t, h => by simpa using ERels.at i t (by simpa using h)
theorem ERels.erase {β : Place} : ∀ {es mes : List MapEntry} (i : Nat), ERels β es mes → ERels β (es.eraseIdx i) (mes.eraseIdx i)
  | _, _, i, .nil => by cases i <;> exact .nil
  | _, _, 0, .cons _ _ t => t
  | _, _, i + 1, .cons h1 h2 t => .cons h1 h2 (ERels.erase i t)

/-- A map's block is set. -/
theorem Rel.setMap {P : Program} {β : Place} {h : Heap} {w : World} {r m : Nat} {s : Sh} {es es' : List MapEntry} {ck ck' : Nat} {mes' : Array MapEntry} {mo : Obj} (hr : Rel P β h w) (hb : β r = some (m, s)) (hg : h.get r = some (.map es ck)) (hm : w.heap[m]? = some mo)
    (hE : ERels β es' mes'.toList) : Rel P β (h.set r (.map es' ck')) { w with heap := w.heap.setIfInBounds m (.map mes' ck') } ∧ Step β h w β (h.set r (.map es' ck')) { w with heap := w.heap.setIfInBounds m (.map mes' ck') } := by
  obtain ⟨h1, h2⟩ := heapset_at (o' := .map mes' ck') hm
  exact hr.update hb hg rfl rfl (by simp) h2 rfl rfl rfl ⟨mes', h1, hE⟩

theorem mapPutV_sound {P : Program} {β : Place} {h h' : Heap} {w : World} {t : TypeId} {m mm k mk v mv : Value} (hr : Rel P β h w) (hm : VRel β m mm) (hk : VRel β k mk) (hv : VRel β v mv) (hp : mapPutV P t h m k v = some h') :
    ∃ w', (Instr.mapUpdate t mm mk mv).run P w = .ok () w' ∧ Rel P β h' w' ∧ Step β h w β h' w' := by
  unfold mapPutV at hp
  split at hp
  · rename_i kt et b hu
    split at hp
    · rename_i es ck hg
      split at hp
      · rename_i hok
        obtain rfl := hk.of_constK (okKey_constK hok)
        split at hp
        · rename_i f hf
          split at hp
          · rename_i hs
            cases hp
            cases hm with
            | @map _ mb s hb =>
              obtain ⟨mes, hh, hE⟩ := hr.obj _ _ _ _ hb hg
              have hc := run_check hok false w
              obtain ⟨mr, e1, e2⟩ := run_find hok hk hE hf w
              have start : ∀ (w' : World) (x : Sem Unit), x.run P w = .ok () w' → ((match mr with
                  | some (i, _) => do
                    let key ← Instr.keyThatStays (((mes[i]?).map (·.key)).getD mk) mk
                    setObj mb (.map (mes.modify i fun e => { e with key, val := mv }) ck)
                  | none => setObj mb (.map (mes.push { key := mk, val := mv, born := ck }) (ck + 1)) : Sem Unit)).run P w = x.run P w →
                  (Instr.mapUpdate t (.map (some mb)) mk mv).run P w = .ok () w' := by
                intro w' x h1 h2
                unfold Instr.mapUpdate
                simp only [Sem.run_bind, run_underlying hu, Result.andThen_ok, getMap hh, hc, e1]
                rw [← h1, ← h2]
                cases mr <;> rfl
              cases f with
              | none =>
                cases mr with
                | some p => exact e2.elim
                | none =>
                  obtain ⟨r1, st⟩ := hr.setMap (es' := (putV es ck mk v none).1) (ck' := ck + 1) (mes' := mes.push { key := mk, val := mv, born := ck }) hb hg hh (by
                    simp only [putV, Array.toList_push]
                    exact ERels.snoc hk hv hE)
                  exact ⟨_, start _ (setObj mb (.map (mes.push { key := mk, val := mv, born := ck }) (ck + 1))) (setMapObj _ hh) rfl, r1, st⟩
              | some p =>
                obtain ⟨i, v0⟩ := p
                cases mr with
                | none => exact e2.elim
                | some p' =>
                  obtain ⟨j, v0'⟩ := p'
                  obtain ⟨rfl, _, hlt, _⟩ := e2
                  have he : ∃ e, es[i]? = some e := ⟨_, List.getElem?_eq_getElem (by omega)⟩
                  obtain ⟨e, he⟩ := he
                  obtain ⟨e', hme, hkey, _, _⟩ := ERels.at i hE he
                  simp only [staysV, he] at hs
                  have hst : (Instr.keyThatStays (((mes[i]?).map (·.key)).getD mk) mk).run P w = .ok mk w := by
                    have : mes[i]? = some e' := by simpa using hme
                    unfold Instr.keyThatStays
                    simp only [this, Option.map_some, Option.getD_some, hkey, hs, if_true, Sem.run_pure]
                  obtain ⟨r1, st⟩ := hr.setMap (es' := (putV es ck mk v (some (i, v0))).1) (ck' := ck) (mes' := mes.modify i fun e => { e with key := mk, val := mv }) hb hg hh (by
                    simp only [putV, Array.toList_modify]
                    exact ERels.modify hk hv i hE)
                  refine ⟨_, start _ (setObj mb (.map (mes.modify i fun e => { e with key := mk, val := mv }) ck)) (setMapObj _ hh) ?_, r1, st⟩
                  simp only [Sem.run_bind, hst, Result.andThen_ok]
          · cases hp
        · cases hp
      · cases hp
    · cases hp
  · cases hp

def mapDelV (P : Program) (t : TypeId) (h : Heap) (m k : Value) : Option Heap :=
  match P.underlying t, m with
  | some (.map kt _), .map none => if okKeyV P kt k = true then some h else none
  | some (.map kt _), .map (some r) =>
    match h.get r with
    | some (.map es ck) =>
      if okKeyV P kt k = true then
        match findV P kt k es 0 with
        | some (some (i, _)) => some (h.set r (.map (es.eraseIdx i) ck))
        | some none => some (h.set r (.map es ck))
        | none => none
      else none
    | _ => none
  | _, _ => none
theorem mapDelV_sound {P : Program} {β : Place} {h h' : Heap} {w : World} {t ty : TypeId} {m mm k mk : Value} (hr : Rel P β h w) (hm : VRel β m mm) (hk : VRel β k mk) {ts : Array TypeId} (ht : ts[0]? = some t) (hp : mapDelV P t h m k = some h') :
    ∃ w', (Builtin.delete_ ts ty #[mm, mk]).run P w = .ok (.tuple #[]) w' ∧ Rel P β h' w' ∧ Step β h w β h' w' := by
  unfold mapDelV at hp
  split at hp
  · rename_i kt et hu
    split at hp
    · rename_i hok
      cases hp
      cases hm
      obtain rfl := hk.of_constK (okKey_constK hok)
      refine ⟨w, ?_, hr, Step.refl _ _ _⟩
      unfold Builtin.delete_
      simp [ht, run_underlying hu, run_check hok]
    · cases hp
  · rename_i kt et b hu
    split at hp
    · rename_i es ck hg
      split at hp
      · rename_i hok
        obtain rfl := hk.of_constK (okKey_constK hok)
        cases hm with
        | @map _ mb s hb =>
          obtain ⟨mes, hh, hE⟩ := hr.obj _ _ _ _ hb hg
          have hc := run_check hok mes.isEmpty w
          split at hp
          · rename_i i v hf
            cases hp
            obtain ⟨mr, e1, e2⟩ := run_find hok hk hE hf w
            cases mr with
            | none => exact e2.elim
            | some p =>
              obtain ⟨j, v'⟩ := p
              obtain ⟨rfl, _, _, _⟩ := e2
              obtain ⟨r1, st⟩ := hr.setMap (es' := es.eraseIdx i) (ck' := ck) (mes' := mes.eraseIdxIfInBounds i) hb hg hh (by
                simp only [Array.toList_eraseIdxIfInBounds]
                exact ERels.erase i hE)
              refine ⟨_, ?_, r1, st⟩
              unfold Builtin.delete_
              simp [ht, run_underlying hu, getMap hh, hc, e1, setMapObj _ hh]
          · rename_i hf
            cases hp
            obtain ⟨mr, e1, e2⟩ := run_find hok hk hE hf w
            cases mr with
            | some p => exact e2.elim
            | none =>
              obtain ⟨r1, st⟩ := hr.setMap (es' := es) (ck' := ck) (mes' := mes) hb hg hh hE
              refine ⟨_, ?_, r1, st⟩
              unfold Builtin.delete_
              simp [ht, run_underlying hu, getMap hh, hc, e1, setMapObj _ hh]
          · cases hp
      · cases hp
    · cases hp
  · cases hp
end Go.Sim

/- Regions that draw their order: what an operation sees are its operands. -/
import Derived.Test.YtonejeaomblpiaaGreatA12
set_option linter.unusedSimpArgs false
set_option linter.unusedVariables false
set_option linter.defProp false
namespace Go.Sim
open Go.RowKit

theorem allV_ext {ρ ρ' : Rho} : ∀ {l : List Operand}, (∀ x ∈ l, ρ x = ρ' x) → allV ρ l = allV ρ' l
  | [], _ => rfl
  | x :: l, h => by
    have h1 := h x (by simp)
    have h2 := allV_ext (l := l) fun y hy => h y (by simp [hy])
    simp only [allV, h1, h2]
theorem allP_ext {ρ ρ' : Rho} : ∀ {l : List (Nat × Operand)}, (∀ x ∈ l.map (·.2), ρ x = ρ' x) → allP ρ l = allP ρ' l
  | [], _ => rfl
  | (i, x) :: l, h => by
    have h1 := h x (by simp)
    have h2 := allP_ext (l := l) fun y hy => h y (by simp only [List.map_cons, List.mem_cons]; exact .inr hy)
    simp only [allP, h1, h2]
theorem optV_ext {ρ ρ' : Rho} {x : Option Operand} (h : ∀ y ∈ x.toList, ρ y = ρ' y) : optV ρ x = optV ρ' x := by
  cases x with
  | none => rfl
  | some x => simp only [optV, h x (by simp)]

theorem pureV_ext {P : Program} {o : Op} {ρ ρ' : Rho} (h : ∀ x ∈ o.operands, ρ x = ρ' x) : pureV P o ρ = pureV P o ρ' := by
  cases o <;> simp only [Op.operands] at h <;> simp only [pureV]
  case move x => exact h x (by simp)
  case assign x => exact h x (by simp)
  case pick c a b => rw [h c (by simp), h a (by simp), h b (by simp)]
  case build t ps => rw [allP_ext fun x hx => h x (by simpa using hx)]
  case field t x f => rw [h x (by simp)]
  case fieldAddr t x f => rw [h x (by simp)]
  case unOp op t x => rw [h x (by simp)]
  case binOp op t x y t' => rw [h x (by simp), h y (by simp)]
  case convert s d x => rw [h x (by simp)]
  case makeFunc fn xs ys => rw [allV_ext (l := xs.toList) fun x hx => h x (by simp at hx ⊢; exact .inl hx), allV_ext (l := ys.toList) fun x hx => h x (by simp at hx ⊢; exact .inr hx)]
  case indexAddr t x i => rw [h x (by simp), h i (by simp)]
  case index t x i => rw [h x (by simp), h i (by simp)]
  case extract x i => rw [h x (by simp)]
  case nilCheck x => rw [h x (by simp)]
  case call c =>
    obtain ⟨cal, args, ts⟩ := c
    cases cal with
    | builtin b => simp only [pureV]; rw [allV_ext (l := args.toList) fun x hx => h x (by simp [Call.operands] at hx ⊢; exact hx)]
    | value f => rfl
    | invoke r n => rfl

/-- What an operation that doesn't act answers, and reads. -/
def readV (P : Program) (o : Op) (ρ : Rho) (h : Heap) : Option Value :=
  match o with
  | .load t x => match ρ x with
    | some p => loadV P t h p
    | none => none
  | .slice t x lo hi mx => match ρ x, optV ρ lo, optV ρ hi, optV ρ mx with
    | some v, some l, some hh, some m => sliceV P (elemSz P h) t v l hh m
    | _, _, _, _ => none
  | .convert s d x => match P.underlying s, P.underlying d, ρ x with
    | some (.slice e), some .string, some v => if P.underlying e matches some (.int .u8) then bytesStrV h v else none
    | _, _, _ => pureV P (.convert s d x) ρ
  | .call { callee := .builtin .len, args := args, argTypes := ts } => match allV ρ args.toList, ts.toList with
    | some [x], [t] => lenH P t h x
    | _, _ => none
  | o => pureV P o ρ

theorem readV_ext {P : Program} {o : Op} {ρ ρ' : Rho} {h : Heap} (hx : ∀ x ∈ o.operands, ρ x = ρ' x) : readV P o ρ h = readV P o ρ' h := by
  have hp := pureV_ext (P := P) hx
  cases o <;> simp only [readV] <;> first | exact hp | skip
  case load t x => rw [hx x (by simp [Op.operands])]
  case slice t x lo hi mx =>
    rw [hx x (by simp [Op.operands]), optV_ext (x := lo) fun y hy => hx y (by simp [Op.operands] at hy ⊢; simp [hy]), optV_ext (x := hi) fun y hy => hx y (by simp [Op.operands] at hy ⊢; simp [hy]), optV_ext (x := mx) fun y hy => hx y (by simp [Op.operands] at hy ⊢; simp [hy])]
  case convert s d x => rw [hx x (by simp [Op.operands]), hp]
  case call c =>
    obtain ⟨cal, args, ts⟩ := c
    cases cal with
    | builtin b =>
      have ha := allV_ext (ρ := ρ) (ρ' := ρ') (l := args.toList) fun x hy => hx x (by simp [Op.operands, Call.operands] at hy ⊢; exact hy)
      cases b <;> simp only [readV] <;> first | exact hp | rw [ha]
    | value f => exact hp
    | invoke r n => exact hp

theorem newV_ext {P : Program} {o : Op} {ρ ρ' : Rho} (hx : ∀ x ∈ o.operands, ρ x = ρ' x) : newV P o ρ = newV P o ρ' := by
  cases o <;> simp only [newV]
  case box t x => rw [hx x (by simp [Op.operands])]
  case buildSlice t n ps => rw [allP_ext fun x hy => hx x (by simpa [Op.operands] using hy)]
  case makeSlice t l c => rw [hx l (by simp [Op.operands]), hx c (by simp [Op.operands])]
  case makeMap t r => cases r <;> rfl
  case convert s d x => rw [hx x (by simp [Op.operands])]
  case makeChan t s => rw [hx s (by simp [Op.operands])]

theorem selWp_ext {P : Program} {s : SelectCase} {ρ ρ' : Rho} {h : Heap} {K : Value → Heap → Prop} (h1 : ρ s.chan = ρ' s.chan) (h2 : ∀ x, s.send = some x → ρ x = ρ' x) : selWp P s ρ h K = selWp P s ρ' h K := by
  unfold selWp
  rw [h1]
  cases hs : s.send with
  | none => rfl
  | some x => simp only [h2 x hs]
theorem opWp_ext {P : Program} {o : Op} {ρ ρ' : Rho} {h : Heap} {K : Value → Heap → Prop} (hx : ∀ x ∈ o.operands, ρ x = ρ' x) : opWp P o ρ h K = opWp P o ρ' h K := by
  have hp := pureV_ext (P := P) hx
  have hn := newV_ext (P := P) hx
  cases o <;> simp only [opWp] <;> first | rw [hp] | rw [hn] | skip
  case load t x => rw [hx x (by simp [Op.operands])]
  case store t x y => rw [hx x (by simp [Op.operands]), hx y (by simp [Op.operands])]
  case slice t x lo hi mx =>
    rw [hx x (by simp [Op.operands]), optV_ext (x := lo) fun y hy => hx y (by simp [Op.operands] at hy ⊢; simp [hy]), optV_ext (x := hi) fun y hy => hx y (by simp [Op.operands] at hy ⊢; simp [hy]), optV_ext (x := mx) fun y hy => hx y (by simp [Op.operands] at hy ⊢; simp [hy])]
  case convert s d x => rw [hx x (by simp [Op.operands])]
  case insert t x y z => rw [hx x (by simp [Op.operands]), hx y (by simp [Op.operands]), hx z (by simp [Op.operands])]
  case mapUpdate t x y z => rw [hx x (by simp [Op.operands]), hx y (by simp [Op.operands]), hx z (by simp [Op.operands])]
  case lookup t x y ok => rw [hx x (by simp [Op.operands]), hx y (by simp [Op.operands])]
  case range t x => rw [hx x (by simp [Op.operands])]
  case next x s => rw [hx x (by simp [Op.operands])]
  case entry x => rw [hx x (by simp [Op.operands])]
  case makeInterface t x => rw [hx x (by simp [Op.operands])]
  case select cs b =>
    cases b
    · simp only [opWp]
      split
      · rename_i s hs
        have hcs : cs = #[s] := by apply Array.ext'; simpa using hs
        subst hcs
        exact selWp_ext (hx _ (by simp [Op.operands])) fun x e => hx x (by simp [Op.operands, e])
      · rfl
    · simp only [opWp]; rw [hp]
  case typeAssert x xt t ok => rw [hx x (by simp [Op.operands])]
  case call c =>
    obtain ⟨cal, args, ts⟩ := c
    cases cal with
    | builtin b =>
      have ha := allV_ext (ρ := ρ) (ρ' := ρ') (l := args.toList) fun x hy => hx x (by simp [Op.operands, Call.operands] at hy ⊢; exact hy)
      cases b <;> simp only [opWp] <;> first | rw [hp] | rw [ha]
    | value f =>
      have ha := allV_ext (ρ := ρ) (ρ' := ρ') (l := args.toList) fun x hy => hx x (by simp [Op.operands, Call.operands] at hy ⊢; exact .inr hy)
      simp only [opWp]
      rw [ha, hx f (by simp [Op.operands, Call.operands])]
    | invoke r n => simp only [opWp]; rw [hp]

/-- Does an operation act? (What doesn't, may be done sooner or later.) -/
def isAct : Op → Bool
  | .move _ => false
  | .pick .. => false
  | .build .. => false
  | .field .. => false
  | .fieldAddr .. => false
  | .unOp .. => false
  | .binOp .. => false
  | .convert s d _ => s == d
  | .makeFunc .. => false
  | .slice .. => false
  | .indexAddr .. => false
  | .index .. => false
  | .extract .. => false
  | .nilCheck .. => false
  | .load .. => false
  | .box .. => false
  | .alloc .. => false
  | .buildSlice .. => false
  | .makeSlice .. => false
  | .makeMap .. => false
  | .makeChan .. => false
  | .call { callee := .builtin .min, .. } => false
  | .call { callee := .builtin .max, .. } => false
  | .call { callee := .builtin .len, .. } => false
  | _ => true
/-- Does it read memory? -/
def isRead : Op → Bool
  | .load .. => true
  | .slice .. => true
  | .convert .. => true
  | .call { callee := .builtin .len, .. } => true
  | _ => false

theorem pureV_read {P : Program} {o : Op} {ρ : Rho} {h h' : Heap} (ho : isRead o = false) : readV P o ρ h = readV P o ρ h' := by
  cases o <;> first
    | (simp [isRead] at ho; done)
    | rfl
    | skip
  case call c =>
    obtain ⟨cal, args, ts⟩ := c
    cases cal with
    | builtin b => cases b <;> first | (simp [isRead] at ho; done) | rfl
    | value f => rfl
    | invoke r n => rfl

/-- What does not act either reads or makes. -/
theorem opWp_float {P : Program} {o : Op} {ρ : Rho} {h : Heap} {K : Value → Heap → Prop} (ho : isAct o = false) (hop : opWp P o ρ h K) :
    (∃ v, readV P o ρ h = some v ∧ K v h) ∨ (∃ q mk, newV P o ρ = some (q, mk) ∧ K (mk h.next) (h.push q)) := by
  have gen : (match pureV P o ρ with | some v => K v h | none => False) → readV P o ρ h = pureV P o ρ → (∃ v, readV P o ρ h = some v ∧ K v h) := by
    intro h1 h2
    cases hp : pureV P o ρ with
    | none => rw [hp] at h1; exact h1.elim
    | some v => rw [hp] at h1; exact ⟨v, h2.trans hp, h1⟩
  have genN : (match newV P o ρ with | some (q, mk) => K (mk h.next) (h.push q) | none => False) → (∃ q mk, newV P o ρ = some (q, mk) ∧ K (mk h.next) (h.push q)) := by
    intro h1
    cases hp : newV P o ρ with
    | none => rw [hp] at h1; exact h1.elim
    | some v => obtain ⟨q, mk⟩ := v; rw [hp] at h1; exact ⟨q, mk, rfl, h1⟩
  cases o <;> first
    | (simp [isAct] at ho; done)
    | exact .inl (gen hop rfl)
    | exact .inr (genN hop)
    | skip
  case load t x =>
    simp only [opWp] at hop
    simp only [readV]
    cases hx : ρ x with
    | none => simp [hx] at hop
    | some p =>
      simp only [hx] at hop ⊢
      cases hl : loadV P t h p with
      | none => simp [hl] at hop
      | some v => simp only [hl] at hop; exact .inl ⟨v, rfl, hop⟩
  case slice t x lo hi mx =>
    simp only [opWp] at hop
    simp only [readV]
    split at hop
    · split at hop
      · rename_i v hs
        exact .inl ⟨v, by simp_all, hop⟩
      · exact hop.elim
    · exact hop.elim
  case convert s d x =>
    simp only [opWp] at hop
    cases hx : ρ x with
    | none => simp [hx] at hop
    | some u =>
      simp only [hx] at hop
      unfold convWp at hop
      split at hop
      · rename_i e hs hd
        obtain ⟨he, hop⟩ := hop
        split at hop
        · rename_i v hb
          exact .inl ⟨v, by simp only [readV, hs, hd, hx, he]; exact hb, hop⟩
        · exact hop.elim
      · rename_i e t hs hd
        obtain ⟨h1, h2, h3, hop⟩ := hop
        exact .inr ⟨_, _, by simp [newV, hs, hd, hx, h1, h2, h3], hop⟩
      · exact absurd ho (by simp [isAct, hop.1])
      · rename_i n1 n2 _
        split at hop
        · rename_i v hc
          refine .inl ⟨v, ?_, hop⟩
          simp only [readV]
          split
          · rename_i e v' hs hd hx'
            exact absurd hd (n1 _ hs)
          · simp only [pureV, hx, hc]
        · exact hop.elim
  case call c =>
    obtain ⟨cal, args, ts⟩ := c
    cases cal with
    | builtin b =>
      cases b <;> first | (simp [isAct] at ho; done) | exact .inl (gen hop rfl) | skip
      simp only [opWp] at hop
      simp only [readV]
      split at hop
      · split at hop
        · rename_i v hl
          exact .inl ⟨v, by simp_all, hop⟩
        · exact hop.elim
      · exact hop.elim
    | value f => simp [isAct] at ho
    | invoke r n => simp [isAct] at ho

/-- The machine does the like, and its world stays. -/
theorem readV_sound {P : Program} {β : Place} {ρ : Rho} {μ : Operand → Value} {o : Oper} {v : Value} {h : Heap} {w : World} (hρ : RhoRel β ρ μ) (hr : Rel P β h w) (hv : readV P o.op ρ h = some v) :
    ∃ mv, (execOp μ o).run P w = .ok (.value mv) w ∧ VRel β v mv := by
  unfold readV at hv
  split at hv
  · rename_i t x he
    split at hv
    · rename_i p hp
      obtain ⟨mv, e, r⟩ := loadV_sound hr (hρ _ _ hp) hv
      exact ⟨mv, by unfold execOp; rw [he]; simp [e], r⟩
    · cases hv
  · rename_i t x lo hi mx he
    split at hv
    · rename_i a l hh mm ha hl hhh hm
      obtain ⟨mv, e, r⟩ := sliceV_sound (P := P) (hρ _ _ ha) (optV_rel hρ hl) (optV_rel hρ hhh) (optV_rel hρ hm) (fun b m' s q hb hE => by
        unfold elemSz at hE
        split at hE
        · rename_i cs e hg
          obtain ⟨mc, fr, te, _, _, _, hz⟩ := hr.obj b m' s _ hb hg; obtain ⟨_, _, _, hz⟩ := hz rfl
          unfold szT at hE
          rw [hz] at hE
          simpa using hE
        · cases hE) hv w
      exact ⟨mv, by unfold execOp; rw [he]; simp [e], r⟩
    · cases hv
  · rename_i s d x he
    split at hv
    · rename_i e u hs hd hx
      split at hv
      · rename_i hee
        have he2 : P.underlying e = some (.int .u8) := by
          cases hq : P.underlying e with
          | none => simp [hq] at hee
          | some D =>
            cases D <;> simp [hq] at hee
            rename_i k
            cases k <;> simp_all
        obtain ⟨e1, hk⟩ := run_bytesStr hr (hρ _ _ hx) hs hd he2 hv
        exact ⟨v, by unfold execOp; rw [he]; simp [e1], VRel.const hk⟩
      · cases hv
    · exact pureV_sound (P := P) hρ (by rw [he]; exact hv) w
  · rename_i args ts he
    split at hv
    · rename_i x t hvs hts
      obtain ⟨y, rfl, h1⟩ := args1 (allV_rel hρ hvs)
      obtain ⟨e, hk⟩ := lenH_sound hr h1 hv o.type
      obtain rfl : ts = #[t] := by apply Array.ext'; simpa using hts
      refine ⟨v, ?_, VRel.const hk⟩
      unfold execOp
      rw [he]
      simp only [resolve, Sem.run_bind, Sem.run_pure, Result.andThen_ok, invoke, builtin, List.map_toArray, List.map_cons, List.map_nil, e]
    · cases hv
  · exact pureV_sound (P := P) hρ hv w
end Go.Sim

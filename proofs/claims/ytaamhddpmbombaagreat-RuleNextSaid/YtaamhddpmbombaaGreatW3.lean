/- Part 3 of the claim RuleNext: A13, A14, A15, A16, A17, A18, A19, A20, A21, A22, A23, D1, D2, D3, D4, D5 -/
import Derived.Scope
import Derived.Test.YtaamhddpmbombaaGreatW2
set_option linter.unusedSimpArgs false
set_option linter.unusedVariables false
set_option linter.defProp false
namespace Go.Sim
open Go.RowKit
theorem QW {ρ ρ' : Rho} : ∀ {l : List Operand}, (∀ x ∈ l, ρ x = ρ' x) → jy ρ l = jy ρ' l
 | [], _ => rfl
 | x :: l, h => by
  have h1 := h x (by simp)
  have h2 := QW (l := l) fun y hy => h y (by simp [hy])
  simp only [jy, h1, h2]
theorem UW {ρ ρ' : Rho} : ∀ {l : List (Nat × Operand)}, (∀ x ∈ l.map (·.2), ρ x = ρ' x) → JC ρ l = JC ρ' l
 | [], _ => rfl
 | (i, x) :: l, h => by
  have h1 := h x (by simp)
  have h2 := UW (l := l) fun y hy => h y (by simp only [List.map_cons, List.mem_cons]; exact .inr hy)
  simp only [JC, h1, h2]
theorem K0 {ρ ρ' : Rho} {x : Option Operand} (h : ∀ y ∈ x.toList, ρ y = ρ' y) : wi ρ x = wi ρ' x := by
 cases x with
 | none => rfl
 | some x => simp only [wi, h x (by simp)]
theorem a1W {P : Program} {o : Op} {ρ ρ' : Rho} (h : ∀ x ∈ o.operands, ρ x = ρ' x) : qZ P o ρ = qZ P o ρ' := by
 cases o <;> simp only [Op.operands] at h <;> simp only [qZ]
 case move x => exact h x (by simp)
 case assign x => exact h x (by simp)
 case pick c a b => rw [h c (by simp), h a (by simp), h b (by simp)]
 case build t ps => rw [UW fun x hx => h x (by simpa using hx)]
 case field t x f => rw [h x (by simp)]
 case fieldAddr t x f => rw [h x (by simp)]
 case unOp op t x => rw [h x (by simp)]
 case binOp op t x y t' => rw [h x (by simp), h y (by simp)]
 case convert s d x => rw [h x (by simp)]
 case makeFunc fn xs ys => rw [QW (l := xs.toList) fun x hx => h x (by simp at hx ⊢; exact .inl hx), QW (l := ys.toList) fun x hx => h x (by simp at hx ⊢; exact .inr hx)]
 case indexAddr t x i => rw [h x (by simp), h i (by simp)]
 case index t x i => rw [h x (by simp), h i (by simp)]
 case extract x i => rw [h x (by simp)]
 case nilCheck x => rw [h x (by simp)]
 case call c =>
  obtain ⟨cal, args, ts⟩ := c
  cases cal with
  | builtin b => simp only [qZ]; rw [QW (l := args.toList) fun x hx => h x (by simp [Call.operands] at hx ⊢; exact hx)]
  | value f => rfl
  | invoke r n => rfl
def qO (P : Program) (o : Op) (ρ : Rho) (h : Heap) : Option Value :=
 match o with
 | .load t x => match ρ x with
  | some p => j4 P t h p
  | none => none
 | .slice t x lo hi mx => match ρ x, wi ρ lo, wi ρ hi, wi ρ mx with
  | some v, some l, some hh, some m => z5 P (qU P h) t v l hh m
  | _, _, _, _ => none
 | .convert s d x => match P.underlying s, P.underlying d, ρ x with
  | some (.slice e), some .string, some v => if P.underlying e matches some (.int .u8) then jP h v else none
  | _, _, _ => qZ P (.convert s d x) ρ
 | .call { callee := .builtin .len, args := args, argTypes := ts } => match jy ρ args.toList, ts.toList with
  | some [x], [t] => a0h P t h x
  | _, _ => none
 | o => qZ P o ρ
theorem Qu {P : Program} {o : Op} {ρ ρ' : Rho} {h : Heap} (hx : ∀ x ∈ o.operands, ρ x = ρ' x) : qO P o ρ h = qO P o ρ' h := by
 have hp := a1W (P := P) hx
 cases o <;> simp only [qO] <;> first | exact hp | skip
 case load t x => rw [hx x (by simp [Op.operands])]
 case slice t x lo hi mx =>
  rw [hx x (by simp [Op.operands]), K0 (x := lo) fun y hy => hx y (by simp [Op.operands] at hy ⊢; simp [hy]), K0 (x := hi) fun y hy => hx y (by simp [Op.operands] at hy ⊢; simp [hy]), K0 (x := mx) fun y hy => hx y (by simp [Op.operands] at hy ⊢; simp [hy])]
 case convert s d x => rw [hx x (by simp [Op.operands]), hp]
 case call c =>
  obtain ⟨cal, args, ts⟩ := c
  cases cal with
  | builtin b =>
   have ha := QW (ρ := ρ) (ρ' := ρ') (l := args.toList) fun x hy => hx x (by simp [Op.operands, Call.operands] at hy ⊢; exact hy)
   cases b <;> simp only [qO] <;> first | exact hp | rw [ha]
  | value f => exact hp
  | invoke r n => exact hp
theorem UI {P : Program} {o : Op} {ρ ρ' : Rho} (hx : ∀ x ∈ o.operands, ρ x = ρ' x) : w4 P o ρ = w4 P o ρ' := by
 cases o <;> simp only [w4]
 case box t x => rw [hx x (by simp [Op.operands])]
 case buildSlice t n ps => rw [UW fun x hy => hx x (by simpa [Op.operands] using hy)]
 case makeSlice t l c => rw [hx l (by simp [Op.operands]), hx c (by simp [Op.operands])]
 case makeMap t r => cases r <;> rfl
 case convert s d x => rw [hx x (by simp [Op.operands])]
 case makeChan t s => rw [hx s (by simp [Op.operands])]
theorem aba {P : Program} {s : SelectCase} {ρ ρ' : Rho} {h : Heap} {K : Value → Heap → Prop} (h1 : ρ s.chan = ρ' s.chan) (h2 : ∀ x, s.send = some x → ρ x = ρ' x) : vY P s ρ h K = vY P s ρ' h K := by
 unfold vY
 rw [h1]
 cases hs : s.send with
 | none => rfl
 | some x => simp only [h2 x hs]
theorem acJ {P : Program} {o : Op} {ρ ρ' : Rho} {h : Heap} {K : Value → Heap → Prop} (hx : ∀ x ∈ o.operands, ρ x = ρ' x) : qy P o ρ h K = qy P o ρ' h K := by
 have hp := a1W (P := P) hx
 have hn := UI (P := P) hx
 cases o <;> simp only [qy] <;> first | rw [hp] | rw [hn] | skip
 case load t x => rw [hx x (by simp [Op.operands])]
 case store t x y => rw [hx x (by simp [Op.operands]), hx y (by simp [Op.operands])]
 case slice t x lo hi mx =>
  rw [hx x (by simp [Op.operands]), K0 (x := lo) fun y hy => hx y (by simp [Op.operands] at hy ⊢; simp [hy]), K0 (x := hi) fun y hy => hx y (by simp [Op.operands] at hy ⊢; simp [hy]), K0 (x := mx) fun y hy => hx y (by simp [Op.operands] at hy ⊢; simp [hy])]
 case convert s d x => rw [hx x (by simp [Op.operands])]
 case insert t x y z => rw [hx x (by simp [Op.operands]), hx y (by simp [Op.operands]), hx z (by simp [Op.operands])]
 case mapUpdate t x y z => rw [hx x (by simp [Op.operands]), hx y (by simp [Op.operands]), hx z (by simp [Op.operands])]
 case lookup t x y ok => rw [hx x (by simp [Op.operands]), hx y (by simp [Op.operands])]
 case range t x => rw [hx x (by simp [Op.operands])]
 case next x s => rw [hx x (by simp [Op.operands])]
 case entry x => rw [hx x (by simp [Op.operands])]
 case makeInterface t x => rw [hx x (by simp [Op.operands])]
 case select cs b =>
  cases b
  ·simp only [qy]
   split
   ·rename_i s hs
    have hcs : cs = #[s] := by apply Array.ext'; simpa using hs
    subst hcs
    exact aba (hx _ (by simp [Op.operands])) fun x e => hx x (by simp [Op.operands, e])
   ·rfl
  ·simp only [qy]; rw [hp]
 case typeAssert x xt t ok => rw [hx x (by simp [Op.operands])]
 case call c =>
  obtain ⟨cal, args, ts⟩ := c
  cases cal with
  | builtin b =>
   have ha := QW (ρ := ρ) (ρ' := ρ') (l := args.toList) fun x hy => hx x (by simp [Op.operands, Call.operands] at hy ⊢; exact hy)
   cases b <;> simp only [qy] <;> first | rw [hp] | rw [ha]
  | value f =>
   have ha := QW (ρ := ρ) (ρ' := ρ') (l := args.toList) fun x hy => hx x (by simp [Op.operands, Call.operands] at hy ⊢; exact .inr hy)
   simp only [qy]
   rw [ha, hx f (by simp [Op.operands, Call.operands])]
  | invoke r n => simp only [qy]; rw [hp]
def Xt : Op → Bool
 | .move _ => false
 | .pick .. => false
 | .build .. => false
 | .field .. => false
 | .fieldAddr .. => false
 | .unOp .. => false
 | .binOp .. => false
 | .convert s d _ => s == d
 | .makeFunc .. => false
 | .slice .. => false
 | .indexAddr .. => false
 | .index .. => false
 | .extract .. => false
 | .nilCheck .. => false
 | .load .. => false
 | .box .. => false
 | .alloc .. => false
 | .buildSlice .. => false
 | .makeSlice .. => false
 | .makeMap .. => false
 | .makeChan .. => false
 | .call { callee := .builtin .min, .. } => false
 | .call { callee := .builtin .max, .. } => false
 | .call { callee := .builtin .len, .. } => false
 | _ => true
theorem a8C {P : Program} {o : Op} {ρ : Rho} {h : Heap} {K : Value → Heap → Prop} (ho : Xt o = false) (hop : qy P o ρ h K) :
  (∃ v, qO P o ρ h = some v ∧ K v h) ∨ (∃ q mk, w4 P o ρ = some (q, mk) ∧ K (mk h.next) (h.push q)) := by
 have gen : (match qZ P o ρ with | some v => K v h | none => False) → qO P o ρ h = qZ P o ρ → (∃ v, qO P o ρ h = some v ∧ K v h) := by
  intro h1 h2
  cases hp : qZ P o ρ with
  | none => rw [hp] at h1; exact h1.elim
  | some v => rw [hp] at h1; exact ⟨v, h2.trans hp, h1⟩
 have genN : (match w4 P o ρ with | some (q, mk) => K (mk h.next) (h.push q) | none => False) → (∃ q mk, w4 P o ρ = some (q, mk) ∧ K (mk h.next) (h.push q)) := by
  intro h1
  cases hp : w4 P o ρ with
  | none => rw [hp] at h1; exact h1.elim
  | some v => obtain ⟨q, mk⟩ := v; rw [hp] at h1; exact ⟨q, mk, rfl, h1⟩
 cases o <;> first
  | (simp [Xt] at ho; done)
  | exact .inl (gen hop rfl)
  | exact .inr (genN hop)
  | skip
 case load t x =>
  simp only [qy] at hop
  simp only [qO]
  cases hx : ρ x with
  | none => simp [hx] at hop
  | some p =>
   simp only [hx] at hop ⊢
   cases hl : j4 P t h p with
   | none => simp [hl] at hop
   | some v => simp only [hl] at hop; exact .inl ⟨v, rfl, hop⟩
 case slice t x lo hi mx =>
  simp only [qy] at hop
  simp only [qO]
  split at hop
  ·split at hop
   ·rename_i v hs
    exact .inl ⟨v, by simp_all, hop⟩
   ·exact hop.elim
  ·exact hop.elim
 case convert s d x =>
  simp only [qy] at hop
  cases hx : ρ x with
  | none => simp [hx] at hop
  | some u =>
   simp only [hx] at hop
   unfold wS at hop
   split at hop
   ·rename_i e hs hd
    obtain ⟨he, hop⟩ := hop
    split at hop
    ·rename_i v hb
     exact .inl ⟨v, by simp only [qO, hs, hd, hx, he]; exact hb, hop⟩
    ·exact hop.elim
   ·rename_i e t hs hd
    obtain ⟨h1, h2, h3, hop⟩ := hop
    exact .inr ⟨_, _, by simp [w4, hs, hd, hx, h1, h2, h3], hop⟩
   ·exact absurd ho (by simp [Xt, hop.1])
   ·rename_i n1 n2 _
    split at hop
    ·rename_i v hc
     refine .inl ⟨v, ?_, hop⟩
     simp only [qO]
     split
     ·rename_i e v' hs hd hx'
      exact absurd hd (n1 _ hs)
     ·simp only [qZ, hx, hc]
    ·exact hop.elim
 case call c =>
  obtain ⟨cal, args, ts⟩ := c
  cases cal with
  | builtin b =>
   cases b <;> first | (simp [Xt] at ho; done) | exact .inl (gen hop rfl) | skip
   simp only [qy] at hop
   simp only [qO]
   split at hop
   ·split at hop
    ·rename_i v hl
     exact .inl ⟨v, by simp_all, hop⟩
    ·exact hop.elim
   ·exact hop.elim
  | value f => simp [Xt] at ho
  | invoke r n => simp [Xt] at ho
theorem a6s {P : Program} {β : Place} {ρ : Rho} {μ : Operand → Value} {o : Oper} {v : Value} {h : Heap} {w : World} (hρ : ZL β ρ μ) (hr : Rel P β h w) (hv : qO P o.op ρ h = some v) :
  ∃ mv, (execOp μ o).run P w = .ok (.value mv) w ∧ VRel β v mv := by
 unfold qO at hv
 split at hv
 ·rename_i t x he
  split at hv
  ·rename_i p hp
   obtain ⟨mv, e, r⟩ := JM hr (hρ _ _ hp) hv
   exact ⟨mv, by unfold execOp; rw [he]; simp [e], r⟩
  ·cases hv
 ·rename_i t x lo hi mx he
  split at hv
  ·rename_i a l hh mm ha hl hhh hm
   obtain ⟨mv, e, r⟩ := Vd (P := P) (hρ _ _ ha) (K5 hρ hl) (K5 hρ hhh) (K5 hρ hm) (fun b m' s q hb hE => by
    unfold qU at hE
    split at hE
    ·rename_i cs e hg
     obtain ⟨mc, fr, te, _, _, _, hz⟩ := hr.obj b m' s _ hb hg; obtain ⟨_, _, _, hz⟩ := hz rfl
     unfold szT at hE
     rw [hz] at hE
     simpa using hE
    ·cases hE) hv w
   exact ⟨mv, by unfold execOp; rw [he]; simp [e], r⟩
  ·cases hv
 ·rename_i s d x he
  split at hv
  ·rename_i e u hs hd hx
   split at hv
   ·rename_i hee
    have he2 : P.underlying e = some (.int .u8) := by
     cases hq : P.underlying e with
     | none => simp [hq] at hee
     | some D =>
      cases D <;> simp [hq] at hee
      rename_i k
      cases k <;> simp_all
    obtain ⟨e1, hk⟩ := vJ hr (hρ _ _ hx) hs hd he2 hv
    exact ⟨v, by unfold execOp; rw [he]; simp [e1], VRel.const hk⟩
   ·cases hv
  ·exact WL (P := P) hρ (by rw [he]; exact hv) w
 ·rename_i args ts he
  split at hv
  ·rename_i x t hvs hts
   obtain ⟨y, rfl, h1⟩ := a9K (kR hρ hvs)
   obtain ⟨e, hk⟩ := uq hr h1 hv o.type
   obtain rfl : ts = #[t] := by apply Array.ext'; simpa using hts
   refine ⟨v, ?_, VRel.const hk⟩
   unfold execOp
   rw [he]
   simp only [resolve, Sem.run_bind, Sem.run_pure, Result.andThen_ok, invoke, builtin, List.map_toArray, List.map_cons, List.map_nil, e]
  ·cases hv
 ·exact WL (P := P) hρ hv w
end Go.Sim
namespace Go.Sim
open Go.RowKit
theorem a9h {P : Program} {t : TypeId} {h : Heap} {p v : Value} {q : AObj} (hl : j4 P t h p = some v) : j4 P t (h.push q) p = some v := by
 unfold j4 at *
 split at hl
 ·rename_i b o
  unfold xL at *
  split at hl
  ·rename_i cs e rw hg
   simp only [Heap.get_push_of hg]
   exact hl
  ·cases hl
 ·cases hl
theorem a5R {P : Program} {h : Heap} {q : AObj} {b n : Nat} (he : qU P h b = some n) : qU P (h.push q) b = some n := by
 unfold qU at *
 split at he
 ·rename_i cs e rw hg
  simp only [Heap.get_push_of hg]
  exact he
 ·cases he
theorem UP {h : Heap} {x v : Value} {q : AObj} (hb : jP h x = some v) : jP (h.push q) x = some v := by
 unfold jP at *
 split at hb
 ·exact hb
 ·rename_i b o n c
  split at hb
  ·rename_i hn; simp only [hn, if_true]; exact hb
  ·rename_i hn
   simp only [if_neg hn]
   split at hb
   ·rename_i cs e rw hg
    simp only [Heap.get_push_of hg]
    exact hb
   ·cases hb
 ·cases hb
theorem a5E {P : Program} {E E' : Nat → Option Nat} (hE : ∀ b n, E b = some n → E' b = some n) {t : TypeId} {x : Value} {lo hi mx : Option Value} {v : Value} (hs : z5 P E t x lo hi mx = some v) : z5 P E' t x lo hi mx = some v := by
 unfold z5 at *
 split at hs
 ·exact hs
 ·exact hs
 ·exact hs
 ·rename_i e b o n c hu
  split at hs
  ·rename_i s l hh om hz hbd
   by_cases hc : c = dud
   ·rw [if_pos hc] at hs ⊢; exact hs
   ·rw [if_neg hc] at hs ⊢
    by_cases hn : c ≠ qB ∧ ¬ (n = 0 ∧ c = 0) ∧ E b ≠ some s
    ·rw [if_pos hn] at hs; cases hs
    ·rw [if_neg hn] at hs
     rw [if_neg (fun q => hn ⟨q.1, q.2.1, fun e1 => q.2.2 (hE _ _ e1)⟩)]
     exact hs
  ·cases hs
 ·cases hs
theorem a1q {h : Heap} {x : Value} {q : AObj} {es : List MapEntry} (he : we h x = some es) : we (h.push q) x = some es := by
 unfold we at *
 split at he
 ·exact he
 ·split at he
  ·rename_i es' ck hg
   simp only [Heap.get_push_of hg]
   exact he
  ·cases he
 ·cases he
theorem abl {P : Program} {t : TypeId} {h : Heap} {x v : Value} {q : AObj} (hl : a0h P t h x = some v) : a0h P t (h.push q) x = some v := by
 unfold a0h at *
 split at hl
 ·cases hes : we h x with
  | none => simp [hes] at hl
  | some es => rw [a1q hes]; rw [hes] at hl; exact hl
 ·split at hl
  ·exact hl
  ·split at hl
   ·rename_i hg
    simp only [Heap.get_push_of hg]
    exact hl
   ·cases hl
  ·cases hl
 ·exact hl
theorem a9u {P : Program} {o : Op} {ρ : Rho} {h : Heap} {q : AObj} {v : Value} (hv : qO P o ρ h = some v) : qO P o ρ (h.push q) = some v := by
 unfold qO at *
 split at hv
 ·split at hv
  ·exact a9h hv
  ·cases hv
 ·split at hv
  ·exact a5E (fun b n => a5R) hv
  ·cases hv
 ·split at hv
  ·split at hv
   ·rename_i he
    rw [if_pos rfl]
    exact UP hv
   ·cases hv
  ·exact hv
 ·split at hv
  ·exact abl hv
  ·cases hv
 ·exact hv
def yQ (P : Program) : Op → Bool
 | .load .. => true
 | .slice .. => true
 | .convert s _ _ => match P.underlying s with
  | some (.slice _) => true
  | _ => false
 | .call { callee := .builtin .len, args := _, argTypes := ts } => ts.toList.any fun t => match P.underlying t with
  | some (.map _ _) => true
  | some (.chan _ _) => true
  | _ => false
 | _ => false
theorem abJ {P : Program} {o : Op} {ρ : Rho} {h h' : Heap} (ho : yQ P o = false) : qO P o ρ h = qO P o ρ h' := by
 cases o <;> first
  | (simp [yQ] at ho; done)
  | rfl
  | skip
 case convert s d x =>
  simp only [qO]
  simp [yQ] at ho
  split
  ·rename_i e v' hs hd hx
   simp [hs] at ho
  ·rfl
 case call c =>
  obtain ⟨cal, args, ts⟩ := c
  cases cal with
  | value f => rfl
  | invoke r n => rfl
  | builtin b =>
   cases b <;> first | rfl | skip
   simp only [qO]
   simp only [yQ] at ho
   split
   ·rename_i x t hvs hts
    rw [hts] at ho
    unfold a0h
    split
    ·rename_i k e hu
     simp [hu] at ho
    ·rename_i k e hu
     simp [hu] at ho
    ·rfl
   ·rfl
def acts : Op → Bool
 | .assign _ => true
 | o => Xt o
theorem agv {o : Op} (h : acts o = false) : Xt o = false := by
 cases o <;> first | exact h | simp [acts] at h
def preds (o : Oper) : List Nat := o.after.toList.filterMap fun e => if Region.binds .any e then some e.on else none
def qw (ops : Array Oper) (i : Nat) : Oper := ops.getD i default
def tbl (T : List (List Nat)) (i : Nat) : List Nat := T.getD i []
def a8Q (ops : Array Oper) (T : List (List Nat)) (i j : Nat) : Bool :=
 i == j || match (qw ops i).dst with
 | none => true
 | some d =>
  if acts (qw ops i).op then (!((qw ops j).looksAt ops).contains d && (qw ops j).dst != some d) || (tbl T i).contains j || (tbl T j).contains i
  else (qw ops j).dst != some d && (!((qw ops j).looksAt ops).contains d || (tbl T j).contains i)
def ae5 (ops : Array Oper) (i : Nat) : Bool :=
 acts (qw ops i).op || match (qw ops i).dst with
 | none => true
 | some d => !((qw ops i).looksAt ops).contains d
def YQ (P : Program) (ops : Array Oper) (T : List (List Nat)) : List Nat → List (Nat × List Nat) → Bool
 | _, [] => true
 | pre, (i, ks) :: r =>
  decide (i < ops.size) && !pre.contains i && (preds (qw ops i)).all pre.contains &&
  (tbl T i).all (fun j => pre.contains j && ((preds (qw ops i)).contains j || (preds (qw ops i)).any fun p => (tbl T p).contains j)) &&
  pre.all (fun j => !acts (qw ops j).op || (tbl T i).contains j) &&
  (!acts (qw ops i).op || pre.all fun j => acts (qw ops j).op || !yQ P (qw ops j).op || (tbl T i).contains j || ks.contains j) &&
  YQ P ops T (pre ++ [i]) r
def a3E (P : Program) (ops : Array Oper) (T : List (List Nat)) (E : List (Nat × List Nat)) : Bool :=
 YQ P ops T [] E && (List.range ops.size).all (E.map (·.1)).contains && (List.range ops.size).all (ae5 ops) &&
 (List.range ops.size).all fun i => (List.range ops.size).all (a8Q ops T i)
structure OkGo (P : Program) (ops : Array Oper) (T : List (List Nat)) (pre : List Nat) (i : Nat) (ks : List Nat) (r : List (Nat × List Nat)) : Prop where
 lt : i < ops.size
 new : i ∉ pre
 preds : ∀ p ∈ preds (qw ops i), p ∈ pre
 tpre : ∀ j ∈ tbl T i, j ∈ pre ∧ (j ∈ Sim.preds (qw ops i) ∨ ∃ p ∈ Sim.preds (qw ops i), j ∈ tbl T p)
 acts : ∀ j ∈ pre, acts (qw ops j).op = true → j ∈ tbl T i
 chk : Sim.acts (qw ops i).op = true → ∀ j ∈ pre, Sim.acts (qw ops j).op = false → yQ P (qw ops j).op = true → j ∈ tbl T i ∨ j ∈ ks
 rest : YQ P ops T (pre ++ [i]) r = true
theorem Qz {P : Program} {ops : Array Oper} {T : List (List Nat)} {pre : List Nat} {i : Nat} {ks : List Nat} {r : List (Nat × List Nat)} (h : YQ P ops T pre ((i, ks) :: r) = true) : OkGo P ops T pre i ks r := by
 simp only [YQ, Bool.and_eq_true, decide_eq_true_eq, Bool.not_eq_true', List.all_eq_true, List.contains_eq_mem, decide_eq_false_iff_not, Bool.or_eq_true, List.any_eq_true] at h
 obtain ⟨⟨⟨⟨⟨⟨h1, h2⟩, h3⟩, h4⟩, h5⟩, h6⟩, h7⟩ := h
 refine ⟨h1, h2, h3, fun j hj => h4 j hj, fun j hj ha => ?_, fun hi j hj ha hm => ?_, h7⟩
 ·rcases h5 j hj with h | h
  ·rw [ha] at h; cases h
  ·exact h
 ·rcases h6 with h | h
  ·rw [hi] at h; cases h
  ·rcases h j hj with ((h | h) | h) | h
   ·rw [ha] at h; cases h
   ·rw [hm] at h; cases h
   ·exact .inl h
   ·exact .inr h
def Qf (a : Frm) : Option Tmp → Option Value
 | some t => a.get t
 | none => none
def uQ (P : Program) (c : C) (a : Frm) (h : Heap) : Prop :=
 match c.g with
 | none => (Qf a c.d).isSome = true ∧ qO P c.op a.ev h = Qf a c.d
 | some (t, want) => zE t want a = some false ∨ ((Qf a c.d).isSome = true ∧ qO P c.op a.ev h = Qf a c.d)
def wv (P : Program) (a : Frm) (h : Heap) : List C → Prop
 | [] => True
 | c :: r => uQ P c a h ∧ wv P a h r
def dWp (P : Program) : List (C × List C) → (Frm → Heap → Prop) → Frm → Heap → Prop
 | [], K, a, h => K a h
 | (c, ks) :: r, K, a, h => cWp P [c] (fun a h => wv P a h ks ∧ dWp P r K a h) a h
def vR (ops : Array Oper) (E : List (Nat × List Nat)) : List (C × List C) := E.map fun e => (jo ops (qw ops e.1), e.2.map fun k => jo ops (qw ops k))
theorem afI {P : Program} {c : C} {K : Frm → Heap → Prop} {a : Frm} {h : Heap} (hc : cWp P [c] K a h) :
  (c.g = none ∧ qy P c.op a.ev h (fun v h' => K (a.put c.d v) h')) ∨
  ∃ t want, c.g = some (t, want) ∧ ((zE t want a = some true ∧ qy P c.op a.ev h (fun v h' => K (a.put c.d v) h')) ∨ (zE t want a = some false ∧ K (a.put c.d undef) h)) := by
 unfold cWp at hc
 cases hg : c.g with
 | none => rw [hg] at hc; exact .inl ⟨rfl, by simpa [cWp] using hc⟩
 | some p =>
  obtain ⟨t, want⟩ := p
  simp only [hg] at hc
  refine .inr ⟨t, want, rfl, ?_⟩
  unfold zl at hc
  cases hv : zE t want a with
  | none => rw [hv] at hc; exact hc.elim
  | some b =>
   rw [hv] at hc
   cases b
   ·exact .inr ⟨rfl, by simpa [cWp] using hc.2 rfl⟩
   ·exact .inl ⟨rfl, by simpa [cWp] using hc.1 rfl⟩
def QS (ops : Array Oper) (o : Oper) (a : Frm) : Option Bool :=
 match o.guard with
 | none => some true
 | some (g, want) => zE ((ops[g]?).bind (·.dst)) want a
theorem a4Q {P : Program} {ops : Array Oper} {o : Oper} {K : Frm → Heap → Prop} {a : Frm} {h : Heap} (hc : cWp P [jo ops o] K a h) :
  (QS ops o a = some true ∧ qy P o.op a.ev h (fun v h' => K (a.put o.dst v) h')) ∨ (QS ops o a = some false ∧ K (a.put o.dst undef) h) := by
 rcases afI hc with ⟨hg, hop⟩ | ⟨t, want, hg, h1 | h1⟩
 ·refine .inl ⟨?_, hop⟩
  unfold jo at hg
  unfold QS
  cases hq : o.guard <;> simp [hq] at hg ⊢
 all_goals
  unfold jo at hg
  unfold QS
  cases hq : o.guard with
  | none => simp [hq] at hg
  | some p =>
   obtain ⟨g, w⟩ := p
   simp [hq] at hg
   obtain ⟨rfl, rfl⟩ := hg
   first | exact .inl h1 | exact .inr h1
def only (ts : List Tmp) (a : Frm) : Frm := ⟨a.n, a.l.filter fun p => ts.contains p.1⟩
theorem Xu (ts : List Tmp) (t : Tmp) : ∀ l : List (Nat × Value), y8 t (l.filter fun p => ts.contains p.1) = if t ∈ ts then y8 t l else none
 | [] => by simp [y8]
 | (t', v) :: l => by
  have ih := Xu ts t l
  by_cases h : t' ∈ ts
  ·rw [List.filter_cons_of_pos (by simpa using h)]
   simp only [y8]
   by_cases e : t' = t
   ·subst e; simp [h]
   ·simp only [e, if_false]; exact ih
  ·rw [List.filter_cons_of_neg (by simpa using h), ih]
   by_cases e : t ∈ ts
   ·have : t' ≠ t := by rintro rfl; exact h e
    simp [e, y8, this]
   ·simp [e]
theorem a6j (ts : List Tmp) (a : Frm) (t : Tmp) : (only ts a).get t = if t ∈ ts then a.get t else none := Xu ts t a.l
theorem aeZ {ops : Array Oper} {o : Oper} {x : Operand} (hx : x ∈ o.op.operands) : ∀ t, x = .tmp t → t ∈ o.looksAt ops := by
 rintro t rfl
 unfold Oper.looksAt
 exact List.mem_append_left _ (List.mem_filterMap.2 ⟨.tmp t, by simpa using hx, rfl⟩)
theorem jV {ops : Array Oper} {o : Oper} {a a' : Frm} (h : ∀ t, t ∈ o.looksAt ops → a'.get t = a.get t) : QS ops o a' = QS ops o a := by
 unfold QS
 split
 ·rfl
 ·rename_i g want hg
  cases hd : (ops[g]?).bind (·.dst) with
  | none => rfl
  | some t =>
   have : t ∈ o.looksAt ops := by
    unfold Oper.looksAt
    refine List.mem_append_right _ ?_
    simp [hg, hd]
   simp only [zE, h t this]
theorem wD {ops : Array Oper} {o : Oper} {a : Frm} : ∀ t, t ∈ o.looksAt ops → (only (o.looksAt ops) a).get t = a.get t := fun t ht => by rw [a6j, if_pos ht]
theorem J5 {ops : Array Oper} {o : Oper} {a a' : Frm} (h : ∀ t, t ∈ o.looksAt ops → a'.get t = a.get t) : ∀ x ∈ o.op.operands, a'.ev x = a.ev x := by
 intro x hx
 cases x with
 | tmp t => exact h t (aeZ hx t rfl)
 | _ => rfl
theorem yR {D : List Deferred} {β : Place} {ops : Array Oper} {o : Oper} {m : Act} {a : Frm} {b : Bool} (ha : ARel D β a m) (hv : QS ops o a = some b) : Region.wanted o (yielded ops m.tmps) = b := by
 unfold QS at hv
 split at hv
 ·rename_i hg; cases hv; simp [Region.wanted, hg]
 ·rename_i g want hg
  exact Vw ha hg hv
theorem yH (a : Frm) (d : Option Tmp) (v : Value) (t : Tmp) : (a.put d v).get t = if d = some t ∧ t < a.n then some v else a.get t := by
 unfold Frm.put
 cases d with
 | none => simp
 | some u =>
  by_cases hu : u < a.n
  ·simp only [hu, if_true]
   unfold Frm.get
   rw [Kb]
   by_cases e : t = u
   ·subst e; simp [hu]
   ·rw [if_neg e, if_neg (by rintro ⟨h1, _⟩; cases h1; exact e rfl)]
  ·simp only [hu, if_false]
   rw [if_neg]
   rintro ⟨h1, h2⟩
   cases h1
   exact hu h2
theorem uH (a : Frm) (d : Option Tmp) (v : Value) : (a.put d v).n = a.n := by
 unfold Frm.put
 cases d with
 | none => rfl
 | some u => by_cases hu : u < a.n <;> simp [hu]
inductive PendV (P : Program) (ops : Array Oper) (a : Frm) (h : Heap) (β : Place) (blk : Option Nat) (o : Oper) (v : Value) : Prop
 | no (hw : QS ops o a = some false) (hv : v = undef)
 | read (hw : QS ops o a = some true) (hv : qO P o.op a.ev h = some v)
 | new (hw : QS ops o a = some true) (b : Nat) (q : AObj) (mk : Nat → Value) (hbl : blk = some b) (hn : w4 P o.op a.ev = some (q, mk)) (hv : v = mk b) (hg : h.get b = some q) (hb : β b = none)
section
variable {P : Program} {ops : Array Oper} {T : List (List Nat)}
def Cc (ops : Array Oper) (T : List (List Nat)) (i : Nat) : Prop := ∀ S : Nat → Prop, (∀ i, S i → ∀ p ∈ preds (qw ops i), S p) → (∀ p ∈ preds (qw ops i), S p) → ∀ j ∈ tbl T i, S j
theorem a9O : ∀ (E : List (Nat × List Nat)) (pre : List Nat), (∀ i ∈ pre, Cc ops T i) → YQ P ops T pre E = true → ∀ i, i ∈ pre ∨ i ∈ E.map (·.1) → Cc ops T i
 | [], pre, hp, _, i, hi => hp i (by simpa using hi)
 | (k, ks) :: r, pre, hp, ho, i, hi => by
  have hs := Qz ho
  have hk : Cc ops T k := by
   intro S hc hpr j hj
   obtain ⟨_, h1 | ⟨p, h1, h2⟩⟩ := hs.tpre j hj
   ·exact hpr j h1
   ·exact hp p (hs.preds p h1) S hc (hc p (hpr p h1)) j h2
  refine a9O r (pre ++ [k]) (fun i hi => ?_) hs.rest i ?_
  ·rcases List.mem_append.1 hi with h | h
   ·exact hp i h
   ·rw [List.mem_singleton.1 h]; exact hk
  ·simp only [List.map_cons, List.mem_cons, List.mem_append, List.mem_singleton] at hi ⊢
   rcases hi with h | h | h <;> simp [h]
theorem uV {S : Nat → Prop} : ∀ (E : List (Nat × List Nat)) (pre : List Nat), (∀ i ∈ pre, S i) → YQ P ops T pre E = true → (∃ i ∈ E.map (·.1), ¬ S i) → ∃ j, j < ops.size ∧ ¬ S j ∧ ∀ p ∈ preds (qw ops j), S p
 | [], pre, hp, _, ⟨i, hi, _⟩ => by simp at hi
 | (k, ks) :: r, pre, hp, ho, ⟨i, hi, hn⟩ => by
  have hs := Qz ho
  by_cases hk : S k
  ·refine uV r (pre ++ [k]) (fun j hj => ?_) hs.rest ⟨i, ?_, hn⟩
   ·rcases List.mem_append.1 hj with h | h
    ·exact hp j h
    ·rw [List.mem_singleton.1 h]; exact hk
   ·simp only [List.map_cons, List.mem_cons] at hi
    rcases hi with rfl | hi
    ·exact absurd hk hn
    ·exact hi
  ·exact ⟨k, hs.lt, hk, fun p h => hp p (hs.preds p h)⟩
structure Amid (P : Program) (ops : Array Oper) (T : List (List Nat)) (D : List Deferred) (β₀ : Place) (h₀ : Heap) (w₀ : World) (pre : List Nat) (a : Frm) (h : Heap) (pend : List Nat) (blk : Nat → Option Nat) (β : Place) (S : Nat → Prop) (m : Act) (w : World) : Prop where
 done : ∀ i, S i ↔ i ∈ pre ∧ i ∉ pend
 closed : ∀ i, S i → ∀ p ∈ preds (qw ops i), S p
 sub : ∀ i ∈ pend, i ∈ pre ∧ acts (qw ops i).op = false
 lt : ∀ i ∈ pre, i < ops.size
 tpre : ∀ i ∈ pre, ∀ j ∈ tbl T i, j ∈ pre
 defers : m.defers = D
 size : m.tmps.size = a.n
 low : ∀ t v, a.get t = some v → t < a.n
 slots : ∀ t v, a.get t = some v → (∀ i ∈ pend, (qw ops i).dst ≠ some t) → ∃ mv, m.tmps[t]? = some mv ∧ VRel β v mv
 rel : Rel P β h w
 step : Step β₀ h₀ w₀ β h w
 pends : ∀ i ∈ pend, ∃ v, PendV P ops a h β (blk i) (qw ops i) v ∧ ∀ t, (qw ops i).dst = some t → t < a.n → a.get t = some v
 apart : ∀ i ∈ pend, ∀ j ∈ pend, ∀ b, blk i = some b → blk j = some b → i = j
 fresh : ∀ i ∈ pend, ∀ b, blk i = some b → h₀.next ≤ b ∧ b < h.next
structure Glob (P : Program) (ops : Array Oper) (T : List (List Nat)) : Prop where
 cc : ∀ i, i < ops.size → Cc ops T i
 self : ∀ i, i < ops.size → acts (qw ops i).op = false → ∀ d, (qw ops i).dst = some d → d ∉ (qw ops i).looksAt ops
 flt : ∀ i j, i < ops.size → j < ops.size → i ≠ j → acts (qw ops i).op = false → ∀ d, (qw ops i).dst = some d → (qw ops j).dst ≠ some d ∧ (d ∈ (qw ops j).looksAt ops → i ∈ tbl T j)
 act : ∀ i j, i < ops.size → j < ops.size → i ≠ j → acts (qw ops i).op = true → ∀ d, (qw ops i).dst = some d → (d ∉ (qw ops j).looksAt ops ∧ (qw ops j).dst ≠ some d) ∨ j ∈ tbl T i ∨ i ∈ tbl T j
theorem Step.push {β₀ : Place} {h₀ : Heap} {w₀ : World} {β : Place} {h : Heap} {w : World} {q : AObj} (st : Step β₀ h₀ w₀ β h w) : Step β₀ h₀ w₀ β (h.push q) w :=
 ⟨st.place, fun b hb e => ⟨(st.stays b hb e).1, by rw [Heap.get_push_ne _ _ (by have := st.next; omega)]; exact (st.stays b hb e).2⟩, by have := st.next; simp; omega,
  fun b o' hb g => st.live b o' hb (by rwa [Heap.get_push_ne _ _ (by have := st.next; omega)] at g), st.new, st.os, st.tape, st.output, st.size, st.frame, st.loops⟩
theorem Step.placed {β₀ : Place} {h₀ : Heap} {w₀ : World} {β : Place} {h : Heap} {w w' : World} {b : Nat} {s : Sh} {mo : Obj} (st : Step β₀ h₀ w₀ β h w) (hb : β b = none) (hge : h₀.next ≤ b)
  (hh : w'.heap = w.heap.push mo) (hos : w'.os = w.os) (htp : w'.tape = w.tape) (hout : w'.output = w.output) : Step β₀ h₀ w₀ (β.add b w.heap.size s) h w' := by
 refine ⟨fun c x e => Place.add_mono _ _ hb _ _ (st.place c x e), fun c hc e => ⟨?_, (st.stays c hc e).2⟩, st.next, st.live, fun c m s' e e' => ?_, hos.trans st.os, htp.trans st.tape, hout.trans st.output, ?_, fun k hk hn => ?_, fun k r e => ?_⟩
 ·rw [Place.add_ne _ _ _ (by omega)]; exact (st.stays c hc e).1
 ·by_cases hc : c = b
  ·subst hc
   rw [Place.add_same] at e'
   cases e'
   exact .inl st.size
  ·rw [Place.add_ne _ _ _ hc] at e'
   exact st.new c m s' e e'
 ·rw [hh]; simp; have := st.size; omega
 ·have := st.size
  rw [hh, Array.getElem?_push, if_neg (by omega)]
  exact st.frame k hk hn
 ·obtain ⟨r', e'⟩ := st.loops k r e
  exact ⟨r', by rw [hh, Array.getElem?_push, if_neg (by have := (Array.getElem?_eq_some_iff.1 e').1; omega)]; exact e'⟩
theorem PendV.keep {a a' : Frm} {h h' : Heap} {β β' : Place} {blk : Option Nat} {o : Oper} {v : Value} (hp : PendV P ops a h β blk o v)
  (hl : ∀ t, t ∈ o.looksAt ops → a'.get t = a.get t) (hread : QS ops o a = some true → qO P o.op a.ev h = some v → qO P o.op a'.ev h' = some v)
  (hb : ∀ b q, blk = some b → h.get b = some q → β b = none → h'.get b = some q ∧ β' b = none) : PendV P ops a' h' β' blk o v := by
 cases hp with
 | no hw hv => exact .no (by rw [jV hl]; exact hw) hv
 | read hw hv => exact .read (by rw [jV hl]; exact hw) (hread hw hv)
 | new hw b q mk hbl hn hv hg hb' =>
  obtain ⟨h1, h2⟩ := hb b q hbl hg hb'
  exact .new (by rw [jV hl]; exact hw) b q mk hbl (by rw [UI (J5 hl)]; exact hn) hv h1 h2
variable {ro : Option Nat} {D : List Deferred} {β₀ : Place} {h₀ : Heap} {w₀ : World} {pre : List Nat} {a : Frm} {h : Heap} {pend : List Nat} {blk : Nat → Option Nat} {β : Place} {S : Nat → Prop} {m : Act} {w : World}
theorem Amid.sees (A : Amid P ops T D β₀ h₀ w₀ pre a h pend blk β S m w) (G : Glob P ops T) {i : Nat} (hi : i < ops.size) (hp : ∀ p ∈ preds (qw ops i), S p) (hf : i ∈ pend ∨ i ∉ pend ∧ i ∉ pre) : ARel D β (only ((qw ops i).looksAt ops) a) m := by
 refine ⟨A.defers, A.size, fun t v e => ?_⟩
 rw [a6j] at e
 by_cases ht : t ∈ (qw ops i).looksAt ops
 ·rw [if_pos ht] at e
  refine A.slots t v e fun j hj hd => ?_
  obtain ⟨hjp, hja⟩ := A.sub j hj
  by_cases hij : j = i
  ·subst hij
   exact G.self j hi hja t hd ht
  ·have := (G.flt j i (A.lt j hjp) hi hij hja t hd).2 ht
   have := G.cc i hi S A.closed hp j this
   exact ((A.done j).1 this).2 hj
 ·rw [if_neg ht] at e; cases e
theorem yv {i : Nat} (hi : i < ops.size) : ops[i]? = some (qw ops i) := by
 unfold qw
 rw [Array.getD_eq_getD_getElem?, Array.getElem?_eq_getElem hi]
 rfl
theorem vr (m : Act) (d : Option Tmp) (v : Value) : (m.put d v).tmps = match d with | some t => m.tmps.setIfInBounds t v | none => m.tmps := by
 unfold Act.put
 cases d <;> rfl
theorem JH (m : Act) (d : Option Tmp) (v : Value) : (m.put d v).defers = m.defers := by
 unfold Act.put
 cases d <;> rfl
theorem Vx (m : Act) (d : Option Tmp) (v : Value) : (m.put d v).tmps.size = m.tmps.size := by
 rw [vr]
 cases d <;> simp
theorem xO (m : Act) (d : Option Tmp) (v : Value) (t : Nat) : (m.put d v).tmps[t]? = if d = some t ∧ t < m.tmps.size then some v else m.tmps[t]? := by
 rw [vr]
 cases d with
 | none => simp
 | some u =>
  by_cases e : u = t
  ·subst e
   by_cases hl : u < m.tmps.size
   ·simp [hl]
   ·simp [hl]
  ·simp [e]
theorem Amid.caught (A : Amid P ops T D β₀ h₀ w₀ pre a h pend blk β S m w) {i : Nat} (hi : i ∈ pend) (hp : ∀ p ∈ preds (qw ops i), S p) {v mv : Value} {β' : Place} {w' : World}
  (hslot : ∀ t, (qw ops i).dst = some t → t < a.n → a.get t = some v)
  (hβ : ∀ b x, β b = some x → β' b = some x) (hv : VRel β' v mv) (hr : Rel P β' h w') (st : Step β₀ h₀ w₀ β' h w') (hb : ∀ j ∈ pend, j ≠ i → ∀ b, blk j = some b → β b = none → β' b = none)
  {S' : Nat → Prop} (hS : ∀ j, S' j ↔ S j ∨ j = i) : Amid P ops T D β₀ h₀ w₀ pre a h (pend.filter (· ≠ i)) blk β' S' (m.put (qw ops i).dst mv) w' := by
 have hmem : ∀ j, j ∈ pend.filter (· ≠ i) ↔ j ∈ pend ∧ j ≠ i := fun j => by simp
 refine ⟨fun j => ?_, fun j hj p hp' => ?_, fun j hj => A.sub j ((hmem j).1 hj).1, A.lt, A.tpre, by rw [JH]; exact A.defers, by rw [Vx]; exact A.size, A.low, fun t u e hn => ?_, hr, st, fun j hj => ?_,
  fun j hj k hk => A.apart j ((hmem j).1 hj).1 k ((hmem k).1 hk).1, fun j hj => A.fresh j ((hmem j).1 hj).1⟩
 ·rw [hS, A.done, hmem]
  constructor
  ·rintro (⟨h1, h2⟩ | rfl)
   ·exact ⟨h1, fun q => h2 q.1⟩
   ·exact ⟨(A.sub j hi).1, fun q => q.2 rfl⟩
  ·rintro ⟨h1, h2⟩
   by_cases e : j = i
   ·exact .inr e
   ·exact .inl ⟨h1, fun q => h2 ⟨q, e⟩⟩
 ·rcases (hS j).1 hj with h1 | rfl
  ·exact (hS p).2 (.inl (A.closed j h1 p hp'))
  ·exact (hS p).2 (.inl (hp p hp'))
 ·rw [xO]
  by_cases hd : (qw ops i).dst = some t
  ·have hlt := A.low t u e
   rw [if_pos ⟨hd, by rw [A.size]; exact hlt⟩]
   have := hslot t hd hlt
   rw [e] at this
   cases this
   exact ⟨mv, rfl, hv⟩
  ·rw [if_neg (fun q => hd q.1)]
   obtain ⟨mu, e1, r⟩ := A.slots t u e fun j hj hdj => by
    by_cases hji : j = i
    ·subst hji; exact hd hdj
    ·exact hn j ((hmem j).2 ⟨hj, hji⟩) hdj
   exact ⟨mu, e1, r.mono hβ⟩
 ·obtain ⟨h1, h2⟩ := (hmem j).1 hj
  obtain ⟨u, hp1, hs⟩ := A.pends j h1
  exact ⟨u, hp1.keep (fun _ _ => rfl) (fun _ q => q) (fun b q hbl hg hbn => ⟨hg, hb j h1 h2 b hbl hbn⟩), hs⟩
theorem Amid.catch (A : Amid P ops T D β₀ h₀ w₀ pre a h pend blk β S m w) (G : Glob P ops T) {i : Nat} (hi : i ∈ pend) (hp : ∀ p ∈ preds (qw ops i), S p) {next : Act → World → Prop}
  {S' : Nat → Prop} (hS : ∀ j, S' j ↔ S j ∨ j = i) (hn : ∀ β' m' w', Amid P ops T D β₀ h₀ w₀ pre a h (pend.filter (· ≠ i)) blk β' S' m' w' → next m' w') : ItemS ro P ops i next m w := by
 have hlt := A.lt i (A.sub i hi).1
 have hsee := A.sees G hlt hp (.inl hi)
 obtain ⟨v, hpv, hslot⟩ := A.pends i hi
 cases hpv with
 | no hw hv =>
  subst hv
  have hw' := yR hsee (by rw [jV wD]; exact hw)
  exact a0d (yv hlt) hw' (hn _ _ _ (A.caught hi hp hslot (fun _ _ e => e) VRel.undef A.rel A.step (fun _ _ _ _ _ e => e) hS))
 | read hw hv =>
  have hw' := yR hsee (by rw [jV wD]; exact hw)
  obtain ⟨mv, hrun, hvr⟩ := a6s hsee.rho A.rel (by rw [Qu (J5 wD)]; exact hv)
  exact JO (yv hlt) hw' (jk (fun c hc => by rw [hc] at hv; simp [qO, qZ] at hv) hrun (hn _ _ _ (A.caught hi hp hslot (fun _ _ e => e) hvr A.rel A.step (fun _ _ _ _ _ e => e) hS)))
 | new hw b q mk hbl hnew hv hg hb =>
  subst hv
  have hw' := yR hsee (by rw [jV wD]; exact hw)
  obtain ⟨mv, w', s, hrun, hN⟩ := ul (P := P) (o := qw ops i) hsee.rho (by rw [UI (J5 wD)]; exact hnew) w
  obtain ⟨mo, hmo⟩ := hN.heap
  have hmono := Place.add_mono w.heap.size s hb
  obtain ⟨hvr, ho⟩ := hN.rel (β.add b w.heap.size s) b hmono (Place.add_same _ _ _ _)
  refine JO (yv hlt) hw' (jk (fun c hc => by rw [hc] at hnew; simp [w4] at hnew) hrun ?_)
  refine hn _ _ _ (A.caught hi hp hslot hmono hvr (A.rel.mapped hb (h.wf _ _ hg) hg hmo ho) (A.step.placed hb (A.fresh i hi b hbl).1 hmo hN.os hN.tape hN.output) (fun j hj hne b' hbl' hb' => ?_) hS)
  rw [Place.add_ne _ _ _ (fun e => hne (A.apart j hj i hi b (by rw [← e]; exact hbl') hbl))]
  exact hb'
theorem Amid.float (A : Amid P ops T D β₀ h₀ w₀ pre a h pend blk β S m w) (G : Glob P ops T) {i : Nat} {ks : List Nat} {r : List (Nat × List Nat)} (O : OkGo P ops T pre i ks r) (ha : acts (qw ops i).op = false)
  {v : Value} {h' : Heap} {bl : Option Nat} (hp : PendV P ops a h' β bl (qw ops i) v) (hh : (h' = h ∧ bl = none) ∨ ∃ q, h' = h.push q ∧ bl = some h.next) :
  Amid P ops T D β₀ h₀ w₀ (pre ++ [i]) (a.put (qw ops i).dst v) h' (i :: pend) (fun j => if j = i then bl else blk j) β S m w := by
 have hni : i ∉ pend := fun q => O.new (A.sub i q).1
 have hself := G.self i O.lt ha
 have hkeep : ∀ t, t ∈ (qw ops i).looksAt ops → (a.put (qw ops i).dst v).get t = a.get t := fun t ht => by
  rw [yH, if_neg]
  rintro ⟨h1, _⟩
  exact hself t h1 ht
 have hstep : Step β₀ h₀ w₀ β h' w := by
  rcases hh with ⟨rfl, _⟩ | ⟨q, rfl, _⟩
  ·exact A.step
  ·exact A.step.push
 have hrel : Rel P β h' w := by
  rcases hh with ⟨rfl, _⟩ | ⟨q, rfl, _⟩
  ·exact A.rel
  ·exact A.rel.push q
 have hne : ∀ j ∈ pend, j ≠ i := fun j hj e => hni (e ▸ hj)
 refine ⟨fun j => ?_, A.closed, fun j hj => ?_, fun j hj => ?_, fun j hj k hk => ?_, A.defers, by rw [uH]; exact A.size, fun t u e => ?_, fun t u e hn => ?_, hrel, hstep, fun j hj => ?_, fun j hj k hk b e e' => ?_, fun j hj b e => ?_⟩
 ·rw [A.done]
  simp only [List.mem_append, List.mem_cons, List.not_mem_nil, or_false, not_or]
  constructor
  ·rintro ⟨h1, h2⟩
   exact ⟨.inl h1, fun e => O.new (e ▸ h1), h2⟩
  ·rintro ⟨h1 | h1, h2, h3⟩
   ·exact ⟨h1, h3⟩
   ·exact absurd h1 h2
 ·rcases List.mem_cons.1 hj with rfl | hj
  ·exact ⟨by simp, ha⟩
  ·exact ⟨by simp [(A.sub j hj).1], (A.sub j hj).2⟩
 ·rcases List.mem_append.1 hj with h1 | h1
  ·exact A.lt j h1
  ·rw [List.mem_singleton.1 h1]; exact O.lt
 ·rcases List.mem_append.1 hj with h1 | h1
  ·exact List.mem_append_left _ (A.tpre j h1 k hk)
  ·rw [List.mem_singleton.1 h1] at hk
   exact List.mem_append_left _ (O.tpre k hk).1
 ·rw [uH]
  rw [yH] at e
  split at e
  ·rename_i q; exact q.2
  ·exact A.low t u e
 ·rw [yH, if_neg (fun q => hn i (by simp) q.1)] at e
  exact A.slots t u e fun j hj => hn j (by simp [hj])
 ·rcases List.mem_cons.1 hj with rfl | hj
  ·rw [if_pos rfl]
   refine ⟨v, ?_, fun t e hlt => ?_⟩
   ·refine hp.keep hkeep (fun hw hv => ?_) (fun b q _ hg hb => ⟨hg, hb⟩)
    rw [Qu (J5 hkeep)]; exact hv
   ·rw [yH, if_pos ⟨e, by rwa [uH] at hlt⟩]
  ·obtain ⟨u, hp1, hs⟩ := A.pends j hj
   obtain ⟨hjp, hja⟩ := A.sub j hj
   rw [if_neg (hne j hj)]
   have hkj : ∀ t, t ∈ (qw ops j).looksAt ops → (a.put (qw ops i).dst v).get t = a.get t := fun t ht => by
    rw [yH, if_neg]
    rintro ⟨h1, _⟩
    exact O.new (A.tpre j hjp i ((G.flt i j O.lt (A.lt j hjp) (hne j hj).symm ha t h1).2 ht))
   refine ⟨u, hp1.keep hkj (fun hw hv => ?_) (fun b q _ hg hb => ?_), fun t e hlt => ?_⟩
   ·rw [Qu (J5 hkj)]
    rcases hh with ⟨rfl, _⟩ | ⟨q, rfl, _⟩
    ·exact hv
    ·exact a9u hv
   ·rcases hh with ⟨rfl, _⟩ | ⟨q, rfl, _⟩
    ·exact ⟨hg, hb⟩
    ·exact ⟨Heap.get_push_of hg, hb⟩
   ·rw [uH] at hlt
    rw [yH, if_neg]
    ·exact hs t e hlt
    ·rintro ⟨h1, _⟩
     exact (G.flt i j O.lt (A.lt j hjp) (hne j hj).symm ha t h1).1 e
 ·have old : ∀ j ∈ pend, ∀ b, blk j = some b → bl = some b → False := fun j hj b e1 e2 => by
   have := (A.fresh j hj b e1).2
   rcases hh with ⟨_, hbl⟩ | ⟨q, _, hbl⟩
   ·rw [hbl] at e2; cases e2
   ·rw [hbl] at e2; cases e2; omega
  rcases List.mem_cons.1 hj with rfl | hj1
  ·rcases List.mem_cons.1 hk with rfl | hk1
   ·rfl
   ·rw [if_pos rfl] at e
    rw [if_neg (hne k hk1)] at e'
    exact (old k hk1 b e' e).elim
  ·rw [if_neg (hne j hj1)] at e
   rcases List.mem_cons.1 hk with rfl | hk1
   ·rw [if_pos rfl] at e'
    exact (old j hj1 b e e').elim
   ·rw [if_neg (hne k hk1)] at e'
    exact A.apart j hj1 k hk1 b e e'
 ·have hnx : h.next ≤ h'.next := by
   rcases hh with ⟨rfl, _⟩ | ⟨q, rfl, _⟩
   ·exact Nat.le_refl _
   ·simp
  rcases List.mem_cons.1 hj with rfl | hj1
  ·rw [if_pos rfl] at e
   rcases hh with ⟨_, hbl⟩ | ⟨q, rfl, hbl⟩
   ·rw [hbl] at e; cases e
   ·rw [hbl] at e; cases e
    exact ⟨A.step.next, by simp⟩
  ·rw [if_neg (hne j hj1)] at e
   have := A.fresh j hj1 b e
   exact ⟨this.1, Nat.lt_of_lt_of_le this.2 hnx⟩
theorem Amid.acted (A : Amid P ops T D β₀ h₀ w₀ pre a h pend blk β S m w) (G : Glob P ops T) (hr₀ : Rel P β₀ h₀ w₀) {i : Nat} {ks : List Nat} {r : List (Nat × List Nat)} (O : OkGo P ops T pre i ks r) (ha : acts (qw ops i).op = true)
  (hp : ∀ p ∈ preds (qw ops i), S p) {v mv : Value} {h' : Heap} {β' : Place} {w' : World} (hv : VRel β' v mv) (hr : Rel P β' h' w') (st : Step β h w β' h' w')
  (hc : wv P (a.put (qw ops i).dst v) h' (ks.map fun k => jo ops (qw ops k)))
  {S' : Nat → Prop} (hS : ∀ j, S' j ↔ S j ∨ j = i) : Amid P ops T D β₀ h₀ w₀ (pre ++ [i]) (a.put (qw ops i).dst v) h' pend blk β' S' (m.put (qw ops i).dst mv) w' := by
 have hni : i ∉ pend := fun q => O.new (A.sub i q).1
 have hne : ∀ j ∈ pend, j ≠ i := fun j hj e => hni (e ▸ hj)
 have hcc := G.cc i O.lt S A.closed hp
 have hfar : ∀ j ∈ pend, ∀ d, (qw ops i).dst = some d → d ∉ (qw ops j).looksAt ops ∧ (qw ops j).dst ≠ some d := fun j hj d hd => by
  obtain ⟨hjp, hja⟩ := A.sub j hj
  rcases G.act i j O.lt (A.lt j hjp) (hne j hj).symm ha d hd with h1 | h1 | h1
  ·exact h1
  ·exact absurd hj ((A.done j).1 (hcc j h1)).2
  ·exact absurd (A.tpre j hjp i h1) O.new
 have hck : ∀ k ∈ ks, uQ P (jo ops (qw ops k)) (a.put (qw ops i).dst v) h' := by
  clear O
  induction ks with
  | nil => simp
  | cons k ks ih =>
   intro j hj
   rcases List.mem_cons.1 hj with rfl | hj
   ·exact hc.1
   ·exact ih hc.2 j hj
 refine ⟨fun j => ?_, fun j hj p hp' => ?_, fun j hj => ?_, fun j hj => ?_, fun j hj k hk => ?_, by rw [JH]; exact A.defers, by rw [Vx, uH]; exact A.size, fun t u e => ?_, fun t u e hn => ?_, hr, A.step.trans hr₀ st, fun j hj => ?_, A.apart, fun j hj b e => ?_⟩
 ·rw [hS, A.done]
  simp only [List.mem_append, List.mem_singleton]
  constructor
  ·rintro (⟨h1, h2⟩ | rfl)
   ·exact ⟨.inl h1, h2⟩
   ·exact ⟨.inr rfl, hni⟩
  ·rintro ⟨h1 | h1, h2⟩
   ·exact .inl ⟨h1, h2⟩
   ·exact .inr h1
 ·rcases (hS j).1 hj with h1 | rfl
  ·exact (hS p).2 (.inl (A.closed j h1 p hp'))
  ·exact (hS p).2 (.inl (hp p hp'))
 ·exact ⟨List.mem_append_left _ (A.sub j hj).1, (A.sub j hj).2⟩
 ·rcases List.mem_append.1 hj with h1 | h1
  ·exact A.lt j h1
  ·rw [List.mem_singleton.1 h1]; exact O.lt
 ·rcases List.mem_append.1 hj with h1 | h1
  ·exact List.mem_append_left _ (A.tpre j h1 k hk)
  ·rw [List.mem_singleton.1 h1] at hk
   exact List.mem_append_left _ (O.tpre k hk).1
 ·rw [uH]
  rw [yH] at e
  split at e
  ·rename_i q; exact q.2
  ·exact A.low t u e
 ·rw [yH] at e
  rw [xO, A.size]
  by_cases hd : (qw ops i).dst = some t ∧ t < a.n
  ·rw [if_pos hd] at e ⊢
   cases e
   exact ⟨mv, rfl, hv⟩
  ·rw [if_neg hd] at e ⊢
   obtain ⟨mu, e1, r1⟩ := A.slots t u e hn
   exact ⟨mu, e1, r1.mono st.place⟩
 ·obtain ⟨u, hp1, hs⟩ := A.pends j hj
  obtain ⟨hjp, hja⟩ := A.sub j hj
  have hkj : ∀ t, t ∈ (qw ops j).looksAt ops → (a.put (qw ops i).dst v).get t = a.get t := fun t ht => by
   rw [yH, if_neg]
   rintro ⟨h1, _⟩
   exact (hfar j hj t h1).1 ht
  have hsj : ∀ t, (qw ops j).dst = some t → (a.put (qw ops i).dst v).get t = a.get t := fun t ht => by
   rw [yH, if_neg]
   rintro ⟨h1, _⟩
   exact (hfar j hj t h1).2 ht
  refine ⟨u, hp1.keep hkj (fun hw hv => ?_) (fun b q hbl hg hb => ?_), fun t e hlt => ?_⟩
  ·by_cases hm : yQ P (qw ops j).op = true
   ·rcases O.chk ha j hjp hja hm with h1 | h1
    ·exact absurd hj ((A.done j).1 (hcc j h1)).2
    ·have hcj := hck j h1
     have hfin : ((Qf (a.put (qw ops i).dst v) (qw ops j).dst).isSome = true ∧ qO P (qw ops j).op (a.put (qw ops i).dst v).ev h' = Qf (a.put (qw ops i).dst v) (qw ops j).dst) → qO P (qw ops j).op (a.put (qw ops i).dst v).ev h' = some u := by
      rintro ⟨h2, h3⟩
      rw [h3]
      cases hd : (qw ops j).dst with
      | none => rw [hd] at h2; simp [Qf] at h2
      | some t =>
       rw [hd] at h2
       simp only [Qf] at h2 ⊢
       rw [hsj t hd] at h2 ⊢
       cases hg : a.get t with
       | none => rw [hg] at h2; cases h2
       | some u' => rw [← hg]; exact hs t hd (A.low t u' hg)
     unfold uQ at hcj
     simp only [jo] at hcj
     cases hgd : (qw ops j).guard with
     | none => simp only [hgd, Option.map_none] at hcj; exact hfin hcj
     | some p =>
      obtain ⟨g, want⟩ := p
      simp only [hgd, Option.map_some] at hcj
      rcases hcj with h2 | h2
      ·have h3 : QS ops (qw ops j) (a.put (qw ops i).dst v) = some false := by
        unfold QS
        simp only [hgd]
        exact h2
       rw [jV hkj, hw] at h3
       cases h3
      ·exact hfin h2
   ·rw [Qu (J5 hkj), abJ (h' := h) (by simpa using hm)]
    exact hv
  ·obtain ⟨h1, h2⟩ := st.stays b (h.wf _ _ hg) hb
   exact ⟨h2.trans hg, h1⟩
  ·rw [uH] at hlt
   rw [hsj t e]
   exact hs t e hlt
 ·have := A.fresh j hj b e
  exact ⟨this.1, Nat.lt_of_lt_of_le this.2 st.next⟩
theorem Amid.act (A : Amid P ops T D β₀ h₀ w₀ pre a h pend blk β S m w) (G : Glob P ops T) (hr₀ : Rel P β₀ h₀ w₀) {i : Nat} {ks : List Nat} {r : List (Nat × List Nat)} (O : OkGo P ops T pre i ks r) (ha : acts (qw ops i).op = true)
  (hp : ∀ p ∈ preds (qw ops i), S p) {next : Act → World → Prop} {K : Frm → Heap → Prop} {S' : Nat → Prop} (hS : ∀ j, S' j ↔ S j ∨ j = i)
  (hw : cWp P [jo ops (qw ops i)] (fun a h => wv P a h (ks.map fun k => jo ops (qw ops k)) ∧ K a h) a h)
  (hn : ∀ a' h' β' m' w', K a' h' → Amid P ops T D β₀ h₀ w₀ (pre ++ [i]) a' h' pend blk β' S' m' w' → next m' w') : ItemS ro P ops i next m w := by
 have hni : i ∉ pend := fun q => O.new (A.sub i q).1
 have hsee := A.sees G O.lt hp (.inr ⟨hni, O.new⟩)
 rcases a4Q hw with ⟨h1, h2⟩ | ⟨h1, h2, h3⟩
 ·have hw' := yR hsee (by rw [jV wD]; exact h1)
  refine JO (yv O.lt) hw' (uT hsee.rho A.rel (by rw [acJ (J5 wD)]; exact h2) ?_)
  rintro v h' β' mv w' ⟨hc, hK⟩ hv hr st
  exact hn _ _ _ _ _ hK (A.acted G hr₀ O ha hp hv hr st hc hS)
 ·have hw' := yR hsee (by rw [jV wD]; exact h1)
  exact a0d (yv O.lt) hw' (hn _ _ _ _ _ h3 (A.acted G hr₀ O ha hp VRel.undef A.rel (Step.refl _ _ _) h2 hS))
end
end Go.Sim
namespace Go.Sim
open Go.RowKit
section
variable {ro : Option Nat} {D : List Deferred} {P : Program} {ops : Array Oper} {T : List (List Nat)} {β₀ : Place} {h₀ : Heap} {w₀ : World} {β : Place} {S : Nat → Prop} {m : Act} {w : World} {K : Frm → Heap → Prop}
theorem Amid.advance (G : Glob P ops T) : ∀ (rest : List (Nat × List Nat)) {pre : List Nat} {a : Frm} {h : Heap} {pend : List Nat} {blk : Nat → Option Nat}, Amid P ops T D β₀ h₀ w₀ pre a h pend blk β S m w →
  YQ P ops T pre rest = true → dWp P (vR ops rest) K a h →
  ∃ rest' pre' a' h' pend' blk', Amid P ops T D β₀ h₀ w₀ pre' a' h' pend' blk' β S m w ∧ YQ P ops T pre' rest' = true ∧ dWp P (vR ops rest') K a' h' ∧ pre' ++ rest'.map (·.1) = pre ++ rest.map (·.1) ∧
   (rest' = [] ∨ ∃ i ks r, rest' = (i, ks) :: r ∧ acts (qw ops i).op = true)
 | [], pre, a, h, pend, blk, A, ho, hw => ⟨[], pre, a, h, pend, blk, A, ho, hw, rfl, .inl rfl⟩
 | (i, ks) :: r, pre, a, h, pend, blk, A, ho, hw => by
  have O := Qz ho
  by_cases ha : acts (qw ops i).op = true
  ·exact ⟨(i, ks) :: r, pre, a, h, pend, blk, A, ho, hw, rfl, .inr ⟨i, ks, r, rfl, ha⟩⟩
  ·have ha' : acts (qw ops i).op = false := by simpa using ha
   have hw' : cWp P [jo ops (qw ops i)] (fun a h => wv P a h (ks.map fun k => jo ops (qw ops k)) ∧ dWp P (vR ops r) K a h) a h := hw
   have go : ∀ (v : Value) (h' : Heap) (bl : Option Nat), PendV P ops a h' β bl (qw ops i) v → ((h' = h ∧ bl = none) ∨ ∃ q, h' = h.push q ∧ bl = some h.next) → dWp P (vR ops r) K (a.put (qw ops i).dst v) h' →
     ∃ rest' pre' a' h' pend' blk', Amid P ops T D β₀ h₀ w₀ pre' a' h' pend' blk' β S m w ∧ YQ P ops T pre' rest' = true ∧ dWp P (vR ops rest') K a' h' ∧ pre' ++ rest'.map (·.1) = pre ++ ((i, ks) :: r).map (·.1) ∧
      (rest' = [] ∨ ∃ i ks r, rest' = (i, ks) :: r ∧ acts (qw ops i).op = true) := by
    intro v h' bl hp hh hd
    obtain ⟨rest', pre', a', h2, pend', blk', A', ho', hw2, e, hr⟩ := Amid.advance G r (A.float G O ha' hp hh) O.rest hd
    exact ⟨rest', pre', a', h2, pend', blk', A', ho', hw2, by rw [e]; simp, hr⟩
   rcases a4Q hw' with ⟨h1, h2⟩ | ⟨h1, _, h3⟩
   ·rcases a8C (agv ha') h2 with ⟨v, hv, _, h3⟩ | ⟨q, mk, hn, _, h3⟩
    ·exact go v h none (.read h1 hv) (.inl ⟨rfl, rfl⟩) h3
    ·exact go (mk h.next) (h.push q) (some h.next) (.new h1 h.next q mk rfl hn rfl (Heap.get_push_self h q) A.rel.noNext) (.inr ⟨q, rfl, rfl⟩) h3
   ·exact go undef h none (.no h1 rfl) (.inl ⟨rfl, rfl⟩) h3
theorem adE (G : Glob P ops T) (hr₀ : Rel P β₀ h₀ w₀) {E : List (Nat × List Nat)} (hE : YQ P ops T [] E = true) (hall : ∀ i, i < ops.size → i ∈ E.map (·.1)) {R : Act → World → Prop}
  (hR : ∀ a' h' β' m' w', K a' h' → ARel D β' a' m' → Rel P β' h' w' → Step β₀ h₀ w₀ β' h' w' → R m' w') :
  ∀ (fuel : Nat) (l : List Nat) (rest : List (Nat × List Nat)) (pre : List Nat) (a : Frm) (h : Heap) (pend : List Nat) (blk : Nat → Option Nat) (β : Place) (listed : Array Bool) (m : Act) (w : World),
   l.length ≤ fuel → (∀ i, i < ops.size → listed.getD i false = false → i ∈ l) → listed.size = ops.size → pre ++ rest.map (·.1) = E.map (·.1) →
   Amid P ops T D β₀ h₀ w₀ pre a h pend blk β (fun i => listed.getD i false = true) m w → YQ P ops T pre rest = true → dWp P (vR ops rest) K a h → agN ro P ops R fuel listed m w := by
 have fin : ∀ (rest : List (Nat × List Nat)) (pre : List Nat) (a : Frm) (h : Heap) (pend : List Nat) (blk : Nat → Option Nat) (β : Place) (listed : Array Bool) (m : Act) (w : World), (∀ i, i < ops.size → listed.getD i false = true) →
   Amid P ops T D β₀ h₀ w₀ pre a h pend blk β (fun i => listed.getD i false = true) m w → YQ P ops T pre rest = true → dWp P (vR ops rest) K a h → R m w := by
  intro rest pre a h pend blk β listed m w hl A ho hw
  have hpend : pend = [] := by
   cases hp : pend with
   | nil => rfl
   | cons i is =>
    have hi : i ∈ pend := by rw [hp]; simp
    exact absurd hi ((A.done i).1 (hl i (A.lt i (A.sub i hi).1))).2
  cases rest with
  | nil =>
   subst hpend
   exact hR a h β m w hw ⟨A.defers, A.size, fun t v e => A.slots t v e (by simp)⟩ A.rel A.step
  | cons e r =>
   obtain ⟨i, ks⟩ := e
   have O := Qz ho
   exact absurd ((A.done i).1 (hl i O.lt)).1 O.new
 have noready : ∀ (listed : Array Bool), listed.size = ops.size → (∀ i, i < ops.size → listed.getD i false = true) → Region.ready .any ops listed = [] := by
  intro listed hsz hl
  cases hq : Region.ready .any ops listed with
  | nil => rfl
  | cons j js =>
   have : j ∈ Region.ready .any ops listed := by rw [hq]; simp
   obtain ⟨h1, o, h2, _⟩ := mem_ready.1 this
   have hlt : j < ops.size := (Array.getElem?_eq_some_iff.1 h2).1
   have h3 := hl j hlt
   simp [Array.getD_eq_getD_getElem?, Array.getElem?_eq_getElem (show j < listed.size by omega)] at h1 h3
   rw [h1] at h3
   cases h3
 have predsAt : ∀ (listed : Array Bool) i, i ∈ Region.ready .any ops listed → i < ops.size ∧ listed.getD i true = false ∧ ∀ p ∈ preds (qw ops i), listed.getD p false = true := by
  intro listed i hi
  obtain ⟨h1, o, h2, h3⟩ := mem_ready.1 hi
  have hlt : i < ops.size := (Array.getElem?_eq_some_iff.1 h2).1
  have : o = qw ops i := by
   have := yv hlt
   rw [h2] at this
   exact Option.some.inj this
  subst this
  refine ⟨hlt, h1, fun p hp => ?_⟩
  unfold preds at hp
  obtain ⟨e, he, hpe⟩ := List.mem_filterMap.1 hp
  split at hpe
  ·rename_i hb
   cases hpe
   exact h3 e (by simpa using he) hb
  ·cases hpe
 intro fuel
 induction fuel with
 | zero =>
  intro l rest pre a h pend blk β listed m w hlen hl hsz _ A ho hw
  have hl0 : l = [] := List.length_eq_zero_iff.1 (by omega)
  subst hl0
  have hall' : ∀ i, i < ops.size → listed.getD i false = true := fun i hi => by
   cases hq : listed.getD i false with
   | true => rfl
   | false => exact absurd (hl i hi hq) (by simp)
  exact ⟨noready listed hsz hall', fin rest pre a h pend blk β listed m w hall' A ho hw⟩
 | succ fuel ih =>
  intro l rest pre a h pend blk β listed m w hlen hl hsz hpr A ho hw
  refine ⟨fun hnil => ?_, fun i hi => ?_⟩
  ·have hall' : ∀ i, i < ops.size → listed.getD i false = true := by
    intro i hi
    cases hq : listed.getD i false with
    | true => rfl
    | false =>
     obtain ⟨j, hj, hns, hp⟩ := uV (S := fun i => listed.getD i false = true) E [] (by simp) hE ⟨i, hall i hi, by simp [hq]⟩
     have : j ∈ Region.ready .any ops listed := by
      refine mem_ready.2 ⟨?_, qw ops j, yv hj, fun e he hb => ?_⟩
      ·simp [Array.getD_eq_getD_getElem?, Array.getElem?_eq_getElem (show j < listed.size by omega)] at hns ⊢
       exact hns
      ·exact hp e.on (List.mem_filterMap.2 ⟨e, by simpa using he, by rw [if_pos hb]⟩)
     rw [hnil] at this
     cases this
   exact fin rest pre a h pend blk β listed m w hall' A ho hw
  ·obtain ⟨hlt, hun, hp⟩ := predsAt listed i hi
   have hunf : listed.getD i false = false := by
    simp [Array.getD_eq_getD_getElem?, Array.getElem?_eq_getElem (show i < listed.size by omega)] at hun ⊢
    exact hun
   have hS : ∀ j, (listed.setIfInBounds i true).getD j false = true ↔ listed.getD j false = true ∨ j = i := by
    intro j
    by_cases e : j = i
    ·subst e
     simp [Array.getD_eq_getD_getElem?, show j < listed.size by omega]
    ·rw [getD_set_ne false (Ne.symm e)]
     simp [e]
   have hl' : ∀ j, j < ops.size → (listed.setIfInBounds i true).getD j false = false → j ∈ l.erase i := by
    intro j hj hf
    have hji : j ≠ i := by
     rintro rfl
     rw [(hS j).2 (.inr rfl)] at hf
     cases hf
    rw [getD_set_ne false (Ne.symm hji)] at hf
    exact (List.mem_erase_of_ne hji).2 (hl j hj hf)
   have hlen' : (l.erase i).length ≤ fuel := by
    rw [List.length_erase_of_mem (hl i hlt hunf)]
    omega
   obtain ⟨rest', pre', a', h', pend', blk', A', ho', hw', hpr', hshape⟩ := A.advance G rest ho hw
   have hin : i ∈ pre' ++ rest'.map (·.1) := by rw [hpr', hpr]; exact hall i hlt
   by_cases hpi : i ∈ pend'
   ·refine A'.catch G hpi hp hS fun β2 m2 w2 A2 => ?_
    exact ih _ rest' pre' a' h' _ blk' β2 _ m2 w2 hlen' hl' (by simpa using hsz) (hpr'.trans hpr) A2 ho' hw'
   ·have hnpre : i ∉ pre' := fun q => by
     have := (A'.done i).2 ⟨q, hpi⟩
     rw [hunf] at this
     cases this
    rcases List.mem_append.1 hin with h1 | h1
    ·exact absurd h1 hnpre
    ·rcases hshape with rfl | ⟨k, ks, r, rfl, hk⟩
     ·simp at h1
     ·have O := Qz ho'
      have hki : i = k := by
       apply Classical.byContradiction
       intro hne
       simp only [List.map_cons, List.mem_cons] at h1
       have h2 : i ∈ r.map (·.1) := h1.resolve_left hne
       have key : ∀ (r : List (Nat × List Nat)) (pr : List Nat), YQ P ops T pr r = true → k ∈ pr → i ∈ r.map (·.1) → k ∈ tbl T i := by
        intro r
        induction r with
        | nil => intro pr _ _ hi; simp at hi
        | cons e r ihr =>
         obtain ⟨x, xs⟩ := e
         intro pr hok hkp hir
         have O' := Qz hok
         by_cases hx : i = x
         ·subst hx; exact O'.acts k hkp hk
         ·simp only [List.map_cons, List.mem_cons] at hir
          exact ihr (pr ++ [x]) O'.rest (by simp [hkp]) (hir.resolve_left hx)
       have h3 := key r (pre' ++ [k]) O.rest (by simp) h2
       have h4 := G.cc i hlt _ A'.closed hp k h3
       exact absurd ((A'.done k).1 h4).1 O.new
      subst hki
      refine A'.act G hr₀ O hk hp hS hw' fun a2 h2 β2 m2 w2 hK2 A2 => ?_
      exact ih _ r (pre' ++ [i]) a2 h2 pend' blk' β2 _ m2 w2 hlen' hl' (by simpa using hsz) (by rw [← hpr, ← hpr']; simp) A2 O.rest hK2
theorem a56 {E : List (Nat × List Nat)} (hok : a3E P ops T E = true) : Glob P ops T ∧ YQ P ops T [] E = true ∧ ∀ i, i < ops.size → i ∈ E.map (·.1) := by
 simp only [a3E, Bool.and_eq_true, List.all_eq_true, List.mem_range, List.contains_eq_mem, decide_eq_true_eq] at hok
 obtain ⟨⟨⟨h1, h2⟩, h3⟩, h4⟩ := hok
 refine ⟨⟨fun i hi => a9O E [] (by simp) h1 i (.inr (h2 i hi)), fun i hi ha d hd => ?_, fun i j hi hj hne ha d hd => ?_, fun i j hi hj hne ha d hd => ?_⟩, h1, h2⟩
 ·have := h3 i hi
  simpa [ae5, ha, hd] using this
 ·have := h4 i hi j hj
  simp [a8Q, ha, hd, hne] at this
  refine ⟨this.1, fun q => ?_⟩
  rcases this.2 with h | h
  ·exact absurd q h
  ·exact h
 ·have := h4 i hi j hj
  simp [a8Q, ha, hd, hne] at this
  rcases this with (h | h) | h
  ·exact .inl h
  ·exact .inr (.inl h)
  ·exact .inr (.inr h)
theorem af7 {id : Nat} {Q : Exit → Frm → Heap → Prop} {a : Frm} {h : Heap} (hm : P.follows .mixedOrders = true) {E : List (Nat × List Nat)} (hok : a3E P ops T E = true) (hw : dWp P (vR ops E) (Q .normal) a h) :
  AWp P (.region id ops true) Q a h := by
 obtain ⟨G, hE, hall⟩ := a56 hok
 intro ro D β m w ha hr ok
 refine a7z hm ?_
 have hr' : Rel P β h { w with drawn := w.drawn + 1 } := hr.same rfl
 have hst : Step β h w β h { w with drawn := w.drawn + 1 } := Step.same rfl rfl rfl rfl
 refine adE (β₀ := β) (h₀ := h) (K := Q .normal) G hr' hE hall (fun a' h' β' m' w' hK h1 h2 h3 => ⟨a', h', β', D, h1, h2, .of (hst.trans hr h3), hK⟩) ops.size (List.range ops.size) E [] a h [] (fun _ => none) β _ m _ (by simp) (fun i hi _ => by simpa using hi) (by simp) rfl ?_ hE hw
 refine ⟨fun i => ?_, fun i hi => ?_, by simp, by simp, by simp, ha.defers, ha.size, fun t v e => ?_, fun t v e _ => ha.rel t v e, hr', Step.refl _ _ _, by simp, by simp, by simp⟩
 ·simp [Array.getD_eq_getD_getElem?, Array.getElem?_replicate]
  split <;> simp
 ·simp [Array.getD_eq_getD_getElem?, Array.getElem?_replicate] at hi
  split at hi <;> simp at hi
 ·obtain ⟨mv, e1, _⟩ := ha.rel t v e
  have := (Array.getElem?_eq_some_iff.1 e1).1
  rw [ha.size] at this
  exact this
end
end Go.Sim
namespace Go.Sim
open Go.RowKit
theorem Qa {P : Program} {t e : TypeId} {s : Nat} (hu : P.underlying t = some (.slice e)) (hs : szT P e = some s) (b o len c : Nat) (k : IntKind) (i : Int) :
  kI P t (.slice (some ⟨b, o, none⟩) len c) (.int k i) = if 0 ≤ i ∧ i < len then some (.pointer (some ⟨b, o + i.toNat * s, none⟩)) else none := by
 unfold kI
 rw [hu]
 by_cases h0 : 0 ≤ i
 ·simp only [jb, h0, if_true, hs]
  have : i.toNat < len ↔ i < len := by omega
  simp [this]
 ·simp [jb, h0]
theorem Xz {P : Program} {t e : TypeId} {s len : Nat} (hu : P.underlying t = some (.array len e)) (hs : szT P e = some s) (b o : Nat) (k : IntKind) (i : Int) :
  kI P t (.pointer (some ⟨b, o, none⟩)) (.int k i) = if 0 ≤ i ∧ i < len then some (.pointer (some ⟨b, o + i.toNat * s, none⟩)) else none := by
 unfold kI
 rw [hu]
 by_cases h0 : 0 ≤ i
 ·simp only [jb, h0, if_true, hs]
  have : i.toNat < len ↔ i < len := by omega
  simp [this]
 ·simp [jb, h0]
theorem a6B {P : Program} {t e : TypeId} {s len : Nat} (hu : P.underlying t = some (.array len e)) (hs : szT P e = some s) (cs : List Value) (k : IntKind) (i : Int) :
  KP P t (.agg cs.toArray) (.int k i) = if 0 ≤ i ∧ i < len then y9 P e cs (i.toNat * s) else none := by
 unfold KP
 rw [hu]
 by_cases h0 : 0 ≤ i
 ·simp only [jb, h0, if_true, hs]
  have : i.toNat < len ↔ i < len := by omega
  simp [this]
 ·simp [jb, h0]
theorem a2R {P : Program} {t : TypeId} (hu : P.underlying t = some .string) (s : ByteArray) (k : IntKind) (i : Int) :
  KP P t (.string s) (.int k i) = if 0 ≤ i then (s[i.toNat]?).map (fun b => .int .u8 b.toNat) else none := by
 unfold KP
 rw [hu]
 by_cases h0 : 0 ≤ i
 ·simp only [jb, h0, if_true]
 ·simp [jb, h0]
def aa0 (P : Program) (t : TypeId) : Value := ((P.info? t).bind (·.zero)).getD undef
def QK (place : Nat → Option (Nat × Nat)) (cells : List Value) : List (Nat × Value) → Option (List Value)
 | [] => some cells
 | (i, v) :: r => match place i with
  | none => none
  | some (off, sz) => if v.cells.size = sz ∧ off + sz ≤ cells.length then QK place (qG cells off v.cells.toList) r else none
theorem Yq : ∀ (l : List Value) (cs : Array Value) (off k : Nat), (l.zipIdx k).foldl (fun cs (x : Value × Nat) => cs.setIfInBounds (off + x.2) x.1) cs = (qG cs.toList (off + k) l).toArray
 | [], cs, off, k => by simp [qG]
 | v :: l, cs, off, k => by
  simp only [List.zipIdx_cons, List.foldl_cons]
  rw [Yq l]
  simp only [qG, Array.toList_setIfInBounds]
  rfl
theorem Y9 (place : Nat → Option (Nat × Nat)) : ∀ (ps : List (Nat × Value)) (cs : List Value), Instr.fill place cs.toArray ps = (QK place cs ps).map List.toArray
 | [], cs => rfl
 | (i, v) :: r, cs => by
  unfold Instr.fill QK
  cases hp : place i with
  | none => rfl
  | some p =>
   obtain ⟨off, sz⟩ := p
   simp only
   by_cases h : v.cells.size = sz ∧ off + sz ≤ cs.length
   ·rw [if_pos h, if_neg (by simp; omega)]
    rw [← Y9 place r]
    congr 1
    have := Yq v.cells.toList cs.toArray off 0
    rw [Nat.add_zero] at this
    rw [← this]
    rw [← Array.foldl_toList, Array.toList_zipIdx]
   ·rw [if_neg h, if_pos (by simp; omega)]
    rfl
theorem a3Z {P : Program} {t : TypeId} {fs : Array Field} {ps : List (Nat × Value)} {it : TypeInfo} {z : Value} {places : List (Nat × Nat)} (hu : P.underlying t = some (.struct fs)) (hz : vd P t = true)
  (hi : P.info? t = some it) (hv : it.zero = some z) (hp : fs.toList.mapM (fun f => (P.info? f.type).map fun i => (f.offset, i.size)) = some places) :
  ZV P t ps = (QK (places[·]?) z.cells.toList ps).map fun l => .agg l.toArray := by
 unfold ZV Program.built
 rw [if_pos hz, hi, hu]
 simp only [hv, hp]
 have e : ∀ i : Nat, places.toArray[i]? = places[i]? := fun i => by simp
 simp only [e]
 have : z.cells = z.cells.toList.toArray := by simp
 rw [this, Y9]
 rw [← this]
 cases QK (fun x => places[x]?) z.cells.toList ps <;> rfl
theorem a5L {P : Program} {t e : TypeId} {n : Nat} {ps : List (Nat × Value)} {it ie : TypeInfo} {z : Value} (hu : P.underlying t = some (.array n e)) (hz : vd P t = true)
  (hi : P.info? t = some it) (hv : it.zero = some z) (he : P.info? e = some ie) :
  ZV P t ps = (QK (fun i => some (i * ie.size, ie.size)) z.cells.toList ps).map fun l => .agg l.toArray := by
 unfold ZV Program.built
 rw [if_pos hz, hi, hu]
 simp only [hv, he]
 have : z.cells = z.cells.toList.toArray := by simp
 rw [this, Y9]
 rw [← this]
 cases QK (fun i => some (i * ie.size, ie.size)) z.cells.toList ps <;> rfl
theorem acp (place : Nat → Option (Nat × Nat)) (cs : List Value) : QK place cs [] = some cs := rfl
theorem a7H (place : Nat → Option (Nat × Nat)) (cs : List Value) (i : Nat) (v : Value) (r : List (Nat × Value)) : QK place cs ((i, v) :: r) = match place i with
  | none => none
  | some (off, sz) => if v.cells.size = sz ∧ off + sz ≤ cs.length then QK place (qG cs off v.cells.toList) r else none := rfl
attribute [push_cast] acp a7H
end Go.Sim
namespace Go.Sim
def ajq (P : Program) (l : List (C × List C)) (K : Frm → Heap → Prop) (a : Frm) (h : Heap) : Prop := dWp P l K a h
def agj (A B : Prop) : Prop := A ∧ B
theorem aaZ (B : Prop) : agj True B = B := by simp [agj]
theorem agC (P : Program) (K : Frm → Heap → Prop) (a : Frm) (h : Heap) : dWp P [] K a h = K a h := rfl
theorem abu (P : Program) (c : C) (r : List (C × List C)) (K : Frm → Heap → Prop) (a : Frm) (h : Heap) : dWp P ((c, []) :: r) K a h = cWp P [c] (dWp P r K) a h := by
 simp only [dWp, wv, true_and]
theorem ah1 (P : Program) (c k : C) (ks : List C) (r : List (C × List C)) (K : Frm → Heap → Prop) (a : Frm) (h : Heap) :
  dWp P ((c, k :: ks) :: r) K a h = cWp P [c] (fun a h => agj (wv P a h (k :: ks)) (ajq P r K a h)) a h := rfl
theorem a7b (P : Program) (a : Frm) (h : Heap) : wv P a h [] = True := rfl
theorem a55 (P : Program) (a : Frm) (h : Heap) (c : C) (r : List C) : wv P a h (c :: r) = (uQ P c a h ∧ wv P a h r) := rfl
theorem a8J (P : Program) (t : Tmp) (o : Op) (a : Frm) (h : Heap) : uQ P ⟨some t, o, none⟩ a h = ((a.get t).isSome = true ∧ qO P o a.ev h = a.get t) := rfl
theorem a87 (P : Program) (t : Tmp) (o : Op) (g : Option Tmp) (want : Bool) (a : Frm) (h : Heap) : uQ P ⟨some t, o, some (g, want)⟩ a h = (zE g want a = some false ∨ ((a.get t).isSome = true ∧ qO P o a.ev h = a.get t)) := rfl
theorem a8D (P : Program) (t : TypeId) (x : Operand) (a : Frm) (h : Heap) : qO P (.load t x) a.ev h = (a.ev x).bind (j4 P t h) := by
 simp only [qO]; cases a.ev x <;> rfl
theorem a4N (P : Program) (t : TypeId) (x : Operand) (lo hi mx : Option Operand) (a : Frm) (h : Heap) : qO P (.slice t x lo hi mx) a.ev h =
  (a.ev x).bind fun u => match wi a.ev lo, wi a.ev hi, wi a.ev mx with | some l, some hh, some m => z5 P (qU P h) t u l hh m | _, _, _ => none := by
 simp only [qO]; cases a.ev x <;> cases wi a.ev lo <;> cases wi a.ev hi <;> cases wi a.ev mx <;> rfl
attribute [go_sem ↓] agC abu ah1 a7b a55 a8J a87
attribute [push_cast] aaZ a8D a4N Option.bind_some Option.isSome_some true_and and_true or_true true_or false_or or_false
end Go.Sim
namespace Go.Sim
end Go.Sim
namespace Go.Sim
open Go.RowKit
def Has (n : Nat) (l : List (Nat × Value)) (a : Frm) : Prop := a.n = n ∧ ∀ p ∈ l, a.get p.1 = some p.2
def a5f (r : List (Nat × Value)) : List (Nat × Value) → Prop
 | [] => True
 | (t, v) :: l => y8 t r = some v ∧ a5f r l
theorem a76 (r : List (Nat × Value)) : ∀ l, a5f r l = ∀ p ∈ l, y8 p.1 r = some p.2
 | [] => by simp [a5f]
 | (t, v) :: l => by simp [a5f, a76 r l]
theorem agK (n n' : Nat) (l r : List (Nat × Value)) : Has n l ⟨n', r⟩ = (n' = n ∧ a5f r l) := by
 rw [a76]; rfl
theorem agw (r : List (Nat × Value)) : a5f r [] = True := rfl
theorem aff (t : Nat) (v : Value) (l r : List (Nat × Value)) : a5f r ((t, v) :: l) = (y8 t r = some v ∧ a5f r l) := rfl
section
variable {P : Program} {Q : Exit → Frm → Heap → Prop} {h : Heap} {c : Code}
end
structure Ext (h h' : Heap) : Prop where
 le : h.next ≤ h'.next
 get : ∀ b, b < h.next → h'.get b = h.get b
theorem Ext.refl (h : Heap) : Ext h h := ⟨Nat.le_refl _, fun _ _ => rfl⟩
theorem Ext.trans {h h1 h2 : Heap} (x : Ext h h1) (y : Ext h1 h2) : Ext h h2 :=
 ⟨Nat.le_trans x.le y.le, fun b hb => (y.get b (Nat.lt_of_lt_of_le hb x.le)).trans (x.get b hb)⟩
theorem Ext.push {h h' : Heap} (x : Ext h h') (o : AObj) : Ext h (h'.push o) :=
 ⟨by have := x.le; simp; omega, fun b hb => by rw [Heap.get_push_ne _ _ (by have := x.le; omega)]; exact x.get b hb⟩
theorem Ext.set {h h' : Heap} (x : Ext h h') {b : Nat} (hb : h.next ≤ b) (o : AObj) : Ext h (h'.set b o) :=
 ⟨x.le, fun c hc => by rw [Heap.get_set_ne _ _ (by omega)]; exact x.get c hc⟩
theorem Ext.kill {h h' : Heap} (x : Ext h h') {b : Nat} (hb : h.next ≤ b) : Ext h (h'.kill b) :=
 ⟨x.le, fun c hc => by rw [Heap.get_kill_ne _ (by omega)]; exact x.get c hc⟩
theorem a6w {h : Heap} {o : AObj} {b : Nat} (e : b = h.next) : (h.push o).get b = some o := by subst e; exact Heap.get_push_self h o
theorem get_push_ne {h : Heap} {o : AObj} {b : Nat} (e : b ≠ h.next) : (h.push o).get b = h.get b := Heap.get_push_ne h o e
theorem a9A {h : Heap} {o : AObj} {b c : Nat} (e : b = c) : (h.set c o).get b = (h.get b).map fun _ => o := by subst e; simp [Heap.get_set]
theorem get_set_ne {h : Heap} {o : AObj} {b c : Nat} (e : b ≠ c) : (h.set c o).get b = h.get b := Heap.get_set_ne h o e
theorem get_kill_ne {h : Heap} {b c : Nat} (e : b ≠ c) : (h.kill c).get b = h.get b := Heap.get_kill_ne h e
theorem agn (b : Nat) : wh b = .pointer (some ⟨b, 0, none⟩) := rfl
theorem ac1 (n c b : Nat) : qr n c b = .slice (some ⟨b, 0, none⟩) n c := rfl
attribute [push_cast] agK agw aff Heap.next_push Heap.next_set Heap.next_kill agn ac1 a6w get_push_ne a9A get_set_ne get_kill_ne
 List.toList_toArray List.append_nil List.nil_append List.cons_append List.size_toArray Nat.zero_add Nat.add_zero
 List.getElem?_toArray List.getElem?_cons_zero List.getElem?_cons_succ List.all_cons List.all_nil Bool.and_true Bool.true_and Bool.and_self Bool.not_true Bool.not_false List.set_cons_zero List.set_cons_succ List.drop_zero List.drop_succ_cons List.take_succ_cons List.take_zero List.take_nil List.drop_nil Nat.le_refl
end Go.Sim
namespace Go.Sim
theorem agM (p : Prop) {dp : Decidable p} : (!decide p) = decide (¬ p) := by simp
attribute [push_cast] agM decide_true decide_false not_true_eq_false not_false_eq_true Int.toNat_natCast Nat.mul_one
def SlAt (h : Heap) (v : Value) (e : TypeId) (xs : List Value) : Prop :=
 (v = .slice none 0 0 ∧ xs = []) ∨ (∃ b o, v = .slice (some ⟨b, o, none⟩) 0 dud ∧ xs = []) ∨ ∃ b o c cs rw, v = .slice (some ⟨b, o, none⟩) xs.length c ∧ h.get b = some (.cells cs e rw) ∧ (cs.drop o).take xs.length = xs ∧ xs.length ≤ maxLen
theorem SlAt.ext {h h' : Heap} {v : Value} {e : TypeId} {xs : List Value} (hs : SlAt h v e xs) (hx : Ext h h') : SlAt h' v e xs := by
 rcases hs with hs | hs | ⟨b, o, c, cs, rw, h1, h2, h3⟩
 ·exact .inl hs
 ·exact .inr (.inl hs)
 ·exact .inr (.inr ⟨b, o, c, cs, rw, h1, (hx.get b (h.wf _ _ h2)).trans h2, h3⟩)
end Go.Sim
namespace Go.Sim
end Go.Sim
namespace Go.Sim
def OwnSl (h₀ h : Heap) (v : Value) (e : TypeId) (xs : List Value) : Prop :=
 (v = .slice none 0 0 ∧ xs = []) ∨ ∃ b o c cs, v = .slice (some ⟨b, o, none⟩) xs.length c ∧ c ≠ dud ∧ (c ≠ qB ∧ (c = unk ∨ (xs.length ≤ c ∧ c ≤ maxLen))) ∧ h₀.next ≤ b ∧ h.get b = some (.cells cs e true) ∧ (cs.drop o).take xs.length = xs ∧ xs.length ≤ maxLen ∧ o + xs.length ≤ cs.length
theorem OwnSl.at {h₀ h : Heap} {v : Value} {e : TypeId} {xs : List Value} (hs : OwnSl h₀ h v e xs) : SlAt h v e xs := by
 rcases hs with hs | ⟨b, o, c, cs, h1, _, _, _, h2, h3, h4, _⟩
 ·exact .inl hs
 ·exact .inr (.inr ⟨b, o, c, cs, true, h1, h2, h3, h4⟩)
theorem OwnSl.ext {h₀ h h' : Heap} {v : Value} {e : TypeId} {xs : List Value} (hs : OwnSl h₀ h v e xs) (hx : Ext h h') : OwnSl h₀ h' v e xs := by
 rcases hs with hs | ⟨b, o, c, cs, h1, h2, h3, h4, h5, h6⟩
 ·exact .inl hs
 ·exact .inr ⟨b, o, c, cs, h1, h2, h3, h4, (hx.get b (h.wf _ _ h5)).trans h5, h6⟩
def a2Z : Value → Option Nat
 | .slice (some ⟨b, _, none⟩) _ _ => some b
 | .pointer (some ⟨b, _, none⟩) => some b
 | .map (some b) => some b
 | _ => none
def aji (P : Program) (ts : List TypeId) (h : Heap) (s x : Value) (K : Value → Heap → Prop) : Prop := VK (jq P ts h s x) K
theorem a42 (P : Program) (d : Option Tmp) (r : List C) (K : Frm → Heap → Prop) (a : Frm) (h : Heap) (x y : Operand) (ts : List TypeId) : cWp P (⟨d, .call ⟨.builtin .append, #[x, y], ts.toArray⟩, none⟩ :: r) K a h =
  qC (a.ev x) fun u => qC (a.ev y) fun v => aji P ts h u v fun v h' => X7 P r K (a.put d v) h' := a5Y P d r K a h x y ts
attribute [go_sem ↓] a42
end Go.Sim
namespace Go.Sim
theorem abK (z : List Value) (n : Nat) : wb z n = (List.replicate n z).flatten := rfl
attribute [push_cast] abK List.flatten_cons List.flatten_nil
end Go.Sim
namespace Go.Sim
structure ExtB (b : Nat) (h h' : Heap) : Prop where
 le : h.next ≤ h'.next
 get : ∀ c, c < h.next → c ≠ b → h'.get c = h.get c
theorem ExtB.refl (b : Nat) (h : Heap) : ExtB b h h := ⟨Nat.le_refl _, fun _ _ _ => rfl⟩
theorem ExtB.ext {b : Nat} {h h1 h2 : Heap} (x : ExtB b h h1) (y : Ext h1 h2) : ExtB b h h2 :=
 ⟨Nat.le_trans x.le y.le, fun c hc hne => (y.get c (Nat.lt_of_lt_of_le hc x.le)).trans (x.get c hc hne)⟩
theorem ExtB.trans {b : Nat} {h h1 h2 : Heap} (x : ExtB b h h1) (y : ExtB b h1 h2) : ExtB b h h2 :=
 ⟨Nat.le_trans x.le y.le, fun c hc hne => (y.get c (Nat.lt_of_lt_of_le hc x.le) hne).trans (x.get c hc hne)⟩
theorem ExtB.push {b : Nat} {h h1 : Heap} (x : ExtB b h h1) (o : AObj) : ExtB b h (h1.push o) := x.ext (Ext.push (Ext.refl _) o)
theorem ExtB.set {b : Nat} {h h1 : Heap} (x : ExtB b h h1) {c : Nat} (hc : c = b ∨ h.next ≤ c) (o : AObj) : ExtB b h (h1.set c o) :=
 ⟨x.le, fun d hd hne => by rw [Heap.get_set_ne _ _ (by omega)]; exact x.get d hd hne⟩
end Go.Sim
namespace Go.Sim
open Go.RowKit
def aim (l : List Nat) : Nat := l.foldl (fun m p => m ||| (1 <<< p)) 0
def aiq (n m : Nat) : List Nat := (List.range n).filter fun i => m.testBit i
def aeg (done : Nat) (float : Bool) : List (Nat × Nat × Bool) → Option (Nat × Nat × Bool)
 | [] => none
 | (i, pm, ac) :: r => if (pm &&& done) == pm && (ac != float) then some (i, pm, ac) else aeg done float r
def a8T : Nat → Nat → List (Nat × Nat × Bool) → List (Nat × Nat × Bool)
 | 0, _, _ => []
 | n + 1, done, l =>
  match aeg done true l with
  | some x => x :: a8T n (done ||| (1 <<< x.1)) (l.filter fun y => y.1 != x.1)
  | none => match aeg done false l with
   | some x => x :: a8T n (done ||| (1 <<< x.1)) (l.filter fun y => y.1 != x.1)
   | none => []
def ahY (ops : Array Oper) : List (Nat × Nat × Bool) := (List.range ops.size).map fun i => (i, aim (preds (qw ops i)), acts (qw ops i).op)
def a9X (l : List (Nat × Nat)) (i : Nat) : Nat := match l with
 | [] => 0
 | (j, m) :: r => if j == i then m else a9X r i
def aiV (ops : Array Oper) : List (Nat × Nat × Bool) → List (Nat × Nat) → List (Nat × Nat)
 | [], acc => acc
 | (i, _, _) :: r, acc => aiV ops r ((i, (preds (qw ops i)).foldl (fun m p => m ||| (1 <<< p) ||| a9X acc p) 0) :: acc)
def a9M (P : Program) (ops : Array Oper) (am : List (Nat × Nat)) : List (Nat × Nat × Bool) → List Nat → List (Nat × List Nat)
 | [], _ => []
 | (i, _, ac) :: r, pre =>
  (i, if ac then (pre.reverse.filter fun j => !acts (qw ops j).op && yQ P (qw ops j).op && !(a9X am i).testBit j) else []) :: a9M P ops am r (i :: pre)
def aiW (P : Program) (ops : Array Oper) : List (List Nat) × List (Nat × List Nat) :=
 let o := a8T ops.size 0 (ahY ops)
 let am := aiV ops o []
 ((List.range ops.size).map fun i => aiq ops.size (a9X am i), a9M P ops am o [])
inductive X where
 | nil
 | ret
 | exit (id : Nat)
 | goto (l : Nat)
 | bad
 | reg (L : List C) (k : X)
 | draw (L : List (C × List C)) (k : X)
 | cond (c : Operand) (x y k : X)
 | block (id : Nat) (x k : X)
 | loop (x k : X)
 | scope (x labs k : X)
 | lcons (l : Nat) (x r : X)
 | label (l : Nat) (k : X)
 | range (f : Operand) (ps : List Tmp) (c d : Code) (k : X)
def ahA (P : Program) (ops : Array Oper) (k : X) : X :=
 match aiW P ops with
 | (T, E) => if P.follows .mixedOrders && a3E P ops T E then .draw (vR ops E) k else .bad
mutual
def xOf (P : Program) : Code → X → X
 | .skip, k => k
 | .region _ ops false, k => .reg (ops.toList.map (jo ops)) k
 | .region _ ops true, k => ahA P ops k
 | .seq x y, k => xOf P x (xOf P y k)
 | .cond c x y, k => .cond c (xOf P x .nil) (xOf P y .nil) k
 | .block id c, k => .block id (xOf P c .nil) k
 | .loop c, k => .loop (xOf P c .nil) k
 | .exit id, _ => .exit id
 | .ret, _ => .ret
 | .goto l, _ => .goto l
 | .label l, k => .label l k
 | .scope c, k => .scope (xOf P c .nil) (Z8 P c .nil .nil) k
 | .rangeFunc f ps x y, k => .range f ps.toList x y k
 | .refuse _, _ => .bad
def Z8 (P : Program) : Code → X → X → X
 | .seq x y, k, acc => Z8 P x (xOf P y k) (Z8 P y k acc)
 | .label l, k, acc => .lcons l k acc
 | _, _, acc => acc
end
def a4w (l : Nat) : X → Option X
 | .lcons l' x r => if l' = l then some x else a4w l r
 | _ => none
theorem WV (P : Program) (l : Nat) : ∀ (c : Code) (k acc : X), (∀ rest, findLabel c l = some rest → a4w l (Z8 P c k acc) = some (xOf P rest k)) ∧ (findLabel c l = none → a4w l (Z8 P c k acc) = a4w l acc)
 | .seq x y, k, acc => by
  have hx := WV P l x (xOf P y k) (Z8 P y k acc)
  have hy := WV P l y k acc
  unfold findLabel Z8
  cases hf : findLabel x l with
  | some r =>
   refine ⟨fun rest e => ?_, fun e => (by cases e)⟩
   simp only [Option.some.injEq] at e
   subst e
   rw [hx.1 r hf]
   exact congrArg some (by simp only [xOf])
  | none => exact ⟨fun rest e => (hx.2 hf).trans (hy.1 rest e), fun e => (hx.2 hf).trans (hy.2 e)⟩
 | .label l', k, acc => by
  unfold findLabel Z8
  simp only [a4w]
  by_cases h : l' = l
  ·subst h
   refine ⟨fun rest e => ?_, fun e => ?_⟩
   ·simp at e; subst e; simp [xOf]
   ·simp at e
  ·rw [if_neg h, if_neg (by simpa using h)]
   exact ⟨fun _ e => (by cases e), fun _ => rfl⟩
 | .skip, _, _ => ⟨fun _ e => (by cases e), fun _ => (by unfold Z8; rfl)⟩
 | .region _ _ _, _, _ => ⟨fun _ e => (by cases e), fun _ => (by unfold Z8; rfl)⟩
 | .cond _ _ _, _, _ => ⟨fun _ e => (by cases e), fun _ => (by unfold Z8; rfl)⟩
 | .block _ _, _, _ => ⟨fun _ e => (by cases e), fun _ => (by unfold Z8; rfl)⟩
 | .loop _, _, _ => ⟨fun _ e => (by cases e), fun _ => (by unfold Z8; rfl)⟩
 | .exit _, _, _ => ⟨fun _ e => (by cases e), fun _ => (by unfold Z8; rfl)⟩
 | .ret, _, _ => ⟨fun _ e => (by cases e), fun _ => (by unfold Z8; rfl)⟩
 | .goto _, _, _ => ⟨fun _ e => (by cases e), fun _ => (by unfold Z8; rfl)⟩
 | .scope _, _, _ => ⟨fun _ e => (by cases e), fun _ => (by unfold Z8; rfl)⟩
 | .rangeFunc _ _ _ _, _, _ => ⟨fun _ e => (by cases e), fun _ => (by unfold Z8; rfl)⟩
 | .refuse _, _, _ => ⟨fun _ e => (by cases e), fun _ => (by unfold Z8; rfl)⟩
def aam (P : Program) (x : X) (Q : Exit → Frm → Heap → Prop) (a : Frm) (h : Heap) : Prop := ∀ c, xOf P c .nil = x → AWp P (.loop c) Q a h
def afj (P : Program) (x labs : X) (Q : Exit → Frm → Heap → Prop) (a : Frm) (h : Heap) : Prop := ∀ c, xOf P c .nil = x → Z8 P c .nil .nil = labs → AWp P (.scope c) Q a h
def aef (P : Program) (f : Operand) (ps : List Tmp) (c d : Code) (Q : Exit → Frm → Heap → Prop) (a : Frm) (h : Heap) : Prop :=
 AWp P (.rangeFunc f ps.toArray c d) Q a h
def xWp (P : Program) : X → (Exit → Frm → Heap → Prop) → Frm → Heap → Prop
 | .nil, Q, a, h => Q .normal a h
 | .ret, Q, a, h => Q .ret a h
 | .exit id, Q, a, h => Q (.exit id) a h
 | .goto l, Q, a, h => Q (.goto l) a h
 | .bad, _, _, _ => False
 | .reg L k, Q, a, h => cWp P L (fun a h => xWp P k Q a h) a h
 | .draw L k, Q, a, h => dWp P L (fun a h => xWp P k Q a h) a h
 | .cond c x y k, Q, a, h => yr (a.ev c) (xWp P x (jt (fun a h => xWp P k Q a h) Q) a h) (xWp P y (jt (fun a h => xWp P k Q a h) Q) a h)
 | .block id x k, Q, a, h => xWp P x (Qb id (jt (fun a h => xWp P k Q a h) Q)) a h
 | .loop x k, Q, a, h => aam P x (jt (fun a h => xWp P k Q a h) Q) a h
 | .lcons _ _ _, _, _, _ => False
 | .scope x labs k, Q, a, h => afj P x labs (jt (fun a h => xWp P k Q a h) Q) a h
 | .label _ k, Q, a, h => xWp P k Q a h
 | .range f ps x y k, Q, a, h => aef P f ps x y (jt (fun a h => xWp P k Q a h) Q) a h
theorem QB (P : Program) : ∀ (c : Code) (k : X) {Q : Exit → Frm → Heap → Prop} {a : Frm} {h : Heap}, xWp P (xOf P c k) Q a h → AWp P c (jt (fun a h => xWp P k Q a h) Q) a h
 | .skip, k, _, _, _, q => aeb q
 | .region id ops false, k, _, _, _, q => a4l q
 | .region id ops true, k, _, _, _, q => by
  unfold xOf ahA at q
  split at q
  rename_i T E _
  split at q
  ·rename_i hc
   rw [Bool.and_eq_true] at hc
   exact af7 hc.1 hc.2 q
  ·exact q.elim
 | .seq x y, k, Q, a, h, q => agD ((QB P x (xOf P y k) q).mono fun e a h r => by
   cases e <;> first | exact QB P y k r | exact r)
 | .cond c x y, k, Q, a, h, q => by
  unfold xOf xWp at q
  cases hc : a.ev c with
  | none => rw [hc] at q; exact q.elim
  | some v =>
   rw [hc] at q
   cases v <;> try (exact q.elim)
   exact ae2 hc (fun e => (QB P x .nil (q.1 e)).mono fun e a h r => by cases e <;> exact r)
    (fun e => (QB P y .nil (q.2 e)).mono fun e a h r => by cases e <;> exact r)
 | .block id c, k, _, _, _, q => abh ((QB P c .nil q).mono fun e a h r => by cases e <;> exact r)
 | .loop c, k, _, _, _, q => q c rfl
 | .scope c, k, _, _, _, q => q c rfl rfl
 | .rangeFunc f ps x y, k, _, _, _, q => by
  have q' : AWp P (.rangeFunc f ps.toList.toArray x y) _ _ _ := q
  rw [Array.toArray_toList] at q'
  exact q'
 | .exit id, _, _, _, _, q => aeU q
 | .ret, _, _, _, _, q => agp q
 | .label _, _, _, _, _, q => aca q
 | .goto l, _, _, _, _, q => adT q
 | .refuse _, _, _, _, _, q => q.elim
theorem Ji {P : Program} {c : Code} {Q : Exit → Frm → Heap → Prop} {a : Frm} {h : Heap} (q : xWp P (xOf P c .nil) Q a h) : AWp P c Q a h :=
 (QB P c .nil q).mono fun e a h r => by cases e <;> exact r
inductive Fx where
 | k (x : X)
 | block (id : Nat)
 | loop (K : Frm → Heap → Prop)
 | scope (J : Nat → Frm → Heap → Prop)
def scQ (J : Nat → Frm → Heap → Prop) (Q : Exit → Frm → Heap → Prop) : Exit → Frm → Heap → Prop
 | .goto l, a, h => J l a h
 | e, a, h => Q e a h
def sx (P : Program) : List Fx → (Exit → Frm → Heap → Prop) → Exit → Frm → Heap → Prop
 | [], Q => Q
 | .k y :: s, Q => jt (fun a h => xWp P y (sx P s Q) a h) (sx P s Q)
 | .block id :: s, Q => Qb id (sx P s Q)
 | .loop K :: s, Q => jt K (sx P s Q)
 | .scope J :: s, Q => scQ J (sx P s Q)
def a1v (P : Program) (x : X) (Q : Exit → Frm → Heap → Prop) (a : Frm) (h : Heap) : Prop := xWp P x Q a h
section
variable (P : Program) (s : List Fx) (Q : Exit → Frm → Heap → Prop) (a : Frm) (h : Heap)
theorem aiJ (e : Exit) : sx P [] Q e a h = Q e a h := rfl
theorem ajE (y : X) : sx P (.k y :: s) Q .normal a h = xWp P y (sx P s Q) a h := rfl
theorem acv (y : X) (id : Nat) : sx P (.k y :: s) Q (.exit id) a h = sx P s Q (.exit id) a h := rfl
theorem abk (y : X) (l : Nat) : sx P (.k y :: s) Q (.goto l) a h = sx P s Q (.goto l) a h := rfl
theorem ady (id : Nat) : sx P (.block id :: s) Q .normal a h = sx P s Q .normal a h := rfl
theorem a0X (id id' : Nat) : sx P (.block id :: s) Q (.exit id') a h = if id' = id then sx P s Q .normal a h else sx P s Q (.exit id') a h := rfl
theorem a0R (id l : Nat) : sx P (.block id :: s) Q (.goto l) a h = sx P s Q (.goto l) a h := rfl
theorem afT (K : Frm → Heap → Prop) : sx P (.loop K :: s) Q .normal a h = K a h := rfl
theorem a4q (K : Frm → Heap → Prop) (id : Nat) : sx P (.loop K :: s) Q (.exit id) a h = sx P s Q (.exit id) a h := rfl
theorem a44 (K : Frm → Heap → Prop) (l : Nat) : sx P (.loop K :: s) Q (.goto l) a h = sx P s Q (.goto l) a h := rfl
theorem ur : ∀ s, sx P s Q .ret a h = Q .ret a h
 | [] => rfl
 | .k _ :: s => ur s
 | .block _ :: s => ur s
 | .loop _ :: s => ur s
 | .scope _ :: s => ur s
theorem acS (J : Nat → Frm → Heap → Prop) : sx P (.scope J :: s) Q .normal a h = sx P s Q .normal a h := rfl
theorem a0C (J : Nat → Frm → Heap → Prop) (id : Nat) : sx P (.scope J :: s) Q (.exit id) a h = sx P s Q (.exit id) a h := rfl
theorem a0H (J : Nat → Frm → Heap → Prop) (l : Nat) : sx P (.scope J :: s) Q (.goto l) a h = J l a h := rfl
theorem aiR : xWp P .nil (sx P s Q) a h = sx P s Q .normal a h := rfl
theorem ajg : xWp P .ret (sx P s Q) a h = sx P s Q .ret a h := rfl
theorem ahH (id : Nat) : xWp P (.exit id) (sx P s Q) a h = sx P s Q (.exit id) a h := rfl
theorem ahI (l : Nat) : xWp P (.goto l) (sx P s Q) a h = sx P s Q (.goto l) a h := rfl
theorem ajf (L : List C) (k : X) : xWp P (.reg L k) (sx P s Q) a h = cWp P L (sx P (.k k :: s) Q .normal) a h := rfl
theorem aiH (L : List (C × List C)) (k : X) : xWp P (.draw L k) (sx P s Q) a h = dWp P L (sx P (.k k :: s) Q .normal) a h := rfl
theorem aib (c : Operand) (x y k : X) : xWp P (.cond c x y k) (sx P s Q) a h = yr (a.ev c) (a1v P x (sx P (.k k :: s) Q) a h) (a1v P y (sx P (.k k :: s) Q) a h) := rfl
theorem afX (id : Nat) (x k : X) : xWp P (.block id x k) (sx P s Q) a h = xWp P x (sx P (.block id :: .k k :: s) Q) a h := rfl
theorem ahD (x k : X) : xWp P (.loop x k) (sx P s Q) a h = aam P x (sx P (.k k :: s) Q) a h := rfl
theorem agY (x labs k : X) : xWp P (.scope x labs k) (sx P s Q) a h = afj P x labs (sx P (.k k :: s) Q) a h := rfl
theorem ahf (l : Nat) (k : X) : xWp P (.label l k) (sx P s Q) a h = xWp P k (sx P s Q) a h := rfl
theorem agy (f : Operand) (ps : List Tmp) (x y : Code) (k : X) : xWp P (.range f ps x y k) (sx P s Q) a h = aef P f ps x y (sx P (.k k :: s) Q) a h := rfl
theorem a5N (x : X) (R : Exit → Frm → Heap → Prop) (B : Prop) : yr (some (.bool true)) (a1v P x R a h) B = xWp P x R a h := by simp [yr, a1v]
theorem a4e (x : X) (R : Exit → Frm → Heap → Prop) (A : Prop) : yr (some (.bool false)) A (a1v P x R a h) = xWp P x R a h := by simp [yr, a1v]
end
attribute [go_sem ↓] aiJ ajE acv abk ady a0X a0R afT a4q a44 acS a0C a0H ur
 aiR ajg ahH ahI ajf aiH aib afX ahD agY ahf agy a5N a4e
end Go.Sim
namespace Go.Sim
end Go.Sim
namespace Go.Sim
end Go.Sim
namespace Go.Sim
open Go.RowKit
end Go.Sim
namespace Go.Sim
section
variable {P : Program} {t e : TypeId}
theorem acE (hu : P.underlying t = some (.slice e)) (a : Addr) (n c : Nat) : qS P .eql t (.slice (some a) n c) (.slice none 0 0) = some (.bool false) := by simp [qS, eqV, hu]
theorem adV (hu : P.underlying t = some (.slice e)) (a : Addr) (n c : Nat) : qS P .neq t (.slice (some a) n c) (.slice none 0 0) = some (.bool true) := by simp [qS, eqV, hu]
theorem a4L (hu : P.underlying t = some (.slice e)) : qS P .eql t (.slice none 0 0) (.slice none 0 0) = some (.bool true) := by simp [qS, eqV, hu]
theorem a4Y (hu : P.underlying t = some (.slice e)) : qS P .neq t (.slice none 0 0) (.slice none 0 0) = some (.bool false) := by simp [qS, eqV, hu]
end
theorem Heap.ext'' {h h' : Heap} (hn : h.next = h'.next) (hg : ∀ b, h.get b = h'.get b) : h = h' := by
 cases h; cases h'
 simp only at hn hg
 subst hn
 have := funext hg
 subst this
 rfl
end Go.Sim
namespace Go.Sim
open Go.RowKit
theorem a5T {P : Program} {b : Frame} {a : Act} {k : List Item} {cs : List Frame} {w : World} {c : Code} : step P (lone (b.atR a (.code (.scope c) :: k)) cs w) = .next (lone (b.atR a (.code c :: .inScope c :: k)) cs w) :=
 step_lone_go (by simp [stepG, stepG.exec, Frame.atR])
theorem a0I {P : Program} {b : Frame} {a : Act} {k : List Item} {cs : List Frame} {w : World} {c : Code} : step P (lone (b.atR a (.inScope c :: k)) cs w) = .next (lone (b.atR a k) cs w) :=
 step_lone_go (by simp [stepG, stepG.exec, Frame.atR])
def SWp (P : Program) (c r : Code) (Q : Exit → Frm → Heap → Prop) (a : Frm) (h : Heap) : Prop := ajj P [.code r, .inScope c] Q a h
def goQ (P : Program) (c : Code) (Q : Exit → Frm → Heap → Prop) : Exit → Frm → Heap → Prop
 | .goto l, a, h => ∃ rest, findLabel c l = some rest ∧ SWp P c rest Q a h
 | e, a, h => Q e a h
theorem a1w {P : Program} {c r : Code} {Q : Exit → Frm → Heap → Prop} {a : Frm} {h : Heap} (hc : AWp P r (goQ P c Q) a h) : SWp P c r Q a h := by
 intro ro D β m w ha hr ok b k cs hb
 obtain ⟨e, m1, w1, ⟨a1, h1, β1, D1, ra, rr, st, q⟩, harr⟩ := hc ro D β m w ha hr ok b (.inScope c :: k) cs hb trivial (aaj _ _)
 cases e with
 | normal => exact ⟨.normal, m1, w1, ⟨a1, h1, β1, D1, ra, rr, st, q⟩, StepsIn.trans harr (.one (WW _ _ _) a0I)⟩
 | exit id => exact ⟨.exit id, m1, w1, ⟨a1, h1, β1, D1, ra, rr, st, q⟩, fun k' hk => harr.1 k' (by simp [exitTo, hk]), fun hr hk => harr.2 hr (by simp [exitTo, hk])⟩
 | goto l =>
  obtain ⟨rest, hf, q⟩ := q
  have hg : gotoIn l (.inScope c :: k) = some (.code rest :: .inScope c :: k) := by simp [gotoIn, hf]
  obtain ⟨e2, m2, w2, x2, harr2⟩ := q ro D1 β1 m1 w1 ra rr (ok.step st.st) b k cs hb
  exact ⟨e2, m2, w2, x2.trans hr rr st, .of_steps (harr.1 _ hg) harr2⟩
 | ret => exact ⟨_, m1, w1, ⟨a1, h1, β1, D1, ra, rr, st, q⟩, harr⟩
 | panic ch => exact ⟨_, m1, w1, ⟨a1, h1, β1, D1, ra, rr, st, q⟩, harr⟩
 | outgrown => exact ⟨_, m1, w1, ⟨a1, h1, β1, D1, ra, rr, st, q⟩, harr⟩
theorem ac2 {P : Program} {c : Code} {Q : Exit → Frm → Heap → Prop} {a : Frm} {h : Heap} (hc : SWp P c c Q a h) : AWp P (.scope c) Q a h := by
 intro ro D β m w ha hr ok b k cs hb _ _
 obtain ⟨e, m', w', hq, harr⟩ := hc ro D β m w ha hr ok b k cs hb
 exact ⟨e, m', w', hq, .of_steps (.one (WW _ _ _) a5T) harr⟩
theorem a0B (w : Bool) : u9 (some undef) w = some false := rfl
attribute [push_cast] a0B
end Go.Sim
set_option maxHeartbeats 800000
namespace Go.Sim
open Go.RowKit
end Go.Sim
namespace Go.Sim
open Go.RowKit
def SlR (h : Heap) (v : Value) (e : TypeId) (xs : List Value) : Prop :=
 (v = .slice none 0 0 ∧ xs = []) ∨ (∃ b o, v = .slice (some ⟨b, o, none⟩) 0 dud ∧ xs = []) ∨ ∃ b o c cs rw, v = .slice (some ⟨b, o, none⟩) xs.length c ∧ h.get b = some (.cells cs e rw) ∧ (cs.drop o).take xs.length = xs ∧ xs.length ≤ maxLen ∧
  (c = qB ∨ (rw = true ∧ (c = unk ∨ (xs.length ≤ c ∧ c ≤ maxLen))))
theorem SlR.at {h : Heap} {v : Value} {e : TypeId} {xs : List Value} (hs : SlR h v e xs) : SlAt h v e xs := by
 rcases hs with hs | hs | ⟨b, o, c, cs, rw, h1, h2, h3, h4, _⟩
 ·exact .inl hs
 ·exact .inr (.inl hs)
 ·exact .inr (.inr ⟨b, o, c, cs, rw, h1, h2, h3, h4⟩)
theorem SlR.ext {h h' : Heap} {v : Value} {e : TypeId} {xs : List Value} (hs : SlR h v e xs) (hx : ∀ b, a2Z v = some b → h'.get b = h.get b) : SlR h' v e xs := by
 rcases hs with hs | hs | ⟨b, o, c, cs, rw, h1, h2, h3⟩
 ·exact .inl hs
 ·exact .inr (.inl hs)
 ·exact .inr (.inr ⟨b, o, c, cs, rw, h1, (hx b (by rw [h1]; rfl)).trans h2, h3⟩)
theorem SlR.of_get {h h' : Heap} {v : Value} {e : TypeId} {xs : List Value} (hs : SlR h v e xs) (hx : ∀ b, b < h.next → h'.get b = h.get b) : SlR h' v e xs := by
 rcases hs with hs | hs | ⟨b, o, c, cs, rw, h1, h2, h3⟩
 ·exact .inl hs
 ·exact .inr (.inl hs)
 ·exact .inr (.inr ⟨b, o, c, cs, rw, h1, (hx b (h.wf _ _ h2)).trans h2, h3⟩)
theorem SlR.part {P : Program} {h : Heap} {v : Value} {e t : TypeId} {xs : List Value} {lo hi : Option Value} {l r : Nat} (hs : SlR h v e xs) (hu : P.underlying t = some (.slice e)) (hz : szT P e = some 1)
  (hb : ∀ c, xs.length ≤ c → qz xs.length c lo hi none = some (l, r, none)) (hl : l ≤ r) (hr : r ≤ xs.length) :
  ∃ v', z5 P (qU P h) t v lo hi none = some v' ∧ SlR h v' e ((xs.drop l).take (r - l)) ∧ (a2Z v' = a2Z v) := by
 rcases hs with ⟨rfl, rfl⟩ | ⟨b, o, rfl, rfl⟩ | ⟨b, o, c, cs, rw, rfl, hg, ht, hm, hc⟩
 ·have := hb 0 (by simp)
  refine ⟨.slice none 0 0, ?_, .inl ⟨rfl, by simp⟩, rfl⟩
  unfold z5
  simp only [hu, hz]
  rw [show ([] : List Value).length = 0 from rfl] at this
  rw [this]
 ·have := hb 0 (by simp)
  refine ⟨.slice (some ⟨b, o, none⟩) 0 dud, ?_, .inr (.inl ⟨b, o, rfl, by simp⟩), rfl⟩
  unfold z5
  simp only [hu, hz]
  rw [show qI 0 dud = 0 from by decide]
  rw [show ([] : List Value).length = 0 from rfl] at this
  rw [this]
  simp
 ·have hdu : dud > maxLen := by decide
  have hun : unk > maxLen := by decide
  have hno : qB > maxLen := by decide
  have hnu : qB ≠ unk := by decide
  have hud : unk ≠ dud := by decide
  have hnd : qB ≠ dud := by decide
  have hcap : xs.length ≤ qI xs.length c := by
   unfold qI
   rcases hc with rfl | ⟨_, rfl | ⟨h1, h2⟩⟩
   ·rw [if_neg hnu, if_pos rfl]; exact Nat.le_refl _
   ·rw [if_pos rfl]; exact Nat.le_refl _
   ·rw [if_neg (by omega), if_neg (by omega), if_neg (by omega)]; exact h1
  have hbd := hb _ hcap
  have hlen : ((xs.drop l).take (r - l)).length = r - l := by simp; omega
  have hpart : (cs.drop (o + l)).take (r - l) = (xs.drop l).take (r - l) := by
   rw [← ht]
   rw [List.drop_take, List.take_take, List.drop_drop]
   congr 1
   omega
  have hE : qU P h b = if rw then some 1 else none := by
   unfold qU
   rw [hg]
   cases rw
   ·rfl
   ·simpa using hz
  unfold z5
  simp only [hu, hz, hbd, Nat.mul_one]
  have nodud : c ≠ dud := by
   rcases hc with rfl | ⟨_, rfl | ⟨_, h3⟩⟩
   ·exact hnd
   ·exact hud
   ·omega
  rw [if_neg nodud]
  have hE2 : ¬ (c ≠ qB ∧ ¬ (xs.length = 0 ∧ c = 0) ∧ qU P h b ≠ some 1) := by
   rintro ⟨h1, _, h2⟩
   rcases hc with rfl | ⟨rfl, _⟩
   ·exact h1 rfl
   ·rw [hE] at h2; exact h2 rfl
  rw [if_neg hE2]
  by_cases hcu : c = unk ∨ c = qB
  ·rw [if_pos hcu]
   by_cases hlt : l < xs.length
   ·rw [if_pos hlt]
    refine ⟨_, rfl, .inr (.inr ⟨b, o + l, c, cs, rw, by rw [hlen], hg, by rw [hlen]; exact hpart, by rw [hlen]; omega, ?_⟩), rfl⟩
    rcases hc with rfl | ⟨h1, rfl | ⟨h2, h3⟩⟩
    ·exact .inl rfl
    ·exact .inr ⟨h1, .inl rfl⟩
    ·rcases hcu with h | h <;> omega
   ·rw [if_neg hlt]
    refine ⟨_, rfl, .inr (.inl ⟨b, o, ?_, ?_⟩), rfl⟩
    ·rfl
    ·rw [List.drop_eq_nil_of_le (by omega)]; simp
  ·rw [if_neg hcu]
   obtain ⟨h1, h4, h5⟩ : rw = true ∧ xs.length ≤ c ∧ c ≤ maxLen := by
    rcases hc with rfl | ⟨k1, rfl | k2⟩
    ·exact absurd (.inr rfl) hcu
    ·exact absurd (.inl rfl) hcu
    ·exact ⟨k1, k2⟩
   by_cases hcl : c = l
   ·rw [if_pos hcl]
    have h0 : (xs.drop l).take (r - l) = [] := by rw [List.drop_eq_nil_of_le (by omega)]; simp
    rw [h0]
    refine ⟨_, rfl, .inr (.inr ⟨b, o, 0, cs, rw, ?_, hg, rfl, Nat.zero_le _, .inr ⟨h1, .inr ⟨Nat.le_refl _, Nat.zero_le _⟩⟩⟩), rfl⟩
    rw [show r - l = 0 by omega]; rfl
   ·rw [if_neg hcl]
    refine ⟨_, rfl, .inr (.inr ⟨b, o + l, c - l, cs, rw, by rw [hlen], hg, by rw [hlen]; exact hpart, by rw [hlen]; omega, .inr ⟨h1, .inr ⟨by rw [hlen]; omega, by omega⟩⟩⟩), rfl⟩
theorem Heap.set_set (h : Heap) (b : Nat) (o o' : AObj) : (h.set b o).set b o' = h.set b o' := by
 refine Heap.ext'' rfl fun c => ?_
 by_cases hc : c = b
 ·subst hc
  simp only [Heap.get_set, if_true]
  cases h.get c <;> rfl
 ·simp only [Heap.get_set, if_neg hc]
theorem SlR.set {h : Heap} {v : Value} {e e' : TypeId} {xs cs : List Value} {r : Nat} {w : Bool} {o : AObj} (hs : SlR h v e xs) (hr : h.get r = some (.cells cs e' w)) (hne : e' ≠ e) : SlR (h.set r o) v e xs := by
 rcases hs with hs | hs | ⟨b, o', c, cs', rw, h1, h2, h3⟩
 ·exact .inl hs
 ·exact .inr (.inl hs)
 ·refine .inr (.inr ⟨b, o', c, cs', rw, h1, ?_, h3⟩)
  rw [Heap.get_set_ne _ _ (by rintro rfl; rw [h2] at hr; cases hr; exact hne rfl)]
  exact h2
end Go.Sim
namespace Go.Sim
open Go.RowKit
def SlZ (z : Nat) (h : Heap) (v : Value) (e : TypeId) (ys : List (List Value)) : Prop :=
 (v = .slice none 0 0 ∧ ys = []) ∨ (∃ b o, v = .slice (some ⟨b, o, none⟩) 0 dud ∧ ys = []) ∨ ∃ b o c cs rw, v = .slice (some ⟨b, o, none⟩) ys.length c ∧ h.get b = some (.cells cs e rw) ∧ (cs.drop o).take (ys.length * z) = ys.flatten ∧ (∀ y ∈ ys, y.length = z) ∧ ys.length ≤ maxLen
def OwnZ (z : Nat) (h₀ h : Heap) (v : Value) (e : TypeId) (ys : List (List Value)) : Prop :=
 (v = .slice none 0 0 ∧ ys = []) ∨ ∃ b o c cs, v = .slice (some ⟨b, o, none⟩) ys.length c ∧ c ≠ dud ∧ (c ≠ qB ∧ (c = unk ∨ (ys.length ≤ c ∧ c ≤ maxLen))) ∧ h₀.next ≤ b ∧ h.get b = some (.cells cs e true) ∧ (cs.drop o).take (ys.length * z) = ys.flatten ∧ (∀ y ∈ ys, y.length = z) ∧ ys.length ≤ maxLen ∧ o + ys.length * z ≤ cs.length
section
variable {z : Nat} {h₀ h h' : Heap} {v : Value} {e : TypeId} {ys : List (List Value)}
theorem OwnZ.at (hs : OwnZ z h₀ h v e ys) : SlZ z h v e ys := by
 rcases hs with hs | ⟨b, o, c, cs, h1, _, _, _, h2, h3, h4, h5, _⟩
 ·exact .inl hs
 ·exact .inr (.inr ⟨b, o, c, cs, true, h1, h2, h3, h4, h5⟩)
theorem SlZ.of_get (hs : SlZ z h v e ys) (hx : ∀ b cs rw, h.get b = some (.cells cs e rw) → h'.get b = h.get b) : SlZ z h' v e ys := by
 rcases hs with hs | hs | ⟨b, o, c, cs, rw, h1, h2, h3⟩
 ·exact .inl hs
 ·exact .inr (.inl hs)
 ·exact .inr (.inr ⟨b, o, c, cs, rw, h1, (hx b cs rw h2).trans h2, h3⟩)
theorem OwnZ.of_get (hs : OwnZ z h₀ h v e ys) (hx : ∀ b cs rw, h.get b = some (.cells cs e rw) → h'.get b = h.get b) : OwnZ z h₀ h' v e ys := by
 rcases hs with hs | ⟨b, o, c, cs, h1, h2, h3, h4, h5, h6⟩
 ·exact .inl hs
 ·exact .inr ⟨b, o, c, cs, h1, h2, h3, h4, (hx b cs true h5).trans h5, h6⟩
theorem SlZ.ext (hs : SlZ z h v e ys) (hx : Ext h h') : SlZ z h' v e ys := hs.of_get fun b _ _ hb => hx.get b (h.wf _ _ hb)
theorem OwnZ.ext (hs : OwnZ z h₀ h v e ys) (hx : Ext h h') : OwnZ z h₀ h' v e ys := hs.of_get fun b _ _ hb => hx.get b (h.wf _ _ hb)
end
end Go.Sim
namespace Go.Sim
open Go.RowKit
inductive PV where
 | v (x : Value)
 | sl (z : Nat) (rows : List (List PV))
inductive DV where
 | p (x : PV)
 | ptr (id off : Nat)
 | ep (id i off tot : Nat)
 | dp (row : List PV) (off : Nat)
 | ref (id lo n tot : Nat)
 | aref (id off n : Nat)
 | cx (z : Nat) (rows : List (List PV))
 | mref (id : Nat)
 | fn (f : FuncId) (pre cap : List DV)
 | agg (xs : List DV)
 | tup (xs : List DV)
inductive Obj where
 | st (cells : List DV)
 | li (e : Option TypeId) (rows : List (List PV))
 | fz (e : Option TypeId) (rows : List (List PV))
 | mp (es : List (Value × DV))
 | dead
inductive All2 {α β : Type} (R : α → β → Prop) : List α → List β → Prop
 | nil : All2 R [] []
 | cons {a : α} {b : β} {l : List α} {m : List β} (h : R a b) (t : All2 R l m) : All2 R (a :: l) (b :: m)
namespace All2
variable {α β : Type} {R R' : α → β → Prop}
theorem mono {l : List α} {m : List β} (h : All2 R l m) (hr : ∀ a b, R a b → R' a b) : All2 R' l m := by
 induction h with
 | nil => exact .nil
 | cons h _ ih => exact .cons (hr _ _ h) ih
theorem length {l : List α} {m : List β} (h : All2 R l m) : l.length = m.length := by
 induction h with
 | nil => rfl
 | cons _ _ ih => simp [ih]
theorem get {l : List α} {m : List β} (h : All2 R l m) : ∀ {i : Nat} {a : α}, l[i]? = some a → ∃ b, m[i]? = some b ∧ R a b := by
 induction h with
 | nil => intro i a e; simp at e
 | cons h _ ih =>
  intro i a e
  cases i with
  | zero => simp at e; subst e; exact ⟨_, rfl, h⟩
  | succ i => simp at e; simpa using ih e
theorem get' {l : List α} {m : List β} (h : All2 R l m) : ∀ {i : Nat} {b : β}, m[i]? = some b → ∃ a, l[i]? = some a ∧ R a b := by
 induction h with
 | nil => intro i a e; simp at e
 | cons h _ ih =>
  intro i a e
  cases i with
  | zero => simp at e; subst e; exact ⟨_, rfl, h⟩
  | succ i => simp at e; simpa using ih e
theorem of_get : ∀ {l : List α} {m : List β}, l.length = m.length → (∀ (i : Nat) a b, l[i]? = some a → m[i]? = some b → R a b) → All2 R l m
 | [], [], _, _ => .nil
 | a :: l, b :: m, hl, h => .cons (h 0 a b rfl rfl) (of_get (by simpa using hl) fun i a b ha hb => h (i + 1) a b (by simpa using ha) (by simpa using hb))
 | [], _ :: _, hl, _ => by simp at hl
 | _ :: _, [], hl, _ => by simp at hl
theorem append {l l' : List α} {m m' : List β} (h : All2 R l m) (k : All2 R l' m') : All2 R (l ++ l') (m ++ m') := by
 induction h with
 | nil => exact k
 | cons h _ ih => exact .cons h ih
theorem take {l : List α} {m : List β} (h : All2 R l m) : ∀ n, All2 R (l.take n) (m.take n) := by
 induction h with
 | nil => intro n; simpa using All2.nil
 | cons h _ ih => intro n; cases n with
  | zero => exact .nil
  | succ n => exact .cons h (ih n)
theorem drop {l : List α} {m : List β} (h : All2 R l m) : ∀ n, All2 R (l.drop n) (m.drop n) := by
 induction h with
 | nil => intro n; simpa using All2.nil
 | cons h t ih => intro n; cases n with
  | zero => exact .cons h t
  | succ n => exact ih n
theorem set {l : List α} {m : List β} (h : All2 R l m) {a : α} {b : β} (hv : R a b) : ∀ i, All2 R (l.set i a) (m.set i b) := by
 induction h with
 | nil => intro n; exact .nil
 | cons h t ih => intro n; cases n with
  | zero => exact .cons hv t
  | succ n => exact .cons h (ih n)
end All2
def CapOk (P : Program) (c n : Nat) (rw : Bool) (e : TypeId) (z : Nat) : Prop := c = qB ∨ (rw = true ∧ szT P e = some z ∧ (c = unk ∨ (n ≤ c ∧ c ≤ maxLen)))
theorem CapOk.nodud {P : Program} {c n z : Nat} {rw : Bool} {e : TypeId} (h : CapOk P c n rw e z) : c ≠ dud := by
 have h1 : dud > maxLen := by decide
 have h2 : qB ≠ dud := by decide
 have h3 : unk ≠ dud := by decide
 rcases h with rfl | ⟨_, _, rfl | ⟨_, h⟩⟩
 ·exact h2
 ·exact h3
 ·omega
def scal : Value → Bool
 | .tuple _ => false
 | x => qA x
theorem a8e {x : Value} (h : scal x = true) : qA x = true := by
 unfold scal at h
 split at h
 ·cases h
 ·exact h
theorem aeR {x : Value} (h : scal x = true) : x.oneCell' = true := by
 cases x <;> first | rfl | (simp [scal, qA] at h)
inductive PR (P : Program) (S : Nat → Prop) (h : Heap) : PV → Value → Prop
 | v {x : Value} (hx : scal x = true) : PR P S h (.v x) x
 | nil {z : Nat} : PR P S h (.sl z []) (.slice none 0 0)
 | dud {z b o : Nat} : PR P S h (.sl z []) (.slice (some ⟨b, o, none⟩) 0 Sim.dud)
 | zero {z b o : Nat} : PR P S h (.sl z []) (.slice (some ⟨b, o, none⟩) 0 0)
 | sl {rows : List (List PV)} {b o c z : Nat} {cs : List Value} {e : TypeId} {rw : Bool} (hS : S b) (hb : h.get b = some (.cells cs e rw)) (h0 : 0 < z) (hl : o + rows.length * z ≤ cs.length)
   (hz : ∀ (i : Nat) (r : List PV), rows[i]? = some r → r.length = z)
   (hr : ∀ (i : Nat) (r : List PV) (j : Nat) (x : PV) (u : Value), rows[i]? = some r → r[j]? = some x → cs[o + i * z + j]? = some u → PR P S h x u)
   (hc : CapOk P c rows.length rw e z) (hm : rows.length ≤ maxLen) : PR P S h (.sl z rows) (.slice (some ⟨b, o, none⟩) rows.length c)
theorem PR.mono {P : Program} {S S' : Nat → Prop} {h h' : Heap} (hs : ∀ b, S b → S' b ∧ h'.get b = h.get b) {x : PV} {v : Value} (hx : PR P S h x v) : PR P S' h' x v := by
 induction hx with
 | v hx => exact .v hx
 | nil => exact .nil
 | dud => exact .dud
 | zero => exact .zero
 | sl hS hb h0 hl hz _ hc hm ih => exact .sl (hs _ hS).1 ((hs _ hS).2.trans hb) h0 hl hz ih hc hm
theorem PR.one {P : Program} {S : Nat → Prop} {h : Heap} {x : PV} {v : Value} (hx : PR P S h x v) : v.oneCell' = true := by
 cases hx with
 | v hx => exact aeR hx
 | nil => rfl
 | dud => rfl
 | zero => rfl
 | sl => rfl
theorem PR.scal {P : Program} {S : Nat → Prop} {h : Heap} {x v : Value} (hx : PR P S h (.v x) v) : v = x := by
 cases hx; rfl
abbrev Pl := Nat → Option (Nat × Nat)
def a7n (v : Value) : Prop := v = .slice none 0 0 ∨ ∃ b o, v = .slice (some ⟨b, o, none⟩) 0 0
def afH (P : Program) (γ : Pl) (z id lo n tot : Nat) (v : Value) : Prop :=
 (a7n v ∧ tot = 0 ∧ γ id = none) ∨ (∃ b o c, v = .slice (some ⟨b, o, none⟩) 0 c ∧ n = 0 ∧ 0 < tot) ∨
 ∃ b o c, γ id = some (b, o) ∧ v = .slice (some ⟨b, o + lo * z, none⟩) n c ∧ c ≠ dud ∧ c ≠ qB ∧ (c = unk ∨ (n ≤ c ∧ c ≤ maxLen))
def CxV (P : Program) (S : Nat → Prop) (h : Heap) (z : Nat) (rows : List (List PV)) (v : Value) : Prop :=
 rows ≠ [] ∧ ((∃ u, v = a0u u ∧ u.oneCell' = true ∧ PR P S h (.sl z rows) u) ∨ (∃ b o, v = .slice (some ⟨b, o, none⟩) rows.length rows.length ∧ PR P S h (.sl z rows) v))
theorem CxV.mono {P : Program} {S S' : Nat → Prop} {h h' : Heap} (hs : ∀ b, S b → S' b ∧ h'.get b = h.get b) {z : Nat} {rows : List (List PV)} {v : Value} (hx : CxV P S h z rows v) : CxV P S' h' z rows v := by
 obtain ⟨h0, h1⟩ := hx
 refine ⟨h0, ?_⟩
 rcases h1 with ⟨u, e, h1, h2⟩ | ⟨b, o, e, h2⟩
 ·exact .inl ⟨u, e, h1, h2.mono hs⟩
 ·exact .inr ⟨b, o, e, h2.mono hs⟩
def Obj.isList : Obj → List (List PV) → Prop
 | .li _ r, rows => r = rows
 | .fz _ r, rows => r = rows
 | _, _ => False
def DB (P : Program) (S : Nat → Prop) (γ : Pl) (L : List Obj) (h : Heap) : DV → Value → Prop
 | .p x, v => PR P S h x v
 | .ptr id off, v => ∃ b, γ id = some (b, 0) ∧ (∃ c, L[id]? = some (.st c)) ∧ v = .pointer (some ⟨b, off, none⟩)
 | .ep id i off tot, v => id < L.length ∧ v.oneCell' = true ∧ ∀ o rows, L[id]? = some o → o.isList rows → tot ≤ rows.length ∧ (rows.length = tot → i < tot ∧ ∀ z, (∀ r ∈ rows, r.length = z) → ∃ b o, γ id = some (b, o) ∧ v = .pointer (some ⟨b, o + i * z + off, none⟩))
 | .dp row off, v => ∃ b o cs e rw, S b ∧ h.get b = some (.cells cs e rw) ∧ v = .pointer (some ⟨b, o + off, none⟩) ∧ o + row.length ≤ cs.length ∧ ∀ (j : Nat) (x : PV) (u : Value), row[j]? = some x → cs[o + j]? = some u → PR P S h x u
 | .ref id lo n tot, v => id < L.length ∧ v.oneCell' = true ∧ ∀ o rows, L[id]? = some o → o.isList rows → tot ≤ rows.length ∧ (rows.length = tot → lo + n ≤ tot ∧ ∀ z, (∀ r ∈ rows, r.length = z) → afH P γ z id lo n tot v)
 | .aref id off n, v => ∃ b, γ id = some (b, 0) ∧ (∃ c, L[id]? = some (.st c)) ∧ v = .slice (some ⟨b, off, none⟩) n qB
 | .cx z rows, v => CxV P S h z rows v
 | .mref id, v => ∃ b, γ id = some (b, 0) ∧ (∃ es, L[id]? = some (.mp es)) ∧ v = .map (some b)
 | _, _ => False
def DC (P : Program) (S : Nat → Prop) (γ : Pl) (L : List Obj) (h : Heap) : DV → Value → Prop
 | .fn f pre cap, v => ∃ as bs : Array Value, v = .func (.func f) as bs ∧ All2 (DB P S γ L h) pre as.toList ∧ All2 (DB P S γ L h) cap bs.toList
 | d, v => DB P S γ L h d v
def D1 (P : Program) (S : Nat → Prop) (γ : Pl) (L : List Obj) (h : Heap) : DV → Value → Prop
 | .agg xs, v => ∃ vs : Array Value, v = .agg vs ∧ All2 (DC P S γ L h) xs vs.toList
 | d, v => DC P S γ L h d v
def DR (P : Program) (S : Nat → Prop) (γ : Pl) (L : List Obj) (h : Heap) : DV → Value → Prop
 | .tup xs, v => ∃ vs : Array Value, v = .tuple vs ∧ All2 (D1 P S γ L h) xs vs.toList
 | d, v => D1 P S γ L h d v
end Go.Sim
namespace Go.Sim
open Go.RowKit
def Obj.owns : Obj → Bool
 | .st _ => true
 | .mp _ => true
 | .li (some _) _ => true
 | _ => false
structure Ent where
 start : Nat
 W : Nat → Prop
 A : Nat → Prop
 pin : Nat → Nat → Prop
 cnt : Nat
 few : ∀ id b, pin id b → id < cnt
 sub : ∀ b, W b → A b
def qd (W0 : Ent) (γ : Pl) (L : List Obj) (h : Heap) (b : Nat) : Prop := b < h.next ∧ (W0.start ≤ b ∨ W0.A b) ∧ ∀ id o x, L[id]? = some o → o.owns = true → γ id ≠ some (b, x)
def Rows (P : Program) (S : Nat → Prop) (h : Heap) (b o : Nat) (e : TypeId) (rows : List (List PV)) : Prop :=
 ∃ cs z, h.get b = some (.cells cs e true) ∧ szT P e = some z ∧ 0 < z ∧ o + rows.length * z ≤ cs.length ∧ rows.length ≤ maxLen ∧ (∀ r ∈ rows, r.length = z) ∧
  ∀ (i : Nat) (r : List PV) (j : Nat) (x : PV) (u : Value), rows[i]? = some r → r[j]? = some x → cs[o + i * z + j]? = some u → PR P S h x u
def OR (P : Program) (S : Nat → Prop) (γ : Pl) (L : List Obj) (h : Heap) (id : Nat) : Obj → Prop
 | .st cells => ∃ b e vs, γ id = some (b, 0) ∧ h.get b = some (.cells vs e true) ∧ All2 (DC P S γ L h) cells vs
 | .mp es => ∃ b mes ck, γ id = some (b, 0) ∧ h.get b = some (.map mes ck) ∧ All2 (fun d (e : MapEntry) => e.key = d.1 ∧ D1 P S γ L h d.2 e.val) es mes
 | .li none rows => rows = [] ∧ γ id = none
 | .li (some e) rows => ∃ b o, γ id = some (b, o) ∧ Rows P S h b o e rows
 | .fz none rows => rows = [] ∧ γ id = none
 | .fz (some e) rows => ∃ b o, γ id = some (b, o) ∧ S b ∧ Rows P S h b o e rows
 | .dead => True
structure Hp (P : Program) (h0 : Heap) (W0 : Ent) (γ : Pl) (L : List Obj) (h : Heap) : Prop where
 start : W0.start = h0.next
 pin : ∀ id b, W0.pin id b → γ id = some (b, 0) ∧ ∃ c, L[id]? = some (.st c)
 obj : ∀ id o, L[id]? = some o → OR P (qd W0 γ L h) γ L h id o
 inj : ∀ id id' o o' b x x', L[id]? = some o → L[id']? = some o' → o.owns = true → o'.owns = true → γ id = some (b, x) → γ id' = some (b, x') → id = id'
 dom : ∀ id x, γ id = some x → id < L.length
 new : ∀ id o b x, L[id]? = some o → o.owns = true → γ id = some (b, x) → h0.next ≤ b ∨ W0.W b
 next : h0.next ≤ h.next
 frame : ∀ b, b < h0.next → ¬ W0.W b → h.get b = h0.get b
theorem OR.lt {P : Program} {S : Nat → Prop} {γ : Pl} {L : List Obj} {h : Heap} {id b x : Nat} {o : Obj} (hs : ∀ b, S b → b < h.next) (ho : OR P S γ L h id o) (hg : γ id = some (b, x)) (hd : o.owns = true) : b < h.next ∧ ∃ q, h.get b = some q := by
 cases o with
 | st cells =>
  obtain ⟨b', e, vs, h1, h2, _⟩ := ho
  rw [hg] at h1; cases h1
  exact ⟨h.wf _ _ h2, _, h2⟩
 | mp es =>
  obtain ⟨b', mes, ck, h1, h2, _⟩ := ho
  rw [hg] at h1; cases h1
  exact ⟨h.wf _ _ h2, _, h2⟩
 | li e rows =>
  cases e with
  | none => cases hd
  | some e =>
   obtain ⟨b', o, h1, cs, z, h2, _⟩ := ho
   rw [hg] at h1; cases h1
   exact ⟨h.wf _ _ h2, _, h2⟩
 | fz e rows => cases hd
 | dead => cases hd
structure Carry (W0 : Ent) (γ : Pl) (L : List Obj) (h : Heap) (γ' : Pl) (L' : List Obj) (h' : Heap) : Prop where
 free : ∀ b, qd W0 γ L h b → qd W0 γ' L' h' b ∧ h'.get b = h.get b
 len : L.length ≤ L'.length
 st : ∀ id b, γ id = some (b, 0) → (∃ c, L[id]? = some (.st c)) → γ' id = some (b, 0) ∧ ∃ c, L'[id]? = some (.st c)
 mp : ∀ id b, γ id = some (b, 0) → (∃ c, L[id]? = some (.mp c)) → γ' id = some (b, 0) ∧ ∃ c, L'[id]? = some (.mp c)
 li : ∀ id o' rows', id < L.length → L'[id]? = some o' → o'.isList rows' → ∃ o rows, L[id]? = some o ∧ o.isList rows ∧ rows.length ≤ rows'.length ∧
  (rows'.length = rows.length → γ' id = γ id ∧ ∀ z, (∀ r ∈ rows', r.length = z) → ∀ r ∈ rows, r.length = z)
section
variable {P : Program} {W0 : Ent} {γ γ' : Pl} {L L' : List Obj} {h h' : Heap}
theorem Carry.pr (c : Carry W0 γ L h γ' L' h') {x : PV} {v : Value} (hx : PR P (qd W0 γ L h) h x v) : PR P (qd W0 γ' L' h') h' x v := hx.mono c.free
theorem Carry.db (c : Carry W0 γ L h γ' L' h') {d : DV} {v : Value} (hd : DB P (qd W0 γ L h) γ L h d v) : DB P (qd W0 γ' L' h') γ' L' h' d v := by
 cases d with
 | p x => exact c.pr hd
 | ptr id off =>
  obtain ⟨b, h1, h2, h3⟩ := hd
  obtain ⟨h4, h5⟩ := c.st id b h1 h2
  exact ⟨b, h4, h5, h3⟩
 | aref id off n =>
  obtain ⟨b, h1, h2, h3⟩ := hd
  obtain ⟨h4, h5⟩ := c.st id b h1 h2
  exact ⟨b, h4, h5, h3⟩
 | ep id i off tot =>
  obtain ⟨h1, h2, h3⟩ := hd
  refine ⟨Nat.lt_of_lt_of_le h1 c.len, h2, fun o' rows' e hl => ?_⟩
  obtain ⟨o, rows, e1, e2, e3, e4⟩ := c.li id o' rows' h1 e hl
  obtain ⟨k1, k2⟩ := h3 o rows e1 e2
  refine ⟨Nat.le_trans k1 e3, fun e5 => ?_⟩
  have e6 : rows'.length = rows.length := by omega
  obtain ⟨e7, e8⟩ := e4 e6
  rw [e7]
  obtain ⟨k3, k4⟩ := k2 (by omega)
  exact ⟨k3, fun z hz => k4 z (e8 z hz)⟩
 | dp row off =>
  obtain ⟨b, o, cs, e, rw, h1, h2, h3, h4, h5⟩ := hd
  exact ⟨b, o, cs, e, rw, (c.free b h1).1, (c.free b h1).2.trans h2, h3, h4, fun j x u ex eu => c.pr (h5 j x u ex eu)⟩
 | ref id lo n tot =>
  obtain ⟨h1, h2, h3⟩ := hd
  refine ⟨Nat.lt_of_lt_of_le h1 c.len, h2, fun o' rows' e hl => ?_⟩
  obtain ⟨o, rows, e1, e2, e3, e4⟩ := c.li id o' rows' h1 e hl
  obtain ⟨k1, k2⟩ := h3 o rows e1 e2
  refine ⟨Nat.le_trans k1 e3, fun e5 => ?_⟩
  have e6 : rows'.length = rows.length := by omega
  obtain ⟨e7, e8⟩ := e4 e6
  obtain ⟨k3, k4⟩ := k2 (by omega)
  refine ⟨k3, fun z hz => ?_⟩
  have := k4 z (e8 z hz)
  unfold afH at this ⊢
  rw [e7]
  exact this
 | cx z rows => exact CxV.mono c.free hd
 | mref id =>
  obtain ⟨b, h1, h2, h3⟩ := hd
  obtain ⟨h4, h5⟩ := c.mp id b h1 h2
  exact ⟨b, h4, h5, h3⟩
 | fn f pre cap => exact hd.elim
 | agg xs => exact hd.elim
 | tup xs => exact hd.elim
theorem Carry.dc (c : Carry W0 γ L h γ' L' h') {d : DV} {v : Value} (hd : DC P (qd W0 γ L h) γ L h d v) : DC P (qd W0 γ' L' h') γ' L' h' d v := by
 cases d with
 | fn f pre cap =>
  obtain ⟨as, bs, h1, h2, h3⟩ := hd
  exact ⟨as, bs, h1, h2.mono fun _ _ => c.db, h3.mono fun _ _ => c.db⟩
 | agg xs => exact hd.elim
 | tup xs => exact hd.elim
 | p x => exact c.db (P := P) (d := .p x) hd
 | ptr a b => exact c.db (P := P) (d := .ptr a b) hd
 | ep a b e f => exact c.db (P := P) (d := .ep a b e f) hd
 | dp a b => exact c.db (P := P) (d := .dp a b) hd
 | ref a b e f => exact c.db (P := P) (d := .ref a b e f) hd
 | aref a b e => exact c.db (P := P) (d := .aref a b e) hd
 | cx a b => exact c.db (P := P) (d := .cx a b) hd
 | mref a => exact c.db (P := P) (d := .mref a) hd
theorem Carry.d1 (c : Carry W0 γ L h γ' L' h') {d : DV} {v : Value} (hd : D1 P (qd W0 γ L h) γ L h d v) : D1 P (qd W0 γ' L' h') γ' L' h' d v := by
 cases d with
 | agg xs =>
  obtain ⟨vs, h1, h2⟩ := hd
  exact ⟨vs, h1, h2.mono fun _ _ => c.dc⟩
 | tup xs => exact hd.elim
 | fn a b e => exact c.dc (P := P) (d := .fn a b e) hd
 | p x => exact c.dc (P := P) (d := .p x) hd
 | ptr a b => exact c.dc (P := P) (d := .ptr a b) hd
 | ep a b e f => exact c.dc (P := P) (d := .ep a b e f) hd
 | dp a b => exact c.dc (P := P) (d := .dp a b) hd
 | ref a b e f => exact c.dc (P := P) (d := .ref a b e f) hd
 | aref a b e => exact c.dc (P := P) (d := .aref a b e) hd
 | cx a b => exact c.dc (P := P) (d := .cx a b) hd
 | mref a => exact c.dc (P := P) (d := .mref a) hd
theorem Carry.dr (c : Carry W0 γ L h γ' L' h') {d : DV} {v : Value} (hd : DR P (qd W0 γ L h) γ L h d v) : DR P (qd W0 γ' L' h') γ' L' h' d v := by
 cases d with
 | tup xs =>
  obtain ⟨vs, h1, h2⟩ := hd
  exact ⟨vs, h1, h2.mono fun _ _ => c.d1⟩
 | agg xs => exact c.d1 (P := P) (d := .agg xs) hd
 | fn a b e => exact c.d1 (P := P) (d := .fn a b e) hd
 | p x => exact c.d1 (P := P) (d := .p x) hd
 | ptr a b => exact c.d1 (P := P) (d := .ptr a b) hd
 | ep a b e f => exact c.d1 (P := P) (d := .ep a b e f) hd
 | dp a b => exact c.d1 (P := P) (d := .dp a b) hd
 | ref a b e f => exact c.d1 (P := P) (d := .ref a b e f) hd
 | aref a b e => exact c.d1 (P := P) (d := .aref a b e) hd
 | cx a b => exact c.d1 (P := P) (d := .cx a b) hd
 | mref a => exact c.d1 (P := P) (d := .mref a) hd
theorem Carry.refl (γ : Pl) (L : List Obj) (h : Heap) : Carry W0 γ L h γ L h :=
 ⟨fun _ hb => ⟨hb, rfl⟩, Nat.le_refl _, fun _ _ hb hc => ⟨hb, hc⟩, fun _ _ hb hc => ⟨hb, hc⟩, fun id o' rows' _ e hl => ⟨o', rows', e, hl, Nat.le_refl _, fun _ => ⟨rfl, fun _ hz => hz⟩⟩⟩
theorem Carry.rows (c : Carry W0 γ L h γ' L' h') {b o : Nat} {e : TypeId} {rows : List (List PV)} (hg : h'.get b = h.get b) (hd : Rows P (qd W0 γ L h) h b o e rows) : Rows P (qd W0 γ' L' h') h' b o e rows := by
 obtain ⟨cs, z, h1, h2, h3, h4, h5, h6, h7⟩ := hd
 exact ⟨cs, z, hg.trans h1, h2, h3, h4, h5, h6, fun i r j x u a b d => c.pr (h7 i r j x u a b d)⟩
def yb (γ : Pl) (id b : Nat) : Pl := fun i => if i = id then some (b, 0) else γ i
theorem Jh (hγ : ∀ id x, γ id = some x → id < L.length) (q : AObj) (o : Obj) : Carry W0 γ L h (yb γ L.length h.next) (L ++ [o]) (h.push q) := by
 have hne : ∀ id, id < L.length → yb γ L.length h.next id = γ id := fun id hi => if_neg (by omega)
 refine ⟨fun b hb => ⟨⟨by have := hb.1; simp; omega, hb.2.1, fun id o' x e ho hg => ?_⟩, Heap.get_push_ne _ _ (by have := hb.1; omega)⟩, by simp, fun id b e ⟨c, hc⟩ => ?_, fun id b e ⟨c, hc⟩ => ?_, fun id o' rows' hi e hl => ?_⟩
 ·by_cases hi : id < L.length
  ·rw [List.getElem?_append_left hi] at e
   rw [hne id hi] at hg
   exact hb.2.2 id o' x e ho hg
  ·by_cases h2 : id = L.length
   ·subst h2
    simp [yb] at hg
    have := hb.1
    omega
   ·rw [List.getElem?_eq_none (by simp; omega)] at e
    cases e
 ·have hi := hγ id _ e
  rw [hne id hi, List.getElem?_append_left hi]
  exact ⟨e, c, hc⟩
 ·have hi := hγ id _ e
  rw [hne id hi, List.getElem?_append_left hi]
  exact ⟨e, c, hc⟩
 ·rw [List.getElem?_append_left hi] at e
  exact ⟨o', rows', e, hl, Nat.le_refl _, fun _ => ⟨hne id hi, fun _ hz => hz⟩⟩
theorem ZI (o : Obj) (ho : o.owns = false) : Carry W0 γ L h γ (L ++ [o]) h := by
 refine ⟨fun b hb => ⟨⟨hb.1, hb.2.1, fun id o' x e ho' hg => ?_⟩, rfl⟩, by simp, fun id b e ⟨c, hc⟩ => ⟨e, c, ?_⟩, fun id b e ⟨c, hc⟩ => ⟨e, c, ?_⟩, fun id o' rows' hi e hl => ?_⟩
 ·by_cases hi : id < L.length
  ·rw [List.getElem?_append_left hi] at e
   exact hb.2.2 id o' x e ho' hg
  ·by_cases h2 : id = L.length
   ·subst h2
    simp at e; subst e
    rw [ho] at ho'; cases ho'
   ·rw [List.getElem?_eq_none (by simp; omega)] at e
    cases e
 ·rw [List.getElem?_append_left (List.getElem?_eq_some_iff.1 hc).1]; exact hc
 ·rw [List.getElem?_append_left (List.getElem?_eq_some_iff.1 hc).1]; exact hc
 ·rw [List.getElem?_append_left hi] at e
  exact ⟨o', rows', e, hl, Nat.le_refl _, fun _ => ⟨rfl, fun _ hz => hz⟩⟩
end
end Go.Sim
namespace Go.Sim
open Go.RowKit
section
variable {P : Program} {h0 : Heap} {W0 : Ent} {γ : Pl} {L : List Obj} {h : Heap}
theorem Hp.others {γ' : Pl} {L' : List Obj} {h' : Heap} (H : Hp P h0 W0 γ L h) (c : Carry W0 γ L h γ' L' h') {id : Nat} {o : Obj} (hi : L[id]? = some o) (hg : γ' id = γ id) (hb : ∀ b x, γ id = some (b, x) → o.owns = true → h'.get b = h.get b) : OR P (qd W0 γ' L' h') γ' L' h' id o := by
 have ho := H.obj id o hi
 cases o with
 | st cells =>
  obtain ⟨b, e, vs, h1, h2, h3⟩ := ho
  exact ⟨b, e, vs, hg.trans h1, (hb b 0 h1 rfl).trans h2, h3.mono fun _ _ => c.dc⟩
 | li e rows =>
  cases e with
  | none => exact ⟨ho.1, hg.trans ho.2⟩
  | some e =>
   obtain ⟨b, o, h1, h2⟩ := ho
   exact ⟨b, o, hg.trans h1, c.rows (hb b o h1 rfl) h2⟩
 | fz e rows =>
  cases e with
  | none => exact ⟨ho.1, hg.trans ho.2⟩
  | some e =>
   obtain ⟨b, o, h1, h2, h3⟩ := ho
   exact ⟨b, o, hg.trans h1, (c.free b h2).1, c.rows (c.free b h2).2 h3⟩
 | mp es =>
  obtain ⟨b, mes, ck, h1, h2, h3⟩ := ho
  exact ⟨b, mes, ck, hg.trans h1, (hb b 0 h1 rfl).trans h2, h3.mono fun _ _ q => ⟨q.1, c.d1 q.2⟩⟩
 | dead => trivial
theorem getElem?_snoc {α : Type} {l : List α} {a b : α} {i : Nat} (h : (l ++ [a])[i]? = some b) : (i < l.length ∧ l[i]? = some b) ∨ (i = l.length ∧ a = b) := by
 by_cases hi : i < l.length
 ·rw [List.getElem?_append_left hi] at h; exact .inl ⟨hi, h⟩
 ·by_cases h2 : i = l.length
  ·subst h2; simp at h; exact .inr ⟨rfl, h⟩
  ·rw [List.getElem?_eq_none (by simp; omega)] at h; cases h
theorem Hp.push (H : Hp P h0 W0 γ L h) {q : AObj} {o : Obj} (hn : OR P (qd W0 (yb γ L.length h.next) (L ++ [o]) (h.push q)) (yb γ L.length h.next) (L ++ [o]) (h.push q) L.length o) :
  Hp P h0 W0 (yb γ L.length h.next) (L ++ [o]) (h.push q) := by
 have c := Jh (W0 := W0) (h := h) H.dom q o
 have hne : ∀ id, id < L.length → yb γ L.length h.next id = γ id := fun id hi => if_neg (by omega)
 have hlt : ∀ id o b x, L[id]? = some o → o.owns = true → γ id = some (b, x) → b < h.next := fun id o b x e e2 e3 => (OR.lt (fun b hb => hb.1) (H.obj id o e) e3 e2).1
 refine ⟨H.start, fun id b e => (let ⟨a, b'⟩ := H.pin id b e; c.st id b a b'), fun id o' e => ?_, fun id id' o1 o2 b x x' e1 e2 d1 d2 g1 g2 => ?_, fun id x e => ?_, fun id o' b x e d g => ?_, by have := H.next; simp; omega, fun b hb hw => ?_⟩
 ·rcases getElem?_snoc e with ⟨hi, e⟩ | ⟨rfl, rfl⟩
  ·exact H.others c e (hne id hi) fun b x g d => Heap.get_push_ne _ _ (by have := hlt id o' b x e d g; omega)
  ·exact hn
 ·rcases getElem?_snoc e1 with ⟨hi1, e1⟩ | ⟨rfl, rfl⟩ <;> rcases getElem?_snoc e2 with ⟨hi2, e2⟩ | ⟨rfl, rfl⟩
  ·rw [hne id hi1] at g1
   rw [hne id' hi2] at g2
   exact H.inj id id' o1 o2 b x x' e1 e2 d1 d2 g1 g2
  ·rw [hne id hi1] at g1
   have := hlt id o1 b x e1 d1 g1
   simp [yb] at g2
   omega
  ·rw [hne id' hi2] at g2
   have := hlt id' o2 b x' e2 d2 g2
   simp [yb] at g1
   omega
  ·rfl
 ·unfold yb at e
  split at e
  ·rename_i hi; simp; omega
  ·have := H.dom id x e; simp; omega
 ·rcases getElem?_snoc e with ⟨hi, e⟩ | ⟨rfl, rfl⟩
  ·rw [hne id hi] at g; exact H.new id o' b x e d g
  ·simp [yb] at g
   exact .inl (by have := H.next; omega)
 ·rw [Heap.get_push_ne _ _ (by have := H.next; omega)]; exact H.frame b hb hw
theorem Hp.virtual (H : Hp P h0 W0 γ L h) {o : Obj} (ho : o.owns = false) (hn : OR P (qd W0 γ (L ++ [o]) h) γ (L ++ [o]) h L.length o) : Hp P h0 W0 γ (L ++ [o]) h := by
 have c := ZI (W0 := W0) (γ := γ) (L := L) (h := h) o ho
 refine ⟨H.start, fun id b e => (let ⟨a, b'⟩ := H.pin id b e; c.st id b a b'), fun id o' e => ?_, fun id id' o1 o2 b x x' e1 e2 d1 d2 g1 g2 => ?_, fun id x e => by have := H.dom id x e; simp; omega, fun id o' b x e d g => ?_, H.next, H.frame⟩
 ·rcases getElem?_snoc e with ⟨hi, e⟩ | ⟨rfl, rfl⟩
  ·exact H.others c e rfl fun _ _ _ _ => rfl
  ·exact hn
 ·rcases getElem?_snoc e1 with ⟨hi1, e1⟩ | ⟨rfl, rfl⟩ <;> rcases getElem?_snoc e2 with ⟨hi2, e2⟩ | ⟨rfl, rfl⟩
  ·exact H.inj id id' o1 o2 b x x' e1 e2 d1 d2 g1 g2
  ·rw [ho] at d2; cases d2
  ·rw [ho] at d1; cases d1
  ·rfl
 ·rcases getElem?_snoc e with ⟨hi, e⟩ | ⟨rfl, rfl⟩
  ·exact H.new id o' b x e d g
  ·rw [ho] at d; cases d
theorem getElem?_set' {α : Type} {l : List α} {a b : α} {i j : Nat} (h : (l.set i a)[j]? = some b) : (j ≠ i ∧ l[j]? = some b) ∨ (j = i ∧ i < l.length ∧ a = b) := by
 by_cases hi : j = i
 ·subst hi
  by_cases hl : j < l.length
  ·simp [List.getElem?_set, hl] at h; exact .inr ⟨rfl, hl, h⟩
  ·rw [List.getElem?_eq_none (by simp; omega)] at h; cases h
 ·rw [List.getElem?_set_ne (Ne.symm hi)] at h; exact .inl ⟨hi, h⟩
theorem wH {γ' : Pl} {h' : Heap} {id : Nat} {o o' : Obj} (hi : L[id]? = some o) (hd : o.owns = true ∨ γ id = none) (hγ : ∀ j, j ≠ id → γ' j = γ j)
  (hst : ∀ c, o = .st c → γ' id = γ id ∧ ∃ c', o' = .st c')
  (hli : ∀ rows', o'.isList rows' → ∃ rows, o.isList rows ∧ rows.length ≤ rows'.length ∧ (rows'.length = rows.length → γ' id = γ id ∧ ∀ z, (∀ r ∈ rows', r.length = z) → ∀ r ∈ rows, r.length = z))
  (hn : h.next ≤ h'.next) (hnew : ∀ b x, γ' id = some (b, x) → o'.owns = true → γ id = some (b, x) ∨ h.next ≤ b)
  (hget : ∀ b, b < h.next → (∀ x, γ id ≠ some (b, x)) → h'.get b = h.get b) (hmp : ∀ c, o = .mp c → γ' id = γ id ∧ ∃ c', o' = .mp c' := by intro c e; cases e) : Carry W0 γ L h γ' (L.set id o') h' := by
 have hlt : id < L.length := (List.getElem?_eq_some_iff.1 hi).1
 refine ⟨fun b hb => ⟨⟨Nat.lt_of_lt_of_le hb.1 hn, hb.2.1, fun j q x e dq g => ?_⟩, hget b hb.1 fun x hx => hd.elim (fun hd => hb.2.2 id o x hi hd hx) (fun hd => by rw [hd] at hx; cases hx)⟩, by simp, fun j b e ⟨c, hc⟩ => ?_, fun j b e ⟨c, hc⟩ => ?_, fun j q rows' hj e hl => ?_⟩
 ·rcases getElem?_set' e with ⟨hj, e⟩ | ⟨rfl, _, rfl⟩
  ·rw [hγ j hj] at g; exact hb.2.2 j q x e dq g
  ·rcases hnew b x g dq with g | g
   ·exact hd.elim (fun hd => hb.2.2 j o x hi hd g) (fun hd => by rw [hd] at g; cases g)
   ·have := hb.1; omega
 ·by_cases hj : j = id
  ·subst hj
   rw [hi] at hc; cases hc
   obtain ⟨k1, c', rfl⟩ := hst c rfl
   exact ⟨k1.trans e, c', by simp [List.getElem?_set, hlt]⟩
  ·exact ⟨(hγ j hj).trans e, c, by rw [List.getElem?_set_ne (Ne.symm hj)]; exact hc⟩
 ·by_cases hj : j = id
  ·subst hj
   rw [hi] at hc; cases hc
   obtain ⟨k1, c', rfl⟩ := hmp c rfl
   exact ⟨k1.trans e, c', by simp [List.getElem?_set, hlt]⟩
  ·exact ⟨(hγ j hj).trans e, c, by rw [List.getElem?_set_ne (Ne.symm hj)]; exact hc⟩
 ·rcases getElem?_set' e with ⟨hj', e⟩ | ⟨rfl, _, rfl⟩
  ·exact ⟨q, rows', e, hl, Nat.le_refl _, fun _ => ⟨hγ j hj', fun _ hz => hz⟩⟩
  ·obtain ⟨rows, k1, k2, k3⟩ := hli rows' hl
   exact ⟨o, rows, hi, k1, k2, k3⟩
theorem Hp.write {γ' : Pl} {h' : Heap} {id : Nat} {o o' : Obj} (H : Hp P h0 W0 γ L h) (hi : L[id]? = some o) (hd0 : o.owns = true ∨ γ id = none) (c : Carry W0 γ L h γ' (L.set id o') h') (hγ : ∀ j, j ≠ id → γ' j = γ j)
  (hn : h.next ≤ h'.next) (hnew : ∀ b x, γ' id = some (b, x) → (∃ x', γ id = some (b, x')) ∨ h.next ≤ b) (hdom : ∀ x, γ' id = some x → id < L.length)
  (hget : ∀ b, b < h.next → (∀ x, γ id ≠ some (b, x)) → h'.get b = h.get b)
  (ho : OR P (qd W0 γ' (L.set id o') h') γ' (L.set id o') h' id o') : Hp P h0 W0 γ' (L.set id o') h' := by
 have hd : ∀ {b x}, γ id = some (b, x) → o.owns = true := fun g => hd0.elim (fun q => q) (fun q => by rw [q] at g; cases g)
 have hlt : ∀ id o b x, L[id]? = some o → o.owns = true → γ id = some (b, x) → b < h.next := fun id o b x e e2 e3 => (OR.lt (fun b hb => hb.1) (H.obj id o e) e3 e2).1
 refine ⟨H.start, fun id b e => (let ⟨a, b'⟩ := H.pin id b e; c.st id b a b'), fun j q e => ?_, fun j j' o1 o2 b x x' e1 e2 d1 d2 g1 g2 => ?_, fun j x e => ?_, fun j q b x e dq g => ?_, Nat.le_trans H.next hn, fun b hb hw => ?_⟩
 ·rcases getElem?_set' e with ⟨hj, e⟩ | ⟨rfl, _, rfl⟩
  ·exact H.others c e (hγ j hj) fun b x g d => hget b (hlt j q b x e d g) fun x' g' => hj (H.inj j id q o b x x' e hi d (hd g') g g')
  ·exact ho
 ·rcases getElem?_set' e1 with ⟨hj1, f1⟩ | ⟨hj1, _, q1⟩ <;> rcases getElem?_set' e2 with ⟨hj2, f2⟩ | ⟨hj2, _, q2⟩
  ·rw [hγ j hj1] at g1
   rw [hγ j' hj2] at g2
   exact H.inj j j' o1 o2 b x x' f1 f2 d1 d2 g1 g2
  ·rw [hγ j hj1] at g1
   rw [hj2] at g2
   rcases hnew b x' g2 with ⟨x2, g2⟩ | g2
   ·rw [hj2]; exact H.inj j id o1 o b x x2 f1 hi d1 (hd g2) g1 g2
   ·have := hlt j o1 b x f1 d1 g1; omega
  ·rw [hγ j' hj2] at g2
   rw [hj1] at g1
   rcases hnew b x g1 with ⟨x2, g1⟩ | g1
   ·rw [hj1]; exact (H.inj j' id o2 o b x' x2 f2 hi d2 (hd g1) g2 g1).symm
   ·have := hlt j' o2 b x' f2 d2 g2; omega
  ·rw [hj1, hj2]
 ·rw [List.length_set]
  by_cases hj : j = id
  ·subst hj; exact hdom x e
  ·rw [hγ j hj] at e; exact H.dom j x e
 ·rcases getElem?_set' e with ⟨hj, e⟩ | ⟨rfl, _, rfl⟩
  ·rw [hγ j hj] at g; exact H.new j q b x e dq g
  ·rcases hnew b x g with ⟨x2, g⟩ | g
   ·exact H.new j o b x2 hi (hd g) g
   ·exact .inl (Nat.le_trans H.next g)
 ·by_cases hx : ∃ x, γ id = some (b, x)
  ·obtain ⟨x, hx⟩ := hx
   rcases H.new id o b x hi (hd hx) hx with k | k
   ·omega
   ·exact absurd k hw
  ·rw [hget b (Nat.lt_of_lt_of_le hb H.next) fun x g => hx ⟨x, g⟩]; exact H.frame b hb hw
end
end Go.Sim
namespace Go.Sim
open Go.RowKit
def qQ (t : Nat) : List (Nat × DV) → Option DV
 | [] => none
 | (t', d) :: l => if t' = t then some d else qQ t l
structure DFrm where
 n : Nat
 c : Nat
 l : List (Nat × DV)
def DFrm.put (a : DFrm) (t : Option Nat) (d : DV) : DFrm := match t with
 | some t => if t < a.n then ⟨a.n, a.c, (t, d) :: a.l⟩ else a
 | none => a
abbrev abr : DV := .tup []
def UH (v : Value) : Option DV := if scal v then some (.p (.v v)) else match v with
 | .tuple xs => if xs.size = 0 then some abr else none
 | _ => none
def DFrm.ev (a : DFrm) : Operand → Option DV
 | .tmp t => qQ t a.l
 | .const v => UH v
 | .func f => some (.fn f [] [])
 | .global _ => none
abbrev Ym := Operand → Option DV
def xy (P : Program) (W0 : Ent) (γ : Pl) (L : List Obj) (h : Heap) (ρ : Ym) (r : Rho) : Prop := ∀ x d, ρ x = some d → ∃ v, r x = some v ∧ DR P (qd W0 γ L h) γ L h d v
def Qh (ρ : Ym) : List Operand → Option (List DV)
 | [] => some []
 | x :: r => match ρ x, Qh ρ r with
  | some v, some vs => some (v :: vs)
  | _, _ => none
def Kf (ρ : Ym) : List (Nat × Operand) → Option (List (Nat × DV))
 | [] => some []
 | (i, x) :: r => match ρ x, Kf ρ r with
  | some v, some vs => some ((i, v) :: vs)
  | _, _ => none
section
variable {P : Program} {W0 : Ent} {γ : Pl} {L : List Obj} {h : Heap} {ρ : Ym} {r : Rho}
theorem zh (hρ : xy P W0 γ L h ρ r) : ∀ {xs : List Operand} {ds : List DV}, Qh ρ xs = some ds → ∃ vs, jy r xs = some vs ∧ All2 (DR P (qd W0 γ L h) γ L h) ds vs
 | [], ds, e => by cases e; exact ⟨[], rfl, .nil⟩
 | x :: xs, ds, e => by
  unfold Qh at e
  cases h1 : ρ x with
  | none => rw [h1] at e; cases e
  | some d =>
   cases h2 : Qh ρ xs with
   | none => rw [h1, h2] at e; cases e
   | some ds' =>
    rw [h1, h2] at e
    cases e
    obtain ⟨v, e1, r1⟩ := hρ x d h1
    obtain ⟨vs, e2, r2⟩ := zh hρ h2
    exact ⟨v :: vs, by simp only [jy, e1, e2], .cons r1 r2⟩
theorem Zx (hρ : xy P W0 γ L h ρ r) : ∀ {xs : List (Nat × Operand)} {ds : List (Nat × DV)}, Kf ρ xs = some ds → ∃ vs, JC r xs = some vs ∧ All2 (fun d v => d.1 = v.1 ∧ (DR P (qd W0 γ L h) γ L h) d.2 v.2) ds vs
 | [], ds, e => by cases e; exact ⟨[], rfl, .nil⟩
 | (i, x) :: xs, ds, e => by
  unfold Kf at e
  cases h1 : ρ x with
  | none => rw [h1] at e; cases e
  | some d =>
   cases h2 : Kf ρ xs with
   | none => rw [h1, h2] at e; cases e
   | some ds' =>
    rw [h1, h2] at e
    cases e
    obtain ⟨v, e1, r1⟩ := hρ x d h1
    obtain ⟨vs, e2, r2⟩ := Zx hρ h2
    exact ⟨(i, v) :: vs, by simp only [JC, e1, e2], .cons ⟨rfl, r1⟩ r2⟩
def zg : DV → List DV
 | .agg xs => xs
 | d => [d]
theorem Wl {S : Nat → Prop} {d : DV} {v : Value} (hd : DB P S γ L h d v) : v.oneCell' = true := by
 cases d with
 | p x => exact PR.one hd
 | ptr => obtain ⟨_, _, _, rfl⟩ := hd; rfl
 | aref => obtain ⟨_, _, _, rfl⟩ := hd; rfl
 | mref => obtain ⟨_, _, _, rfl⟩ := hd; rfl
 | ep => exact hd.2.1
 | ref => exact hd.2.1
 | dp => obtain ⟨_, _, _, _, _, _, _, rfl, _⟩ := hd; rfl
 | cx =>
  obtain ⟨_, ⟨_, rfl, _⟩ | ⟨_, _, rfl, _⟩⟩ := hd
  ·rfl
  ·rfl
 | _ => exact hd.elim
theorem adP {S : Nat → Prop} {d : DV} {v : Value} (hd : DC P S γ L h d v) : v.oneCell' = true := by
 cases d with
 | fn => obtain ⟨_, _, rfl, _⟩ := hd; rfl
 | p x => exact Wl (P := P) (S := S) (γ := γ) (L := L) (h := h) (d := .p x) hd
 | ptr a b => exact Wl (P := P) (S := S) (γ := γ) (L := L) (h := h) (d := .ptr a b) hd
 | aref a b c => exact Wl (P := P) (S := S) (γ := γ) (L := L) (h := h) (d := .aref a b c) hd
 | ep a b c e => exact Wl (P := P) (S := S) (γ := γ) (L := L) (h := h) (d := .ep a b c e) hd
 | ref a b c e => exact Wl (P := P) (S := S) (γ := γ) (L := L) (h := h) (d := .ref a b c e) hd
 | dp a b => exact Wl (P := P) (S := S) (γ := γ) (L := L) (h := h) (d := .dp a b) hd
 | cx a b => exact Wl (P := P) (S := S) (γ := γ) (L := L) (h := h) (d := .cx a b) hd
 | mref a => exact Wl (P := P) (S := S) (γ := γ) (L := L) (h := h) (d := .mref a) hd
 | agg => exact hd.elim
 | tup => exact hd.elim
theorem ac3 {v : Value} (h : v.oneCell' = true) : v.cells = #[v] := by
 cases v <;> first | rfl | (simp [Value.oneCell'] at h)
theorem ZY {S : Nat → Prop} {d : DV} {v : Value} (hd : DC P S γ L h d v) : D1 P S γ L h d v := by
 cases d <;> first | exact hd | exact hd.elim
theorem jH {S : Nat → Prop} {d : DV} {v : Value} (hd : D1 P S γ L h d v) : DR P S γ L h d v := by
 cases d <;> first | exact hd | exact hd.elim
theorem Ke {S : Nat → Prop} {d : DV} {v : Value} (hd : D1 P S γ L h d v) (ha : ∀ xs, d ≠ .agg xs) : DC P S γ L h d v := by
 cases d <;> first | exact hd | exact absurd rfl (ha _)
def is1 : DV → Bool
 | .tup _ => false
 | _ => true
theorem wL {S : Nat → Prop} {d : DV} {v : Value} (hd : DR P S γ L h d v) (ha : is1 d = true) : D1 P S γ L h d v := by
 cases d <;> first | exact hd | (simp [is1] at ha)
theorem Wp {S : Nat → Prop} {d : DV} {v : Value} (hd : D1 P S γ L h d v) : All2 (DC P S γ L h) (zg d) v.cells.toList ∧ v.cells.toList.all Value.oneCell' = true := by
 have key : ∀ (d : DV), (∀ xs, d ≠ .agg xs) → D1 P S γ L h d v → All2 (DC P S γ L h) [d] v.cells.toList ∧ v.cells.toList.all Value.oneCell' = true := by
  intro d ha hd
  have h1 := Ke hd ha
  have h2 := adP h1
  rw [ac3 h2]
  exact ⟨.cons h1 .nil, by simp [h2]⟩
 cases d with
 | agg xs =>
  obtain ⟨vs, rfl, h1⟩ := hd
  refine ⟨h1, ?_⟩
  rw [List.all_eq_true]
  intro u hu
  obtain ⟨i, hi, rfl⟩ := List.mem_iff_getElem.1 hu
  obtain ⟨d, _, hd⟩ := h1.get' (List.getElem?_eq_getElem hi)
  exact adP hd
 | _ => exact key _ (by intro xs e; cases e) hd
def Q5 (P : Program) (t : TypeId) (cs : List DV) (off : Nat) : Option DV :=
 match P.underlying t with
 | none => none
 | some _ => if a1k P t then match szT P t with
   | some n => if off + n ≤ cs.length then some (.agg ((cs.drop off).take n)) else none
   | none => none
  else cs[off]?
theorem Q0 {S : Nat → Prop} {t : TypeId} {cs : List DV} {vs : List Value} {off : Nat} {d : DV} (hr : All2 (DC P S γ L h) cs vs) (hd : Q5 P t cs off = some d) : ∃ v, y9 P t vs off = some v ∧ D1 P S γ L h d v := by
 unfold Q5 at hd
 unfold y9
 cases hu : P.underlying t with
 | none => rw [hu] at hd; cases hd
 | some q =>
  simp only [hu] at hd ⊢
  by_cases ha : a1k P t = true
  ·simp only [ha, if_true] at hd ⊢
   cases hs : szT P t with
   | none => simp [hs] at hd
   | some n =>
    simp only [hs] at hd ⊢
    rw [hr.length] at hd
    split at hd
    ·rename_i hle
     cases hd
     rw [if_pos hle]
     exact ⟨_, rfl, _, rfl, by simpa using (hr.drop off).take n⟩
    ·cases hd
  ·simp only [ha] at hd ⊢
   obtain ⟨v, e, q⟩ := hr.get (by simpa using hd)
   exact ⟨v, e, ZY q⟩
def Qd : List DV → Option (List Value)
 | [] => some []
 | .p (.v x) :: l => (Qd l).map (x :: ·)
 | _ :: _ => none
def y3 : DV → Option Value
 | .p (.v x) => some x
 | .agg xs => (Qd xs).map fun l => .agg l.toArray
 | _ => none
theorem Xm {S : Nat → Prop} : ∀ {ds : List DV} {vs xs : List Value}, All2 (DC P S γ L h) ds vs → Qd ds = some xs → vs = xs
 | [], _, _, .nil, e => by cases e; rfl
 | d :: ds, _, _, .cons hd t, e => by
  unfold Qd at e
  split at e
  ·rename_i heq; cases heq
  ·rename_i x l heq
   cases heq
   cases hq : Qd ds with
   | none => rw [hq] at e; cases e
   | some ys =>
    rw [hq] at e; cases e
    have h1 : _ = x := PR.scal (P := P) (S := S) (h := h) hd
    rw [h1, Xm t hq]
  ·cases e
theorem j7 {S : Nat → Prop} {d : DV} {v x : Value} (hd : DR P S γ L h d v) (e : y3 d = some x) : v = x := by
 unfold y3 at e
 split at e
 ·cases e; exact PR.scal (P := P) (S := S) (h := h) hd
 ·rename_i xs
  obtain ⟨vs, rfl, h1⟩ := hd
  cases hq : Qd xs with
  | none => rw [hq] at e; cases e
  | some l =>
   rw [hq] at e; cases e
   have := Xm h1 hq
   rw [← this]
 ·cases e
def scD (o : Option Value) : Option DV := match o with
 | some v => if scal v then some (.p (.v v)) else none
 | none => none
theorem jU {S : Nat → Prop} {o : Option Value} {d : DV} (e : scD o = some d) : ∃ v, o = some v ∧ DR P S γ L h d v := by
 unfold scD at e
 split at e
 ·split at e
  ·rename_i v hv; cases e; exact ⟨v, rfl, PR.v hv⟩
  ·cases e
 ·cases e
end
end Go.Sim
namespace Go.Sim
open Go.RowKit
section
variable {P : Program} {W0 : Ent} {γ : Pl} {L : List Obj} {h : Heap} {ρ : Ym} {r : Rho}
def a6t : Value → Bool
 | .pointer none => true
 | .slice none 0 0 => true
 | .map none => true
 | .nilFunc => true
 | _ => false
def W9 : DV → Option Value
 | .ptr _ _ => some (.pointer (some ⟨0, 0, none⟩))
 | .dp _ _ => some (.pointer (some ⟨0, 0, none⟩))
 | .fn f _ _ => some (.func (.func f) #[] #[])
 | .p (.sl _ (_ :: _)) => some (.slice (some ⟨0, 0, none⟩) 1 0)
 | _ => none
inductive Alike : Value → Value → Prop
 | ptr (a b : Addr) : Alike (.pointer (some a)) (.pointer (some b))
 | sl (a b : Addr) (n n' c c' : Nat) : Alike (.slice (some a) n c) (.slice (some b) n' c')
 | fn (f g : FuncId) (x x' y y' : Array Value) : Alike (.func (.func f) x y) (.func (.func g) x' y')
theorem V7 {d : DV} {v s : Value} (hd : (DR P (qd W0 γ L h) γ L h) d v) (e : W9 d = some s) : Alike s v := by
 unfold W9 at e
 split at e
 ·cases e; obtain ⟨_, _, _, rfl⟩ := hd; exact .ptr _ _
 ·cases e; obtain ⟨_, _, _, _, _, _, _, rfl, _⟩ := hd; exact .ptr _ _
 ·cases e; obtain ⟨_, _, rfl, _⟩ := hd; exact .fn _ _ _ _ _ _
 ·cases e
  cases (show PR P (qd W0 γ L h) h _ v from hd)
  exact .sl _ _ _ _ _ _
 ·cases e
theorem acu {s v y : Value} (ha : Alike s v) (hn : a6t y = true) (d : Nat) (t : TypeId) : eqV P (d + 1) t s y = eqV P (d + 1) t v y ∧ eqV P (d + 1) t y s = eqV P (d + 1) t y v := by
 unfold a6t at hn
 constructor <;> (split at hn <;> first | cases hn | skip) <;> cases ha <;> (unfold eqV; cases P.underlying t with
  | none => rfl
  | some q => cases q <;> rfl)
theorem a1B {s v y : Value} (ha : Alike s v) (hn : a6t y = true) (op : BinOp) (t : TypeId) : qS P op t s y = qS P op t v y ∧ qS P op t y s = qS P op t y v := by
 have h1 := acu (P := P) ha hn 9999 t
 unfold a6t at hn
 constructor <;> (split at hn <;> first | cases hn | skip) <;> cases ha <;> cases op <;> simp only [qS] <;> first | rfl | rw [h1.1] | rw [h1.2]
def ye (P : Program) (op : BinOp) (t : TypeId) (a b : DV) : Option DV :=
 match y3 a, y3 b with
 | some x, some y => scD (qS P op t x y)
 | none, some y => if a6t y then match W9 a with
   | some x => scD (qS P op t x y)
   | none => none
  else none
 | some x, none => if a6t x then match W9 b with
   | some y => scD (qS P op t x y)
   | none => none
  else none
 | none, none => none
theorem a9s {op : BinOp} {t : TypeId} {a b d : DV} {u w : Value} (ha : (DR P (qd W0 γ L h) γ L h) a u) (hb : (DR P (qd W0 γ L h) γ L h) b w) (e : ye P op t a b = some d) : ∃ v, qS P op t u w = some v ∧ (DR P (qd W0 γ L h) γ L h) d v := by
 unfold ye at e
 cases h1 : y3 a with
 | some x =>
  have := j7 ha h1; subst this
  cases h2 : y3 b with
  | some y =>
   have := j7 hb h2; subst this
   rw [h1, h2] at e
   exact jU e
  | none =>
   rw [h1, h2] at e
   simp only at e
   split at e
   ·rename_i hn
    cases h3 : W9 b with
    | none => rw [h3] at e; cases e
    | some y =>
     rw [h3] at e
     rw [← (a1B (V7 hb h3) hn op t).2]
     exact jU e
   ·cases e
 | none =>
  cases h2 : y3 b with
  | none => rw [h1, h2] at e; cases e
  | some y =>
   have := j7 hb h2; subst this
   rw [h1, h2] at e
   simp only at e
   split at e
   ·rename_i hn
    cases h3 : W9 a with
    | none => rw [h3] at e; cases e
    | some x =>
     rw [h3] at e
     rw [← (a1B (V7 ha h3) hn op t).1]
     exact jU e
   ·cases e
def kD : List DV → Nat → List DV → List DV
 | cs, _, [] => cs
 | cs, i, v :: r => kD (cs.set i v) (i + 1) r
theorem Qi {R : DV → Value → Prop} : ∀ {ys : List DV} {ws : List Value} {cs : List DV} {vs : List Value} {i : Nat}, All2 R cs vs → All2 R ys ws → All2 R (kD cs i ys) (qG vs i ws)
 | [], _, cs, vs, i, h1, .nil => h1
 | y :: ys, w :: ws, cs, vs, i, h1, .cons hy t => by unfold kD qG; exact Qi (h1.set hy i) t
def V6 (P : Program) (t : TypeId) : Option (Nat → Option (Nat × Nat)) :=
 match P.underlying t with
 | some (.struct fs) => (fs.toList.mapM (fun f => (P.info? f.type).map fun i => (f.offset, i.size))).map fun l i => l[i]?
 | some (.array _ e) => (P.info? e).map fun ie i => some (i * ie.size, ie.size)
 | _ => none
def Yu (P : Program) (t : TypeId) : Option (List DV) := match qY P t with
 | some z => if z.all scal then some (z.map fun v => .p (.v v)) else none
 | none => none
theorem abD {S : Nat → Prop} {z : List Value} (hz : z.all scal = true) : All2 (DC P S γ L h) (z.map fun v => .p (.v v)) z := by
 induction z with
 | nil => exact .nil
 | cons v z ih =>
  simp only [List.all_cons, Bool.and_eq_true] at hz
  exact .cons (PR.v hz.1) (ih hz.2)
theorem Zd {S : Nat → Prop} {t : TypeId} {ds : List DV} (e : Yu P t = some ds) : ∃ z, qY P t = some z ∧ All2 (DC P S γ L h) ds z := by
 unfold Yu at e
 split at e
 ·split at e
  ·rename_i z hz hs; cases e; exact ⟨z, hz, abD hs⟩
  ·cases e
 ·cases e
def Yw (place : Nat → Option (Nat × Nat)) (cells : List DV) : List (Nat × DV) → Option (List DV)
 | [] => some cells
 | (i, v) :: r => match place i with
  | none => none
  | some (off, sz) => if is1 v = true ∧ (zg v).length = sz ∧ off + sz ≤ cells.length then Yw place (kD cells off (zg v)) r else none
theorem UK {place : Nat → Option (Nat × Nat)} : ∀ {ps : List (Nat × DV)} {qs : List (Nat × Value)} {cs xs : List DV} {vs : List Value}, All2 (DC P (qd W0 γ L h) γ L h) cs vs → All2 (fun d v => d.1 = v.1 ∧ (DR P (qd W0 γ L h) γ L h) d.2 v.2) ps qs → Yw place cs ps = some xs →
  ∃ ws, QK place vs qs = some ws ∧ All2 (DC P (qd W0 γ L h) γ L h) xs ws
 | [], _, cs, xs, vs, h1, .nil, e => by cases e; exact ⟨vs, rfl, h1⟩
 | (i, d) :: ps, _, cs, xs, vs, h1, .cons (b := (j, v)) hd t, e => by
  obtain ⟨rfl, hd⟩ := hd
  unfold Yw at e
  unfold QK
  cases hp : place i with
  | none => rw [hp] at e; cases e
  | some q =>
   obtain ⟨off, sz⟩ := q
   simp only [hp] at e ⊢
   split at e
   ·rename_i hc
    have h2 := (Wp (wL hd hc.1)).1
    have h3 : v.cells.size = sz := by have := h2.length; rw [← hc.2.1, this]; simp
    rw [if_pos ⟨h3, by rw [← h1.length]; exact hc.2.2⟩]
    exact UK (Qi h1 h2) t e
   ·cases e
def Yd (P : Program) (t : TypeId) (ps : List (Nat × DV)) : Option DV :=
 match V6 P t, Yu P t with
 | some pl, some z => if vd P t then (Yw pl z ps).map .agg else none
 | _, _ => none
theorem a19 {t : TypeId} {pl : Nat → Option (Nat × Nat)} {z : List Value} {ps : List (Nat × Value)} (hp : V6 P t = some pl) (hz : qY P t = some z) (ho : vd P t = true) :
  ZV P t ps = (QK pl z ps).map fun l => .agg l.toArray := by
 obtain ⟨i, zv, h1, h2, _, h3, _⟩ := je hz
 first | subst h3 | (rw [← h3])
 unfold V6 at hp
 split at hp
 ·rename_i fs hu
  cases hm : fs.toList.mapM (fun f => (P.info? f.type).map fun i => (f.offset, i.size)) with
  | none => rw [hm] at hp; cases hp
  | some l =>
   rw [hm] at hp; cases hp
   exact a3Z hu ho h1 h2 hm
 ·rename_i n e hu
  cases hm : P.info? e with
  | none => rw [hm] at hp; cases hp
  | some ie =>
   rw [hm] at hp; cases hp
   exact a5L hu ho h1 h2 hm
 ·cases hp
theorem a3c {t : TypeId} {ps : List (Nat × DV)} {qs : List (Nat × Value)} {d : DV} (hr : All2 (fun d v => d.1 = v.1 ∧ (DR P (qd W0 γ L h) γ L h) d.2 v.2) ps qs) (e : Yd P t ps = some d) : ∃ v, ZV P t qs = some v ∧ (DR P (qd W0 γ L h) γ L h) d v := by
 unfold Yd at e
 split at e
 ·rename_i pl z hp hz
  split at e
  ·rename_i ho
   obtain ⟨zv, h1, h2⟩ := Zd (P := P) (γ := γ) (L := L) (h := h) (S := qd W0 γ L h) hz
   cases hf : Yw pl z ps with
   | none => rw [hf] at e; cases e
   | some xs =>
    rw [hf] at e; cases e
    obtain ⟨ws, h3, h4⟩ := UK h2 hr hf
    rw [a19 hp h1 ho, h3]
    exact ⟨_, rfl, _, rfl, by simpa using h4⟩
  ·cases e
 ·cases e
def Y1 (P : Program) (t : TypeId) (x : DV) (f : Nat) : Option DV :=
 match P.underlying t, x with
 | some (.struct fs), .agg cs => match fs[f]? with
  | some fd => Q5 P fd.type cs fd.offset
  | none => none
 | _, _ => none
theorem a2z {t : TypeId} {x d : DV} {v : Value} {f : Nat} (hx : (DR P (qd W0 γ L h) γ L h) x v) (e : Y1 P t x f = some d) : ∃ u, v8 P t v f = some u ∧ (DR P (qd W0 γ L h) γ L h) d u := by
 unfold Y1 at e
 split at e
 ·rename_i fs cs hu
  obtain ⟨vs, rfl, h1⟩ := hx
  unfold v8
  simp only [hu]
  cases hf : fs[f]? with
  | none => rw [hf] at e; cases e
  | some fd =>
   simp only [hf] at e
   obtain ⟨v, e1, h2⟩ := Q0 h1 e
   exact ⟨v, e1, jH h2⟩
 ·cases e
def agk (P : Program) (t : TypeId) (f : Nat) : Option Nat :=
 match P.underlying t with
 | some (.struct fs) => match fs[f]? with
  | some fd => match szT P fd.type with
   | some n => if n = 0 then none else some fd.offset
   | none => none
  | none => none
 | _ => none
theorem a0N {t : TypeId} {f k : Nat} (e : agk P t f = some k) (b o : Nat) : jF P t (.pointer (some ⟨b, o, none⟩)) f = some (.pointer (some ⟨b, o + k, none⟩)) := by
 unfold agk at e
 unfold jF
 split at e
 ·rename_i fs hu
  simp only [hu]
  split at e
  ·rename_i fd hf
   simp only [hf]
   split at e
   ·rename_i n hn
    simp only [hn]
    split at e
    ·cases e
    ·rename_i h0; cases e; rw [if_neg h0]
   ·cases e
  ·cases e
 ·cases e
def zw (L : List Obj) (id tot : Nat) : Option (List (List PV)) :=
 match L[id]? with
 | some (.li _ rows) => if rows.length = tot then some rows else none
 | some (.fz _ rows) => if rows.length = tot then some rows else none
 | _ => none
theorem kZ {id tot : Nat} {rows : List (List PV)} (e : zw L id tot = some rows) : ∃ o, L[id]? = some o ∧ o.isList rows ∧ rows.length = tot := by
 unfold zw at e
 split at e
 ·rename_i hh; split at e
  ·cases e; exact ⟨_, hh, rfl, by assumption⟩
  ·cases e
 ·rename_i hh; split at e
  ·cases e; exact ⟨_, hh, rfl, by assumption⟩
  ·cases e
 ·cases e
theorem Hp.width {h0 : Heap} (H : Hp P h0 W0 γ L h) {id : Nat} {o : Obj} {rows : List (List PV)} (e : L[id]? = some o) (hl : o.isList rows) : ∃ z, ∀ r ∈ rows, r.length = z := by
 have ho := H.obj id o e
 cases o with
 | li t rs =>
  cases hl
  cases t with
  | none => obtain ⟨h1, _⟩ := ho; exact ⟨0, by rw [h1]; simp⟩
  | some t => obtain ⟨_, _, _, _, z, _, _, _, _, _, h1, _⟩ := ho; exact ⟨z, h1⟩
 | fz t rs =>
  cases hl
  cases t with
  | none => obtain ⟨h1, _⟩ := ho; exact ⟨0, by rw [h1]; simp⟩
  | some t => obtain ⟨_, _, _, _, _, z, _, _, _, _, _, h1, _⟩ := ho; exact ⟨z, h1⟩
 | st c => exact hl.elim
 | mp c => exact hl.elim
 | dead => exact hl.elim
def onD (L : List Obj) (k : Nat) : DV → Option DV
 | .ptr id off => some (.ptr id (off + k))
 | .ep id i off tot => match zw L id tot with
  | some _ => some (.ep id i (off + k) tot)
  | none => none
 | .dp row off => some (.dp row (off + k))
 | _ => none
theorem aiN {h0 : Heap} (H : Hp P h0 W0 γ L h) {id i off tot k : Nat} {v : Value} {rows : List (List PV)} (hx : (DR P (qd W0 γ L h) γ L h) (.ep id i off tot) v) (e : zw L id tot = some rows) :
  ∃ b o, v = .pointer (some ⟨b, o, none⟩) ∧ (DR P (qd W0 γ L h) γ L h) (.ep id i (off + k) tot) (.pointer (some ⟨b, o + k, none⟩)) := by
 obtain ⟨q, h1, h2, h3⟩ := kZ e
 obtain ⟨z, hz⟩ := H.width h1 h2
 obtain ⟨k1, k2, k3⟩ := hx
 obtain ⟨k4, k5⟩ := k3 q rows h1 h2
 obtain ⟨k6, k7⟩ := k5 h3
 obtain ⟨b, o, g, rfl⟩ := k7 z hz
 refine ⟨b, _, rfl, k1, rfl, fun q' rows' e1 e2 => ?_⟩
 obtain ⟨m4, m5⟩ := k3 q' rows' e1 e2
 refine ⟨m4, fun e3 => ?_⟩
 obtain ⟨m6, m7⟩ := m5 e3
 refine ⟨m6, fun z' hz' => ?_⟩
 obtain ⟨b', o', g', e'⟩ := m7 z' hz'
 rw [g] at g'
 cases g'
 refine ⟨b, o, g, ?_⟩
 have e2 : o + i * z + off = o + i * z' + off := by
  simp only [Value.pointer.injEq, Option.some.injEq, Addr.mk.injEq, true_and, and_true] at e'
  exact e'
 rw [show o + i * z + off + k = o + i * z' + (off + k) by omega]
theorem UC {h0 : Heap} (H : Hp P h0 W0 γ L h) {x d : DV} {v : Value} {k : Nat} (hx : (DR P (qd W0 γ L h) γ L h) x v) (e : onD L k x = some d) : ∃ b o, v = .pointer (some ⟨b, o, none⟩) ∧ (DR P (qd W0 γ L h) γ L h) d (.pointer (some ⟨b, o + k, none⟩)) := by
 unfold onD at e
 split at e
 ·cases e
  obtain ⟨b, h1, h2, rfl⟩ := hx
  exact ⟨b, _, rfl, b, h1, h2, rfl⟩
 ·split at e
  ·rename_i rows hr
   cases e
   exact aiN H hx hr
  ·cases e
 ·cases e
  obtain ⟨b, o, cs, e, rw, h1, h2, rfl, h3⟩ := hx
  exact ⟨b, _, rfl, b, o, cs, e, rw, h1, h2, by rw [Nat.add_assoc], h3⟩
 ·cases e
def yO (P : Program) (L : List Obj) (t : TypeId) (x : DV) (f : Nat) : Option DV := match agk P t f with
 | some k => onD L k x
 | none => none
theorem xG {h0 : Heap} (H : Hp P h0 W0 γ L h) {t : TypeId} {x d : DV} {v : Value} {f : Nat} (hx : (DR P (qd W0 γ L h) γ L h) x v) (e : yO P L t x f = some d) : ∃ u, jF P t v f = some u ∧ (DR P (qd W0 γ L h) γ L h) d u := by
 unfold yO at e
 split at e
 ·rename_i k hk
  obtain ⟨b, o, rfl, h1⟩ := UC H hx e
  exact ⟨_, a0N hk b o, h1⟩
 ·cases e
end
end Go.Sim

/- Part 3 of the claim EmuPrints: A13, A14, A15, A16, A17, A18, A19, A20, A21, A22, A23, D1, D2, D3, D4 -/
import Derived.Scope
import Derived.Test.YtaamhddpmbombaaW2
set_option linter.unusedSimpArgs false
set_option linter.unusedVariables false
set_option linter.defProp false
noncomputable section
namespace Go.Sim
open Go.RowKit
theorem yV {ρ ρ' : Rho} : ∀ {l : List Operand}, (∀ x ∈ l, ρ x = ρ' x) → kC ρ l = kC ρ' l
 | [], _ => rfl
 | x :: l, h => by
  have h1 := h x (by simp)
  have h2 := yV (l := l) fun y hy => h y (by simp [hy])
  simp only [kC, h1, h2]
theorem ur {ρ ρ' : Rho} : ∀ {l : List (Nat × Operand)}, (∀ x ∈ l.map (·.2), ρ x = ρ' x) → K4 ρ l = K4 ρ' l
 | [], _ => rfl
 | (i, x) :: l, h => by
  have h1 := h x (by simp)
  have h2 := ur (l := l) fun y hy => h y (by simp only [List.map_cons, List.mem_cons]; exact .inr hy)
  simp only [K4, h1, h2]
theorem Zb {ρ ρ' : Rho} {x : Option Operand} (h : ∀ y ∈ x.toList, ρ y = ρ' y) : jn ρ x = jn ρ' x := by
 cases x with
 | none => rfl
 | some x => simp only [jn, h x (by simp)]
theorem a0d {P : Program} {o : Op} {ρ ρ' : Rho} (h : ∀ x ∈ o.operands, ρ x = ρ' x) : z8 P o ρ = z8 P o ρ' := by
 cases o <;> simp only [Op.operands] at h <;> simp only [z8]
 case move x => exact h x (by simp)
 case assign x => exact h x (by simp)
 case pick c a b => rw [h c (by simp), h a (by simp), h b (by simp)]
 case build t ps => rw [ur fun x hx => h x (by simpa using hx)]
 case field t x f => rw [h x (by simp)]
 case fieldAddr t x f => rw [h x (by simp)]
 case unOp op t x => rw [h x (by simp)]
 case binOp op t x y t' => rw [h x (by simp), h y (by simp)]
 case convert s d x => rw [h x (by simp)]
 case makeFunc fn xs ys => rw [yV (l := xs.toList) fun x hx => h x (by simp at hx ⊢; exact .inl hx), yV (l := ys.toList) fun x hx => h x (by simp at hx ⊢; exact .inr hx)]
 case indexAddr t x i => rw [h x (by simp), h i (by simp)]
 case index t x i => rw [h x (by simp), h i (by simp)]
 case extract x i => rw [h x (by simp)]
 case nilCheck x => rw [h x (by simp)]
 case call c =>
  obtain ⟨cal, args, ts⟩ := c
  cases cal with
  | builtin b => simp only [z8]; rw [yV (l := args.toList) fun x hx => h x (by simp [Call.operands] at hx ⊢; exact hx)]
  | value f => rfl
  | invoke r n => rfl
def qR (P : Program) (o : Op) (ρ : Rho) (h : Heap) : Option Value :=
 match o with
 | .load t x => match ρ x with
  | some p => kJ P t h p
  | none => none
 | .slice t x lo hi mx => match ρ x, jn ρ lo, jn ρ hi, jn ρ mx with
  | some v, some l, some hh, some m => z9 P (qV P h) t v l hh m
  | _, _, _, _ => none
 | .convert s d x => match P.underlying s, P.underlying d, ρ x with
  | some (.slice e), some .string, some v => if P.underlying e matches some (.int .u8) then j6 h v else none
  | _, _, _ => z8 P (.convert s d x) ρ
 | .call { callee := .builtin .len, args := args, argTypes := ts } => match kC ρ args.toList, ts.toList with
  | some [x], [t] => Vz P t h x
  | _, _ => none
 | o => z8 P o ρ
theorem yL {P : Program} {o : Op} {ρ ρ' : Rho} {h : Heap} (hx : ∀ x ∈ o.operands, ρ x = ρ' x) : qR P o ρ h = qR P o ρ' h := by
 have hp := a0d (P := P) hx
 cases o <;> simp only [qR] <;> first | exact hp | skip
 case load t x => rw [hx x (by simp [Op.operands])]
 case slice t x lo hi mx =>
  rw [hx x (by simp [Op.operands]), Zb (x := lo) fun y hy => hx y (by simp [Op.operands] at hy ⊢; simp [hy]), Zb (x := hi) fun y hy => hx y (by simp [Op.operands] at hy ⊢; simp [hy]), Zb (x := mx) fun y hy => hx y (by simp [Op.operands] at hy ⊢; simp [hy])]
 case convert s d x => rw [hx x (by simp [Op.operands]), hp]
 case call c =>
  obtain ⟨cal, args, ts⟩ := c
  cases cal with
  | builtin b =>
   have ha := yV (ρ := ρ) (ρ' := ρ') (l := args.toList) fun x hy => hx x (by simp [Op.operands, Call.operands] at hy ⊢; exact hy)
   cases b <;> simp only [qR] <;> first | exact hp | rw [ha]
  | value f => exact hp
  | invoke r n => exact hp
theorem u5 {P : Program} {o : Op} {ρ ρ' : Rho} (hx : ∀ x ∈ o.operands, ρ x = ρ' x) : jp P o ρ = jp P o ρ' := by
 cases o <;> simp only [jp]
 case box t x => rw [hx x (by simp [Op.operands])]
 case buildSlice t n ps => rw [ur fun x hy => hx x (by simpa [Op.operands] using hy)]
 case makeSlice t l c => rw [hx l (by simp [Op.operands]), hx c (by simp [Op.operands])]
 case makeMap t r => cases r <;> rfl
 case convert s d x => rw [hx x (by simp [Op.operands])]
 case makeChan t s => rw [hx s (by simp [Op.operands])]
theorem aah {P : Program} {s : SelectCase} {ρ ρ' : Rho} {h : Heap} {K : Value → Heap → Prop} (h1 : ρ s.chan = ρ' s.chan) (h2 : ∀ x, s.send = some x → ρ x = ρ' x) : Ki P s ρ h K = Ki P s ρ' h K := by
 unfold Ki
 rw [h1]
 cases hs : s.send with
 | none => rfl
 | some x => simp only [h2 x hs]
theorem abY {P : Program} {o : Op} {ρ ρ' : Rho} {h : Heap} {K : Value → Heap → Prop} (hx : ∀ x ∈ o.operands, ρ x = ρ' x) : qB P o ρ h K = qB P o ρ' h K := by
 have hp := a0d (P := P) hx
 have hn := u5 (P := P) hx
 cases o <;> simp only [qB] <;> first | rw [hp] | rw [hn] | skip
 case load t x => rw [hx x (by simp [Op.operands])]
 case store t x y => rw [hx x (by simp [Op.operands]), hx y (by simp [Op.operands])]
 case slice t x lo hi mx =>
  rw [hx x (by simp [Op.operands]), Zb (x := lo) fun y hy => hx y (by simp [Op.operands] at hy ⊢; simp [hy]), Zb (x := hi) fun y hy => hx y (by simp [Op.operands] at hy ⊢; simp [hy]), Zb (x := mx) fun y hy => hx y (by simp [Op.operands] at hy ⊢; simp [hy])]
 case convert s d x => rw [hx x (by simp [Op.operands])]
 case insert t x y z => rw [hx x (by simp [Op.operands]), hx y (by simp [Op.operands]), hx z (by simp [Op.operands])]
 case mapUpdate t x y z => rw [hx x (by simp [Op.operands]), hx y (by simp [Op.operands]), hx z (by simp [Op.operands])]
 case lookup t x y ok => rw [hx x (by simp [Op.operands]), hx y (by simp [Op.operands])]
 case range t x => rw [hx x (by simp [Op.operands])]
 case next x s => rw [hx x (by simp [Op.operands])]
 case entry x => rw [hx x (by simp [Op.operands])]
 case makeInterface t x => rw [hx x (by simp [Op.operands])]
 case select cs b =>
  cases b
  ·simp only [qB]
   split
   ·rename_i s hs
    have hcs : cs = #[s] := by apply Array.ext'; simpa using hs
    subst hcs
    exact aah (hx _ (by simp [Op.operands])) fun x e => hx x (by simp [Op.operands, e])
   ·rfl
  ·simp only [qB]; rw [hp]
 case typeAssert x xt t ok => rw [hx x (by simp [Op.operands])]
 case call c =>
  obtain ⟨cal, args, ts⟩ := c
  cases cal with
  | builtin b =>
   have ha := yV (ρ := ρ) (ρ' := ρ') (l := args.toList) fun x hy => hx x (by simp [Op.operands, Call.operands] at hy ⊢; exact hy)
   cases b <;> simp only [qB] <;> first | rw [hp] | rw [ha]
  | value f =>
   have ha := yV (ρ := ρ) (ρ' := ρ') (l := args.toList) fun x hy => hx x (by simp [Op.operands, Call.operands] at hy ⊢; exact .inr hy)
   simp only [qB]
   rw [ha, hx f (by simp [Op.operands, Call.operands])]
  | invoke r n => simp only [qB]; rw [hp]
def vF : Op → Bool
 | .move _ => false
 | .pick .. => false
 | .build .. => false
 | .field .. => false
 | .fieldAddr .. => false
 | .unOp .. => false
 | .binOp .. => false
 | .convert s d _ => s == d
 | .makeFunc .. => false
 | .slice .. => false
 | .indexAddr .. => false
 | .index .. => false
 | .extract .. => false
 | .nilCheck .. => false
 | .load .. => false
 | .box .. => false
 | .alloc .. => false
 | .buildSlice .. => false
 | .makeSlice .. => false
 | .makeMap .. => false
 | .makeChan .. => false
 | .call { callee := .builtin .min, .. } => false
 | .call { callee := .builtin .max, .. } => false
 | .call { callee := .builtin .len, .. } => false
 | _ => true
theorem a5T {P : Program} {o : Op} {ρ : Rho} {h : Heap} {K : Value → Heap → Prop} (ho : vF o = false) (hop : qB P o ρ h K) :
  (∃ v, qR P o ρ h = some v ∧ K v h) ∨ (∃ q mk, jp P o ρ = some (q, mk) ∧ K (mk h.next) (h.push q)) := by
 have gen : (match z8 P o ρ with | some v => K v h | none => False) → qR P o ρ h = z8 P o ρ → (∃ v, qR P o ρ h = some v ∧ K v h) := by
  intro h1 h2
  cases hp : z8 P o ρ with
  | none => rw [hp] at h1; exact h1.elim
  | some v => rw [hp] at h1; exact ⟨v, h2.trans hp, h1⟩
 have genN : (match jp P o ρ with | some (q, mk) => K (mk h.next) (h.push q) | none => False) → (∃ q mk, jp P o ρ = some (q, mk) ∧ K (mk h.next) (h.push q)) := by
  intro h1
  cases hp : jp P o ρ with
  | none => rw [hp] at h1; exact h1.elim
  | some v => obtain ⟨q, mk⟩ := v; rw [hp] at h1; exact ⟨q, mk, rfl, h1⟩
 cases o <;> first
  | (simp [vF] at ho; done)
  | exact .inl (gen hop rfl)
  | exact .inr (genN hop)
  | skip
 case load t x =>
  simp only [qB] at hop
  simp only [qR]
  cases hx : ρ x with
  | none => simp [hx] at hop
  | some p =>
   simp only [hx] at hop ⊢
   cases hl : kJ P t h p with
   | none => simp [hl] at hop
   | some v => simp only [hl] at hop; exact .inl ⟨v, rfl, hop⟩
 case slice t x lo hi mx =>
  simp only [qB] at hop
  simp only [qR]
  split at hop
  ·split at hop
   ·rename_i v hs
    exact .inl ⟨v, by simp_all, hop⟩
   ·exact hop.elim
  ·exact hop.elim
 case convert s d x =>
  simp only [qB] at hop
  cases hx : ρ x with
  | none => simp [hx] at hop
  | some u =>
   simp only [hx] at hop
   unfold jG at hop
   split at hop
   ·rename_i e hs hd
    obtain ⟨he, hop⟩ := hop
    split at hop
    ·rename_i v hb
     exact .inl ⟨v, by simp only [qR, hs, hd, hx, he]; exact hb, hop⟩
    ·exact hop.elim
   ·rename_i e t hs hd
    obtain ⟨h1, h2, h3, hop⟩ := hop
    exact .inr ⟨_, _, by simp [jp, hs, hd, hx, h1, h2, h3], hop⟩
   ·exact absurd ho (by simp [vF, hop.1])
   ·rename_i n1 n2 _
    split at hop
    ·rename_i v hc
     refine .inl ⟨v, ?_, hop⟩
     simp only [qR]
     split
     ·rename_i e v' hs hd hx'
      exact absurd hd (n1 _ hs)
     ·simp only [z8, hx, hc]
    ·exact hop.elim
 case call c =>
  obtain ⟨cal, args, ts⟩ := c
  cases cal with
  | builtin b =>
   cases b <;> first | (simp [vF] at ho; done) | exact .inl (gen hop rfl) | skip
   simp only [qB] at hop
   simp only [qR]
   split at hop
   ·split at hop
    ·rename_i v hl
     exact .inl ⟨v, by simp_all, hop⟩
    ·exact hop.elim
   ·exact hop.elim
  | value f => simp [vF] at ho
  | invoke r n => simp [vF] at ho
theorem a3Q {P : Program} {β : Place} {ρ : Rho} {μ : Operand → Value} {o : Oper} {v : Value} {h : Heap} {w : World} (hρ : QM β ρ μ) (hr : Rel P β h w) (hv : qR P o.op ρ h = some v) :
  ∃ mv, (execOp μ o).run P w = .ok (.value mv) w ∧ VRel β v mv := by
 unfold qR at hv
 split at hv
 ·rename_i t x he
  split at hv
  ·rename_i p hp
   obtain ⟨mv, e, r⟩ := J3 hr (hρ _ _ hp) hv
   exact ⟨mv, by unfold execOp; rw [he]; simp [e], r⟩
  ·cases hv
 ·rename_i t x lo hi mx he
  split at hv
  ·rename_i a l hh mm ha hl hhh hm
   obtain ⟨mv, e, r⟩ := Yd (P := P) (hρ _ _ ha) (Z3 hρ hl) (Z3 hρ hhh) (Z3 hρ hm) (fun b m' s q hb hE => by
    unfold qV at hE
    split at hE
    ·rename_i cs e hg
     obtain ⟨mc, fr, te, _, _, _, hz⟩ := hr.obj b m' s _ hb hg; obtain ⟨_, _, _, hz⟩ := hz rfl
     unfold szT at hE
     rw [hz] at hE
     simpa using hE
    ·cases hE) hv w
   exact ⟨mv, by unfold execOp; rw [he]; simp [e], r⟩
  ·cases hv
 ·rename_i s d x he
  split at hv
  ·rename_i e u hs hd hx
   split at hv
   ·rename_i hee
    have he2 : P.underlying e = some (.int .u8) := by
     cases hq : P.underlying e with
     | none => simp [hq] at hee
     | some D =>
      cases D <;> simp [hq] at hee
      rename_i k
      cases k <;> simp_all
    obtain ⟨e1, hk⟩ := Yq hr (hρ _ _ hx) hs hd he2 hv
    exact ⟨v, by unfold execOp; rw [he]; simp [e1], VRel.const hk⟩
   ·cases hv
  ·exact Ku (P := P) hρ (by rw [he]; exact hv) w
 ·rename_i args ts he
  split at hv
  ·rename_i x t hvs hts
   obtain ⟨y, rfl, h1⟩ := a8F (kI hρ hvs)
   obtain ⟨e, hk⟩ := u7 hr h1 hv o.type
   obtain rfl : ts = #[t] := by apply Array.ext'; simpa using hts
   refine ⟨v, ?_, VRel.const hk⟩
   unfold execOp
   rw [he]
   simp only [resolve, Sem.run_bind, Sem.run_pure, Result.andThen_ok, invoke, builtin, List.map_toArray, List.map_cons, List.map_nil, e]
  ·cases hv
 ·exact Ku (P := P) hρ hv w
open Go.RowKit
theorem a66 {P : Program} {t : TypeId} {h : Heap} {p v : Value} {q : AObj} (hl : kJ P t h p = some v) : kJ P t (h.push q) p = some v := by
 unfold kJ at *
 split at hl
 ·rename_i b o
  unfold V7 at *
  split at hl
  ·rename_i cs e rw hg
   simp only [Heap.get_push_of hg]
   exact hl
  ·cases hl
 ·cases hl
theorem a4t {P : Program} {h : Heap} {q : AObj} {b n : Nat} (he : qV P h b = some n) : qV P (h.push q) b = some n := by
 unfold qV at *
 split at he
 ·rename_i cs e rw hg
  simp only [Heap.get_push_of hg]
  exact he
 ·cases he
theorem Xk {h : Heap} {x v : Value} {q : AObj} (hb : j6 h x = some v) : j6 (h.push q) x = some v := by
 unfold j6 at *
 split at hb
 ·exact hb
 ·rename_i b o n c
  split at hb
  ·rename_i hn; simp only [hn, if_true]; exact hb
  ·rename_i hn
   simp only [if_neg hn]
   split at hb
   ·rename_i cs e rw hg
    simp only [Heap.get_push_of hg]
    exact hb
   ·cases hb
 ·cases hb
theorem a5o {P : Program} {E E' : Nat → Option Nat} (hE : ∀ b n, E b = some n → E' b = some n) {t : TypeId} {x : Value} {lo hi mx : Option Value} {v : Value} (hs : z9 P E t x lo hi mx = some v) : z9 P E' t x lo hi mx = some v := by
 unfold z9 at *
 split at hs
 ·exact hs
 ·exact hs
 ·exact hs
 ·rename_i e b o n c hu
  split at hs
  ·rename_i s l hh om hz hbd
   by_cases hc : c = dud
   ·rw [if_pos hc] at hs ⊢; exact hs
   ·rw [if_neg hc] at hs ⊢
    by_cases hn : c ≠ qG ∧ ¬ (n = 0 ∧ c = 0) ∧ E b ≠ some s
    ·rw [if_pos hn] at hs; cases hs
    ·rw [if_neg hn] at hs
     rw [if_neg (fun q => hn ⟨q.1, q.2.1, fun e1 => q.2.2 (hE _ _ e1)⟩)]
     exact hs
  ·cases hs
 ·cases hs
theorem Un {h : Heap} {x : Value} {q : AObj} {es : List MapEntry} (he : jH h x = some es) : jH (h.push q) x = some es := by
 unfold jH at *
 split at he
 ·exact he
 ·split at he
  ·rename_i es' ck hg
   simp only [Heap.get_push_of hg]
   exact he
  ·cases he
 ·cases he
theorem ab1 {P : Program} {t : TypeId} {h : Heap} {x v : Value} {q : AObj} (hl : Vz P t h x = some v) : Vz P t (h.push q) x = some v := by
 unfold Vz at *
 split at hl
 ·cases hes : jH h x with
  | none => simp [hes] at hl
  | some es => rw [Un hes]; rw [hes] at hl; exact hl
 ·split at hl
  ·exact hl
  ·split at hl
   ·rename_i hg
    simp only [Heap.get_push_of hg]
    exact hl
   ·cases hl
  ·cases hl
 ·exact hl
theorem a8n {P : Program} {o : Op} {ρ : Rho} {h : Heap} {q : AObj} {v : Value} (hv : qR P o ρ h = some v) : qR P o ρ (h.push q) = some v := by
 unfold qR at *
 split at hv
 ·split at hv
  ·exact a66 hv
  ·cases hv
 ·split at hv
  ·exact a5o (fun b n => a4t) hv
  ·cases hv
 ·split at hv
  ·split at hv
   ·rename_i he
    rw [if_pos rfl]
    exact Xk hv
   ·cases hv
  ·exact hv
 ·split at hv
  ·exact ab1 hv
  ·cases hv
 ·exact hv
def y8 (P : Program) : Op → Bool
 | .load .. => true
 | .slice .. => true
 | .convert s _ _ => match P.underlying s with
  | some (.slice _) => true
  | _ => false
 | .call { callee := .builtin .len, args := _, argTypes := ts } => ts.toList.any fun t => match P.underlying t with
  | some (.map _ _) => true
  | some (.chan _ _) => true
  | _ => false
 | _ => false
theorem abx {P : Program} {o : Op} {ρ : Rho} {h h' : Heap} (ho : y8 P o = false) : qR P o ρ h = qR P o ρ h' := by
 cases o <;> first
  | (simp [y8] at ho; done)
  | rfl
  | skip
 case convert s d x =>
  simp only [qR]
  simp [y8] at ho
  split
  ·rename_i e v' hs hd hx
   simp [hs] at ho
  ·rfl
 case call c =>
  obtain ⟨cal, args, ts⟩ := c
  cases cal with
  | value f => rfl
  | invoke r n => rfl
  | builtin b =>
   cases b <;> first | rfl | skip
   simp only [qR]
   simp only [y8] at ho
   split
   ·rename_i x t hvs hts
    rw [hts] at ho
    unfold Vz
    split
    ·rename_i k e hu
     simp [hu] at ho
    ·rename_i k e hu
     simp [hu] at ho
    ·rfl
   ·rfl
def acts : Op → Bool
 | .assign _ => true
 | o => vF o
theorem afV {o : Op} (h : acts o = false) : vF o = false := by
 cases o <;> first | exact h | simp [acts] at h
def preds (o : Oper) : List Nat := o.after.toList.filterMap fun e => if Region.binds .any e then some e.on else none
def qC (ops : Array Oper) (i : Nat) : Oper := ops.getD i default
def tbl (T : List (List Nat)) (i : Nat) : List Nat := T.getD i []
def a75 (ops : Array Oper) (T : List (List Nat)) (i j : Nat) : Bool :=
 i == j || match (qC ops i).dst with
 | none => true
 | some d =>
  if acts (qC ops i).op then (!((qC ops j).looksAt ops).contains d && (qC ops j).dst != some d) || (tbl T i).contains j || (tbl T j).contains i
  else (qC ops j).dst != some d && (!((qC ops j).looksAt ops).contains d || (tbl T j).contains i)
def aey (ops : Array Oper) (i : Nat) : Bool :=
 acts (qC ops i).op || match (qC ops i).dst with
 | none => true
 | some d => !((qC ops i).looksAt ops).contains d
def Wy (P : Program) (ops : Array Oper) (T : List (List Nat)) : List Nat → List (Nat × List Nat) → Bool
 | _, [] => true
 | pre, (i, ks) :: r =>
  decide (i < ops.size) && !pre.contains i && (preds (qC ops i)).all pre.contains &&
  (tbl T i).all (fun j => pre.contains j && ((preds (qC ops i)).contains j || (preds (qC ops i)).any fun p => (tbl T p).contains j)) &&
  pre.all (fun j => !acts (qC ops j).op || (tbl T i).contains j) &&
  (!acts (qC ops i).op || pre.all fun j => acts (qC ops j).op || !y8 P (qC ops j).op || (tbl T i).contains j || ks.contains j) &&
  Wy P ops T (pre ++ [i]) r
def a1Y (P : Program) (ops : Array Oper) (T : List (List Nat)) (E : List (Nat × List Nat)) : Bool :=
 Wy P ops T [] E && (List.range ops.size).all (E.map (·.1)).contains && (List.range ops.size).all (aey ops) &&
 (List.range ops.size).all fun i => (List.range ops.size).all (a75 ops T i)
structure OkGo (P : Program) (ops : Array Oper) (T : List (List Nat)) (pre : List Nat) (i : Nat) (ks : List Nat) (r : List (Nat × List Nat)) : Prop where
 lt : i < ops.size
 new : i ∉ pre
 preds : ∀ p ∈ preds (qC ops i), p ∈ pre
 tpre : ∀ j ∈ tbl T i, j ∈ pre ∧ (j ∈ Sim.preds (qC ops i) ∨ ∃ p ∈ Sim.preds (qC ops i), j ∈ tbl T p)
 acts : ∀ j ∈ pre, acts (qC ops j).op = true → j ∈ tbl T i
 chk : Sim.acts (qC ops i).op = true → ∀ j ∈ pre, Sim.acts (qC ops j).op = false → y8 P (qC ops j).op = true → j ∈ tbl T i ∨ j ∈ ks
 rest : Wy P ops T (pre ++ [i]) r = true
theorem yH {P : Program} {ops : Array Oper} {T : List (List Nat)} {pre : List Nat} {i : Nat} {ks : List Nat} {r : List (Nat × List Nat)} (h : Wy P ops T pre ((i, ks) :: r) = true) : OkGo P ops T pre i ks r := by
 simp only [Wy, Bool.and_eq_true, decide_eq_true_eq, Bool.not_eq_true', List.all_eq_true, List.contains_eq_mem, decide_eq_false_iff_not, Bool.or_eq_true, List.any_eq_true] at h
 obtain ⟨⟨⟨⟨⟨⟨h1, h2⟩, h3⟩, h4⟩, h5⟩, h6⟩, h7⟩ := h
 refine ⟨h1, h2, h3, fun j hj => h4 j hj, fun j hj ha => ?_, fun hi j hj ha hm => ?_, h7⟩
 ·rcases h5 j hj with h | h
  ·rw [ha] at h; cases h
  ·exact h
 ·rcases h6 with h | h
  ·rw [hi] at h; cases h
  ·rcases h j hj with ((h | h) | h) | h
   ·rw [ha] at h; cases h
   ·rw [hm] at h; cases h
   ·exact .inl h
   ·exact .inr h
def wA (a : Frm) : Option Tmp → Option Value
 | some t => a.get t
 | none => none
def YP (P : Program) (c : C) (a : Frm) (h : Heap) : Prop :=
 match c.g with
 | none => (wA a c.d).isSome = true ∧ qR P c.op a.ev h = wA a c.d
 | some (t, want) => zo t want a = some false ∨ ((wA a c.d).isSome = true ∧ qR P c.op a.ev h = wA a c.d)
def jF (P : Program) (a : Frm) (h : Heap) : List C → Prop
 | [] => True
 | c :: r => YP P c a h ∧ jF P a h r
def dWp (P : Program) : List (C × List C) → (Frm → Heap → Prop) → Frm → Heap → Prop
 | [], K, a, h => K a h
 | (c, ks) :: r, K, a, h => cWp P [c] (fun a h => jF P a h ks ∧ dWp P r K a h) a h
def WD (ops : Array Oper) (E : List (Nat × List Nat)) : List (C × List C) := E.map fun e => (j8 ops (qC ops e.1), e.2.map fun k => j8 ops (qC ops k))
theorem agz {P : Program} {c : C} {K : Frm → Heap → Prop} {a : Frm} {h : Heap} (hc : cWp P [c] K a h) :
  (c.g = none ∧ qB P c.op a.ev h (fun v h' => K (a.put c.d v) h')) ∨
  ∃ t want, c.g = some (t, want) ∧ ((zo t want a = some true ∧ qB P c.op a.ev h (fun v h' => K (a.put c.d v) h')) ∨ (zo t want a = some false ∧ K (a.put c.d undef) h)) := by
 unfold cWp at hc
 cases hg : c.g with
 | none => rw [hg] at hc; exact .inl ⟨rfl, by simpa [cWp] using hc⟩
 | some p =>
  obtain ⟨t, want⟩ := p
  simp only [hg] at hc
  refine .inr ⟨t, want, rfl, ?_⟩
  unfold zA at hc
  cases hv : zo t want a with
  | none => rw [hv] at hc; exact hc.elim
  | some b =>
   rw [hv] at hc
   cases b
   ·exact .inr ⟨rfl, by simpa [cWp] using hc.2 rfl⟩
   ·exact .inl ⟨rfl, by simpa [cWp] using hc.1 rfl⟩
def Qa (ops : Array Oper) (o : Oper) (a : Frm) : Option Bool :=
 match o.guard with
 | none => some true
 | some (g, want) => zo ((ops[g]?).bind (·.dst)) want a
theorem a4z {P : Program} {ops : Array Oper} {o : Oper} {K : Frm → Heap → Prop} {a : Frm} {h : Heap} (hc : cWp P [j8 ops o] K a h) :
  (Qa ops o a = some true ∧ qB P o.op a.ev h (fun v h' => K (a.put o.dst v) h')) ∨ (Qa ops o a = some false ∧ K (a.put o.dst undef) h) := by
 rcases agz hc with ⟨hg, hop⟩ | ⟨t, want, hg, h1 | h1⟩
 ·refine .inl ⟨?_, hop⟩
  unfold j8 at hg
  unfold Qa
  cases hq : o.guard <;> simp [hq] at hg ⊢
 all_goals
  unfold j8 at hg
  unfold Qa
  cases hq : o.guard with
  | none => simp [hq] at hg
  | some p =>
   obtain ⟨g, w⟩ := p
   simp [hq] at hg
   obtain ⟨rfl, rfl⟩ := hg
   first | exact .inl h1 | exact .inr h1
def only (ts : List Tmp) (a : Frm) : Frm := ⟨a.n, a.l.filter fun p => ts.contains p.1⟩
theorem vD (ts : List Tmp) (t : Tmp) : ∀ l : List (Nat × Value), wv t (l.filter fun p => ts.contains p.1) = if t ∈ ts then wv t l else none
 | [] => by simp [wv]
 | (t', v) :: l => by
  have ih := vD ts t l
  by_cases h : t' ∈ ts
  ·rw [List.filter_cons_of_pos (by simpa using h)]
   simp only [wv]
   by_cases e : t' = t
   ·subst e; simp [h]
   ·simp only [e, if_false]; exact ih
  ·rw [List.filter_cons_of_neg (by simpa using h), ih]
   by_cases e : t ∈ ts
   ·have : t' ≠ t := by rintro rfl; exact h e
    simp [e, wv, this]
   ·simp [e]
theorem a4p (ts : List Tmp) (a : Frm) (t : Tmp) : (only ts a).get t = if t ∈ ts then a.get t else none := vD ts t a.l
theorem abU {ops : Array Oper} {o : Oper} {x : Operand} (hx : x ∈ o.op.operands) : ∀ t, x = .tmp t → t ∈ o.looksAt ops := by
 rintro t rfl
 unfold Oper.looksAt
 exact List.mem_append_left _ (List.mem_filterMap.2 ⟨.tmp t, by simpa using hx, rfl⟩)
theorem jC {ops : Array Oper} {o : Oper} {a a' : Frm} (h : ∀ t, t ∈ o.looksAt ops → a'.get t = a.get t) : Qa ops o a' = Qa ops o a := by
 unfold Qa
 split
 ·rfl
 ·rename_i g want hg
  cases hd : (ops[g]?).bind (·.dst) with
  | none => rfl
  | some t =>
   have : t ∈ o.looksAt ops := by
    unfold Oper.looksAt
    refine List.mem_append_right _ ?_
    simp [hg, hd]
   simp only [zo, h t this]
theorem jU {ops : Array Oper} {o : Oper} {a : Frm} : ∀ t, t ∈ o.looksAt ops → (only (o.looksAt ops) a).get t = a.get t := fun t ht => by rw [a4p, if_pos ht]
theorem Zn {ops : Array Oper} {o : Oper} {a a' : Frm} (h : ∀ t, t ∈ o.looksAt ops → a'.get t = a.get t) : ∀ x ∈ o.op.operands, a'.ev x = a.ev x := by
 intro x hx
 cases x with
 | tmp t => exact h t (abU hx t rfl)
 | _ => rfl
theorem y6 {D : List Deferred} {β : Place} {ops : Array Oper} {o : Oper} {m : Act} {a : Frm} {b : Bool} (ha : ARel D β a m) (hv : Qa ops o a = some b) : Region.wanted o (yielded ops m.tmps) = b := by
 unfold Qa at hv
 split at hv
 ·rename_i hg; cases hv; simp [Region.wanted, hg]
 ·rename_i g want hg
  exact Yf ha hg hv
theorem wW (a : Frm) (d : Option Tmp) (v : Value) (t : Tmp) : (a.put d v).get t = if d = some t ∧ t < a.n then some v else a.get t := by
 unfold Frm.put
 cases d with
 | none => simp
 | some u =>
  by_cases hu : u < a.n
  ·simp only [hu, if_true]
   unfold Frm.get
   rw [Z4]
   by_cases e : t = u
   ·subst e; simp [hu]
   ·rw [if_neg e, if_neg (by rintro ⟨h1, _⟩; cases h1; exact e rfl)]
  ·simp only [hu, if_false]
   rw [if_neg]
   rintro ⟨h1, h2⟩
   cases h1
   exact hu h2
theorem xw (a : Frm) (d : Option Tmp) (v : Value) : (a.put d v).n = a.n := by
 unfold Frm.put
 cases d with
 | none => rfl
 | some u => by_cases hu : u < a.n <;> simp [hu]
inductive PendV (P : Program) (ops : Array Oper) (a : Frm) (h : Heap) (β : Place) (blk : Option Nat) (o : Oper) (v : Value) : Prop
 | no (hw : Qa ops o a = some false) (hv : v = undef)
 | read (hw : Qa ops o a = some true) (hv : qR P o.op a.ev h = some v)
 | new (hw : Qa ops o a = some true) (b : Nat) (q : AObj) (mk : Nat → Value) (hbl : blk = some b) (hn : jp P o.op a.ev = some (q, mk)) (hv : v = mk b) (hg : h.get b = some q) (hb : β b = none)
section
variable {P : Program} {ops : Array Oper} {T : List (List Nat)}
def Cc (ops : Array Oper) (T : List (List Nat)) (i : Nat) : Prop := ∀ S : Nat → Prop, (∀ i, S i → ∀ p ∈ preds (qC ops i), S p) → (∀ p ∈ preds (qC ops i), S p) → ∀ j ∈ tbl T i, S j
theorem a96 : ∀ (E : List (Nat × List Nat)) (pre : List Nat), (∀ i ∈ pre, Cc ops T i) → Wy P ops T pre E = true → ∀ i, i ∈ pre ∨ i ∈ E.map (·.1) → Cc ops T i
 | [], pre, hp, _, i, hi => hp i (by simpa using hi)
 | (k, ks) :: r, pre, hp, ho, i, hi => by
  have hs := yH ho
  have hk : Cc ops T k := by
   intro S hc hpr j hj
   obtain ⟨_, h1 | ⟨p, h1, h2⟩⟩ := hs.tpre j hj
   ·exact hpr j h1
   ·exact hp p (hs.preds p h1) S hc (hc p (hpr p h1)) j h2
  refine a96 r (pre ++ [k]) (fun i hi => ?_) hs.rest i ?_
  ·rcases List.mem_append.1 hi with h | h
   ·exact hp i h
   ·rw [List.mem_singleton.1 h]; exact hk
  ·simp only [List.map_cons, List.mem_cons, List.mem_append, List.mem_singleton] at hi ⊢
   rcases hi with h | h | h <;> simp [h]
theorem XN {S : Nat → Prop} : ∀ (E : List (Nat × List Nat)) (pre : List Nat), (∀ i ∈ pre, S i) → Wy P ops T pre E = true → (∃ i ∈ E.map (·.1), ¬ S i) → ∃ j, j < ops.size ∧ ¬ S j ∧ ∀ p ∈ preds (qC ops j), S p
 | [], pre, hp, _, ⟨i, hi, _⟩ => by simp at hi
 | (k, ks) :: r, pre, hp, ho, ⟨i, hi, hn⟩ => by
  have hs := yH ho
  by_cases hk : S k
  ·refine XN r (pre ++ [k]) (fun j hj => ?_) hs.rest ⟨i, ?_, hn⟩
   ·rcases List.mem_append.1 hj with h | h
    ·exact hp j h
    ·rw [List.mem_singleton.1 h]; exact hk
   ·simp only [List.map_cons, List.mem_cons] at hi
    rcases hi with rfl | hi
    ·exact absurd hk hn
    ·exact hi
  ·exact ⟨k, hs.lt, hk, fun p h => hp p (hs.preds p h)⟩
structure Amid (P : Program) (ops : Array Oper) (T : List (List Nat)) (D : List Deferred) (β₀ : Place) (h₀ : Heap) (w₀ : World) (pre : List Nat) (a : Frm) (h : Heap) (pend : List Nat) (blk : Nat → Option Nat) (β : Place) (S : Nat → Prop) (m : Act) (w : World) : Prop where
 done : ∀ i, S i ↔ i ∈ pre ∧ i ∉ pend
 closed : ∀ i, S i → ∀ p ∈ preds (qC ops i), S p
 sub : ∀ i ∈ pend, i ∈ pre ∧ acts (qC ops i).op = false
 lt : ∀ i ∈ pre, i < ops.size
 tpre : ∀ i ∈ pre, ∀ j ∈ tbl T i, j ∈ pre
 defers : m.defers = D
 size : m.tmps.size = a.n
 low : ∀ t v, a.get t = some v → t < a.n
 slots : ∀ t v, a.get t = some v → (∀ i ∈ pend, (qC ops i).dst ≠ some t) → ∃ mv, m.tmps[t]? = some mv ∧ VRel β v mv
 rel : Rel P β h w
 step : Step β₀ h₀ w₀ β h w
 pends : ∀ i ∈ pend, ∃ v, PendV P ops a h β (blk i) (qC ops i) v ∧ ∀ t, (qC ops i).dst = some t → t < a.n → a.get t = some v
 apart : ∀ i ∈ pend, ∀ j ∈ pend, ∀ b, blk i = some b → blk j = some b → i = j
 fresh : ∀ i ∈ pend, ∀ b, blk i = some b → h₀.next ≤ b ∧ b < h.next
structure Glob (P : Program) (ops : Array Oper) (T : List (List Nat)) : Prop where
 cc : ∀ i, i < ops.size → Cc ops T i
 self : ∀ i, i < ops.size → acts (qC ops i).op = false → ∀ d, (qC ops i).dst = some d → d ∉ (qC ops i).looksAt ops
 flt : ∀ i j, i < ops.size → j < ops.size → i ≠ j → acts (qC ops i).op = false → ∀ d, (qC ops i).dst = some d → (qC ops j).dst ≠ some d ∧ (d ∈ (qC ops j).looksAt ops → i ∈ tbl T j)
 act : ∀ i j, i < ops.size → j < ops.size → i ≠ j → acts (qC ops i).op = true → ∀ d, (qC ops i).dst = some d → (d ∉ (qC ops j).looksAt ops ∧ (qC ops j).dst ≠ some d) ∨ j ∈ tbl T i ∨ i ∈ tbl T j
theorem Step.push {β₀ : Place} {h₀ : Heap} {w₀ : World} {β : Place} {h : Heap} {w : World} {q : AObj} (st : Step β₀ h₀ w₀ β h w) : Step β₀ h₀ w₀ β (h.push q) w :=
 ⟨st.place, fun b hb e => ⟨(st.stays b hb e).1, by rw [Heap.get_push_ne _ _ (by have := st.next; omega)]; exact (st.stays b hb e).2⟩, by have := st.next; simp; omega,
  fun b o' hb g => st.live b o' hb (by rwa [Heap.get_push_ne _ _ (by have := st.next; omega)] at g), st.new, st.os, st.tape, st.output, st.size, st.frame, st.loops⟩
theorem Step.placed {β₀ : Place} {h₀ : Heap} {w₀ : World} {β : Place} {h : Heap} {w w' : World} {b : Nat} {s : Sh} {mo : Obj} (st : Step β₀ h₀ w₀ β h w) (hb : β b = none) (hge : h₀.next ≤ b)
  (hh : w'.heap = w.heap.push mo) (hos : w'.os = w.os) (htp : w'.tape = w.tape) (hout : w'.output = w.output) : Step β₀ h₀ w₀ (β.add b w.heap.size s) h w' := by
 refine ⟨fun c x e => Place.add_mono _ _ hb _ _ (st.place c x e), fun c hc e => ⟨?_, (st.stays c hc e).2⟩, st.next, st.live, fun c m s' e e' => ?_, hos.trans st.os, htp.trans st.tape, hout.trans st.output, ?_, fun k hk hn => ?_, fun k r e => ?_⟩
 ·rw [Place.add_ne _ _ _ (by omega)]; exact (st.stays c hc e).1
 ·by_cases hc : c = b
  ·subst hc
   rw [Place.add_same] at e'
   cases e'
   exact .inl st.size
  ·rw [Place.add_ne _ _ _ hc] at e'
   exact st.new c m s' e e'
 ·rw [hh]; simp; have := st.size; omega
 ·have := st.size
  rw [hh, Array.getElem?_push, if_neg (by omega)]
  exact st.frame k hk hn
 ·obtain ⟨r', e'⟩ := st.loops k r e
  exact ⟨r', by rw [hh, Array.getElem?_push, if_neg (by have := (Array.getElem?_eq_some_iff.1 e').1; omega)]; exact e'⟩
theorem PendV.keep {a a' : Frm} {h h' : Heap} {β β' : Place} {blk : Option Nat} {o : Oper} {v : Value} (hp : PendV P ops a h β blk o v)
  (hl : ∀ t, t ∈ o.looksAt ops → a'.get t = a.get t) (hread : Qa ops o a = some true → qR P o.op a.ev h = some v → qR P o.op a'.ev h' = some v)
  (hb : ∀ b q, blk = some b → h.get b = some q → β b = none → h'.get b = some q ∧ β' b = none) : PendV P ops a' h' β' blk o v := by
 cases hp with
 | no hw hv => exact .no (by rw [jC hl]; exact hw) hv
 | read hw hv => exact .read (by rw [jC hl]; exact hw) (hread hw hv)
 | new hw b q mk hbl hn hv hg hb' =>
  obtain ⟨h1, h2⟩ := hb b q hbl hg hb'
  exact .new (by rw [jC hl]; exact hw) b q mk hbl (by rw [u5 (Zn hl)]; exact hn) hv h1 h2
variable {ro : Option Nat} {D : List Deferred} {β₀ : Place} {h₀ : Heap} {w₀ : World} {pre : List Nat} {a : Frm} {h : Heap} {pend : List Nat} {blk : Nat → Option Nat} {β : Place} {S : Nat → Prop} {m : Act} {w : World}
theorem Amid.sees (A : Amid P ops T D β₀ h₀ w₀ pre a h pend blk β S m w) (G : Glob P ops T) {i : Nat} (hi : i < ops.size) (hp : ∀ p ∈ preds (qC ops i), S p) (hf : i ∈ pend ∨ i ∉ pend ∧ i ∉ pre) : ARel D β (only ((qC ops i).looksAt ops) a) m := by
 refine ⟨A.defers, A.size, fun t v e => ?_⟩
 rw [a4p] at e
 by_cases ht : t ∈ (qC ops i).looksAt ops
 ·rw [if_pos ht] at e
  refine A.slots t v e fun j hj hd => ?_
  obtain ⟨hjp, hja⟩ := A.sub j hj
  by_cases hij : j = i
  ·subst hij
   exact G.self j hi hja t hd ht
  ·have := (G.flt j i (A.lt j hjp) hi hij hja t hd).2 ht
   have := G.cc i hi S A.closed hp j this
   exact ((A.done j).1 this).2 hj
 ·rw [if_neg ht] at e; cases e
theorem wH {i : Nat} (hi : i < ops.size) : ops[i]? = some (qC ops i) := by
 unfold qC
 rw [Array.getD_eq_getD_getElem?, Array.getElem?_eq_getElem hi]
 rfl
theorem WR (m : Act) (d : Option Tmp) (v : Value) : (m.put d v).tmps = match d with | some t => m.tmps.setIfInBounds t v | none => m.tmps := by
 unfold Act.put
 cases d <;> rfl
theorem KY (m : Act) (d : Option Tmp) (v : Value) : (m.put d v).defers = m.defers := by
 unfold Act.put
 cases d <;> rfl
theorem WV (m : Act) (d : Option Tmp) (v : Value) : (m.put d v).tmps.size = m.tmps.size := by
 rw [WR]
 cases d <;> simp
theorem vB (m : Act) (d : Option Tmp) (v : Value) (t : Nat) : (m.put d v).tmps[t]? = if d = some t ∧ t < m.tmps.size then some v else m.tmps[t]? := by
 rw [WR]
 cases d with
 | none => simp
 | some u =>
  by_cases e : u = t
  ·subst e
   by_cases hl : u < m.tmps.size
   ·simp [hl]
   ·simp [hl]
  ·simp [e]
theorem Amid.caught (A : Amid P ops T D β₀ h₀ w₀ pre a h pend blk β S m w) {i : Nat} (hi : i ∈ pend) (hp : ∀ p ∈ preds (qC ops i), S p) {v mv : Value} {β' : Place} {w' : World}
  (hslot : ∀ t, (qC ops i).dst = some t → t < a.n → a.get t = some v)
  (hβ : ∀ b x, β b = some x → β' b = some x) (hv : VRel β' v mv) (hr : Rel P β' h w') (st : Step β₀ h₀ w₀ β' h w') (hb : ∀ j ∈ pend, j ≠ i → ∀ b, blk j = some b → β b = none → β' b = none)
  {S' : Nat → Prop} (hS : ∀ j, S' j ↔ S j ∨ j = i) : Amid P ops T D β₀ h₀ w₀ pre a h (pend.filter (· ≠ i)) blk β' S' (m.put (qC ops i).dst mv) w' := by
 have hmem : ∀ j, j ∈ pend.filter (· ≠ i) ↔ j ∈ pend ∧ j ≠ i := fun j => by simp
 refine ⟨fun j => ?_, fun j hj p hp' => ?_, fun j hj => A.sub j ((hmem j).1 hj).1, A.lt, A.tpre, by rw [KY]; exact A.defers, by rw [WV]; exact A.size, A.low, fun t u e hn => ?_, hr, st, fun j hj => ?_,
  fun j hj k hk => A.apart j ((hmem j).1 hj).1 k ((hmem k).1 hk).1, fun j hj => A.fresh j ((hmem j).1 hj).1⟩
 ·rw [hS, A.done, hmem]
  constructor
  ·rintro (⟨h1, h2⟩ | rfl)
   ·exact ⟨h1, fun q => h2 q.1⟩
   ·exact ⟨(A.sub j hi).1, fun q => q.2 rfl⟩
  ·rintro ⟨h1, h2⟩
   by_cases e : j = i
   ·exact .inr e
   ·exact .inl ⟨h1, fun q => h2 ⟨q, e⟩⟩
 ·rcases (hS j).1 hj with h1 | rfl
  ·exact (hS p).2 (.inl (A.closed j h1 p hp'))
  ·exact (hS p).2 (.inl (hp p hp'))
 ·rw [vB]
  by_cases hd : (qC ops i).dst = some t
  ·have hlt := A.low t u e
   rw [if_pos ⟨hd, by rw [A.size]; exact hlt⟩]
   have := hslot t hd hlt
   rw [e] at this
   cases this
   exact ⟨mv, rfl, hv⟩
  ·rw [if_neg (fun q => hd q.1)]
   obtain ⟨mu, e1, r⟩ := A.slots t u e fun j hj hdj => by
    by_cases hji : j = i
    ·subst hji; exact hd hdj
    ·exact hn j ((hmem j).2 ⟨hj, hji⟩) hdj
   exact ⟨mu, e1, r.mono hβ⟩
 ·obtain ⟨h1, h2⟩ := (hmem j).1 hj
  obtain ⟨u, hp1, hs⟩ := A.pends j h1
  exact ⟨u, hp1.keep (fun _ _ => rfl) (fun _ q => q) (fun b q hbl hg hbn => ⟨hg, hb j h1 h2 b hbl hbn⟩), hs⟩
theorem Amid.catch (A : Amid P ops T D β₀ h₀ w₀ pre a h pend blk β S m w) (G : Glob P ops T) {i : Nat} (hi : i ∈ pend) (hp : ∀ p ∈ preds (qC ops i), S p) {next : Act → World → Prop}
  {S' : Nat → Prop} (hS : ∀ j, S' j ↔ S j ∨ j = i) (hn : ∀ β' m' w', Amid P ops T D β₀ h₀ w₀ pre a h (pend.filter (· ≠ i)) blk β' S' m' w' → next m' w') : ItemS ro P ops i next m w := by
 have hlt := A.lt i (A.sub i hi).1
 have hsee := A.sees G hlt hp (.inl hi)
 obtain ⟨v, hpv, hslot⟩ := A.pends i hi
 cases hpv with
 | no hw hv =>
  subst hv
  have hw' := y6 hsee (by rw [jC jU]; exact hw)
  exact xi (wH hlt) hw' (hn _ _ _ (A.caught hi hp hslot (fun _ _ e => e) VRel.undef A.rel A.step (fun _ _ _ _ _ e => e) hS))
 | read hw hv =>
  have hw' := y6 hsee (by rw [jC jU]; exact hw)
  obtain ⟨mv, hrun, hvr⟩ := a3Q hsee.rho A.rel (by rw [yL (Zn jU)]; exact hv)
  exact KU (wH hlt) hw' (j5 (fun c hc => by rw [hc] at hv; simp [qR, z8] at hv) hrun (hn _ _ _ (A.caught hi hp hslot (fun _ _ e => e) hvr A.rel A.step (fun _ _ _ _ _ e => e) hS)))
 | new hw b q mk hbl hnew hv hg hb =>
  subst hv
  have hw' := y6 hsee (by rw [jC jU]; exact hw)
  obtain ⟨mv, w', s, hrun, hN⟩ := Xr (P := P) (o := qC ops i) hsee.rho (by rw [u5 (Zn jU)]; exact hnew) w
  obtain ⟨mo, hmo⟩ := hN.heap
  have hmono := Place.add_mono w.heap.size s hb
  obtain ⟨hvr, ho⟩ := hN.rel (β.add b w.heap.size s) b hmono (Place.add_same _ _ _ _)
  refine KU (wH hlt) hw' (j5 (fun c hc => by rw [hc] at hnew; simp [jp] at hnew) hrun ?_)
  refine hn _ _ _ (A.caught hi hp hslot hmono hvr (A.rel.mapped hb (h.wf _ _ hg) hg hmo ho) (A.step.placed hb (A.fresh i hi b hbl).1 hmo hN.os hN.tape hN.output) (fun j hj hne b' hbl' hb' => ?_) hS)
  rw [Place.add_ne _ _ _ (fun e => hne (A.apart j hj i hi b (by rw [← e]; exact hbl') hbl))]
  exact hb'
theorem Amid.float (A : Amid P ops T D β₀ h₀ w₀ pre a h pend blk β S m w) (G : Glob P ops T) {i : Nat} {ks : List Nat} {r : List (Nat × List Nat)} (O : OkGo P ops T pre i ks r) (ha : acts (qC ops i).op = false)
  {v : Value} {h' : Heap} {bl : Option Nat} (hp : PendV P ops a h' β bl (qC ops i) v) (hh : (h' = h ∧ bl = none) ∨ ∃ q, h' = h.push q ∧ bl = some h.next) :
  Amid P ops T D β₀ h₀ w₀ (pre ++ [i]) (a.put (qC ops i).dst v) h' (i :: pend) (fun j => if j = i then bl else blk j) β S m w := by
 have hni : i ∉ pend := fun q => O.new (A.sub i q).1
 have hself := G.self i O.lt ha
 have hkeep : ∀ t, t ∈ (qC ops i).looksAt ops → (a.put (qC ops i).dst v).get t = a.get t := fun t ht => by
  rw [wW, if_neg]
  rintro ⟨h1, _⟩
  exact hself t h1 ht
 have hstep : Step β₀ h₀ w₀ β h' w := by
  rcases hh with ⟨rfl, _⟩ | ⟨q, rfl, _⟩
  ·exact A.step
  ·exact A.step.push
 have hrel : Rel P β h' w := by
  rcases hh with ⟨rfl, _⟩ | ⟨q, rfl, _⟩
  ·exact A.rel
  ·exact A.rel.push q
 have hne : ∀ j ∈ pend, j ≠ i := fun j hj e => hni (e ▸ hj)
 refine ⟨fun j => ?_, A.closed, fun j hj => ?_, fun j hj => ?_, fun j hj k hk => ?_, A.defers, by rw [xw]; exact A.size, fun t u e => ?_, fun t u e hn => ?_, hrel, hstep, fun j hj => ?_, fun j hj k hk b e e' => ?_, fun j hj b e => ?_⟩
 ·rw [A.done]
  simp only [List.mem_append, List.mem_cons, List.not_mem_nil, or_false, not_or]
  constructor
  ·rintro ⟨h1, h2⟩
   exact ⟨.inl h1, fun e => O.new (e ▸ h1), h2⟩
  ·rintro ⟨h1 | h1, h2, h3⟩
   ·exact ⟨h1, h3⟩
   ·exact absurd h1 h2
 ·rcases List.mem_cons.1 hj with rfl | hj
  ·exact ⟨by simp, ha⟩
  ·exact ⟨by simp [(A.sub j hj).1], (A.sub j hj).2⟩
 ·rcases List.mem_append.1 hj with h1 | h1
  ·exact A.lt j h1
  ·rw [List.mem_singleton.1 h1]; exact O.lt
 ·rcases List.mem_append.1 hj with h1 | h1
  ·exact List.mem_append_left _ (A.tpre j h1 k hk)
  ·rw [List.mem_singleton.1 h1] at hk
   exact List.mem_append_left _ (O.tpre k hk).1
 ·rw [xw]
  rw [wW] at e
  split at e
  ·rename_i q; exact q.2
  ·exact A.low t u e
 ·rw [wW, if_neg (fun q => hn i (by simp) q.1)] at e
  exact A.slots t u e fun j hj => hn j (by simp [hj])
 ·rcases List.mem_cons.1 hj with rfl | hj
  ·rw [if_pos rfl]
   refine ⟨v, ?_, fun t e hlt => ?_⟩
   ·refine hp.keep hkeep (fun hw hv => ?_) (fun b q _ hg hb => ⟨hg, hb⟩)
    rw [yL (Zn hkeep)]; exact hv
   ·rw [wW, if_pos ⟨e, by rwa [xw] at hlt⟩]
  ·obtain ⟨u, hp1, hs⟩ := A.pends j hj
   obtain ⟨hjp, hja⟩ := A.sub j hj
   rw [if_neg (hne j hj)]
   have hkj : ∀ t, t ∈ (qC ops j).looksAt ops → (a.put (qC ops i).dst v).get t = a.get t := fun t ht => by
    rw [wW, if_neg]
    rintro ⟨h1, _⟩
    exact O.new (A.tpre j hjp i ((G.flt i j O.lt (A.lt j hjp) (hne j hj).symm ha t h1).2 ht))
   refine ⟨u, hp1.keep hkj (fun hw hv => ?_) (fun b q _ hg hb => ?_), fun t e hlt => ?_⟩
   ·rw [yL (Zn hkj)]
    rcases hh with ⟨rfl, _⟩ | ⟨q, rfl, _⟩
    ·exact hv
    ·exact a8n hv
   ·rcases hh with ⟨rfl, _⟩ | ⟨q, rfl, _⟩
    ·exact ⟨hg, hb⟩
    ·exact ⟨Heap.get_push_of hg, hb⟩
   ·rw [xw] at hlt
    rw [wW, if_neg]
    ·exact hs t e hlt
    ·rintro ⟨h1, _⟩
     exact (G.flt i j O.lt (A.lt j hjp) (hne j hj).symm ha t h1).1 e
 ·have old : ∀ j ∈ pend, ∀ b, blk j = some b → bl = some b → False := fun j hj b e1 e2 => by
   have := (A.fresh j hj b e1).2
   rcases hh with ⟨_, hbl⟩ | ⟨q, _, hbl⟩
   ·rw [hbl] at e2; cases e2
   ·rw [hbl] at e2; cases e2; omega
  rcases List.mem_cons.1 hj with rfl | hj1
  ·rcases List.mem_cons.1 hk with rfl | hk1
   ·rfl
   ·rw [if_pos rfl] at e
    rw [if_neg (hne k hk1)] at e'
    exact (old k hk1 b e' e).elim
  ·rw [if_neg (hne j hj1)] at e
   rcases List.mem_cons.1 hk with rfl | hk1
   ·rw [if_pos rfl] at e'
    exact (old j hj1 b e e').elim
   ·rw [if_neg (hne k hk1)] at e'
    exact A.apart j hj1 k hk1 b e e'
 ·have hnx : h.next ≤ h'.next := by
   rcases hh with ⟨rfl, _⟩ | ⟨q, rfl, _⟩
   ·exact Nat.le_refl _
   ·simp
  rcases List.mem_cons.1 hj with rfl | hj1
  ·rw [if_pos rfl] at e
   rcases hh with ⟨_, hbl⟩ | ⟨q, rfl, hbl⟩
   ·rw [hbl] at e; cases e
   ·rw [hbl] at e; cases e
    exact ⟨A.step.next, by simp⟩
  ·rw [if_neg (hne j hj1)] at e
   have := A.fresh j hj1 b e
   exact ⟨this.1, Nat.lt_of_lt_of_le this.2 hnx⟩
theorem Amid.acted (A : Amid P ops T D β₀ h₀ w₀ pre a h pend blk β S m w) (G : Glob P ops T) (hr₀ : Rel P β₀ h₀ w₀) {i : Nat} {ks : List Nat} {r : List (Nat × List Nat)} (O : OkGo P ops T pre i ks r) (ha : acts (qC ops i).op = true)
  (hp : ∀ p ∈ preds (qC ops i), S p) {v mv : Value} {h' : Heap} {β' : Place} {w' : World} (hv : VRel β' v mv) (hr : Rel P β' h' w') (st : Step β h w β' h' w')
  (hc : jF P (a.put (qC ops i).dst v) h' (ks.map fun k => j8 ops (qC ops k)))
  {S' : Nat → Prop} (hS : ∀ j, S' j ↔ S j ∨ j = i) : Amid P ops T D β₀ h₀ w₀ (pre ++ [i]) (a.put (qC ops i).dst v) h' pend blk β' S' (m.put (qC ops i).dst mv) w' := by
 have hni : i ∉ pend := fun q => O.new (A.sub i q).1
 have hne : ∀ j ∈ pend, j ≠ i := fun j hj e => hni (e ▸ hj)
 have hcc := G.cc i O.lt S A.closed hp
 have hfar : ∀ j ∈ pend, ∀ d, (qC ops i).dst = some d → d ∉ (qC ops j).looksAt ops ∧ (qC ops j).dst ≠ some d := fun j hj d hd => by
  obtain ⟨hjp, hja⟩ := A.sub j hj
  rcases G.act i j O.lt (A.lt j hjp) (hne j hj).symm ha d hd with h1 | h1 | h1
  ·exact h1
  ·exact absurd hj ((A.done j).1 (hcc j h1)).2
  ·exact absurd (A.tpre j hjp i h1) O.new
 have hck : ∀ k ∈ ks, YP P (j8 ops (qC ops k)) (a.put (qC ops i).dst v) h' := by
  clear O
  induction ks with
  | nil => simp
  | cons k ks ih =>
   intro j hj
   rcases List.mem_cons.1 hj with rfl | hj
   ·exact hc.1
   ·exact ih hc.2 j hj
 refine ⟨fun j => ?_, fun j hj p hp' => ?_, fun j hj => ?_, fun j hj => ?_, fun j hj k hk => ?_, by rw [KY]; exact A.defers, by rw [WV, xw]; exact A.size, fun t u e => ?_, fun t u e hn => ?_, hr, A.step.trans hr₀ st, fun j hj => ?_, A.apart, fun j hj b e => ?_⟩
 ·rw [hS, A.done]
  simp only [List.mem_append, List.mem_singleton]
  constructor
  ·rintro (⟨h1, h2⟩ | rfl)
   ·exact ⟨.inl h1, h2⟩
   ·exact ⟨.inr rfl, hni⟩
  ·rintro ⟨h1 | h1, h2⟩
   ·exact .inl ⟨h1, h2⟩
   ·exact .inr h1
 ·rcases (hS j).1 hj with h1 | rfl
  ·exact (hS p).2 (.inl (A.closed j h1 p hp'))
  ·exact (hS p).2 (.inl (hp p hp'))
 ·exact ⟨List.mem_append_left _ (A.sub j hj).1, (A.sub j hj).2⟩
 ·rcases List.mem_append.1 hj with h1 | h1
  ·exact A.lt j h1
  ·rw [List.mem_singleton.1 h1]; exact O.lt
 ·rcases List.mem_append.1 hj with h1 | h1
  ·exact List.mem_append_left _ (A.tpre j h1 k hk)
  ·rw [List.mem_singleton.1 h1] at hk
   exact List.mem_append_left _ (O.tpre k hk).1
 ·rw [xw]
  rw [wW] at e
  split at e
  ·rename_i q; exact q.2
  ·exact A.low t u e
 ·rw [wW] at e
  rw [vB, A.size]
  by_cases hd : (qC ops i).dst = some t ∧ t < a.n
  ·rw [if_pos hd] at e ⊢
   cases e
   exact ⟨mv, rfl, hv⟩
  ·rw [if_neg hd] at e ⊢
   obtain ⟨mu, e1, r1⟩ := A.slots t u e hn
   exact ⟨mu, e1, r1.mono st.place⟩
 ·obtain ⟨u, hp1, hs⟩ := A.pends j hj
  obtain ⟨hjp, hja⟩ := A.sub j hj
  have hkj : ∀ t, t ∈ (qC ops j).looksAt ops → (a.put (qC ops i).dst v).get t = a.get t := fun t ht => by
   rw [wW, if_neg]
   rintro ⟨h1, _⟩
   exact (hfar j hj t h1).1 ht
  have hsj : ∀ t, (qC ops j).dst = some t → (a.put (qC ops i).dst v).get t = a.get t := fun t ht => by
   rw [wW, if_neg]
   rintro ⟨h1, _⟩
   exact (hfar j hj t h1).2 ht
  refine ⟨u, hp1.keep hkj (fun hw hv => ?_) (fun b q hbl hg hb => ?_), fun t e hlt => ?_⟩
  ·by_cases hm : y8 P (qC ops j).op = true
   ·rcases O.chk ha j hjp hja hm with h1 | h1
    ·exact absurd hj ((A.done j).1 (hcc j h1)).2
    ·have hcj := hck j h1
     have hfin : ((wA (a.put (qC ops i).dst v) (qC ops j).dst).isSome = true ∧ qR P (qC ops j).op (a.put (qC ops i).dst v).ev h' = wA (a.put (qC ops i).dst v) (qC ops j).dst) → qR P (qC ops j).op (a.put (qC ops i).dst v).ev h' = some u := by
      rintro ⟨h2, h3⟩
      rw [h3]
      cases hd : (qC ops j).dst with
      | none => rw [hd] at h2; simp [wA] at h2
      | some t =>
       rw [hd] at h2
       simp only [wA] at h2 ⊢
       rw [hsj t hd] at h2 ⊢
       cases hg : a.get t with
       | none => rw [hg] at h2; cases h2
       | some u' => rw [← hg]; exact hs t hd (A.low t u' hg)
     unfold YP at hcj
     simp only [j8] at hcj
     cases hgd : (qC ops j).guard with
     | none => simp only [hgd, Option.map_none] at hcj; exact hfin hcj
     | some p =>
      obtain ⟨g, want⟩ := p
      simp only [hgd, Option.map_some] at hcj
      rcases hcj with h2 | h2
      ·have h3 : Qa ops (qC ops j) (a.put (qC ops i).dst v) = some false := by
        unfold Qa
        simp only [hgd]
        exact h2
       rw [jC hkj, hw] at h3
       cases h3
      ·exact hfin h2
   ·rw [yL (Zn hkj), abx (h' := h) (by simpa using hm)]
    exact hv
  ·obtain ⟨h1, h2⟩ := st.stays b (h.wf _ _ hg) hb
   exact ⟨h2.trans hg, h1⟩
  ·rw [xw] at hlt
   rw [hsj t e]
   exact hs t e hlt
 ·have := A.fresh j hj b e
  exact ⟨this.1, Nat.lt_of_lt_of_le this.2 st.next⟩
theorem Amid.act (A : Amid P ops T D β₀ h₀ w₀ pre a h pend blk β S m w) (G : Glob P ops T) (hr₀ : Rel P β₀ h₀ w₀) {i : Nat} {ks : List Nat} {r : List (Nat × List Nat)} (O : OkGo P ops T pre i ks r) (ha : acts (qC ops i).op = true)
  (hp : ∀ p ∈ preds (qC ops i), S p) {next : Act → World → Prop} {K : Frm → Heap → Prop} {S' : Nat → Prop} (hS : ∀ j, S' j ↔ S j ∨ j = i)
  (hw : cWp P [j8 ops (qC ops i)] (fun a h => jF P a h (ks.map fun k => j8 ops (qC ops k)) ∧ K a h) a h)
  (hn : ∀ a' h' β' m' w', K a' h' → Amid P ops T D β₀ h₀ w₀ (pre ++ [i]) a' h' pend blk β' S' m' w' → next m' w') : ItemS ro P ops i next m w := by
 have hni : i ∉ pend := fun q => O.new (A.sub i q).1
 have hsee := A.sees G O.lt hp (.inr ⟨hni, O.new⟩)
 rcases a4z hw with ⟨h1, h2⟩ | ⟨h1, h2, h3⟩
 ·have hw' := y6 hsee (by rw [jC jU]; exact h1)
  refine KU (wH O.lt) hw' (xE hsee.rho A.rel (by rw [abY (Zn jU)]; exact h2) ?_)
  rintro v h' β' mv w' ⟨hc, hK⟩ hv hr st
  exact hn _ _ _ _ _ hK (A.acted G hr₀ O ha hp hv hr st hc hS)
 ·have hw' := y6 hsee (by rw [jC jU]; exact h1)
  exact xi (wH O.lt) hw' (hn _ _ _ _ _ h3 (A.acted G hr₀ O ha hp VRel.undef A.rel (Step.refl _ _ _) h2 hS))
end
open Go.RowKit
section
variable {ro : Option Nat} {D : List Deferred} {P : Program} {ops : Array Oper} {T : List (List Nat)} {β₀ : Place} {h₀ : Heap} {w₀ : World} {β : Place} {S : Nat → Prop} {m : Act} {w : World} {K : Frm → Heap → Prop}
theorem Amid.advance (G : Glob P ops T) : ∀ (rest : List (Nat × List Nat)) {pre : List Nat} {a : Frm} {h : Heap} {pend : List Nat} {blk : Nat → Option Nat}, Amid P ops T D β₀ h₀ w₀ pre a h pend blk β S m w →
  Wy P ops T pre rest = true → dWp P (WD ops rest) K a h →
  ∃ rest' pre' a' h' pend' blk', Amid P ops T D β₀ h₀ w₀ pre' a' h' pend' blk' β S m w ∧ Wy P ops T pre' rest' = true ∧ dWp P (WD ops rest') K a' h' ∧ pre' ++ rest'.map (·.1) = pre ++ rest.map (·.1) ∧
   (rest' = [] ∨ ∃ i ks r, rest' = (i, ks) :: r ∧ acts (qC ops i).op = true)
 | [], pre, a, h, pend, blk, A, ho, hw => ⟨[], pre, a, h, pend, blk, A, ho, hw, rfl, .inl rfl⟩
 | (i, ks) :: r, pre, a, h, pend, blk, A, ho, hw => by
  have O := yH ho
  by_cases ha : acts (qC ops i).op = true
  ·exact ⟨(i, ks) :: r, pre, a, h, pend, blk, A, ho, hw, rfl, .inr ⟨i, ks, r, rfl, ha⟩⟩
  ·have ha' : acts (qC ops i).op = false := by simpa using ha
   have hw' : cWp P [j8 ops (qC ops i)] (fun a h => jF P a h (ks.map fun k => j8 ops (qC ops k)) ∧ dWp P (WD ops r) K a h) a h := hw
   have go : ∀ (v : Value) (h' : Heap) (bl : Option Nat), PendV P ops a h' β bl (qC ops i) v → ((h' = h ∧ bl = none) ∨ ∃ q, h' = h.push q ∧ bl = some h.next) → dWp P (WD ops r) K (a.put (qC ops i).dst v) h' →
     ∃ rest' pre' a' h' pend' blk', Amid P ops T D β₀ h₀ w₀ pre' a' h' pend' blk' β S m w ∧ Wy P ops T pre' rest' = true ∧ dWp P (WD ops rest') K a' h' ∧ pre' ++ rest'.map (·.1) = pre ++ ((i, ks) :: r).map (·.1) ∧
      (rest' = [] ∨ ∃ i ks r, rest' = (i, ks) :: r ∧ acts (qC ops i).op = true) := by
    intro v h' bl hp hh hd
    obtain ⟨rest', pre', a', h2, pend', blk', A', ho', hw2, e, hr⟩ := Amid.advance G r (A.float G O ha' hp hh) O.rest hd
    exact ⟨rest', pre', a', h2, pend', blk', A', ho', hw2, by rw [e]; simp, hr⟩
   rcases a4z hw' with ⟨h1, h2⟩ | ⟨h1, _, h3⟩
   ·rcases a5T (afV ha') h2 with ⟨v, hv, _, h3⟩ | ⟨q, mk, hn, _, h3⟩
    ·exact go v h none (.read h1 hv) (.inl ⟨rfl, rfl⟩) h3
    ·exact go (mk h.next) (h.push q) (some h.next) (.new h1 h.next q mk rfl hn rfl (Heap.get_push_self h q) A.rel.noNext) (.inr ⟨q, rfl, rfl⟩) h3
   ·exact go undef h none (.no h1 rfl) (.inl ⟨rfl, rfl⟩) h3
theorem aex (G : Glob P ops T) (hr₀ : Rel P β₀ h₀ w₀) {E : List (Nat × List Nat)} (hE : Wy P ops T [] E = true) (hall : ∀ i, i < ops.size → i ∈ E.map (·.1)) {R : Act → World → Prop}
  (hR : ∀ a' h' β' m' w', K a' h' → ARel D β' a' m' → Rel P β' h' w' → Step β₀ h₀ w₀ β' h' w' → R m' w') :
  ∀ (fuel : Nat) (l : List Nat) (rest : List (Nat × List Nat)) (pre : List Nat) (a : Frm) (h : Heap) (pend : List Nat) (blk : Nat → Option Nat) (β : Place) (listed : Array Bool) (m : Act) (w : World),
   l.length ≤ fuel → (∀ i, i < ops.size → listed.getD i false = false → i ∈ l) → listed.size = ops.size → pre ++ rest.map (·.1) = E.map (·.1) →
   Amid P ops T D β₀ h₀ w₀ pre a h pend blk β (fun i => listed.getD i false = true) m w → Wy P ops T pre rest = true → dWp P (WD ops rest) K a h → afB ro P ops R fuel listed m w := by
 have fin : ∀ (rest : List (Nat × List Nat)) (pre : List Nat) (a : Frm) (h : Heap) (pend : List Nat) (blk : Nat → Option Nat) (β : Place) (listed : Array Bool) (m : Act) (w : World), (∀ i, i < ops.size → listed.getD i false = true) →
   Amid P ops T D β₀ h₀ w₀ pre a h pend blk β (fun i => listed.getD i false = true) m w → Wy P ops T pre rest = true → dWp P (WD ops rest) K a h → R m w := by
  intro rest pre a h pend blk β listed m w hl A ho hw
  have hpend : pend = [] := by
   cases hp : pend with
   | nil => rfl
   | cons i is =>
    have hi : i ∈ pend := by rw [hp]; simp
    exact absurd hi ((A.done i).1 (hl i (A.lt i (A.sub i hi).1))).2
  cases rest with
  | nil =>
   subst hpend
   exact hR a h β m w hw ⟨A.defers, A.size, fun t v e => A.slots t v e (by simp)⟩ A.rel A.step
  | cons e r =>
   obtain ⟨i, ks⟩ := e
   have O := yH ho
   exact absurd ((A.done i).1 (hl i O.lt)).1 O.new
 have noready : ∀ (listed : Array Bool), listed.size = ops.size → (∀ i, i < ops.size → listed.getD i false = true) → Region.ready .any ops listed = [] := by
  intro listed hsz hl
  cases hq : Region.ready .any ops listed with
  | nil => rfl
  | cons j js =>
   have : j ∈ Region.ready .any ops listed := by rw [hq]; simp
   obtain ⟨h1, o, h2, _⟩ := mem_ready.1 this
   have hlt : j < ops.size := (Array.getElem?_eq_some_iff.1 h2).1
   have h3 := hl j hlt
   simp [Array.getD_eq_getD_getElem?, Array.getElem?_eq_getElem (show j < listed.size by omega)] at h1 h3
   rw [h1] at h3
   cases h3
 have predsAt : ∀ (listed : Array Bool) i, i ∈ Region.ready .any ops listed → i < ops.size ∧ listed.getD i true = false ∧ ∀ p ∈ preds (qC ops i), listed.getD p false = true := by
  intro listed i hi
  obtain ⟨h1, o, h2, h3⟩ := mem_ready.1 hi
  have hlt : i < ops.size := (Array.getElem?_eq_some_iff.1 h2).1
  have : o = qC ops i := by
   have := wH hlt
   rw [h2] at this
   exact Option.some.inj this
  subst this
  refine ⟨hlt, h1, fun p hp => ?_⟩
  unfold preds at hp
  obtain ⟨e, he, hpe⟩ := List.mem_filterMap.1 hp
  split at hpe
  ·rename_i hb
   cases hpe
   exact h3 e (by simpa using he) hb
  ·cases hpe
 intro fuel
 induction fuel with
 | zero =>
  intro l rest pre a h pend blk β listed m w hlen hl hsz _ A ho hw
  have hl0 : l = [] := List.length_eq_zero_iff.1 (by omega)
  subst hl0
  have hall' : ∀ i, i < ops.size → listed.getD i false = true := fun i hi => by
   cases hq : listed.getD i false with
   | true => rfl
   | false => exact absurd (hl i hi hq) (by simp)
  exact ⟨noready listed hsz hall', fin rest pre a h pend blk β listed m w hall' A ho hw⟩
 | succ fuel ih =>
  intro l rest pre a h pend blk β listed m w hlen hl hsz hpr A ho hw
  refine ⟨fun hnil => ?_, fun i hi => ?_⟩
  ·have hall' : ∀ i, i < ops.size → listed.getD i false = true := by
    intro i hi
    cases hq : listed.getD i false with
    | true => rfl
    | false =>
     obtain ⟨j, hj, hns, hp⟩ := XN (S := fun i => listed.getD i false = true) E [] (by simp) hE ⟨i, hall i hi, by simp [hq]⟩
     have : j ∈ Region.ready .any ops listed := by
      refine mem_ready.2 ⟨?_, qC ops j, wH hj, fun e he hb => ?_⟩
      ·simp [Array.getD_eq_getD_getElem?, Array.getElem?_eq_getElem (show j < listed.size by omega)] at hns ⊢
       exact hns
      ·exact hp e.on (List.mem_filterMap.2 ⟨e, by simpa using he, by rw [if_pos hb]⟩)
     rw [hnil] at this
     cases this
   exact fin rest pre a h pend blk β listed m w hall' A ho hw
  ·obtain ⟨hlt, hun, hp⟩ := predsAt listed i hi
   have hunf : listed.getD i false = false := by
    simp [Array.getD_eq_getD_getElem?, Array.getElem?_eq_getElem (show i < listed.size by omega)] at hun ⊢
    exact hun
   have hS : ∀ j, (listed.setIfInBounds i true).getD j false = true ↔ listed.getD j false = true ∨ j = i := by
    intro j
    by_cases e : j = i
    ·subst e
     simp [Array.getD_eq_getD_getElem?, show j < listed.size by omega]
    ·rw [getD_set_ne false (Ne.symm e)]
     simp [e]
   have hl' : ∀ j, j < ops.size → (listed.setIfInBounds i true).getD j false = false → j ∈ l.erase i := by
    intro j hj hf
    have hji : j ≠ i := by
     rintro rfl
     rw [(hS j).2 (.inr rfl)] at hf
     cases hf
    rw [getD_set_ne false (Ne.symm hji)] at hf
    exact (List.mem_erase_of_ne hji).2 (hl j hj hf)
   have hlen' : (l.erase i).length ≤ fuel := by
    rw [List.length_erase_of_mem (hl i hlt hunf)]
    omega
   obtain ⟨rest', pre', a', h', pend', blk', A', ho', hw', hpr', hshape⟩ := A.advance G rest ho hw
   have hin : i ∈ pre' ++ rest'.map (·.1) := by rw [hpr', hpr]; exact hall i hlt
   by_cases hpi : i ∈ pend'
   ·refine A'.catch G hpi hp hS fun β2 m2 w2 A2 => ?_
    exact ih _ rest' pre' a' h' _ blk' β2 _ m2 w2 hlen' hl' (by simpa using hsz) (hpr'.trans hpr) A2 ho' hw'
   ·have hnpre : i ∉ pre' := fun q => by
     have := (A'.done i).2 ⟨q, hpi⟩
     rw [hunf] at this
     cases this
    rcases List.mem_append.1 hin with h1 | h1
    ·exact absurd h1 hnpre
    ·rcases hshape with rfl | ⟨k, ks, r, rfl, hk⟩
     ·simp at h1
     ·have O := yH ho'
      have hki : i = k := by
       apply Classical.byContradiction
       intro hne
       simp only [List.map_cons, List.mem_cons] at h1
       have h2 : i ∈ r.map (·.1) := h1.resolve_left hne
       have key : ∀ (r : List (Nat × List Nat)) (pr : List Nat), Wy P ops T pr r = true → k ∈ pr → i ∈ r.map (·.1) → k ∈ tbl T i := by
        intro r
        induction r with
        | nil => intro pr _ _ hi; simp at hi
        | cons e r ihr =>
         obtain ⟨x, xs⟩ := e
         intro pr hok hkp hir
         have O' := yH hok
         by_cases hx : i = x
         ·subst hx; exact O'.acts k hkp hk
         ·simp only [List.map_cons, List.mem_cons] at hir
          exact ihr (pr ++ [x]) O'.rest (by simp [hkp]) (hir.resolve_left hx)
       have h3 := key r (pre' ++ [k]) O.rest (by simp) h2
       have h4 := G.cc i hlt _ A'.closed hp k h3
       exact absurd ((A'.done k).1 h4).1 O.new
      subst hki
      refine A'.act G hr₀ O hk hp hS hw' fun a2 h2 β2 m2 w2 hK2 A2 => ?_
      exact ih _ r (pre' ++ [i]) a2 h2 pend' blk' β2 _ m2 w2 hlen' hl' (by simpa using hsz) (by rw [← hpr, ← hpr']; simp) A2 O.rest hK2
theorem a4V {E : List (Nat × List Nat)} (hok : a1Y P ops T E = true) : Glob P ops T ∧ Wy P ops T [] E = true ∧ ∀ i, i < ops.size → i ∈ E.map (·.1) := by
 simp only [a1Y, Bool.and_eq_true, List.all_eq_true, List.mem_range, List.contains_eq_mem, decide_eq_true_eq] at hok
 obtain ⟨⟨⟨h1, h2⟩, h3⟩, h4⟩ := hok
 refine ⟨⟨fun i hi => a96 E [] (by simp) h1 i (.inr (h2 i hi)), fun i hi ha d hd => ?_, fun i j hi hj hne ha d hd => ?_, fun i j hi hj hne ha d hd => ?_⟩, h1, h2⟩
 ·have := h3 i hi
  simpa [aey, ha, hd] using this
 ·have := h4 i hi j hj
  simp [a75, ha, hd, hne] at this
  refine ⟨this.1, fun q => ?_⟩
  rcases this.2 with h | h
  ·exact absurd q h
  ·exact h
 ·have := h4 i hi j hj
  simp [a75, ha, hd, hne] at this
  rcases this with (h | h) | h
  ·exact .inl h
  ·exact .inr (.inl h)
  ·exact .inr (.inr h)
theorem ad7 {id : Nat} {Q : Exit → Frm → Heap → Prop} {a : Frm} {h : Heap} (hm : P.follows .mixedOrders = true) {E : List (Nat × List Nat)} (hok : a1Y P ops T E = true) (hw : dWp P (WD ops E) (Q .normal) a h) :
  AWp P (.region id ops true) Q a h := by
 obtain ⟨G, hE, hall⟩ := a4V hok
 intro ro D β m w ha hr ok
 refine a7R hm ?_
 have hr' : Rel P β h { w with drawn := w.drawn + 1 } := hr.same rfl
 have hst : Step β h w β h { w with drawn := w.drawn + 1 } := Step.same rfl rfl rfl rfl
 refine aex (β₀ := β) (h₀ := h) (K := Q .normal) G hr' hE hall (fun a' h' β' m' w' hK h1 h2 h3 => ⟨a', h', β', D, h1, h2, .of (hst.trans hr h3), hK⟩) ops.size (List.range ops.size) E [] a h [] (fun _ => none) β _ m _ (by simp) (fun i hi _ => by simpa using hi) (by simp) rfl ?_ hE hw
 refine ⟨fun i => ?_, fun i hi => ?_, by simp, by simp, by simp, ha.defers, ha.size, fun t v e => ?_, fun t v e _ => ha.rel t v e, hr', Step.refl _ _ _, by simp, by simp, by simp⟩
 ·simp [Array.getD_eq_getD_getElem?, Array.getElem?_replicate]
  split <;> simp
 ·simp [Array.getD_eq_getD_getElem?, Array.getElem?_replicate] at hi
  split at hi <;> simp at hi
 ·obtain ⟨mv, e1, _⟩ := ha.rel t v e
  have := (Array.getElem?_eq_some_iff.1 e1).1
  rw [ha.size] at this
  exact this
end
open Go.RowKit
theorem yh {P : Program} {t e : TypeId} {s : Nat} (hu : P.underlying t = some (.slice e)) (hs : szT P e = some s) (b o len c : Nat) (k : IntKind) (i : Int) :
  ky P t (.slice (some ⟨b, o, none⟩) len c) (.int k i) = if 0 ≤ i ∧ i < len then some (.pointer (some ⟨b, o + i.toNat * s, none⟩)) else none := by
 unfold ky
 rw [hu]
 by_cases h0 : 0 ≤ i
 ·simp only [kR, h0, if_true, hs]
  have : i.toNat < len ↔ i < len := by omega
  simp [this]
 ·simp [kR, h0]
theorem Vl {P : Program} {t e : TypeId} {s len : Nat} (hu : P.underlying t = some (.array len e)) (hs : szT P e = some s) (b o : Nat) (k : IntKind) (i : Int) :
  ky P t (.pointer (some ⟨b, o, none⟩)) (.int k i) = if 0 ≤ i ∧ i < len then some (.pointer (some ⟨b, o + i.toNat * s, none⟩)) else none := by
 unfold ky
 rw [hu]
 by_cases h0 : 0 ≤ i
 ·simp only [kR, h0, if_true, hs]
  have : i.toNat < len ↔ i < len := by omega
  simp [this]
 ·simp [kR, h0]
theorem a46 {P : Program} {t e : TypeId} {s len : Nat} (hu : P.underlying t = some (.array len e)) (hs : szT P e = some s) (cs : List Value) (k : IntKind) (i : Int) :
  ZT P t (.agg cs.toArray) (.int k i) = if 0 ≤ i ∧ i < len then wy P e cs (i.toNat * s) else none := by
 unfold ZT
 rw [hu]
 by_cases h0 : 0 ≤ i
 ·simp only [kR, h0, if_true, hs]
  have : i.toNat < len ↔ i < len := by omega
  simp [this]
 ·simp [kR, h0]
theorem a1s {P : Program} {t : TypeId} (hu : P.underlying t = some .string) (s : ByteArray) (k : IntKind) (i : Int) :
  ZT P t (.string s) (.int k i) = if 0 ≤ i then (s[i.toNat]?).map (fun b => .int .u8 b.toNat) else none := by
 unfold ZT
 rw [hu]
 by_cases h0 : 0 ≤ i
 ·simp only [kR, h0, if_true]
 ·simp [kR, h0]
def a5k (P : Program) (t : TypeId) : Value := ((P.info? t).bind (·.zero)).getD undef
def yY (place : Nat → Option (Nat × Nat)) (cells : List Value) : List (Nat × Value) → Option (List Value)
 | [] => some cells
 | (i, v) :: r => match place i with
  | none => none
  | some (off, sz) => if v.cells.size = sz ∧ off + sz ≤ cells.length then yY place (qL cells off v.cells.toList) r else none
theorem JN : ∀ (l : List Value) (cs : Array Value) (off k : Nat), (l.zipIdx k).foldl (fun cs (x : Value × Nat) => cs.setIfInBounds (off + x.2) x.1) cs = (qL cs.toList (off + k) l).toArray
 | [], cs, off, k => by simp [qL]
 | v :: l, cs, off, k => by
  simp only [List.zipIdx_cons, List.foldl_cons]
  rw [JN l]
  simp only [qL, Array.toList_setIfInBounds]
  rfl
theorem Jr (place : Nat → Option (Nat × Nat)) : ∀ (ps : List (Nat × Value)) (cs : List Value), Instr.fill place cs.toArray ps = (yY place cs ps).map List.toArray
 | [], cs => rfl
 | (i, v) :: r, cs => by
  unfold Instr.fill yY
  cases hp : place i with
  | none => rfl
  | some p =>
   obtain ⟨off, sz⟩ := p
   simp only
   by_cases h : v.cells.size = sz ∧ off + sz ≤ cs.length
   ·rw [if_pos h, if_neg (by simp; omega)]
    rw [← Jr place r]
    congr 1
    have := JN v.cells.toList cs.toArray off 0
    rw [Nat.add_zero] at this
    rw [← this]
    rw [← Array.foldl_toList, Array.toList_zipIdx]
   ·rw [if_neg h, if_pos (by simp; omega)]
    rfl
theorem a2K {P : Program} {t : TypeId} {fs : Array Field} {ps : List (Nat × Value)} {it : TypeInfo} {z : Value} {places : List (Nat × Nat)} (hu : P.underlying t = some (.struct fs)) (hz : Wb P t = true)
  (hi : P.info? t = some it) (hv : it.zero = some z) (hp : fs.toList.mapM (fun f => (P.info? f.type).map fun i => (f.offset, i.size)) = some places) :
  QH P t ps = (yY (places[·]?) z.cells.toList ps).map fun l => .agg l.toArray := by
 unfold QH Program.built
 rw [if_pos hz, hi, hu]
 simp only [hv, hp]
 have e : ∀ i : Nat, places.toArray[i]? = places[i]? := fun i => by simp
 simp only [e]
 have : z.cells = z.cells.toList.toArray := by simp
 rw [this, Jr]
 rw [← this]
 cases yY (fun x => places[x]?) z.cells.toList ps <;> rfl
theorem a2U {P : Program} {t e : TypeId} {n : Nat} {ps : List (Nat × Value)} {it ie : TypeInfo} {z : Value} (hu : P.underlying t = some (.array n e)) (hz : Wb P t = true)
  (hi : P.info? t = some it) (hv : it.zero = some z) (he : P.info? e = some ie) :
  QH P t ps = (yY (fun i => some (i * ie.size, ie.size)) z.cells.toList ps).map fun l => .agg l.toArray := by
 unfold QH Program.built
 rw [if_pos hz, hi, hu]
 simp only [hv, he]
 have : z.cells = z.cells.toList.toArray := by simp
 rw [this, Jr]
 rw [← this]
 cases yY (fun i => some (i * ie.size, ie.size)) z.cells.toList ps <;> rfl
theorem a9u (place : Nat → Option (Nat × Nat)) (cs : List Value) : yY place cs [] = some cs := rfl
theorem a6p (place : Nat → Option (Nat × Nat)) (cs : List Value) (i : Nat) (v : Value) (r : List (Nat × Value)) : yY place cs ((i, v) :: r) = match place i with
  | none => none
  | some (off, sz) => if v.cells.size = sz ∧ off + sz ≤ cs.length then yY place (qL cs off v.cells.toList) r else none := rfl
attribute [push_cast] a9u a6p
def aif (P : Program) (l : List (C × List C)) (K : Frm → Heap → Prop) (a : Frm) (h : Heap) : Prop := dWp P l K a h
def aeQ (A B : Prop) : Prop := A ∧ B
theorem a9r (B : Prop) : aeQ True B = B := by simp [aeQ]
theorem aeV (P : Program) (K : Frm → Heap → Prop) (a : Frm) (h : Heap) : dWp P [] K a h = K a h := rfl
theorem abz (P : Program) (c : C) (r : List (C × List C)) (K : Frm → Heap → Prop) (a : Frm) (h : Heap) : dWp P ((c, []) :: r) K a h = cWp P [c] (dWp P r K) a h := by
 simp only [dWp, jF, true_and]
theorem ag7 (P : Program) (c k : C) (ks : List C) (r : List (C × List C)) (K : Frm → Heap → Prop) (a : Frm) (h : Heap) :
  dWp P ((c, k :: ks) :: r) K a h = cWp P [c] (fun a h => aeQ (jF P a h (k :: ks)) (aif P r K a h)) a h := rfl
theorem a8z (P : Program) (a : Frm) (h : Heap) : jF P a h [] = True := rfl
theorem a4b (P : Program) (a : Frm) (h : Heap) (c : C) (r : List C) : jF P a h (c :: r) = (YP P c a h ∧ jF P a h r) := rfl
theorem a7E (P : Program) (t : Tmp) (o : Op) (a : Frm) (h : Heap) : YP P ⟨some t, o, none⟩ a h = ((a.get t).isSome = true ∧ qR P o a.ev h = a.get t) := rfl
theorem a86 (P : Program) (t : Tmp) (o : Op) (g : Option Tmp) (want : Bool) (a : Frm) (h : Heap) : YP P ⟨some t, o, some (g, want)⟩ a h = (zo g want a = some false ∨ ((a.get t).isSome = true ∧ qR P o a.ev h = a.get t)) := rfl
theorem a6g (P : Program) (t : TypeId) (x : Operand) (a : Frm) (h : Heap) : qR P (.load t x) a.ev h = (a.ev x).bind (kJ P t h) := by
 simp only [qR]; cases a.ev x <;> rfl
theorem a4A (P : Program) (t : TypeId) (x : Operand) (lo hi mx : Option Operand) (a : Frm) (h : Heap) : qR P (.slice t x lo hi mx) a.ev h =
  (a.ev x).bind fun u => match jn a.ev lo, jn a.ev hi, jn a.ev mx with | some l, some hh, some m => z9 P (qV P h) t u l hh m | _, _, _ => none := by
 simp only [qR]; cases a.ev x <;> cases jn a.ev lo <;> cases jn a.ev hi <;> cases jn a.ev mx <;> rfl
attribute [go_sem ↓] aeV abz ag7 a8z a4b a7E a86
attribute [push_cast] a9r a6g a4A Option.bind_some Option.isSome_some true_and and_true or_true true_or false_or or_false
open Go.RowKit
def Has (n : Nat) (l : List (Nat × Value)) (a : Frm) : Prop := a.n = n ∧ ∀ p ∈ l, a.get p.1 = some p.2
def a53 (r : List (Nat × Value)) : List (Nat × Value) → Prop
 | [] => True
 | (t, v) :: l => wv t r = some v ∧ a53 r l
theorem a4R (r : List (Nat × Value)) : ∀ l, a53 r l = ∀ p ∈ l, wv p.1 r = some p.2
 | [] => by simp [a53]
 | (t, v) :: l => by simp [a53, a4R r l]
theorem ag6 (n n' : Nat) (l r : List (Nat × Value)) : Has n l ⟨n', r⟩ = (n' = n ∧ a53 r l) := by
 rw [a4R]; rfl
theorem afw (r : List (Nat × Value)) : a53 r [] = True := rfl
theorem ad2 (t : Nat) (v : Value) (l r : List (Nat × Value)) : a53 r ((t, v) :: l) = (wv t r = some v ∧ a53 r l) := rfl
section
variable {P : Program} {Q : Exit → Frm → Heap → Prop} {h : Heap} {c : Code}
end
structure Ext (h h' : Heap) : Prop where
 le : h.next ≤ h'.next
 get : ∀ b, b < h.next → h'.get b = h.get b
theorem Ext.refl (h : Heap) : Ext h h := ⟨Nat.le_refl _, fun _ _ => rfl⟩
theorem Ext.trans {h h1 h2 : Heap} (x : Ext h h1) (y : Ext h1 h2) : Ext h h2 :=
 ⟨Nat.le_trans x.le y.le, fun b hb => (y.get b (Nat.lt_of_lt_of_le hb x.le)).trans (x.get b hb)⟩
theorem Ext.push {h h' : Heap} (x : Ext h h') (o : AObj) : Ext h (h'.push o) :=
 ⟨by have := x.le; simp; omega, fun b hb => by rw [Heap.get_push_ne _ _ (by have := x.le; omega)]; exact x.get b hb⟩
theorem Ext.set {h h' : Heap} (x : Ext h h') {b : Nat} (hb : h.next ≤ b) (o : AObj) : Ext h (h'.set b o) :=
 ⟨x.le, fun c hc => by rw [Heap.get_set_ne _ _ (by omega)]; exact x.get c hc⟩
theorem Ext.kill {h h' : Heap} (x : Ext h h') {b : Nat} (hb : h.next ≤ b) : Ext h (h'.kill b) :=
 ⟨x.le, fun c hc => by rw [Heap.get_kill_ne _ (by omega)]; exact x.get c hc⟩
theorem a2M {h : Heap} {o : AObj} {b : Nat} (e : b = h.next) : (h.push o).get b = some o := by subst e; exact Heap.get_push_self h o
theorem get_push_ne {h : Heap} {o : AObj} {b : Nat} (e : b ≠ h.next) : (h.push o).get b = h.get b := Heap.get_push_ne h o e
theorem a6v {h : Heap} {o : AObj} {b c : Nat} (e : b = c) : (h.set c o).get b = (h.get b).map fun _ => o := by subst e; simp [Heap.get_set]
theorem get_set_ne {h : Heap} {o : AObj} {b c : Nat} (e : b ≠ c) : (h.set c o).get b = h.get b := Heap.get_set_ne h o e
theorem get_kill_ne {h : Heap} {b c : Nat} (e : b ≠ c) : (h.kill c).get b = h.get b := Heap.get_kill_ne h e
theorem aeL (b : Nat) : kH b = .pointer (some ⟨b, 0, none⟩) := rfl
theorem aae (n c b : Nat) : qu n c b = .slice (some ⟨b, 0, none⟩) n c := rfl
attribute [push_cast] ag6 afw ad2 Heap.next_push Heap.next_set Heap.next_kill aeL aae a2M get_push_ne a6v get_set_ne get_kill_ne
 List.toList_toArray List.append_nil List.nil_append List.cons_append List.size_toArray Nat.zero_add Nat.add_zero
 List.getElem?_toArray List.getElem?_cons_zero List.getElem?_cons_succ List.all_cons List.all_nil Bool.and_true Bool.true_and Bool.and_self Bool.not_true Bool.not_false List.set_cons_zero List.set_cons_succ List.drop_zero List.drop_succ_cons List.take_succ_cons List.take_zero List.take_nil List.drop_nil Nat.le_refl
theorem afr (p : Prop) {dp : Decidable p} : (!decide p) = decide (¬ p) := by simp
attribute [push_cast] afr decide_true decide_false not_true_eq_false not_false_eq_true Int.toNat_natCast Nat.mul_one
def SlAt (h : Heap) (v : Value) (e : TypeId) (xs : List Value) : Prop :=
 (v = .slice none 0 0 ∧ xs = []) ∨ (∃ b o, v = .slice (some ⟨b, o, none⟩) 0 dud ∧ xs = []) ∨ ∃ b o c cs rw, v = .slice (some ⟨b, o, none⟩) xs.length c ∧ h.get b = some (.cells cs e rw) ∧ (cs.drop o).take xs.length = xs ∧ xs.length ≤ maxLen
theorem SlAt.ext {h h' : Heap} {v : Value} {e : TypeId} {xs : List Value} (hs : SlAt h v e xs) (hx : Ext h h') : SlAt h' v e xs := by
 rcases hs with hs | hs | ⟨b, o, c, cs, rw, h1, h2, h3⟩
 ·exact .inl hs
 ·exact .inr (.inl hs)
 ·exact .inr (.inr ⟨b, o, c, cs, rw, h1, (hx.get b (h.wf _ _ h2)).trans h2, h3⟩)
def OwnSl (h₀ h : Heap) (v : Value) (e : TypeId) (xs : List Value) : Prop :=
 (v = .slice none 0 0 ∧ xs = []) ∨ ∃ b o c cs, v = .slice (some ⟨b, o, none⟩) xs.length c ∧ c ≠ dud ∧ (c ≠ qG ∧ (c = unk ∨ (xs.length ≤ c ∧ c ≤ maxLen))) ∧ h₀.next ≤ b ∧ h.get b = some (.cells cs e true) ∧ (cs.drop o).take xs.length = xs ∧ xs.length ≤ maxLen ∧ o + xs.length ≤ cs.length
theorem OwnSl.at {h₀ h : Heap} {v : Value} {e : TypeId} {xs : List Value} (hs : OwnSl h₀ h v e xs) : SlAt h v e xs := by
 rcases hs with hs | ⟨b, o, c, cs, h1, _, _, _, h2, h3, h4, _⟩
 ·exact .inl hs
 ·exact .inr (.inr ⟨b, o, c, cs, true, h1, h2, h3, h4⟩)
theorem OwnSl.ext {h₀ h h' : Heap} {v : Value} {e : TypeId} {xs : List Value} (hs : OwnSl h₀ h v e xs) (hx : Ext h h') : OwnSl h₀ h' v e xs := by
 rcases hs with hs | ⟨b, o, c, cs, h1, h2, h3, h4, h5, h6⟩
 ·exact .inl hs
 ·exact .inr ⟨b, o, c, cs, h1, h2, h3, h4, (hx.get b (h.wf _ _ h5)).trans h5, h6⟩
def a2s : Value → Option Nat
 | .slice (some ⟨b, _, none⟩) _ _ => some b
 | .pointer (some ⟨b, _, none⟩) => some b
 | .map (some b) => some b
 | _ => none
def ais (P : Program) (ts : List TypeId) (h : Heap) (s x : Value) (K : Value → Heap → Prop) : Prop := Yx (kD P ts h s x) K
theorem a0S (P : Program) (d : Option Tmp) (r : List C) (K : Frm → Heap → Prop) (a : Frm) (h : Heap) (x y : Operand) (ts : List TypeId) : cWp P (⟨d, .call ⟨.builtin .append, #[x, y], ts.toArray⟩, none⟩ :: r) K a h =
  qH (a.ev x) fun u => qH (a.ev y) fun v => ais P ts h u v fun v h' => Vc P r K (a.put d v) h' := a4d P d r K a h x y ts
attribute [go_sem ↓] a0S
theorem abp (z : List Value) (n : Nat) : jJ z n = (List.replicate n z).flatten := rfl
attribute [push_cast] abp List.flatten_cons List.flatten_nil
structure ExtB (b : Nat) (h h' : Heap) : Prop where
 le : h.next ≤ h'.next
 get : ∀ c, c < h.next → c ≠ b → h'.get c = h.get c
theorem ExtB.refl (b : Nat) (h : Heap) : ExtB b h h := ⟨Nat.le_refl _, fun _ _ _ => rfl⟩
theorem ExtB.ext {b : Nat} {h h1 h2 : Heap} (x : ExtB b h h1) (y : Ext h1 h2) : ExtB b h h2 :=
 ⟨Nat.le_trans x.le y.le, fun c hc hne => (y.get c (Nat.lt_of_lt_of_le hc x.le)).trans (x.get c hc hne)⟩
theorem ExtB.trans {b : Nat} {h h1 h2 : Heap} (x : ExtB b h h1) (y : ExtB b h1 h2) : ExtB b h h2 :=
 ⟨Nat.le_trans x.le y.le, fun c hc hne => (y.get c (Nat.lt_of_lt_of_le hc x.le) hne).trans (x.get c hc hne)⟩
theorem ExtB.push {b : Nat} {h h1 : Heap} (x : ExtB b h h1) (o : AObj) : ExtB b h (h1.push o) := x.ext (Ext.push (Ext.refl _) o)
theorem ExtB.set {b : Nat} {h h1 : Heap} (x : ExtB b h h1) {c : Nat} (hc : c = b ∨ h.next ≤ c) (o : AObj) : ExtB b h (h1.set c o) :=
 ⟨x.le, fun d hd hne => by rw [Heap.get_set_ne _ _ (by omega)]; exact x.get d hd hne⟩
open Go.RowKit
def ai4 (l : List Nat) : Nat := l.foldl (fun m p => m ||| (1 <<< p)) 0
def ah1 (n m : Nat) : List Nat := (List.range n).filter fun i => m.testBit i
def adx (done : Nat) (float : Bool) : List (Nat × Nat × Bool) → Option (Nat × Nat × Bool)
 | [] => none
 | (i, pm, ac) :: r => if (pm &&& done) == pm && (ac != float) then some (i, pm, ac) else adx done float r
def a7c : Nat → Nat → List (Nat × Nat × Bool) → List (Nat × Nat × Bool)
 | 0, _, _ => []
 | n + 1, done, l =>
  match adx done true l with
  | some x => x :: a7c n (done ||| (1 <<< x.1)) (l.filter fun y => y.1 != x.1)
  | none => match adx done false l with
   | some x => x :: a7c n (done ||| (1 <<< x.1)) (l.filter fun y => y.1 != x.1)
   | none => []
def ahJ (ops : Array Oper) : List (Nat × Nat × Bool) := (List.range ops.size).map fun i => (i, ai4 (preds (qC ops i)), acts (qC ops i).op)
def a9j (l : List (Nat × Nat)) (i : Nat) : Nat := match l with
 | [] => 0
 | (j, m) :: r => if j == i then m else a9j r i
def aiL (ops : Array Oper) : List (Nat × Nat × Bool) → List (Nat × Nat) → List (Nat × Nat)
 | [], acc => acc
 | (i, _, _) :: r, acc => aiL ops r ((i, (preds (qC ops i)).foldl (fun m p => m ||| (1 <<< p) ||| a9j acc p) 0) :: acc)
def a99 (P : Program) (ops : Array Oper) (am : List (Nat × Nat)) : List (Nat × Nat × Bool) → List Nat → List (Nat × List Nat)
 | [], _ => []
 | (i, _, ac) :: r, pre =>
  (i, if ac then (pre.reverse.filter fun j => !acts (qC ops j).op && y8 P (qC ops j).op && !(a9j am i).testBit j) else []) :: a99 P ops am r (i :: pre)
def aj2 (P : Program) (ops : Array Oper) : List (List Nat) × List (Nat × List Nat) :=
 let o := a7c ops.size 0 (ahJ ops)
 let am := aiL ops o []
 ((List.range ops.size).map fun i => ah1 ops.size (a9j am i), a99 P ops am o [])
inductive X where
 | nil
 | ret
 | exit (id : Nat)
 | goto (l : Nat)
 | bad
 | reg (L : List C) (k : X)
 | draw (L : List (C × List C)) (k : X)
 | cond (c : Operand) (x y k : X)
 | block (id : Nat) (x k : X)
 | loop (x k : X)
 | scope (x labs k : X)
 | lcons (l : Nat) (x r : X)
 | label (l : Nat) (k : X)
 | range (f : Operand) (ps : List Tmp) (c d : Code) (k : X)
def agQ (P : Program) (ops : Array Oper) (k : X) : X :=
 match aj2 P ops with
 | (T, E) => if P.follows .mixedOrders && a1Y P ops T E then .draw (WD ops E) k else .bad
mutual
def xOf (P : Program) : Code → X → X
 | .skip, k => k
 | .region _ ops false, k => .reg (ops.toList.map (j8 ops)) k
 | .region _ ops true, k => agQ P ops k
 | .seq x y, k => xOf P x (xOf P y k)
 | .cond c x y, k => .cond c (xOf P x .nil) (xOf P y .nil) k
 | .block id c, k => .block id (xOf P c .nil) k
 | .loop c, k => .loop (xOf P c .nil) k
 | .exit id, _ => .exit id
 | .ret, _ => .ret
 | .goto l, _ => .goto l
 | .label l, k => .label l k
 | .scope c, k => .scope (xOf P c .nil) (yr P c .nil .nil) k
 | .rangeFunc f ps x y, k => .range f ps.toList x y k
 | .refuse _, _ => .bad
def yr (P : Program) : Code → X → X → X
 | .seq x y, k, acc => yr P x (xOf P y k) (yr P y k acc)
 | .label l, k, acc => .lcons l k acc
 | _, _, acc => acc
end
def a1g (l : Nat) : X → Option X
 | .lcons l' x r => if l' = l then some x else a1g l r
 | _ => none
theorem yK (P : Program) (l : Nat) : ∀ (c : Code) (k acc : X), (∀ rest, findLabel c l = some rest → a1g l (yr P c k acc) = some (xOf P rest k)) ∧ (findLabel c l = none → a1g l (yr P c k acc) = a1g l acc)
 | .seq x y, k, acc => by
  have hx := yK P l x (xOf P y k) (yr P y k acc)
  have hy := yK P l y k acc
  unfold findLabel yr
  cases hf : findLabel x l with
  | some r =>
   refine ⟨fun rest e => ?_, fun e => (by cases e)⟩
   simp only [Option.some.injEq] at e
   subst e
   rw [hx.1 r hf]
   exact congrArg some (by simp only [xOf])
  | none => exact ⟨fun rest e => (hx.2 hf).trans (hy.1 rest e), fun e => (hx.2 hf).trans (hy.2 e)⟩
 | .label l', k, acc => by
  unfold findLabel yr
  simp only [a1g]
  by_cases h : l' = l
  ·subst h
   refine ⟨fun rest e => ?_, fun e => ?_⟩
   ·simp at e; subst e; simp [xOf]
   ·simp at e
  ·rw [if_neg h, if_neg (by simpa using h)]
   exact ⟨fun _ e => (by cases e), fun _ => rfl⟩
 | .skip, _, _ => ⟨fun _ e => (by cases e), fun _ => (by unfold yr; rfl)⟩
 | .region _ _ _, _, _ => ⟨fun _ e => (by cases e), fun _ => (by unfold yr; rfl)⟩
 | .cond _ _ _, _, _ => ⟨fun _ e => (by cases e), fun _ => (by unfold yr; rfl)⟩
 | .block _ _, _, _ => ⟨fun _ e => (by cases e), fun _ => (by unfold yr; rfl)⟩
 | .loop _, _, _ => ⟨fun _ e => (by cases e), fun _ => (by unfold yr; rfl)⟩
 | .exit _, _, _ => ⟨fun _ e => (by cases e), fun _ => (by unfold yr; rfl)⟩
 | .ret, _, _ => ⟨fun _ e => (by cases e), fun _ => (by unfold yr; rfl)⟩
 | .goto _, _, _ => ⟨fun _ e => (by cases e), fun _ => (by unfold yr; rfl)⟩
 | .scope _, _, _ => ⟨fun _ e => (by cases e), fun _ => (by unfold yr; rfl)⟩
 | .rangeFunc _ _ _ _, _, _ => ⟨fun _ e => (by cases e), fun _ => (by unfold yr; rfl)⟩
 | .refuse _, _, _ => ⟨fun _ e => (by cases e), fun _ => (by unfold yr; rfl)⟩
def a8S (P : Program) (x : X) (Q : Exit → Frm → Heap → Prop) (a : Frm) (h : Heap) : Prop := ∀ c, xOf P c .nil = x → AWp P (.loop c) Q a h
def acg (P : Program) (x labs : X) (Q : Exit → Frm → Heap → Prop) (a : Frm) (h : Heap) : Prop := ∀ c, xOf P c .nil = x → yr P c .nil .nil = labs → AWp P (.scope c) Q a h
def abM (P : Program) (f : Operand) (ps : List Tmp) (c d : Code) (Q : Exit → Frm → Heap → Prop) (a : Frm) (h : Heap) : Prop :=
 AWp P (.rangeFunc f ps.toArray c d) Q a h
def xWp (P : Program) : X → (Exit → Frm → Heap → Prop) → Frm → Heap → Prop
 | .nil, Q, a, h => Q .normal a h
 | .ret, Q, a, h => Q .ret a h
 | .exit id, Q, a, h => Q (.exit id) a h
 | .goto l, Q, a, h => Q (.goto l) a h
 | .bad, _, _, _ => False
 | .reg L k, Q, a, h => cWp P L (fun a h => xWp P k Q a h) a h
 | .draw L k, Q, a, h => dWp P L (fun a h => xWp P k Q a h) a h
 | .cond c x y k, Q, a, h => wh (a.ev c) (xWp P x (kG (fun a h => xWp P k Q a h) Q) a h) (xWp P y (kG (fun a h => xWp P k Q a h) Q) a h)
 | .block id x k, Q, a, h => xWp P x (jQ id (kG (fun a h => xWp P k Q a h) Q)) a h
 | .loop x k, Q, a, h => a8S P x (kG (fun a h => xWp P k Q a h) Q) a h
 | .lcons _ _ _, _, _, _ => False
 | .scope x labs k, Q, a, h => acg P x labs (kG (fun a h => xWp P k Q a h) Q) a h
 | .label _ k, Q, a, h => xWp P k Q a h
 | .range f ps x y k, Q, a, h => abM P f ps x y (kG (fun a h => xWp P k Q a h) Q) a h
theorem yO (P : Program) : ∀ (c : Code) (k : X) {Q : Exit → Frm → Heap → Prop} {a : Frm} {h : Heap}, xWp P (xOf P c k) Q a h → AWp P c (kG (fun a h => xWp P k Q a h) Q) a h
 | .skip, k, _, _, _, q => aez q
 | .region id ops false, k, _, _, _, q => a1p q
 | .region id ops true, k, _, _, _, q => by
  unfold xOf agQ at q
  split at q
  rename_i T E _
  split at q
  ·rename_i hc
   rw [Bool.and_eq_true] at hc
   exact ad7 hc.1 hc.2 q
  ·exact q.elim
 | .seq x y, k, Q, a, h, q => afg ((yO P x (xOf P y k) q).mono fun e a h r => by
   cases e <;> first | exact yO P y k r | exact r)
 | .cond c x y, k, Q, a, h, q => by
  unfold xOf xWp at q
  cases hc : a.ev c with
  | none => rw [hc] at q; exact q.elim
  | some v =>
   rw [hc] at q
   cases v <;> try (exact q.elim)
   exact aet hc (fun e => (yO P x .nil (q.1 e)).mono fun e a h r => by cases e <;> exact r)
    (fun e => (yO P y .nil (q.2 e)).mono fun e a h r => by cases e <;> exact r)
 | .block id c, k, _, _, _, q => aap ((yO P c .nil q).mono fun e a h r => by cases e <;> exact r)
 | .loop c, k, _, _, _, q => q c rfl
 | .scope c, k, _, _, _, q => q c rfl rfl
 | .rangeFunc f ps x y, k, _, _, _, q => by
  have q' : AWp P (.rangeFunc f ps.toList.toArray x y) _ _ _ := q
  rw [Array.toArray_toList] at q'
  exact q'
 | .exit id, _, _, _, _, q => ad4 q
 | .ret, _, _, _, _, q => afM q
 | .label _, _, _, _, _, q => aaF q
 | .goto l, _, _, _, _, q => adJ q
 | .refuse _, _, _, _, _, q => q.elim
theorem jz {P : Program} {c : Code} {Q : Exit → Frm → Heap → Prop} {a : Frm} {h : Heap} (q : xWp P (xOf P c .nil) Q a h) : AWp P c Q a h :=
 (yO P c .nil q).mono fun e a h r => by cases e <;> exact r
inductive Fx where
 | k (x : X)
 | block (id : Nat)
 | loop (K : Frm → Heap → Prop)
 | scope (J : Nat → Frm → Heap → Prop)
def scQ (J : Nat → Frm → Heap → Prop) (Q : Exit → Frm → Heap → Prop) : Exit → Frm → Heap → Prop
 | .goto l, a, h => J l a h
 | e, a, h => Q e a h
def sx (P : Program) : List Fx → (Exit → Frm → Heap → Prop) → Exit → Frm → Heap → Prop
 | [], Q => Q
 | .k y :: s, Q => kG (fun a h => xWp P y (sx P s Q) a h) (sx P s Q)
 | .block id :: s, Q => jQ id (sx P s Q)
 | .loop K :: s, Q => kG K (sx P s Q)
 | .scope J :: s, Q => scQ J (sx P s Q)
def a09 (P : Program) (x : X) (Q : Exit → Frm → Heap → Prop) (a : Frm) (h : Heap) : Prop := xWp P x Q a h
section
variable (P : Program) (s : List Fx) (Q : Exit → Frm → Heap → Prop) (a : Frm) (h : Heap)
theorem ah4 (e : Exit) : sx P [] Q e a h = Q e a h := rfl
theorem aj4 (y : X) : sx P (.k y :: s) Q .normal a h = xWp P y (sx P s Q) a h := rfl
theorem a9w (y : X) (id : Nat) : sx P (.k y :: s) Q (.exit id) a h = sx P s Q (.exit id) a h := rfl
theorem aa4 (y : X) (l : Nat) : sx P (.k y :: s) Q (.goto l) a h = sx P s Q (.goto l) a h := rfl
theorem adN (id : Nat) : sx P (.block id :: s) Q .normal a h = sx P s Q .normal a h := rfl
theorem Uf (id id' : Nat) : sx P (.block id :: s) Q (.exit id') a h = if id' = id then sx P s Q .normal a h else sx P s Q (.exit id') a h := rfl
theorem uI (id l : Nat) : sx P (.block id :: s) Q (.goto l) a h = sx P s Q (.goto l) a h := rfl
theorem aeG (K : Frm → Heap → Prop) : sx P (.loop K :: s) Q .normal a h = K a h := rfl
theorem a28 (K : Frm → Heap → Prop) (id : Nat) : sx P (.loop K :: s) Q (.exit id) a h = sx P s Q (.exit id) a h := rfl
theorem a0L (K : Frm → Heap → Prop) (l : Nat) : sx P (.loop K :: s) Q (.goto l) a h = sx P s Q (.goto l) a h := rfl
theorem Xi : ∀ s, sx P s Q .ret a h = Q .ret a h
 | [] => rfl
 | .k _ :: s => Xi s
 | .block _ :: s => Xi s
 | .loop _ :: s => Xi s
 | .scope _ :: s => Xi s
theorem acv (J : Nat → Frm → Heap → Prop) : sx P (.scope J :: s) Q .normal a h = sx P s Q .normal a h := rfl
theorem uY (J : Nat → Frm → Heap → Prop) (id : Nat) : sx P (.scope J :: s) Q (.exit id) a h = sx P s Q (.exit id) a h := rfl
theorem Uu (J : Nat → Frm → Heap → Prop) (l : Nat) : sx P (.scope J :: s) Q (.goto l) a h = J l a h := rfl
theorem aih : xWp P .nil (sx P s Q) a h = sx P s Q .normal a h := rfl
theorem aiM : xWp P .ret (sx P s Q) a h = sx P s Q .ret a h := rfl
theorem ahq (id : Nat) : xWp P (.exit id) (sx P s Q) a h = sx P s Q (.exit id) a h := rfl
theorem ahi (l : Nat) : xWp P (.goto l) (sx P s Q) a h = sx P s Q (.goto l) a h := rfl
theorem aiD (L : List C) (k : X) : xWp P (.reg L k) (sx P s Q) a h = cWp P L (sx P (.k k :: s) Q .normal) a h := rfl
theorem ahj (L : List (C × List C)) (k : X) : xWp P (.draw L k) (sx P s Q) a h = dWp P L (sx P (.k k :: s) Q .normal) a h := rfl
theorem ahC (c : Operand) (x y k : X) : xWp P (.cond c x y k) (sx P s Q) a h = wh (a.ev c) (a09 P x (sx P (.k k :: s) Q) a h) (a09 P y (sx P (.k k :: s) Q) a h) := rfl
theorem aff (id : Nat) (x k : X) : xWp P (.block id x k) (sx P s Q) a h = xWp P x (sx P (.block id :: .k k :: s) Q) a h := rfl
theorem ahw (x k : X) : xWp P (.loop x k) (sx P s Q) a h = a8S P x (sx P (.k k :: s) Q) a h := rfl
theorem agF (x labs k : X) : xWp P (.scope x labs k) (sx P s Q) a h = acg P x labs (sx P (.k k :: s) Q) a h := rfl
theorem afj (l : Nat) (k : X) : xWp P (.label l k) (sx P s Q) a h = xWp P k (sx P s Q) a h := rfl
theorem af5 (f : Operand) (ps : List Tmp) (x y : Code) (k : X) : xWp P (.range f ps x y k) (sx P s Q) a h = abM P f ps x y (sx P (.k k :: s) Q) a h := rfl
theorem a36 (x : X) (R : Exit → Frm → Heap → Prop) (B : Prop) : wh (some (.bool true)) (a09 P x R a h) B = xWp P x R a h := by simp [wh, a09]
theorem a0K (x : X) (R : Exit → Frm → Heap → Prop) (A : Prop) : wh (some (.bool false)) A (a09 P x R a h) = xWp P x R a h := by simp [wh, a09]
end
attribute [go_sem ↓] ah4 aj4 a9w aa4 adN Uf uI aeG a28 a0L acv uY Uu Xi
 aih aiM ahq ahi aiD ahj ahC aff ahw agF afj af5 a36 a0K
open Go.RowKit
section
variable {P : Program} {t e : TypeId}
theorem ac8 (hu : P.underlying t = some (.slice e)) (a : Addr) (n c : Nat) : qZ P .eql t (.slice (some a) n c) (.slice none 0 0) = some (.bool false) := by simp [qZ, eqV, hu]
theorem adU (hu : P.underlying t = some (.slice e)) (a : Addr) (n c : Nat) : qZ P .neq t (.slice (some a) n c) (.slice none 0 0) = some (.bool true) := by simp [qZ, eqV, hu]
theorem a4N (hu : P.underlying t = some (.slice e)) : qZ P .eql t (.slice none 0 0) (.slice none 0 0) = some (.bool true) := by simp [qZ, eqV, hu]
theorem a38 (hu : P.underlying t = some (.slice e)) : qZ P .neq t (.slice none 0 0) (.slice none 0 0) = some (.bool false) := by simp [qZ, eqV, hu]
end
theorem Heap.ext'' {h h' : Heap} (hn : h.next = h'.next) (hg : ∀ b, h.get b = h'.get b) : h = h' := by
 cases h; cases h'
 simp only at hn hg
 subst hn
 have := funext hg
 subst this
 rfl
open Go.RowKit
theorem a4j {P : Program} {b : Frame} {a : Act} {k : List Item} {cs : List Frame} {w : World} {c : Code} : step P (lone (b.atR a (.code (.scope c) :: k)) cs w) = .next (lone (b.atR a (.code c :: .inScope c :: k)) cs w) :=
 step_lone_go (by simp [stepG, stepG.exec, Frame.atR])
theorem Ur {P : Program} {b : Frame} {a : Act} {k : List Item} {cs : List Frame} {w : World} {c : Code} : step P (lone (b.atR a (.inScope c :: k)) cs w) = .next (lone (b.atR a k) cs w) :=
 step_lone_go (by simp [stepG, stepG.exec, Frame.atR])
def SWp (P : Program) (c r : Code) (Q : Exit → Frm → Heap → Prop) (a : Frm) (h : Heap) : Prop := ait P [.code r, .inScope c] Q a h
def goQ (P : Program) (c : Code) (Q : Exit → Frm → Heap → Prop) : Exit → Frm → Heap → Prop
 | .goto l, a, h => ∃ rest, findLabel c l = some rest ∧ SWp P c rest Q a h
 | e, a, h => Q e a h
theorem YV {P : Program} {c r : Code} {Q : Exit → Frm → Heap → Prop} {a : Frm} {h : Heap} (hc : AWp P r (goQ P c Q) a h) : SWp P c r Q a h := by
 intro ro D β m w ha hr ok b k cs hb
 obtain ⟨e, m1, w1, ⟨a1, h1, β1, D1, ra, rr, st, q⟩, harr⟩ := hc ro D β m w ha hr ok b (.inScope c :: k) cs hb trivial (a8G _ _)
 cases e with
 | normal => exact ⟨.normal, m1, w1, ⟨a1, h1, β1, D1, ra, rr, st, q⟩, StepsIn.trans harr (.one (Jd _ _ _) Ur)⟩
 | exit id => exact ⟨.exit id, m1, w1, ⟨a1, h1, β1, D1, ra, rr, st, q⟩, fun k' hk => harr.1 k' (by simp [exitTo, hk]), fun hr hk => harr.2 hr (by simp [exitTo, hk])⟩
 | goto l =>
  obtain ⟨rest, hf, q⟩ := q
  have hg : gotoIn l (.inScope c :: k) = some (.code rest :: .inScope c :: k) := by simp [gotoIn, hf]
  obtain ⟨e2, m2, w2, x2, harr2⟩ := q ro D1 β1 m1 w1 ra rr (ok.step st.st) b k cs hb
  exact ⟨e2, m2, w2, x2.trans hr rr st, .of_steps (harr.1 _ hg) harr2⟩
 | ret => exact ⟨_, m1, w1, ⟨a1, h1, β1, D1, ra, rr, st, q⟩, harr⟩
 | panic ch => exact ⟨_, m1, w1, ⟨a1, h1, β1, D1, ra, rr, st, q⟩, harr⟩
 | outgrown => exact ⟨_, m1, w1, ⟨a1, h1, β1, D1, ra, rr, st, q⟩, harr⟩
theorem UM {P : Program} {c : Code} {Q : Exit → Frm → Heap → Prop} {a : Frm} {h : Heap} (hc : SWp P c c Q a h) : AWp P (.scope c) Q a h := by
 intro ro D β m w ha hr ok b k cs hb _ _
 obtain ⟨e, m', w', hq, harr⟩ := hc ro D β m w ha hr ok b k cs hb
 exact ⟨e, m', w', hq, .of_steps (.one (Jd _ _ _) a4j) harr⟩
theorem uy (w : Bool) : VG (some undef) w = some false := rfl
attribute [push_cast] uy
set_option maxHeartbeats 800000
open Go.RowKit
def a0n (ps : List Tmp) (vs : List Value) (a : Frm) : Frm := (ps.zip vs).foldl (fun a p => a.put (some p.1) p.2) a
theorem ARel.puts {D : List Deferred} {β : Place} : ∀ (ps : List Tmp) {vs ms : List Value} {a : Frm} {m : Act}, ARel D β a m → VRels β vs ms →
  ARel D β (a0n ps vs a) { tmps := (ps.zip ms).foldl (fun t p => t.setIfInBounds p.1 p.2) m.tmps, defers := m.defers }
 | [], _, _, a, m, ha, _ => by simpa [a0n] using ha
 | t :: ps, _, _, a, m, ha, .nil => by simpa [a0n] using ha
 | t :: ps, _, _, a, m, ha, .cons hv hvs => ARel.puts ps (ha.put hv (some t)) hvs
def acF (l : Nat) (K : Value → Heap → Prop) : Exit → Frm → Heap → Prop := fun e _ h =>
 match h.get l with
 | some (.loop _ _ n sl ps x y) => match e with
  | .normal => K (.bool true) (h.set l (.loop .ready none n sl ps x y))
  | .ret => K (.bool false) (h.set l (.loop .done (some .ret) n sl ps x y))
  | .exit id => K (.bool false) (h.set l (.loop .done (some (.exit id)) n sl ps x y))
  | .goto t => K (.bool false) (h.set l (.loop .done (some (.goto t)) n sl ps x y))
  | _ => False
 | _ => False
def abP (P : Program) (l : Nat) (c : Code) (K : Value → Heap → Prop) : Exit → Frm → Heap → Prop := fun e a h =>
 match e, h.get l with
 | .normal, some (.loop .ready pend n sl ps x y) => AWp P c (acF l K) a (h.set l (.loop .busy pend n sl ps x y))
 | _, _ => False
theorem Rel.loop_set {P : Program} {β : Place} {h : Heap} {w : World} {l m n : Nat} {s : Sh} {st st' : LoopState} {pend pend' : Option Code} {sl : List (Nat × Value)} {ps : List Tmp} {x y : Code} (hr : Rel P β h w) (hb : β l = some (m, s)) (hg : h.get l = some (.loop st pend n sl ps x y))
  {r : Loop} (hw : w.heap[m]? = some (.loop r)) : r.state = st ∧ r.pending = pend ∧ Rel P β (h.set l (.loop st' pend' n sl ps x y)) (w.putObj m (.loop { r with state := st', pending := pend' })) ∧ Step β h w β (h.set l (.loop st' pend' n sl ps x y)) (w.putObj m (.loop { r with state := st', pending := pend' })) := by
 obtain ⟨h0, fn, tm, d, hw', hs, hsl⟩ := hr.obj l m s _ hb hg
 rw [hw] at hw'
 simp only [Option.some.injEq, Obj.loop.injEq] at hw'
 subst hw'
 refine ⟨rfl, rfl, ?_⟩
 have hlt := (hr.dom l m s hb).2
 exact hr.update (w' := w.putObj m _) (o' := .loop st' pend' n sl ps x y) hb hg rfl rfl (World.putObj_size) (fun k hk => World.putObj_heap_other hk) rfl rfl rfl
  ⟨h0, fn, tm, d, World.putObj_heap_same hlt, hs, hsl⟩
theorem a19 {P : Program} {l n : Nat} {st : LoopState} {pend : Option Code} {sl : List (Nat × Value)} {ps : List Tmp} {x y : Code} {vs : List Value} {h : Heap} {K : Value → Heap → Prop} (hg : h.get l = some (.loop st pend n sl ps x y)) (hl : vs.length = ps.length)
  (hx : AWp P x (abP P l y K) (a0n ps vs ⟨n, sl⟩) h) : AYield P l vs h K := by
 intro β m s w ms hb hv hr
 obtain ⟨h0, fn, tm, d, hw, hsz, hsl⟩ := hr.obj l m s _ hb hg
 have hlen := hv.length
 refine ⟨fn, _, x, y, run_yield hw (by simp [← hlen, hl]), ?_⟩
 have ha : ARel [] β (a0n ps vs ⟨n, sl⟩) { tmps := (ps.zip ms).foldl (fun t p => t.setIfInBounds p.1 p.2) tm, defers := [] } :=
  ARel.puts (m := { tmps := tm, defers := [] }) ps ⟨rfl, hsz, hsl⟩ hv
 have htm : (ps.zip ms).foldl (fun t p => t.setIfInBounds p.1 p.2) tm = (ps.toArray.zip ms.toArray).foldl (fun tmps (t, a) => tmps.setIfInBounds t a) tm := by
  rw [← Array.foldl_toList, Array.toList_zip]
 rw [htm] at ha
 refine roundIn_of_wpIn (F := Fence.wide) trivial (wpIn_mono (hx (some m) [] β _ w ha hr (fun l e => by cases e; exact ⟨_, hw⟩)) ?_)
 rintro e m1 w1 ⟨a1, h1, β1, D1, ra, rr, g, q⟩
 unfold abP at q
 split at q
 ·rename_i pend1 n1 sl1 ps1 x1 y1 hg1
  have hb1 := g.st.place l _ hb
  obtain ⟨_, fn1, tm1, d1, hw1, _⟩ := rr.obj l m s _ hb1 hg1
  refine ⟨_, run_beginRound hw1 rfl, ?_⟩
  obtain ⟨_, _, rr2, st2⟩ := rr.loop_set (st' := .busy) (pend' := pend1) hb1 hg1 hw1
  refine wpIn_mono (q (some m) D1 β1 m1 _ ra rr2 (fun l e => by cases e; exact st2.loops m _ hw1)) ?_
  rintro e m3 w3 ⟨a3, h3, β3, D3, ra3, rr3, g3, q3⟩
  unfold acF at q3
  split at q3
  ·rename_i st4 pend4 n4 sl4 ps4 x4 y4 hg3
   have hb3 := g3.st.place l _ hb1
   obtain ⟨_, fn3, tm3, d3, hw3, _⟩ := rr3.obj l m s _ hb3 hg3
   have fin : ∀ jump : Option Code, K (.bool jump.isNone) (h3.set l (.loop (if jump.isNone then .ready else .done) jump n4 sl4 ps4 x4 y4)) →
     ∃ v w', (Instr.endRound m jump).run P w3 = .ok v w' ∧ ∃ mv, Ending.returned v = .returned mv ∧ ∃ v h' β', VRel β' v mv ∧ Rel P β' h' w' ∧ Step β h w β' h' w' ∧ K v h' := by
    intro jump hk
    obtain ⟨_, _, rr5, st5⟩ := rr3.loop_set (st' := if jump.isNone then .ready else .done) (pend' := jump) hb3 hg3 hw3
    exact ⟨_, _, run_endRound jump hw3, _, rfl, _, _, β3, .bool _, rr5, ((g.st.trans hr st2).trans hr g3.st).trans hr st5, hk⟩
   cases e with
   | normal => exact fin none q3
   | ret => exact fin (some .ret) q3
   | exit id => exact fin (some (.exit id)) q3
   | goto t => exact fin (some (.goto t)) q3
   | panic c => exact q3.elim
   | outgrown => exact q3.elim
  ·exact q3.elim
 ·exact q.elim
def afh (l : Nat) (Q : Exit → Frm → Heap → Prop) (a : Frm) (h : Heap) : Prop :=
 match h.get l with
 | some (.loop st pend n sl ps x y) => st ≠ .busy ∧ match pend with
  | none => Q .normal a (h.set l (.loop .exhausted pend n sl ps x y))
  | some .ret => Q .ret a (h.set l (.loop .exhausted pend n sl ps x y))
  | some (.exit id) => Q (.exit id) a (h.set l (.loop .exhausted pend n sl ps x y))
  | some (.goto t) => Q (.goto t) a (h.set l (.loop .exhausted pend n sl ps x y))
  | _ => False
 | _ => False
theorem Rel.alloc_beside {P : Program} {β : Place} {h : Heap} {w : World} (hr : Rel P β h w) (o : Obj) : Rel P β h (w.alloc o) ∧ Step β h w β h (w.alloc o) := by
 have hh : (w.alloc o).heap = w.heap.push o := rfl
 have old : ∀ m, m < w.heap.size → (w.alloc o).heap[m]? = w.heap[m]? := fun m hm => by rw [hh, Array.getElem?_push, if_neg (by omega)]
 refine ⟨⟨fun b m s e => ?_, fun b m s q e g => (hr.obj b m s q e g).mono (fun _ _ e => e) (old m (hr.dom b m s e).2), hr.inj⟩, ?_⟩
 ·obtain ⟨h1, h2⟩ := hr.dom b m s e
  exact ⟨h1, by rw [hh]; simp; omega⟩
 ·exact ⟨fun _ _ e => e, fun _ _ e => ⟨e, rfl⟩, Nat.le_refl _, fun _ o' _ e => ⟨o', e, id⟩, fun _ _ _ e e' => by simp [e] at e', rfl, rfl, rfl, by rw [hh]; simp, fun m hm _ => old m hm,
   fun m r e => ⟨r, by rw [old m (Array.getElem?_eq_some_iff.1 e).1]; exact e⟩⟩
theorem a7A {P : Program} {ro : Option Nat} {D : List Deferred} {β : Place} {h : Heap} {w : World} (hr : Rel P β h w) (ok : RoOk ro w) (fn : FuncId) (tmps : Array Value) (ps : Array Tmp) (x y : Code) :
  ∃ (mark : List Deferred) (w0 : World) (d : Nat), (Instr.enterLoop fn tmps ps x y ro).run P w = .ok (w0.heap.size, mark) (w0.alloc (.loop { state := .ready, pending := none, fn, tmps, params := ps, assign := x, body := y, defers := d })) ∧
   Rel P β h w0 ∧ Gone D β h w (mark ++ D) β h w0 := by
 cases ro with
 | none =>
  refine ⟨_, w.alloc (.deferred (some [])), w.heap.size, ?_, (hr.alloc_beside _).1, (hr.alloc_beside _).2, [w.heap.size], rfl, by simp, fun z hz => ?_⟩
  ·rw [run_enterLoop_outer, World.size_alloc]; rfl
  ·rw [List.mem_singleton.1 hz]
   exact ⟨Nat.le_refl _, World.alloc_heap_new w _⟩
 | some l =>
  obtain ⟨r, hw⟩ := ok l rfl
  refine ⟨[], w, r.defers, ?_, hr, Gone.refl _ _ _ _⟩
  unfold Instr.enterLoop
  simp only [Sem.run_bind, run_getLoop hw, Result.andThen_ok, Sem.run_pure, run_newObj_alloc]
theorem a6y {ro : Option Nat} {n : Nat} {P : Program} {f : FuncId} {args : Array Value} {w : World} {R : Ending → World → Prop} (h : Calls P f args w R) : CallsIn (wd ro) n P f args w R := callsIn_wide (n := n).2 h
theorem ahD {P : Program} {f : Operand} {ps : List Tmp} {x y : Code} {Q : Exit → Frm → Heap → Prop} {a : Frm} {h : Heap} {k : FuncId} {first cap : Array Value} (hf : a.ev f = some (.func (.func k) first cap))
  (hc : ACalls P k (first.toList ++ [.func (.yield h.next) #[] #[]] ++ cap.toList) (h.push (.loop .ready none a.n a.l ps x y)) (fun _ h' => afh h.next Q a h')) : AWp P (.rangeFunc f ps.toArray x y) Q a h := by
 intro ro D β m w ha hr ok
 refine wpIn_rangeFunc fun fn _ => ?_
 obtain ⟨mark, w0, d, he, hr0, g0⟩ := a7A (D := D) hr ok fn m.tmps ps.toArray x y
 obtain ⟨first', cap', hm, r1, r2⟩ := (VRel.func_iff rfl).1 (ha.rho _ _ hf)
 have hmono := Place.add_mono w0.heap.size ⟨0, 0, 0⟩ hr0.noNext
 obtain ⟨hr1, st1⟩ := hr0.alloc (s := ⟨0, 0, 0⟩) (w' := w0.alloc (.loop { state := .ready, pending := none, fn, tmps := m.tmps, params := ps.toArray, assign := x, body := y, defers := d })) (o := .loop .ready none a.n a.l ps x y) rfl rfl rfl rfl
  ⟨rfl, fn, m.tmps, d, World.alloc_heap_new w0 _, ha.size, fun t v e => let ⟨mv, e1, r⟩ := ha.rel t v e; ⟨mv, e1, r.mono hmono⟩⟩
 obtain ⟨⟨gn, hgn, hbn, hname⟩, hcall⟩ := hc
 have hyield : VRel (β.add h.next w0.heap.size ⟨0, 0, 0⟩) (.func (.yield h.next) #[] #[]) (.func (.yield w0.heap.size) #[] #[]) := .yield (Place.add_same _ _ _ _)
 generalize w0.alloc (.loop { state := .ready, pending := none, fn, tmps := m.tmps, params := ps.toArray, assign := x, body := y, defers := d }) = w1 at he hr1 st1
 have hcl := hcall _ _ (first'.toList ++ [.func (.yield w0.heap.size) #[] #[]] ++ cap'.toList) (((r1.mono hmono).append (.cons hyield .nil)).append (r2.mono hmono)) hr1
 have hres : (resolve m.eval (rangeCall f w0.heap.size) 0).run P w1 = .ok ⟨.fn (.func k) cap', first' ++ #[Value.func (.yield w0.heap.size) #[] #[]]⟩ w1 := by
  have e2 : (resolve m.eval (rangeCall f w0.heap.size) 0) = Deferred.ofValue (m.eval f) #[Value.func (.yield w0.heap.size) #[] #[]] := by
   simp [resolve, rangeCall, Act.eval]
  rw [e2, hm]
  simp only [Deferred.ofValue, Sem.run_pure]
 have hinv : (invoke (.fn (.func k) cap') (first' ++ #[Value.func (.yield w0.heap.size) #[] #[]])).run P w1 = .ok (.enter k (first'.toList ++ [Value.func (.yield w0.heap.size) #[] #[]] ++ cap'.toList).toArray) w1 := by
  have harr : (first'.toList ++ [Value.func (.yield w0.heap.size) #[] #[]] ++ cap'.toList).toArray = first' ++ #[Value.func (.yield w0.heap.size) #[] #[]] ++ cap' := by apply Array.ext'; simp
  rw [harr]
  simp only [invoke, callFunc, run_program, hgn, hname, hbn, Sem.run_bind, Result.andThen_ok, Bool.false_eq_true, if_false, Sem.run_pure]
 refine ⟨w0.heap.size, mark, w1, _, w1, k, _, w1, he, hres, ?_, hinv, ?_, ?_⟩
 ·exact fun _ _ => trivial
 ·intro hh
  exact absurd hh (by simp [Fence.wide])
 refine a6y (hcl.mono ?_)
 ·rintro e w3 ⟨mv, rfl, v, h3, β3, _, rr3, st3, q⟩
  unfold afh at q
  split at q
  ·rename_i st pend n sl ps' x' y' hg3
   obtain ⟨hne, q⟩ := q
   have hb3 := st3.place _ _ (Place.add_same β h.next w0.heap.size ⟨0, 0, 0⟩)
   obtain ⟨_, fn3, tm3, d3, hw3, _⟩ := rr3.obj _ _ _ _ hb3 hg3
   obtain ⟨_, _, rr4, st4⟩ := rr3.loop_set (st' := .exhausted) (pend' := pend) hb3 hg3 hw3
   have ha3 : ARel (mark ++ D) β3 a { m with defers := mark ++ m.defers } := by
    have := ha.mono (fun b z e => st3.place _ _ (hmono b z e))
    exact ⟨by rw [← ha.defers], this.size, this.rel⟩
   have gg := (g0.trans hr hr0 (.of ((st1.trans hr0 st3).trans hr0 st4)))
   refine ⟨pend, _, run_endLoop hw3 hne, ?_⟩
   cases pend with
   | none => exact ⟨a, _, β3, _, ha3, rr4, gg, q⟩
   | some c =>
    cases c <;> first
     | exact q.elim
     | exact wpIn_ret ⟨a, _, β3, _, ha3, rr4, gg, q⟩
     | exact wpIn_exit ⟨a, _, β3, _, ha3, rr4, gg, q⟩
     | exact wpIn_goto ⟨a, _, β3, _, ha3, rr4, gg, q⟩
  ·exact q.elim
open Go.RowKit
def SlR (h : Heap) (v : Value) (e : TypeId) (xs : List Value) : Prop :=
 (v = .slice none 0 0 ∧ xs = []) ∨ (∃ b o, v = .slice (some ⟨b, o, none⟩) 0 dud ∧ xs = []) ∨ ∃ b o c cs rw, v = .slice (some ⟨b, o, none⟩) xs.length c ∧ h.get b = some (.cells cs e rw) ∧ (cs.drop o).take xs.length = xs ∧ xs.length ≤ maxLen ∧
  (c = qG ∨ (rw = true ∧ (c = unk ∨ (xs.length ≤ c ∧ c ≤ maxLen))))
theorem SlR.at {h : Heap} {v : Value} {e : TypeId} {xs : List Value} (hs : SlR h v e xs) : SlAt h v e xs := by
 rcases hs with hs | hs | ⟨b, o, c, cs, rw, h1, h2, h3, h4, _⟩
 ·exact .inl hs
 ·exact .inr (.inl hs)
 ·exact .inr (.inr ⟨b, o, c, cs, rw, h1, h2, h3, h4⟩)
theorem SlR.ext {h h' : Heap} {v : Value} {e : TypeId} {xs : List Value} (hs : SlR h v e xs) (hx : ∀ b, a2s v = some b → h'.get b = h.get b) : SlR h' v e xs := by
 rcases hs with hs | hs | ⟨b, o, c, cs, rw, h1, h2, h3⟩
 ·exact .inl hs
 ·exact .inr (.inl hs)
 ·exact .inr (.inr ⟨b, o, c, cs, rw, h1, (hx b (by rw [h1]; rfl)).trans h2, h3⟩)
theorem SlR.of_get {h h' : Heap} {v : Value} {e : TypeId} {xs : List Value} (hs : SlR h v e xs) (hx : ∀ b, b < h.next → h'.get b = h.get b) : SlR h' v e xs := by
 rcases hs with hs | hs | ⟨b, o, c, cs, rw, h1, h2, h3⟩
 ·exact .inl hs
 ·exact .inr (.inl hs)
 ·exact .inr (.inr ⟨b, o, c, cs, rw, h1, (hx b (h.wf _ _ h2)).trans h2, h3⟩)
theorem SlR.part {P : Program} {h : Heap} {v : Value} {e t : TypeId} {xs : List Value} {lo hi : Option Value} {l r : Nat} (hs : SlR h v e xs) (hu : P.underlying t = some (.slice e)) (hz : szT P e = some 1)
  (hb : ∀ c, xs.length ≤ c → qE xs.length c lo hi none = some (l, r, none)) (hl : l ≤ r) (hr : r ≤ xs.length) :
  ∃ v', z9 P (qV P h) t v lo hi none = some v' ∧ SlR h v' e ((xs.drop l).take (r - l)) ∧ (a2s v' = a2s v) := by
 rcases hs with ⟨rfl, rfl⟩ | ⟨b, o, rfl, rfl⟩ | ⟨b, o, c, cs, rw, rfl, hg, ht, hm, hc⟩
 ·have := hb 0 (by simp)
  refine ⟨.slice none 0 0, ?_, .inl ⟨rfl, by simp⟩, rfl⟩
  unfold z9
  simp only [hu, hz]
  rw [show ([] : List Value).length = 0 from rfl] at this
  rw [this]
 ·have := hb 0 (by simp)
  refine ⟨.slice (some ⟨b, o, none⟩) 0 dud, ?_, .inr (.inl ⟨b, o, rfl, by simp⟩), rfl⟩
  unfold z9
  simp only [hu, hz]
  rw [show qP 0 dud = 0 from by decide]
  rw [show ([] : List Value).length = 0 from rfl] at this
  rw [this]
  simp
 ·have hdu : dud > maxLen := by decide
  have hun : unk > maxLen := by decide
  have hno : qG > maxLen := by decide
  have hnu : qG ≠ unk := by decide
  have hud : unk ≠ dud := by decide
  have hnd : qG ≠ dud := by decide
  have hcap : xs.length ≤ qP xs.length c := by
   unfold qP
   rcases hc with rfl | ⟨_, rfl | ⟨h1, h2⟩⟩
   ·rw [if_neg hnu, if_pos rfl]; exact Nat.le_refl _
   ·rw [if_pos rfl]; exact Nat.le_refl _
   ·rw [if_neg (by omega), if_neg (by omega), if_neg (by omega)]; exact h1
  have hbd := hb _ hcap
  have hlen : ((xs.drop l).take (r - l)).length = r - l := by simp; omega
  have hpart : (cs.drop (o + l)).take (r - l) = (xs.drop l).take (r - l) := by
   rw [← ht]
   rw [List.drop_take, List.take_take, List.drop_drop]
   congr 1
   omega
  have hE : qV P h b = if rw then some 1 else none := by
   unfold qV
   rw [hg]
   cases rw
   ·rfl
   ·simpa using hz
  unfold z9
  simp only [hu, hz, hbd, Nat.mul_one]
  have nodud : c ≠ dud := by
   rcases hc with rfl | ⟨_, rfl | ⟨_, h3⟩⟩
   ·exact hnd
   ·exact hud
   ·omega
  rw [if_neg nodud]
  have hE2 : ¬ (c ≠ qG ∧ ¬ (xs.length = 0 ∧ c = 0) ∧ qV P h b ≠ some 1) := by
   rintro ⟨h1, _, h2⟩
   rcases hc with rfl | ⟨rfl, _⟩
   ·exact h1 rfl
   ·rw [hE] at h2; exact h2 rfl
  rw [if_neg hE2]
  by_cases hcu : c = unk ∨ c = qG
  ·rw [if_pos hcu]
   by_cases hlt : l < xs.length
   ·rw [if_pos hlt]
    refine ⟨_, rfl, .inr (.inr ⟨b, o + l, c, cs, rw, by rw [hlen], hg, by rw [hlen]; exact hpart, by rw [hlen]; omega, ?_⟩), rfl⟩
    rcases hc with rfl | ⟨h1, rfl | ⟨h2, h3⟩⟩
    ·exact .inl rfl
    ·exact .inr ⟨h1, .inl rfl⟩
    ·rcases hcu with h | h <;> omega
   ·rw [if_neg hlt]
    refine ⟨_, rfl, .inr (.inl ⟨b, o, ?_, ?_⟩), rfl⟩
    ·rfl
    ·rw [List.drop_eq_nil_of_le (by omega)]; simp
  ·rw [if_neg hcu]
   obtain ⟨h1, h4, h5⟩ : rw = true ∧ xs.length ≤ c ∧ c ≤ maxLen := by
    rcases hc with rfl | ⟨k1, rfl | k2⟩
    ·exact absurd (.inr rfl) hcu
    ·exact absurd (.inl rfl) hcu
    ·exact ⟨k1, k2⟩
   by_cases hcl : c = l
   ·rw [if_pos hcl]
    have h0 : (xs.drop l).take (r - l) = [] := by rw [List.drop_eq_nil_of_le (by omega)]; simp
    rw [h0]
    refine ⟨_, rfl, .inr (.inr ⟨b, o, 0, cs, rw, ?_, hg, rfl, Nat.zero_le _, .inr ⟨h1, .inr ⟨Nat.le_refl _, Nat.zero_le _⟩⟩⟩), rfl⟩
    rw [show r - l = 0 by omega]; rfl
   ·rw [if_neg hcl]
    refine ⟨_, rfl, .inr (.inr ⟨b, o + l, c - l, cs, rw, by rw [hlen], hg, by rw [hlen]; exact hpart, by rw [hlen]; omega, .inr ⟨h1, .inr ⟨by rw [hlen]; omega, by omega⟩⟩⟩), rfl⟩
theorem Heap.set_set (h : Heap) (b : Nat) (o o' : AObj) : (h.set b o).set b o' = h.set b o' := by
 refine Heap.ext'' rfl fun c => ?_
 by_cases hc : c = b
 ·subst hc
  simp only [Heap.get_set, if_true]
  cases h.get c <;> rfl
 ·simp only [Heap.get_set, if_neg hc]
theorem SlR.set {h : Heap} {v : Value} {e e' : TypeId} {xs cs : List Value} {r : Nat} {w : Bool} {o : AObj} (hs : SlR h v e xs) (hr : h.get r = some (.cells cs e' w)) (hne : e' ≠ e) : SlR (h.set r o) v e xs := by
 rcases hs with hs | hs | ⟨b, o', c, cs', rw, h1, h2, h3⟩
 ·exact .inl hs
 ·exact .inr (.inl hs)
 ·refine .inr (.inr ⟨b, o', c, cs', rw, h1, ?_, h3⟩)
  rw [Heap.get_set_ne _ _ (by rintro rfl; rw [h2] at hr; cases hr; exact hne rfl)]
  exact h2
open Go.RowKit
def SlZ (z : Nat) (h : Heap) (v : Value) (e : TypeId) (ys : List (List Value)) : Prop :=
 (v = .slice none 0 0 ∧ ys = []) ∨ (∃ b o, v = .slice (some ⟨b, o, none⟩) 0 dud ∧ ys = []) ∨ ∃ b o c cs rw, v = .slice (some ⟨b, o, none⟩) ys.length c ∧ h.get b = some (.cells cs e rw) ∧ (cs.drop o).take (ys.length * z) = ys.flatten ∧ (∀ y ∈ ys, y.length = z) ∧ ys.length ≤ maxLen
def OwnZ (z : Nat) (h₀ h : Heap) (v : Value) (e : TypeId) (ys : List (List Value)) : Prop :=
 (v = .slice none 0 0 ∧ ys = []) ∨ ∃ b o c cs, v = .slice (some ⟨b, o, none⟩) ys.length c ∧ c ≠ dud ∧ (c ≠ qG ∧ (c = unk ∨ (ys.length ≤ c ∧ c ≤ maxLen))) ∧ h₀.next ≤ b ∧ h.get b = some (.cells cs e true) ∧ (cs.drop o).take (ys.length * z) = ys.flatten ∧ (∀ y ∈ ys, y.length = z) ∧ ys.length ≤ maxLen ∧ o + ys.length * z ≤ cs.length
section
variable {z : Nat} {h₀ h h' : Heap} {v : Value} {e : TypeId} {ys : List (List Value)}
theorem OwnZ.at (hs : OwnZ z h₀ h v e ys) : SlZ z h v e ys := by
 rcases hs with hs | ⟨b, o, c, cs, h1, _, _, _, h2, h3, h4, h5, _⟩
 ·exact .inl hs
 ·exact .inr (.inr ⟨b, o, c, cs, true, h1, h2, h3, h4, h5⟩)
theorem SlZ.of_get (hs : SlZ z h v e ys) (hx : ∀ b cs rw, h.get b = some (.cells cs e rw) → h'.get b = h.get b) : SlZ z h' v e ys := by
 rcases hs with hs | hs | ⟨b, o, c, cs, rw, h1, h2, h3⟩
 ·exact .inl hs
 ·exact .inr (.inl hs)
 ·exact .inr (.inr ⟨b, o, c, cs, rw, h1, (hx b cs rw h2).trans h2, h3⟩)
theorem OwnZ.of_get (hs : OwnZ z h₀ h v e ys) (hx : ∀ b cs rw, h.get b = some (.cells cs e rw) → h'.get b = h.get b) : OwnZ z h₀ h' v e ys := by
 rcases hs with hs | ⟨b, o, c, cs, h1, h2, h3, h4, h5, h6⟩
 ·exact .inl hs
 ·exact .inr ⟨b, o, c, cs, h1, h2, h3, h4, (hx b cs true h5).trans h5, h6⟩
theorem SlZ.ext (hs : SlZ z h v e ys) (hx : Ext h h') : SlZ z h' v e ys := hs.of_get fun b _ _ hb => hx.get b (h.wf _ _ hb)
theorem OwnZ.ext (hs : OwnZ z h₀ h v e ys) (hx : Ext h h') : OwnZ z h₀ h' v e ys := hs.of_get fun b _ _ hb => hx.get b (h.wf _ _ hb)
end
open Go.RowKit
inductive PV where
 | v (x : Value)
 | sl (z : Nat) (rows : List (List PV))
inductive DV where
 | p (x : PV)
 | ptr (id off : Nat)
 | ep (id i off tot : Nat)
 | dp (row : List PV) (off : Nat)
 | ref (id lo n tot : Nat)
 | aref (id off n : Nat)
 | cx (z : Nat) (rows : List (List PV))
 | mref (id : Nat)
 | fn (f : FuncId) (pre cap : List DV)
 | agg (xs : List DV)
 | tup (xs : List DV)
inductive Obj where
 | st (cells : List DV)
 | li (e : Option TypeId) (rows : List (List PV))
 | fz (e : Option TypeId) (rows : List (List PV))
 | mp (es : List (Value × DV))
 | dead
inductive All2 {α β : Type} (R : α → β → Prop) : List α → List β → Prop
 | nil : All2 R [] []
 | cons {a : α} {b : β} {l : List α} {m : List β} (h : R a b) (t : All2 R l m) : All2 R (a :: l) (b :: m)
namespace All2
variable {α β : Type} {R R' : α → β → Prop}
theorem mono {l : List α} {m : List β} (h : All2 R l m) (hr : ∀ a b, R a b → R' a b) : All2 R' l m := by
 induction h with
 | nil => exact .nil
 | cons h _ ih => exact .cons (hr _ _ h) ih
theorem length {l : List α} {m : List β} (h : All2 R l m) : l.length = m.length := by
 induction h with
 | nil => rfl
 | cons _ _ ih => simp [ih]
theorem get {l : List α} {m : List β} (h : All2 R l m) : ∀ {i : Nat} {a : α}, l[i]? = some a → ∃ b, m[i]? = some b ∧ R a b := by
 induction h with
 | nil => intro i a e; simp at e
 | cons h _ ih =>
  intro i a e
  cases i with
  | zero => simp at e; subst e; exact ⟨_, rfl, h⟩
  | succ i => simp at e; simpa using ih e
theorem get' {l : List α} {m : List β} (h : All2 R l m) : ∀ {i : Nat} {b : β}, m[i]? = some b → ∃ a, l[i]? = some a ∧ R a b := by
 induction h with
 | nil => intro i a e; simp at e
 | cons h _ ih =>
  intro i a e
  cases i with
  | zero => simp at e; subst e; exact ⟨_, rfl, h⟩
  | succ i => simp at e; simpa using ih e
theorem of_get : ∀ {l : List α} {m : List β}, l.length = m.length → (∀ (i : Nat) a b, l[i]? = some a → m[i]? = some b → R a b) → All2 R l m
 | [], [], _, _ => .nil
 | a :: l, b :: m, hl, h => .cons (h 0 a b rfl rfl) (of_get (by simpa using hl) fun i a b ha hb => h (i + 1) a b (by simpa using ha) (by simpa using hb))
 | [], _ :: _, hl, _ => by simp at hl
 | _ :: _, [], hl, _ => by simp at hl
theorem append {l l' : List α} {m m' : List β} (h : All2 R l m) (k : All2 R l' m') : All2 R (l ++ l') (m ++ m') := by
 induction h with
 | nil => exact k
 | cons h _ ih => exact .cons h ih
theorem take {l : List α} {m : List β} (h : All2 R l m) : ∀ n, All2 R (l.take n) (m.take n) := by
 induction h with
 | nil => intro n; simpa using All2.nil
 | cons h _ ih => intro n; cases n with
  | zero => exact .nil
  | succ n => exact .cons h (ih n)
theorem drop {l : List α} {m : List β} (h : All2 R l m) : ∀ n, All2 R (l.drop n) (m.drop n) := by
 induction h with
 | nil => intro n; simpa using All2.nil
 | cons h t ih => intro n; cases n with
  | zero => exact .cons h t
  | succ n => exact ih n
theorem set {l : List α} {m : List β} (h : All2 R l m) {a : α} {b : β} (hv : R a b) : ∀ i, All2 R (l.set i a) (m.set i b) := by
 induction h with
 | nil => intro n; exact .nil
 | cons h t ih => intro n; cases n with
  | zero => exact .cons hv t
  | succ n => exact .cons h (ih n)
end All2
def CapOk (P : Program) (c n : Nat) (rw : Bool) (e : TypeId) (z : Nat) : Prop := c = qG ∨ (rw = true ∧ szT P e = some z ∧ (c = unk ∨ (n ≤ c ∧ c ≤ maxLen)))
theorem CapOk.nodud {P : Program} {c n z : Nat} {rw : Bool} {e : TypeId} (h : CapOk P c n rw e z) : c ≠ dud := by
 have h1 : dud > maxLen := by decide
 have h2 : qG ≠ dud := by decide
 have h3 : unk ≠ dud := by decide
 rcases h with rfl | ⟨_, _, rfl | ⟨_, h⟩⟩
 ·exact h2
 ·exact h3
 ·omega
def scal : Value → Bool
 | .tuple _ => false
 | x => qF x
theorem a8A {x : Value} (h : scal x = true) : qF x = true := by
 unfold scal at h
 split at h
 ·cases h
 ·exact h
theorem acA {x : Value} (h : scal x = true) : x.oneCell' = true := by
 cases x <;> first | rfl | (simp [scal, qF] at h)
inductive PR (P : Program) (S : Nat → Prop) (h : Heap) : PV → Value → Prop
 | v {x : Value} (hx : scal x = true) : PR P S h (.v x) x
 | nil {z : Nat} : PR P S h (.sl z []) (.slice none 0 0)
 | dud {z b o : Nat} : PR P S h (.sl z []) (.slice (some ⟨b, o, none⟩) 0 Sim.dud)
 | zero {z b o : Nat} : PR P S h (.sl z []) (.slice (some ⟨b, o, none⟩) 0 0)
 | sl {rows : List (List PV)} {b o c z : Nat} {cs : List Value} {e : TypeId} {rw : Bool} (hS : S b) (hb : h.get b = some (.cells cs e rw)) (h0 : 0 < z) (hl : o + rows.length * z ≤ cs.length)
   (hz : ∀ (i : Nat) (r : List PV), rows[i]? = some r → r.length = z)
   (hr : ∀ (i : Nat) (r : List PV) (j : Nat) (x : PV) (u : Value), rows[i]? = some r → r[j]? = some x → cs[o + i * z + j]? = some u → PR P S h x u)
   (hc : CapOk P c rows.length rw e z) (hm : rows.length ≤ maxLen) : PR P S h (.sl z rows) (.slice (some ⟨b, o, none⟩) rows.length c)
theorem PR.mono {P : Program} {S S' : Nat → Prop} {h h' : Heap} (hs : ∀ b, S b → S' b ∧ h'.get b = h.get b) {x : PV} {v : Value} (hx : PR P S h x v) : PR P S' h' x v := by
 induction hx with
 | v hx => exact .v hx
 | nil => exact .nil
 | dud => exact .dud
 | zero => exact .zero
 | sl hS hb h0 hl hz _ hc hm ih => exact .sl (hs _ hS).1 ((hs _ hS).2.trans hb) h0 hl hz ih hc hm
theorem PR.one {P : Program} {S : Nat → Prop} {h : Heap} {x : PV} {v : Value} (hx : PR P S h x v) : v.oneCell' = true := by
 cases hx with
 | v hx => exact acA hx
 | nil => rfl
 | dud => rfl
 | zero => rfl
 | sl => rfl
theorem PR.scal {P : Program} {S : Nat → Prop} {h : Heap} {x v : Value} (hx : PR P S h (.v x) v) : v = x := by
 cases hx; rfl
abbrev Pl := Nat → Option (Nat × Nat)
def a6W (v : Value) : Prop := v = .slice none 0 0 ∨ ∃ b o, v = .slice (some ⟨b, o, none⟩) 0 0
def agl (P : Program) (γ : Pl) (z id lo n tot : Nat) (v : Value) : Prop :=
 (a6W v ∧ tot = 0 ∧ γ id = none) ∨ (∃ b o c, v = .slice (some ⟨b, o, none⟩) 0 c ∧ n = 0 ∧ 0 < tot) ∨
 ∃ b o c, γ id = some (b, o) ∧ v = .slice (some ⟨b, o + lo * z, none⟩) n c ∧ c ≠ dud ∧ c ≠ qG ∧ (c = unk ∨ (n ≤ c ∧ c ≤ maxLen))
def CxV (P : Program) (S : Nat → Prop) (h : Heap) (z : Nat) (rows : List (List PV)) (v : Value) : Prop :=
 rows ≠ [] ∧ ((∃ u, v = xX u ∧ u.oneCell' = true ∧ PR P S h (.sl z rows) u) ∨ (∃ b o, v = .slice (some ⟨b, o, none⟩) rows.length rows.length ∧ PR P S h (.sl z rows) v))
theorem CxV.mono {P : Program} {S S' : Nat → Prop} {h h' : Heap} (hs : ∀ b, S b → S' b ∧ h'.get b = h.get b) {z : Nat} {rows : List (List PV)} {v : Value} (hx : CxV P S h z rows v) : CxV P S' h' z rows v := by
 obtain ⟨h0, h1⟩ := hx
 refine ⟨h0, ?_⟩
 rcases h1 with ⟨u, e, h1, h2⟩ | ⟨b, o, e, h2⟩
 ·exact .inl ⟨u, e, h1, h2.mono hs⟩
 ·exact .inr ⟨b, o, e, h2.mono hs⟩
def Obj.isList : Obj → List (List PV) → Prop
 | .li _ r, rows => r = rows
 | .fz _ r, rows => r = rows
 | _, _ => False
def DB (P : Program) (S : Nat → Prop) (γ : Pl) (L : List Obj) (h : Heap) : DV → Value → Prop
 | .p x, v => PR P S h x v
 | .ptr id off, v => ∃ b, γ id = some (b, 0) ∧ (∃ c, L[id]? = some (.st c)) ∧ v = .pointer (some ⟨b, off, none⟩)
 | .ep id i off tot, v => id < L.length ∧ v.oneCell' = true ∧ ∀ o rows, L[id]? = some o → o.isList rows → tot ≤ rows.length ∧ (rows.length = tot → i < tot ∧ ∀ z, (∀ r ∈ rows, r.length = z) → ∃ b o, γ id = some (b, o) ∧ v = .pointer (some ⟨b, o + i * z + off, none⟩))
 | .dp row off, v => ∃ b o cs e rw, S b ∧ h.get b = some (.cells cs e rw) ∧ v = .pointer (some ⟨b, o + off, none⟩) ∧ o + row.length ≤ cs.length ∧ ∀ (j : Nat) (x : PV) (u : Value), row[j]? = some x → cs[o + j]? = some u → PR P S h x u
 | .ref id lo n tot, v => id < L.length ∧ v.oneCell' = true ∧ ∀ o rows, L[id]? = some o → o.isList rows → tot ≤ rows.length ∧ (rows.length = tot → lo + n ≤ tot ∧ ∀ z, (∀ r ∈ rows, r.length = z) → agl P γ z id lo n tot v)
 | .aref id off n, v => ∃ b, γ id = some (b, 0) ∧ (∃ c, L[id]? = some (.st c)) ∧ v = .slice (some ⟨b, off, none⟩) n qG
 | .cx z rows, v => CxV P S h z rows v
 | .mref id, v => ∃ b, γ id = some (b, 0) ∧ (∃ es, L[id]? = some (.mp es)) ∧ v = .map (some b)
 | _, _ => False
def DC (P : Program) (S : Nat → Prop) (γ : Pl) (L : List Obj) (h : Heap) : DV → Value → Prop
 | .fn f pre cap, v => ∃ as bs : Array Value, v = .func (.func f) as bs ∧ All2 (DB P S γ L h) pre as.toList ∧ All2 (DB P S γ L h) cap bs.toList
 | d, v => DB P S γ L h d v
def D1 (P : Program) (S : Nat → Prop) (γ : Pl) (L : List Obj) (h : Heap) : DV → Value → Prop
 | .agg xs, v => ∃ vs : Array Value, v = .agg vs ∧ All2 (DC P S γ L h) xs vs.toList
 | d, v => DC P S γ L h d v
def DR (P : Program) (S : Nat → Prop) (γ : Pl) (L : List Obj) (h : Heap) : DV → Value → Prop
 | .tup xs, v => ∃ vs : Array Value, v = .tuple vs ∧ All2 (D1 P S γ L h) xs vs.toList
 | d, v => D1 P S γ L h d v
open Go.RowKit
def Obj.owns : Obj → Bool
 | .st _ => true
 | .mp _ => true
 | .li (some _) _ => true
 | _ => false
structure Ent where
 start : Nat
 W : Nat → Prop
 A : Nat → Prop
 pin : Nat → Nat → Prop
 cnt : Nat
 few : ∀ id b, pin id b → id < cnt
 sub : ∀ b, W b → A b
def qd (W0 : Ent) (γ : Pl) (L : List Obj) (h : Heap) (b : Nat) : Prop := b < h.next ∧ (W0.start ≤ b ∨ W0.A b) ∧ ∀ id o x, L[id]? = some o → o.owns = true → γ id ≠ some (b, x)
def Rows (P : Program) (S : Nat → Prop) (h : Heap) (b o : Nat) (e : TypeId) (rows : List (List PV)) : Prop :=
 ∃ cs z, h.get b = some (.cells cs e true) ∧ szT P e = some z ∧ 0 < z ∧ o + rows.length * z ≤ cs.length ∧ rows.length ≤ maxLen ∧ (∀ r ∈ rows, r.length = z) ∧
  ∀ (i : Nat) (r : List PV) (j : Nat) (x : PV) (u : Value), rows[i]? = some r → r[j]? = some x → cs[o + i * z + j]? = some u → PR P S h x u
def OR (P : Program) (S : Nat → Prop) (γ : Pl) (L : List Obj) (h : Heap) (id : Nat) : Obj → Prop
 | .st cells => ∃ b e vs, γ id = some (b, 0) ∧ h.get b = some (.cells vs e true) ∧ All2 (DC P S γ L h) cells vs
 | .mp es => ∃ b mes ck, γ id = some (b, 0) ∧ h.get b = some (.map mes ck) ∧ All2 (fun d (e : MapEntry) => e.key = d.1 ∧ D1 P S γ L h d.2 e.val) es mes
 | .li none rows => rows = [] ∧ γ id = none
 | .li (some e) rows => ∃ b o, γ id = some (b, o) ∧ Rows P S h b o e rows
 | .fz none rows => rows = [] ∧ γ id = none
 | .fz (some e) rows => ∃ b o, γ id = some (b, o) ∧ S b ∧ Rows P S h b o e rows
 | .dead => True
structure Hp (P : Program) (h0 : Heap) (W0 : Ent) (γ : Pl) (L : List Obj) (h : Heap) : Prop where
 start : W0.start = h0.next
 pin : ∀ id b, W0.pin id b → γ id = some (b, 0) ∧ ∃ c, L[id]? = some (.st c)
 obj : ∀ id o, L[id]? = some o → OR P (qd W0 γ L h) γ L h id o
 inj : ∀ id id' o o' b x x', L[id]? = some o → L[id']? = some o' → o.owns = true → o'.owns = true → γ id = some (b, x) → γ id' = some (b, x') → id = id'
 dom : ∀ id x, γ id = some x → id < L.length
 new : ∀ id o b x, L[id]? = some o → o.owns = true → γ id = some (b, x) → h0.next ≤ b ∨ W0.W b
 next : h0.next ≤ h.next
 frame : ∀ b, b < h0.next → ¬ W0.W b → h.get b = h0.get b
theorem OR.lt {P : Program} {S : Nat → Prop} {γ : Pl} {L : List Obj} {h : Heap} {id b x : Nat} {o : Obj} (hs : ∀ b, S b → b < h.next) (ho : OR P S γ L h id o) (hg : γ id = some (b, x)) (hd : o.owns = true) : b < h.next ∧ ∃ q, h.get b = some q := by
 cases o with
 | st cells =>
  obtain ⟨b', e, vs, h1, h2, _⟩ := ho
  rw [hg] at h1; cases h1
  exact ⟨h.wf _ _ h2, _, h2⟩
 | mp es =>
  obtain ⟨b', mes, ck, h1, h2, _⟩ := ho
  rw [hg] at h1; cases h1
  exact ⟨h.wf _ _ h2, _, h2⟩
 | li e rows =>
  cases e with
  | none => cases hd
  | some e =>
   obtain ⟨b', o, h1, cs, z, h2, _⟩ := ho
   rw [hg] at h1; cases h1
   exact ⟨h.wf _ _ h2, _, h2⟩
 | fz e rows => cases hd
 | dead => cases hd
structure Carry (W0 : Ent) (γ : Pl) (L : List Obj) (h : Heap) (γ' : Pl) (L' : List Obj) (h' : Heap) : Prop where
 free : ∀ b, qd W0 γ L h b → qd W0 γ' L' h' b ∧ h'.get b = h.get b
 len : L.length ≤ L'.length
 st : ∀ id b, γ id = some (b, 0) → (∃ c, L[id]? = some (.st c)) → γ' id = some (b, 0) ∧ ∃ c, L'[id]? = some (.st c)
 mp : ∀ id b, γ id = some (b, 0) → (∃ c, L[id]? = some (.mp c)) → γ' id = some (b, 0) ∧ ∃ c, L'[id]? = some (.mp c)
 li : ∀ id o' rows', id < L.length → L'[id]? = some o' → o'.isList rows' → ∃ o rows, L[id]? = some o ∧ o.isList rows ∧ rows.length ≤ rows'.length ∧
  (rows'.length = rows.length → γ' id = γ id ∧ ∀ z, (∀ r ∈ rows', r.length = z) → ∀ r ∈ rows, r.length = z)
section
variable {P : Program} {W0 : Ent} {γ γ' : Pl} {L L' : List Obj} {h h' : Heap}
theorem Carry.pr (c : Carry W0 γ L h γ' L' h') {x : PV} {v : Value} (hx : PR P (qd W0 γ L h) h x v) : PR P (qd W0 γ' L' h') h' x v := hx.mono c.free
theorem Carry.db (c : Carry W0 γ L h γ' L' h') {d : DV} {v : Value} (hd : DB P (qd W0 γ L h) γ L h d v) : DB P (qd W0 γ' L' h') γ' L' h' d v := by
 cases d with
 | p x => exact c.pr hd
 | ptr id off =>
  obtain ⟨b, h1, h2, h3⟩ := hd
  obtain ⟨h4, h5⟩ := c.st id b h1 h2
  exact ⟨b, h4, h5, h3⟩
 | aref id off n =>
  obtain ⟨b, h1, h2, h3⟩ := hd
  obtain ⟨h4, h5⟩ := c.st id b h1 h2
  exact ⟨b, h4, h5, h3⟩
 | ep id i off tot =>
  obtain ⟨h1, h2, h3⟩ := hd
  refine ⟨Nat.lt_of_lt_of_le h1 c.len, h2, fun o' rows' e hl => ?_⟩
  obtain ⟨o, rows, e1, e2, e3, e4⟩ := c.li id o' rows' h1 e hl
  obtain ⟨k1, k2⟩ := h3 o rows e1 e2
  refine ⟨Nat.le_trans k1 e3, fun e5 => ?_⟩
  have e6 : rows'.length = rows.length := by omega
  obtain ⟨e7, e8⟩ := e4 e6
  rw [e7]
  obtain ⟨k3, k4⟩ := k2 (by omega)
  exact ⟨k3, fun z hz => k4 z (e8 z hz)⟩
 | dp row off =>
  obtain ⟨b, o, cs, e, rw, h1, h2, h3, h4, h5⟩ := hd
  exact ⟨b, o, cs, e, rw, (c.free b h1).1, (c.free b h1).2.trans h2, h3, h4, fun j x u ex eu => c.pr (h5 j x u ex eu)⟩
 | ref id lo n tot =>
  obtain ⟨h1, h2, h3⟩ := hd
  refine ⟨Nat.lt_of_lt_of_le h1 c.len, h2, fun o' rows' e hl => ?_⟩
  obtain ⟨o, rows, e1, e2, e3, e4⟩ := c.li id o' rows' h1 e hl
  obtain ⟨k1, k2⟩ := h3 o rows e1 e2
  refine ⟨Nat.le_trans k1 e3, fun e5 => ?_⟩
  have e6 : rows'.length = rows.length := by omega
  obtain ⟨e7, e8⟩ := e4 e6
  obtain ⟨k3, k4⟩ := k2 (by omega)
  refine ⟨k3, fun z hz => ?_⟩
  have := k4 z (e8 z hz)
  unfold agl at this ⊢
  rw [e7]
  exact this
 | cx z rows => exact CxV.mono c.free hd
 | mref id =>
  obtain ⟨b, h1, h2, h3⟩ := hd
  obtain ⟨h4, h5⟩ := c.mp id b h1 h2
  exact ⟨b, h4, h5, h3⟩
 | fn f pre cap => exact hd.elim
 | agg xs => exact hd.elim
 | tup xs => exact hd.elim
theorem Carry.dc (c : Carry W0 γ L h γ' L' h') {d : DV} {v : Value} (hd : DC P (qd W0 γ L h) γ L h d v) : DC P (qd W0 γ' L' h') γ' L' h' d v := by
 cases d with
 | fn f pre cap =>
  obtain ⟨as, bs, h1, h2, h3⟩ := hd
  exact ⟨as, bs, h1, h2.mono fun _ _ => c.db, h3.mono fun _ _ => c.db⟩
 | agg xs => exact hd.elim
 | tup xs => exact hd.elim
 | p x => exact c.db (P := P) (d := .p x) hd
 | ptr a b => exact c.db (P := P) (d := .ptr a b) hd
 | ep a b e f => exact c.db (P := P) (d := .ep a b e f) hd
 | dp a b => exact c.db (P := P) (d := .dp a b) hd
 | ref a b e f => exact c.db (P := P) (d := .ref a b e f) hd
 | aref a b e => exact c.db (P := P) (d := .aref a b e) hd
 | cx a b => exact c.db (P := P) (d := .cx a b) hd
 | mref a => exact c.db (P := P) (d := .mref a) hd
theorem Carry.d1 (c : Carry W0 γ L h γ' L' h') {d : DV} {v : Value} (hd : D1 P (qd W0 γ L h) γ L h d v) : D1 P (qd W0 γ' L' h') γ' L' h' d v := by
 cases d with
 | agg xs =>
  obtain ⟨vs, h1, h2⟩ := hd
  exact ⟨vs, h1, h2.mono fun _ _ => c.dc⟩
 | tup xs => exact hd.elim
 | fn a b e => exact c.dc (P := P) (d := .fn a b e) hd
 | p x => exact c.dc (P := P) (d := .p x) hd
 | ptr a b => exact c.dc (P := P) (d := .ptr a b) hd
 | ep a b e f => exact c.dc (P := P) (d := .ep a b e f) hd
 | dp a b => exact c.dc (P := P) (d := .dp a b) hd
 | ref a b e f => exact c.dc (P := P) (d := .ref a b e f) hd
 | aref a b e => exact c.dc (P := P) (d := .aref a b e) hd
 | cx a b => exact c.dc (P := P) (d := .cx a b) hd
 | mref a => exact c.dc (P := P) (d := .mref a) hd
theorem Carry.dr (c : Carry W0 γ L h γ' L' h') {d : DV} {v : Value} (hd : DR P (qd W0 γ L h) γ L h d v) : DR P (qd W0 γ' L' h') γ' L' h' d v := by
 cases d with
 | tup xs =>
  obtain ⟨vs, h1, h2⟩ := hd
  exact ⟨vs, h1, h2.mono fun _ _ => c.d1⟩
 | agg xs => exact c.d1 (P := P) (d := .agg xs) hd
 | fn a b e => exact c.d1 (P := P) (d := .fn a b e) hd
 | p x => exact c.d1 (P := P) (d := .p x) hd
 | ptr a b => exact c.d1 (P := P) (d := .ptr a b) hd
 | ep a b e f => exact c.d1 (P := P) (d := .ep a b e f) hd
 | dp a b => exact c.d1 (P := P) (d := .dp a b) hd
 | ref a b e f => exact c.d1 (P := P) (d := .ref a b e f) hd
 | aref a b e => exact c.d1 (P := P) (d := .aref a b e) hd
 | cx a b => exact c.d1 (P := P) (d := .cx a b) hd
 | mref a => exact c.d1 (P := P) (d := .mref a) hd
theorem Carry.refl (γ : Pl) (L : List Obj) (h : Heap) : Carry W0 γ L h γ L h :=
 ⟨fun _ hb => ⟨hb, rfl⟩, Nat.le_refl _, fun _ _ hb hc => ⟨hb, hc⟩, fun _ _ hb hc => ⟨hb, hc⟩, fun id o' rows' _ e hl => ⟨o', rows', e, hl, Nat.le_refl _, fun _ => ⟨rfl, fun _ hz => hz⟩⟩⟩
theorem Carry.rows (c : Carry W0 γ L h γ' L' h') {b o : Nat} {e : TypeId} {rows : List (List PV)} (hg : h'.get b = h.get b) (hd : Rows P (qd W0 γ L h) h b o e rows) : Rows P (qd W0 γ' L' h') h' b o e rows := by
 obtain ⟨cs, z, h1, h2, h3, h4, h5, h6, h7⟩ := hd
 exact ⟨cs, z, hg.trans h1, h2, h3, h4, h5, h6, fun i r j x u a b d => c.pr (h7 i r j x u a b d)⟩
def wC (γ : Pl) (id b : Nat) : Pl := fun i => if i = id then some (b, 0) else γ i
theorem ZF (hγ : ∀ id x, γ id = some x → id < L.length) (q : AObj) (o : Obj) : Carry W0 γ L h (wC γ L.length h.next) (L ++ [o]) (h.push q) := by
 have hne : ∀ id, id < L.length → wC γ L.length h.next id = γ id := fun id hi => if_neg (by omega)
 refine ⟨fun b hb => ⟨⟨by have := hb.1; simp; omega, hb.2.1, fun id o' x e ho hg => ?_⟩, Heap.get_push_ne _ _ (by have := hb.1; omega)⟩, by simp, fun id b e ⟨c, hc⟩ => ?_, fun id b e ⟨c, hc⟩ => ?_, fun id o' rows' hi e hl => ?_⟩
 ·by_cases hi : id < L.length
  ·rw [List.getElem?_append_left hi] at e
   rw [hne id hi] at hg
   exact hb.2.2 id o' x e ho hg
  ·by_cases h2 : id = L.length
   ·subst h2
    simp [wC] at hg
    have := hb.1
    omega
   ·rw [List.getElem?_eq_none (by simp; omega)] at e
    cases e
 ·have hi := hγ id _ e
  rw [hne id hi, List.getElem?_append_left hi]
  exact ⟨e, c, hc⟩
 ·have hi := hγ id _ e
  rw [hne id hi, List.getElem?_append_left hi]
  exact ⟨e, c, hc⟩
 ·rw [List.getElem?_append_left hi] at e
  exact ⟨o', rows', e, hl, Nat.le_refl _, fun _ => ⟨hne id hi, fun _ hz => hz⟩⟩
theorem QJ (o : Obj) (ho : o.owns = false) : Carry W0 γ L h γ (L ++ [o]) h := by
 refine ⟨fun b hb => ⟨⟨hb.1, hb.2.1, fun id o' x e ho' hg => ?_⟩, rfl⟩, by simp, fun id b e ⟨c, hc⟩ => ⟨e, c, ?_⟩, fun id b e ⟨c, hc⟩ => ⟨e, c, ?_⟩, fun id o' rows' hi e hl => ?_⟩
 ·by_cases hi : id < L.length
  ·rw [List.getElem?_append_left hi] at e
   exact hb.2.2 id o' x e ho' hg
  ·by_cases h2 : id = L.length
   ·subst h2
    simp at e; subst e
    rw [ho] at ho'; cases ho'
   ·rw [List.getElem?_eq_none (by simp; omega)] at e
    cases e
 ·rw [List.getElem?_append_left (List.getElem?_eq_some_iff.1 hc).1]; exact hc
 ·rw [List.getElem?_append_left (List.getElem?_eq_some_iff.1 hc).1]; exact hc
 ·rw [List.getElem?_append_left hi] at e
  exact ⟨o', rows', e, hl, Nat.le_refl _, fun _ => ⟨rfl, fun _ hz => hz⟩⟩
end
open Go.RowKit
section
variable {P : Program} {h0 : Heap} {W0 : Ent} {γ : Pl} {L : List Obj} {h : Heap}
theorem Hp.others {γ' : Pl} {L' : List Obj} {h' : Heap} (H : Hp P h0 W0 γ L h) (c : Carry W0 γ L h γ' L' h') {id : Nat} {o : Obj} (hi : L[id]? = some o) (hg : γ' id = γ id) (hb : ∀ b x, γ id = some (b, x) → o.owns = true → h'.get b = h.get b) : OR P (qd W0 γ' L' h') γ' L' h' id o := by
 have ho := H.obj id o hi
 cases o with
 | st cells =>
  obtain ⟨b, e, vs, h1, h2, h3⟩ := ho
  exact ⟨b, e, vs, hg.trans h1, (hb b 0 h1 rfl).trans h2, h3.mono fun _ _ => c.dc⟩
 | li e rows =>
  cases e with
  | none => exact ⟨ho.1, hg.trans ho.2⟩
  | some e =>
   obtain ⟨b, o, h1, h2⟩ := ho
   exact ⟨b, o, hg.trans h1, c.rows (hb b o h1 rfl) h2⟩
 | fz e rows =>
  cases e with
  | none => exact ⟨ho.1, hg.trans ho.2⟩
  | some e =>
   obtain ⟨b, o, h1, h2, h3⟩ := ho
   exact ⟨b, o, hg.trans h1, (c.free b h2).1, c.rows (c.free b h2).2 h3⟩
 | mp es =>
  obtain ⟨b, mes, ck, h1, h2, h3⟩ := ho
  exact ⟨b, mes, ck, hg.trans h1, (hb b 0 h1 rfl).trans h2, h3.mono fun _ _ q => ⟨q.1, c.d1 q.2⟩⟩
 | dead => trivial
theorem getElem?_snoc {α : Type} {l : List α} {a b : α} {i : Nat} (h : (l ++ [a])[i]? = some b) : (i < l.length ∧ l[i]? = some b) ∨ (i = l.length ∧ a = b) := by
 by_cases hi : i < l.length
 ·rw [List.getElem?_append_left hi] at h; exact .inl ⟨hi, h⟩
 ·by_cases h2 : i = l.length
  ·subst h2; simp at h; exact .inr ⟨rfl, h⟩
  ·rw [List.getElem?_eq_none (by simp; omega)] at h; cases h
theorem Hp.push (H : Hp P h0 W0 γ L h) {q : AObj} {o : Obj} (hn : OR P (qd W0 (wC γ L.length h.next) (L ++ [o]) (h.push q)) (wC γ L.length h.next) (L ++ [o]) (h.push q) L.length o) :
  Hp P h0 W0 (wC γ L.length h.next) (L ++ [o]) (h.push q) := by
 have c := ZF (W0 := W0) (h := h) H.dom q o
 have hne : ∀ id, id < L.length → wC γ L.length h.next id = γ id := fun id hi => if_neg (by omega)
 have hlt : ∀ id o b x, L[id]? = some o → o.owns = true → γ id = some (b, x) → b < h.next := fun id o b x e e2 e3 => (OR.lt (fun b hb => hb.1) (H.obj id o e) e3 e2).1
 refine ⟨H.start, fun id b e => (let ⟨a, b'⟩ := H.pin id b e; c.st id b a b'), fun id o' e => ?_, fun id id' o1 o2 b x x' e1 e2 d1 d2 g1 g2 => ?_, fun id x e => ?_, fun id o' b x e d g => ?_, by have := H.next; simp; omega, fun b hb hw => ?_⟩
 ·rcases getElem?_snoc e with ⟨hi, e⟩ | ⟨rfl, rfl⟩
  ·exact H.others c e (hne id hi) fun b x g d => Heap.get_push_ne _ _ (by have := hlt id o' b x e d g; omega)
  ·exact hn
 ·rcases getElem?_snoc e1 with ⟨hi1, e1⟩ | ⟨rfl, rfl⟩ <;> rcases getElem?_snoc e2 with ⟨hi2, e2⟩ | ⟨rfl, rfl⟩
  ·rw [hne id hi1] at g1
   rw [hne id' hi2] at g2
   exact H.inj id id' o1 o2 b x x' e1 e2 d1 d2 g1 g2
  ·rw [hne id hi1] at g1
   have := hlt id o1 b x e1 d1 g1
   simp [wC] at g2
   omega
  ·rw [hne id' hi2] at g2
   have := hlt id' o2 b x' e2 d2 g2
   simp [wC] at g1
   omega
  ·rfl
 ·unfold wC at e
  split at e
  ·rename_i hi; simp; omega
  ·have := H.dom id x e; simp; omega
 ·rcases getElem?_snoc e with ⟨hi, e⟩ | ⟨rfl, rfl⟩
  ·rw [hne id hi] at g; exact H.new id o' b x e d g
  ·simp [wC] at g
   exact .inl (by have := H.next; omega)
 ·rw [Heap.get_push_ne _ _ (by have := H.next; omega)]; exact H.frame b hb hw
theorem Hp.virtual (H : Hp P h0 W0 γ L h) {o : Obj} (ho : o.owns = false) (hn : OR P (qd W0 γ (L ++ [o]) h) γ (L ++ [o]) h L.length o) : Hp P h0 W0 γ (L ++ [o]) h := by
 have c := QJ (W0 := W0) (γ := γ) (L := L) (h := h) o ho
 refine ⟨H.start, fun id b e => (let ⟨a, b'⟩ := H.pin id b e; c.st id b a b'), fun id o' e => ?_, fun id id' o1 o2 b x x' e1 e2 d1 d2 g1 g2 => ?_, fun id x e => by have := H.dom id x e; simp; omega, fun id o' b x e d g => ?_, H.next, H.frame⟩
 ·rcases getElem?_snoc e with ⟨hi, e⟩ | ⟨rfl, rfl⟩
  ·exact H.others c e rfl fun _ _ _ _ => rfl
  ·exact hn
 ·rcases getElem?_snoc e1 with ⟨hi1, e1⟩ | ⟨rfl, rfl⟩ <;> rcases getElem?_snoc e2 with ⟨hi2, e2⟩ | ⟨rfl, rfl⟩
  ·exact H.inj id id' o1 o2 b x x' e1 e2 d1 d2 g1 g2
  ·rw [ho] at d2; cases d2
  ·rw [ho] at d1; cases d1
  ·rfl
 ·rcases getElem?_snoc e with ⟨hi, e⟩ | ⟨rfl, rfl⟩
  ·exact H.new id o' b x e d g
  ·rw [ho] at d; cases d
theorem getElem?_set' {α : Type} {l : List α} {a b : α} {i j : Nat} (h : (l.set i a)[j]? = some b) : (j ≠ i ∧ l[j]? = some b) ∨ (j = i ∧ i < l.length ∧ a = b) := by
 by_cases hi : j = i
 ·subst hi
  by_cases hl : j < l.length
  ·simp [List.getElem?_set, hl] at h; exact .inr ⟨rfl, hl, h⟩
  ·rw [List.getElem?_eq_none (by simp; omega)] at h; cases h
 ·rw [List.getElem?_set_ne (Ne.symm hi)] at h; exact .inl ⟨hi, h⟩
theorem w8 {γ' : Pl} {h' : Heap} {id : Nat} {o o' : Obj} (hi : L[id]? = some o) (hd : o.owns = true ∨ γ id = none) (hγ : ∀ j, j ≠ id → γ' j = γ j)
  (hst : ∀ c, o = .st c → γ' id = γ id ∧ ∃ c', o' = .st c')
  (hli : ∀ rows', o'.isList rows' → ∃ rows, o.isList rows ∧ rows.length ≤ rows'.length ∧ (rows'.length = rows.length → γ' id = γ id ∧ ∀ z, (∀ r ∈ rows', r.length = z) → ∀ r ∈ rows, r.length = z))
  (hn : h.next ≤ h'.next) (hnew : ∀ b x, γ' id = some (b, x) → o'.owns = true → γ id = some (b, x) ∨ h.next ≤ b)
  (hget : ∀ b, b < h.next → (∀ x, γ id ≠ some (b, x)) → h'.get b = h.get b) (hmp : ∀ c, o = .mp c → γ' id = γ id ∧ ∃ c', o' = .mp c' := by intro c e; cases e) : Carry W0 γ L h γ' (L.set id o') h' := by
 have hlt : id < L.length := (List.getElem?_eq_some_iff.1 hi).1
 refine ⟨fun b hb => ⟨⟨Nat.lt_of_lt_of_le hb.1 hn, hb.2.1, fun j q x e dq g => ?_⟩, hget b hb.1 fun x hx => hd.elim (fun hd => hb.2.2 id o x hi hd hx) (fun hd => by rw [hd] at hx; cases hx)⟩, by simp, fun j b e ⟨c, hc⟩ => ?_, fun j b e ⟨c, hc⟩ => ?_, fun j q rows' hj e hl => ?_⟩
 ·rcases getElem?_set' e with ⟨hj, e⟩ | ⟨rfl, _, rfl⟩
  ·rw [hγ j hj] at g; exact hb.2.2 j q x e dq g
  ·rcases hnew b x g dq with g | g
   ·exact hd.elim (fun hd => hb.2.2 j o x hi hd g) (fun hd => by rw [hd] at g; cases g)
   ·have := hb.1; omega
 ·by_cases hj : j = id
  ·subst hj
   rw [hi] at hc; cases hc
   obtain ⟨k1, c', rfl⟩ := hst c rfl
   exact ⟨k1.trans e, c', by simp [List.getElem?_set, hlt]⟩
  ·exact ⟨(hγ j hj).trans e, c, by rw [List.getElem?_set_ne (Ne.symm hj)]; exact hc⟩
 ·by_cases hj : j = id
  ·subst hj
   rw [hi] at hc; cases hc
   obtain ⟨k1, c', rfl⟩ := hmp c rfl
   exact ⟨k1.trans e, c', by simp [List.getElem?_set, hlt]⟩
  ·exact ⟨(hγ j hj).trans e, c, by rw [List.getElem?_set_ne (Ne.symm hj)]; exact hc⟩
 ·rcases getElem?_set' e with ⟨hj', e⟩ | ⟨rfl, _, rfl⟩
  ·exact ⟨q, rows', e, hl, Nat.le_refl _, fun _ => ⟨hγ j hj', fun _ hz => hz⟩⟩
  ·obtain ⟨rows, k1, k2, k3⟩ := hli rows' hl
   exact ⟨o, rows, hi, k1, k2, k3⟩
theorem Hp.write {γ' : Pl} {h' : Heap} {id : Nat} {o o' : Obj} (H : Hp P h0 W0 γ L h) (hi : L[id]? = some o) (hd0 : o.owns = true ∨ γ id = none) (c : Carry W0 γ L h γ' (L.set id o') h') (hγ : ∀ j, j ≠ id → γ' j = γ j)
  (hn : h.next ≤ h'.next) (hnew : ∀ b x, γ' id = some (b, x) → (∃ x', γ id = some (b, x')) ∨ h.next ≤ b) (hdom : ∀ x, γ' id = some x → id < L.length)
  (hget : ∀ b, b < h.next → (∀ x, γ id ≠ some (b, x)) → h'.get b = h.get b)
  (ho : OR P (qd W0 γ' (L.set id o') h') γ' (L.set id o') h' id o') : Hp P h0 W0 γ' (L.set id o') h' := by
 have hd : ∀ {b x}, γ id = some (b, x) → o.owns = true := fun g => hd0.elim (fun q => q) (fun q => by rw [q] at g; cases g)
 have hlt : ∀ id o b x, L[id]? = some o → o.owns = true → γ id = some (b, x) → b < h.next := fun id o b x e e2 e3 => (OR.lt (fun b hb => hb.1) (H.obj id o e) e3 e2).1
 refine ⟨H.start, fun id b e => (let ⟨a, b'⟩ := H.pin id b e; c.st id b a b'), fun j q e => ?_, fun j j' o1 o2 b x x' e1 e2 d1 d2 g1 g2 => ?_, fun j x e => ?_, fun j q b x e dq g => ?_, Nat.le_trans H.next hn, fun b hb hw => ?_⟩
 ·rcases getElem?_set' e with ⟨hj, e⟩ | ⟨rfl, _, rfl⟩
  ·exact H.others c e (hγ j hj) fun b x g d => hget b (hlt j q b x e d g) fun x' g' => hj (H.inj j id q o b x x' e hi d (hd g') g g')
  ·exact ho
 ·rcases getElem?_set' e1 with ⟨hj1, f1⟩ | ⟨hj1, _, q1⟩ <;> rcases getElem?_set' e2 with ⟨hj2, f2⟩ | ⟨hj2, _, q2⟩
  ·rw [hγ j hj1] at g1
   rw [hγ j' hj2] at g2
   exact H.inj j j' o1 o2 b x x' f1 f2 d1 d2 g1 g2
  ·rw [hγ j hj1] at g1
   rw [hj2] at g2
   rcases hnew b x' g2 with ⟨x2, g2⟩ | g2
   ·rw [hj2]; exact H.inj j id o1 o b x x2 f1 hi d1 (hd g2) g1 g2
   ·have := hlt j o1 b x f1 d1 g1; omega
  ·rw [hγ j' hj2] at g2
   rw [hj1] at g1
   rcases hnew b x g1 with ⟨x2, g1⟩ | g1
   ·rw [hj1]; exact (H.inj j' id o2 o b x' x2 f2 hi d2 (hd g1) g2 g1).symm
   ·have := hlt j' o2 b x' f2 d2 g2; omega
  ·rw [hj1, hj2]
 ·rw [List.length_set]
  by_cases hj : j = id
  ·subst hj; exact hdom x e
  ·rw [hγ j hj] at e; exact H.dom j x e
 ·rcases getElem?_set' e with ⟨hj, e⟩ | ⟨rfl, _, rfl⟩
  ·rw [hγ j hj] at g; exact H.new j q b x e dq g
  ·rcases hnew b x g with ⟨x2, g⟩ | g
   ·exact H.new j o b x2 hi (hd g) g
   ·exact .inl (Nat.le_trans H.next g)
 ·by_cases hx : ∃ x, γ id = some (b, x)
  ·obtain ⟨x, hx⟩ := hx
   rcases H.new id o b x hi (hd hx) hx with k | k
   ·omega
   ·exact absurd k hw
  ·rw [hget b (Nat.lt_of_lt_of_le hb H.next) fun x g => hx ⟨x, g⟩]; exact H.frame b hb hw
end
open Go.RowKit
def qW (t : Nat) : List (Nat × DV) → Option DV
 | [] => none
 | (t', d) :: l => if t' = t then some d else qW t l
structure DFrm where
 n : Nat
 c : Nat
 l : List (Nat × DV)
def DFrm.put (a : DFrm) (t : Option Nat) (d : DV) : DFrm := match t with
 | some t => if t < a.n then ⟨a.n, a.c, (t, d) :: a.l⟩ else a
 | none => a
abbrev abI : DV := .tup []
def xQ (v : Value) : Option DV := if scal v then some (.p (.v v)) else match v with
 | .tuple xs => if xs.size = 0 then some abI else none
 | _ => none
def DFrm.ev (a : DFrm) : Operand → Option DV
 | .tmp t => qW t a.l
 | .const v => xQ v
 | .func f => some (.fn f [] [])
 | .global _ => none
abbrev JD := Operand → Option DV
def YG (P : Program) (W0 : Ent) (γ : Pl) (L : List Obj) (h : Heap) (ρ : JD) (r : Rho) : Prop := ∀ x d, ρ x = some d → ∃ v, r x = some v ∧ DR P (qd W0 γ L h) γ L h d v
def yx (ρ : JD) : List Operand → Option (List DV)
 | [] => some []
 | x :: r => match ρ x, yx ρ r with
  | some v, some vs => some (v :: vs)
  | _, _ => none
def Zc (ρ : JD) : List (Nat × Operand) → Option (List (Nat × DV))
 | [] => some []
 | (i, x) :: r => match ρ x, Zc ρ r with
  | some v, some vs => some ((i, v) :: vs)
  | _, _ => none
section
variable {P : Program} {W0 : Ent} {γ : Pl} {L : List Obj} {h : Heap} {ρ : JD} {r : Rho}
theorem zn (hρ : YG P W0 γ L h ρ r) : ∀ {xs : List Operand} {ds : List DV}, yx ρ xs = some ds → ∃ vs, kC r xs = some vs ∧ All2 (DR P (qd W0 γ L h) γ L h) ds vs
 | [], ds, e => by cases e; exact ⟨[], rfl, .nil⟩
 | x :: xs, ds, e => by
  unfold yx at e
  cases h1 : ρ x with
  | none => rw [h1] at e; cases e
  | some d =>
   cases h2 : yx ρ xs with
   | none => rw [h1, h2] at e; cases e
   | some ds' =>
    rw [h1, h2] at e
    cases e
    obtain ⟨v, e1, r1⟩ := hρ x d h1
    obtain ⟨vs, e2, r2⟩ := zn hρ h2
    exact ⟨v :: vs, by simp only [kC, e1, e2], .cons r1 r2⟩
theorem QA (hρ : YG P W0 γ L h ρ r) : ∀ {xs : List (Nat × Operand)} {ds : List (Nat × DV)}, Zc ρ xs = some ds → ∃ vs, K4 r xs = some vs ∧ All2 (fun d v => d.1 = v.1 ∧ (DR P (qd W0 γ L h) γ L h) d.2 v.2) ds vs
 | [], ds, e => by cases e; exact ⟨[], rfl, .nil⟩
 | (i, x) :: xs, ds, e => by
  unfold Zc at e
  cases h1 : ρ x with
  | none => rw [h1] at e; cases e
  | some d =>
   cases h2 : Zc ρ xs with
   | none => rw [h1, h2] at e; cases e
   | some ds' =>
    rw [h1, h2] at e
    cases e
    obtain ⟨v, e1, r1⟩ := hρ x d h1
    obtain ⟨vs, e2, r2⟩ := QA hρ h2
    exact ⟨(i, v) :: vs, by simp only [K4, e1, e2], .cons ⟨rfl, r1⟩ r2⟩
def zl : DV → List DV
 | .agg xs => xs
 | d => [d]
theorem Ke {S : Nat → Prop} {d : DV} {v : Value} (hd : DB P S γ L h d v) : v.oneCell' = true := by
 cases d with
 | p x => exact PR.one hd
 | ptr => obtain ⟨_, _, _, rfl⟩ := hd; rfl
 | aref => obtain ⟨_, _, _, rfl⟩ := hd; rfl
 | mref => obtain ⟨_, _, _, rfl⟩ := hd; rfl
 | ep => exact hd.2.1
 | ref => exact hd.2.1
 | dp => obtain ⟨_, _, _, _, _, _, _, rfl, _⟩ := hd; rfl
 | cx =>
  obtain ⟨_, ⟨_, rfl, _⟩ | ⟨_, _, rfl, _⟩⟩ := hd
  ·rfl
  ·rfl
 | _ => exact hd.elim
theorem ae8 {S : Nat → Prop} {d : DV} {v : Value} (hd : DC P S γ L h d v) : v.oneCell' = true := by
 cases d with
 | fn => obtain ⟨_, _, rfl, _⟩ := hd; rfl
 | p x => exact Ke (P := P) (S := S) (γ := γ) (L := L) (h := h) (d := .p x) hd
 | ptr a b => exact Ke (P := P) (S := S) (γ := γ) (L := L) (h := h) (d := .ptr a b) hd
 | aref a b c => exact Ke (P := P) (S := S) (γ := γ) (L := L) (h := h) (d := .aref a b c) hd
 | ep a b c e => exact Ke (P := P) (S := S) (γ := γ) (L := L) (h := h) (d := .ep a b c e) hd
 | ref a b c e => exact Ke (P := P) (S := S) (γ := γ) (L := L) (h := h) (d := .ref a b c e) hd
 | dp a b => exact Ke (P := P) (S := S) (γ := γ) (L := L) (h := h) (d := .dp a b) hd
 | cx a b => exact Ke (P := P) (S := S) (γ := γ) (L := L) (h := h) (d := .cx a b) hd
 | mref a => exact Ke (P := P) (S := S) (γ := γ) (L := L) (h := h) (d := .mref a) hd
 | agg => exact hd.elim
 | tup => exact hd.elim
theorem a9N {v : Value} (h : v.oneCell' = true) : v.cells = #[v] := by
 cases v <;> first | rfl | (simp [Value.oneCell'] at h)
theorem QP {S : Nat → Prop} {d : DV} {v : Value} (hd : DC P S γ L h d v) : D1 P S γ L h d v := by
 cases d <;> first | exact hd | exact hd.elim
theorem jl {S : Nat → Prop} {d : DV} {v : Value} (hd : D1 P S γ L h d v) : DR P S γ L h d v := by
 cases d <;> first | exact hd | exact hd.elim
theorem QX {S : Nat → Prop} {d : DV} {v : Value} (hd : D1 P S γ L h d v) (ha : ∀ xs, d ≠ .agg xs) : DC P S γ L h d v := by
 cases d <;> first | exact hd | exact absurd rfl (ha _)
def is1 : DV → Bool
 | .tup _ => false
 | _ => true
theorem wn {S : Nat → Prop} {d : DV} {v : Value} (hd : DR P S γ L h d v) (ha : is1 d = true) : D1 P S γ L h d v := by
 cases d <;> first | exact hd | (simp [is1] at ha)
theorem Ka {S : Nat → Prop} {d : DV} {v : Value} (hd : D1 P S γ L h d v) : All2 (DC P S γ L h) (zl d) v.cells.toList ∧ v.cells.toList.all Value.oneCell' = true := by
 have key : ∀ (d : DV), (∀ xs, d ≠ .agg xs) → D1 P S γ L h d v → All2 (DC P S γ L h) [d] v.cells.toList ∧ v.cells.toList.all Value.oneCell' = true := by
  intro d ha hd
  have h1 := QX hd ha
  have h2 := ae8 h1
  rw [a9N h2]
  exact ⟨.cons h1 .nil, by simp [h2]⟩
 cases d with
 | agg xs =>
  obtain ⟨vs, rfl, h1⟩ := hd
  refine ⟨h1, ?_⟩
  rw [List.all_eq_true]
  intro u hu
  obtain ⟨i, hi, rfl⟩ := List.mem_iff_getElem.1 hu
  obtain ⟨d, _, hd⟩ := h1.get' (List.getElem?_eq_getElem hi)
  exact ae8 hd
 | _ => exact key _ (by intro xs e; cases e) hd
def ye (P : Program) (t : TypeId) (cs : List DV) (off : Nat) : Option DV :=
 match P.underlying t with
 | none => none
 | some _ => if U2 P t then match szT P t with
   | some n => if off + n ≤ cs.length then some (.agg ((cs.drop off).take n)) else none
   | none => none
  else cs[off]?
theorem ya {S : Nat → Prop} {t : TypeId} {cs : List DV} {vs : List Value} {off : Nat} {d : DV} (hr : All2 (DC P S γ L h) cs vs) (hd : ye P t cs off = some d) : ∃ v, wy P t vs off = some v ∧ D1 P S γ L h d v := by
 unfold ye at hd
 unfold wy
 cases hu : P.underlying t with
 | none => rw [hu] at hd; cases hd
 | some q =>
  simp only [hu] at hd ⊢
  by_cases ha : U2 P t = true
  ·simp only [ha, if_true] at hd ⊢
   cases hs : szT P t with
   | none => simp [hs] at hd
   | some n =>
    simp only [hs] at hd ⊢
    rw [hr.length] at hd
    split at hd
    ·rename_i hle
     cases hd
     rw [if_pos hle]
     exact ⟨_, rfl, _, rfl, by simpa using (hr.drop off).take n⟩
    ·cases hd
  ·simp only [ha] at hd ⊢
   obtain ⟨v, e, q⟩ := hr.get (by simpa using hd)
   exact ⟨v, e, QP q⟩
def yk : List DV → Option (List Value)
 | [] => some []
 | .p (.v x) :: l => (yk l).map (x :: ·)
 | _ :: _ => none
def wp : DV → Option Value
 | .p (.v x) => some x
 | .agg xs => (yk xs).map fun l => .agg l.toArray
 | _ => none
theorem vz {S : Nat → Prop} : ∀ {ds : List DV} {vs xs : List Value}, All2 (DC P S γ L h) ds vs → yk ds = some xs → vs = xs
 | [], _, _, .nil, e => by cases e; rfl
 | d :: ds, _, _, .cons hd t, e => by
  unfold yk at e
  split at e
  ·rename_i heq; cases heq
  ·rename_i x l heq
   cases heq
   cases hq : yk ds with
   | none => rw [hq] at e; cases e
   | some ys =>
    rw [hq] at e; cases e
    have h1 : _ = x := PR.scal (P := P) (S := S) (h := h) hd
    rw [h1, vz t hq]
  ·cases e
theorem kS {S : Nat → Prop} {d : DV} {v x : Value} (hd : DR P S γ L h d v) (e : wp d = some x) : v = x := by
 unfold wp at e
 split at e
 ·cases e; exact PR.scal (P := P) (S := S) (h := h) hd
 ·rename_i xs
  obtain ⟨vs, rfl, h1⟩ := hd
  cases hq : yk xs with
  | none => rw [hq] at e; cases e
  | some l =>
   rw [hq] at e; cases e
   have := vz h1 hq
   rw [← this]
 ·cases e
def scD (o : Option Value) : Option DV := match o with
 | some v => if scal v then some (.p (.v v)) else none
 | none => none
theorem jx {S : Nat → Prop} {o : Option Value} {d : DV} (e : scD o = some d) : ∃ v, o = some v ∧ DR P S γ L h d v := by
 unfold scD at e
 split at e
 ·split at e
  ·rename_i v hv; cases e; exact ⟨v, rfl, PR.v hv⟩
  ·cases e
 ·cases e
end
end Go.Sim

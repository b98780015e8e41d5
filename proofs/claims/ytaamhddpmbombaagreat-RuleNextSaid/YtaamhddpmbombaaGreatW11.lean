/- Part 11 of the claim RuleNext: T21, LRules -/
import Derived.Test.YtaamhddpmbombaaGreatW7
import Derived.Test.YtaamhddpmbombaaGreatW10
set_option linter.unusedSimpArgs false
set_option linter.unusedVariables false
set_option linter.defProp false
namespace Go.Sim
open Go.RowKit
def CT.ok : (c : CT) → c.T → Prop
 | .int k, n => k.min ≤ (show Int from n) ∧ (show Int from n) ≤ k.max
 | .bool, _ => True
 | .str, s => s.size ≤ maxLen
 | .sl r, xs => (show List r.T from xs).length ≤ maxLen ∧ ∀ x ∈ (show List r.T from xs), CT.ok r x
 | .pair a b, x => CT.ok a x.1 ∧ CT.ok b x.2
def a9e (f : TypeId → CT → Bool) (P : Program) : List Field → CT → Nat → Nat → Bool
 | [], _, _, _ => false
 | fd :: r, c, off, tot => match r with
  | [] => fd.offset == off && f fd.type c && P.cellsOf fd.type == c.size && off + c.size == tot
  | _ :: _ => match c with
   | .pair a b => fd.offset == off && f fd.type a && P.cellsOf fd.type == a.size && a9e f P r b (off + a.size) tot
   | _ => false
def a9w (f : CT → Bool) (z : Nat) : Nat → CT → Bool
 | 0, _ => false
 | n + 1, c => match n with
  | 0 => f c && c.size == z
  | m + 1 => match c with
   | .pair a b => f a && a.size == z && a9w f z (m + 1) b
   | _ => false
def fitT (P : Program) : Nat → TypeId → CT → Bool
 | 0, _, _ => false
 | n + 1, t, c => match P.underlying t with
  | some .bool => c.eqb .bool
  | some (.int k) => c.eqb (.int k)
  | some .string => c.eqb .str
  | some (.slice e) => match c with
   | .sl r => fitT P n e r && P.cellsOf e == r.size
   | _ => false
  | some (.struct fs) => a9e (fitT P n) P fs.toList c 0 (P.cellsOf t)
  | some (.array len e) => a9w (fitT P n e) (P.cellsOf e) len c && c.size == P.cellsOf t
  | _ => false
section
variable {P : Program} {h : Heap}
def aeS (h : Heap) (b : Nat) : Prop := b < h.next
abbrev PRs (P : Program) (h : Heap) := All2 (fun (p : PV) (v : Value) => PR P (aeS h) h p v)
theorem a27 {z : Nat} : ∀ {rows : List (List Value)}, (∀ r ∈ rows, r.length = z) → ∀ (i : Nat) (row : List Value) (j : Nat), rows[i]? = some row → j < z → rows.flatten[i * z + j]? = row[j]?
 | [], _, i, row, j, h, _ => by simp at h
 | r :: rows, hz, i, row, j, h, hj => by
  have hr := hz r List.mem_cons_self
  cases i with
  | zero =>
   simp at h; subst h
   rw [List.flatten_cons, Nat.zero_mul, Nat.zero_add, List.getElem?_append_left (by omega)]
  | succ i =>
   rw [List.flatten_cons, List.getElem?_append_right (by rw [hr, Nat.succ_mul]; omega), hr, show (i + 1) * z + j - z = i * z + j by rw [Nat.succ_mul]; omega]
   exact a27 (fun r hr => hz r (List.mem_cons_of_mem _ hr)) i row j (by simpa using h) hj
theorem X6 {c : CT} : ∀ {rows : List (List Value)}, (∀ r ∈ rows, ∃ x : c.T, CT.ok c x ∧ PRs P h (qF c x) r) → ∃ xs : List c.T, (∀ x ∈ xs, CT.ok c x) ∧ All2 (fun x r => PRs P h (qF c x) r) xs rows
 | [], _ => ⟨[], fun x hx => by simp at hx, .nil⟩
 | r :: rows, hr => by
  obtain ⟨x, h1, h2⟩ := hr r List.mem_cons_self
  obtain ⟨xs, h3, h4⟩ := X6 fun r h => hr r (List.mem_cons_of_mem _ h)
  exact ⟨x :: xs, fun y hy => by rcases List.mem_cons.1 hy with rfl | hy; exact h1; exact h3 y hy, .cons h2 h4⟩
theorem UE {f : TypeId → CT → Bool} {R : TypeId → List Value → Prop} (hf : ∀ t c cs, R t cs → f t c = true → cs.length = c.size ∧ ∃ x : c.T, CT.ok c x ∧ PRs P h (qF c x) cs) {cs : List Value} {tot : Nat} (hl : cs.length = tot) :
  ∀ (fs : List Field) (c : CT) (off : Nat), a9e f P fs c off tot = true → (∀ fd ∈ fs, R fd.type ((cs.drop fd.offset).take (P.cellsOf fd.type))) → (cs.drop off).length = c.size ∧ ∃ x : c.T, CT.ok c x ∧ PRs P h (qF c x) (cs.drop off)
 | [], c, off, e, _ => by cases e
 | [fd], c, off, e, hr => by
  simp only [a9e, Bool.and_eq_true, beq_iff_eq] at e
  obtain ⟨⟨⟨e1, e2⟩, e3⟩, e4⟩ := e
  obtain ⟨h1, x, h2, h3⟩ := hf _ c _ (hr fd List.mem_cons_self) e2
  rw [e1, e3, List.take_of_length_le (by simp; omega)] at h1 h3
  exact ⟨h1, x, h2, h3⟩
 | fd :: g :: r, c, off, e, hr => by
  cases c with
  | pair a b =>
   simp only [a9e, Bool.and_eq_true, beq_iff_eq] at e
   obtain ⟨⟨⟨e1, e2⟩, e3⟩, e4⟩ := e
   obtain ⟨h1, x, h2, h3⟩ := hf _ a _ (hr fd List.mem_cons_self) e2
   obtain ⟨g1, y, g2, g3⟩ := UE hf hl (g :: r) b (off + a.size) (by simpa [a9e] using e4) fun fd h => hr fd (List.mem_cons_of_mem _ h)
   rw [e1, e3] at h1 h3
   have hcut : cs.drop off = (cs.drop off).take a.size ++ cs.drop (off + a.size) := by
    rw [← List.drop_drop]; exact (List.take_append_drop _ _).symm
   refine ⟨?_, (x, y), ⟨h2, g2⟩, ?_⟩
   ·rw [hcut, List.length_append, h1, g1]; rfl
   ·rw [hcut]; exact h3.append g3
  | _ => simp [a9e] at e
theorem UT {f : CT → Bool} {z : Nat} {R : List Value → Prop} (hf : ∀ c cs, R cs → f c = true → cs.length = c.size ∧ ∃ x : c.T, CT.ok c x ∧ PRs P h (qF c x) cs) {cs : List Value} :
  ∀ (n : Nat) (c : CT) (k : Nat), a9w f z n c = true → (∀ i, i < n → R ((cs.drop ((k + i) * z)).take z)) → cs.length = k * z + c.size → (cs.drop (k * z)).length = c.size ∧ ∃ x : c.T, CT.ok c x ∧ PRs P h (qF c x) (cs.drop (k * z))
 | 0, c, k, e, _, _ => by cases e
 | 1, c, k, e, hr, hl => by
  simp only [a9w, Bool.and_eq_true, beq_iff_eq] at e
  have h0 := hr 0 (by omega)
  rw [Nat.add_zero, List.take_of_length_le (by simp; omega)] at h0
  obtain ⟨h1, x, h2, h3⟩ := hf c _ h0 e.1
  exact ⟨h1, x, h2, h3⟩
 | n + 2, c, k, e, hr, hl => by
  cases c with
  | pair a b =>
   simp only [a9w, Bool.and_eq_true, beq_iff_eq] at e
   obtain ⟨⟨e1, e2⟩, e3⟩ := e
   have h0 := hr 0 (by omega)
   rw [Nat.add_zero] at h0
   obtain ⟨h1, x, h2, h3⟩ := hf a _ h0 e1
   have hl' : cs.length = (k + 1) * z + b.size := by rw [hl, Nat.succ_mul]; simp only [CT.size]; omega
   obtain ⟨g1, y, g2, g3⟩ := UT hf (n + 1) b (k + 1) (by simpa [a9w] using e3) (fun i hi => by have := hr (i + 1) (by omega); rwa [show k + (i + 1) = k + 1 + i by omega] at this) hl'
   have hcut : cs.drop (k * z) = (cs.drop (k * z)).take z ++ cs.drop ((k + 1) * z) := by
    rw [show (k + 1) * z = k * z + z by rw [Nat.succ_mul], ← List.drop_drop]; exact (List.take_append_drop _ _).symm
   refine ⟨?_, (x, y), ⟨h2, g2⟩, ?_⟩
   ·rw [hcut, List.length_append, h1, g1]; rfl
   ·rw [hcut]; exact h3.append g3
  | _ => simp [a9w] at e
theorem a4U : ∀ (n d : Nat) (t : TypeId) (c : CT) (cs : List Value), RV P h d t cs → fitT P n t c = true → cs.length = c.size ∧ ∃ x : c.T, CT.ok c x ∧ PRs P h (qF c x) cs
 | 0, d, t, c, cs, _, e => by cases e
 | n + 1, 0, t, c, cs, hr, _ => hr.elim
 | n + 1, d + 1, t, c, cs, hr, e => by
  unfold fitT at e
  unfold RV at hr
  split at e
  ·rename_i hu
   rw [hu] at hr
   have := CT.of_eqb e
   subst this
   obtain ⟨b, rfl⟩ := hr
   exact ⟨rfl, b, trivial, .cons (.v rfl) .nil⟩
  ·rename_i k hu
   rw [hu] at hr
   have := CT.of_eqb e
   subst this
   obtain ⟨x, rfl, hx⟩ := hr
   simp only [Lit.wf, Bool.and_eq_true, decide_eq_true_eq] at hx
   exact ⟨rfl, x, hx, .cons (.v rfl) .nil⟩
  ·rename_i hu
   rw [hu] at hr
   have := CT.of_eqb e
   subst this
   obtain ⟨s, rfl, hs⟩ := hr
   exact ⟨rfl, s, hs, .cons (.v rfl) .nil⟩
  ·rename_i te hu
   rw [hu] at hr
   split at e
   ·rename_i r
    simp only [Bool.and_eq_true, beq_iff_eq] at e
    rcases hr with rfl | rfl | ⟨b, rows, rfl, hne, hm, hg, hrows⟩
    ·exact ⟨rfl, [], ⟨Nat.zero_le _, fun x hx => by simp at hx⟩, .cons .nil .nil⟩
    ·exact ⟨rfl, [], ⟨Nat.zero_le _, fun x hx => by simp at hx⟩, .cons .dud .nil⟩
    ·obtain ⟨xs, h1, h2⟩ := X6 (P := P) (h := h) (c := r) (rows := rows) fun row hrow => (a4U n d te r row (hrows row hrow).2 e.1).2
     have hl : xs.length = rows.length := h2.length
     have hz : ∀ row ∈ rows, row.length = r.size := fun row hrow => by rw [(hrows row hrow).1, e.2]
     refine ⟨rfl, xs, ⟨by rw [hl]; exact hm, h1⟩, .cons ?_ .nil⟩
     have hml : (xs.map (qF r)).length = rows.length := by simp [hl]
     rw [← hml]
     refine PR.sl (h.wf _ _ hg) hg (CT.size_pos r) ?_ ?_ ?_ (.inl rfl) (by rw [hml]; exact hm)
     ·rw [hml, vu rows r.size hz]; omega
     ·intro i row hrow
      rw [List.getElem?_map] at hrow
      cases hx : xs[i]? with
      | none => rw [hx] at hrow; cases hrow
      | some x => rw [hx] at hrow; cases hrow; exact kd r x
     ·intro i row j p u hrow hp hu'
      rw [List.getElem?_map] at hrow
      cases hx : xs[i]? with
      | none => rw [hx] at hrow; cases hrow
      | some x =>
       rw [hx] at hrow; cases hrow
       obtain ⟨vrow, hv, hpr⟩ := h2.get hx
       have hj : j < r.size := by rw [← kd r x]; exact (List.getElem?_eq_some_iff.1 hp).1
       rw [Nat.zero_add, a27 hz i vrow j hv hj] at hu'
       obtain ⟨u', hu2, hpr2⟩ := hpr.get hp
       rw [hu'] at hu2; cases hu2
       exact hpr2
   ·cases e
  ·rename_i fs hu
   rw [hu] at hr
   obtain ⟨h1, h2⟩ := hr
   have := UE (P := P) (h := h) (f := fitT P n) (R := fun t cs => RV P h d t cs) (fun t c cs hr he => a4U n d t c cs hr he) h1 fs.toList c 0 e (fun fd hfd => h2 fd hfd)
   rwa [List.drop_zero] at this
  ·rename_i len te hu
   rw [hu] at hr
   obtain ⟨h1, h2⟩ := hr
   simp only [Bool.and_eq_true, beq_iff_eq] at e
   have := UT (P := P) (h := h) (f := fitT P n te) (z := P.cellsOf te) (R := fun cs => RV P h d te cs) (fun c cs hr he => a4U n d te c cs hr he) len c 0 e.1 (fun i hi => by rw [Nat.zero_add]; exact h2 i hi) (by rw [h1, e.2]; omega)
   rwa [Nat.zero_mul, List.drop_zero] at this
  ·cases e
def CTs : List CT → Type
 | [] => Unit
 | c :: r => c.T × CTs r
def CT.oks : (cs : List CT) → CTs cs → Prop
 | [], _ => True
 | c :: r, x => CT.ok c x.1 ∧ CT.oks r x.2
def ZK (P : Program) (t : TypeId) : Bool := match P.underlying t with
 | some (.struct _) => true
 | some (.array _ _) => true
 | _ => false
def acl (P : Program) (t : TypeId) (c : CT) (x : c.T) : TV := if ZK P t then .agg (tvC c x) else (tvC c x).headD a8b
def a5h (P : Program) : List TypeId → (cs : List CT) → CTs cs → List TV
 | t :: ts, c :: cs, x => acl P t c x.1 :: a5h P ts cs x.2
 | _, _, _ => []
def a23 (P : Program) (n : Nat) : List TypeId → List CT → Bool
 | [], [] => true
 | t :: ts, c :: cs => fitT P n t c && (ZK P t || c.size == 1) && a23 P n ts cs
 | _, _ => false
theorem a4n : ∀ (c : CT) (x : c.T), (tvC c x).all isC = true
 | .int _, _ => rfl
 | .bool, _ => rfl
 | .str, _ => rfl
 | .sl _, _ => rfl
 | .pair a b, x => by simp only [tvC, List.all_append, a4n a, a4n b, Bool.and_self]
theorem aho {S : Nat → Prop} {γ : Pl} {M : List Obj} : ∀ {c : CT} {x : c.T} {vs : List Value}, All2 (fun p v => PR P S h p v) (qF c x) vs → All2 (DC P S γ M h) ((tvC c x).map qp) vs := by
 intro c x vs ha
 rw [Zz]
 generalize qF c x = ps at ha
 induction ha with
 | nil => exact .nil
 | cons a _ ih => exact .cons a ih
theorem a4z {S : Nat → Prop} (hS : ∀ b, aeS h b → S b) {γ : Pl} {M : List Obj} (n d : Nat) : ∀ (ts : List TypeId) (cs : List CT) (vs : List Value), RVals P h d ts vs → a23 P n ts cs = true → ∃ xs : CTs cs, CT.oks cs xs ∧ All2 (DR P S γ M h) ((a5h P ts cs xs).map enc) vs
 | [], [], [], _, _ => ⟨(), trivial, .nil⟩
 | t :: ts, c :: cs, v :: vs, hr, hf => by
  simp only [a23, Bool.and_eq_true] at hf
  obtain ⟨⟨f1, f2⟩, f3⟩ := hf
  obtain ⟨xs, h1, h2⟩ := a4z hS n d ts cs vs hr.2 f3
  have mono : ∀ {x : c.T} {us : List Value}, PRs P h (qF c x) us → All2 (fun p v => PR P S h p v) (qF c x) us := fun q => q.mono fun _ _ hp => hp.mono fun b hb => ⟨hS b hb, rfl⟩
  have hv := hr.1
  unfold RVal at hv
  have agg : ZK P t = true → (∃ us : List Value, v = .agg us.toArray ∧ RV P h d t us) → ∃ xs : CTs (c :: cs), CT.oks (c :: cs) xs ∧ All2 (DR P S γ M h) ((a5h P (t :: ts) (c :: cs) xs).map enc) (v :: vs) := by
   rintro ha ⟨us, rfl, hu⟩
   obtain ⟨_, x, q1, q2⟩ := a4U n d t c us hu f1
   refine ⟨(x, xs), ⟨q1, h1⟩, .cons ?_ h2⟩
   show DR P S γ M h (enc (acl P t c x)) _
   unfold acl
   rw [if_pos ha]
   exact ⟨us.toArray, rfl, by simpa using aho (mono q2)⟩
  split at hv
  ·rename_i fs hu; exact agg (by unfold ZK; rw [hu]) hv
  ·rename_i m te hu; exact agg (by unfold ZK; rw [hu]) hv
  ·rename_i n1 n2
   have hna : ZK P t = false := by
    unfold ZK
    split
    ·rename_i hu; exact absurd hu (n1 _)
    ·rename_i hu; exact absurd hu (n2 _ _)
    ·rfl
   obtain ⟨_, x, q1, q2⟩ := a4U n d t c [v] hv f1
   refine ⟨(x, xs), ⟨q1, h1⟩, .cons ?_ h2⟩
   show DR P S γ M h (enc (acl P t c x)) _
   unfold acl
   rw [if_neg (by rw [hna]; decide)]
   have hdc := aho (γ := γ) (M := M) (mono q2)
   have hC := a4n c x
   generalize tvC c x = l at hdc hC
   cases l with
   | nil => cases hdc
   | cons y l =>
    cases hdc with
    | cons a t =>
     simp only [List.all_cons, Bool.and_eq_true] at hC
     exact (a2v hC.1).2 a
 | [], _ :: _, _, _, hf => by simp [a23] at hf
 | _ :: _, [], _, _, hf => by simp [a23] at hf
 | [], [], _ :: _, hr, _ => hr.elim
 | _ :: _, _ :: _, [], hr, _ => hr.elim
theorem acB {f : FuncId} {av : VS} {m : ShT av [] → Option (RT [(.bool, [])])} (he : qu P ⟨f, av, [], [(.bool, [])], m⟩) (n d : Nat) (ts : List TypeId) (cs : List CT) (hf : a23 P n ts cs = true) (conv : CTs cs → ShT av []) (hc : ∀ xs, (conv xs).vals = a5h P ts cs xs)
  (hm : ∀ xs, CT.oks cs xs → m (conv xs) = some (true : Bool)) (h : Heap) (ars : List Value) (hr : RVals P h d ts ars) : ACalls P f ars h (fun v _ => v = .bool true) := by
 let W0 : Ent := { start := h.next, W := fun _ => False, A := fun _ => True, pin := fun _ _ => False, cnt := 0, few := fun _ _ e => e.elim, sub := fun _ e => e.elim }
 have hS : ∀ b, aeS h b → qd W0 UB [] h b := fun b hb => ⟨hb, .inr trivial, fun id o x e => by simp at e⟩
 obtain ⟨xs, h1, h2⟩ := a4z (P := P) (γ := UB) (M := []) hS n d ts cs ars hr hf
 have hd := he (conv xs) true (hm xs h1)
 simp only at hd
 rw [hc] at hd
 have hobj : (conv xs).objs = [] := List.length_eq_zero_iff.1 (QM _ _ _ _)
 rw [hobj] at hd
 refine (hd W0 UB h ars (Nat.le_refl _) (a9S W0 h rfl fun _ _ e => e) h2).mono ?_
 rintro v h' ⟨γ', r, A', hq, H', hdr⟩
 obtain ⟨w, hw, rfl, _⟩ := (show RQ1 (.bool, []) (true : Bool) r A' from hq)
 have hw' : [TV.v (.bool true)] = [w] := hw
 cases hw'
 exact PR.scal (P := P) (S := qd W0 γ' A' h') (h := h') hdr
end
end Go.Sim
set_option maxRecDepth 100000
namespace Go.Sim
open Go.Proofs
abbrev ctC : CT := .pair (.int .i32) (.pair (.pair (.int .i32) (.int .i32)) (.pair (.int .u8) (.pair (.int .u8) (.pair (.int .u8) (.int .u8)))))
abbrev ctA : CT := .pair (.int .i64) (.pair (.int .i64) (.pair (.int .i64) (.pair (.int .i64) (.pair ctC (.pair (.int .i32) (.pair (.pair (.int .u8) (.pair (.int .u8) (.int .u8))) (.sl ctC)))))))
abbrev ctK : CT := .pair (.int .i64) (.int .i32)
theorem a0c {n : Int} (h : CT.ok (.int .i32) n) : zU n := by
 obtain ⟨h1, h2⟩ := h
 have e1 : IntKind.i32.min = -2147483648 := by decide +kernel
 have e2 : IntKind.i32.max = 2147483647 := by decide +kernel
 rw [e1] at h1
 rw [e2] at h2
 exact ⟨h1, Int.lt_of_le_of_lt h2 (by decide)⟩
theorem ad8 {n : Int} (h : CT.ok (.int .i64) n) : va n := by
 obtain ⟨h1, h2⟩ := h
 have e1 : IntKind.i64.min = -9223372036854775808 := by decide +kernel
 have e2 : IntKind.i64.max = 9223372036854775807 := by decide +kernel
 rw [e1] at h1
 rw [e2] at h2
 exact ⟨h1, Int.lt_of_le_of_lt h2 (by decide)⟩
theorem uZ {n : Int} (h : CT.ok (.int .u8) n) : u8r n := by
 obtain ⟨h1, h2⟩ := h
 have e1 : IntKind.u8.min = 0 := by decide +kernel
 have e2 : IntKind.u8.max = 255 := by decide +kernel
 rw [e1] at h1
 rw [e2] at h2
 exact ⟨h1, Int.lt_of_le_of_lt h2 (by decide)⟩
theorem adJ {c : qc} (h : CT.ok ctC c) : OkC c := ⟨a0c h.1, a0c h.2.1.1, a0c h.2.1.2, uZ h.2.2.1, uZ h.2.2.2.1, uZ h.2.2.2.2.1, uZ h.2.2.2.2.2⟩
theorem ai2 {a : abA} (h : CT.ok ctA a) : OkA a := ⟨ad8 h.2.1, ad8 h.2.2.1, adJ h.2.2.2.2.1, a0c h.2.2.2.2.2.1, uZ h.2.2.2.2.2.2.1.1, uZ h.2.2.2.2.2.2.1.2.1, uZ h.2.2.2.2.2.2.1.2.2, fun c hc => adJ (h.2.2.2.2.2.2.2.2 c hc)⟩
theorem aaA (h : Heap) (vs : List Value) (hr : RVals Tryz.prog h 12 [3, 3, 22, 23] vs) : ACalls Tryz.prog 3 vs h (fun v _ => v = .bool true) := by
 have ha : ZK Tryz.prog 3 = false := by kernel_rfl
 have hb : ZK Tryz.prog 22 = false := by kernel_rfl
 have hc : ZK Tryz.prog 23 = false := by kernel_rfl
 refine acB (P := Tryz.prog) (f := 3) (av := .cons (.int .i64) (.cons (.int .i64) (.cons (.sl ctA) (.sl ctK)))) (m := fun s => KM s.1 s.2.1 s.2.2.1 s.2.2.2) a0M 12 12 [3, 3, 22, 23] [.int .i64, .int .i64, .sl ctA, .sl ctK] (by kernel_rfl) (fun x => (x.1, x.2.1, x.2.2.1, x.2.2.2.1)) (fun x => ?_) (fun x hx => ?_) h vs hr
 ·simp only [a5h, acl, ha, hb, hc]
  rfl
 ·obtain ⟨-, -, h3, h4, -⟩ := hx
  exact aed (rows := x.1) (cols := x.2.1) (fun a q => ai2 (h3.2 a q)) (fun y q => a0c (h4.2 y q).2)
end Go.Sim

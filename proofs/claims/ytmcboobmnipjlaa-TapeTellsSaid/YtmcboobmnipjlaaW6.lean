/- Part 6 of the claim TapeTells: T2, T3, T4, T5, T6, T7, I5, T8, S1, T9, TF -/
import Derived.Scope
import Derived.Lib.Bytes
import Derived.Test.YtmcboobmnipjlaaW5
import Derived.Test.YtmcboobmnipjlaaW4
set_option linter.unusedSimpArgs false
set_option linter.unusedVariables false
set_option linter.defProp false
namespace Go.Sim
open Go.RowKit

def tlook (t : Nat) : List (Nat × TV) → Option TV
  | [] => none
  | (t', d) :: l => if t' = t then some d else tlook t l
structure TFrm where
  n : Nat
  c : Nat
  l : List (Nat × TV)
def TFrm.put (a : TFrm) (t : Option Nat) (d : TV) : TFrm := match t with
  | some t => if t < a.n then ⟨a.n, a.c, (t, d) :: a.l⟩ else a
  | none => a
abbrev undT : TV := .tup []
def constT (v : Value) : Option TV := if scal v then some (.v v) else match v with
  | .tuple xs => if xs.size = 0 then some undT else none
  | _ => none
def TFrm.ev (a : TFrm) : Operand → Option TV
  | .tmp t => tlook t a.l
  | .const v => constT v
  | .func f => some (.fn f [] [])
  | .global _ => none
abbrev TRho := Operand → Option TV
def allT (ρ : TRho) : List Operand → Option (List TV)
  | [] => some []
  | x :: r => match ρ x, allT ρ r with
    | some v, some vs => some (v :: vs)
    | _, _ => none
def allTP (ρ : TRho) : List (Nat × Operand) → Option (List (Nat × TV))
  | [] => some []
  | (i, x) :: r => match ρ x, allTP ρ r with
    | some v, some vs => some ((i, v) :: vs)
    | _, _ => none
def cellsT : TV → List TV
  | .agg xs => xs
  | d => [d]
def is1T : TV → Bool
  | .tup _ => false
  | _ => true
/-- Is it one cell? -/
def isC : TV → Bool
  | .agg _ => false
  | .tup _ => false
  | _ => true
def cellT : Option TV → Option TV
  | some d => if isC d then some d else none
  | none => none
def tpartV (P : Program) (t : TypeId) (cs : List TV) (off : Nat) : Option TV :=
  match P.underlying t with
  | none => none
  | some _ => if aggT P t then match szT P t with
      | some n => if off + n ≤ cs.length then some (.agg ((cs.drop off).take n)) else none
      | none => none
    else cellT cs[off]?
def valsT : List TV → Option (List Value)
  | [] => some []
  | x :: l => match x with
    | .v x => (valsT l).map (x :: ·)
    | _ => none
def valT : TV → Option Value
  | .v x => some x
  | .agg xs => (valsT xs).map fun l => .agg l.toArray
  | _ => none
def scT (o : Option Value) : Option TV := match o with
  | some v => if scal v then some (.v v) else none
  | none => none
def shadowT : TV → Option Value
  | .ptr _ _ => some (.pointer (some ⟨0, 0, none⟩))
  | .dp _ _ _ => some (.pointer (some ⟨0, 0, none⟩))
  | .fn f _ _ => some (.func (.func f) #[] #[])
  | _ => none
/-- What is left of code: cases, things that may lack, an answer. -/
inductive Tree (R : Type) : Type 1
  | fail
  | ret (r : R)
  | cond (b : Bool) (x y : Tree R)
  | bind (α : Type) (o : Option α) (k : α → Tree R)
  | case (α β : Type) (s : α ⊕ β) (f : α → Tree R) (g : β → Tree R)
  | both (x y : Tree R)
open Classical in
/-- Where either may happen, the answer must be the same. -/
noncomputable def bothM {R : Type} (x y : Option R) : Option R := if x = y then x else none
theorem bothM_same {R : Type} (x : Option R) : bothM x x = x := by unfold bothM; rw [if_pos rfl]
theorem bothM_some {R : Type} {x y : Option R} {a : R} (h : bothM x y = some a) : x = some a ∧ y = some a := by
  unfold bothM at h
  split at h
  · rename_i e; exact ⟨h, e ▸ h⟩
  · cases h
noncomputable def Tree.run {R : Type} : Tree R → Option R
  | .fail => none
  | .ret r => some r
  | .cond b x y => match b with
    | true => x.run
    | false => y.run
  | .bind _ o k => match o with
    | some x => (k x).run
    | none => none
  | .case _ _ s f g => match s with
    | .inl a => (f a).run
    | .inr b => (g b).run
  | .both x y => bothM x.run y.run
def Tree.map {R S : Type} (j : R → S) : Tree R → Tree S
  | .fail => .fail
  | .ret r => .ret (j r)
  | .cond b x y => .cond b (x.map j) (y.map j)
  | .bind α o k => .bind α o fun x => (k x).map j
  | .case α β s f g => .case α β s (fun a => (f a).map j) (fun b => (g b).map j)
  | .both x y => .both (x.map j) (y.map j)
theorem Tree.run_map {R S : Type} (j : R → S) (hj : ∀ a b, j a = j b → a = b) : ∀ t : Tree R, (t.map j).run = t.run.map j
  | .fail => rfl
  | .ret r => rfl
  | .cond b x y => by cases b <;> simp only [Tree.map, Tree.run] <;> exact Tree.run_map j hj _
  | .bind α o k => by
    cases o with
    | none => rfl
    | some x => exact Tree.run_map j hj (k x)
  | .case α β s f g => by
    cases s with
    | inl a => exact Tree.run_map j hj (f a)
    | inr b => exact Tree.run_map j hj (g b)
  | .both x y => by
    show bothM (x.map j).run (y.map j).run = (bothM x.run y.run).map j
    rw [Tree.run_map j hj x, Tree.run_map j hj y]
    unfold bothM
    by_cases h : x.run = y.run
    · rw [if_pos h, if_pos (by rw [h])]
    · rw [if_neg h, if_neg fun q => h ?_]
      · rfl
      · cases hx : x.run <;> cases hy : y.run <;> rw [hx, hy] at q <;> first | rfl | (simp at q; done) | (simp only [Option.map_some, Option.some.injEq] at q; rw [hj _ _ q])
def tif {R : Type} (c : Prop) [Decidable c] (x : Tree R) : Tree R := .cond (decide c) x .fail
theorem tif_run {R : Type} (c : Prop) [Decidable c] (x : Tree R) : (tif c x).run = if c then x.run else none := by
  unfold tif
  by_cases h : c <;> simp [h, Tree.run]
/-- Conditions that are left. -/
def chk {R : Type} : List (Nat × Nat) → Tree R → Tree R
  | [], o => o
  | (a, b) :: r, o => tif (a = b) (chk r o)
theorem chk_some {R : Type} {o : Tree R} {a : R} : ∀ {l : List (Nat × Nat)}, (chk l o).run = some a → (∀ p ∈ l, p.1 = p.2) ∧ o.run = some a
  | [], e => ⟨fun p hp => by simp at hp, e⟩
  | (x, y) :: r, e => by
    unfold chk at e
    rw [tif_run] at e
    split at e
    · rename_i h
      obtain ⟨h1, h2⟩ := chk_some e
      exact ⟨fun p hp => by rcases List.mem_cons.1 hp with rfl | hp; exact h; exact h1 p hp, h2⟩
    · cases e
/-- Of something that is known to be there, or not. -/
def obind {α R : Type} (o : Option α) (k : α → Tree R) : Tree R := match o with
  | some x => k x
  | none => .fail
theorem obind_some {α R : Type} {o : Option α} {k : α → Tree R} {a : R} (e : (obind o k).run = some a) : ∃ x, o = some x ∧ (k x).run = some a := by
  cases o with
  | none => cases e
  | some x => exact ⟨x, rfl, e⟩
/-- Of something that may be there. -/
def sbind {α R : Type} (o : Option α) (k : α → Tree R) : Tree R := .bind α o k
theorem sbind_some {α R : Type} {o : Option α} {k : α → Tree R} {a : R} (e : (sbind o k).run = some a) : ∃ x, o = some x ∧ (k x).run = some a := by
  cases o with
  | none => cases e
  | some x => exact ⟨x, rfl, e⟩
def tbinV (P : Program) (op : BinOp) (t : TypeId) (a b : TV) : Option TV :=
  match valT a, valT b with
  | some x, some y => scT (binV P op t x y)
  | none, some y => if nilV y then match shadowT a with
      | some x => scT (binV P op t x y)
      | none => none
    else none
  | some x, none => if nilV x then match shadowT b with
      | some y => scT (binV P op t x y)
      | none => none
    else none
  | none, none => none
/-- Is a slice nil? Of an empty one nobody knows. -/
def tnil {R : Type} (xs : Nat) (b : Bool) (K : TV → Tree R) : Tree R := .cond (decide (xs = 0)) (.both (K (.v (.bool b))) (K (.v (.bool (!b))))) (K (.v (.bool (!b))))
def isSlT (P : Program) (t : TypeId) : Bool := match P.underlying t with
  | some (.slice _) => true
  | _ => false
def tbin {R : Type} (P : Program) (op : BinOp) (t : TypeId) (x y : TV) (K : TV → Tree R) : Tree R :=
  match op, x, y with
  | .quo, .v (.int k a), .v (.int k' b) => if k = k' then tif (b ≠ 0) (K (.v (.int k (k.wrap (a.tdiv b))))) else .fail
  | .rem, .v (.int k a), .v (.int k' b) => if k = k' then tif (b ≠ 0) (K (.v (.int k (a.tmod b)))) else .fail
  | .shl, .v (.int k a), .v (.int _ b) => tif (0 ≤ b) (K (.v (.int k (k.wrap (a * 2 ^ (min b.toNat k.bits))))))
  | .shr, .v (.int k a), .v (.int _ b) => tif (0 ≤ b) (K (.v (.int k (a.fdiv (2 ^ (min b.toNat k.bits))))))
  | .add, .v (.string a), .v (.string b) => tif (a.size + b.size ≤ 9223372036854775807) (K (.v (.string (a ++ b))))
  | .eql, .sl _ xs, .v (.slice none 0 0) => if isSlT P t then tnil xs.length true K else .fail
  | .neq, .sl _ xs, .v (.slice none 0 0) => if isSlT P t then tnil xs.length false K else .fail
  | op, x, y => obind (tbinV P op t x y) K
def setManyT : List TV → Nat → List TV → List TV
  | cs, _, [] => cs
  | cs, i, v :: r => setManyT (cs.set i v) (i + 1) r
def zeroT (P : Program) (t : TypeId) : Option (List TV) := match zeroCellsT P t with
  | some z => if z.all scal then some (z.map .v) else none
  | none => none
def fillT (place : Nat → Option (Nat × Nat)) (cells : List TV) : List (Nat × TV) → Option (List TV)
  | [] => some cells
  | (i, v) :: r => match place i with
    | none => none
    | some (off, sz) => if is1T v = true ∧ (cellsT v).length = sz ∧ off + sz ≤ cells.length then fillT place (setManyT cells off (cellsT v)) r else none
def tbuildV (P : Program) (t : TypeId) (ps : List (Nat × TV)) : Option TV :=
  match placesOf P t, zeroT P t with
  | some pl, some z => if zeroOk P t then (fillT pl z ps).map .agg else none
  | _, _ => none
def tfieldV (P : Program) (t : TypeId) (x : TV) (f : Nat) : Option TV :=
  match P.underlying t, x with
  | some (.struct fs), .agg cs => match fs[f]? with
    | some fd => tpartV P fd.type cs fd.offset
    | none => none
  | _, _ => none
/-- How many a list has. -/
def tlen (L : List TO) (id : Nat) : Option Nat := match L[id]? with
  | some (.li _ _ _ xs) => some xs.length
  | some (.fz _ _ _ xs) => some xs.length
  | _ => none
def ton {R : Type} (L : List TO) (k : Nat) (x : TV) (K : TV → Tree R) : Tree R := match x with
  | .ptr id off => K (.ptr id (off + k))
  | .ep id i off tot => obind (tlen L id) fun n => chk [(n, tot)] (K (.ep id i (off + k) tot))
  | .dp c y off => K (.dp c y (off + k))
  | _ => .fail
def intT : TV → Option Int
  | .v (.int _ n) => some n
  | _ => none
def tepT {R : Type} (c : CT) (s : Nat) (id n tot m : Nat) (K : TV → Tree R) : Tree R :=
  if c.size = s then tif (n < tot ∧ m = tot) (K (.ep id n 0 tot)) else .fail
def tindexAddr {R : Type} (P : Program) (L : List TO) (t : TypeId) (x i : TV) (K : TV → Tree R) : Tree R :=
  obind (intT i) fun n => match P.underlying t with
    | some (.slice e) => obind (szT P e) fun s => match x with
      | .sl c xs => if c.size = s then tif (0 ≤ n) (sbind xs[n.toNat]? fun y => K (.dp c y 0)) else .fail
      | .ref id tot => tif (0 ≤ n) (match L[id]? with
        | some (.li c _ _ xs) => tepT c s id n.toNat tot xs.length K
        | some (.fz c _ _ xs) => tepT c s id n.toNat tot xs.length K
        | _ => .fail)
      | .part id lo m tot => tif (0 ≤ n ∧ n.toNat < m) (match L[id]? with
        | some (.li c _ _ xs) => tepT c s id (lo + n.toNat) tot xs.length K
        | some (.fz c _ _ xs) => tepT c s id (lo + n.toNat) tot xs.length K
        | _ => .fail)
      | .aref id off m => tif (0 ≤ n ∧ n.toNat < m) (K (.ptr id (off + n.toNat * s)))
      | _ => .fail
    | some (.array len e) => obind (szT P e) fun s => tif (0 ≤ n ∧ n.toNat < len) (ton L (n.toNat * s) x K)
    | _ => .fail
def tload {R : Type} (P : Program) (L : List TO) (t : TypeId) (x : TV) (K : TV → Tree R) : Tree R := match x with
  | .ptr id off => match L[id]? with
    | some (.st cells) => obind (tpartV P t cells off) K
    | _ => .fail
  | .ep id i off tot => match L[id]? with
    | some (.li c _ _ xs) => tif (xs.length = tot) (sbind xs[i]? fun y => obind (tpartV P t (tvC c y) off) K)
    | some (.fz c _ _ xs) => tif (xs.length = tot) (sbind xs[i]? fun y => obind (tpartV P t (tvC c y) off) K)
    | _ => .fail
  | .dp c y off => obind (tpartV P t (tvC c y) off) K
  | _ => .fail
/-- A cell that may stand in a row; a list that is put there is given up. -/
def frzC (P : Program) (L : List TO) : TV → TV × List TO × List (Nat × Nat)
  | .ref id tot => match L[id]? with
    | some (.li c e loc xs) => if szT P e = some c.size then (.sl c xs, L.set id (.fz c e loc xs), [(xs.length, tot)]) else (.ref id tot, L, [])
    | some (.fz c e _ xs) => if szT P e = some c.size then (.sl c xs, L, [(xs.length, tot)]) else (.ref id tot, L, [])
    | _ => (.ref id tot, L, [])
  | d => (d, L, [])
def frzCs (P : Program) (L : List TO) : List TV → List TV × List TO × List (Nat × Nat)
  | [] => ([], L, [])
  | x :: l => match frzC P L x with
    | (x', L', q) => match frzCs P L' l with
      | (l', L'', q') => (x' :: l', L'', q ++ q')
def frz1 (P : Program) (L : List TO) (x : TV) : TV × List TO × List (Nat × Nat) := match x with
  | .agg xs => match frzCs P L xs with
    | (xs', L', q) => (.agg xs', L', q)
  | d => frzC P L d
def frzPs (P : Program) (L : List TO) : List (Nat × TV) → List (Nat × TV) × List TO × List (Nat × Nat)
  | [] => ([], L, [])
  | (i, x) :: l => match frz1 P L x with
    | (x', L', q) => match frzPs P L' l with
      | (l', L'', q') => ((i, x') :: l', L'', q ++ q')
def isRow : TV → Bool
  | .v _ => true
  | .sl _ _ => true
  | _ => false
def tstore {R : Type} (P : Program) (L : List TO) (t : TypeId) (p x : TV) (K : List TO → Tree R) : Tree R := match p with
  | .ptr id off => match L[id]? with
    | some (.st cells) => if is1T x = true ∧ szT P t = some (cellsT x).length ∧ off + (cellsT x).length ≤ cells.length then K (L.set id (.st (setManyT cells off (cellsT x)))) else .fail
    | _ => .fail
  | .ep id i off tot => match frz1 P L x with
    | (x', L', q) => match L'[id]? with
      | some (.li c e loc xs) => if is1T x' = true ∧ szT P t = some (cellsT x').length ∧ off + (cellsT x').length ≤ c.size ∧ (cellsT x').all isRow = true then
          tif (xs.length = tot) (sbind xs[i]? fun y => obind (pack c (setManyT (tvC c y) off (cellsT x'))) fun z => chk q (K (L'.set id (.li c e loc (xs.set i z))))) else .fail
      | _ => .fail
  | _ => .fail
def bytesT (s : ByteArray) : List (CT.T (.int .u8)) := s.data.toList.map fun c => ((c.toNat : Int) : CT.T (.int .u8))
/-- What is appended or copied. -/
def tsrc {R : Type} (P : Program) (L : List TO) (c : CT) (t : TypeId) (x : TV) (K : List c.T → Tree R) : Tree R :=
  match P.underlying t with
  | some (.slice _) => match x with
    | .sl c' xs => if h : c'.eqb c = true then K (castS (CT.of_eqb h) xs) else .fail
    | .v (.slice none 0 0) => K []
    | .ref id tot => match L[id]? with
      | some (.li c' _ _ xs) => if h : c'.eqb c = true then chk [(xs.length, tot)] (K (castS (CT.of_eqb h) xs)) else .fail
      | some (.fz c' _ _ xs) => if h : c'.eqb c = true then chk [(xs.length, tot)] (K (castS (CT.of_eqb h) xs)) else .fail
      | _ => .fail
    | .part id lo n tot => match L[id]? with
      | some (.li c' _ _ xs) => if h : c'.eqb c = true then chk [(xs.length, tot)] (K ((List.drop lo (castS (CT.of_eqb h) xs)).take n)) else .fail
      | some (.fz c' _ _ xs) => if h : c'.eqb c = true then chk [(xs.length, tot)] (K ((List.drop lo (castS (CT.of_eqb h) xs)).take n)) else .fail
      | _ => .fail
    | _ => .fail
  | some .string => match x with
    | .v (.string s) => if h : (CT.int .u8).eqb c = true then K (castS (CT.of_eqb h) (bytesT s)) else .fail
    | _ => .fail
  | _ => .fail
def lim (b : Nat) : Nat := 140737488355328 / b
def tappend {R : Type} (P : Program) (ty : TypeId → Option CT) (ts : List TypeId) (L : List TO) (s x : TV) (K : TV → List TO → Tree R) : Tree R :=
  match ts with
  | [t, t2] => match P.underlying t with
    | some (.slice e) => obind (P.info? e) fun i => obind (zeroCellsT P e) fun _ => obind (ty e) fun c => if c.size = i.size ∧ 0 < i.bytes then
        tsrc P L c t2 x fun ys => match s with
          | .v (.slice none 0 0) => tif (ys.length ≤ lim i.bytes) (K (.ref L.length ys.length) (L ++ [.li c e false ys]))
          | .ref id tot => match L[id]? with
            | some (.li c' e' loc xs) => if e' = e then (if h : c'.eqb c = true then (tif (xs.length = tot ∧ tot + ys.length ≤ lim i.bytes) (
                K (.ref id (tot + ys.length)) (L.set id (.li c e loc (castS (CT.of_eqb h) xs ++ ys))))) else .fail) else .fail
            | _ => .fail
          | _ => .fail
      else .fail
    | _ => .fail
  | _ => .fail
def optT (ρ : TRho) : Option Operand → Option (Option Int)
  | none => some none
  | some x => match ρ x with
    | some d => (intT d).map some
    | none => none
/-- Bounds within so many, of which so many may be reached. -/
def tbounds {R : Type} (n : Nat) (lo hi : Option Int) (K : Option Nat → Option Nat → Tree R) : Tree R := match lo, hi with
  | none, none => K none none
  | none, some h => tif (0 ≤ h ∧ h.toNat ≤ n) (K none (some h.toNat))
  | some l, none => tif (0 ≤ l ∧ l.toNat ≤ n) (K (some l.toNat) none)
  | some l, some h => tif (0 ≤ l ∧ l ≤ h ∧ h.toNat ≤ n) (K (some l.toNat) (some h.toNat))
def cutL {α : Type} (xs : List α) : Option Nat → Option Nat → List α
  | none, none => xs
  | none, some h => xs.take h
  | some l, none => xs.drop l
  | some l, some h => (xs.drop l).take (h - l)
def cutN (n : Nat) : Option Nat → Option Nat → Nat × Nat
  | none, none => (0, n)
  | none, some h => (0, h)
  | some l, none => (l, n - l)
  | some l, some h => (l, h - l)
def tslice {R : Type} (P : Program) (L : List TO) (t : TypeId) (x : TV) (lo hi : Option Int) (K : TV → Tree R) : Tree R :=
  match P.underlying t with
  | some (.slice e) => obind (szT P e) fun s => match x with
    | .sl c xs => if c.size = s then tbounds xs.length lo hi fun l h => K (.sl c (cutL xs l h)) else .fail
    | .v (.slice none 0 0) => tbounds 0 lo hi fun _ _ => K x
    | .ref id tot => match L[id]? with
      | some (.li c e' _ xs) => if c.size = s ∧ e' = e then tif (0 < tot ∧ xs.length = tot) (tbounds tot lo hi fun l h => K (.part id (cutN tot l h).1 (cutN tot l h).2 tot)) else .fail
      | some (.fz c e' _ xs) => if c.size = s ∧ e' = e then tif (0 < tot ∧ xs.length = tot) (tbounds tot lo hi fun l h => K (.part id (cutN tot l h).1 (cutN tot l h).2 tot)) else .fail
      | _ => .fail
    | .part id a n tot => match L[id]? with
      | some (.li c e' _ xs) => if c.size = s ∧ e' = e then tif (0 < n ∧ xs.length = tot ∧ 0 < tot) (tbounds n lo hi fun l h => K (.part id (a + (cutN n l h).1) (cutN n l h).2 tot)) else .fail
      | some (.fz c e' _ xs) => if c.size = s ∧ e' = e then tif (0 < n ∧ xs.length = tot ∧ 0 < tot) (tbounds n lo hi fun l h => K (.part id (a + (cutN n l h).1) (cutN n l h).2 tot)) else .fail
      | _ => .fail
    | _ => .fail
  | _ => .fail
def tlenV {R : Type} (P : Program) (L : List TO) (t : TypeId) (x : TV) (K : TV → Tree R) : Tree R :=
  match P.underlying t with
  | some (.slice _) => match x with
    | .sl _ xs => K (.v (goInt xs.length))
    | .v (.slice none 0 0) => K (.v (goInt (0 : Nat)))
    | .ref id tot => obind (tlen L id) fun n => chk [(n, tot)] (K (.v (goInt tot)))
    | .part id _ m tot => obind (tlen L id) fun n => chk [(n, tot)] (K (.v (goInt m)))
    | .aref _ _ n => K (.v (goInt n))
    | _ => .fail
  | some .string => match x with
    | .v (.string s) => K (.v (goInt s.size))
    | _ => .fail
  | some (.array n _) => match x with
    | .agg _ => K (.v (goInt n))
    | _ => .fail
  | _ => .fail
def tconv {R : Type} (P : Program) (L : List TO) (s d : TypeId) (x : TV) (K : TV → List TO → Tree R) : Tree R :=
  match P.underlying s, P.underlying d with
  | some (.slice e), some .string => if isByteT P e = true then tsrc P L (.int .u8) s x fun xs => K (.v (.string (strOfNums xs))) L else .fail
  | some .string, some (.slice e) => match x with
    | .v (.string t) => if isByteT P e = true ∧ szT P e = some 1 then tif (t.size ≤ maxLen) (K (.ref L.length t.size) (L ++ [.li (.int .u8) e true (bytesT t)])) else .fail
    | _ => .fail
  | some (.slice _), some (.slice e) => match x with
    | .ref id tot => if s = d ∧ isByteT P e = true then (match L[id]? with
      | some (.li _ _ _ xs) => tif (0 < tot ∧ xs.length = tot) (K x L)
      | _ => .fail) else .fail
    | _ => .fail
  | _, _ => match valT x with
    | some v => obind (scT (convV P s d v)) fun d => K d L
    | none => .fail
def fillRowsT (c : CT) (rows : List c.T) : List (Nat × TV) → Option (List c.T)
  | [] => some rows
  | (i, d) :: r => if is1T d = true ∧ i < rows.length then match pack c (cellsT d) with
      | some y => fillRowsT c (rows.set i y) r
      | none => none
    else none
def tbuildSlice {R : Type} (P : Program) (ty : TypeId → Option CT) (L : List TO) (t : TypeId) (len : Nat) (ps : List (Nat × TV)) (K : TV → List TO → Tree R) : Tree R :=
  match P.underlying t with
  | some (.slice e) => obind (ty e) fun c => obind ((zeroT P e).bind (pack c)) fun z => if szT P e = some c.size ∧ len * c.size ≤ 16777216 ∧ len ≤ maxLen then
      (match frzPs P L ps with
      | (ps', L', q) => obind (fillRowsT c (List.replicate len z) ps') fun rows => chk q (K (.ref L'.length len) (L' ++ [.li c e true rows]))) else .fail
  | _ => .fail
def baseT : TV → Bool
  | .fn _ _ _ => false
  | .agg _ => false
  | .tup _ => false
  | _ => true
def dfuncT (f : Fn) (a b : Option (List TV)) : Option TV := match f, a, b with
  | .func k, some a, some b => if a.all baseT && b.all baseT then some (.fn k a b) else none
  | _, _, _ => none
def tpick {R : Type} (c : Option TV) (a b : Option TV) (K : TV → Tree R) : Tree R := match c with
  | some (.v (.bool t)) => match a, b with
    | some (.v (.bool x)), some (.v (.bool y)) => K (.v (.bool (cond t x y)))
    | a, b => .cond t (obind a K) (obind b K)
  | _ => .fail
def tindexV {R : Type} (P : Program) (ty : TypeId → Option CT) (t : TypeId) (x i : TV) (K : TV → Tree R) : Tree R :=
  match P.underlying t, x, intT i with
  | some (.array len e), .agg cs, some n => match szT P e with
    | some s => tif (0 ≤ n ∧ n.toNat < len) (obind (tpartV P e cs (n.toNat * s)) K)
    | none => .fail
  | some .string, .v (.string s), some n => tif (0 ≤ n) (sbind s[n.toNat]? fun b => K (.v (.int .u8 b.toNat)))
  | _, _, _ => .fail
def textractV (x : TV) (i : Nat) : Option TV := match x with
  | .tup xs => match xs[i]? with
    | some d => if is1T d then some d else none
    | none => none
  | _ => none
def valsOfT : List TV → Option (List Value)
  | [] => some []
  | d :: l => match valT d, valsOfT l with
    | some v, some vs => some (v :: vs)
    | _, _ => none
/-- A call, to be told by a table. -/
abbrev TCall (R : Type) := FuncId → List TV → List TO → (TV → List TO → Tree R) → Tree R
def top {R : Type} (P : Program) (ty : TypeId → Option CT) (call : TCall R) (o : Op) (ρ : TRho) (L : List TO) (K : TV → List TO → Tree R) : Tree R :=
  match o with
  | .move x => obind (ρ x) fun d => K d L
  | .assign x => obind (ρ x) fun d => K d L
  | .pick c a b => tpick (ρ c) (ρ a) (ρ b) fun d => K d L
  | .build t ps => obind (allTP ρ ps.toList) fun ds => obind (tbuildV P t ds) fun d => K d L
  | .field t x f => obind (ρ x) fun x => obind (tfieldV P t x f) fun d => K d L
  | .fieldAddr t x f => obind (ρ x) fun x => obind (offF P t f) fun k => ton L k x fun d => K d L
  | .unOp op _ x => obind (ρ x) fun x => obind (valT x) fun v => obind (scT (unV op v)) fun d => K d L
  | .binOp op t x y _ => obind (ρ x) fun x => obind (ρ y) fun y => tbin P op t x y fun d => K d L
  | .convert s d x => obind (ρ x) fun x => tconv P L s d x K
  | .makeFunc f a b => obind (dfuncT f (allT ρ a.toList) (allT ρ b.toList)) fun d => K d L
  | .indexAddr t x i => obind (ρ x) fun x => obind (ρ i) fun i => tindexAddr P L t x i fun d => K d L
  | .index t x i => obind (ρ x) fun x => obind (ρ i) fun i => tindexV P ty t x i fun d => K d L
  | .extract x i => obind (ρ x) fun x => obind (textractV x i) fun d => K d L
  | .nilCheck x => obind (ρ x) fun x => ton L 0 x fun d => K d L
  | .load t x => obind (ρ x) fun x => tload P L t x fun d => K d L
  | .store t x y => obind (ρ x) fun x => obind (ρ y) fun y => tstore P L t x y fun L' => K undT L'
  | .slice t x lo hi none => obind (ρ x) fun x => obind (optT ρ lo) fun lo => obind (optT ρ hi) fun hi => tslice P L t x lo hi fun d => K d L
  | .box t x => obind (ρ x) fun x => if is1T x = true ∧ szT P t = some (cellsT x).length then K (.ptr L.length 0) (L ++ [.st (cellsT x)]) else .fail
  | .alloc t => obind (zeroT P t) fun z => K (.ptr L.length 0) (L ++ [.st z])
  | .buildSlice t n ps => obind (allTP ρ ps.toList) fun ds => tbuildSlice P ty L t n ds K
  | .call { callee := .value f, args := args, argTypes := _ } => obind (ρ f) fun f => obind (allT ρ args.toList) fun ds => match f with
    | .fn k pre cap => if pre.all baseT && cap.all baseT then call k (pre ++ ds ++ cap) L K else .fail
    | _ => .fail
  | .call { callee := .builtin .append, args := args, argTypes := ts } => obind (allT ρ args.toList) fun ds => match ds with
    | [s, x] => tappend P ty ts.toList L s x K
    | _ => .fail
  | .call { callee := .builtin .len, args := args, argTypes := ts } => obind (allT ρ args.toList) fun ds => match ds, ts.toList with
    | [x], [t] => tlenV P L t x fun d => K d L
    | _, _ => .fail
  | .call { callee := .builtin .min, args := args, argTypes := _ } => obind (allT ρ args.toList) fun ds => obind (valsOfT ds) fun vs => obind (scT (minV vs)) fun d => K d L
  | .call { callee := .builtin .max, args := args, argTypes := _ } => obind (allT ρ args.toList) fun ds => obind (valsOfT ds) fun vs => obind (scT (maxV vs)) fun d => K d L
  | _ => .fail
end Go.Sim

set_option linter.unusedVariables false
namespace Go.Sim
open Go.RowKit
def eL (L : List TO) : List Obj := L.map encO
def encF (a : TFrm) : DFrm := ⟨a.n, a.c, a.l.map fun p => (p.1, enc p.2)⟩
def eRho (ρ : TRho) : DRho := fun x => (ρ x).map enc
theorem dlook_enc (t : Nat) : ∀ l : List (Nat × TV), dlook t (l.map fun p => (p.1, enc p.2)) = (tlook t l).map enc
  | [] => rfl
  | (t', d) :: l => by
    simp only [List.map_cons, dlook, tlook]
    split
    · rfl
    · exact dlook_enc t l
theorem put_enc (a : TFrm) (t : Option Nat) (d : TV) : encF (a.put t d) = (encF a).put t (enc d) := by
  cases t with
  | none => rfl
  | some t =>
    unfold TFrm.put DFrm.put encF
    simp only
    split <;> rfl
theorem constD_enc (v : Value) : constD v = (constT v).map enc := by
  unfold constD constT
  split
  · rfl
  · cases v <;> try rfl
    simp only
    split <;> rfl
theorem ev_enc (a : TFrm) (x : Operand) : (encF a).ev x = (a.ev x).map enc := by
  cases x with
  | tmp t => exact dlook_enc t a.l
  | const v => exact constD_enc v
  | func f => rfl
  | global g => rfl
theorem eRho_ev (a : TFrm) : eRho a.ev = (encF a).ev := funext fun x => (ev_enc a x).symm
section
variable {ρ : TRho}
theorem allD_enc : ∀ xs : List Operand, allD (eRho ρ) xs = (allT ρ xs).map (List.map enc)
  | [] => rfl
  | x :: r => by
    simp only [allD, allT, allD_enc r, eRho]
    cases ρ x <;> cases allT ρ r <;> rfl
theorem allDP_enc : ∀ xs : List (Nat × Operand), allDP (eRho ρ) xs = (allTP ρ xs).map (List.map fun p => (p.1, enc p.2))
  | [] => rfl
  | (i, x) :: r => by
    simp only [allDP, allTP, allDP_enc r, eRho]
    cases ρ x <;> cases allTP ρ r <;> rfl
end
theorem isC_enc {d : TV} (h : isC d = true) : enc d = encK d := by cases d <;> first | rfl | cases h
theorem cellT_some {o : Option TV} {d : TV} (h : cellT o = some d) : o = some d ∧ isC d = true := by
  unfold cellT at h
  first | (rw [tif_run] at h; split at h) | split at h
  · first | (rw [tif_run] at h; split at h) | split at h
    · rename_i h1; cases h; exact ⟨rfl, h1⟩
    · cases h
  · cases h
theorem tpart_enc {P : Program} {t : TypeId} {cs : List TV} {off : Nat} {d : TV} (h : tpartV P t cs off = some d) : dpartV P t (cs.map encK) off = some (enc d) := by
  unfold tpartV at h
  unfold dpartV
  first | (rw [tif_run] at h; split at h) | split at h
  · cases h
  · rename_i hu
    rw [hu]
    simp only
    first | (rw [tif_run] at h; split at h) | split at h
    · rename_i ha
      rw [if_pos ha]
      first | (rw [tif_run] at h; split at h) | split at h
      · rename_i n hn
        rw [hn]
        simp only [List.length_map]
        first | (rw [tif_run] at h; split at h) | split at h
        · rename_i hl
          cases h
          rw [if_pos hl]
          simp [enc, enc1, List.map_take, List.map_drop]
        · cases h
      · cases h
    · rename_i ha
      rw [if_neg ha]
      obtain ⟨h1, h2⟩ := cellT_some h
      rw [List.getElem?_map, h1, isC_enc h2]; rfl
theorem is1_enc (d : TV) : is1 (enc d) = is1T d := by cases d <;> rfl
theorem cells_enc {d : TV} (h : is1T d = true) : cellsD (enc d) = (cellsT d).map encK := by cases d <;> first | rfl | cases h
theorem valsD_enc : ∀ xs : List TV, valsD (xs.map encK) = valsT xs
  | [] => rfl
  | x :: l => by
    simp only [List.map_cons, valsT]
    cases x <;> first | rfl | (simp only [encK, encB, valsD, valsD_enc l])
theorem valD_enc (d : TV) : valD (enc d) = valT d := by
  cases d <;> first | rfl | (simp only [enc, enc1, valD, valT, valsD_enc])
theorem scD_enc (o : Option Value) : scD o = (scT o).map enc := by
  unfold scD scT
  cases o with
  | none => rfl
  | some v => simp only; split <;> rfl
theorem scD_of {o : Option Value} {d : TV} (h : scT o = some d) : scD o = some (enc d) := by rw [scD_enc, h]; rfl
theorem shadow_enc {d : TV} {x : Value} (h : shadowT d = some x) : shadow (enc d) = some x := by
  cases d <;> first | exact h | cases h
theorem tbinV_enc {P : Program} {op : BinOp} {t : TypeId} {a b d : TV} (h : tbinV P op t a b = some d) : dbinV P op t (enc a) (enc b) = some (enc d) := by
  unfold tbinV at h
  unfold dbinV
  rw [valD_enc, valD_enc]
  first | (rw [tif_run] at h; split at h) | split at h
  · rename_i h1 h2; simp only [h1, h2]; exact scD_of h
  · rename_i h1 h2
    simp only [h1, h2]
    first | (rw [tif_run] at h; split at h) | split at h
    · rename_i hn
      rw [if_pos hn]
      first | (rw [tif_run] at h; split at h) | split at h
      · rename_i x hx; rw [shadow_enc hx]; exact scD_of h
      · cases h
    · cases h
  · rename_i h1 h2
    simp only [h1, h2]
    first | (rw [tif_run] at h; split at h) | split at h
    · rename_i hn
      rw [if_pos hn]
      first | (rw [tif_run] at h; split at h) | split at h
      · rename_i x hx; rw [shadow_enc hx]; exact scD_of h
      · cases h
    · cases h
  · cases h
section
variable {R : Type} {P : Program} {K : TV → Tree R} {z : R}
/-- Is it asked whether a slice is nil? -/
def nilAsk (op : BinOp) (x y : TV) : Bool := match op, x, y with
  | .eql, .sl _ _, .v (.slice none 0 0) => true
  | .neq, .sl _ _, .v (.slice none 0 0) => true
  | _, _, _ => false
theorem tbin_enc {op : BinOp} {t : TypeId} {x y : TV} (hn : nilAsk op x y = false) (h : (tbin P op t x y K).run = some z) : ∃ r, dbinV P op t (enc x) (enc y) = some (enc r) ∧ (K r).run = some z := by
  unfold tbin at h
  split at h
  · rename_i k a k' b
    split at h
    · rename_i hk
      rw [tif_run] at h
      split at h
      · rename_i hb
        refine ⟨_, ?_, h⟩
        simp [enc, enc1, encK, encB, dbinV, valD, binV, isShift, hk, intV, hb, scD, scal, constOk]
      · cases h
    · cases h
  · rename_i k a k' b
    split at h
    · rename_i hk
      rw [tif_run] at h
      split at h
      · rename_i hb
        refine ⟨_, ?_, h⟩
        simp [enc, enc1, encK, encB, dbinV, valD, binV, isShift, hk, intV, hb, scD, scal, constOk]
      · cases h
    · cases h
  · rename_i k a k' b
    rw [tif_run] at h
    split at h
    · rename_i hb
      refine ⟨_, ?_, h⟩
      simp only [enc, enc1, encK, encB, dbinV, valD, binV, isShift, if_true, shiftV, if_neg (Int.not_lt.2 hb)]
      rfl
    · cases h
  · rename_i k a k' b
    rw [tif_run] at h
    split at h
    · rename_i hb
      refine ⟨_, ?_, h⟩
      simp only [enc, enc1, encK, encB, dbinV, valD, binV, isShift, if_true, shiftV, if_neg (Int.not_lt.2 hb)]
      rfl
    · cases h
  · rename_i a b
    rw [tif_run] at h
    split at h
    · rename_i hb
      refine ⟨_, ?_, h⟩
      simp only [enc, enc1, encK, encB, dbinV, valD, binV, strV, if_pos hb]
      rfl
    · cases h
  · cases hn
  · cases hn
  · obtain ⟨d, h1, h2⟩ := obind_some h
    exact ⟨d, tbinV_enc h1, h2⟩
end
theorem setMany_enc : ∀ (vs cs : List TV) (i : Nat), setManyD (cs.map encK) i (vs.map encK) = (setManyT cs i vs).map encK
  | [], cs, i => rfl
  | v :: r, cs, i => by
    simp only [List.map_cons, setManyD, setManyT]
    rw [← setMany_enc r, List.map_set]
theorem zero_enc (P : Program) (t : TypeId) : zeroD P t = (zeroT P t).map (List.map encK) := by
  unfold zeroD zeroT
  cases zeroCellsT P t with
  | none => rfl
  | some z =>
    simp only
    split
    · simp [Function.comp_def, encK, encB]
    · rfl
theorem fill_enc {pl : Nat → Option (Nat × Nat)} : ∀ (ps : List (Nat × TV)) (cells out : List TV), fillT pl cells ps = some out → fillD pl (cells.map encK) (ps.map fun p => (p.1, enc p.2)) = some (out.map encK)
  | [], cells, out, h => by cases h; rfl
  | (i, v) :: r, cells, out, h => by
    unfold fillT at h
    simp only [List.map_cons, fillD]
    first | (rw [tif_run] at h; split at h) | split at h
    · cases h
    · rename_i off sz hp
      rw [hp]
      simp only
      first | (rw [tif_run] at h; split at h) | split at h
      · rename_i hc
        have h1 := hc.1
        rw [cells_enc h1, is1_enc, List.length_map, List.length_map, if_pos hc, setMany_enc]
        exact fill_enc r _ _ h
      · cases h
theorem tbuild_enc {P : Program} {t : TypeId} {ps : List (Nat × TV)} {d : TV} (h : tbuildV P t ps = some d) : dbuildV P t (ps.map fun p => (p.1, enc p.2)) = some (enc d) := by
  unfold tbuildV at h
  unfold dbuildV
  rw [zero_enc]
  first | (rw [tif_run] at h; split at h) | split at h
  · rename_i pl z h1 h2
    rw [h1, h2]
    simp only [Option.map_some]
    first | (rw [tif_run] at h; split at h) | split at h
    · rename_i hz
      rw [if_pos hz]
      cases hf : fillT pl z ps with
      | none => rw [hf] at h; cases h
      | some out => rw [hf] at h; cases h; rw [fill_enc _ _ _ hf]; rfl
    · cases h
  · cases h
theorem tfield_enc {P : Program} {t : TypeId} {x : TV} {f : Nat} {d : TV} (h : tfieldV P t x f = some d) : dfieldV P t (enc x) f = some (enc d) := by
  unfold tfieldV at h
  unfold dfieldV
  first | (rw [tif_run] at h; split at h) | split at h
  · rename_i fs cs hu
    rw [hu]
    simp only [enc, enc1]
    first | (rw [tif_run] at h; split at h) | split at h
    · rename_i fd hf
      rw [hf]
      exact tpart_enc h
    · cases h
  · cases h
theorem eL_get {L : List TO} {id : Nat} {o : TO} (h : L[id]? = some o) : (eL L)[id]? = some (encO o) := by
  unfold eL; rw [List.getElem?_map, h]; rfl
theorem rows_li {L : List TO} {id tot : Nat} {c : CT} {e : TypeId} {loc : Bool} {xs : List c.T} (h : L[id]? = some (.li c e loc xs)) (ht : xs.length = tot) : rowsOf (eL L) id tot = some (xs.map (encC c)) := by
  unfold rowsOf; rw [eL_get h]; simp [encO, ht]
theorem rows_fz {L : List TO} {id tot : Nat} {c : CT} {e : TypeId} {loc : Bool} {xs : List c.T} (h : L[id]? = some (.fz c e loc xs)) (ht : xs.length = tot) : rowsOf (eL L) id tot = some (xs.map (encC c)) := by
  unfold rowsOf; rw [eL_get h]; simp [encO, ht]
theorem tlen_rows {L : List TO} {id n tot : Nat} (h : tlen L id = some n) (hn : n = tot) : ∃ rs, rowsOf (eL L) id tot = some rs := by
  unfold tlen at h
  first | (rw [tif_run] at h; split at h) | split at h
  · rename_i h1; cases h; exact ⟨_, rows_li h1 hn⟩
  · rename_i h1; cases h; exact ⟨_, rows_fz h1 hn⟩
  · cases h
section
variable {R : Type} {P : Program} {K : TV → Tree R} {z : R} {L : List TO}
theorem ton_enc {k : Nat} {x : TV} (h : (ton L k x K).run = some z) : ∃ r, onD (eL L) k (enc x) = some (enc r) ∧ (K r).run = some z := by
  unfold ton at h
  first | (rw [tif_run] at h; split at h) | split at h
  · exact ⟨_, rfl, h⟩
  · obtain ⟨n, h1, h2⟩ := obind_some h
    obtain ⟨h3, h4⟩ := chk_some h2
    obtain ⟨rs, hr⟩ := tlen_rows h1 (h3 _ List.mem_cons_self)
    exact ⟨_, by simp [enc, enc1, encK, encB, onD, hr], h4⟩
  · exact ⟨_, rfl, h⟩
  · cases h
theorem int_enc {x : TV} {n : Int} (h : intT x = some n) : intD (enc x) = some n := by
  unfold intT at h
  first | (rw [tif_run] at h; split at h) | split at h
  · cases h; rfl
  · cases h
theorem tep_enc {c : CT} {s id n tot m : Nat} (h : (tepT c s id n tot m K).run = some z) : c.size = s ∧ n < tot ∧ m = tot ∧ (K (.ep id n 0 tot)).run = some z := by
  unfold tepT at h
  first | (rw [tif_run] at h; split at h) | split at h
  · rename_i h1
    first | (rw [tif_run] at h; split at h) | split at h
    · rename_i h2; exact ⟨h1, h2.1, h2.2, h⟩
    · cases h
  · cases h
theorem tindexAddr_enc {t : TypeId} {x i : TV} (h : (tindexAddr P L t x i K).run = some z) : ∃ r, dindexAddrV P (eL L) t (enc x) (enc i) = some (enc r) ∧ (K r).run = some z := by
  unfold tindexAddr at h
  obtain ⟨n, hi, h⟩ := obind_some h
  unfold dindexAddrV
  rw [int_enc hi]
  simp only
  first | (rw [tif_run] at h; split at h) | split at h
  · rename_i e hu
    obtain ⟨s, hs, h⟩ := obind_some h
    rw [hu]
    simp only [hs]
    have key : ∀ {tot : Nat} {c : CT} {xs : List c.T} {k : Nat}, c.size = s → k < tot → xs.length = tot → ∃ row, (xs.map (encC c))[k]? = some row ∧ row.length = s := by
      intro tot c xs k hc hk hl
      have hk' : k < xs.length := by omega
      exact ⟨encC c xs[k], by rw [List.getElem?_map, List.getElem?_eq_getElem hk']; rfl, by rw [encC_len, hc]⟩
    first | (rw [tif_run] at h; split at h) | split at h
    · rename_i c xs
      first | (rw [tif_run] at h; split at h) | split at h
      · rename_i hc
        first | (rw [tif_run] at h; split at h) | split at h
        · rename_i h0
          obtain ⟨y, hy, h⟩ := sbind_some h
          refine ⟨_, ?_, h⟩
          simp [enc, enc1, encK, encB, h0, hc, List.getElem?_map, hy]
        · cases h
      · cases h
    · rename_i id tot
      first | (rw [tif_run] at h; split at h) | split at h
      · rename_i h0
        first | (rw [tif_run] at h; split at h) | split at h
        · rename_i c e' loc xs hL
          obtain ⟨h1, h2, h3, h4⟩ := tep_enc h
          have hr := rows_li hL h3
          obtain ⟨row, q1, q2⟩ := key h1 h2 h3
          refine ⟨_, ?_, h4⟩
          simp only [enc, enc1, encK, encB, if_pos h0, hr, if_pos h2, Nat.zero_add, q1, if_pos q2]
        · rename_i c e' loc xs hL
          obtain ⟨h1, h2, h3, h4⟩ := tep_enc h
          have hr := rows_fz hL h3
          obtain ⟨row, q1, q2⟩ := key h1 h2 h3
          refine ⟨_, ?_, h4⟩
          simp only [enc, enc1, encK, encB, if_pos h0, hr, if_pos h2, Nat.zero_add, q1, if_pos q2]
        · cases h
      · cases h
    · rename_i id lo m tot
      first | (rw [tif_run] at h; split at h) | split at h
      · rename_i h0
        first | (rw [tif_run] at h; split at h) | split at h
        · rename_i c e' loc xs hL
          obtain ⟨h1, h2, h3, h4⟩ := tep_enc h
          have hr := rows_li hL h3
          obtain ⟨row, q1, q2⟩ := key h1 h2 h3
          refine ⟨_, ?_, h4⟩
          simp only [enc, enc1, encK, encB, if_pos h0.1, hr, if_pos h0.2, q1, if_pos q2]
        · rename_i c e' loc xs hL
          obtain ⟨h1, h2, h3, h4⟩ := tep_enc h
          have hr := rows_fz hL h3
          obtain ⟨row, q1, q2⟩ := key h1 h2 h3
          refine ⟨_, ?_, h4⟩
          simp only [enc, enc1, encK, encB, if_pos h0.1, hr, if_pos h0.2, q1, if_pos q2]
        · cases h
      · cases h
    · first | (rw [tif_run] at h; split at h) | split at h
      · rename_i h0
        exact ⟨_, by simp only [enc, enc1, encK, encB, if_pos h0.1, if_pos h0.2], h⟩
      · cases h
    · cases h
  · rename_i len e hu
    obtain ⟨s, hs, h⟩ := obind_some h
    rw [hu]
    simp only [hs]
    first | (rw [tif_run] at h; split at h) | split at h
    · rename_i h0
      rw [if_pos h0.1, if_pos h0.2]
      exact ton_enc h
    · cases h
  · cases h
theorem tload_enc {t : TypeId} {x : TV} (h : (tload P L t x K).run = some z) : ∃ r, dloadV P (eL L) t (enc x) = some (enc r) ∧ (K r).run = some z := by
  unfold tload at h
  first | (rw [tif_run] at h; split at h) | split at h
  · first | (rw [tif_run] at h; split at h) | split at h
    · rename_i cells hL
      obtain ⟨d, h1, h2⟩ := obind_some h
      refine ⟨d, ?_, h2⟩
      simp only [enc, enc1, encK, encB, dloadV, eL_get hL, encO]
      exact tpart_enc h1
    · cases h
  · rename_i id i off tot
    first | (rw [tif_run] at h; split at h) | split at h
    · rename_i c e loc xs hL
      first | (rw [tif_run] at h; split at h) | split at h
      · rename_i ht
        obtain ⟨y, hy, h⟩ := sbind_some h
        obtain ⟨d, h1, h2⟩ := obind_some h
        refine ⟨d, ?_, h2⟩
        simp only [enc, enc1, encK, encB, dloadV, rows_li hL ht, List.getElem?_map, hy, Option.map_some]
        rw [← tvC_enc]
        exact tpart_enc h1
      · cases h
    · rename_i c e loc xs hL
      first | (rw [tif_run] at h; split at h) | split at h
      · rename_i ht
        obtain ⟨y, hy, h⟩ := sbind_some h
        obtain ⟨d, h1, h2⟩ := obind_some h
        refine ⟨d, ?_, h2⟩
        simp only [enc, enc1, encK, encB, dloadV, rows_fz hL ht, List.getElem?_map, hy, Option.map_some]
        rw [← tvC_enc]
        exact tpart_enc h1
      · cases h
    · cases h
  · obtain ⟨d, h1, h2⟩ := obind_some h
    refine ⟨d, ?_, h2⟩
    simp only [enc, enc1, encK, encB, dloadV]
    rw [← tvC_enc]
    exact tpart_enc h1
  · cases h
end
end Go.Sim

set_option linter.unusedVariables false
namespace Go.Sim
open Go.RowKit
theorem eL_len (L : List TO) : (eL L).length = L.length := by simp [eL]
theorem eL_set (L : List TO) (i : Nat) (o : TO) : eL (L.set i o) = (eL L).set i (encO o) := by simp [eL, List.map_set]
theorem eL_add (L : List TO) (o : TO) : eL (L ++ [o]) = eL L ++ [encO o] := by simp [eL]
theorem all_len (c : CT) (xs : List c.T) : ((xs.map (encC c)).all fun r => r.length == c.size) = true := by
  rw [List.all_eq_true]; intro r hr
  obtain ⟨x, _, rfl⟩ := List.mem_map.1 hr
  simp [encC_len]
theorem bytes_enc : ∀ l : List UInt8, (l.map fun c => [PV.v (.int .u8 c.toNat)]) = List.map (encC (.int .u8)) (l.map fun c => ((c.toNat : Int) : CT.T (.int .u8)))
  | [] => rfl
  | c :: l => by
    have := bytes_enc l
    simp only [List.map_cons] at this ⊢
    rw [this]
    rfl
section
variable {R : Type} {P : Program} {z : R} {L : List TO}
theorem tsrc_enc {c : CT} {t : TypeId} {x : TV} {K : List c.T → Tree R} (h : (tsrc P L c t x K).run = some z) : ∃ ys : List c.T, dsrc P (eL L) c.size t (enc x) = some (ys.map (encC c)) ∧ (K ys).run = some z := by
  unfold tsrc at h
  unfold dsrc
  first | (rw [tif_run] at h; split at h) | split at h
  · rename_i e hu
    rw [hu]
    simp only
    first | (rw [tif_run] at h; split at h) | split at h
    · rename_i c' xs
      first | (rw [tif_run] at h; split at h) | split at h
      · rename_i hc
        have := CT.of_eqb hc
        subst this
        exact ⟨xs, by simp [enc, enc1, encK, encB], h⟩
      · cases h
    · exact ⟨[], rfl, h⟩
    · rename_i id tot
      first | (rw [tif_run] at h; split at h) | split at h
      · rename_i c' e' loc xs hL
        first | (rw [tif_run] at h; split at h) | split at h
        · rename_i hc
          have := CT.of_eqb hc
          subst this
          replace h := chk_some h; obtain ⟨h1, h2⟩ := h
          have ht : xs.length = tot := h1 _ List.mem_cons_self
          refine ⟨xs, ?_, h2⟩
          simp only [enc, enc1, encK, encB, rows_li hL ht, all_len, if_true, List.drop_zero]
          rw [List.take_of_length_le (by simp [ht])]
        · cases h
      · rename_i c' e' loc xs hL
        first | (rw [tif_run] at h; split at h) | split at h
        · rename_i hc
          have := CT.of_eqb hc
          subst this
          replace h := chk_some h; obtain ⟨h1, h2⟩ := h
          have ht : xs.length = tot := h1 _ List.mem_cons_self
          refine ⟨xs, ?_, h2⟩
          simp only [enc, enc1, encK, encB, rows_fz hL ht, all_len, if_true, List.drop_zero]
          rw [List.take_of_length_le (by simp [ht])]
        · cases h
      · cases h
    · rename_i id lo n tot
      first | (rw [tif_run] at h; split at h) | split at h
      · rename_i c' e' loc xs hL
        first | (rw [tif_run] at h; split at h) | split at h
        · rename_i hc
          have := CT.of_eqb hc
          subst this
          replace h := chk_some h; obtain ⟨h1, h2⟩ := h
          have ht : xs.length = tot := h1 _ List.mem_cons_self
          refine ⟨(xs.drop lo).take n, ?_, h2⟩
          simp only [enc, enc1, encK, encB, rows_li hL ht, all_len, if_true, List.map_take, List.map_drop]
        · cases h
      · rename_i c' e' loc xs hL
        first | (rw [tif_run] at h; split at h) | split at h
        · rename_i hc
          have := CT.of_eqb hc
          subst this
          replace h := chk_some h; obtain ⟨h1, h2⟩ := h
          have ht : xs.length = tot := h1 _ List.mem_cons_self
          refine ⟨(xs.drop lo).take n, ?_, h2⟩
          simp only [enc, enc1, encK, encB, rows_fz hL ht, all_len, if_true, List.map_take, List.map_drop]
        · cases h
      · cases h
    · cases h
  · rename_i hu
    rw [hu]
    simp only
    first | (rw [tif_run] at h; split at h) | split at h
    · rename_i s
      first | (rw [tif_run] at h; split at h) | split at h
      · rename_i hc
        have := CT.of_eqb hc
        subst this
        refine ⟨bytesT s, ?_, h⟩
        show (if CT.size (.int .u8) = 1 then some _ else none) = _
        rw [if_pos (show CT.size (.int .u8) = 1 from rfl)]
        exact congrArg some (bytes_enc _)
      · cases h
    · cases h
  · cases h
theorem lim_ok {n b : Nat} (h : n ≤ lim b) (hb : 0 < b) : n ≤ maxLen ∧ n * b ≤ 140737488355328 := by
  unfold lim at h
  have h1 := (Nat.le_div_iff_mul_le hb).1 h
  refine ⟨?_, h1⟩
  have h2 : n ≤ n * b := Nat.le_mul_of_pos_right n hb
  have : maxLen = 9223372036854775807 := rfl
  omega
theorem eo_app (loc : Bool) (e : TypeId) (n m : Nat) : (if m = 0 then eo loc e n else some e) = eo loc e (n + m) := by
  unfold eo
  cases loc
  · by_cases hm : m = 0
    · simp [hm]
    · simp [hm]
  · simp
theorem tappend_enc {ty : TypeId → Option CT} {ts : List TypeId} {s x : TV} {K : TV → List TO → Tree R} (h : (tappend P ty ts L s x K).run = some z) : ∃ r L', dappendV P ts (eL L) (enc s) (enc x) = some (enc r, eL L') ∧ (K r L').run = some z := by
  unfold tappend at h
  unfold dappendV
  first | (rw [tif_run] at h; split at h) | split at h
  · rename_i t t2
    first | (rw [tif_run] at h; split at h) | split at h
    · rename_i e hu
      replace h := obind_some h; obtain ⟨i, hi, h⟩ := h
      replace h := obind_some h; obtain ⟨zc, hz, h⟩ := h
      replace h := obind_some h; obtain ⟨c, hc, h⟩ := h
      first | (rw [tif_run] at h; split at h) | split at h
      · rename_i hsz
        replace h := tsrc_enc h; obtain ⟨ys, hy, h⟩ := h
        have h0 : 0 < i.size := by rw [← hsz.1]; exact CT.size_pos c
        simp only [hu, hi, hz]
        rw [hsz.1] at hy
        simp only [hy]
        first | (rw [tif_run] at h; split at h) | split at h
        · first | (rw [tif_run] at h; split at h) | split at h
          · rename_i hl
            obtain ⟨l1, l2⟩ := lim_ok hl hsz.2
            refine ⟨_, _, ?_, h⟩
            simp only [enc, enc1, encK, encB, List.length_map, eL_len]
            rw [if_pos ⟨h0, l1, l2⟩, eL_add]
            rfl
          · cases h
        · rename_i id tot
          first | (rw [tif_run] at h; split at h) | split at h
          · rename_i c' e' loc xs hL
            first | (rw [tif_run] at h; split at h) | split at h
            · rename_i he
              subst he
              first | (rw [tif_run] at h; split at h) | split at h
              · rename_i hcc
                have := CT.of_eqb hcc
                subst this
                first | (rw [tif_run] at h; split at h) | split at h
                · rename_i hl
                  obtain ⟨l1, l2⟩ := lim_ok hl.2 hsz.2
                  refine ⟨_, _, ?_, h⟩
                  simp only [enc, enc1, encK, encB, List.length_map, eL_get hL, encO]
                  have he : eo loc e' xs.length = none ∨ eo loc e' xs.length = some e' := by
                    unfold eo; cases loc
                    · by_cases h0 : xs.length = 0 <;> simp [h0]
                    · exact .inr rfl
                  have ht := hl.1
                  subst ht
                  rw [if_pos ⟨(by first | trivial | rfl), (by first | trivial | rfl), (by first | trivial | rfl), he, h0, l1, l2⟩, eL_set, castS_rfl]
                  simp only [encO, List.length_append, eo_app, List.map_append]
                · cases h
              · cases h
            · cases h
          · cases h
        · cases h
      · cases h
    · cases h
  · cases h
theorem idx_int (k : IntKind) {n : Int} (h : 0 ≤ n) : idxV (.int k n) = some n.toNat := by
  simp [idxV, h]
/-- What integers the bounds are, of whatever kind. -/
def BdV (o : Option Int) (v : Option Value) : Prop := match o, v with
  | none, none => True
  | some n, some (.int _ m) => m = n
  | _, _ => False
theorem tbounds_enc {n : Nat} {lo hi : Option Int} {lv hv : Option Value} {K : Option Nat → Option Nat → Tree R} (hl : BdV lo lv) (hh : BdV hi hv) (h : (tbounds n lo hi K).run = some z) :
    ∃ l r, (K l r).run = some z ∧ boundsV n n lv hv none = some ((cutN n l r).1, (cutN n l r).1 + (cutN n l r).2, none) ∧ (cutN n l r).1 + (cutN n l r).2 ≤ n ∧ ∀ {α : Type} (xs : List α), xs.length = n → cutL xs l r = (xs.drop (cutN n l r).1).take (cutN n l r).2 := by
  unfold tbounds at h
  first | (rw [tif_run] at h; split at h) | split at h
  · have : lv = none := by cases lv <;> first | rfl | exact hl.elim
    subst this
    have : hv = none := by cases hv <;> first | rfl | exact hh.elim
    subst this
    exact ⟨none, none, h, by simp [boundsV, cutN], by simp [cutN], fun xs hx => by simp [cutL, cutN, ← hx]⟩
  · rename_i b
    have : lv = none := by cases lv <;> first | rfl | exact hl.elim
    subst this
    obtain ⟨k, rfl⟩ : ∃ k, hv = some (.int k b) := by
      cases hv with
      | none => exact hh.elim
      | some v => cases v <;> first | (cases hh; exact ⟨_, rfl⟩) | exact hh.elim
    first | (rw [tif_run] at h; split at h) | split at h
    · rename_i hc
      exact ⟨none, some b.toNat, h, by simp [boundsV, cutN, idx_int, hc.1, hc.2], by simp [cutN, hc.2], fun xs hx => by simp [cutL, cutN]⟩
    · cases h
  · rename_i a
    have : hv = none := by cases hv <;> first | rfl | exact hh.elim
    subst this
    obtain ⟨k, rfl⟩ : ∃ k, lv = some (.int k a) := by
      cases lv with
      | none => exact hl.elim
      | some v => cases v <;> first | (cases hl; exact ⟨_, rfl⟩) | exact hl.elim
    first | (rw [tif_run] at h; split at h) | split at h
    · rename_i hc
      have := hc.2
      refine ⟨some a.toNat, none, h, ?_, by simp only [cutN]; omega, fun xs hx => ?_⟩
      · simp only [boundsV, cutN, idx_int _ hc.1, if_pos hc.2]
        rw [show a.toNat + (n - a.toNat) = n by omega]
      · simp only [cutL, cutN]; rw [List.take_of_length_le (by simp [hx])]
    · cases h
  · rename_i a b
    obtain ⟨k, rfl⟩ : ∃ k, lv = some (.int k a) := by
      cases lv with
      | none => exact hl.elim
      | some v => cases v <;> first | (cases hl; exact ⟨_, rfl⟩) | exact hl.elim
    obtain ⟨k', rfl⟩ : ∃ k, hv = some (.int k b) := by
      cases hv with
      | none => exact hh.elim
      | some v => cases v <;> first | (cases hh; exact ⟨_, rfl⟩) | exact hh.elim
    first | (rw [tif_run] at h; split at h) | split at h
    · rename_i hc
      have h1 := hc.1
      have h2 := hc.2.1
      have h3 := hc.2.2
      refine ⟨some a.toNat, some b.toNat, h, ?_, by simp only [cutN]; omega, fun xs hx => by simp only [cutL, cutN]⟩
      simp only [boundsV, cutN, idx_int _ hc.1, idx_int _ (show 0 ≤ b by omega), if_pos h3]
      rw [if_pos (by omega)]
      congr 2
      simp only [Prod.mk.injEq, and_true]; omega
    · cases h
theorem take_sub {α : Type} (xs : List α) (a b : Nat) : (xs.drop a).take (a + b - a) = (xs.drop a).take b := by rw [Nat.add_sub_cancel_left]
theorem tslice_enc {t : TypeId} {x : TV} {lo hi : Option Int} {lv hv : Option Value} {K : TV → Tree R} (hl : BdV lo lv) (hh : BdV hi hv) (h : (tslice P L t x lo hi K).run = some z) :
    ∃ r, dsliceV P (eL L) t (enc x) lv hv none = some (enc r) ∧ (K r).run = some z := by
  unfold tslice at h
  unfold dsliceV
  first | (rw [tif_run] at h; split at h) | split at h
  · rename_i e hu
    replace h := obind_some h; obtain ⟨s, hs, h⟩ := h
    rw [hu]
    simp only [hs]
    have part : ∀ {id tot : Nat} {c : CT} {e' : TypeId} {loc : Bool} {xs : List c.T} {o : TO}, L[id]? = some o → (o = .li c e' loc xs ∨ o = .fz c e' loc xs) → c.size = s → e' = e → xs.length = tot → 0 < tot →
        (∃ rs, rowsOf (eL L) id tot = some rs) ∧ (((eL L)[id]?).bind listTy).bind (szT P) = some s := by
      intro id tot c e' loc xs o hL ho hc he ht h0
      subst he
      have hne : eo loc e' xs.length = some e' := by
        unfold eo; cases loc
        · rw [if_neg (by decide), if_neg (by omega)]
        · rfl
      rcases ho with rfl | rfl
      · exact ⟨⟨_, rows_li hL ht⟩, by rw [eL_get hL]; simp [encO, listTy, hne, hs]⟩
      · exact ⟨⟨_, rows_fz hL ht⟩, by rw [eL_get hL]; simp [encO, listTy, hne, hs]⟩
    first | (rw [tif_run] at h; split at h) | split at h
    · rename_i c xs
      first | (rw [tif_run] at h; split at h) | split at h
      · rename_i hc
        replace h := tbounds_enc hl hh h; obtain ⟨l, r, hk, hb, hle, hcut⟩ := h
        refine ⟨_, ?_, hk⟩
        simp only [enc, enc1, encK, encB, if_pos hc, List.length_map, hb, take_sub]
        rw [hcut xs rfl, List.map_take, List.map_drop]
      · cases h
    · replace h := tbounds_enc hl hh h; obtain ⟨l, r, hk, hb, hle, hcut⟩ := h
      refine ⟨_, ?_, hk⟩
      simp only [enc, enc1, encK, encB, hb]
    · rename_i id tot
      have fin : ∀ {c : CT} {e' : TypeId} {loc : Bool} {xs : List c.T} {o : TO}, L[id]? = some o → (o = .li c e' loc xs ∨ o = .fz c e' loc xs) →
          (if c.size = s ∧ e' = e then tif (0 < tot ∧ xs.length = tot) (tbounds tot lo hi fun l h => K (.part id (cutN tot l h).1 (cutN tot l h).2 tot)) else .fail).run = some z →
          ∃ r, (match rowsOf (eL L) id tot with
            | some _ => if (((eL L)[id]?).bind listTy).bind (szT P) = some s ∧ 0 < tot then match boundsV tot tot lv hv none with
                | some (l, r, _) => some (DV.ref id (0 + l) (r - l) tot)
                | none => none
              else none
            | none => none) = some (enc r) ∧ (K r).run = some z := by
        intro c e' loc xs o hL ho h
        first | (rw [tif_run] at h; split at h) | split at h
        · rename_i h1
          first | (rw [tif_run] at h; split at h) | split at h
          · rename_i h2
            obtain ⟨⟨rs, p1⟩, p2⟩ := part hL ho h1.1 h1.2 h2.2 h2.1
            replace h := tbounds_enc hl hh h; obtain ⟨l, r, hk, hb, hle, hcut⟩ := h
            refine ⟨_, ?_, hk⟩
            simp only [p1, p2, true_and, if_pos h2.1, hb, enc, enc1, encK, encB, Nat.zero_add, Nat.add_sub_cancel_left]
          · cases h
        · cases h
      first | (rw [tif_run] at h; split at h) | split at h
      · rename_i hL
        exact fin hL (.inl rfl) h
      · rename_i hL
        exact fin hL (.inr rfl) h
      · cases h
    · rename_i id a n tot
      have fin : ∀ {c : CT} {e' : TypeId} {loc : Bool} {xs : List c.T} {o : TO}, L[id]? = some o → (o = .li c e' loc xs ∨ o = .fz c e' loc xs) →
          (if c.size = s ∧ e' = e then tif (0 < n ∧ xs.length = tot ∧ 0 < tot) (tbounds n lo hi fun l h => K (.part id (a + (cutN n l h).1) (cutN n l h).2 tot)) else .fail).run = some z →
          ∃ r, (match rowsOf (eL L) id tot with
            | some _ => if (((eL L)[id]?).bind listTy).bind (szT P) = some s ∧ 0 < n then match boundsV n n lv hv none with
                | some (l, r, _) => some (DV.ref id (a + l) (r - l) tot)
                | none => none
              else none
            | none => none) = some (enc r) ∧ (K r).run = some z := by
        intro c e' loc xs o hL ho h
        first | (rw [tif_run] at h; split at h) | split at h
        · rename_i h1
          first | (rw [tif_run] at h; split at h) | split at h
          · rename_i h2
            obtain ⟨⟨rs, p1⟩, p2⟩ := part hL ho h1.1 h1.2 h2.2.1 h2.2.2
            replace h := tbounds_enc hl hh h; obtain ⟨l, r, hk, hb, hle, hcut⟩ := h
            refine ⟨_, ?_, hk⟩
            simp only [p1, p2, true_and, if_pos h2.1, hb, enc, enc1, encK, encB, Nat.add_sub_cancel_left]
          · cases h
        · cases h
      first | (rw [tif_run] at h; split at h) | split at h
      · rename_i hL
        exact fin hL (.inl rfl) h
      · rename_i hL
        exact fin hL (.inr rfl) h
      · cases h
    · cases h
  · cases h
theorem tlenV_enc {t : TypeId} {x : TV} {K : TV → Tree R} (h : (tlenV P L t x K).run = some z) : ∃ r, dlenV P (eL L) t (enc x) = some (enc r) ∧ (K r).run = some z := by
  unfold tlenV at h
  unfold dlenV
  first | (rw [tif_run] at h; split at h) | split at h
  · rename_i hu
    rw [hu]
    simp only
    first | (rw [tif_run] at h; split at h) | split at h
    · exact ⟨_, by simp only [enc, enc1, encK, encB, List.length_map], h⟩
    · exact ⟨_, rfl, h⟩
    · rename_i id tot
      replace h := obind_some h; obtain ⟨n, h1, h2⟩ := h
      replace h2 := chk_some h2; obtain ⟨h3, h4⟩ := h2
      obtain ⟨rs, hr⟩ := tlen_rows h1 (h3 _ List.mem_cons_self)
      exact ⟨_, by simp only [enc, enc1, encK, encB, hr], h4⟩
    · rename_i id lo m tot
      replace h := obind_some h; obtain ⟨n, h1, h2⟩ := h
      replace h2 := chk_some h2; obtain ⟨h3, h4⟩ := h2
      obtain ⟨rs, hr⟩ := tlen_rows h1 (h3 _ List.mem_cons_self)
      exact ⟨_, by simp only [enc, enc1, encK, encB, hr], h4⟩
    · exact ⟨_, rfl, h⟩
    · cases h
  · rename_i hu
    rw [hu]
    simp only
    first | (rw [tif_run] at h; split at h) | split at h
    · exact ⟨_, rfl, h⟩
    · cases h
  · rename_i hu
    rw [hu]
    simp only
    first | (rw [tif_run] at h; split at h) | split at h
    · exact ⟨_, rfl, h⟩
    · cases h
  · cases h
theorem nums_enc : ∀ xs : List (CT.T (.int .u8)), numsP (xs.map (encC (.int .u8))) = some xs
  | [] => rfl
  | x :: l => by
    have := nums_enc l
    simp only [List.map_cons]
    show (numsP (List.map (encC (.int .u8)) l)).map _ = _
    rw [this]
    rfl
theorem tconv_enc {s d : TypeId} {x : TV} {K : TV → List TO → Tree R} (h : (tconv P L s d x K).run = some z) : ∃ r L', dconvV P (eL L) s d (enc x) = some (enc r, eL L') ∧ (K r L').run = some z := by
  unfold tconv at h
  unfold dconvV
  first | (rw [tif_run] at h; split at h) | split at h
  · rename_i e hu hd
    rw [hu, hd]
    simp only
    first | (rw [tif_run] at h; split at h) | split at h
    · rename_i hb
      replace h := tsrc_enc h; obtain ⟨ys, hy, h⟩ := h
      refine ⟨_, L, ?_, h⟩
      rw [if_pos hb]
      rw [show (1 : Nat) = CT.size (.int .u8) from rfl, hy]
      simp only [Option.bind_some, nums_enc]
      rfl
    · cases h
  · rename_i e hu hd
    rw [hu, hd]
    simp only
    first | (rw [tif_run] at h; split at h) | split at h
    · rename_i t
      first | (rw [tif_run] at h; split at h) | split at h
      · rename_i hb
        first | (rw [tif_run] at h; split at h) | split at h
        · rename_i hl
          refine ⟨_, _, ?_, h⟩
          simp only [enc, enc1, encK, encB]
          rw [if_pos ⟨hb.1, hb.2, hl⟩, eL_add, eL_len]
          unfold bytesT
          simp only [encO, eo, if_true]
          rw [bytes_enc]
        · cases h
      · cases h
    · cases h
  · rename_i e' e hu hd
    rw [hu, hd]
    simp only
    split at h
    · rename_i id tot
      split at h
      · rename_i hb
        split at h
        · rename_i c te loc xs hL
          rw [tif_run] at h
          split at h
          · rename_i hc
            refine ⟨_, _, ?_, h⟩
            have he : eo loc te xs.length = some te := by
              unfold eo; cases loc
              · rw [if_neg (by decide), if_neg (by omega)]
              · rfl
            show (if s = d ∧ isByteT P e = true ∧ 0 < tot ∧ 0 < tot then _ else _) = _
            rw [if_pos ⟨hb.1, hb.2, hc.1, hc.1⟩, eL_get hL]
            show (match some (Obj.li (eo loc te xs.length) (xs.map (encC c))) with
              | some (Obj.li (some _) rows) => if rows.length = tot then some (DV.ref id 0 tot tot, eL L) else none
              | _ => none) = _
            rw [he]
            simp only [List.length_map, if_pos hc.2]
            rfl
          · cases h
        · cases h
      · cases h
    · cases h
  · rename_i n1 n2 n3
    first | (rw [tif_run] at h; split at h) | split at h
    · rename_i v hv
      replace h := obind_some h; obtain ⟨r, h1, h2⟩ := h
      refine ⟨r, L, ?_, h2⟩
      rw [← valD_enc] at hv
      split
      · rename_i a b; exact absurd b (n1 _ a)
      · rename_i a b; exact absurd b (n2 _ a)
      · rename_i a b; exact absurd b (n3 _ _ a)
      · rw [hv]; simp only [scD_of h1, Option.map_some]
    · cases h
theorem tindexV_enc {ty : TypeId → Option CT} {t : TypeId} {x i : TV} {K : TV → Tree R} (h : (tindexV P ty t x i K).run = some z) : ∃ r, dindexV P t (enc x) (enc i) = some (enc r) ∧ (K r).run = some z := by
  unfold tindexV at h
  first | (rw [tif_run] at h; split at h) | split at h
  · rename_i len e cs n hu hi
    first | (rw [tif_run] at h; split at h) | split at h
    · rename_i s hs
      first | (rw [tif_run] at h; split at h) | split at h
      · rename_i hc
        replace h := obind_some h; obtain ⟨d, h1, h2⟩ := h
        refine ⟨d, ?_, h2⟩
        unfold dindexV
        rw [hu, int_enc hi]
        simp only [enc, enc1, hs, if_pos hc]
        exact tpart_enc h1
      · cases h
    · cases h
  · rename_i s n hu hi
    first | (rw [tif_run] at h; split at h) | split at h
    · rename_i hc
      replace h := sbind_some h; obtain ⟨b, h1, h2⟩ := h
      refine ⟨_, ?_, h2⟩
      unfold dindexV
      rw [hu, int_enc hi]
      simp only [enc, enc1, encK, encB, if_pos hc, h1, Option.map_some]
      rfl
    · cases h
  · cases h
theorem textract_enc {x d : TV} {i : Nat} (h : textractV x i = some d) : dextractV (enc x) i = some (enc d) := by
  unfold textractV at h
  first | (rw [tif_run] at h; split at h) | split at h
  · rename_i xs
    first | (rw [tif_run] at h; split at h) | split at h
    · rename_i d' hd
      first | (rw [tif_run] at h; split at h) | split at h
      · rename_i h1
        cases h
        simp only [enc, dextractV, List.getElem?_map, hd, Option.map_some]
        congr 1
        cases d <;> first | rfl | cases h1
      · cases h
    · cases h
  · cases h
theorem valsOf_enc : ∀ (ds : List TV), valsOf (ds.map enc) = valsOfT ds
  | [] => rfl
  | d :: l => by
    simp only [List.map_cons, valsOf, valsOfT, valD_enc, valsOf_enc l]
    cases valT d <;> cases valsOfT l <;> rfl
theorem base_enc {d : TV} (h : baseT d = true) : baseD (enc d) = true ∧ enc d = encB d := by cases d <;> first | exact ⟨rfl, rfl⟩ | cases h
theorem bases_enc : ∀ {ds : List TV}, ds.all baseT = true → (ds.map enc).all baseD = true ∧ ds.map enc = ds.map encB
  | [], _ => ⟨rfl, rfl⟩
  | d :: l, h => by
    simp only [List.all_cons, Bool.and_eq_true] at h
    obtain ⟨h1, h2⟩ := bases_enc h.2
    refine ⟨?_, ?_⟩
    · rw [List.map_cons, List.all_cons, h1, (base_enc h.1).1]; rfl
    · rw [List.map_cons, List.map_cons, h2, (base_enc h.1).2]
theorem dfunc_enc {f : Fn} {a b : Option (List TV)} {d : TV} (h : dfuncT f a b = some d) : dfuncV f (a.map (List.map enc)) (b.map (List.map enc)) = some (enc d) := by
  unfold dfuncT at h
  first | (rw [tif_run] at h; split at h) | split at h
  · rename_i k a b
    first | (rw [tif_run] at h; split at h) | split at h
    · rename_i hb
      simp only [Bool.and_eq_true] at hb
      cases h
      obtain ⟨h1, h2⟩ := bases_enc hb.1
      obtain ⟨h3, h4⟩ := bases_enc hb.2
      simp only [Option.map_some, dfuncV, h1, h3, Bool.and_self, if_true, enc, enc1, encK]
      rw [h2, h4]
    · cases h
  · cases h
end
end Go.Sim

set_option linter.unusedVariables false
namespace Go.Sim
open Go.RowKit
section
variable {P : Program} {γ : Pl} {L : List Obj} {h : Heap} {h0 : Heap} {W0 : Ent}
theorem hp_freeze (H : Hp P h0 W0 γ L h) {id : Nat} {e : Option TypeId} {rows : List (List PV)} (hi : L[id]? = some (.li e rows)) : Hp P h0 W0 γ (L.set id (.fz e rows)) h ∧ Carry W0 γ L h γ (L.set id (.fz e rows)) h := by
  have hget : ∀ b', b' < h.next → (∀ x, γ id ≠ some (b', x)) → h.get b' = h.get b' := fun _ _ _ => rfl
  have hd : (Obj.li e rows).owns = true ∨ γ id = none := by
    cases e with
    | none => exact .inr (H.obj id _ hi).2
    | some _ => exact .inl rfl
  have c := carry_write (W0 := W0) (h := h) (γ := γ) (γ' := γ) (h' := h) (o' := .fz e rows) hi hd (fun _ _ => rfl) (fun c e => (by cases e)) (fun r' hl' => ⟨rows, rfl, by cases hl'; exact Nat.le_refl _, fun _ => ⟨rfl, fun z hz => by cases hl'; exact hz⟩⟩) (Nat.le_refl _) (fun b x e d => by cases d) hget
  refine ⟨H.write hi hd c (fun _ _ => rfl) (Nat.le_refl _) (fun b x e => .inl ⟨x, e⟩) (fun x e => H.dom _ _ e) hget ?_, c⟩
  have ho := H.obj id _ hi
  cases e with
  | none => exact ho
  | some te =>
    obtain ⟨b, q, g1, g2⟩ := ho
    refine ⟨b, q, g1, ⟨?_, H.allowed hi rfl g1, fun j oj x hj hdj hg => ?_⟩, c.rows rfl g2⟩
    · obtain ⟨cs, z, a1, _⟩ := g2
      exact h.wf _ _ a1
    · rcases getElem?_set' hj with ⟨hne, hj⟩ | ⟨rfl, _, rfl⟩
      · exact hne (H.inj j id oj _ b x q hj hi hdj rfl hg g1)
      · cases hdj
theorem hp_rows (H : Hp P h0 W0 γ L h) {id : Nat} {e : Option TypeId} {rows rows' : List (List PV)} (hi : L[id]? = some (.li e rows)) (hw : rowsW rows' rows) : Hp P h0 W0 γ (L.set id (.li e rows')) h ∧ Carry W0 γ L h γ (L.set id (.li e rows')) h := by
  have hget : ∀ b', b' < h.next → (∀ x, γ id ≠ some (b', x)) → h.get b' = h.get b' := fun _ _ _ => rfl
  have hd : (Obj.li e rows).owns = true ∨ γ id = none := by
    cases e with
    | none => exact .inr (H.obj id _ hi).2
    | some _ => exact .inl rfl
  have c := carry_write (W0 := W0) (h := h) (γ := γ) (γ' := γ) (h' := h) (o' := .li e rows') hi hd (fun _ _ => rfl) (fun c e => (by cases e)) (fun r' hl' => ⟨rows, rfl, by cases hl'; exact Nat.le_of_eq (rowsW_len hw).symm, fun _ => ⟨rfl, fun z hz => by cases hl'; exact rowsW_all hw hz⟩⟩) (Nat.le_refl _) (fun b x e d => .inl e) hget
  refine ⟨H.write hi hd c (fun _ _ => rfl) (Nat.le_refl _) (fun b x e => .inl ⟨x, e⟩) (fun x e => H.dom _ _ e) hget ?_, c⟩
  have ho := H.obj id _ hi
  cases e with
  | none => exact ⟨rowsW_nil hw ho.1, ho.2⟩
  | some te =>
    obtain ⟨b, q, g1, g2⟩ := ho
    exact ⟨b, q, g1, c.rows rfl (Rows.of_w hw g2)⟩
theorem ref_sl (H : Hp P h0 W0 γ L h) {id tot z : Nat} {e : Option TypeId} {rows : List (List PV)} {v : Value} (hi : L[id]? = some (.fz e rows)) (ht : rows.length = tot) (hz : ∀ te, e = some te → szT P te = some z)
    (hd : DC P (Free W0 γ L h) γ L h (.ref id 0 tot tot) v) : DC P (Free W0 γ L h) γ L h (.p (.sl z rows)) v := by
  have hd' : DB P (Free W0 γ L h) γ L h (.ref id 0 tot tot) v := hd
  obtain ⟨k1, k2, k3⟩ := hd'
  obtain ⟨_, k5⟩ := k3 _ rows hi rfl
  obtain ⟨_, k7⟩ := k5 ht
  have ho := H.obj id _ hi
  show PR P (Free W0 γ L h) h (.sl z rows) v
  cases e with
  | none =>
    obtain ⟨rfl, hg⟩ := ho
    rcases k7 z (fun r hr => by simp at hr) with ⟨rfl, _, _⟩ | ⟨b, o, c, rfl, h1, h2⟩ | ⟨b, o, c, g, _⟩
    · exact .nil
    · omega
    · rw [hg] at g; cases g
  | some te =>
    obtain ⟨b, o, g1, g2, cs, z1, a1, a2, a3, a4, a5, a6, a7⟩ := ho
    have : z = z1 := by have := hz te rfl; rw [a2] at this; cases this; rfl
    subst this
    rcases k7 z a6 with ⟨_, _, hg⟩ | ⟨b, o, c, rfl, h1, h2⟩ | ⟨b', o', c, g, rfl, d1, d2, d3⟩
    · rw [g1] at hg; cases hg
    · omega
    · rw [g1] at g; cases g
      subst ht
      simp only [Nat.zero_mul, Nat.add_zero]
      exact .sl g2 a1 a3 a4 (fun i r hr => a6 r (List.mem_of_getElem? hr)) (fun i r j x u e1 e2 e3 => a7 i r j x u e1 e2 e3) (.inr ⟨rfl, a2, d3⟩) a5
end
section
variable {P : Program} {γ : Pl} {L : List TO} {h : Heap} {h0 : Heap} {W0 : Ent}
theorem eo_sz {loc : Bool} {e : TypeId} {n z : Nat} (h : szT P e = some z) : ∀ te, eo loc e n = some te → szT P te = some z := by
  intro te ht
  unfold eo at ht
  split at ht
  · cases ht; exact h
  · split at ht
    · cases ht
    · cases ht; exact h
/-- What giving up keeps. -/
def FrzOk (P : Program) (h0 : Heap) (W0 : Ent) (γ : Pl) (L : List TO) (h : Heap) (L' : List TO) : Prop := Hp P h0 W0 γ (eL L') h ∧ Carry W0 γ (eL L) h γ (eL L') h
theorem frzC_sound (H : Hp P h0 W0 γ (eL L) h) {x : TV} {v : Value} (hd : DC P (Free W0 γ (eL L) h) γ (eL L) h (encK x) v) {x' : TV} {L' : List TO} {q : List (Nat × Nat)} (e : frzC P L x = (x', L', q)) (hq : ∀ p ∈ q, p.1 = p.2) :
    FrzOk P h0 W0 γ L h L' ∧ DC P (Free W0 γ (eL L') h) γ (eL L') h (encK x') v := by
  have same : ∀ {x'' : TV}, (x, L, ([] : List (Nat × Nat))) = (x', L', q) → FrzOk P h0 W0 γ L h L' ∧ DC P (Free W0 γ (eL L') h) γ (eL L') h (encK x') v := by
    intro _ e; cases e; exact ⟨⟨H, Carry.refl _ _ _⟩, hd⟩
  unfold frzC at e
  split at e
  · rename_i id tot
    split at e
    · rename_i c te loc xs hL
      split at e
      · rename_i hs
        cases e
        have ht : xs.length = tot := hq _ List.mem_cons_self
        have hi : (eL L)[id]? = some (.li (eo loc te xs.length) (xs.map (encC c))) := eL_get hL
        obtain ⟨H', c'⟩ := hp_freeze H hi
        rw [show (eL L).set id (.fz (eo loc te xs.length) (xs.map (encC c))) = eL (L.set id (.fz c te loc xs)) from (eL_set L id (.fz c te loc xs)).symm] at H' c'
        refine ⟨⟨H', c'⟩, ?_⟩
        have hlt : id < L.length := (List.getElem?_eq_some_iff.1 hL).1
        exact ref_sl H' (e := eo loc te xs.length) (rows := xs.map (encC c)) (eL_get (by rw [List.getElem?_set_self hlt])) (by simpa using ht) (eo_sz hs) (c'.dc hd)
      · exact same (x'' := .ref id tot) e
    · rename_i c te loc xs hL
      split at e
      · rename_i hs
        cases e
        have ht : xs.length = tot := hq _ List.mem_cons_self
        refine ⟨⟨H, Carry.refl _ _ _⟩, ?_⟩
        exact ref_sl H (e := eo loc te xs.length) (rows := xs.map (encC c)) (eL_get hL) (by simpa using ht) (eo_sz hs) hd
      · exact same (x'' := .ref id tot) e
    · exact same (x'' := .ref id tot) e
  · exact same (x'' := x) e
theorem Carry.trans' {L1 L2 L3 : List Obj} {h1 h2 h3 : Heap} {γ1 γ2 γ3 : Pl} (c : Carry W0 γ1 L1 h1 γ2 L2 h2) (c2 : Carry W0 γ2 L2 h2 γ3 L3 h3) : Carry W0 γ1 L1 h1 γ3 L3 h3 :=
  ⟨fun b hb => ⟨(c2.free b (c.free b hb).1).1, (c2.free b (c.free b hb).1).2.trans (c.free b hb).2⟩, Nat.le_trans c.len c2.len, fun i b e hs => by
      obtain ⟨a1, a2⟩ := c.st i b e hs
      exact c2.st i b a1 a2, fun i o' rows' hi' e' hl' => by
      obtain ⟨o1, r1, b1, b2, b3, b4⟩ := c2.li i o' rows' (Nat.lt_of_lt_of_le hi' c.len) e' hl'
      obtain ⟨o2, r2, c1, c2', c3, c4⟩ := c.li i o1 r1 hi' b1 b2
      refine ⟨o2, r2, c1, c2', Nat.le_trans c3 b3, fun e5 => ?_⟩
      obtain ⟨d1, d2⟩ := b4 (by omega)
      obtain ⟨d3, d4⟩ := c4 (by omega)
      exact ⟨d1.trans d3, fun z hz => d4 z (d2 z hz)⟩⟩
theorem frzCs_sound : ∀ {L : List TO} {xs : List TV} {vs : List Value} {xs' : List TV} {L' : List TO} {q : List (Nat × Nat)}, Hp P h0 W0 γ (eL L) h → All2 (DC P (Free W0 γ (eL L) h) γ (eL L) h) (xs.map encK) vs → frzCs P L xs = (xs', L', q) → (∀ p ∈ q, p.1 = p.2) →
    FrzOk P h0 W0 γ L h L' ∧ All2 (DC P (Free W0 γ (eL L') h) γ (eL L') h) (xs'.map encK) vs
  | L, [], vs, xs', L', q, H, hd, e, hq => by
    cases e
    exact ⟨⟨H, Carry.refl _ _ _⟩, hd⟩
  | L, x :: l, vs, xs', L', q, H, hd, e, hq => by
    cases hd with
    | cons hx ht =>
      unfold frzCs at e
      cases h1 : frzC P L x with
      | mk x1 r1 =>
        obtain ⟨L1, q1⟩ := r1
        cases h2 : frzCs P L1 l with
        | mk l2 r2 =>
          obtain ⟨L2, q2⟩ := r2
          simp only [h1, h2] at e
          cases e
          obtain ⟨⟨H1, c1⟩, d1⟩ := frzC_sound H hx h1 fun p hp => hq p (by simp [hp])
          obtain ⟨⟨H2, c2⟩, d2⟩ := frzCs_sound H1 (ht.mono fun _ _ => c1.dc) h2 fun p hp => hq p (by simp [hp])
          exact ⟨⟨H2, c1.trans' c2⟩, .cons (c2.dc d1) d2⟩
theorem frz1_sound {L : List TO} (H : Hp P h0 W0 γ (eL L) h) {x : TV} {v : Value} (hd : DR P (Free W0 γ (eL L) h) γ (eL L) h (enc x) v) {x' : TV} {L' : List TO} {q : List (Nat × Nat)} (e : frz1 P L x = (x', L', q)) (hq : ∀ p ∈ q, p.1 = p.2) :
    FrzOk P h0 W0 γ L h L' ∧ DR P (Free W0 γ (eL L') h) γ (eL L') h (enc x') v := by
  unfold frz1 at e
  split at e
  · rename_i xs
    cases h1 : frzCs P L xs with
    | mk l2 r2 =>
      obtain ⟨L2, q2⟩ := r2
      simp only [h1] at e
      cases e
      obtain ⟨vs, rfl, hv⟩ := hd
      obtain ⟨a1, a2⟩ := frzCs_sound H hv h1 hq
      exact ⟨a1, vs, rfl, a2⟩
  · rename_i hn
    by_cases hc : isC x = true
    · have hx : DC P (Free W0 γ (eL L) h) γ (eL L) h (encK x) v := by
        rw [isC_enc hc] at hd
        cases x <;> first | exact hd | cases hc
      obtain ⟨a1, a2⟩ := frzC_sound H hx e hq
      have hc' : isC x' = true := by
        unfold frzC at e
        split at e
        · split at e
          · split at e <;> (cases e; rfl)
          · split at e <;> (cases e; rfl)
          · cases e; rfl
        · cases e; exact hc
      refine ⟨a1, ?_⟩
      rw [isC_enc hc']
      cases x' <;> first | exact a2 | cases hc'
    · cases x with
      | agg xs => exact absurd rfl (hn xs)
      | tup xs => cases e; exact ⟨⟨H, Carry.refl _ _ _⟩, hd⟩
      | _ => exact absurd rfl hc
theorem frzPs_sound : ∀ {L : List TO} {xs : List (Nat × TV)} {vs : List (Nat × Value)} {xs' : List (Nat × TV)} {L' : List TO} {q : List (Nat × Nat)}, Hp P h0 W0 γ (eL L) h → All2 (fun d v => d.1 = v.1 ∧ DR P (Free W0 γ (eL L) h) γ (eL L) h d.2 v.2) (xs.map fun p => (p.1, enc p.2)) vs → frzPs P L xs = (xs', L', q) → (∀ p ∈ q, p.1 = p.2) →
    FrzOk P h0 W0 γ L h L' ∧ All2 (fun d v => d.1 = v.1 ∧ DR P (Free W0 γ (eL L') h) γ (eL L') h d.2 v.2) (xs'.map fun p => (p.1, enc p.2)) vs
  | L, [], vs, xs', L', q, H, hd, e, hq => by
    cases e
    exact ⟨⟨H, Carry.refl _ _ _⟩, hd⟩
  | L, (i, x) :: l, vs, xs', L', q, H, hd, e, hq => by
    cases hd with
    | cons hx ht =>
      unfold frzPs at e
      cases h1 : frz1 P L x with
      | mk x1 r1 =>
        obtain ⟨L1, q1⟩ := r1
        cases h2 : frzPs P L1 l with
        | mk l2 r2 =>
          obtain ⟨L2, q2⟩ := r2
          simp only [h1, h2] at e
          cases e
          obtain ⟨⟨H1, c1⟩, d1⟩ := frz1_sound H hx.2 h1 fun p hp => hq p (by simp [hp])
          obtain ⟨⟨H2, c2⟩, d2⟩ := frzPs_sound H1 (ht.mono fun _ _ hh => ⟨hh.1, c1.dr hh.2⟩) h2 fun p hp => hq p (by simp [hp])
          exact ⟨⟨H2, c1.trans' c2⟩, .cons ⟨hx.1, c2.dr d1⟩ d2⟩
end
end Go.Sim

set_option linter.unusedVariables false
namespace Go.Sim
open Go.RowKit
theorem enc_ptr (id off : Nat) : enc (.ptr id off) = .ptr id off := rfl
theorem enc_ep (id i off tot : Nat) : enc (.ep id i off tot) = .ep id i off tot := rfl
theorem all2_rep {z : List PV} {c : CT} {x : c.T} (h : All2 unP (encC c x) z) : ∀ n : Nat, All2 (All2 unP) (List.replicate n (encC c x)) (List.replicate n z)
  | 0 => .nil
  | n + 1 => .cons h (all2_rep h n)
section
variable {R : Type}
def KT (K : TV → List TO → Tree R) (z : R) : DV → List Obj → Prop := fun d L' => ∃ td tL, d = enc td ∧ L' = eL tL ∧ (K td tL).run = some z
def AftT (P : Program) (h0 : Heap) (W0 : Ent) (γ : Pl) (L : List TO) (h : Heap) (K : TV → List TO → Tree R) (z : R) (v : Value) (h' : Heap) : Prop :=
  ∃ γ' d L', (K d L').run = some z ∧ Hp P h0 W0 γ' (eL L') h' ∧ Carry W0 γ (eL L) h γ' (eL L') h' ∧ DR P (Free W0 γ' (eL L') h') γ' (eL L') h' (enc d) v
variable {P : Program} {γ : Pl} {L : List TO} {h : Heap} {h0 : Heap} {W0 : Ent} {z : R} {K : TV → List TO → Tree R}
theorem aft_of {v : Value} {h' : Heap} (q : Aft P h0 W0 γ (eL L) h (KT K z) v h') : AftT P h0 W0 γ L h K z v h' := by
  obtain ⟨γ', d, L', ⟨td, tL, rfl, rfl, hk⟩, a, b, c⟩ := q
  exact ⟨γ', td, tL, hk, a, b, c⟩
abbrev TWr := FuncId → List TV → List TO → List Nat
/-- Variables that were not written are as they were. -/
def VKept (γ : Pl) (L : List TO) (h h' : Heap) (ids : List Nat) : Prop := ∀ id b, γ id = some (b, 0) → (∃ c, (eL L)[id]? = some (.st c)) → id ∉ ids → h'.get b = h.get b
def TCallOk (P : Program) (call : TCall R) (wr : TWr) : Prop := ∀ k ds L K z, (call k ds L K).run = some z → ∀ h0 W0 γ h vs, Hp P h0 W0 γ (eL L) h → All2 (DR P (Free W0 γ (eL L) h) γ (eL L) h) (ds.map enc) vs →
  ADoes P k vs h (fun v h' => Aft P h0 W0 γ (eL L) h (KT K z) v h' ∧ VKept γ L h h' (wr k ds L))
theorem TCallOk.weak {call : TCall R} {wr : TWr} (h : TCallOk P call wr) {k : FuncId} {ds : List TV} (hz : (call k ds L K).run = some z) : DCallW P k (ds.map enc) (eL L) (KT K z) := fun h0 W0 γ hh vs H hr => (h k ds L K z hz h0 W0 γ hh vs H hr).mono fun _ _ q => q.1
theorem opt_enc {ρ : TRho} {x : Option Operand} {n : Option Int} (h : optT ρ x = some n) : ∃ v, optD (eRho ρ) x = some v ∧ BdV n v := by
  unfold optT at h
  unfold optD
  first | (rw [tif_run] at h; split at h) | split at h
  · cases h; exact ⟨none, rfl, trivial⟩
  · rename_i x
    first | (rw [tif_run] at h; split at h) | split at h
    · rename_i d hd
      simp only [eRho, hd, Option.map_some]
      cases hi : intT d with
      | none => rw [hi] at h; cases h
      | some m =>
        rw [hi] at h; cases h
        unfold intT at hi
        split at hi
        · cases hi; exact ⟨some _, rfl, rfl⟩
        · cases hi
    · cases h
theorem isRow_row : ∀ {l : List TV}, l.all isRow = true → ∃ ps, All2 rowC l ps
  | [], _ => ⟨[], .nil⟩
  | d :: l, h => by
    simp only [List.all_cons, Bool.and_eq_true] at h
    obtain ⟨ps, hp⟩ := isRow_row h.2
    cases d <;> first | exact ⟨_ :: ps, .cons rfl hp⟩ | cases h.1
theorem rowC_fun : ∀ {l : List TV} {ps qs : List PV}, All2 rowC l ps → All2 rowC l qs → ps = qs
  | _, _, _, .nil, .nil => rfl
  | _, _, _, .cons (a := a) h t, .cons h' t' => by
    rw [rowC_fun t t']
    congr 1
    cases a <;> first | exact (show _ = _ from h).trans (show _ = _ from h').symm | exact h.elim
theorem rowC_tvC : ∀ (c : CT) (x : c.T), All2 rowC (tvC c x) (encC c x)
  | .int _, _ => .cons rfl .nil
  | .bool, _ => .cons rfl .nil
  | .str, _ => .cons rfl .nil
  | .sl _, _ => .cons rfl .nil
  | .pair a b, x => (rowC_tvC a x.1).append (rowC_tvC b x.2)
theorem rowC_set : ∀ {vs : List TV} {ps : List PV} {cs : List TV} {qs : List PV} (i : Nat), All2 rowC cs qs → All2 rowC vs ps → All2 rowC (setManyT cs i vs) (setManyP qs i ps)
  | [], _, cs, qs, i, h, .nil => h
  | v :: vs, _, cs, qs, i, h, .cons a t => rowC_set (i + 1) (h.set a i) t
theorem pvs_map : ∀ ps : List PV, pvs (ps.map .p) = some ps
  | [] => rfl
  | p :: l => by simp only [List.map_cons, pvs, pvs_map l, Option.map_some]
theorem pvs_row {l : List TV} {ps : List PV} (h : All2 rowC l ps) : pvs (l.map encK) = some ps := by rw [rowC_pvs h, pvs_map]
theorem rowsW_set {c : CT} {xs : List c.T} {i : Nat} {z : c.T} {row : List PV} (h : All2 unP (encC c z) row) : rowsW ((xs.set i z).map (encC c)) ((xs.map (encC c)).set i row) := by
  refine .inr ?_
  rw [List.map_set]
  exact (All2.refl_of (fun r => All2.refl_of unP_refl r) _).set h i
theorem tstore_sound {t : TypeId} {p x : TV} {v u : Value} {Ks : List TO → Tree R} (H : Hp P h0 W0 γ (eL L) h) (hp : DR P (Free W0 γ (eL L) h) γ (eL L) h (enc p) v) (hx : DR P (Free W0 γ (eL L) h) γ (eL L) h (enc x) u) (e : (tstore P L t p x Ks).run = some z) :
    ∃ h' L', storeV P t h v u = some h' ∧ Hp P h0 W0 γ (eL L') h' ∧ Carry W0 γ (eL L) h γ (eL L') h' ∧ (Ks L').run = some z := by
  unfold tstore at e
  first | (rw [tif_run] at e; split at e) | split at e
  · rename_i id off
    first | (rw [tif_run] at e; split at e) | split at e
    · rename_i cells hL
      first | (rw [tif_run] at e; split at e) | split at e
      · rename_i hc
        obtain ⟨h', a, b, c⟩ := dstore_sound (t := t) (L' := (eL L).set id (.st ((setManyT cells off (cellsT x)).map encK))) H hp hx (by
          unfold dstoreV
          simp only [enc_ptr, eL_get hL, encO]
          rw [is1_enc, cells_enc hc.1, List.length_map, List.length_map, if_pos hc, setMany_enc])
        refine ⟨h', _, a, ?_, ?_, e⟩
        · rw [eL_set]; exact b
        · rw [eL_set]; exact c
      · cases e
    · cases e
  · rename_i id i off tot
    cases hf : frz1 P L x with
    | mk x' r =>
      obtain ⟨L1, q⟩ := r
      simp only [hf] at e
      first | (rw [tif_run] at e; split at e) | split at e
      · rename_i c te loc xs hL
        first | (rw [tif_run] at e; split at e) | split at e
        · rename_i hc
          first | (rw [tif_run] at e; split at e) | split at e
          · rename_i ht
            replace e := sbind_some e; obtain ⟨y, hy, e⟩ := e
            replace e := obind_some e; obtain ⟨zz, hz, e⟩ := e
            replace e := chk_some e; obtain ⟨hq, e⟩ := e
            obtain ⟨⟨H1, c1⟩, hx1⟩ := frz1_sound H hx hf hq
            have hp1 := c1.dr hp
            obtain ⟨ps, hps⟩ := isRow_row hc.2.2.2
            have hlen := hps.length
            obtain ⟨row, hr1, hr2⟩ := pack_row hz
            have hrow : row = setManyP (encC c y) off ps := rowC_fun hr1 (rowC_set off (rowC_tvC c y) hps)
            subst hrow
            obtain ⟨h', a, b, c2⟩ := dstore_sound (t := t) (L' := (eL L1).set id (.li (eo loc te xs.length) ((xs.map (encC c)).set i (setManyP (encC c y) off ps)))) H1 hp1 hx1 (by
              unfold dstoreV
              simp only [enc_ep, eL_get hL, encO, List.length_map, if_pos ht, List.getElem?_map, hy, Option.map_some]
              rw [is1_enc, if_pos hc.1, cells_enc hc.1, pvs_row hps]
              simp only
              rw [if_pos ⟨by rw [← hlen]; exact hc.2.1, by rw [← hlen, encC_len]; exact hc.2.2.1⟩])
            have hlt : id < (eL L1).length := by rw [eL_len]; exact (List.getElem?_eq_some_iff.1 hL).1
            obtain ⟨b', c3⟩ := hp_rows b (id := id) (List.getElem?_set_self hlt) (rowsW_set (c := c) (xs := xs) (i := i) (z := zz) hr2)
            rw [List.set_set] at b' c3
            have he : (eL L1).set id (.li (eo loc te xs.length) ((xs.set i zz).map (encC c))) = eL (L1.set id (.li c te loc (xs.set i zz))) := by rw [eL_set]; simp [encO]
            rw [he] at b' c3
            exact ⟨h', _, a, b', (c1.trans' c2).trans' c3, e⟩
          · cases e
        · cases e
      · cases e
  · cases e
theorem fillRows_enc {c : CT} : ∀ (ps : List (Nat × TV)) (rows out : List c.T) (drows : List (List PV)), All2 (All2 unP) (rows.map (encC c)) drows → fillRowsT c rows ps = some out →
    ∃ dout, fillRows c.size drows (ps.map fun p => (p.1, enc p.2)) = some dout ∧ All2 (All2 unP) (out.map (encC c)) dout
  | [], rows, out, drows, hw, h => by cases h; exact ⟨drows, rfl, hw⟩
  | (i, d) :: r, rows, out, drows, hw, h => by
    unfold fillRowsT at h
    simp only [List.map_cons, fillRows]
    first | (rw [tif_run] at h; split at h) | split at h
    · rename_i hc
      first | (rw [tif_run] at h; split at h) | split at h
      · rename_i y hy
        obtain ⟨ps, h1, h2⟩ := pack_row hy
        have hl : i < drows.length := by rw [← hw.length]; simpa using hc.2
        rw [is1_enc, if_pos ⟨hc.1, hl⟩, cells_enc hc.1, pvs_row h1]
        simp only
        rw [if_pos (by rw [← h2.length, encC_len])]
        exact fillRows_enc r _ _ _ (by rw [List.map_set]; exact hw.set h2 i) h
      · cases h
    · cases h
theorem tbuildSlice_sound {ty : TypeId → Option CT} {t : TypeId} {len : Nat} {ps : List (Nat × TV)} {qs : List (Nat × Value)} (H : Hp P h0 W0 γ (eL L) h)
    (hr : All2 (fun d v => d.1 = v.1 ∧ DR P (Free W0 γ (eL L) h) γ (eL L) h d.2 v.2) (ps.map fun p => (p.1, enc p.2)) qs) (e : (tbuildSlice P ty L t len ps K).run = some z) :
    ∃ q mk, buildSliceV P t len qs = some (q, mk) ∧ AftT P h0 W0 γ L h K z (mk h.next) (h.push q) := by
  unfold tbuildSlice at e
  first | (rw [tif_run] at e; split at e) | split at e
  · rename_i te hu
    replace e := obind_some e; obtain ⟨c, hc, e⟩ := e
    replace e := obind_some e; obtain ⟨z0, hz0, e⟩ := e
    first | (rw [tif_run] at e; split at e) | split at e
    · rename_i hcond
      cases hf : frzPs P L ps with
      | mk ps' r =>
        obtain ⟨L1, q⟩ := r
        simp only [hf] at e
        replace e := obind_some e; obtain ⟨rows, hrows, e⟩ := e
        replace e := chk_some e; obtain ⟨hq, e⟩ := e
        obtain ⟨⟨H1, c1⟩, hr1⟩ := frzPs_sound H hr hf hq
        cases hzt : zeroT P te with
        | none => rw [hzt] at hz0; cases hz0
        | some zc =>
          rw [hzt] at hz0
          obtain ⟨zr, q1, q2⟩ := pack_row (show pack c zc = some z0 from hz0)
          obtain ⟨dout, d1, d2⟩ := fillRows_enc ps' (List.replicate len z0) rows (List.replicate len zr) (by
            rw [List.map_replicate]
            exact all2_rep q2 len) hrows
          have hbs : dbuildSliceV P (eL L1) t len (ps'.map fun p => (p.1, enc p.2)) = some (.ref L1.length 0 len len, eL L1 ++ [.li (some te) dout]) := by
            unfold dbuildSliceV
            rw [hu]
            simp only [zero_enc, hzt, Option.map_some, Option.bind_some, pvs_row q1, hcond.1]
            rw [if_pos ⟨by rw [← q2.length, encC_len], hcond.2.1, CT.size_pos c, hcond.2.2⟩, d1, eL_len]
          obtain ⟨qq, mk, m1, m2⟩ := dbuildSlice_sound (K := fun d L' => d = .ref L1.length 0 len len ∧ L' = eL L1 ++ [.li (some te) dout]) H1 hr1 hbs ⟨rfl, rfl⟩
          refine ⟨qq, mk, m1, ?_⟩
          obtain ⟨γ', d, L', ⟨rfl, rfl⟩, a, b, d3⟩ := m2
          have hlt : L1.length < (eL L1 ++ [Obj.li (some te) dout]).length := by simp [eL_len]
          obtain ⟨b', c3⟩ := hp_rows a (id := L1.length) (e := some te) (rows := dout) (by simp [eL_len]) (.inr d2)
          have he : (eL L1 ++ [Obj.li (some te) dout]).set L1.length (.li (some te) (rows.map (encC c))) = eL (L1 ++ [.li c te true rows]) := by
            rw [eL_add, List.set_append_right _ _ (by rw [eL_len]; exact Nat.le_refl _)]
            simp [eL_len, encO, eo]
          rw [he] at b' c3
          exact ⟨γ', _, _, e, b', (c1.trans' b).trans' c3, c3.dr d3⟩
    · cases e
  · cases e
end
end Go.Sim

set_option linter.unusedVariables false
namespace Go.Sim
open Go.RowKit
section
variable {R : Type} {P : Program} {γ : Pl} {L : List TO} {h : Heap} {h0 : Heap} {W0 : Ent} {z : R} {K : TV → List TO → Tree R}
theorem rhoD_of {ρ : TRho} {r : Rho} (hρ : RhoD P W0 γ (eL L) h (eRho ρ) r) {x : Operand} {d : TV} (e : ρ x = some d) : ∃ v, r x = some v ∧ DR P (Free W0 γ (eL L) h) γ (eL L) h (enc d) v := hρ x _ (by unfold eRho; rw [e]; rfl)
theorem eRho_some {ρ : TRho} {x : Operand} {d : TV} (e : ρ x = some d) : eRho ρ x = some (enc d) := by unfold eRho; rw [e]; rfl
theorem KT.mk {d : TV} {L' : List TO} (h : (K d L').run = some z) : KT K z (enc d) (eL L') := ⟨d, L', rfl, rfl, h⟩
theorem pick_bool {t x y : Bool} {d : DV} (hd : d = enc (.v (.bool (cond t x y)))) : dpickV (some (.p (.v (.bool t)))) (some (.p (.v (.bool x)))) (some (.p (.v (.bool y)))) = some d := by
  subst hd; cases t <;> rfl
theorem tpick_enc {c a b : Option TV} {K : TV → Tree R} (h : (tpick c a b K).run = some z) : ∃ r, dpickV (c.map enc) (a.map enc) (b.map enc) = some (enc r) ∧ (K r).run = some z := by
  unfold tpick at h
  first | (rw [tif_run] at h; split at h) | split at h
  · rename_i t
    first | (rw [tif_run] at h; split at h) | split at h
    · rename_i x y
      exact ⟨_, pick_bool rfl, h⟩
    · rename_i a b hn
      cases t with
      | true =>
        replace h := obind_some h; obtain ⟨r, h1, h2⟩ := h
        exact ⟨r, by subst h1; rfl, h2⟩
      | false =>
        replace h := obind_some h; obtain ⟨r, h1, h2⟩ := h
        exact ⟨r, by subst h1; rfl, h2⟩
  · cases h
theorem nil_bin {S : Nat → Prop} {c : CT} {xs : List c.T} {op : BinOp} {t : TypeId} {b0 : Bool} (hop : (op = .eql ∧ b0 = true) ∨ (op = .neq ∧ b0 = false)) (ht : isSlT P t = true) {v : Value} (hv : PR P S h (.sl c.size (xs.map (encC c))) v) :
    ∃ b, binV P op t v (.slice none 0 0) = some (.bool b) ∧ (b = b0 ∨ b = !b0) ∧ (xs.length ≠ 0 → b = !b0) := by
  unfold isSlT at ht
  split at ht
  · rename_i e hu
    have q1 : binV P op t (.slice none 0 0) (.slice none 0 0) = some (.bool b0) := by
      rcases hop with ⟨rfl, rfl⟩ | ⟨rfl, rfl⟩
      · exact eq_nilslice hu
      · exact ne_nilslice hu
    have q2 : ∀ a n k, binV P op t (.slice (some a) n k) (.slice none 0 0) = some (.bool (!b0)) := by
      intro a n k
      rcases hop with ⟨rfl, rfl⟩ | ⟨rfl, rfl⟩
      · exact eq_slice hu a n k
      · exact ne_slice hu a n k
    generalize hrows : xs.map (encC c) = rows at hv
    have hl : xs.length = rows.length := by rw [← hrows, List.length_map]
    cases hv with
    | nil => exact ⟨b0, q1, .inl rfl, fun q => absurd hl q⟩
    | dud => exact ⟨!b0, q2 _ _ _, .inr rfl, fun _ => rfl⟩
    | sl => exact ⟨!b0, q2 _ _ _, .inr rfl, fun _ => rfl⟩
  · cases ht
theorem nil_ask {op : BinOp} {x y : TV} (h : nilAsk op x y = true) : ∃ (c : CT) (xs : List c.T) (b0 : Bool), x = .sl c xs ∧ y = .v (.slice none 0 0) ∧ ((op = .eql ∧ b0 = true) ∨ (op = .neq ∧ b0 = false)) := by
  unfold nilAsk at h
  split at h
  · exact ⟨_, _, true, rfl, rfl, .inl ⟨rfl, rfl⟩⟩
  · exact ⟨_, _, false, rfl, rfl, .inr ⟨rfl, rfl⟩⟩
  · cases h
theorem tnil_run {n : Nat} {b0 b : Bool} {K : TV → Tree R} (h : (tnil n b0 K).run = some z) (hb : (b = b0 ∨ b = !b0) ∧ (n ≠ 0 → b = !b0)) : (K (.v (.bool b))).run = some z := by
  unfold tnil at h
  by_cases hn : n = 0
  · subst hn
    have h' : bothM (K (.v (.bool b0))).run (K (.v (.bool (!b0)))).run = some z := h
    obtain ⟨h1, h2⟩ := bothM_some h'
    rcases hb.1 with rfl | rfl
    · exact h1
    · exact h2
  · have h' : (match decide (n = 0) with
      | true => bothM (K (.v (.bool b0))).run (K (.v (.bool (!b0)))).run
      | false => (K (.v (.bool (!b0)))).run) = some z := h
    rw [decide_eq_false hn] at h'
    rw [hb.2 hn]; exact h'
theorem top_sound {ty : TypeId → Option CT} {call : TCall R} {wr : TWr} (hcall : TCallOk P call wr) {o : Op} {ρ : TRho} {r : Rho} (H : Hp P h0 W0 γ (eL L) h) (hρ : RhoD P W0 γ (eL L) h (eRho ρ) r) (e : (top P ty call o ρ L K).run = some z) : opWp P o r h (AftT P h0 W0 γ L h K z) := by
  have go : dopWp P o (eRho ρ) (eL L) (KT K z) → opWp P o r h (AftT P h0 W0 γ L h K z) := fun hd => opWp_mono (fun v h' q => aft_of q) (dop_sound H hρ hd)
  unfold top at e
  first | (rw [tif_run] at e; split at e) | split at e
  · replace e := obind_some e; obtain ⟨d, h1, e⟩ := e
    refine go ?_
    unfold dopWp
    simp only [eRho_some h1, withD_some]
    exact KT.mk e
  · replace e := obind_some e; obtain ⟨d, h1, e⟩ := e
    refine go ?_
    unfold dopWp
    simp only [eRho_some h1, withD_some]
    exact KT.mk e
  · obtain ⟨d, h1, h2⟩ := tpick_enc e
    refine go ?_
    unfold dopWp
    simp only
    unfold eRho
    rw [h1]
    exact KT.mk h2
  · replace e := obind_some e; obtain ⟨ds, h1, e⟩ := e
    replace e := obind_some e; obtain ⟨d, h2, e⟩ := e
    refine go ?_
    unfold dopWp
    simp only [allDP_enc, h1, Option.map_some, withD_some, tbuild_enc h2]
    exact KT.mk e
  · replace e := obind_some e; obtain ⟨x, h1, e⟩ := e
    replace e := obind_some e; obtain ⟨d, h2, e⟩ := e
    refine go ?_
    unfold dopWp
    simp only [eRho_some h1, withD_some, tfield_enc h2]
    exact KT.mk e
  · replace e := obind_some e; obtain ⟨x, h1, e⟩ := e
    replace e := obind_some e; obtain ⟨k, h2, e⟩ := e
    obtain ⟨d, h3, h4⟩ := ton_enc e
    refine go ?_
    unfold dopWp dfieldAddrV
    simp only [eRho_some h1, withD_some, h2, h3]
    exact KT.mk h4
  · replace e := obind_some e; obtain ⟨x, h1, e⟩ := e
    replace e := obind_some e; obtain ⟨v, h2, e⟩ := e
    replace e := obind_some e; obtain ⟨d, h3, e⟩ := e
    refine go ?_
    unfold dopWp
    simp only [eRho_some h1, withD_some, valD_enc, h2, scD_of h3]
    exact KT.mk e
  · rename_i op tt x0 y0 tr
    replace e := obind_some e; obtain ⟨x, h1, e⟩ := e
    replace e := obind_some e; obtain ⟨y, h2, e⟩ := e
    cases hn : nilAsk op x y with
    | true =>
      obtain ⟨c, xs, b0, rfl, rfl, hop⟩ := nil_ask hn
      have e' : ∃ b0', b0' = b0 ∧ isSlT P tt = true ∧ (tnil xs.length b0' fun d => K d L).run = some z := by
        rcases hop with ⟨rfl, rfl⟩ | ⟨rfl, rfl⟩
        · unfold tbin at e
          simp only at e
          split at e
          · rename_i ht; exact ⟨_, rfl, ht, e⟩
          · cases e
        · unfold tbin at e
          simp only at e
          split at e
          · rename_i ht; exact ⟨_, rfl, ht, e⟩
          · cases e
      obtain ⟨_, rfl, ht, e2⟩ := e'
      obtain ⟨v, r1, d1⟩ := rhoD_of hρ h1
      obtain ⟨u, r2, d2⟩ := rhoD_of hρ h2
      have hu : u = .slice none 0 0 := PR.scal (P := P) (S := Free W0 γ (eL L) h) (h := h) d2
      subst hu
      obtain ⟨b, q1, q2, q3⟩ := nil_bin (P := P) (h := h) hop ht d1
      simp only [opWp, pureV, r1, r2, q1]
      exact ⟨γ, .v (.bool b), L, tnil_run e2 ⟨q2, q3⟩, H, Carry.refl _ _ _, PR.v rfl⟩
    | false =>
    obtain ⟨d, h3, h4⟩ := tbin_enc hn e
    refine go ?_
    unfold dopWp
    simp only [eRho_some h1, eRho_some h2, withD_some, h3]
    exact KT.mk h4
  · replace e := obind_some e; obtain ⟨x, h1, e⟩ := e
    obtain ⟨d, L', h3, h4⟩ := tconv_enc e
    refine go ?_
    unfold dopWp
    simp only [eRho_some h1, withD_some, h3]
    exact KT.mk h4
  · replace e := obind_some e; obtain ⟨d, h2, e⟩ := e
    refine go ?_
    unfold dopWp
    simp only [allD_enc, withD_some, dfunc_enc h2]
    exact KT.mk e
  · replace e := obind_some e; obtain ⟨x, h1, e⟩ := e
    replace e := obind_some e; obtain ⟨y, h2, e⟩ := e
    obtain ⟨d, h3, h4⟩ := tindexAddr_enc e
    refine go ?_
    unfold dopWp
    simp only [eRho_some h1, eRho_some h2, withD_some, h3]
    exact KT.mk h4
  · replace e := obind_some e; obtain ⟨x, h1, e⟩ := e
    replace e := obind_some e; obtain ⟨y, h2, e⟩ := e
    obtain ⟨d, h3, h4⟩ := tindexV_enc e
    refine go ?_
    unfold dopWp
    simp only [eRho_some h1, eRho_some h2, withD_some, h3]
    exact KT.mk h4
  · replace e := obind_some e; obtain ⟨x, h1, e⟩ := e
    replace e := obind_some e; obtain ⟨d, h2, e⟩ := e
    refine go ?_
    unfold dopWp
    simp only [eRho_some h1, withD_some, textract_enc h2]
    exact KT.mk e
  · replace e := obind_some e; obtain ⟨x, h1, e⟩ := e
    obtain ⟨d, h3, h4⟩ := ton_enc e
    refine go ?_
    unfold dopWp dcheckV
    simp only [eRho_some h1, withD_some, h3]
    exact KT.mk h4
  · replace e := obind_some e; obtain ⟨x, h1, e⟩ := e
    obtain ⟨d, h3, h4⟩ := tload_enc e
    refine go ?_
    unfold dopWp
    simp only [eRho_some h1, withD_some, h3]
    exact KT.mk h4
  · replace e := obind_some e; obtain ⟨x, h1, e⟩ := e
    replace e := obind_some e; obtain ⟨y, h2, e⟩ := e
    obtain ⟨v, r1, d1⟩ := rhoD_of hρ h1
    obtain ⟨u, r2, d2⟩ := rhoD_of hρ h2
    obtain ⟨h', L', a, b, c, hk⟩ := tstore_sound H d1 d2 e
    simp only [opWp, r1, r2, a]
    exact ⟨γ, _, L', hk, b, c, ⟨#[], rfl, .nil⟩⟩
  · replace e := obind_some e; obtain ⟨x, h1, e⟩ := e
    replace e := obind_some e; obtain ⟨lo, h2, e⟩ := e
    replace e := obind_some e; obtain ⟨hi, h3, e⟩ := e
    obtain ⟨lv, l1, l2⟩ := opt_enc h2
    obtain ⟨hv, l3, l4⟩ := opt_enc h3
    obtain ⟨d, h4, h5⟩ := tslice_enc l2 l4 e
    refine go ?_
    unfold dopWp
    simp only [eRho_some h1, l1, l3, withD_some, optD_none, h4]
    exact KT.mk h5
  · replace e := obind_some e; obtain ⟨x, h1, e⟩ := e
    first | (rw [tif_run] at e; split at e) | split at e
    · rename_i hc
      refine go ?_
      unfold dopWp
      simp only [eRho_some h1, withD_some]
      rw [is1_enc, cells_enc hc.1, List.length_map]
      refine ⟨hc.1, hc.2, _, _, ?_, ?_, e⟩
      · rw [eL_len]; rfl
      · rw [eL_add]; rfl
    · cases e
  · replace e := obind_some e; obtain ⟨x, h1, e⟩ := e
    refine go ?_
    unfold dopWp
    simp only [zero_enc, h1, Option.map_some, withD_some]
    refine ⟨_, _, ?_, ?_, e⟩
    · rw [eL_len]; rfl
    · rw [eL_add]; rfl
  · replace e := obind_some e; obtain ⟨ds, h1, e⟩ := e
    obtain ⟨vs, r1, d1⟩ := allDP_sound hρ (ds := ds.map fun p => (p.1, enc p.2)) (by rw [allDP_enc, h1]; rfl)
    obtain ⟨q, mk, a, b⟩ := tbuildSlice_sound H d1 e
    simp only [opWp, newV, r1, a]
    exact b
  · replace e := obind_some e; obtain ⟨f, h1, e⟩ := e
    replace e := obind_some e; obtain ⟨ds, h2, e⟩ := e
    first | (rw [tif_run] at e; split at e) | split at e
    · rename_i k pre cap
      first | (rw [tif_run] at e; split at e) | split at e
      · rename_i hb
        simp only [Bool.and_eq_true] at hb
        refine go ?_
        unfold dopWp
        simp only [eRho_some h1, allD_enc, h2, Option.map_some, withD_some]
        have := hcall.weak e
        rw [List.map_append, List.map_append, (bases_enc hb.1).2, (bases_enc hb.2).2] at this
        exact this
      · cases e
    · cases e
  · replace e := obind_some e; obtain ⟨ds, h1, e⟩ := e
    first | (rw [tif_run] at e; split at e) | split at e
    · obtain ⟨d, L', h3, h4⟩ := tappend_enc e
      refine go ?_
      unfold dopWp
      simp only [allD_enc, h1, Option.map_some, withD_some, List.map_cons, List.map_nil, h3]
      exact KT.mk h4
    · cases e
  · replace e := obind_some e; obtain ⟨ds, h1, e⟩ := e
    first | (rw [tif_run] at e; split at e) | split at e
    · rename_i x t ht
      obtain ⟨d, h3, h4⟩ := tlenV_enc e
      refine go ?_
      unfold dopWp
      simp only [allD_enc, h1, Option.map_some, withD_some, List.map_cons, List.map_nil, ht, h3]
      exact KT.mk h4
    · cases e
  · replace e := obind_some e; obtain ⟨ds, h1, e⟩ := e
    replace e := obind_some e; obtain ⟨vs, h2, e⟩ := e
    replace e := obind_some e; obtain ⟨d, h3, e⟩ := e
    refine go ?_
    unfold dopWp
    simp only [allD_enc, h1, Option.map_some, withD_some, valsOf_enc, h2, scD_of h3]
    exact KT.mk e
  · replace e := obind_some e; obtain ⟨ds, h1, e⟩ := e
    replace e := obind_some e; obtain ⟨vs, h2, e⟩ := e
    replace e := obind_some e; obtain ⟨d, h3, e⟩ := e
    refine go ?_
    unfold dopWp
    simp only [allD_enc, h1, Option.map_some, withD_some, valsOf_enc, h2, scD_of h3]
    exact KT.mk e
  · cases e
end
end Go.Sim

namespace Go.Sim
open Go.RowKit

def bytesEqX : List UInt8 → List UInt8 → Bool
  | [], [] => true
  | a :: r, b :: s => a.toNat == b.toNat && bytesEqX r s
  | _, _ => false
theorem bytesEqX_sound : ∀ {r s : List UInt8}, bytesEqX r s = true → r = s
  | [], [], _ => rfl
  | a :: r, b :: s, h => by
    simp only [bytesEqX, Bool.and_eq_true, beq_iff_eq] at h
    rw [UInt8.toNat_inj.1 h.1, bytesEqX_sound h.2]
  | [], _ :: _, h => by cases h
  | _ :: _, [], h => by cases h
def kindEq : IntKind → IntKind → Bool := fun a b => decide (a = b)
def addrEq (a b : Option Addr) : Bool :=
  match a, b with
  | none, none => true
  | some ⟨x, y, none⟩, some ⟨x', y', none⟩ => x == x' && y == y'
  | _, _ => false
theorem addrEq_sound {a b : Option Addr} (h : addrEq a b = true) : a = b := by
  unfold addrEq at h
  split at h
  · rfl
  · simp only [Bool.and_eq_true, beq_iff_eq] at h
    rw [h.1, h.2]
  · cases h
mutual
def valEq : Value → Value → Bool
  | .bool a, .bool b => a == b
  | .int k n, .int k' n' => kindEq k k' && decide (n = n')
  | .string s, .string t => bytesEqX s.data.toList t.data.toList
  | .pointer a, .pointer b => addrEq a b
  | .slice a n c, .slice a' n' c' => addrEq a a' && n == n' && c == c'
  | .map a, .map b => decide (a = b)
  | .chan a, .chan b => decide (a = b)
  | .func (.func k) ⟨f⟩ ⟨c⟩, .func (.func k') ⟨f'⟩ ⟨c'⟩ => k == k' && valsEq f f' && valsEq c c'
  | .nilFunc, .nilFunc => true
  | .iface t v, .iface t' v' => t == t' && valEq v v'
  | .nilIface, .nilIface => true
  | .agg ⟨a⟩, .agg ⟨b⟩ => valsEq a b
  | .tuple ⟨a⟩, .tuple ⟨b⟩ => valsEq a b
  | _, _ => false
def valsEq : List Value → List Value → Bool
  | [], [] => true
  | a :: r, b :: s => valEq a b && valsEq r s
  | _, _ => false
end
mutual
theorem valEq_sound : ∀ (a b : Value), valEq a b = true → a = b
  | .bool a, b, h => by
    cases b <;> simp_all [valEq]
  | .int k n, b, h => by
    cases b <;> simp_all [valEq, kindEq]
  | .string s, b, h => by
    cases b <;> simp only [valEq] at h <;> try (cases h; done)
    rename_i t
    have := bytesEqX_sound h
    obtain ⟨⟨s⟩⟩ := s
    obtain ⟨⟨t⟩⟩ := t
    simp only at this
    rw [this]
  | .pointer a, b, h => by
    cases b <;> simp only [valEq] at h <;> try (cases h; done)
    rw [addrEq_sound h]
  | .slice a n c, b, h => by
    cases b <;> simp only [valEq, Bool.and_eq_true, beq_iff_eq] at h <;> try (cases h; done)
    rw [addrEq_sound h.1.1, h.1.2, h.2]
  | .map a, b, h => by
    cases b <;> simp_all [valEq]
  | .chan a, b, h => by
    cases b <;> simp_all [valEq]
  | .func f fs cs, b, h => by
    obtain ⟨fs⟩ := fs
    obtain ⟨cs⟩ := cs
    cases f <;> cases b <;> try (simp only [valEq] at h; cases h; done)
    rename_i k f' fs' cs'
    obtain ⟨fs'⟩ := fs'
    obtain ⟨cs'⟩ := cs'
    cases f' <;> simp only [valEq, Bool.and_eq_true, beq_iff_eq] at h <;> try (cases h; done)
    rw [h.1.1, valsEq_sound _ _ h.1.2, valsEq_sound _ _ h.2]
  | .nilFunc, b, h => by
    cases b <;> simp_all [valEq]
  | .iface t v, b, h => by
    cases b <;> simp only [valEq, Bool.and_eq_true, beq_iff_eq] at h <;> try (cases h; done)
    rw [h.1, valEq_sound _ _ h.2]
  | .nilIface, b, h => by
    cases b <;> simp_all [valEq]
  | .agg a, b, h => by
    obtain ⟨a⟩ := a
    cases b <;> try (simp only [valEq] at h; cases h; done)
    rename_i b
    obtain ⟨b⟩ := b
    rw [valsEq_sound a b (by simpa only [valEq] using h)]
  | .tuple a, b, h => by
    obtain ⟨a⟩ := a
    cases b <;> try (simp only [valEq] at h; cases h; done)
    rename_i b
    obtain ⟨b⟩ := b
    rw [valsEq_sound a b (by simpa only [valEq] using h)]
  | .float _ _, b, h => by cases b <;> simp [valEq] at h
  | .complex _ _ _, b, h => by cases b <;> simp [valEq] at h
theorem valsEq_sound : ∀ (a b : List Value), valsEq a b = true → a = b
  | [], b, h => by cases b <;> simp_all [valsEq]
  | x :: r, b, h => by
    cases b with
    | nil => simp [valsEq] at h
    | cons y s =>
      simp only [valsEq, Bool.and_eq_true] at h
      rw [valEq_sound x y h.1, valsEq_sound r s h.2]
end
end Go.Sim

namespace Go.Sim
open Go.RowKit

/-- It is known that a slot's truth value is this. -/
def TFrm.know (a : TFrm) (x : Operand) (b : Bool) : TFrm := match x with
  | .tmp t => ⟨a.n, a.c, (t, .v (.bool b)) :: a.l⟩
  | _ => a
def tguard {R : Type} (t : Option Tmp) (want : Bool) (a : TFrm) (A B : TFrm → Tree R) : Tree R := match t with
  | some t => match tlook t a.l with
    | some (.v (.bool b)) => .cond b (if want then A (a.know (.tmp t) true) else B (a.know (.tmp t) true)) (if want then B (a.know (.tmp t) false) else A (a.know (.tmp t) false))
    | some (.tup _) => B a
    | _ => .fail
  | none => .fail
section
variable (P : Program) (ty : TypeId → Option CT)
def tcW {R : Type} (call : TCall R) : List C → (TFrm → List TO → Tree R) → TFrm → List TO → Tree R
  | [], K, a, L => K a L
  | c :: r, K, a, L => match c.g with
    | none => top P ty call c.op a.ev L (fun d L' => tcW call r K (a.put c.d d) L')
    | some (t, want) => tguard t want a (fun a => top P ty call c.op a.ev L (fun d L' => tcW call r K (a.put c.d d) L')) (fun a => tcW call r K (a.put c.d undT) L)
def slotT (a : TFrm) : Option Tmp → Option TV
  | some t => tlook t a.l
  | none => none
def tread {R : Type} (o : Op) (ρ : TRho) (L : List TO) (K : TV → Tree R) : Tree R :=
  match o with
  | .load t x => obind (ρ x) fun x => tload P L t x K
  | .call { callee := .builtin .len, args := args, argTypes := ts } => match allT ρ args.toList, ts.toList with
    | some [x], [t] => tlenV P L t x K
    | _, _ => .fail
  | _ => .fail
/-- Are scalars the same? -/
def sameV {R : Type} (x y : Value) (o : Tree R) : Tree R := match x, y with
  | .int k n, .int k' m => if k = k' then tif (n = m) o else .fail
  | .bool a, .bool b => tif (a = b) o
  | .string a, .string b => tif (a = b) o
  | x, y => if valEq x y = true then o else .fail
def sameT {R : Type} : List TV → List TV → Tree R → Tree R
  | [], [], o => o
  | .v x :: l, .v y :: m, o => sameV x y (sameT l m o)
  | _, _, _ => .fail
def same1 {R : Type} (x y : TV) (o : Tree R) : Tree R := match x, y with
  | .v x, .v y => sameV x y o
  | .agg xs, .agg ys => sameT xs ys o
  | _, _ => .fail
def tchk1 {R : Type} (c : C) (a : TFrm) (L : List TO) (o : Tree R) : Tree R := tread P c.op a.ev L fun d => obind (slotT a c.d) fun d' => same1 d d' o
/-- What slots are known to hold what a variable holds. -/
abbrev Pins := List (Nat × Nat × Nat × TypeId)
def pinned (pins : Pins) (c : C) (a : TFrm) : Bool := match c.op, c.d with
  | .load t x, some d => match a.ev x with
    | some (.ptr id off) => pins.any fun q => q.1 == d && q.2.1 == id && q.2.2.1 == off && q.2.2.2 == t
    | _ => false
  | _, _ => false
def sameTmp : Operand → Operand → Bool
  | .tmp a, .tmp b => a == b
  | .const (.int k n), .const (.int k' n') => decide (k = k') && decide (n = n')
  | _, _ => false
def sameOpt : Option Operand → Option Operand → Bool
  | none, none => true
  | some a, some b => sameTmp a b
  | _, _ => false
def sameRd : Op → Op → Bool
  | .load t x, .load t' x' => t == t' && sameTmp x x'
  | .slice t x lo hi mx, .slice t' x' lo' hi' mx' => t == t' && sameTmp x x' && sameOpt lo lo' && sameOpt hi hi' && sameOpt mx mx'
  | _, _ => false
def sameG : Option (Option Tmp × Bool) → Option (Option Tmp × Bool) → Bool
  | none, none => true
  | some (some t, w), some (some t', w') => t == t' && w == w'
  | _, _ => false
def sameC (q c : C) : Bool := q.d == c.d && sameRd q.op c.op && sameG q.g c.g
def usesT (o : Op) (d : Nat) : Bool := o.operands.toList.any fun x => match x with
  | .tmp t => t == d
  | _ => false
def guardT (g : Option (Option Tmp × Bool)) (d : Nat) : Bool := match g with
  | some (some t, _) => t == d
  | _ => false
/-- Does it speak of a slot? -/
def holdsT (q : C) (d : Nat) : Bool := q.d == some d || usesT q.op d || guardT q.g d
/-- Does it read what nobody writes? -/
def readsFree (c : C) (a : TFrm) : Bool := match c.d with
  | none => false
  | some d => decide (d < a.n) && !usesT c.op d && !guardT c.g d && match c.op with
    | .load _ x => (match a.ev x with
      | some (.dp _ _ _) => true
      | _ => false)
    | .slice _ x _ _ _ => (match a.ev x with
      | some (.sl _ _) => true
      | _ => false)
    | _ => false
def freeAfter (p2 : List C) (c : C) (a : TFrm) : List C := (if readsFree c a then [c] else []) ++ p2.filter fun q => match c.d with
  | some d => !holdsT q d
  | none => true
def tchkP {R : Type} (pins : Pins) (p2 : List C) (c : C) (a : TFrm) (L : List TO) (o : Tree R) : Tree R := match pinned pins c a || p2.any (sameC · c) with
  | true => o
  | false => tchk1 P c a L o
def tchkW {R : Type} (pins : Pins) (p2 : List C) (c : C) (a : TFrm) (L : List TO) (o : Tree R) : Tree R := match c.g with
  | none => tchkP P pins p2 c a L o
  | some (some t, want) => match tlook t a.l with
    | some (.v (.bool b)) => .cond b (if want then tchkP P pins p2 c a L o else o) (if want then o else tchkP P pins p2 c a L o)
    | some (.tup _) => o
    | _ => .fail
  | some (none, _) => .fail
def tchkAll {R : Type} (pins : Pins) (p2 : List C) (a : TFrm) (L : List TO) : List C → Tree R → Tree R
  | [], o => o
  | c :: r, o => tchkW P pins p2 c a L (tchkAll pins p2 a L r o)
/-- What an operation may write: the objects' numbers; none: nobody knows. -/
def wrT (wr : FuncId → List TV → List TO → List Nat) (o : Op) (ρ : TRho) (L : List TO) : Option (List Nat) := match o with
  | .store _ x _ => match ρ x with
    | some (.ptr id _) => some [id]
    | some (.ep _ _ _ _) => some []
    | _ => none
  | .call { callee := .value f, args := args, argTypes := _ } => match ρ f, allT ρ args.toList with
    | some (.fn k pre cap), some ds => some (wr k (pre ++ ds ++ cap) L)
    | _, _ => none
  | .call { callee := .builtin .append, args := _, argTypes := _ } => some []
  | .call { callee := .builtin .len, args := _, argTypes := _ } => some []
  | .call { callee := .builtin .min, args := _, argTypes := _ } => some []
  | .call { callee := .builtin .max, args := _, argTypes := _ } => some []
  | .call _ => none
  | .move _ => some []
  | .assign _ => some []
  | .pick _ _ _ => some []
  | .build _ _ => some []
  | .field _ _ _ => some []
  | .fieldAddr _ _ _ => some []
  | .unOp _ _ _ => some []
  | .binOp _ _ _ _ _ => some []
  | .convert _ _ _ => some []
  | .makeFunc _ _ _ => some []
  | .indexAddr _ _ _ => some []
  | .index _ _ _ => some []
  | .extract _ _ => some []
  | .nilCheck _ => some []
  | .load _ _ => some []
  | .slice _ _ _ _ _ => some []
  | .box _ _ => some []
  | .alloc _ => some []
  | .buildSlice _ _ _ => some []
  | _ => none
def pinsAfter (wr : FuncId → List TV → List TO → List Nat) (pins : Pins) (c : C) (a : TFrm) (L : List TO) : Pins :=
  match c.g with
  | some _ => []
  | none => match wrT wr c.op a.ev L with
    | none => []
    | some ids => (match c.op, c.d with
      | .load t x, some d => (match a.ev x with
        | some (.ptr id off) => if d < a.n then [(d, id, off, t)] else []
        | _ => [])
      | _, _ => []) ++ pins.filter fun q => !(ids.contains q.2.1) && !(c.d == some q.1)
def tdW {R : Type} (call : TCall R) (wr : FuncId → List TV → List TO → List Nat) : Pins → List C → List (C × List C) → (TFrm → List TO → Tree R) → TFrm → List TO → Tree R
  | _, _, [], K, a, L => K a L
  | pins, p2, (c, ks) :: r, K, a, L => match c.g with
    | none => top P ty call c.op a.ev L (fun d L' => tchkAll P (pinsAfter wr pins c a L) (freeAfter p2 c a) (a.put c.d d) L' ks (tdW call wr (pinsAfter wr pins c a L) (freeAfter p2 c a) r K (a.put c.d d) L'))
    | some (t, want) => tguard t want a (fun a => top P ty call c.op a.ev L (fun d L' => tchkAll P [] (freeAfter p2 c a) (a.put c.d d) L' ks (tdW call wr [] (freeAfter p2 c a) r K (a.put c.d d) L'))) (fun a => tchkAll P [] (p2.filter fun q => match c.d with | some d => !holdsT q d | none => true) (a.put c.d undT) L ks (tdW call wr [] (p2.filter fun q => match c.d with | some d => !holdsT q d | none => true) r K (a.put c.d undT) L))
end
def iterM {σ T : Type} (step : σ → Option (σ ⊕ T)) : Nat → σ → Option T
  | 0, _ => none
  | n + 1, s => match step s with
    | some (.inl s') => iterM step n s'
    | some (.inr t) => some t
    | none => none
open Classical in
/-- What comes of going round till there is an answer; none if there never is. -/
noncomputable def loopM {σ T : Type} (step : σ → Option (σ ⊕ T)) (s : σ) : Option T := if h : ∃ n t, iterM step n s = some t then some (Classical.choose (Classical.choose_spec h)) else none
theorem iterM_mono {σ T : Type} {step : σ → Option (σ ⊕ T)} : ∀ {n m : Nat} {s : σ} {t : T}, n ≤ m → iterM step n s = some t → iterM step m s = some t
  | 0, _, _, _, _, h => by cases h
  | n + 1, 0, _, _, hl, _ => by omega
  | n + 1, m + 1, s, t, hl, h => by
    unfold iterM at h ⊢
    cases hs : step s with
    | none => simp only [hs] at h; cases h
    | some x =>
      cases x with
      | inl s' => simp only [hs] at h ⊢; exact iterM_mono (by omega) h
      | inr t' => simp only [hs] at h ⊢; exact h
theorem loopM_iter {σ T : Type} {step : σ → Option (σ ⊕ T)} {s : σ} {t : T} : loopM step s = some t ↔ ∃ n, iterM step n s = some t := by
  unfold loopM
  constructor
  · intro h
    split at h
    · rename_i hx
      cases h
      exact ⟨Classical.choose hx, Classical.choose_spec (Classical.choose_spec hx)⟩
    · cases h
  · rintro ⟨n, h⟩
    have hx : ∃ n t, iterM step n s = some t := ⟨n, t, h⟩
    rw [dif_pos hx]
    have h2 := Classical.choose_spec (Classical.choose_spec hx)
    have a := iterM_mono (Nat.le_max_left n (Classical.choose hx)) h
    have b := iterM_mono (Nat.le_max_right n (Classical.choose hx)) h2
    rw [a] at b
    exact b.symm
theorem loopM_eq {σ T : Type} (step : σ → Option (σ ⊕ T)) (s : σ) : loopM step s = match step s with
    | some (.inl s') => loopM step s'
    | some (.inr t) => some t
    | none => none := by
  have key : ∀ t, loopM step s = some t ↔ (match step s with
    | some (.inl s') => loopM step s'
    | some (.inr t) => some t
    | none => none) = some t := by
    intro t
    rw [loopM_iter]
    cases hs : step s with
    | none =>
      simp only
      constructor
      · rintro ⟨n, h⟩
        cases n with
        | zero => cases h
        | succ n => unfold iterM at h; rw [hs] at h; cases h
      · intro h; cases h
    | some x =>
      cases x with
      | inl s' =>
        simp only
        rw [loopM_iter]
        constructor
        · rintro ⟨n, h⟩
          cases n with
          | zero => cases h
          | succ n => unfold iterM at h; simp only [hs] at h; exact ⟨n, h⟩
        · rintro ⟨n, h⟩
          exact ⟨n + 1, by unfold iterM; simp only [hs]; exact h⟩
      | inr t' =>
        simp only
        constructor
        · rintro ⟨n, h⟩
          cases n with
          | zero => cases h
          | succ n => unfold iterM at h; simp only [hs] at h; exact h
        · intro h
          exact ⟨1, by unfold iterM; simp only [hs]; exact h⟩
  cases h1 : loopM step s with
  | some t => exact ((key t).1 h1).symm
  | none =>
    cases h2 : (match step s with
      | some (.inl s') => loopM step s'
      | some (.inr t) => some t
      | none => none) with
    | none => rfl
    | some t => rw [(key t).2 h2] at h1; cases h1
/-- A state's shape: what stands in the slots and the objects; how it is found. -/
structure Shp where
  σ : Type
  F : σ → List (Nat × TV)
  G : σ → List TO
  dec : TFrm → List TO → Option (σ × List (Nat × Nat))
structure TEnv where
  P : Program
  ty : TypeId → Option CT
  call : ∀ R : Type, TCall R
  wr : FuncId → List TV → List TO → List Nat
  loops : Nat → Option Shp
  joins : Nat → Option Shp
abbrev TK (R : Type) := Exit → TFrm → List TO → Tree R
def tthen {R : Type} (k : TFrm → List TO → Tree R) (K : TK R) : TK R
  | .normal, a, L => k a L
  | e, a, L => K e a L
def tblock {R : Type} (id : Nat) (K : TK R) : TK R
  | .exit id', a, L => if id' = id then K .normal a L else K (.exit id') a L
  | e, a, L => K e a L
/-- Behind a round: the next one, or what comes behind the loop. -/
def tround {R : Type} (S : Shp) (n c : Nat) (K : TK R) : TK (S.σ ⊕ R)
  | .normal, a, L => if a.n = n ∧ a.c = c then obind (S.dec a L) fun p => chk p.2 (.ret (.inl p.1)) else .fail
  | e, a, L => (K e a L).map .inr
/-- Behind a piece of a label's: its jump is the next round. -/
def tgo {R : Type} (S : Shp) (n c : Nat) (K : TK R) : TK (S.σ ⊕ R)
  | .goto _, a, L => if a.n = n ∧ a.c = c then obind (S.dec a L) fun p => chk p.2 (.ret (.inl p.1)) else .fail
  | e, a, L => (K e a L).map .inr
noncomputable def tloop {R : Type} (S : Shp) (body : TFrm → List TO → Tree (S.σ ⊕ R)) (a : TFrm) (L : List TO) : Tree R :=
  obind (S.dec a L) fun p => chk p.2 (sbind (loopM (fun s => (body ⟨a.n, a.c, S.F s⟩ (S.G s)).run) p.1) .ret)
/-- Jumps to labels; within the rounds of one label its own jump is the next round. -/
noncomputable def tjump (shp : Nat → Option Shp) (lab : ∀ R : Type, TK R → Nat → TFrm → List TO → Tree R) : Nat → Option Nat → (R : Type) → TK R → TK R
  | 0, _, _, K => fun e a L => match e with
    | .goto _ => .fail
    | e => K e a L
  | f + 1, cur, R, K => fun e a L => match e with
    | .goto l => if cur = some l then K (.goto l) a L else match shp l with
      | none => lab R (tjump shp lab f cur R K) l a L
      | some S => tloop S (fun a' L => lab (S.σ ⊕ R) (tjump shp lab f (some l) (S.σ ⊕ R) (tgo S a.n a.c K)) l a' L) a L
    | e => K e a L
/-- Ways that meet again. -/
noncomputable def tjoin {R : Type} (S : Shp) (body : TK (S.σ ⊕ R) → TFrm → List TO → Tree (S.σ ⊕ R)) (k : TFrm → List TO → Tree R) (K : TK R) (a : TFrm) (L : List TO) : Tree R :=
  .bind (S.σ ⊕ R) (body (tround S a.n a.c K) a L).run fun s => .case S.σ R s (fun s => k ⟨a.n, a.c, S.F s⟩ (S.G s)) .ret
noncomputable def tx (E : TEnv) : X → Option Nat → Nat → (R : Type) → TK R → TFrm → List TO → Tree R
  | .lcons l z r, some l', p, R, K, a, L => if l' = l then tx E z none (8 * p + 1) R K a L else tx E r (some l') (8 * p + 2) R K a L
  | .nil, none, _, _, K, a, L => K .normal a L
  | .ret, none, _, _, K, a, L => K .ret a L
  | .exit id, none, _, _, K, a, L => K (.exit id) a L
  | .goto l, none, _, _, K, a, L => K (.goto l) a L
  | .reg l k, none, p, R, K, a, L => match E.joins p with
    | none => tcW E.P E.ty (E.call R) l (fun a L => tx E k none (8 * p + 1) R K a L) a L
    | some S => tjoin S (fun K' a L => tcW E.P E.ty (E.call (S.σ ⊕ R)) l (fun a L => K' .normal a L) a L) (fun a L => tx E k none (8 * p + 1) R K a L) K a L
  | .draw l k, none, p, R, K, a, L => match E.joins p with
    | none => tdW E.P E.ty (E.call R) E.wr [] [] l (fun a L => tx E k none (8 * p + 1) R K a L) a L
    | some S => tjoin S (fun K' a L => tdW E.P E.ty (E.call (S.σ ⊕ R)) E.wr [] [] l (fun a L => K' .normal a L) a L) (fun a L => tx E k none (8 * p + 1) R K a L) K a L
  | .cond c x y k, none, p, R, K, a, L => match a.ev c with
    | some (.v (.bool b)) => match E.joins p with
      | some S => tjoin S (fun K' a L => .cond b (tx E x none (8 * p + 2) (S.σ ⊕ R) K' (a.know c true) L) (tx E y none (8 * p + 3) (S.σ ⊕ R) K' (a.know c false) L)) (fun a L => tx E k none (8 * p + 1) R K a L) K a L
      | none => .cond b (tx E x none (8 * p + 2) R (tthen (fun a L => tx E k none (8 * p + 1) R K a L) K) (a.know c true) L) (tx E y none (8 * p + 3) R (tthen (fun a L => tx E k none (8 * p + 1) R K a L) K) (a.know c false) L)
    | _ => .fail
  | .block id x k, none, p, R, K, a, L => match E.joins p with
    | none => tx E x none (8 * p + 2) R (tblock id (tthen (fun a L => tx E k none (8 * p + 1) R K a L) K)) a L
    | some S => tjoin S (fun K' a L => tx E x none (8 * p + 2) (S.σ ⊕ R) (tblock id K') a L) (fun a L => tx E k none (8 * p + 1) R K a L) K a L
  | .loop x k, none, p, R, K, a, L => match E.loops p with
    | some S => tloop S (fun a' L => tx E x none (8 * p + 2) (S.σ ⊕ R) (tround S a.n a.c (tthen (fun a L => tx E k none (8 * p + 1) R K a L) K)) a' L) a L
    | none => .fail
  | .scope x labs k, none, p, R, K, a, L => tx E x none (8 * p + 2) R (tjump (fun l => E.loops (8 * (8 * p + 4) + l)) (fun R K l a L => tx E labs (some l) (8 * p + 3) R K a L) 20 none R (tthen (fun a L => tx E k none (8 * p + 1) R K a L) K)) a L
  | .label _ k, none, p, R, K, a, L => tx E k none (8 * p + 1) R K a L
  | _, _, _, _, _, _, _ => .fail
end Go.Sim

set_option maxRecDepth 100000
set_option maxHeartbeats 4000000
set_option linter.unusedVariables false
namespace Go.Sim
theorem wrap_u64 {n : Int} (h1 : 0 ≤ n) (h2 : n < 18446744073709551616) : IntKind.u64.wrap n = n := by
  unfold IntKind.wrap
  simp only [IntKind.bits, IntKind.signed, Bool.false_and]
  simp
  omega
theorem wrap_u8 {n : Int} (h1 : 0 ≤ n) (h2 : n < 256) : IntKind.u8.wrap n = n := by
  unfold IntKind.wrap
  simp only [IntKind.bits, IntKind.signed, Bool.false_and]
  simp
  omega
theorem wrap_i64n {n : Int} (h1 : 0 ≤ n) (h2 : n < 9223372036854775808) : IntKind.i64.wrap n = n := by
  unfold IntKind.wrap
  simp only [IntKind.bits, IntKind.signed, Bool.true_and]
  have : n % 2 ^ 64 = n := by omega
  simp [this]
  omega
/-- A number's bytes. -/
def numB (n : Nat) : List Int := if n < 128 then [(n : Int)] else (128 + n % 128 : Int) :: numB (n / 128)
theorem numB_len (n : Nat) (k : Nat) (h : n < 128 ^ (k + 1)) : (numB n).length ≤ k + 1 := by
  induction k generalizing n with
  | zero => rw [numB, if_pos (by omega)]; simp
  | succ k ih =>
    rw [numB]
    split
    · simp
    · have := ih (n / 128) (by rw [Nat.pow_succ] at h; omega)
      simp; omega
theorem numB_pos (n : Nat) : 0 < (numB n).length := by
  rw [numB]; split <;> simp
def un (i : Nat) : Nat := 2 ^ (7 * i)
theorem un_succ (i : Nat) : un (i + 1) = un i * 128 := by
  unfold un
  rw [show 7 * (i + 1) = 7 * i + 7 by omega, Nat.pow_add]
theorem un_le {i : Nat} (h : i ≤ 9) : un i ≤ 2 ^ 63 := Nat.pow_le_pow_right (by decide) (by omega)
/-- A byte. -/
def Byt (c : Int) : Prop := 0 ≤ c ∧ c < 256
theorem Byt.nat {c : Int} (h : Byt c) : ∃ n : Nat, c = n ∧ n < 256 := ⟨c.toNat, by have := h.1; omega, by have := h.2; have := h.1; omega⟩
/-- The number that bytes begin with, how many it has, the error. -/
def readM : List Int → Nat → Nat → Nat × Nat × Nat
  | [], _, _ => (0, 0, 4)
  | c :: r, i, acc => if (i = 9 ∧ 1 < c) ∨ (0 < i ∧ c = 0) then (0, 0, 3) else
    if c < 128 then (acc + c.toNat % 128 * un i, i + 1, 0) else readM r (i + 1) (acc + c.toNat % 128 * un i)
theorem read_step {acc i m : Nat} (hm : m < 256) (hi : i ≤ 9) (h9 : i = 9 → m ≤ 1) (ha : acc < un i) :
    acc + m % 128 * un i < un (i + 1) ∧ acc + m % 128 * un i < 18446744073709551616 := by
  have h1 := un_le hi
  have h2 := un_succ i
  have h3 : m % 128 * un i ≤ 127 * un i := Nat.mul_le_mul_right _ (by omega)
  refine ⟨by omega, ?_⟩
  by_cases h : i = 9
  · have : m % 128 * un i ≤ 1 * un i := Nat.mul_le_mul_right _ (by have := h9 h; omega)
    omega
  · have h4 := un_le (i := i + 1) (by omega)
    omega
theorem readM_len : ∀ (cs : List Int) (i acc : Nat), (readM cs i acc).2.1 ≤ i + cs.length ∧ (readM cs i acc).2.2 ≤ 4
  | [], i, acc => by simp [readM]
  | c :: r, i, acc => by
    rw [readM]
    split
    · simp
    · split
      · simp
      · have := readM_len r (i + 1) (acc + c.toNat % 128 * un i)
        simp only [List.length_cons]; omega
def rNum (bs : List Int) (a e : Nat) : Nat × Nat × Nat := if e ≠ 0 then (a, e, 0) else (a + (readM (bs.drop a) 0 0).2.1, (readM (bs.drop a) 0 0).2.2, (readM (bs.drop a) 0 0).1)
theorem rNum_le {bs : List Int} {a e : Nat} (h : a ≤ bs.length) (he : e < 100) : (rNum bs a e).1 ≤ bs.length ∧ (rNum bs a e).2.1 < 100 := by
  unfold rNum
  split
  · exact ⟨h, he⟩
  · have := readM_len (bs.drop a) 0 0
    simp only [List.length_drop] at this
    simp only; omega
theorem readM_err : ∀ (cs : List Int) (i acc : Nat), (readM cs i acc).2.2 ≠ 0 → (readM cs i acc).1 = 0 ∧ (readM cs i acc).2.1 = 0
  | [], i, acc => by simp [readM]
  | c :: r, i, acc => by
    rw [readM]
    split
    · simp
    · split
      · simp
      · exact readM_err r (i + 1) _
theorem rNum_err {bs : List Int} {a e : Nat} (h : (rNum bs a e).2.1 ≠ 0) : (rNum bs a e).2.2 = 0 := by
  unfold rNum at h ⊢
  split
  · rfl
  · rename_i h1
    rw [if_neg h1] at h
    exact (readM_err _ _ _ h).1
theorem readM_lt (cs : List Int) (hB : ∀ c ∈ cs, Byt c) (i acc : Nat) (hi : i ≤ 9) (ha : acc < un i) : (readM cs i acc).1 < 18446744073709551616 := by
  induction cs generalizing i acc with
  | nil => simp [readM]
  | cons c r ih =>
    obtain ⟨m, rfl, hm⟩ := (hB c List.mem_cons_self).nat
    rw [readM, Int.toNat_natCast]
    split
    · simp
    · have hs := read_step (acc := acc) hm hi (by omega) ha
      split
      · exact hs.2
      · exact ih (fun c h => hB c (List.mem_cons_of_mem _ h)) _ _ (by omega) hs.1
theorem rNum_lt (bs : List Int) (hB : ∀ c ∈ bs, Byt c) (a e : Nat) : (rNum bs a e).2.2 < 18446744073709551616 := by
  unfold rNum
  split
  · simp
  · exact readM_lt _ (fun c h => hB c (List.mem_of_mem_drop h)) 0 0 (by omega) (by decide)
def rUp (bs : List Int) (a e m w : Nat) : Nat × Nat × Nat := if (rNum bs a e).2.1 = 0 ∧ m < (rNum bs a e).2.2 then (a, w, 0) else rNum bs a e
theorem rUp_le {bs : List Int} {a e m w : Nat} (h : a ≤ bs.length) (he : e < 100) (hw : w < 100) : (rUp bs a e m w).1 ≤ bs.length ∧ (rUp bs a e m w).2.1 < 100 ∧ (rUp bs a e m w).2.2 ≤ m := by
  unfold rUp
  split
  · exact ⟨h, hw, Nat.zero_le _⟩
  · have := rNum_le h he
    have := @rNum_err bs a e
    refine ⟨by omega, by omega, ?_⟩
    by_cases h2 : (rNum bs a e).2.1 = 0
    · omega
    · rw [this h2]; omega
def rTake (bs : List Int) (a e n : Nat) : Nat × Nat × List Int := if e ≠ 0 then (a, e, []) else if bs.length < a + n then (a, 4, []) else (a + n, 0, (bs.drop a).take n)
theorem rTake_le {bs : List Int} {a e n : Nat} (h : a ≤ bs.length) (he : e < 100) : (rTake bs a e n).1 ≤ bs.length ∧ (rTake bs a e n).2.1 < 100 := by
  unfold rTake
  split
  · exact ⟨h, he⟩
  · split
    · exact ⟨h, by simp⟩
    · exact ⟨by simp only; omega, by simp⟩
structure Ev where
  kind : Int
  b : List Int
  n : Int
  rows : Int
  cols : Int
theorem readM_pos : ∀ (cs : List Int) (i acc : Nat), (readM cs i acc).2.2 = 0 → i < (readM cs i acc).2.1
  | [], i, acc, h => by simp [readM] at h
  | c :: r, i, acc, h => by
    rw [readM] at h ⊢
    split at h
    · simp at h
    · rename_i h1
      rw [if_neg h1]
      split at h
      · rename_i h2; rw [if_pos h2]; simp only; omega
      · rename_i h2; rw [if_neg h2]; have := readM_pos r (i + 1) _ h; omega
theorem rNum_mono (bs : List Int) (a e : Nat) : a ≤ (rNum bs a e).1 ∧ ((rNum bs a e).2.1 = 0 → a < (rNum bs a e).1 ∧ e = 0) := by
  unfold rNum
  split
  · rename_i h; exact ⟨Nat.le_refl _, fun q => absurd q h⟩
  · rename_i h
    refine ⟨by simp only; omega, fun q => ⟨?_, by omega⟩⟩
    have := readM_pos _ _ _ q
    simp only; omega
theorem rUp_mono (bs : List Int) (a e m w : Nat) : a ≤ (rUp bs a e m w).1 ∧ ((rUp bs a e m w).2.1 = 0 → w ≠ 0 → e = 0) := by
  unfold rUp
  split
  · exact ⟨Nat.le_refl _, fun q h => absurd q h⟩
  · have := rNum_mono bs a e
    exact ⟨this.1, fun q _ => (this.2 q).2⟩
theorem rTake_mono (bs : List Int) (a e n : Nat) : a ≤ (rTake bs a e n).1 ∧ ((rTake bs a e n).2.1 = 0 → e = 0) := by
  unfold rTake
  split
  · rename_i h; exact ⟨Nat.le_refl _, fun q => absurd q h⟩
  · split
    · exact ⟨Nat.le_refl _, fun q => by simp at q⟩
    · exact ⟨by simp only; omega, fun _ => by omega⟩
/-- Behind a kind. -/
def kindP (bs : List Int) (a e : Nat) (k : Nat) : Nat × Nat × Ev :=
  if k = 1 ∨ k = 2 then
    let u := rUp bs a e 4096 5
    let t := rTake bs u.1 u.2.1 u.2.2
    (t.1, t.2.1, ⟨k, t.2.2, 0, 0, 0⟩)
  else if k = 3 ∨ k = 5 then
    let u := rNum bs a e
    (u.1, u.2.1, ⟨k, [], u.2.2, 0, 0⟩)
  else if k = 4 then
    let u := rUp bs a e 1048576 5
    let t := rUp bs u.1 u.2.1 1048576 5
    (t.1, t.2.1, ⟨k, [], 0, u.2.2, t.2.2⟩)
  else (a, e, ⟨k, [], 0, 0, 0⟩)
/-- An event: the place behind it, the error, the event. -/
def oneP (bs : List Int) (a : Nat) : Nat × Nat × Ev :=
  let u := rNum bs a 0
  kindP bs u.1 (if u.2.1 = 0 ∧ (u.2.2 < 1 ∨ 5 < u.2.2) then 9 else u.2.1) u.2.2
theorem kindP_mono (bs : List Int) (a e k : Nat) : a ≤ (kindP bs a e k).1 ∧ ((kindP bs a e k).2.1 = 0 → e = 0) := by
  unfold kindP
  split
  · have h1 := rUp_mono bs a e 4096 5
    have h2 := rTake_mono bs (rUp bs a e 4096 5).1 (rUp bs a e 4096 5).2.1 (rUp bs a e 4096 5).2.2
    exact ⟨Nat.le_trans h1.1 h2.1, fun q => h1.2 (h2.2 q) (by decide)⟩
  · split
    · have h1 := rNum_mono bs a e
      exact ⟨h1.1, fun q => (h1.2 q).2⟩
    · split
      · have h1 := rUp_mono bs a e 1048576 5
        have h2 := rUp_mono bs (rUp bs a e 1048576 5).1 (rUp bs a e 1048576 5).2.1 1048576 5
        exact ⟨Nat.le_trans h1.1 h2.1, fun q => h1.2 (h2.2 q (by decide)) (by decide)⟩
      · exact ⟨Nat.le_refl _, fun q => q⟩
theorem oneP_lt (bs : List Int) (a : Nat) (h : (oneP bs a).2.1 = 0) : a < (oneP bs a).1 := by
  unfold oneP at h ⊢
  simp only at h ⊢
  have h1 := kindP_mono bs (rNum bs a 0).1 (if (rNum bs a 0).2.1 = 0 ∧ ((rNum bs a 0).2.2 < 1 ∨ 5 < (rNum bs a 0).2.2) then 9 else (rNum bs a 0).2.1) (rNum bs a 0).2.2
  have h2 := h1.2 h
  have h3 : (rNum bs a 0).2.1 = 0 := by
    split at h2
    · omega
    · exact h2
  have := (rNum_mono bs a 0).2 h3
  omega
/-- All events from here on: the error, the events. -/
def evsP (bs : List Int) (a e : Nat) (l : List Ev) : Nat × List Ev :=
  if h : e = 0 ∧ a < bs.length then evsP bs (oneP bs a).1 (oneP bs a).2.1 (l ++ [(oneP bs a).2.2]) else (e, l)
  termination_by (if e = 0 then bs.length + 1 - a else 0)
  decreasing_by
    obtain ⟨rfl, h2⟩ := h
    simp only [if_true]
    split
    · rename_i h3
      have := oneP_lt bs a h3
      omega
    · omega
/-- A tape: rows, columns, events, the error. -/
def parseP (bs : List Int) : Nat × Nat × List Ev × Nat :=
  if bs[0]? ≠ some 84 then (0, 0, [], 12) else
  let u := rUp bs 1 0 512 5
  let t := rUp bs u.1 u.2.1 512 5
  let r := evsP bs t.1 (if t.2.1 = 0 ∧ (u.2.2 = 0 ∨ t.2.2 = 0) then 11 else t.2.1) []
  if r.1 ≠ 0 then (0, 0, [], r.1) else (u.2.2, t.2.2, r.2, 0)
theorem kindP_le {bs : List Int} {a e : Nat} (k : Nat) (h : a ≤ bs.length) (he : e < 100) : (kindP bs a e k).1 ≤ bs.length ∧ (kindP bs a e k).2.1 < 100 := by
  unfold kindP
  split
  · have h1 := rUp_le (m := 4096) (w := 5) h he (by decide)
    exact rTake_le h1.1 h1.2.1
  · split
    · exact rNum_le h he
    · split
      · have h1 := rUp_le (m := 1048576) (w := 5) h he (by decide)
        have h2 := rUp_le (m := 1048576) (w := 5) h1.1 h1.2.1 (by decide)
        exact ⟨h2.1, h2.2.1⟩
      · exact ⟨h, he⟩
def evB (e : Ev) : List Int := [e.kind] ++ if e.kind < 3 then numB e.b.length ++ e.b else if e.kind = 4 then numB e.rows.toNat ++ numB e.cols.toNat else numB e.n.toNat
def evsB (l : List Ev) : List Int := (l.map evB).flatten
def headB (rows cols : Int) : List Int := 84 :: (numB rows.toNat ++ numB cols.toNat)
theorem wrap_nat {n : Nat} (h : n < 18446744073709551616) : IntKind.u64.wrap (n : Int) = n := wrap_u64 (by omega) (by omega)
theorem bits_or_nat {a b : Nat} (ha : a < 18446744073709551616) (hb : b < 18446744073709551616) : bits .or .u64 (a : Int) (b : Int) = ((a ||| b : Nat) : Int) := by
  unfold bits
  show IntKind.u64.wrap ((BitVec.ofInt 64 (a : Int) ||| BitVec.ofInt 64 (b : Int) : BitVec 64).toNat : Int) = _
  rw [BitVec.ofInt_natCast, BitVec.ofInt_natCast, BitVec.toNat_or, BitVec.toNat_ofNat, BitVec.toNat_ofNat, Nat.mod_eq_of_lt (show a < 2 ^ 64 from ha), Nat.mod_eq_of_lt (show b < 2 ^ 64 from hb)]
  exact wrap_nat (Nat.or_lt_two_pow (n := 64) ha hb)
theorem bits_and_nat {a b : Nat} (ha : a < 18446744073709551616) (hb : b < 18446744073709551616) : bits .and .u64 (a : Int) (b : Int) = ((a &&& b : Nat) : Int) := by
  unfold bits
  show IntKind.u64.wrap ((BitVec.ofInt 64 (a : Int) &&& BitVec.ofInt 64 (b : Int) : BitVec 64).toNat : Int) = _
  rw [BitVec.ofInt_natCast, BitVec.ofInt_natCast, BitVec.toNat_and, BitVec.toNat_ofNat, BitVec.toNat_ofNat, Nat.mod_eq_of_lt (show a < 2 ^ 64 from ha), Nat.mod_eq_of_lt (show b < 2 ^ 64 from hb)]
  exact wrap_nat (Nat.lt_of_le_of_lt Nat.and_le_left ha)
theorem and_128 {c : Int} (h : Byt c) : bits .and .u64 (IntKind.u64.wrap c) 128 = 0 ↔ c < 128 := by
  obtain ⟨n, rfl, hn⟩ := h.nat
  rw [wrap_nat (by omega), show (128 : Int) = ((128 : Nat) : Int) from rfl, bits_and_nat (by omega) (by omega)]
  have : ∀ n : Fin 256, (n.val &&& 128 = 0 ↔ n.val < 128) := by decide +kernel
  have := this ⟨n, hn⟩
  simp only at this
  omega
def numAcc (acc c : Int) (i : Nat) : Int := bits .or .u64 acc (IntKind.u64.wrap (bits .and .u64 (IntKind.u64.wrap c) 127 * 2 ^ min (7 * (i : Int)).toNat 64))
theorem acc_eq {acc i : Nat} {c : Int} (h : Byt c) (hi : i ≤ 9) (h9 : i = 9 → c ≤ 1) (ha : acc < 2 ^ (7 * i)) : numAcc acc c i = acc + c % 128 * 2 ^ (7 * i) ∧ acc + c % 128 * 2 ^ (7 * i) < 2 ^ (7 * (i + 1)) ∧ acc + c % 128 * 2 ^ (7 * i) < 18446744073709551616 := by
  obtain ⟨n, rfl, hn⟩ := h.nat
  have hp : (2 : Nat) ^ (7 * i) ≤ 2 ^ 63 := Nat.pow_le_pow_right (by decide) (by omega)
  have hp0 : 0 < (2 : Nat) ^ (7 * i) := Nat.pow_pos (by decide)
  have hs : (2 : Nat) ^ (7 * (i + 1)) = 128 * 2 ^ (7 * i) := by rw [show 7 * (i + 1) = 7 * i + 7 by omega, Nat.pow_add, Nat.mul_comm]
  have hm : n % 128 < 128 := Nat.mod_lt _ (by decide)
  have hle : (n % 128) * 2 ^ (7 * i) ≤ 127 * 2 ^ (7 * i) := Nat.mul_le_mul_right _ (by omega)
  have hle9 : i = 9 → (n % 128) * 2 ^ (7 * i) ≤ 1 * 2 ^ (7 * i) := fun e => Nat.mul_le_mul_right _ (by have := h9 e; omega)
  have hle8 : i ≤ 8 → 2 ^ (7 * i) ≤ 2 ^ 56 := fun e => Nat.pow_le_pow_right (by decide) (by omega)
  have hlt : (n % 128) * 2 ^ (7 * i) < 2 ^ 64 - acc := by
    by_cases e : i = 9
    · have := hle9 e
      omega
    · have := hle8 (by omega)
      omega
  have key : ((acc : Int) + (n : Int) % 128 * 2 ^ (7 * i)) = ((acc + (n % 128) * 2 ^ (7 * i) : Nat) : Int) := by push_cast; rfl
  rw [key]
  refine ⟨?_, by rw [show ((2 : Int) ^ (7 * (i + 1))) = ((2 ^ (7 * (i + 1)) : Nat) : Int) by push_cast; rfl]; omega, by omega⟩
  unfold numAcc
  rw [wrap_nat (by omega), show (127 : Int) = ((127 : Nat) : Int) from rfl, bits_and_nat (by omega) (by omega), show (127 : Nat) = 2 ^ 7 - 1 from rfl, Nat.and_two_pow_sub_one_eq_mod]
  rw [show min (7 * (i : Int)).toNat 64 = 7 * i by omega]
  rw [show (((n % 2 ^ 7 : Nat) : Int) * 2 ^ (7 * i)) = (((n % 2 ^ 7) * 2 ^ (7 * i) : Nat) : Int) by push_cast; rfl]
  rw [wrap_nat (by simp only [show (2 : Nat) ^ 7 = 128 from rfl]; omega), bits_or_nat (by omega) (by simp only [show (2 : Nat) ^ 7 = 128 from rfl]; omega)]
  congr 1
  rw [Nat.or_comm, Nat.mul_comm, ← Nat.two_pow_add_eq_or_of_lt ha, Nat.add_comm, Nat.mul_comm]
end Go.Sim

namespace Go.Sim
open Go.RowKit
def foldPair : List CT → Option CT
  | [] => none
  | [c] => some c
  | c :: r => (foldPair r).map (.pair c)
/-- The type of a row, by the program's own types. -/
def ctOf (P : Program) : Nat → TypeId → Option CT
  | 0, _ => none
  | n + 1, t => match P.underlying t with
    | some (.int k) => some (.int k)
    | some .bool => some .bool
    | some .string => some .str
    | some (.slice e) => (ctOf P n e).map .sl
    | some (.struct fs) => (fs.toList.mapM fun f => ctOf P n f.type).bind foldPair
    | some (.array len e) => (ctOf P n e).bind fun c => foldPair (List.replicate len c)
    | _ => none
def targSlots : Nat → List TV → List (Nat × TV)
  | _, [] => []
  | k, v :: vs => (k, v) :: targSlots (k + 1) vs
def tres {R : Type} (P : Program) (a : TFrm) (L : List TO) : List ResultVar → (List TV → Tree R) → Tree R
  | [], K => K []
  | .tmp t :: r, K => obind (tlook t a.l) fun d => tres P a L r fun ds => K (d :: ds)
  | .cell p t :: r, K => obind (tlook p a.l) fun x => tload P L t x fun d => tres P a L r fun ds => K (d :: ds)
def tpack : List TV → Option TV
  | [d] => some d
  | ds => if ds.all is1T then some (.tup ds) else none
def tbody {R : Type} (P : Program) (rs : List ResultVar) (K : TV → List TO → Tree R) : TK R
  | .normal, a, L => tres P a L rs fun ds => obind (tpack ds) fun d => K d L
  | .ret, a, L => tres P a L rs fun ds => obind (tpack ds) fun d => K d L
  | _, _, _ => .fail
noncomputable def tfun {R : Type} (E : TEnv) (f : FuncId) (ds : List TV) (A : List TO) (K : TV → List TO → Tree R) : Tree R :=
  obind E.P.funcs[f]? fun fn => tx E (xOf E.P (bodyOf fn) .nil) none 1 R (tbody E.P fn.results.toList K) ⟨fn.ntmps, A.length, targSlots 0 ds⟩ A
end Go.Sim

set_option linter.unusedVariables false
namespace Go.Sim
open Go.RowKit
def quiet : Op → Bool
  | .call { callee := .builtin .len, args := _, argTypes := _ } => true
  | .call { callee := .builtin .min, args := _, argTypes := _ } => true
  | .call { callee := .builtin .max, args := _, argTypes := _ } => true
  | .call _ => false
  | .move _ => true
  | .assign _ => true
  | .pick _ _ _ => true
  | .build _ _ => true
  | .field _ _ _ => true
  | .fieldAddr _ _ _ => true
  | .unOp _ _ _ => true
  | .binOp _ _ _ _ _ => true
  | .convert _ _ _ => true
  | .makeFunc _ _ _ => true
  | .indexAddr _ _ _ => true
  | .index _ _ _ => true
  | .extract _ _ => true
  | .nilCheck _ => true
  | .load _ _ => true
  | .slice _ _ _ _ _ => true
  | .box _ _ => true
  | .alloc _ => true
  | .buildSlice _ _ _ => true
  | _ => false
/-- Blocks that were there are as they were. -/
def Kept (h h' : Heap) : Prop := ∀ b, b < h.next → h'.get b = h.get b
theorem Kept.refl (h : Heap) : Kept h h := fun _ _ => rfl
theorem Kept.push (h : Heap) (o : AObj) : Kept h (h.push o) := fun b hb => Heap.get_push_ne _ _ (by omega)
theorem convWp_kept {P : Program} {s d : TypeId} {x : Value} {h : Heap} {K : Value → Heap → Prop} (q : convWp P s d x h K) : convWp P s d x h (fun v h' => K v h' ∧ Kept h h') := by
  unfold convWp at q ⊢
  split at q
  · refine ⟨q.1, ?_⟩
    have q2 := q.2
    split at q2
    · exact ⟨q2, .refl _⟩
    · exact q2.elim
  · exact ⟨q.1, q.2.1, q.2.2.1, q.2.2.2, .push _ _⟩
  · refine ⟨q.1, q.2.1, q.2.2.1, ?_⟩
    have q2 := q.2.2.2
    split at q2
    · exact ⟨q2, .refl _⟩
    · exact q2.elim
  · split at q
    · exact ⟨q, .refl _⟩
    · exact q.elim
theorem opWp_kept {P : Program} {o : Op} {ρ : Rho} {h : Heap} {K : Value → Heap → Prop} (hq : quiet o = true) (q : opWp P o ρ h K) : opWp P o ρ h (fun v h' => K v h' ∧ Kept h h') := by
  unfold opWp at q ⊢
  split at q <;> first
    | (cases hq; done)
    | (split at q <;> first
        | exact convWp_kept q
        | exact ⟨q, .refl _⟩
        | exact ⟨q, .push _ _⟩
        | exact q.elim
        | (split at q <;> first | exact ⟨q, .refl _⟩ | exact ⟨q, .push _ _⟩ | exact q.elim))
theorem storeV_kept {P : Program} {t : TypeId} {h h' : Heap} {p x : Value} (e : storeV P t h p x = some h') : ∃ b i, p = .pointer (some ⟨b, i, none⟩) ∧ ∀ c, c ≠ b → h'.get c = h.get c := by
  unfold storeV at e
  split at e
  · rename_i b i
    split at e
    · split at e
      · cases e
        exact ⟨b, i, rfl, fun c hc => Heap.get_set_ne _ _ hc⟩
      · cases e
    · cases e
  · cases e
theorem appendV_kept {P : Program} {ts : List TypeId} {h h' : Heap} {s x v : Value} (e : appendV P ts h s x = some (v, h')) : ∀ c, c < h.next → (∀ o n k, s ≠ .slice (some ⟨c, o, none⟩) n k) → h'.get c = h.get c := by
  intro c hc hne
  unfold appendV at e
  split at e
  · split at e
    · split at e
      · split at e
        · split at e
          · split at e
            · cases e; rfl
            · split at e
              · cases e; exact Heap.get_push_ne _ _ (by omega)
              · cases e
          · rename_i b o n k
            split at e
            · cases e; rfl
            · split at e
              · cases e
              · split at e
                · split at e
                  · split at e
                    · split at e
                      · cases e; exact Heap.get_push_ne _ _ (by omega)
                      · split at e
                        · cases e
                          have hcb : c ≠ b := fun q => hne o n k (by rw [q])
                          rw [Heap.get_push_ne _ _ (by simpa using Nat.ne_of_lt hc), Heap.get_kill_ne _ hcb]
                        · cases e
                    · cases e
                  · cases e
                · cases e
          · cases e
        · cases e
      · cases e
    · cases e
  · cases e
section
variable {R : Type} {P : Program} {γ : Pl} {L : List TO} {h : Heap} {h0 : Heap} {W0 : Ent} {z : R} {K : TV → List TO → Tree R}
theorem st_lt (H : Hp P h0 W0 γ (eL L) h) {id b : Nat} (hg : γ id = some (b, 0)) (hs : ∃ c, (eL L)[id]? = some (.st c)) : b < h.next := by
  obtain ⟨c, hc⟩ := hs
  exact (OR.lt (fun b hb => hb.1) (H.obj id _ hc) hg rfl).1
theorem VKept.of (H : Hp P h0 W0 γ (eL L) h) {h' : Heap} (hk : Kept h h') (ids : List Nat) : VKept γ L h h' ids := fun id b hg hs _ => hk b (st_lt H hg hs)
/-- What a list's slice or element tells of the block. -/
theorem other_block (H : Hp P h0 W0 γ (eL L) h) {id b : Nat} (hg : γ id = some (b, 0)) (hs : ∃ c, (eL L)[id]? = some (.st c)) {id' : Nat} {o' : Obj} {x : Nat} (hi : (eL L)[id']? = some o') (ho : o'.owns = true) (hn : ∀ c, o' ≠ .st c) : γ id' ≠ some (b, x) := by
  intro hg'
  obtain ⟨c, hc⟩ := hs
  have := H.inj id id' _ _ b 0 x hc hi rfl ho hg hg'
  subst this
  rw [hc] at hi; cases hi
  exact hn _ rfl
theorem tappend_src {ty : TypeId → Option CT} {ts : List TypeId} {s x : TV} (h : (tappend P ty ts L s x K).run = some z) : s = .v (.slice none 0 0) ∨ ∃ id tot c e loc, ∃ xs : List (CT.T c), s = .ref id tot ∧ L[id]? = some (.li c e loc xs) ∧ xs.length = tot := by
  unfold tappend at h
  split at h
  · split at h
    · replace h := obind_some h; obtain ⟨i, _, h⟩ := h
      replace h := obind_some h; obtain ⟨zc, _, h⟩ := h
      replace h := obind_some h; obtain ⟨c, _, h⟩ := h
      split at h
      · obtain ⟨ys, _, h⟩ := tsrc_enc h
        split at h
        · exact .inl rfl
        · split at h
          · rename_i id tot _ _ c' e' loc xs hL
            split at h
            · split at h
              · rw [tif_run] at h
                split at h
                · rename_i hc
                  exact .inr ⟨_, _, _, _, _, _, rfl, hL, hc.1⟩
                · cases h
              · cases h
            · cases h
          · cases h
        · cases h
      · cases h
    · cases h
  · cases h
theorem topF_sound {ty : TypeId → Option CT} {call : TCall R} {wr : TWr} (hcall : TCallOk P call wr) {o : Op} {a : TFrm} {r : Rho} (H : Hp P h0 W0 γ (eL L) h) (hρ : RhoD P W0 γ (eL L) h (eRho a.ev) r) (e : (top P ty call o a.ev L K).run = some z) {ids : List Nat} (hw : wrT wr o a.ev L = some ids) :
    opWp P o r h (fun v h' => AftT P h0 W0 γ L h K z v h' ∧ VKept γ L h h' ids) := by
  by_cases hq : quiet o = true
  · exact opWp_mono (fun v h' q => ⟨q.1, .of H q.2 ids⟩) (opWp_kept hq (top_sound hcall H hρ e))
  · unfold wrT at hw
    split at hw
    · -- store
      rename_i t x y
      unfold top at e
      simp only at e
      replace e := obind_some e; obtain ⟨p, h1, e⟩ := e
      replace e := obind_some e; obtain ⟨q, h2, e⟩ := e
      obtain ⟨v, r1, d1⟩ := rhoD_of hρ h1
      obtain ⟨u, r2, d2⟩ := rhoD_of hρ h2
      obtain ⟨h', L', a1, b1, c1, hk⟩ := tstore_sound H d1 d2 e
      obtain ⟨bb, i, hp, hne⟩ := storeV_kept a1
      simp only [opWp, r1, r2, a1]
      refine ⟨⟨γ, _, L', hk, b1, c1, ⟨#[], rfl, .nil⟩⟩, fun id b hg hs hid => hne b ?_⟩
      rw [h1] at hw
      split at hw
      · rename_i id0 off hx
        cases hx
        cases hw
        obtain ⟨b0, g0, s0, hv⟩ := d1
        rw [hv] at hp; cases hp
        intro q; subst q
        obtain ⟨c, hc⟩ := hs
        obtain ⟨c0, hc0⟩ := s0
        have := H.inj id id0 _ _ b 0 0 hc hc0 rfl rfl hg g0
        exact hid (by rw [this]; exact List.mem_cons_self)
      · rename_i id0 i0 off0 tot0 hx
        cases hx
        cases hw
        unfold tstore at e
        simp only at e
        obtain ⟨k1, k2, k3⟩ := d1
        cases hf : frz1 P L q with
        | mk x' rr =>
          obtain ⟨L1, qq⟩ := rr
          simp only [hf] at e
          split at e
          · rename_i c te loc xs hL
            split at e
            · rename_i hcond
              rw [tif_run] at e
              split at e
              · rename_i ht
                replace e := sbind_some e; obtain ⟨y', hy, e⟩ := e
                replace e := obind_some e; obtain ⟨zz, hz, e⟩ := e
                replace e := chk_some e; obtain ⟨hqq, e⟩ := e
                obtain ⟨⟨H1, c2⟩, _⟩ := frz1_sound H d2 hf hqq
                have d1' := c2.dr (show DR P (Free W0 γ (eL L) h) γ (eL L) h (.ep id0 i0 off0 tot0) v from ⟨k1, k2, k3⟩)
                obtain ⟨j1, j2, j3⟩ := d1'
                obtain ⟨m1, m2⟩ := j3 _ _ (eL_get hL) rfl
                obtain ⟨m3, m4⟩ := m2 (by simpa using ht)
                obtain ⟨b2, o2, g2, hv⟩ := m4 c.size (fun r hr => by obtain ⟨w, _, rfl⟩ := List.mem_map.1 hr; exact encC_len c w)
                rw [hv] at hp; cases hp
                intro q'; subst q'
                have hown : (encO (.li c te loc xs)).owns = true := by
                  have : eo loc te xs.length = some te := by
                    unfold eo; cases loc
                    · rw [if_neg (by decide), if_neg (by omega)]
                    · rfl
                  show (Obj.li (eo loc te xs.length) _).owns = true
                  rw [this]; rfl
                obtain ⟨g1, s1⟩ := c2.st id b hg hs
                exact other_block H1 g1 s1 (eL_get hL) hown (fun c q => by cases q) g2
              · cases e
            · cases e
          · cases e
      · cases hw
    · -- call
      rename_i f args tys
      unfold top at e
      simp only at e
      replace e := obind_some e; obtain ⟨fv, h1, e⟩ := e
      replace e := obind_some e; obtain ⟨ds, h2, e⟩ := e
      split at e
      · rename_i k pre cap
        split at e
        · rename_i hb
          simp only [Bool.and_eq_true] at hb
          rw [h1, h2] at hw
          cases hw
          obtain ⟨v, e1, r1⟩ := rhoD_of hρ h1
          obtain ⟨vs, e3, r3⟩ := allD_sound hρ (ds := ds.map enc) (by rw [allD_enc, h2]; rfl)
          obtain ⟨as, bs, rfl, r4, r5⟩ := r1
          simp only [opWp, e1, e3, callWp]
          have up : ∀ {ds : List DV} {vs : List Value}, All2 (DB P (Free W0 γ (eL L) h) γ (eL L) h) ds vs → All2 (DR P (Free W0 γ (eL L) h) γ (eL L) h) ds vs := fun hh => hh.mono fun d v hd => by
            cases d <;> first | exact hd | exact hd.elim
          have hc := hcall _ _ _ _ _ e h0 W0 γ h (as.toList ++ vs ++ bs.toList) H (by
            rw [List.map_append, List.map_append, (bases_enc hb.1).2, (bases_enc hb.2).2]
            exact ((up r4).append r3).append (up r5))
          exact hc.mono fun v h' q => ⟨aft_of q.1, q.2⟩
        · cases e
      · cases e
    · -- append
      rename_i args tys
      cases hw
      unfold top at e
      simp only at e
      replace e := obind_some e; obtain ⟨ds, h1, e⟩ := e
      split at e
      · rename_i s x
        obtain ⟨d, L', h3, h4⟩ := tappend_enc e
        obtain ⟨vs, e3, r3⟩ := allD_sound hρ (ds := [s, x].map enc) (by rw [allD_enc, h1]; rfl)
        cases r3 with
        | cons hs t => cases t with
          | cons hx t =>
            cases t
            obtain ⟨v', h', γ', e4, a1, a2, a3⟩ := dappend_sound H hs hx h3
            simp only [opWp, e3, e4]
            refine ⟨⟨γ', d, L', h4, a1, a2, a3⟩, fun id b hg hst _ => appendV_kept e4 b (st_lt H hg hst) fun o n k q => ?_⟩
            rcases tappend_src e with rfl | ⟨id', tot, c, te, loc, xs, rfl, hL, hl⟩
            · have hv : _ = Value.slice none 0 0 := PR.scal (P := P) (S := Free W0 γ (eL L) h) (h := h) hs
              rw [hv] at q; cases q
            · obtain ⟨k1, k2, k3⟩ := (show DB P (Free W0 γ (eL L) h) γ (eL L) h (.ref id' 0 tot tot) _ from hs)
              obtain ⟨m1, m2⟩ := k3 _ _ (eL_get hL) rfl
              obtain ⟨m3, m4⟩ := m2 (by simpa using hl)
              rcases m4 c.size (fun r hr => by obtain ⟨w, _, rfl⟩ := List.mem_map.1 hr; exact encC_len c w) with ⟨hv, _, _⟩ | ⟨_, _, _, hv, q1, q2⟩ | ⟨b', o', c', g', hv, _⟩
              · rw [hv] at q; cases q
              · omega
              · rw [hv] at q
                cases q
                have hO := H.obj id' _ (eL_get hL)
                have hown : (encO (.li c te loc xs)).owns = true := by
                  show (Obj.li (eo loc te xs.length) _).owns = true
                  cases he : eo loc te xs.length with
                  | some w => rfl
                  | none =>
                    have hO' : OR P (Free W0 γ (eL L) h) γ (eL L) h id' (.li (eo loc te xs.length) (xs.map (encC c))) := hO
                    rw [he] at hO'
                    rw [hO'.2] at g'; cases g'
                exact other_block H hg hst (eL_get hL) hown (fun c q => by cases q) g'
      · cases e
    all_goals first | (exact absurd rfl hq) | (cases hw; done)
end
end Go.Sim


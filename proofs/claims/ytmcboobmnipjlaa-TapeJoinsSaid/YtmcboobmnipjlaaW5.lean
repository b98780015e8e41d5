/- Part 5 of the claim TapeJoins: D11, D12, I1, I2, I3, I4, D13, D14, D15, D16 -/
import Derived.Test.YtmcboobmnipjlaaW4
import Derived.Test.YtmcboobmnipjlaaW3
set_option linter.unusedSimpArgs false
set_option linter.unusedVariables false
set_option linter.defProp false
/- Deep values: one operation. -/
namespace Go.Sim
open Go.RowKit
section
variable {P : Program} {γ : Pl} {L : List Obj} {h : Heap} {h0 : Heap} {W0 : Ent}

/-! ### Texts -/
def numsP : List (List PV) → Option (List Int)
  | [] => some []
  | [.v (.int .u8 n)] :: r => (numsP r).map (n :: ·)
  | _ :: _ => none
theorem nums_flat {S : Nat → Prop} : ∀ {rows : List (List PV)} {cs : List Value} {xs : List Int}, FlatR P S h 1 rows cs → numsP rows = some xs → numsOf cs = some xs
  | [], cs, xs, hf, e => by
    cases e
    have : cs = [] := List.length_eq_zero_iff.1 (by rw [hf.len]; rfl)
    subst this; rfl
  | row :: rows, cs, xs, hf, e => by
    unfold numsP at e
    split at e
    · rename_i heq; cases heq
    · rename_i n r heq
      cases heq
      cases hq : numsP rows with
      | none => rw [hq] at e; cases e
      | some ys =>
        rw [hq] at e; cases e
        cases cs with
        | nil => have := hf.len; simp at this
        | cons c cs =>
          have h1 : c = .int .u8 n := PR.scal (P := P) (S := S) (h := h) (hf.get 0 _ 0 _ c rfl rfl rfl)
          subst h1
          have hf' : FlatR P S h 1 rows cs := ⟨by have := hf.len; simp at this; omega, fun r hr => hf.wide r (List.mem_cons_of_mem _ hr), fun i r j x u e1 e2 e3 => hf.get (i + 1) r j x u (by simpa using e1) e2 (by rw [show (i + 1) * 1 + j = (i * 1 + j) + 1 by omega, List.getElem?_cons_succ]; exact e3)⟩
          unfold numsOf
          rw [nums_flat hf' hq]
          rfl
    · cases e
theorem src_bytes {t te : TypeId} {v : Value} {n : Nat} {cs : List Value} {xs : List Int} (hu : P.underlying t = some (.slice te)) (e : srcV P 1 t h v = some (n, cs)) (hn : numsOf cs = some xs) : bytesStrV h v = some (.string (strOfNums xs)) := by
  unfold srcV at e
  simp only [hu] at e
  unfold bytesStrV
  split at e
  · rename_i q; cases q
  · cases e; cases hn; rfl
  · rename_i b o m c _
    simp only
    split at e
    · rename_i h0; cases e; cases hn; rw [if_pos h0]
    · rename_i h0
      rw [if_neg h0]
      split at e
      · rename_i cs' _ _ hg
        split at e
        · rename_i hc
          cases e
          simp only [hg]
          rw [if_pos (by have := hc.1; omega)]
          rw [Nat.mul_one] at hn
          rw [hn]
          rfl
        · cases e
      · cases e
  · cases e
def isByteT (P : Program) (e : TypeId) : Bool := match P.underlying e with
  | some (.int .u8) => true
  | _ => false
theorem isByteT_und {e : TypeId} (h : isByteT P e = true) : P.underlying e = some (.int .u8) := by
  unfold isByteT at h
  split at h
  · assumption
  · cases h
def dconvV (P : Program) (L : List Obj) (s d : TypeId) (x : DV) : Option (DV × List Obj) :=
  match P.underlying s, P.underlying d with
  | some (.slice e), some .string => if isByteT P e = true then match (dsrc P L 1 s x).bind numsP with
      | some xs => some (.p (.v (.string (strOfNums xs))), L)
      | none => none
    else none
  | some .string, some (.slice e) => match x with
    | .p (.v (.string t)) => if isByteT P e = true ∧ szT P e = some 1 ∧ t.size ≤ maxLen then
        some (.ref L.length 0 t.size t.size, L ++ [.li (some e) (t.data.toList.map fun c => [.v (.int .u8 c.toNat)])]) else none
    | _ => none
  | some (.slice _), some (.slice e) => match x with
    | .ref id lo n tot => if s = d ∧ isByteT P e = true ∧ 0 < n ∧ 0 < tot then match L[id]? with
        | some (.li (some _) rows) => if rows.length = tot then some (.ref id lo n tot, L) else none
        | _ => none
      else none
    | _ => none
  | _, _ => match valD x with
    | some v => (scD (convV P s d v)).map fun d => (d, L)
    | none => none
def Aft (P : Program) (h0 : Heap) (W0 : Ent) (γ : Pl) (L : List Obj) (h : Heap) (K : DV → List Obj → Prop) (v : Value) (h' : Heap) : Prop :=
  ∃ γ' d L', K d L' ∧ Hp P h0 W0 γ' L' h' ∧ Carry W0 γ L h γ' L' h' ∧ DR P (Free W0 γ' L' h') γ' L' h' d v
theorem aft_same {K : DV → List Obj → Prop} {d : DV} {v : Value} (H : Hp P h0 W0 γ L h) (hK : K d L) (hd : (DR P (Free W0 γ L h) γ L h) d v) : Aft P h0 W0 γ L h K v h := ⟨γ, d, L, hK, H, Carry.refl _ _ _, hd⟩
theorem dconv_sound (H : Hp P h0 W0 γ L h) {s t : TypeId} {x d : DV} {v : Value} {L' : List Obj} {K : DV → List Obj → Prop} (hx : (DR P (Free W0 γ L h) γ L h) x v) (e : dconvV P L s t x = some (d, L')) (hK : K d L') : convWp P s t v h (Aft P h0 W0 γ L h K) := by
  unfold dconvV at e
  unfold convWp
  split at e
  · rename_i te h1 h2
    simp only [h1, h2]
    split at e
    case isFalse => cases e
    rename_i h3
    refine ⟨isByteT_und h3, ?_⟩
    cases hs : dsrc P L 1 s x with
    | none => rw [hs] at e; cases e
    | some rows =>
      rw [hs] at e
      simp only [Option.bind_some] at e
      cases hn : numsP rows with
      | none => rw [hn] at e; cases e
      | some xs =>
        rw [hn] at e; cases e
        obtain ⟨cs, e1, hf⟩ := dsrc_sound H hx hs
        rw [src_bytes h1 e1 (nums_flat hf hn)]
        exact aft_same H hK (PR.v rfl)
  · rename_i te h1 h2
    split at e
    case h_2 => cases e
    rename_i b
    split at e
    case isFalse => cases e
    rename_i h3
    cases e
    have : v = .string b := PR.scal (P := P) (S := Free W0 γ L h) (h := h) hx
    subst this
    simp only [h1, h2]
    obtain ⟨k1, k2, k3⟩ := h3
    have key : ∀ l : List UInt8, All2 (PR P (Free W0 γ L h) h) (l.map fun c => PV.v (.int .u8 c.toNat)) (l.map fun c => Value.int .u8 c.toNat) := by
      intro l
      induction l with
      | nil => exact .nil
      | cons c l ih => exact .cons (PR.v rfl) ih
    have hf : FlatR P (Free W0 γ L h) h 1 (b.data.toList.map fun c => [PV.v (.int .u8 c.toNat)]) (bytesOf b) := by
      have := flat_singles (key b.data.toList)
      rw [List.map_map] at this
      exact this
    have hlen : (b.data.toList.map fun c => [PV.v (.int .u8 (c.toNat : Int))]).length = b.size := by rw [List.length_map]; rfl
    obtain ⟨γ', a1, a2, a3⟩ := new_li H (te := te) (c := unk) k2 (Nat.zero_lt_one) (by rw [hf.len]; exact Nat.le_refl _) (by rw [hlen]; exact k3) hf.wide hf.get (.inl rfl)
    rw [hlen] at a3
    exact ⟨isByteT_und k1, k2, k3, γ', _, _, hK, a1, a2, a3⟩
  · rename_i te0 te1 h1 h2
    split at e
    case h_2 => cases e
    rename_i id lo n tot
    split at e
    case isFalse => cases e
    rename_i h3
    obtain ⟨rfl, k1, k2, k4⟩ := h3
    have hte : te0 = te1 := by rw [h1] at h2; cases h2; rfl
    subst hte
    split at e
    case h_2 => cases e
    rename_i te rows hid
    split at e
    case isFalse => cases e
    rename_i hlen
    cases e
    obtain ⟨b, o, hg, hrows⟩ := H.obj id _ hid
    obtain ⟨cs, z, r1, r2, r3, r4, r5, r6, r7⟩ := hrows
    have hx' := hx
    obtain ⟨_, _, q3⟩ := hx'
    obtain ⟨_, q5⟩ := q3 _ rows hid rfl
    obtain ⟨_, q7⟩ := q5 hlen
    rcases q7 z r6 with ⟨_, h4, _⟩ | ⟨_, _, _, _, h4, _⟩ | ⟨b', o', c, g, rfl, d1, d2, d3⟩
    · omega
    · omega
    · rw [hg] at g; cases g
      simp only [h1, h2, r1]
      exact ⟨trivial, d1, isByteT_und k1, aft_same H hK hx⟩
  · rename_i n1 n2 n3
    cases hv : valD x with
    | none => rw [hv] at e; cases e
    | some u =>
      have := valD_sound hx hv; subst this
      rw [hv] at e
      cases hc : scD (convV P s t v) with
      | none => simp only [hc] at e; cases e
      | some d' =>
        simp only [hc, Option.map_some, Option.some.injEq, Prod.mk.injEq] at e
        obtain ⟨rfl, rfl⟩ := e
        obtain ⟨u, e1, r1⟩ := scD_sound (P := P) (S := Free W0 γ L h) (γ := γ) (L := L) (h := h) hc
        split
        · rename_i h1 h2; exact absurd h2 (n1 _ h1)
        · rename_i h1 h2; exact absurd h2 (n2 _ h1)
        · rename_i h1 h2; exact absurd h2 (n3 _ _ h1)
        · simp only [e1]
          exact aft_same H hK r1

/-! ### Lists made -/
theorem flat_set {S : Nat → Prop} {z i : Nat} {rows : List (List PV)} {cs ws : List Value} {ps : List PV} (hf : FlatR P S h z rows cs) (hi : i < rows.length) (hl : ps.length = z) (hp : All2 (PR P S h) ps ws) : FlatR P S h z (rows.set i ps) (setMany cs (i * z) ws) := by
  have hmul : (i + 1) * z ≤ rows.length * z := Nat.mul_le_mul_right _ hi
  rw [Nat.succ_mul] at hmul
  have hwl : ws.length = z := by rw [← hp.length]; exact hl
  refine ⟨by simp [hf.len], fun r hr => ?_, fun i' r' j x' w e1 e2 e3 => ?_⟩
  · obtain ⟨j, hj⟩ := List.mem_iff_getElem?.1 hr
    rcases getElem?_set' hj with ⟨_, hj⟩ | ⟨_, _, rfl⟩
    · exact hf.wide r (List.mem_of_getElem? hj)
    · exact hl
  · rw [setMany_get _ _ _ _ (by rw [hwl, hf.len]; omega)] at e3
    rcases getElem?_set' e1 with ⟨hne, e1⟩ | ⟨rfl, _, rfl⟩
    · have hj : j < z := by rw [← hf.wide r' (List.mem_of_getElem? e1)]; exact (List.getElem?_eq_some_iff.1 e2).1
      rw [if_neg ?_] at e3
      · exact hf.get i' r' j x' w e1 e2 e3
      · rw [hwl]
        rintro ⟨a1, a2⟩
        rcases Nat.lt_or_gt_of_ne hne with hlt | hlt
        · have : (i' + 1) * z ≤ i * z := Nat.mul_le_mul_right _ hlt
          rw [Nat.succ_mul] at this
          omega
        · have : (i + 1) * z ≤ i' * z := Nat.mul_le_mul_right _ hlt
          rw [Nat.succ_mul] at this
          omega
    · have hj : j < z := by rw [← hl]; exact (List.getElem?_eq_some_iff.1 e2).1
      rw [if_pos (by rw [hwl]; omega)] at e3
      obtain ⟨w', e4, rr⟩ := hp.get e2
      rw [show i' * z + j - i' * z = j by omega, e4] at e3
      cases e3
      exact rr
def fillRows (z : Nat) (rows : List (List PV)) : List (Nat × DV) → Option (List (List PV))
  | [] => some rows
  | (i, d) :: r => if is1 d = true ∧ i < rows.length then match pvs (cellsD d) with
      | some ps => if ps.length = z then fillRows z (rows.set i ps) r else none
      | none => none
    else none
theorem fillRows_sound {z : Nat} : ∀ {ps : List (Nat × DV)} {qs : List (Nat × Value)} {rows xs : List (List PV)} {cs : List Value}, FlatR P (Free W0 γ L h) h z rows cs → All2 (fun d v => d.1 = v.1 ∧ (DR P (Free W0 γ L h) γ L h) d.2 v.2) ps qs → fillRows z rows ps = some xs →
    ∃ ws, fillL (fun i => some (i * z, z)) cs qs = some ws ∧ FlatR P (Free W0 γ L h) h z xs ws ∧ xs.length = rows.length
  | [], _, rows, xs, cs, hf, .nil, e => by cases e; exact ⟨cs, rfl, hf, rfl⟩
  | (i, d) :: ps, _, rows, xs, cs, hf, .cons (b := (j, v)) hd t, e => by
    obtain ⟨rfl, hd⟩ := hd
    unfold fillRows at e
    unfold fillL
    split at e
    case isFalse => cases e
    rename_i hc
    split at e
    case h_2 => cases e
    rename_i qs hq
    split at e
    case isFalse => cases e
    rename_i hz
    obtain ⟨q1, q2⟩ := d1_cells (d1_of_dr hd hc.1)
    have q3 := pvs_sound q1 hq
    have hsz : v.cells.size = z := by rw [← hz, q3.length]; simp
    have hmul : (i + 1) * z ≤ rows.length * z := Nat.mul_le_mul_right _ hc.2
    rw [Nat.succ_mul] at hmul
    simp only
    rw [if_pos ⟨hsz, by rw [hf.len]; exact hmul⟩]
    obtain ⟨ws, e1, e2, e3⟩ := fillRows_sound (flat_set hf hc.2 hz q3) t e
    exact ⟨ws, e1, e2, by rw [e3]; simp⟩
theorem flat_zeros {S : Nat → Prop} {zs : List Value} {zr : List PV} (hr : All2 (PR P S h) zr zs) (n : Nat) : FlatR P S h zs.length (List.replicate n zr) (zeros zs n) := by
  refine ⟨by rw [length_zeros]; simp, fun r hr' => by rw [List.eq_of_mem_replicate hr', hr.length], fun i r j x u e1 e2 e3 => ?_⟩
  rw [List.getElem?_replicate] at e1
  split at e1
  case isFalse => cases e1
  rename_i hi
  cases e1
  have hj : j < zs.length := by rw [← hr.length]; exact (List.getElem?_eq_some_iff.1 e2).1
  have hmul : (i + 1) * zs.length ≤ n * zs.length := Nat.mul_le_mul_right _ hi
  rw [Nat.succ_mul] at hmul
  rw [zeros_get _ _ _ (by omega)] at e3
  obtain ⟨w, e4, rr⟩ := hr.get e2
  have hmod : (i * zs.length + j) % zs.length = j := by rw [Nat.mul_comm, Nat.mul_add_mod]; exact Nat.mod_eq_of_lt hj
  rw [hmod, e4] at e3
  cases e3
  exact rr
def dbuildSliceV (P : Program) (L : List Obj) (t : TypeId) (len : Nat) (ps : List (Nat × DV)) : Option (DV × List Obj) :=
  match P.underlying t with
  | some (.slice e) => match (zeroD P e).bind pvs, szT P e with
    | some zr, some s => if zr.length = s ∧ len * s ≤ 16777216 ∧ 0 < s ∧ len ≤ maxLen then match fillRows s (List.replicate len zr) ps with
        | some rows => some (.ref L.length 0 len len, L ++ [.li (some e) rows])
        | none => none
      else none
    | _, _ => none
  | _ => none
theorem dbuildSlice_sound (H : Hp P h0 W0 γ L h) {t : TypeId} {len : Nat} {ps : List (Nat × DV)} {qs : List (Nat × Value)} {d : DV} {L' : List Obj} {K : DV → List Obj → Prop} (hr : All2 (fun d v => d.1 = v.1 ∧ (DR P (Free W0 γ L h) γ L h) d.2 v.2) ps qs) (e : dbuildSliceV P L t len ps = some (d, L')) (hK : K d L') :
    ∃ q mk, buildSliceV P t len qs = some (q, mk) ∧ Aft P h0 W0 γ L h K (mk h.next) (h.push q) := by
  unfold dbuildSliceV at e
  unfold buildSliceV
  split at e
  case h_2 => cases e
  rename_i te hu
  simp only [hu]
  split at e
  case h_2 => cases e
  rename_i zr s hz hs
  split at e
  case isFalse => cases e
  rename_i hc
  obtain ⟨c0, c1, c2, c3⟩ := hc
  split at e
  case h_2 => cases e
  rename_i rows hrows
  cases e
  cases hzd : zeroD P te with
  | none => rw [hzd] at hz; cases hz
  | some zs =>
    rw [hzd] at hz
    simp only [Option.bind_some] at hz
    obtain ⟨z, e1, r1⟩ := zeroD_sound (P := P) (γ := γ) (L := L) (h := h) (S := Free W0 γ L h) hzd
    have r2 := pvs_sound r1 hz
    have hzl : z.length = s := by rw [← r2.length]; exact c0
    simp only [e1, hs]
    rw [if_pos ⟨c1, c2, c3⟩]
    have hf := flat_zeros r2 len
    rw [hzl] at hf
    obtain ⟨ws, f1, f2, f3⟩ := fillRows_sound hf hr hrows
    rw [fill_list, f1]
    simp only [Option.map_some]
    have hlen : rows.length = len := by rw [f3]; simp
    obtain ⟨γ', a1, a2, a3⟩ := new_li H (te := te) (c := len) (rows := rows) (cs := ws) hs c2 (by rw [f2.len]; exact Nat.le_refl _) (by rw [hlen]; exact c3) f2.wide f2.get (.inr ⟨by omega, c3⟩)
    rw [hlen] at a3
    exact ⟨_, _, rfl, γ', _, _, hK, a1, a2, a3⟩
end
end Go.Sim
/- Deep values: all operations. -/
namespace Go.Sim
open Go.RowKit
def withD {α : Type} (o : Option α) (f : α → Prop) : Prop := match o with
  | some d => f d
  | none => False
theorem withD_some {α : Type} (d : α) (f : α → Prop) : withD (some d) f = f d := rfl
theorem withD_elim {α : Type} {o : Option α} {f : α → Prop} (h : withD o f) : ∃ d, o = some d ∧ f d := by
  cases o with
  | none => exact h.elim
  | some d => exact ⟨d, rfl, h⟩
def optD (ρ : DRho) : Option Operand → Option (Option Value)
  | none => some none
  | some x => match ρ x with
    | some d => (valD d).map some
    | none => none
def baseD : DV → Bool
  | .p _ => true
  | .ptr _ _ => true
  | .ep _ _ _ _ => true
  | .dp _ _ => true
  | .ref _ _ _ _ => true
  | .aref _ _ _ => true
  | _ => false
/-- A call, by what it does to all that stands so. -/
def DCallW (P : Program) (f : FuncId) (ds : List DV) (L : List Obj) (K : DV → List Obj → Prop) : Prop :=
  ∀ h0 W0 γ h vs, Hp P h0 W0 γ L h → All2 (DR P (Free W0 γ L h) γ L h) ds vs → ADoes P f vs h (Aft P h0 W0 γ L h K)
def dpickV (c : Option DV) (a b : Option DV) : Option DV := match c with
  | some (.p (.v (.bool t))) => if t then a else b
  | _ => none
def dfuncV (f : Fn) (a b : Option (List DV)) : Option DV := match f, a, b with
  | .func k, some a, some b => if a.all baseD && b.all baseD then some (.fn k a b) else none
  | _, _, _ => none
def dindexV (P : Program) (t : TypeId) (x i : DV) : Option DV :=
  match P.underlying t, x, intD i with
  | some (.array len e), .agg cs, some n => match szT P e with
    | some s => if 0 ≤ n ∧ n.toNat < len then dpartV P e cs (n.toNat * s) else none
    | none => none
  | some .string, .p (.v (.string s)), some n => if 0 ≤ n then scD ((s[n.toNat]?).map fun b => .int .u8 b.toNat) else none
  | _, _, _ => none
def dextractV (x : DV) (i : Nat) : Option DV := match x with
  | .tup xs => xs[i]?
  | _ => none
def dcheckV (L : List Obj) (x : DV) : Option DV := onD L 0 x
def valsOf : List DV → Option (List Value)
  | [] => some []
  | d :: l => match valD d, valsOf l with
    | some v, some vs => some (v :: vs)
    | _, _ => none
def dopWp (P : Program) (o : Op) (ρ : DRho) (L : List Obj) (K : DV → List Obj → Prop) : Prop :=
  match o with
  | .move x => withD (ρ x) fun d => K d L
  | .assign x => withD (ρ x) fun d => K d L
  | .pick c a b => withD (dpickV (ρ c) (ρ a) (ρ b)) fun d => K d L
  | .build t ps => withD (allDP ρ ps.toList) fun ds => withD (dbuildV P t ds) fun d => K d L
  | .field t x f => withD (ρ x) fun x => withD (dfieldV P t x f) fun d => K d L
  | .fieldAddr t x f => withD (ρ x) fun x => withD (dfieldAddrV P L t x f) fun d => K d L
  | .unOp op _ x => withD (ρ x) fun x => withD (valD x) fun v => withD (scD (unV op v)) fun d => K d L
  | .binOp op t x y _ => withD (ρ x) fun x => withD (ρ y) fun y => withD (dbinV P op t x y) fun d => K d L
  | .convert s d x => withD (ρ x) fun x => withD (dconvV P L s d x) fun (d, L') => K d L'
  | .makeFunc f a b => withD (dfuncV f (allD ρ a.toList) (allD ρ b.toList)) fun d => K d L
  | .indexAddr t x i => withD (ρ x) fun x => withD (ρ i) fun i => withD (dindexAddrV P L t x i) fun d => K d L
  | .index t x i => withD (ρ x) fun x => withD (ρ i) fun i => withD (dindexV P t x i) fun d => K d L
  | .extract x i => withD (ρ x) fun x => withD (dextractV x i) fun d => K d L
  | .nilCheck x => withD (ρ x) fun x => withD (dcheckV L x) fun d => K d L
  | .load t x => withD (ρ x) fun x => withD (dloadV P L t x) fun d => K d L
  | .store t x y => withD (ρ x) fun x => withD (ρ y) fun y => withD (dstoreV P L t x y) fun L' => K undD L'
  | .slice t x lo hi mx => withD (ρ x) fun x => withD (optD ρ lo) fun lo => withD (optD ρ hi) fun hi => withD (optD ρ mx) fun mx => withD (dsliceV P L t x lo hi mx) fun d => K d L
  | .box t x => withD (ρ x) fun x => is1 x = true ∧ szT P t = some (cellsD x).length ∧ K (.ptr L.length 0) (L ++ [.st (cellsD x)])
  | .alloc t => withD (zeroD P t) fun z => K (.ptr L.length 0) (L ++ [.st z])
  | .buildSlice t n ps => withD (allDP ρ ps.toList) fun ds => withD (dbuildSliceV P L t n ds) fun (d, L') => K d L'
  | .call { callee := .value f, args := args, argTypes := _ } => withD (ρ f) fun f => withD (allD ρ args.toList) fun ds => match f with
    | .fn k pre cap => DCallW P k (pre ++ ds ++ cap) L K
    | _ => False
  | .call { callee := .builtin .append, args := args, argTypes := ts } => withD (allD ρ args.toList) fun ds => match ds with
    | [s, x] => withD (dappendV P ts.toList L s x) fun (d, L') => K d L'
    | _ => False
  | .call { callee := .builtin .len, args := args, argTypes := ts } => withD (allD ρ args.toList) fun ds => match ds, ts.toList with
    | [x], [t] => withD (dlenV P L t x) fun d => K d L
    | _, _ => False
  | .call { callee := .builtin .min, args := args, argTypes := _ } => withD (allD ρ args.toList) fun ds => withD (valsOf ds) fun vs => withD (scD (minV vs)) fun d => K d L
  | .call { callee := .builtin .max, args := args, argTypes := _ } => withD (allD ρ args.toList) fun ds => withD (valsOf ds) fun vs => withD (scD (maxV vs)) fun d => K d L
  | _ => False
section
variable {P : Program} {γ : Pl} {L : List Obj} {h : Heap} {h0 : Heap} {W0 : Ent} {ρ : DRho} {r : Rho} {K : DV → List Obj → Prop}
theorem optD_sound (hρ : RhoD P W0 γ L h ρ r) {x : Option Operand} {v : Option Value} (e : optD ρ x = some v) : optV r x = some v := by
  cases x with
  | none => cases e; rfl
  | some x =>
    unfold optD at e
    cases hx : ρ x with
    | none => simp only [hx] at e; cases e
    | some d =>
      simp only [hx] at e
      cases hv : valD d with
      | none => rw [hv] at e; cases e
      | some u =>
        rw [hv] at e; cases e
        obtain ⟨w, e1, r1⟩ := hρ x d hx
        have := valD_sound r1 hv
        subst this
        simp [optV, e1]
theorem base_db {S : Nat → Prop} {d : DV} {v : Value} (hb : baseD d = true) (hd : DR P S γ L h d v) : DB P S γ L h d v := by
  cases d <;> first | exact hd | (simp [baseD] at hb)
theorem base_all2 {S : Nat → Prop} : ∀ {ds : List DV} {vs : List Value}, ds.all baseD = true → All2 (DR P S γ L h) ds vs → All2 (DB P S γ L h) ds vs
  | [], _, _, .nil => .nil
  | d :: ds, _, hb, .cons hd t => by
    simp only [List.all_cons, Bool.and_eq_true] at hb
    exact .cons (base_db hb.1 hd) (base_all2 hb.2 t)
theorem valsOf_sound : ∀ {ds : List DV} {vs xs : List Value}, All2 (DR P (Free W0 γ L h) γ L h) ds vs → valsOf ds = some xs → vs = xs
  | [], _, _, .nil, e => by cases e; rfl
  | d :: ds, _, xs, .cons hd t, e => by
    unfold valsOf at e
    cases h1 : valD d with
    | none => rw [h1] at e; cases e
    | some v =>
      cases h2 : valsOf ds with
      | none => rw [h1, h2] at e; cases e
      | some vs =>
        rw [h1, h2] at e; cases e
        rw [valD_sound hd h1, valsOf_sound t h2]
theorem dop_sound (H : Hp P h0 W0 γ L h) (hρ : RhoD P W0 γ L h ρ r) {o : Op} (hk : dopWp P o ρ L K) : opWp P o r h (Aft P h0 W0 γ L h K) := by
  unfold dopWp at hk
  split at hk
  · obtain ⟨d, e, hk⟩ := withD_elim hk
    obtain ⟨v, e1, r1⟩ := hρ _ _ e
    simp only [opWp, pureV, e1]; exact aft_same H hk r1
  · obtain ⟨d, e, hk⟩ := withD_elim hk
    obtain ⟨v, e1, r1⟩ := hρ _ _ e
    simp only [opWp, pureV, e1]; exact aft_same H hk r1
  · obtain ⟨d, e, hk⟩ := withD_elim hk
    unfold dpickV at e
    split at e
    · rename_i t hc
      obtain ⟨v, e1, r1⟩ := hρ _ _ hc
      have : v = .bool t := PR.scal (P := P) (S := Free W0 γ L h) (h := h) r1
      subst this
      simp only [opWp, pureV, e1]
      cases t
      · obtain ⟨u, e2, r2⟩ := hρ _ _ e
        simp only [Bool.false_eq_true, if_false, e2]; exact aft_same H hk r2
      · obtain ⟨u, e2, r2⟩ := hρ _ _ e
        simp only [if_true, e2]; exact aft_same H hk r2
    · cases e
  · obtain ⟨ds, e, hk⟩ := withD_elim hk
    obtain ⟨d, e2, hk⟩ := withD_elim hk
    obtain ⟨vs, e1, r1⟩ := allDP_sound hρ e
    obtain ⟨u, e3, r3⟩ := dbuild_sound r1 e2
    simp only [opWp, pureV, e1, e3]; exact aft_same H hk r3
  · obtain ⟨x, e, hk⟩ := withD_elim hk
    obtain ⟨d, e2, hk⟩ := withD_elim hk
    obtain ⟨v, e1, r1⟩ := hρ _ _ e
    obtain ⟨u, e3, r3⟩ := dfield_sound r1 e2
    simp only [opWp, pureV, e1, e3]; exact aft_same H hk r3
  · obtain ⟨x, e, hk⟩ := withD_elim hk
    obtain ⟨d, e2, hk⟩ := withD_elim hk
    obtain ⟨v, e1, r1⟩ := hρ _ _ e
    obtain ⟨u, e3, r3⟩ := dfieldAddr_sound H r1 e2
    simp only [opWp, pureV, e1, e3]; exact aft_same H hk r3
  · obtain ⟨x, e, hk⟩ := withD_elim hk
    obtain ⟨w, e2, hk⟩ := withD_elim hk
    obtain ⟨d, e3, hk⟩ := withD_elim hk
    obtain ⟨v, e1, r1⟩ := hρ _ _ e
    have hv := valD_sound r1 e2
    rw [hv] at e1
    obtain ⟨u, e4, r4⟩ := scD_sound (P := P) (S := Free W0 γ L h) (γ := γ) (L := L) (h := h) e3
    simp only [opWp, pureV, e1, e4]; exact aft_same H hk r4
  · obtain ⟨x, e, hk⟩ := withD_elim hk
    obtain ⟨y, e2, hk⟩ := withD_elim hk
    obtain ⟨d, e3, hk⟩ := withD_elim hk
    obtain ⟨v, e1, r1⟩ := hρ _ _ e
    obtain ⟨w, e4, r4⟩ := hρ _ _ e2
    obtain ⟨u, e5, r5⟩ := dbin_sound r1 r4 e3
    simp only [opWp, pureV, e1, e4, e5]; exact aft_same H hk r5
  · obtain ⟨x, e, hk⟩ := withD_elim hk
    obtain ⟨⟨d, L'⟩, e2, hk⟩ := withD_elim hk
    obtain ⟨v, e1, r1⟩ := hρ _ _ e
    simp only [opWp, e1]
    exact dconv_sound H r1 e2 hk
  · obtain ⟨d, e, hk⟩ := withD_elim hk
    unfold dfuncV at e
    split at e
    · rename_i f a b h1 h2 
      split at e
      · rename_i hb
        cases e
        simp only [Bool.and_eq_true] at hb
        obtain ⟨us, e1, r1⟩ := allD_sound hρ h1
        obtain ⟨ws, e2, r2⟩ := allD_sound hρ h2
        simp only [opWp, pureV, e1, e2]
        exact aft_same H hk ⟨_, _, rfl, by simpa using base_all2 hb.1 r1, by simpa using base_all2 hb.2 r2⟩
      · cases e
    · cases e
  · obtain ⟨x, e, hk⟩ := withD_elim hk
    obtain ⟨y, e2, hk⟩ := withD_elim hk
    obtain ⟨d, e3, hk⟩ := withD_elim hk
    obtain ⟨v, e1, r1⟩ := hρ _ _ e
    obtain ⟨w, e4, r4⟩ := hρ _ _ e2
    obtain ⟨u, e5, r5⟩ := dindexAddr_sound H r1 r4 e3
    simp only [opWp, pureV, e1, e4, e5]; exact aft_same H hk r5
  · obtain ⟨x, e, hk1⟩ := withD_elim hk
    clear hk
    obtain ⟨y, e2, hk2⟩ := withD_elim hk1
    clear hk1
    obtain ⟨d, e3, hk⟩ := withD_elim hk2
    clear hk2
    obtain ⟨v, e1, r1⟩ := hρ _ _ e
    obtain ⟨w, e4, r4⟩ := hρ _ _ e2
    simp only [opWp, pureV, e1, e4]
    unfold dindexV at e3
    split at e3
    · rename_i len te cs n hu hn
      obtain ⟨k, rfl⟩ := intD_sound r4 hn
      obtain ⟨vs, rfl, r5⟩ := r1
      split at e3
      · rename_i s hs
        split at e3
        · rename_i hc
          have : vs = vs.toList.toArray := by simp
          rw [this, index_array hu hs, if_pos (by omega)]
          obtain ⟨u, e6, r6⟩ := dpart_sound r5 e3
          rw [e6]
          exact aft_same H hk (dr_of_d1 r6)
        · cases e3
      · cases e3
    · rename_i s n hu hn
      obtain ⟨k, rfl⟩ := intD_sound r4 hn
      have : v = .string s := PR.scal (P := P) (S := Free W0 γ L h) (h := h) r1
      subst this
      split at e3
      · rename_i hc
        rw [index_string hu, if_pos hc]
        obtain ⟨u, e6, r6⟩ := scD_sound (P := P) (S := Free W0 γ L h) (γ := γ) (L := L) (h := h) e3
        rw [e6]
        exact aft_same H hk r6
      · cases e3
    · cases e3
  · obtain ⟨x, e, hk⟩ := withD_elim hk
    obtain ⟨d, e2, hk'⟩ := withD_elim hk
    clear hk
    obtain ⟨v, e1, r1⟩ := hρ _ _ e
    unfold dextractV at e2
    split at e2
    · obtain ⟨vs, rfl, r2⟩ := r1
      obtain ⟨u, e3, r3⟩ := r2.get e2
      simp only [opWp, pureV, e1]
      rw [Array.getElem?_toList] at e3
      rw [e3]
      exact aft_same H hk' (dr_of_d1 r3)
    · cases e2
  · obtain ⟨x, e, hk⟩ := withD_elim hk
    obtain ⟨d, e2, hk⟩ := withD_elim hk
    obtain ⟨v, e1, r1⟩ := hρ _ _ e
    obtain ⟨b, o, rfl, r2⟩ := on_sound H r1 e2
    simp only [opWp, pureV, e1]
    exact aft_same H hk r2
  · obtain ⟨x, e, hk⟩ := withD_elim hk
    obtain ⟨d, e2, hk⟩ := withD_elim hk
    obtain ⟨v, e1, r1⟩ := hρ _ _ e
    obtain ⟨u, e3, r3⟩ := dload_sound H r1 e2
    simp only [opWp, e1, e3]; exact aft_same H hk r3
  · obtain ⟨x, e, hk⟩ := withD_elim hk
    obtain ⟨y, e2, hk⟩ := withD_elim hk
    obtain ⟨L', e3, hk⟩ := withD_elim hk
    obtain ⟨v, e1, r1⟩ := hρ _ _ e
    obtain ⟨w, e4, r4⟩ := hρ _ _ e2
    obtain ⟨h', e5, H', c⟩ := dstore_sound H r1 r4 e3
    simp only [opWp, e1, e4, e5]
    exact ⟨γ, _, L', hk, H', c, ⟨#[], rfl, .nil⟩⟩
  · obtain ⟨x, e, hk⟩ := withD_elim hk
    obtain ⟨lo, e2, hk⟩ := withD_elim hk
    obtain ⟨hi, e3, hk⟩ := withD_elim hk
    obtain ⟨mx, e4, hk⟩ := withD_elim hk
    obtain ⟨d, e5, hk⟩ := withD_elim hk
    obtain ⟨v, e1, r1⟩ := hρ _ _ e
    obtain ⟨u, e6, r6⟩ := dslice_sound H r1 e5
    simp only [opWp, e1, optD_sound hρ e2, optD_sound hρ e3, optD_sound hρ e4, e6]
    exact aft_same H hk r6
  · obtain ⟨x, e, hk⟩ := withD_elim hk
    obtain ⟨k1, k2, hk⟩ := hk
    obtain ⟨v, e1, r1⟩ := hρ _ _ e
    obtain ⟨q1, q2⟩ := d1_cells (d1_of_dr r1 k1)
    have hsz : v.cells.size = (cellsD x).length := by rw [q1.length]; simp
    simp only [opWp, newV, e1]
    rw [if_pos (by rw [hsz]; exact k2)]
    obtain ⟨γ', a1, a2, a3⟩ := new_st H _ q1
    exact ⟨γ', _, _, hk, a1, a2, a3⟩
  · obtain ⟨z, e, hk⟩ := withD_elim hk
    obtain ⟨zv, e1, r1⟩ := zeroD_sound (P := P) (γ := γ) (L := L) (h := h) (S := Free W0 γ L h) e
    simp only [opWp, newV, e1]
    obtain ⟨γ', a1, a2, a3⟩ := new_st H _ r1
    exact ⟨γ', _, _, hk, a1, a2, a3⟩
  · obtain ⟨ds, e, hk⟩ := withD_elim hk
    obtain ⟨⟨d, L'⟩, e2, hk⟩ := withD_elim hk
    obtain ⟨vs, e1, r1⟩ := allDP_sound hρ e
    obtain ⟨q, mk, e3, ha⟩ := dbuildSlice_sound H r1 e2 hk
    simp only [opWp, newV, e1, e3]
    exact ha
  · obtain ⟨f, e, hk⟩ := withD_elim hk
    obtain ⟨ds, e2, hk⟩ := withD_elim hk
    obtain ⟨v, e1, r1⟩ := hρ _ _ e
    obtain ⟨vs, e3, r3⟩ := allD_sound hρ e2
    split at hk
    · rename_i k pre cap
      obtain ⟨as, bs, rfl, r4, r5⟩ := r1
      simp only [opWp, e1, e3, callWp]
      have up : ∀ {ds : List DV} {vs : List Value}, All2 (DB P (Free W0 γ L h) γ L h) ds vs → All2 (DR P (Free W0 γ L h) γ L h) ds vs := fun hh => hh.mono fun d v hd => by
        cases d <;> first | exact hd | exact hd.elim
      exact hk h0 W0 γ h _ H (((up r4).append r3).append (up r5))
    · exact hk.elim
  · obtain ⟨ds, e, hk⟩ := withD_elim hk
    obtain ⟨vs, e3, r3⟩ := allD_sound hρ e
    split at hk
    · cases r3 with
      | cons hs t => cases t with
        | cons hx t =>
          cases t
          obtain ⟨⟨d, L'⟩, e2, hk⟩ := withD_elim hk
          obtain ⟨v', h', γ', e4, a1, a2, a3⟩ := dappend_sound H hs hx e2
          simp only [opWp, e3, e4]
          exact ⟨γ', _, _, hk, a1, a2, a3⟩
    · exact hk.elim
  · obtain ⟨ds, e, hk⟩ := withD_elim hk
    obtain ⟨vs, e3, r3⟩ := allD_sound hρ e
    split at hk
    · rename_i ht
      cases r3 with
      | cons hx t =>
        cases t
        obtain ⟨d, e2, hk⟩ := withD_elim hk
        obtain ⟨u, e4, r4⟩ := dlen_sound H hx e2
        simp only [opWp, e3, ht, e4]
        exact aft_same H hk r4
    · exact hk.elim
  · obtain ⟨ds, e, hk⟩ := withD_elim hk
    obtain ⟨xs, e2, hk⟩ := withD_elim hk
    obtain ⟨d, e4, hk⟩ := withD_elim hk
    obtain ⟨vs, e3, r3⟩ := allD_sound hρ e
    have hv := valsOf_sound r3 e2
    rw [hv] at e3
    obtain ⟨u, e5, r5⟩ := scD_sound (P := P) (S := Free W0 γ L h) (γ := γ) (L := L) (h := h) e4
    simp only [opWp, pureV, e3, pureBuiltin, e5]
    exact aft_same H hk r5
  · obtain ⟨ds, e, hk⟩ := withD_elim hk
    obtain ⟨xs, e2, hk⟩ := withD_elim hk
    obtain ⟨d, e4, hk⟩ := withD_elim hk
    obtain ⟨vs, e3, r3⟩ := allD_sound hρ e
    have hv := valsOf_sound r3 e2
    rw [hv] at e3
    obtain ⟨u, e5, r5⟩ := scD_sound (P := P) (S := Free W0 γ L h) (γ := γ) (L := L) (h := h) e4
    simp only [opWp, pureV, e3, pureBuiltin, e5]
    exact aft_same H hk r5
  · exact hk.elim
end
end Go.Sim
/- A heap that can be reckoned with, and the operations over it. -/
namespace Go.Sim
open Go.RowKit

/-! ### A tree of places -/
inductive Tr (α : Type) where
  | nil
  | node (v : Option α) (l r : Tr α)
namespace Tr
variable {α : Type}
def get : Tr α → Nat → Option α
  | .nil, _ => none
  | .node v l r, n => if n = 0 then v else if n % 2 = 1 then l.get (n / 2) else r.get (n / 2 - 1)
def set : Nat → Tr α → Nat → Option α → Tr α
  | 0, t, _, _ => t
  | d + 1, .nil, n, x => if n = 0 then .node x .nil .nil else if n % 2 = 1 then .node none (set d .nil (n / 2) x) .nil else .node none .nil (set d .nil (n / 2 - 1) x)
  | d + 1, .node v l r, n, x => if n = 0 then .node x l r else if n % 2 = 1 then .node v (set d l (n / 2) x) r else .node v l (set d r (n / 2 - 1) x)
theorem get_set (x : Option α) : ∀ (d : Nat) (t : Tr α) (n m : Nat), n + 1 < 2 ^ d → (set d t n x).get m = if m = n then x else t.get m
  | 0, t, n, m, h => by simp at h
  | d + 1, .nil, n, m, h => by
    have hp : 2 ^ (d + 1) = 2 * 2 ^ d := by rw [Nat.pow_succ]; omega
    unfold set
    by_cases h0 : n = 0
    · subst h0
      simp only [if_true, get]
      by_cases hm : m = 0 <;> simp [hm]
    · rw [if_neg h0]
      by_cases ho : n % 2 = 1
      · rw [if_pos ho]
        simp only [get]
        by_cases hm : m = 0
        · rw [if_pos hm, if_neg (by omega)]
        · rw [if_neg hm]
          by_cases hmo : m % 2 = 1
          · rw [if_pos hmo, get_set x d .nil (n / 2) (m / 2) (by omega)]
            by_cases he : m = n
            · rw [if_pos (by omega), if_pos he]
            · rw [if_neg (by omega), if_neg he]; rfl
          · rw [if_neg hmo, if_neg (by omega)]
      · rw [if_neg ho]
        simp only [get]
        by_cases hm : m = 0
        · rw [if_pos hm, if_neg (by omega)]
        · rw [if_neg hm]
          by_cases hmo : m % 2 = 1
          · rw [if_pos hmo, if_neg (by omega)]
          · rw [if_neg hmo, get_set x d .nil (n / 2 - 1) (m / 2 - 1) (by omega)]
            by_cases he : m = n
            · rw [if_pos (by omega), if_pos he]
            · rw [if_neg (by omega), if_neg he]; rfl
  | d + 1, .node v l r, n, m, h => by
    have hp : 2 ^ (d + 1) = 2 * 2 ^ d := by rw [Nat.pow_succ]; omega
    unfold set
    by_cases h0 : n = 0
    · subst h0
      simp only [if_true, get]
      by_cases hm : m = 0 <;> simp [hm]
    · rw [if_neg h0]
      by_cases ho : n % 2 = 1
      · rw [if_pos ho]
        simp only [get]
        by_cases hm : m = 0
        · rw [if_pos hm, if_neg (by omega)]; simp [hm]
        · rw [if_neg hm]
          by_cases hmo : m % 2 = 1
          · rw [if_pos hmo, get_set x d l (n / 2) (m / 2) (by omega)]
            by_cases he : m = n
            · rw [if_pos (by omega), if_pos he]
            · rw [if_neg (by omega), if_neg he]; simp [hm, hmo]
          · rw [if_neg hmo, if_neg (by omega)]; simp [hm, hmo]
      · rw [if_neg ho]
        simp only [get]
        by_cases hm : m = 0
        · rw [if_pos hm, if_neg (by omega)]; simp [hm]
        · rw [if_neg hm]
          by_cases hmo : m % 2 = 1
          · rw [if_pos hmo, if_neg (by omega)]; simp [hm, hmo]
          · rw [if_neg hmo, get_set x d r (n / 2 - 1) (m / 2 - 1) (by omega)]
            by_cases he : m = n
            · rw [if_pos (by omega), if_pos he]
            · rw [if_neg (by omega), if_neg he]; simp [hm, hmo]
end Tr

/-! ### The heap -/
structure PH where
  next : Nat
  t : Tr AObj
def PH.get (p : PH) (b : Nat) : Option AObj := if b < p.next then p.t.get b else none
def PH.heap (p : PH) : Heap := ⟨p.next, p.get, fun b o h => by
  unfold PH.get at h
  split at h
  · assumption
  · cases h⟩
def PH.room : Nat := 1073741824
def PH.push (p : PH) (o : AObj) : PH := ⟨p.next + 1, Tr.set 31 p.t p.next (some o)⟩
def PH.set (p : PH) (b : Nat) (o : AObj) : PH := ⟨p.next, Tr.set 31 p.t b (some o)⟩
def PH.kill (p : PH) (b : Nat) : PH := ⟨p.next, Tr.set 31 p.t b none⟩
theorem Heap.ext' {h h' : Heap} (hn : h.next = h'.next) (hg : ∀ b, h.get b = h'.get b) : h = h' := by
  cases h; cases h'
  simp only at hn hg
  subst hn
  have := funext hg
  subst this
  rfl
theorem PH.push_heap {p : PH} (o : AObj) (h : p.next < PH.room) : (p.push o).heap = p.heap.push o := by
  refine Heap.ext' rfl fun b => ?_
  show (p.push o).get b = if b = p.next then some o else p.get b
  unfold PH.get PH.push
  simp only
  rw [Tr.get_set _ 31 _ _ _ (by unfold PH.room at h; omega)]
  by_cases hb : b = p.next
  · simp [hb]
  · by_cases hl : b < p.next
    · rw [if_pos (by omega), if_neg hb, if_neg hb, if_pos hl]
    · rw [if_neg (by omega), if_neg hb, if_neg hl]
theorem PH.set_heap {p : PH} {b : Nat} {o o' : AObj} (hg : p.get b = some o') (h : p.next ≤ PH.room) : (p.set b o).heap = p.heap.set b o := by
  have hlt : b < p.next := by
    unfold PH.get at hg
    split at hg
    · assumption
    · cases hg
  refine Heap.ext' rfl fun c => ?_
  show (p.set b o).get c = if c = b then (p.get b).map (fun _ => o) else p.get c
  rw [hg]
  unfold PH.get PH.set
  simp only
  rw [Tr.get_set _ 31 _ _ _ (by unfold PH.room at h; omega)]
  by_cases hb : c = b
  · subst hb; simp [hlt]
  · simp [hb]
theorem PH.kill_heap {p : PH} {b : Nat} (hlt : b < p.next) (h : p.next ≤ PH.room) : (p.kill b).heap = p.heap.kill b := by
  refine Heap.ext' rfl fun c => ?_
  show (p.kill b).get c = if c = b then none else p.get c
  unfold PH.get PH.kill
  simp only
  rw [Tr.get_set _ 31 _ _ _ (by unfold PH.room at h; omega)]
  by_cases hb : c = b
  · subst hb; simp
  · simp [hb]
end Go.Sim
/- Operations, reckoned. -/
namespace Go.Sim
open Go.RowKit

abbrev KX := Value → PH → Bool
def up (K : KX) (v : Value) (h : Heap) : Prop := ∃ p : PH, p.heap = h ∧ K v p = true

def pushX (p : PH) (o : AObj) (K : PH → Bool) : Bool := decide (p.next < PH.room) && K (p.push o)
theorem pushX_sound {p : PH} {o : AObj} {K : PH → Bool} (h : pushX p o K = true) : (p.push o).heap = p.heap.push o ∧ K (p.push o) = true := by
  simp only [pushX, Bool.and_eq_true, decide_eq_true_eq] at h
  exact ⟨PH.push_heap o h.1, h.2⟩
def setX (p : PH) (b : Nat) (o : AObj) : Option PH := if p.next ≤ PH.room then some (p.set b o) else none
theorem setX_sound {p p' : PH} {b : Nat} {o o' : AObj} (h : setX p b o = some p') (hg : p.get b = some o') : p'.heap = p.heap.set b o := by
  unfold setX at h
  split at h
  · cases h; exact PH.set_heap hg (by assumption)
  · cases h

def storeX (P : Program) (t : TypeId) (p : PH) (a x : Value) : Option PH :=
  match a with
  | .pointer (some ⟨b, i, none⟩) =>
    match p.get b with
    | some (.cells cs e true) =>
      if szT P t = some x.cells.size ∧ i + x.cells.size ≤ cs.length ∧ x.cells.toList.all Value.oneCell' = true then
        setX p b (.cells (setMany cs i x.cells.toList) e true)
      else none
    | _ => none
  | _ => none
theorem storeX_sound {P : Program} {t : TypeId} {p p' : PH} {a x : Value} (h : storeX P t p a x = some p') : storeV P t p.heap a x = some p'.heap := by
  unfold storeX at h
  unfold storeV
  split at h
  · rename_i b i
    split at h
    · rename_i cs e hg
      split at h
      · rename_i hc
        have hg' : p.heap.get b = some (.cells cs e true) := hg
        simp only [hg', if_pos hc, setX_sound h hg]
      · cases h
    · cases h
  · cases h

/-- What append does to the memory. -/
def appendP (P : Program) (ts : List TypeId) (h : Heap) (s x : Value) : Option (Value × Option (Option Nat × AObj)) :=
  match ts with
  | [t, t2] =>
    match P.underlying t with
    | some (.slice e) =>
      match P.info? e, zeroCellsT P e with
      | some i, some _ =>
        match srcV P i.size t2 h x with
        | some (m, news) =>
          match s with
          | .slice none 0 0 =>
            if m = 0 then some (s, none) else
            if m ≤ maxLen ∧ m * i.bytes ≤ 140737488355328 then some (sliceOfNew m unk h.next, some (none, .cells news e true)) else none
          | .slice (some ⟨b, o, none⟩) n c =>
            if m = 0 then some (s, none) else
            if c = dud ∨ c = noapp then none else
            if n + m ≤ maxLen ∧ (n + m) * i.bytes ≤ 140737488355328 then
              match h.get b with
              | some (.cells cs e' rw) =>
                if o + n * i.size ≤ cs.length ∧ szT P e' = some i.size ∧ e' = e then
                  if c ≠ unk ∧ c < n + m then some (sliceOfNew (n + m) unk h.next, some (none, .cells ((cs.drop o).take (n * i.size) ++ news) e true))
                  else if rw then some (sliceOfNew (n + m) unk h.next, some (some b, .cells ((cs.drop o).take (n * i.size) ++ news) e true)) else none
                else none
              | _ => none
            else none
          | _ => none
        | none => none
      | _, _ => none
    | _ => none
  | _ => none
def applyH (h : Heap) : Option (Option Nat × AObj) → Heap
  | none => h
  | some (none, q) => h.push q
  | some (some b, q) => (h.kill b).push q
theorem appendP_sound {P : Program} {ts : List TypeId} {h : Heap} {s x v : Value} {act : Option (Option Nat × AObj)} (ha : appendP P ts h s x = some (v, act)) :
    appendV P ts h s x = some (v, applyH h act) ∧ ∀ b q, act = some (some b, q) → ∃ o, h.get b = some o := by
  unfold appendP at ha
  unfold appendV
  split at ha
  · split at ha
    · split at ha
      · split at ha
        · rename_i m news hs
          simp only [*]
          split at ha
          · split at ha
            · cases ha; simp [*, applyH]
            · split at ha
              · cases ha; simp [*, applyH]
              · cases ha
          · split at ha
            · cases ha; simp [*, applyH]
            · split at ha
              · cases ha
              · split at ha
                · split at ha
                  · split at ha
                    · rename_i hc4
                      obtain ⟨q1, q2, q3⟩ := hc4
                      subst q3
                      split at ha
                      · rename_i hc5
                        cases ha
                        obtain ⟨r1, r2⟩ := hc5
                        simp [*, applyH]
                      · rename_i hc5
                        split at ha
                        · cases ha
                          simp_all [applyH]
                          intro a1 a2
                          exact absurd a2 (by have := hc5 a1; omega)
                        · cases ha
                    · cases ha
                  · cases ha
                · cases ha
          · cases ha
        · cases ha
      · cases ha
    · cases ha
  · cases ha
def applyX (p : PH) : Option (Option Nat × AObj) → (PH → Bool) → Bool
  | none, K => K p
  | some (none, q), K => pushX p q K
  | some (some b, q), K => decide (p.next ≤ PH.room) && pushX (p.kill b) q K
theorem applyX_sound {p : PH} {act : Option (Option Nat × AObj)} {K : PH → Bool} (h : applyX p act K = true) (hb : ∀ b q, act = some (some b, q) → ∃ o, p.heap.get b = some o) : ∃ p' : PH, p'.heap = applyH p.heap act ∧ K p' = true := by
  match act, h, hb with
  | none, h, _ => exact ⟨p, rfl, h⟩
  | some (none, q), h, _ => exact ⟨_, (pushX_sound h).1, (pushX_sound h).2⟩
  | some (some b, q), h, hb =>
    simp only [applyX, Bool.and_eq_true, decide_eq_true_eq] at h
    obtain ⟨h1, h2⟩ := pushX_sound h.2
    obtain ⟨o, ho⟩ := hb b q rfl
    have hlt := p.heap.wf _ _ ho
    exact ⟨_, by rw [h1, PH.kill_heap hlt h.1]; rfl, h2⟩

def copyX (P : Program) (ts : List TypeId) (p : PH) (d x : Value) : Option (Value × PH) :=
  match ts with
  | [t, t2] =>
    match P.underlying t with
    | some (.slice e) =>
      match szT P e with
      | some z =>
        match srcV P z t2 p.heap x with
        | some (m, news) =>
          match d with
          | .slice none 0 0 => if m = 0 then some (goInt 0, p) else none
          | .slice (some ⟨b, o, none⟩) n _ =>
            if m = 0 then some (goInt 0, p) else
            if m ≤ n then
              match p.get b with
              | some (.cells cs e' true) => if o + news.length ≤ cs.length then (setX p b (.cells (setMany cs o news) e' true)).map fun p' => (goInt m, p') else none
              | _ => none
            else none
          | _ => none
        | none => none
      | none => none
    | _ => none
  | _ => none
theorem copyX_sound {P : Program} {ts : List TypeId} {p p' : PH} {d x v : Value} (h : copyX P ts p d x = some (v, p')) : copyV P ts p.heap d x = some (v, p'.heap) := by
  unfold copyX at h
  unfold copyV
  split at h
  · split at h
    · split at h
      · split at h
        · simp only [*]
          split at h
          · split at h
            · cases h; simp [*]
            · cases h
          · split at h
            · cases h; simp [*]
            · split at h
              · split at h
                · rename_i cs e' hg
                  split at h
                  · rename_i hle
                    rw [Option.map_eq_some_iff] at h
                    obtain ⟨p2, h1, h2⟩ := h
                    cases h2
                    have hg' : p.heap.get _ = some (.cells cs e' true) := hg
                    simp only [*, if_true, if_false, setX_sound h1 hg]
                  · cases h
                · cases h
              · cases h
          · cases h
        · cases h
      · cases h
    · cases h
  · cases h

def mapPutX (P : Program) (t : TypeId) (p : PH) (m k v : Value) : Option PH :=
  match P.underlying t, m with
  | some (.map kt _), .map (some r) =>
    match p.get r with
    | some (.map es ck) =>
      if okKeyV P kt k = true then
        match findV P kt k es 0 with
        | some f => if staysV es k f = true then setX p r (.map (putV es ck k v f).1 (putV es ck k v f).2) else none
        | none => none
      else none
    | _ => none
  | _, _ => none
theorem mapPutX_sound {P : Program} {t : TypeId} {p p' : PH} {m k v : Value} (h : mapPutX P t p m k v = some p') : mapPutV P t p.heap m k v = some p'.heap := by
  unfold mapPutX at h
  unfold mapPutV
  split at h
  · split at h
    · rename_i es ck hg
      have hg' : p.heap.get _ = some (.map es ck) := hg
      split at h
      · split at h
        · split at h
          · simp only [*, if_true, setX_sound h hg]
          · cases h
        · cases h
      · cases h
    · cases h
  · cases h
def mapDelX (P : Program) (t : TypeId) (p : PH) (m k : Value) : Option PH :=
  match P.underlying t, m with
  | some (.map kt _), .map none => if okKeyV P kt k = true then some p else none
  | some (.map kt _), .map (some r) =>
    match p.get r with
    | some (.map es ck) =>
      if okKeyV P kt k = true then
        match findV P kt k es 0 with
        | some (some (i, _)) => setX p r (.map (es.eraseIdx i) ck)
        | some none => setX p r (.map es ck)
        | none => none
      else none
    | _ => none
  | _, _ => none
theorem mapDelX_sound {P : Program} {t : TypeId} {p p' : PH} {m k : Value} (h : mapDelX P t p m k = some p') : mapDelV P t p.heap m k = some p'.heap := by
  unfold mapDelX at h
  unfold mapDelV
  split at h
  · split at h
    · cases h; simp [*]
    · cases h
  · split at h
    · rename_i es ck hg
      have hg' : p.heap.get _ = some (.map es ck) := hg
      split at h
      · split at h
        · simp only [*, if_true, setX_sound h hg]
        · simp only [*, if_true, setX_sound h hg]
        · cases h
      · cases h
    · cases h
  · cases h
end Go.Sim
/- One operation, reckoned; lists of them. -/
namespace Go.Sim
open Go.RowKit

abbrev CallX := Fn → List Value → PH → KX → Bool
def FnCalls (P : Program) (f : Fn) (args : List Value) (h : Heap) (K : Value → Heap → Prop) : Prop :=
  match f with
  | .func k => ADoes P k args h K
  | .yield l => AYield P l args h K
  | _ => False
def CallOk (P : Program) (call : CallX) : Prop := ∀ f args p K, call f args p K = true → FnCalls P f args p.heap (up K)

def isU8 (P : Program) (e : TypeId) : Bool := match P.underlying e with
  | some (.int .u8) => true
  | _ => false
theorem isU8_sound {P : Program} {e : TypeId} (h : isU8 P e = true) : P.underlying e = some (.int .u8) := by
  unfold isU8 at h
  split at h
  · assumption
  · cases h
def convX (P : Program) (s d : TypeId) (x : Value) (p : PH) (K : KX) : Bool :=
  match P.underlying s, P.underlying d, x with
  | some (.slice e), some .string, x => isU8 P e && match bytesStrV p.heap x with
    | some v => K v p
    | none => false
  | some .string, some (.slice e), .string t => isU8 P e && (szT P e == some 1) && decide (t.size ≤ maxLen) && pushX p (.cells (bytesOf t) e true) (K (sliceOfNew t.size unk p.next))
  | some (.slice _), some (.slice e), .slice (some ⟨b, o, none⟩) n c => s == d && !(c == dud) && isU8 P e && match p.get b with
    | some (.cells _ _ true) => K (.slice (some ⟨b, o, none⟩) n c) p
    | _ => false
  | _, _, x => match convV P s d x with
    | some v => K v p
    | none => false
theorem convX_sound {P : Program} {s d : TypeId} {x : Value} {p : PH} {K : KX} (h : convX P s d x p K = true) : convWp P s d x p.heap (up K) := by
  unfold convX at h
  unfold convWp
  split at h
  · rename_i e _ hs hd
    rw [Bool.and_eq_true] at h
    simp only [hs, hd]
    refine ⟨isU8_sound h.1, ?_⟩
    have h2 := h.2
    split at h2
    · rename_i v hv; rw [hv]; exact ⟨p, rfl, h2⟩
    · cases h2
  · rename_i e t hs hd
    simp only [Bool.and_eq_true, beq_iff_eq, decide_eq_true_eq] at h
    obtain ⟨⟨⟨h1, h2⟩, h3⟩, h4⟩ := h
    obtain ⟨k1, k2⟩ := pushX_sound h4
    simp only [hs, hd]
    exact ⟨isU8_sound h1, h2, h3, _, k1, k2⟩
  · rename_i e0 e b o n c hs hd
    simp only [Bool.and_eq_true, beq_iff_eq, Bool.not_eq_true', beq_eq_false_iff_ne] at h
    obtain ⟨⟨⟨h1, h2⟩, h3⟩, h4⟩ := h
    simp only [hs, hd]
    refine ⟨h1, h2, isU8_sound h3, ?_⟩
    split at h4
    · rename_i hg
      show match p.get b with
        | some (.cells _ _ true) => up K _ p.heap
        | _ => False
      rw [hg]; exact ⟨p, rfl, h4⟩
    · cases h4
  · rename_i n1 n2 n3
    split at h
    · rename_i v hv
      split
      · rename_i e _ hs hd
        exact absurd hd (n1 _ hs)
      · rename_i e t hs hd
        exact absurd rfl (n2 _ _ hs hd)
      · rename_i hs hd
        exact absurd rfl (n3 _ _ _ _ _ _ hs hd)
      · rw [hv]; exact ⟨p, rfl, h⟩
    · cases h
def newX (P : Program) (o : Op) (ρ : Rho) (p : PH) (K : KX) : Bool :=
  match newV P o ρ with
  | some (q, mk) => pushX p q (K (mk p.next))
  | none => false
theorem newX_sound {P : Program} {o : Op} {ρ : Rho} {p : PH} {K : KX} (h : newX P o ρ p K = true) : (match newV P o ρ with
    | some (q, mk) => up K (mk p.heap.next) (p.heap.push q)
    | none => False) := by
  unfold newX at h
  split at h
  · rename_i q mk hn
    obtain ⟨k1, k2⟩ := pushX_sound h
    exact ⟨_, k1, k2⟩
  · cases h
def rangeX (P : Program) (t : TypeId) (x : Value) (p : PH) (K : KX) : Bool :=
  match P.underlying t, x with
  | some .string, .string s => pushX p (.striter s 0) (K (ptrOfNew p.next))
  | some (.map _ _), .map none => pushX p (.iter none 0 [] 0) (K (ptrOfNew p.next))
  | some (.map _ _), .map (some r) => match p.get r with
    | some (.map _ ck) => pushX p (.iter (some r) ck [] ck) (K (ptrOfNew p.next))
    | _ => false
  | _, _ => false
theorem rangeX_sound {P : Program} {t : TypeId} {x : Value} {p : PH} {K : KX} (h : rangeX P t x p K = true) : rangeWp P t x p.heap (up K) := by
  unfold rangeX at h
  unfold rangeWp
  split at h
  · obtain ⟨k1, k2⟩ := pushX_sound h; simp only [*]; exact ⟨_, k1, k2⟩
  · obtain ⟨k1, k2⟩ := pushX_sound h; simp only [*]; exact ⟨_, k1, k2⟩
  · split at h
    · rename_i es ck hg
      obtain ⟨k1, k2⟩ := pushX_sound h
      have hg' : p.heap.get _ = some (.map es ck) := hg
      simp only [*]; exact ⟨_, k1, k2⟩
    · cases h
  · cases h
def nextX (P : Program) (it : Value) (isString : Bool) (p : PH) (K : KX) : Bool :=
  match it, isString with
  | .pointer (some ⟨r, 0, none⟩), true => match p.get r with
    | some (.striter s pos) =>
      if pos < s.size then (match setX p r (.striter s (pos + (Utf8.decode s pos).2)) with
        | some p' => K (.tuple #[.bool true, goInt pos, .int .i32 (Utf8.decode s pos).1]) p'
        | none => false)
      else K (.tuple #[.bool false]) p
    | _ => false
  | .pointer (some ⟨r, 0, none⟩), false => match p.get r with
    | some (.iter none _ _ _) => K (.tuple #[.bool false]) p
    | some (.iter (some b) since seen last) => match p.get b with
      | some (.map es ck) =>
        !(!seen.isEmpty && !es.isEmpty && es.all fun e => decide (e.born ≥ last)) &&
        (!((es.filter fun e => !seen.contains e.born).filter fun e => decide (e.born < since)).isEmpty || K (.tuple #[.bool false]) p) &&
        es.all fun e => seen.contains e.born || (match setX p r (.iter (some b) since (seen ++ [e.born]) ck) with
          | some p' => K (.tuple #[.bool true, e.key, e.val]) p'
          | none => false)
      | _ => false
    | _ => false
  | _, _ => false
theorem nextX_sound {P : Program} {it : Value} {isString : Bool} {p : PH} {K : KX} (h : nextX P it isString p K = true) : nextWp P it isString p.heap (up K) := by
  unfold nextX at h
  unfold nextWp
  split at h
  · rename_i r
    split at h
    · rename_i s pos hg
      have hg' : p.heap.get r = some (.striter s pos) := hg
      simp only [hg']
      split at h
      · rename_i hp
        rw [if_pos hp]
        split at h
        · rename_i p' hs
          exact ⟨p', setX_sound hs hg, h⟩
        · cases h
      · rename_i hp
        rw [if_neg hp]
        exact ⟨p, rfl, h⟩
    · cases h
  · rename_i r
    split at h
    · rename_i a b c hg
      have hg' : p.heap.get r = some (.iter none a b c) := hg
      simp only [hg']
      exact ⟨p, rfl, h⟩
    · rename_i b since seen last hg
      have hg' : p.heap.get r = some (.iter (some b) since seen last) := hg
      simp only [hg']
      split at h
      · rename_i es ck hgb
        have hgb' : p.heap.get b = some (.map es ck) := hgb
        simp only [hgb']
        rw [Bool.and_eq_true, Bool.and_eq_true] at h
        obtain ⟨⟨h1, h2⟩, h3⟩ := h
        have h1' : (!seen.isEmpty && !es.isEmpty && es.all fun e => decide (e.born ≥ last)) = false := by
          cases hq : (!seen.isEmpty && !es.isEmpty && es.all fun e => decide (e.born ≥ last)) with
          | false => rfl
          | true => rw [hq] at h1; cases h1
        refine ⟨h1', fun he => ?_, fun e he hs => ?_⟩
        · rw [he] at h2
          exact ⟨p, rfl, by simpa using h2⟩
        · have := List.all_eq_true.1 h3 e he
          rw [hs] at this
          simp only [Bool.false_or] at this
          split at this
          · rename_i p' hset
            exact ⟨p', setX_sound hset hg, this⟩
          · cases this
      · cases h
    · cases h
  · cases h
def entryX (P : Program) (it : Value) (p : PH) (K : KX) : Bool :=
  match it with
  | .pointer (some ⟨r, 0, none⟩) => match p.get r with
    | some (.iter (some b) _ seen last) => match seen.getLast?, p.get b with
      | some stamp, some (.map es ck) => decide (ck = last) &&
          match es.find? (fun e => e.born == stamp) with
          | some e => K (.tuple #[e.key, e.val]) p
          | none => false
      | _, _ => false
    | _ => false
  | _ => false
theorem entryX_sound {P : Program} {it : Value} {p : PH} {K : KX} (h : entryX P it p K = true) : entryWp P it p.heap (up K) := by
  unfold entryX at h
  unfold entryWp
  split at h
  · rename_i r
    split at h
    · rename_i b since seen last hg
      have hg' : p.heap.get r = some (.iter (some b) since seen last) := hg
      simp only [hg']
      split at h
      · rename_i stamp es ck hl hgb
        have hgb' : p.heap.get b = some (.map es ck) := hgb
        simp only [hl, hgb']
        rw [Bool.and_eq_true, decide_eq_true_eq] at h
        obtain ⟨h1, h2⟩ := h
        rw [if_pos h1]
        split at h2
        · rename_i e he; rw [he]; exact ⟨p, rfl, h2⟩
        · cases h2
      · cases h
    · cases h
  · cases h
end Go.Sim
/- All operations, reckoned; lists of them; regions that draw. -/
namespace Go.Sim
open Go.RowKit

/-- A choice of one communication, or of none. -/
def selX (P : Program) (s : SelectCase) (ρ : Rho) (p : PH) (K : KX) : Bool :=
  match (P.info? s.elem).bind (·.zero), ρ s.chan with
  | some z, some (.chan (some r)) => constOk z && match p.get r with
    | some (.chan cap buf) => match s.send with
      | some x => match ρ x with
        | some v => if buf.length < cap then (match setX p r (.chan cap (buf ++ [v])) with
            | some p' => K (.tuple #[goInt 0, .bool false]) p'
            | none => false) else K (.tuple #[goInt (-1), .bool false]) p
        | none => false
      | none => match buf with
        | [] => K (.tuple #[goInt (-1), .bool false, z]) p
        | v :: rest => match setX p r (.chan cap rest) with
          | some p' => K (.tuple #[goInt 0, .bool true, v]) p'
          | none => false
    | _ => false
  | _, _ => false
theorem selX_sound {P : Program} {s : SelectCase} {ρ : Rho} {p : PH} {K : KX} (h : selX P s ρ p K = true) : selWp P s ρ p.heap (up K) := by
  unfold selX at h
  unfold selWp
  split at h
  · rename_i z r hz hch
    simp only [hz, hch]
    rw [Bool.and_eq_true] at h
    refine ⟨h.1, ?_⟩
    have h2 := h.2
    split at h2
    · rename_i cap buf hg
      have hg' : p.heap.get r = _ := hg
      simp only [hg']
      split at h2
      · rename_i x hx
        split at h2
        · rename_i v hv
          split at h2
          · rename_i hroom
            simp only [hx, hv]; rw [if_pos hroom]
            split at h2
            · rename_i p' hs; exact ⟨p', setX_sound hs hg, h2⟩
            · cases h2
          · rename_i hroom
            simp only [hx, hv]; rw [if_neg hroom]
            exact ⟨p, rfl, h2⟩
        · cases h2
      · rename_i hx
        simp only [hx]
        split at h2
        · exact ⟨p, rfl, h2⟩
        · split at h2
          · rename_i p' hs; exact ⟨p', setX_sound hs hg, h2⟩
          · cases h2
    · cases h2
  · cases h
def opX (P : Program) (call : CallX) (o : Op) (ρ : Rho) (p : PH) (K : KX) : Bool :=
  match o with
  | .load t x => match ρ x with
    | some q => match loadV P t p.heap q with
      | some v => K v p
      | none => false
    | none => false
  | .store t x y => match ρ x, ρ y with
    | some q, some v => match storeX P t p q v with
      | some p' => K undef p'
      | none => false
    | _, _ => false
  | .slice t x lo hi mx => match ρ x, optV ρ lo, optV ρ hi, optV ρ mx with
    | some v, some l, some hh, some m => match sliceV P (elemSz P p.heap) t v l hh m with
      | some v => K v p
      | none => false
    | _, _, _, _ => false
  | .convert s d x => match ρ x with
    | some v => convX P s d v p K
    | none => false
  | .box t x => newX P (.box t x) ρ p K
  | .alloc t => newX P (.alloc t) ρ p K
  | .buildSlice t n ps => newX P (.buildSlice t n ps) ρ p K
  | .makeSlice t l c => newX P (.makeSlice t l c) ρ p K
  | .makeMap t r => newX P (.makeMap t r) ρ p K
  | .makeChan t r => newX P (.makeChan t r) ρ p K
  | .select cases false => match cases.toList with
    | [s] => selX P s ρ p K
    | _ => false
  | .call { callee := .value f, args := args, argTypes := _ } => match ρ f, allV ρ args.toList with
    | some (.func (.func k) first cap), some vs => call (.func k) (first.toList ++ vs ++ cap.toList) p K
    | some (.func (.yield l) xs _), some vs => Nat.beq xs.size 0 && call (.yield l) vs p K
    | _, _ => false
  | .call { callee := .builtin .append, args := args, argTypes := ts } => match allV ρ args.toList with
    | some [s, x] => match appendP P ts.toList p.heap s x with
      | some (v, act) => applyX p act (K v)
      | none => false
    | _ => false
  | .call { callee := .builtin .len, args := args, argTypes := ts } => match allV ρ args.toList, ts.toList with
    | some [x], [t] => match lenH P t p.heap x with
      | some v => K v p
      | none => false
    | _, _ => false
  | .call { callee := .builtin .cap, args := args, argTypes := ts } => match allV ρ args.toList, ts.toList with
    | some [x], [t] => match capH P t p.heap x with
      | some v => K v p
      | none => false
    | _, _ => false
  | .call { callee := .builtin .clear, args := args, argTypes := ts } => match allV ρ args.toList, ts.toList with
    | some [x], [t] => match clearH P t x with
      | some v => K v p
      | none => false
    | _, _ => false
  | .call { callee := .builtin .copy, args := args, argTypes := ts } => match allV ρ args.toList with
    | some [d, x] => match copyX P ts.toList p d x with
      | some (v, p') => K v p'
      | none => false
    | _ => false
  | .call { callee := .builtin .delete, args := args, argTypes := ts } => match allV ρ args.toList, ts.toList with
    | some [m, k], t :: _ => match mapDelX P t p m k with
      | some p' => K (.tuple #[]) p'
      | none => false
    | _, _ => false
  | .insert t x y z => match ρ x, ρ y, ρ z with
    | some m, some k, some v => match mapPutX P t p m k v with
      | some p' => K undef p'
      | none => false
    | _, _, _ => false
  | .mapUpdate t x y z => match ρ x, ρ y, ρ z with
    | some m, some k, some v => match mapPutX P t p m k v with
      | some p' => K undef p'
      | none => false
    | _, _, _ => false
  | .lookup t x y ok => match ρ x, ρ y with
    | some m, some k => match lookupV P t p.heap m k ok with
      | some v => K v p
      | none => false
    | _, _ => false
  | .range t x => match ρ x with
    | some v => rangeX P t v p K
    | none => false
  | .next x s => match ρ x with
    | some v => nextX P v s p K
    | none => false
  | .entry x => match ρ x with
    | some v => entryX P v p K
    | none => false
  | .makeInterface t x => match ρ x with
    | some v => match ifaceV P t v with
      | some v' => K v' p
      | none => false
    | none => false
  | .typeAssert x _ t ok => match ρ x with
    | some v => match assertV P v t ok with
      | some v' => K v' p
      | none => false
    | none => false
  | o => match pureV P o ρ with
    | some v => K v p
    | none => false

theorem opX_sound {P : Program} {call : CallX} (hc : CallOk P call) {o : Op} {ρ : Rho} {p : PH} {K : KX} (h : opX P call o ρ p K = true) : opWp P o ρ p.heap (up K) := by
  unfold opX at h
  unfold opWp
  split at h
  · split at h
    · split at h
      · simp only [*]; exact ⟨p, rfl, h⟩
      · cases h
    · cases h
  · split at h
    · split at h
      · rename_i p' hs
        simp only [*, storeX_sound hs]; exact ⟨p', rfl, h⟩
      · cases h
    · cases h
  · split at h
    · split at h
      · simp only [*]; exact ⟨p, rfl, h⟩
      · cases h
    · cases h
  · split at h
    · simp only [*]; exact convX_sound h
    · cases h
  · exact newX_sound h
  · exact newX_sound h
  · exact newX_sound h
  · exact newX_sound h
  · exact newX_sound h
  · exact newX_sound h
  · split at h
    · simp only [*]; exact selX_sound h
    · cases h
  · split at h
    · rename_i k _ _ _ _ _; simp only [*]; exact hc (.func k) _ _ _ h
    · rename_i l _ _ _ _ _; rw [Bool.and_eq_true] at h; simp only [*]; exact ⟨Nat.eq_of_beq_eq_true h.1, hc (.yield l) _ _ _ h.2⟩
    · cases h
  · split at h
    · split at h
      · rename_i v act ha
        obtain ⟨h1, h2⟩ := appendP_sound ha
        obtain ⟨p', k1, k2⟩ := applyX_sound h h2
        simp only [*]; exact ⟨p', k1, k2⟩
      · cases h
    · cases h
  · split at h
    · split at h
      · simp only [*]; exact ⟨p, rfl, h⟩
      · cases h
    · cases h
  · split at h
    · split at h
      · simp only [*]; exact ⟨p, rfl, h⟩
      · cases h
    · cases h
  · split at h
    · split at h
      · simp only [*]; exact ⟨p, rfl, h⟩
      · cases h
    · cases h
  · split at h
    · split at h
      · rename_i v p' ha
        simp only [*, copyX_sound ha]; exact ⟨p', rfl, h⟩
      · cases h
    · cases h
  · split at h
    · split at h
      · rename_i p' ha
        simp only [*, mapDelX_sound ha]; exact ⟨p', rfl, h⟩
      · cases h
    · cases h
  · split at h
    · split at h
      · rename_i p' ha
        simp only [*, mapPutX_sound ha]; exact ⟨p', rfl, h⟩
      · cases h
    · cases h
  · split at h
    · split at h
      · rename_i p' ha
        simp only [*, mapPutX_sound ha]; exact ⟨p', rfl, h⟩
      · cases h
    · cases h
  · split at h
    · split at h
      · simp only [*]; exact ⟨p, rfl, h⟩
      · cases h
    · cases h
  · split at h
    · simp only [*]; exact rangeX_sound h
    · cases h
  · split at h
    · simp only [*]; exact nextX_sound h
    · cases h
  · split at h
    · simp only [*]; exact entryX_sound h
    · cases h
  · split at h
    · split at h
      · simp only [*]; exact ⟨p, rfl, h⟩
      · cases h
    · cases h
  · split at h
    · split at h
      · simp only [*]; exact ⟨p, rfl, h⟩
      · cases h
    · cases h
  · split at h
    · simp only [*]; exact ⟨p, rfl, h⟩
    · cases h

/-! ### Lists -/
abbrev FX := Frm → PH → Bool
def upF (K : FX) (a : Frm) (h : Heap) : Prop := ∃ p : PH, p.heap = h ∧ K a p = true
def runC (P : Program) (call : CallX) : List C → FX → FX
  | [], K, a, p => K a p
  | c :: r, K, a, p => match c.g with
    | none => opX P call c.op a.ev p (fun v p' => runC P call r K (a.put c.d v) p')
    | some (t, want) => match guardV t want a with
      | some true => opX P call c.op a.ev p (fun v p' => runC P call r K (a.put c.d v) p')
      | some false => runC P call r K (a.put c.d undef) p
      | none => false
theorem convWp_mono {P : Program} {s d : TypeId} {x : Value} {h : Heap} {K K' : Value → Heap → Prop} (hk : ∀ v h, K v h → K' v h) (q : convWp P s d x h K) : convWp P s d x h K' := by
  unfold convWp at q ⊢
  split at q
  · refine ⟨q.1, ?_⟩
    have q2 := q.2
    split at q2
    · exact hk _ _ q2
    · exact q2.elim
  · exact ⟨q.1, q.2.1, q.2.2.1, hk _ _ q.2.2.2⟩
  · refine ⟨q.1, q.2.1, q.2.2.1, ?_⟩
    have q2 := q.2.2.2
    split at q2
    · exact hk _ _ q2
    · exact q2.elim
  · split at q
    · exact hk _ _ q
    · exact q.elim
theorem rangeWp_mono {P : Program} {t : TypeId} {x : Value} {h : Heap} {K K' : Value → Heap → Prop} (hk : ∀ v h, K v h → K' v h) (q : rangeWp P t x h K) : rangeWp P t x h K' := by
  unfold rangeWp at q ⊢
  split at q
  · exact hk _ _ q
  · exact hk _ _ q
  · split at q
    · exact hk _ _ q
    · exact q.elim
  · exact q.elim
theorem nextWp_mono {P : Program} {x : Value} {s : Bool} {h : Heap} {K K' : Value → Heap → Prop} (hk : ∀ v h, K v h → K' v h) (q : nextWp P x s h K) : nextWp P x s h K' := by
  unfold nextWp at q ⊢
  split at q
  · split at q
    · split at q
      · rename_i hl; rw [if_pos hl]; exact hk _ _ q
      · rename_i hl; rw [if_neg hl]; exact hk _ _ q
    · exact q.elim
  · split at q
    · exact hk _ _ q
    · split at q
      · exact ⟨q.1, fun e => hk _ _ (q.2.1 e), fun e he hs => hk _ _ (q.2.2 e he hs)⟩
      · exact q.elim
    · exact q.elim
  · exact q.elim
theorem entryWp_mono {P : Program} {x : Value} {h : Heap} {K K' : Value → Heap → Prop} (hk : ∀ v h, K v h → K' v h) (q : entryWp P x h K) : entryWp P x h K' := by
  unfold entryWp at q ⊢
  split at q
  · split at q
    · split at q
      · split at q
        · rename_i hc
          rw [if_pos hc]
          split at q
          · exact hk _ _ q
          · exact q.elim
        · exact q.elim
      · exact q.elim
    · exact q.elim
  · exact q.elim
theorem callWp_mono {P : Program} {f : Value} {vs : List Value} {h : Heap} {K K' : Value → Heap → Prop} (hk : ∀ v h, K v h → K' v h) (q : callWp P f vs h K) : callWp P f vs h K' := by
  unfold callWp at q ⊢
  split at q
  · exact ADoes.mono q hk
  · exact ⟨q.1, AYield.mono q.2 hk⟩
  · exact q.elim
theorem selWp_mono {P : Program} {s : SelectCase} {ρ : Rho} {h : Heap} {K K' : Value → Heap → Prop} (hk : ∀ v h, K v h → K' v h) (q : selWp P s ρ h K) : selWp P s ρ h K' := by
  unfold selWp at q ⊢
  split at q
  · refine ⟨q.1, ?_⟩
    have q2 := q.2
    split at q2
    · rename_i cap buf hg
      try simp only [hg]
      split at q2
      · rename_i x hx
        split at q2
        · rename_i v hv
          try simp only [hx, hv]
          split at q2
          · rename_i hr; rw [if_pos hr]; exact hk _ _ q2
          · rename_i hr; rw [if_neg hr]; exact hk _ _ q2
        · exact q2.elim
      · rename_i hx
        try simp only [hx]
        split at q2
        · exact hk _ _ q2
        · exact hk _ _ q2
    · exact q2.elim
  · exact q.elim
theorem opWp_mono {P : Program} {o : Op} {ρ : Rho} {h : Heap} {K K' : Value → Heap → Prop} (hk : ∀ v h, K v h → K' v h) (q : opWp P o ρ h K) : opWp P o ρ h K' := by
  unfold opWp at q ⊢
  split at q <;> first
    | (split at q <;> first
        | exact convWp_mono hk q
        | exact rangeWp_mono hk q
        | exact nextWp_mono hk q
        | exact entryWp_mono hk q
        | exact callWp_mono hk q
        | exact selWp_mono hk q
        | exact hk _ _ q
        | exact q.elim
        | (split at q <;> first | exact hk _ _ q | exact q.elim))
theorem runC_sound {P : Program} {call : CallX} (hc : CallOk P call) : ∀ (l : List C) {K : FX} {K' : Frm → Heap → Prop} {a : Frm} {p : PH}, (∀ a p, K a p = true → K' a p.heap) → runC P call l K a p = true → cWp P l K' a p.heap
  | [], K, K', a, p, hk, h => hk a p h
  | c :: r, K, K', a, p, hk, h => by
    have step : ∀ a' : Frm, opX P call c.op a'.ev p (fun v p' => runC P call r K (a'.put c.d v) p') = true → opWp P c.op a'.ev p.heap (fun v h' => cWp P r K' (a'.put c.d v) h') := by
      intro a' h
      refine opWp_mono ?_ (opX_sound hc h)
      rintro v h' ⟨p', rfl, h2⟩
      exact runC_sound hc r hk h2
    unfold runC at h
    unfold cWp
    cases hg : c.g with
    | none => rw [hg] at h; exact step a h
    | some tw =>
      obtain ⟨t, want⟩ := tw
      rw [hg] at h
      simp only at h ⊢
      cases hv : guardV t want a with
      | none => rw [hv] at h; cases h
      | some b =>
        rw [hv] at h
        cases b
        · exact ⟨fun e => (by cases e), fun _ => runC_sound hc r hk h⟩
        · exact ⟨fun _ => step a h, fun e => (by cases e)⟩
end Go.Sim
/- Deep values: code. -/
namespace Go.Sim
open Go.RowKit
def guardD (t : Option Tmp) (want : Bool) (a : DFrm) : Option Bool :=
  match t with
  | some t => match dlook t a.l with
    | some (.p (.v (.bool b))) => some (if want then b else !b)
    | some (.tup _) => some false
    | _ => none
  | none => none
def dcWp (P : Program) : List C → (DFrm → List Obj → Prop) → DFrm → List Obj → Prop
  | [], K, a, L => K a L
  | c :: r, K, a, L =>
    match c.g with
    | none => dopWp P c.op a.ev L (fun d L' => dcWp P r K (a.put c.d d) L')
    | some (t, want) => guardWp (guardD t want a) (dopWp P c.op a.ev L (fun d L' => dcWp P r K (a.put c.d d) L')) (dcWp P r K (a.put c.d undD) L)
def slotD (a : DFrm) : Option Tmp → Option DV
  | some t => dlook t a.l
  | none => none
/-- What is read once more. -/
def dreadV (P : Program) (o : Op) (ρ : DRho) (L : List Obj) : Option DV :=
  match o with
  | .load t x => match ρ x with
    | some p => dloadV P L t p
    | none => none
  | .call { callee := .builtin .len, args := args, argTypes := ts } => match allD ρ args.toList, ts.toList with
    | some [x], [t] => dlenV P L t x
    | _, _ => none
  | _ => none
def dchk1 (P : Program) (c : C) (a : DFrm) (L : List Obj) : Prop :=
  withD (dreadV P c.op a.ev L) fun d => withD (valD d) fun x => withD (slotD a c.d) fun d' => withD (valD d') fun y => x = y
def dchk (P : Program) (c : C) (a : DFrm) (L : List Obj) : Prop :=
  match c.g with
  | none => dchk1 P c a L
  | some (t, want) => guardWp (guardD t want a) (dchk1 P c a L) True
def dchkAll (P : Program) (a : DFrm) (L : List Obj) : List C → Prop
  | [] => True
  | c :: r => dchk P c a L ∧ dchkAll P a L r
def ddWp (P : Program) : List (C × List C) → (DFrm → List Obj → Prop) → DFrm → List Obj → Prop
  | [], K, a, L => K a L
  | (c, ks) :: r, K, a, L => dcWp P [c] (fun a L => dchkAll P a L ks ∧ ddWp P r K a L) a L

/-- The frame's slots and the objects, as they stand. -/
structure FR (P : Program) (W0 : Ent) (γ : Pl) (L : List Obj) (h : Heap) (a : DFrm) (fa : Frm) : Prop where
  n : fa.n = a.n
  cnt : W0.cnt = a.c
  slots : ∀ t d, dlook t a.l = some d → ∃ v, fa.get t = some v ∧ DR P (Free W0 γ L h) γ L h d v
section
variable {P : Program} {γ : Pl} {L : List Obj} {h : Heap} {h0 : Heap} {W0 : Ent} {a : DFrm} {fa : Frm}
theorem dr_const {S : Nat → Prop} {v : Value} {d : DV} (e : constD v = some d) : constOk v = true ∧ DR P S γ L h d v := by
  unfold constD at e
  split at e
  · rename_i hs; cases e; exact ⟨scal_const hs, PR.v hs⟩
  · split at e
    · split at e
      · rename_i xs _ hx
        cases e
        refine ⟨by simpa [constOk] using hx, ?_⟩
        have hx' : xs = #[] := by simpa using hx
        rw [hx']
        exact ⟨#[], rfl, .nil⟩
      · cases e
    · cases e
theorem FR.rho (hf : FR P W0 γ L h a fa) : RhoD P W0 γ L h a.ev fa.ev := by
  intro x d e
  cases x with
  | tmp t => exact hf.slots t d e
  | const v =>
    obtain ⟨h1, h2⟩ := dr_const (P := P) (S := Free W0 γ L h) (γ := γ) (L := L) (h := h) e
    exact ⟨v, by simp [Frm.ev, h1], h2⟩
  | func f => cases e; exact ⟨_, rfl, #[], #[], rfl, .nil, .nil⟩
  | global g => cases e
theorem FR.put {γ' : Pl} {L' : List Obj} {h' : Heap} (hf : FR P W0 γ L h a fa) (c : Carry W0 γ L h γ' L' h') {d : DV} {v : Value} (hd : DR P (Free W0 γ' L' h') γ' L' h' d v) (t : Option Tmp) : FR P W0 γ' L' h' (a.put t d) (fa.put t v) := by
  cases t with
  | none => exact ⟨hf.n, hf.cnt, fun t d e => by obtain ⟨v, e1, r⟩ := hf.slots t d e; exact ⟨v, e1, c.dr r⟩⟩
  | some t =>
    unfold DFrm.put Frm.put
    rw [hf.n]
    by_cases ht : t < a.n
    · simp only [ht, if_true]
      refine ⟨rfl, hf.cnt, fun u w e => ?_⟩
      simp only [dlook] at e
      simp only [Frm.get, look_ins]
      by_cases hu : t = u
      · subst hu
        simp at e ⊢
        subst e
        exact hd
      · rw [if_neg hu] at e
        rw [if_neg (Ne.symm hu)]
        obtain ⟨v, e1, r⟩ := hf.slots u w e
        exact ⟨v, e1, c.dr r⟩
    · simp only [ht, if_false]
      exact ⟨hf.n, hf.cnt, fun t d e => by obtain ⟨v, e1, r⟩ := hf.slots t d e; exact ⟨v, e1, c.dr r⟩⟩
theorem dr_undef {S : Nat → Prop} : DR P S γ L h undD undef := ⟨#[], rfl, .nil⟩
theorem guardD_sound (hf : FR P W0 γ L h a fa) {t : Option Tmp} {want b : Bool} (e : guardD t want a = some b) : guardV t want fa = some b := by
  unfold guardD at e
  unfold guardV
  split at e
  · rename_i t
    split at e
    · rename_i c hc
      cases e
      obtain ⟨v, e1, r⟩ := hf.slots _ _ hc
      have : v = .bool c := PR.scal (P := P) (S := Free W0 γ L h) (h := h) r
      subst this
      simp only [e1]
    · rename_i xs hc
      cases e
      obtain ⟨v, e1, vs, rfl, _⟩ := hf.slots _ _ hc
      simp only [e1]
    · cases e
  · cases e
/-- From the one to the other. -/
def Sim (P : Program) (h0 : Heap) (W0 : Ent) (K : DFrm → List Obj → Prop) (fa : Frm) (h : Heap) : Prop := ∃ a L γ, K a L ∧ Hp P h0 W0 γ L h ∧ FR P W0 γ L h a fa
theorem dcWp_sound : ∀ (l : List C) {K : DFrm → List Obj → Prop} {R : Frm → Heap → Prop} {γ : Pl} {L : List Obj} {h : Heap} {a : DFrm} {fa : Frm}, (∀ fa h, Sim P h0 W0 K fa h → R fa h) → Hp P h0 W0 γ L h → FR P W0 γ L h a fa → dcWp P l K a L → cWp P l R fa h
  | [], K, R, γ, L, h, a, fa, hR, H, hf, hk => hR fa h ⟨a, L, γ, hk, H, hf⟩
  | c :: r, K, R, γ, L, h, a, fa, hR, H, hf, hk => by
    have go : dopWp P c.op a.ev L (fun d L' => dcWp P r K (a.put c.d d) L') → opWp P c.op fa.ev h (fun v h' => cWp P r R (fa.put c.d v) h') := fun hop =>
      opWp_mono (fun v h' ⟨γ', d, L', k, H', c', hd⟩ => dcWp_sound r hR H' (hf.put c' hd c.d) k) (dop_sound H hf.rho hop)
    unfold dcWp at hk
    unfold cWp
    cases hg : c.g with
    | none => simp only [hg] at hk ⊢; exact go hk
    | some p =>
      obtain ⟨t, want⟩ := p
      simp only [hg] at hk ⊢
      cases hv : guardD t want a with
      | none => rw [hv] at hk; exact hk.elim
      | some b =>
        rw [hv] at hk
        rw [guardD_sound hf hv]
        exact ⟨fun e => go (hk.1 e), fun e => dcWp_sound r hR H (hf.put (Carry.refl _ _ _) dr_undef c.d) (hk.2 e)⟩
theorem dread_sound (H : Hp P h0 W0 γ L h) (hf : FR P W0 γ L h a fa) {o : Op} {d : DV} (e : dreadV P o a.ev L = some d) : ∃ v, readV P o fa.ev h = some v ∧ (DR P (Free W0 γ L h) γ L h) d v := by
  unfold dreadV at e
  unfold readV
  split at e
  · split at e
    · rename_i p hp
      obtain ⟨v, e1, r1⟩ := hf.rho _ _ hp
      simp only [e1]
      exact dload_sound H r1 e
    · cases e
  · split at e
    · rename_i x t hx ht
      obtain ⟨vs, e1, r1⟩ := allD_sound hf.rho hx
      cases r1 with
      | cons hd tl =>
        cases tl
        simp only [e1, ht]
        exact dlen_sound H hd e
    · cases e
  · cases e
theorem dchk_sound (H : Hp P h0 W0 γ L h) (hf : FR P W0 γ L h a fa) {c : C} (hk : dchk P c a L) : chkF P c fa h := by
  have one : dchk1 P c a L → (slotV fa c.d).isSome = true ∧ readV P c.op fa.ev h = slotV fa c.d := by
    intro hk
    obtain ⟨d, e1, hk⟩ := withD_elim hk
    obtain ⟨x, e2, hk⟩ := withD_elim hk
    obtain ⟨d', e3, hk⟩ := withD_elim hk
    obtain ⟨y, e4, rfl⟩ := withD_elim hk
    obtain ⟨v, f1, r1⟩ := dread_sound H hf e1
    have := valD_sound r1 e2
    rw [this] at f1
    cases hc : c.d with
    | none => rw [hc] at e3; cases e3
    | some t =>
      rw [hc] at e3
      obtain ⟨u, f2, r2⟩ := hf.slots t d' e3
      have := valD_sound r2 e4
      rw [this] at f2
      simp only [slotV]
      rw [f1, f2]
      exact ⟨rfl, rfl⟩
  unfold dchk at hk
  unfold chkF
  cases hg : c.g with
  | none => simp only [hg] at hk ⊢; exact one hk
  | some p =>
    obtain ⟨t, want⟩ := p
    simp only [hg] at hk ⊢
    cases hv : guardD t want a with
    | none => rw [hv] at hk; exact hk.elim
    | some b =>
      rw [hv] at hk
      cases b
      · exact .inl (guardD_sound hf hv)
      · exact .inr (one (hk.1 rfl))
theorem dchkAll_sound (H : Hp P h0 W0 γ L h) (hf : FR P W0 γ L h a fa) : ∀ {ks : List C}, dchkAll P a L ks → chkAll P fa h ks
  | [], _ => trivial
  | c :: r, hk => ⟨dchk_sound H hf hk.1, dchkAll_sound H hf hk.2⟩
theorem ddWp_sound : ∀ (l : List (C × List C)) {K : DFrm → List Obj → Prop} {R : Frm → Heap → Prop} {γ : Pl} {L : List Obj} {h : Heap} {a : DFrm} {fa : Frm}, (∀ fa h, Sim P h0 W0 K fa h → R fa h) → Hp P h0 W0 γ L h → FR P W0 γ L h a fa → ddWp P l K a L → dWp P l R fa h
  | [], K, R, γ, L, h, a, fa, hR, H, hf, hk => hR fa h ⟨a, L, γ, hk, H, hf⟩
  | (c, ks) :: r, K, R, γ, L, h, a, fa, hR, H, hf, hk =>
    dcWp_sound [c] (K := fun a L => dchkAll P a L ks ∧ ddWp P r K a L) (fun fa h ⟨a, L, γ, k, H', hf'⟩ => ⟨dchkAll_sound H' hf' k.1, ddWp_sound r hR H' hf' k.2⟩) H hf hk

/-! ### Code -/
abbrev DQ := Exit → DFrm → List Obj → Prop
def SimQ (P : Program) (h0 : Heap) (W0 : Ent) (Q : DQ) (e : Exit) (fa : Frm) (h : Heap) : Prop := Sim P h0 W0 (Q e) fa h
/-- Code from all that stands so. -/
def DAWp (P : Program) (c : Code) (Q : DQ) (a : DFrm) (L : List Obj) : Prop :=
  ∀ h0 W0 γ h fa, Hp P h0 W0 γ L h → FR P W0 γ L h a fa → AWp P c (SimQ P h0 W0 Q) fa h
def dthenQ (K : DFrm → List Obj → Prop) (Q : DQ) : DQ
  | .normal, a, L => K a L
  | e, a, L => Q e a L
def dblockQ (id : Nat) (Q : DQ) : DQ
  | .exit id', a, L => if id' = id then Q .normal a L else Q (.exit id') a L
  | e, a, L => Q e a L
def dloopW (P : Program) (x : X) (Q : DQ) (a : DFrm) (L : List Obj) : Prop := ∀ c, xOf P c .nil = x → DAWp P (.loop c) Q a L
def dscopeW (P : Program) (x labs : X) (Q : DQ) (a : DFrm) (L : List Obj) : Prop := ∀ c, xOf P c .nil = x → xLab P c .nil .nil = labs → DAWp P (.scope c) Q a L
def drangeW (P : Program) (f : Operand) (ps : List Tmp) (c d : Code) (Q : DQ) (a : DFrm) (L : List Obj) : Prop := DAWp P (.rangeFunc f ps.toArray c d) Q a L
def condD (o : Option DV) (A B : Prop) : Prop := match o with
  | some (.p (.v (.bool b))) => (b = true → A) ∧ (b = false → B)
  | _ => False
/-- With some of the slots only. -/
def KW (K : DFrm → List Obj → Prop) (a : DFrm) (L : List Obj) : Prop := ∃ l', (∀ t d, dlook t l' = some d → dlook t a.l = some d) ∧ K ⟨a.n, a.c, l'⟩ L
theorem FR.sub (hf : FR P W0 γ L h a fa) {l' : List (Nat × DV)} (hs : ∀ t d, dlook t l' = some d → dlook t a.l = some d) : FR P W0 γ L h ⟨a.n, a.c, l'⟩ fa := ⟨hf.n, hf.cnt, fun t d e => hf.slots t d (hs t d e)⟩
theorem KW.refl {K : DFrm → List Obj → Prop} {a : DFrm} {L : List Obj} (h : K a L) : KW K a L := ⟨a.l, fun _ _ e => e, h⟩
def dxWp (P : Program) : X → DQ → DFrm → List Obj → Prop
  | .nil, Q, a, L => Q .normal a L
  | .ret, Q, a, L => Q .ret a L
  | .exit id, Q, a, L => Q (.exit id) a L
  | .goto l, Q, a, L => Q (.goto l) a L
  | .bad, _, _, _ => False
  | .reg l k, Q, a, L => dcWp P l (KW fun a L => dxWp P k Q a L) a L
  | .draw l k, Q, a, L => ddWp P l (KW fun a L => dxWp P k Q a L) a L
  | .cond c x y k, Q, a, L => condD (a.ev c) (KW (dxWp P x (dthenQ (KW fun a L => dxWp P k Q a L) Q)) a L) (KW (dxWp P y (dthenQ (KW fun a L => dxWp P k Q a L) Q)) a L)
  | .block id x k, Q, a, L => dxWp P x (dblockQ id (dthenQ (KW fun a L => dxWp P k Q a L) Q)) a L
  | .loop x k, Q, a, L => dloopW P x (dthenQ (KW fun a L => dxWp P k Q a L) Q) a L
  | .lcons _ _ _, _, _, _ => False
  | .scope x labs k, Q, a, L => dscopeW P x labs (dthenQ (KW fun a L => dxWp P k Q a L) Q) a L
  | .label _ k, Q, a, L => dxWp P k Q a L
  | .range f ps x y k, Q, a, L => drangeW P f ps x y (dthenQ (KW fun a L => dxWp P k Q a L) Q) a L
theorem dxWp_sound : ∀ (x : X) {Q : DQ} {R : Exit → Frm → Heap → Prop} {γ : Pl} {L : List Obj} {h : Heap} {a : DFrm} {fa : Frm}, (∀ e fa h, SimQ P h0 W0 Q e fa h → R e fa h) → Hp P h0 W0 γ L h → FR P W0 γ L h a fa → dxWp P x Q a L → xWp P x R fa h
  | .nil, Q, R, γ, L, h, a, fa, hR, H, hf, hk => hR _ _ _ ⟨a, L, γ, hk, H, hf⟩
  | .ret, Q, R, γ, L, h, a, fa, hR, H, hf, hk => hR _ _ _ ⟨a, L, γ, hk, H, hf⟩
  | .exit id, Q, R, γ, L, h, a, fa, hR, H, hf, hk => hR _ _ _ ⟨a, L, γ, hk, H, hf⟩
  | .goto l, Q, R, γ, L, h, a, fa, hR, H, hf, hk => hR _ _ _ ⟨a, L, γ, hk, H, hf⟩
  | .bad, _, _, _, _, _, _, _, _, _, _, hk => hk.elim
  | .lcons _ _ _, _, _, _, _, _, _, _, _, _, _, hk => hk.elim
  | .reg l k, Q, R, γ, L, h, a, fa, hR, H, hf, hk => dcWp_sound l (K := KW fun a L => dxWp P k Q a L) (by rintro fa h ⟨a, L, γ, ⟨l', hs, hk⟩, H, hf⟩; exact dxWp_sound k hR H (hf.sub hs) hk) H hf hk
  | .draw l k, Q, R, γ, L, h, a, fa, hR, H, hf, hk => ddWp_sound l (K := KW fun a L => dxWp P k Q a L) (by rintro fa h ⟨a, L, γ, ⟨l', hs, hk⟩, H, hf⟩; exact dxWp_sound k hR H (hf.sub hs) hk) H hf hk
  | .label _ k, Q, R, γ, L, h, a, fa, hR, H, hf, hk => dxWp_sound k (Q := Q) hR H hf hk
  | .cond c x y k, Q, R, γ, L, h, a, fa, hR, H, hf, hk => by
    have hT : ∀ e fa h, SimQ P h0 W0 (dthenQ (KW fun a L => dxWp P k Q a L) Q) e fa h → thenQ (fun a h => xWp P k R a h) R e fa h := by
      rintro e fa h ⟨a, L, γ, hk, H, hf⟩
      cases e <;> first | (obtain ⟨l', hs, hk⟩ := hk; exact dxWp_sound k hR H (hf.sub hs) hk) | exact hR _ _ _ ⟨a, L, γ, hk, H, hf⟩
    unfold dxWp condD at hk
    unfold xWp condWp
    split at hk
    · rename_i b hc
      obtain ⟨v, e1, r1⟩ := hf.rho _ _ hc
      have : v = .bool b := PR.scal (P := P) (S := Free W0 γ L h) (h := h) r1
      subst this
      rw [e1]
      exact ⟨fun e => (let ⟨_, hs, hk⟩ := hk.1 e; dxWp_sound x hT H (hf.sub hs) hk), fun e => (let ⟨_, hs, hk⟩ := hk.2 e; dxWp_sound y hT H (hf.sub hs) hk)⟩
    · exact hk.elim
  | .block id x k, Q, R, γ, L, h, a, fa, hR, H, hf, hk => by
    refine dxWp_sound x (Q := dblockQ id (dthenQ (KW fun a L => dxWp P k Q a L) Q)) ?_ H hf hk
    rintro e fa h ⟨a, L, γ, hk, H, hf⟩
    have hT : ∀ e fa h, SimQ P h0 W0 (dthenQ (KW fun a L => dxWp P k Q a L) Q) e fa h → thenQ (fun a h => xWp P k R a h) R e fa h := by
      rintro e fa h ⟨a, L, γ, hk, H, hf⟩
      cases e <;> first | (obtain ⟨l', hs, hk⟩ := hk; exact dxWp_sound k hR H (hf.sub hs) hk) | exact hR _ _ _ ⟨a, L, γ, hk, H, hf⟩
    cases e with
    | exit id' =>
      unfold dblockQ at hk
      unfold blockQ
      simp only at hk ⊢
      split at hk
      · rename_i e; rw [if_pos e]; exact hT _ _ _ ⟨a, L, γ, hk, H, hf⟩
      · rename_i e; rw [if_neg e]; exact hT _ _ _ ⟨a, L, γ, hk, H, hf⟩
    | normal => exact hT .normal _ _ ⟨a, L, γ, hk, H, hf⟩
    | ret => exact hT .ret _ _ ⟨a, L, γ, hk, H, hf⟩
    | goto l => exact hT (.goto l) _ _ ⟨a, L, γ, hk, H, hf⟩
    | panic ch => exact hT (.panic ch) _ _ ⟨a, L, γ, hk, H, hf⟩
    | outgrown => exact hT .outgrown _ _ ⟨a, L, γ, hk, H, hf⟩
  | .loop x k, Q, R, γ, L, h, a, fa, hR, H, hf, hk => by
    intro c hc
    refine (hk c hc h0 W0 γ h fa H hf).mono ?_
    rintro e fa h ⟨a, L, γ, hk, H, hf⟩
    cases e <;> first | (obtain ⟨l', hs, hk⟩ := hk; exact dxWp_sound k hR H (hf.sub hs) hk) | exact hR _ _ _ ⟨a, L, γ, hk, H, hf⟩
  | .scope x labs k, Q, R, γ, L, h, a, fa, hR, H, hf, hk => by
    intro c hc hl
    refine (hk c hc hl h0 W0 γ h fa H hf).mono ?_
    rintro e fa h ⟨a, L, γ, hk, H, hf⟩
    cases e <;> first | (obtain ⟨l', hs, hk⟩ := hk; exact dxWp_sound k hR H (hf.sub hs) hk) | exact hR _ _ _ ⟨a, L, γ, hk, H, hf⟩
  | .range f ps x y k, Q, R, γ, L, h, a, fa, hR, H, hf, hk => by
    refine (hk h0 W0 γ h fa H hf).mono ?_
    rintro e fa h ⟨a, L, γ, hk, H, hf⟩
    cases e <;> first | (obtain ⟨l', hs, hk⟩ := hk; exact dxWp_sound k hR H (hf.sub hs) hk) | exact hR _ _ _ ⟨a, L, γ, hk, H, hf⟩
end
/-- Code from here on, with some of the slots only. -/
def dxHold (P : Program) (x : X) (Q : DQ) (a : DFrm) (L : List Obj) : Prop := KW (dxWp P x Q) a L
end Go.Sim
/- Deep values: what may be forgotten; objects taken anew. -/
namespace Go.Sim
open Go.RowKit

/-- A value with less known of it. -/
inductive VW : Value → Value → Prop
  | refl (v : Value) : VW v v
  | empty (b o c : Nat) : VW (.slice (some ⟨b, o, none⟩) 0 c) (.slice (some ⟨b, o, none⟩) 0 dud)
  | agg {xs ys : Array Value} (hl : xs.size = ys.size) (h : ∀ (i : Nat) (x y : Value), xs[i]? = some x → ys[i]? = some y → VW x y) : VW (.agg xs) (.agg ys)
  | tuple {xs ys : Array Value} (hl : xs.size = ys.size) (h : ∀ (i : Nat) (x y : Value), xs[i]? = some x → ys[i]? = some y → VW x y) : VW (.tuple xs) (.tuple ys)
theorem VRel.weak {β : Place} {v u : Value} (hw : VW v u) : ∀ {m : Value}, VRel β v m → VRel β u m := by
  induction hw with
  | refl v => exact fun h => h
  | empty b o c =>
    intro m h
    cases h with
    | slice h hc hn hm hr => exact .dud
    | dud => exact .dud
  | @agg xs ys hl _ ih =>
    intro m h
    cases h with
    | agg hx hh =>
      refine .agg (by omega) fun i v v' e1 e2 => ?_
      have hi : i < xs.size := by have := (Array.getElem?_eq_some_iff.1 e1).1; omega
      exact ih i xs[i] v (Array.getElem?_eq_getElem hi) e1 (hh i xs[i] v' (Array.getElem?_eq_getElem hi) e2)
  | @tuple xs ys hl _ ih =>
    intro m h
    cases h with
    | tuple hx hh =>
      refine .tuple (by omega) fun i v v' e1 e2 => ?_
      have hi : i < xs.size := by have := (Array.getElem?_eq_some_iff.1 e1).1; omega
      exact ih i xs[i] v (Array.getElem?_eq_getElem hi) e1 (hh i xs[i] v' (Array.getElem?_eq_getElem hi) e2)
theorem VRels.weak {β : Place} : ∀ {vs us ms : List Value}, All2 VW vs us → VRels β vs ms → VRels β us ms
  | _, _, _, .nil, .nil => .nil
  | _, _, _, .cons hw t, .cons h t' => .cons (h.weak hw) (VRels.weak t t')
theorem ACalls.vw {P : Program} {f : FuncId} {args : List Value} {h : Heap} {Q Q' : Value → Heap → Prop} (hc : ACalls P f args h Q) (hq : ∀ v h', Q v h' → ∃ u, VW v u ∧ Q' u h') : ACalls P f args h Q' :=
  ⟨hc.1, fun β w ms hv hr => (hc.2 β w ms hv hr).mono fun e w' ⟨mv, e1, v, h', β', a, b, c, d⟩ => by
    obtain ⟨u, h1, h2⟩ := hq v h' d
    exact ⟨mv, e1, u, h', β', a.weak h1, b, c, h2⟩⟩
theorem ACalls.args {P : Program} {f : FuncId} {args us : List Value} {h : Heap} {Q : Value → Heap → Prop} (hw : All2 VW args us) (hc : ACalls P f us h Q) : ACalls P f args h Q :=
  ⟨hc.1, fun β w ms hv hr => hc.2 β w ms (hv.weak hw) hr⟩

/-! ### Objects taken anew: for each new number the old one, or none for a list that lies nowhere -/
abbrev Sel := List (Option Nat)
def unB (sel : Sel) : DV → Option DV
  | .p x => some (.p x)
  | .ptr id off => match sel[id]? with
    | some (some k) => some (.ptr k off)
    | _ => none
  | .ep id i off tot => match sel[id]? with
    | some (some k) => some (.ep k i off tot)
    | _ => none
  | .dp row off => some (.dp row off)
  | .ref id lo n tot => match sel[id]? with
    | some (some k) => some (.ref k lo n tot)
    | some none => if lo = 0 ∧ n = 0 ∧ tot = 0 then some (.p (.v (.slice none 0 0))) else none
    | none => none
  | .aref id off n => match sel[id]? with
    | some (some k) => some (.aref k off n)
    | _ => none
  | _ => none
def unBs (sel : Sel) : List DV → Option (List DV)
  | [] => some []
  | d :: l => match unB sel d, unBs sel l with
    | some d, some l => some (d :: l)
    | _, _ => none
def unC (sel : Sel) : DV → Option DV
  | .fn f pre cap => match unBs sel pre, unBs sel cap with
    | some a, some b => some (.fn f a b)
    | _, _ => none
  | d => unB sel d
def unCs (sel : Sel) : List DV → Option (List DV)
  | [] => some []
  | d :: l => match unC sel d, unCs sel l with
    | some d, some l => some (d :: l)
    | _, _ => none
def un1 (sel : Sel) : DV → Option DV
  | .agg xs => (unCs sel xs).map .agg
  | d => unC sel d
def un1s (sel : Sel) : List DV → Option (List DV)
  | [] => some []
  | d :: l => match un1 sel d, un1s sel l with
    | some d, some l => some (d :: l)
    | _, _ => none
def unD (sel : Sel) : DV → Option DV
  | .tup xs => (un1s sel xs).map .tup
  | d => un1 sel d
/-- A slice of nothing may be taken for an empty one. -/
def unP : PV → PV → Prop
  | .sl _ rows, .v (.slice none 0 0) => rows = []
  | x, y => x = y
def unX (sel : Sel) : DV → DV → Prop
  | .p (.sl _ rows), .p (.v (.slice none 0 0)) => rows = []
  | d', d => unC sel d' = some d
def rowsW (rows rows' : List (List PV)) : Prop := rows = rows' ∨ All2 (All2 unP) rows rows'
theorem unP_pr {P : Program} {S : Nat → Prop} {h : Heap} {x' x : PV} {v : Value} (e : unP x' x) (hx : PR P S h x v) : PR P S h x' v := by
  unfold unP at e
  split at e
  · subst e
    rw [hx.scal]
    exact .nil
  · subst e; exact hx
theorem All2.flip_len {α β : Type} {R : α → β → Prop} {l : List α} {m : List β} (h : All2 R l m) : m.length = l.length := h.length.symm
theorem rowsW_len {rows rows' : List (List PV)} (e : rowsW rows rows') : rows.length = rows'.length := by
  rcases e with rfl | e
  · rfl
  · exact e.length
theorem rowsW_all {rows rows' : List (List PV)} (e : rowsW rows rows') {z : Nat} (h : ∀ r ∈ rows, r.length = z) : ∀ r ∈ rows', r.length = z := by
  rcases e with rfl | e
  · exact h
  · intro r hr
    obtain ⟨i, hi, rfl⟩ := List.getElem_of_mem hr
    obtain ⟨r', h1, h2⟩ := e.get' (List.getElem?_eq_getElem hi)
    rw [← h2.length]
    exact h _ (List.mem_of_getElem? h1)
theorem rowsW_all' {rows rows' : List (List PV)} (e : rowsW rows rows') {z : Nat} (h : ∀ r ∈ rows', r.length = z) : ∀ r ∈ rows, r.length = z := by
  rcases e with rfl | e
  · exact h
  · intro r hr
    obtain ⟨i, hi, rfl⟩ := List.getElem_of_mem hr
    obtain ⟨r', h1, h2⟩ := e.get (List.getElem?_eq_getElem hi)
    rw [h2.length]
    exact h _ (List.mem_of_getElem? h1)
theorem rowsW_at {rows rows' : List (List PV)} (e : rowsW rows rows') {i j : Nat} {r : List PV} {x : PV} (h1 : rows[i]? = some r) (h2 : r[j]? = some x) : ∃ r' x', rows'[i]? = some r' ∧ r'[j]? = some x' ∧ unP x x' := by
  rcases e with rfl | e
  · exact ⟨r, x, h1, h2, by cases x <;> rfl⟩
  · obtain ⟨r', a1, a2⟩ := e.get h1
    obtain ⟨x', b1, b2⟩ := a2.get h2
    exact ⟨r', x', a1, b1, b2⟩
theorem Rows.of_w {P : Program} {S : Nat → Prop} {h : Heap} {b q : Nat} {te : TypeId} {rows rows' : List (List PV)} (e : rowsW rows rows') (hr : Rows P S h b q te rows') : Rows P S h b q te rows := by
  obtain ⟨cs, z, a1, a2, a3, a4, a5, a6, a7⟩ := hr
  have hl := rowsW_len e
  refine ⟨cs, z, a1, a2, a3, by rw [hl]; exact a4, by rw [hl]; exact a5, rowsW_all' e a6, fun i r j x u b1 b2 b3 => ?_⟩
  obtain ⟨r', x', c1, c2, c3⟩ := rowsW_at e b1 b2
  exact unP_pr c3 (a7 i r' j x' u c1 c2 b3)
theorem rowsW_nil {rows rows' : List (List PV)} (e : rowsW rows rows') (h : rows' = []) : rows = [] := by
  have := rowsW_len e
  subst h
  exact List.length_eq_zero_iff.1 this
/-- The new object and the old one. -/
def unO (sel : Sel) : Obj → Obj → Prop
  | .st cells, .st cells' => All2 (unX sel) cells cells'
  | .li e rows, .li e' rows' => e = e' ∧ rowsW rows rows'
  | .fz e rows, .li e' rows' => e = e' ∧ rowsW rows rows'
  | .fz e rows, .fz e' rows' => e = e' ∧ rowsW rows rows'
  | .dead, .li _ _ => True
  | .dead, .fz _ _ => True
  | .dead, .dead => True
  | _, _ => False
theorem unO_owns {sel : Sel} {o' o : Obj} (h : unO sel o' o) (hd : o'.owns = true) : o.owns = true := by
  cases o' with
  | st c => cases o <;> first | exact h.elim | rfl
  | li e r => cases o with
    | li e' r' => obtain ⟨rfl, -⟩ := h; cases e <;> exact hd
    | _ => exact h.elim
  | fz e r => cases hd
  | dead => cases hd
structure SelOk (L : List Obj) (sel : Sel) (L' : List Obj) : Prop where
  len : sel.length = L'.length
  inj : ∀ (i j k : Nat), sel[i]? = some (some k) → sel[j]? = some (some k) → i = j
  old : ∀ (i k : Nat) (o' : Obj), sel[i]? = some (some k) → L'[i]? = some o' → ∃ o, L[k]? = some o ∧ unO sel o' o
  fresh : ∀ (i : Nat) (o' : Obj), sel[i]? = some none → L'[i]? = some o' → o' = .li none []
def selPl (γ : Pl) (sel : Sel) : Pl := fun i => match sel[i]? with
  | some (some k) => γ k
  | _ => none
section
variable {P : Program} {γ : Pl} {L L' : List Obj} {h : Heap} {h0 : Heap} {W0 : Ent} {sel : Sel}

theorem selPl_at {i k : Nat} (e : sel[i]? = some (some k)) : selPl γ sel i = γ k := by unfold selPl; rw [e]
theorem selPl_no {i : Nat} (e : sel[i]? = some none) : selPl γ sel i = none := by unfold selPl; rw [e]
theorem SelOk.at (ok : SelOk L sel L') {i : Nat} {o' : Obj} (hi : L'[i]? = some o') : ∃ s, sel[i]? = some s := by
  have : i < L'.length := (List.getElem?_eq_some_iff.1 hi).1
  rw [← ok.len] at this
  exact ⟨_, List.getElem?_eq_getElem this⟩
theorem SelOk.owns (ok : SelOk L sel L') {i : Nat} {o' : Obj} (hi : L'[i]? = some o') (hd : o'.owns = true) : ∃ k o, sel[i]? = some (some k) ∧ L[k]? = some o ∧ o.owns = true := by
  obtain ⟨s, hs⟩ := ok.at hi
  cases s with
  | none => rw [ok.fresh i o' hs hi] at hd; cases hd
  | some k =>
    obtain ⟨o, h1, h2⟩ := ok.old i k o' hs hi
    refine ⟨k, o, hs, h1, ?_⟩
    exact unO_owns h2 hd
theorem sel_free (ok : SelOk L sel L') {b : Nat} (hb : Free W0 γ L h b) : Free W0 (selPl γ sel) L' h b := by
  refine ⟨hb.1, hb.2.1, fun i o' x hi hd hg => ?_⟩
  obtain ⟨k, o, e1, e2, e3⟩ := ok.owns hi hd
  rw [selPl_at e1] at hg
  exact hb.2.2 k o x e2 e3 hg
theorem sel_pr (ok : SelOk L sel L') {x : PV} {v : Value} (hx : PR P (Free W0 γ L h) h x v) : PR P (Free W0 (selPl γ sel) L' h) h x v := hx.mono fun _ hb => ⟨sel_free ok hb, rfl⟩
theorem sel_list (ok : SelOk L sel L') {i k : Nat} {o' : Obj} {rows : List (List PV)} (e : sel[i]? = some (some k)) (hi : L'[i]? = some o') (hl : o'.isList rows) : ∃ o rows', L[k]? = some o ∧ o.isList rows' ∧ rowsW rows rows' := by
  obtain ⟨o, h1, h2⟩ := ok.old i k o' e hi
  refine ⟨o, ?_⟩
  cases o' <;> cases o <;> first | exact h2.elim | exact hl.elim | (obtain ⟨rfl, h3⟩ := h2; cases hl; exact ⟨_, h1, rfl, h3⟩)
theorem sel_st (ok : SelOk L sel L') {id k : Nat} {c : List DV} (hs : sel[id]? = some (some k)) (h2 : L[k]? = some (.st c)) : ∃ c', L'[id]? = some (.st c') := by
  have hlt : id < L'.length := by rw [← ok.len]; exact (List.getElem?_eq_some_iff.1 hs).1
  obtain ⟨o, g1, g2⟩ := ok.old id k _ hs (List.getElem?_eq_getElem hlt)
  rw [h2] at g1; cases g1
  rw [List.getElem?_eq_getElem hlt]
  cases ho : L'[id] <;> rw [ho] at g2 <;> first | exact ⟨_, rfl⟩ | exact g2.elim
theorem sel_db (H : Hp P h0 W0 γ L h) (ok : SelOk L sel L') {d' d : DV} {v : Value} (e : unB sel d' = some d) (hd : DB P (Free W0 γ L h) γ L h d v) : DB P (Free W0 (selPl γ sel) L' h) (selPl γ sel) L' h d' v := by
  cases d' with
  | p x => cases e; exact sel_pr ok hd
  | dp row off =>
    cases e
    obtain ⟨b, o, cs, te, rw, h1, h2, h3, h4, h5⟩ := hd
    exact ⟨b, o, cs, te, rw, sel_free ok h1, h2, h3, h4, fun j x u a c => sel_pr ok (h5 j x u a c)⟩
  | ptr id off =>
    unfold unB at e
    cases hs : sel[id]? with
    | none => simp only [hs] at e; cases e
    | some s =>
      cases s with
      | none => simp only [hs] at e; cases e
      | some k =>
        simp only [hs] at e; cases e
        obtain ⟨b, h1, ⟨c, h2⟩, h3⟩ := hd
        exact ⟨b, (selPl_at hs).trans h1, sel_st ok hs h2, h3⟩
  | aref id off n =>
    unfold unB at e
    cases hs : sel[id]? with
    | none => simp only [hs] at e; cases e
    | some s =>
      cases s with
      | none => simp only [hs] at e; cases e
      | some k =>
        simp only [hs] at e; cases e
        obtain ⟨b, h1, ⟨c, h2⟩, h3⟩ := hd
        exact ⟨b, (selPl_at hs).trans h1, sel_st ok hs h2, h3⟩
  | ep id i off tot =>
    unfold unB at e
    cases hs : sel[id]? with
    | none => simp only [hs] at e; cases e
    | some s =>
      cases s with
      | none => simp only [hs] at e; cases e
      | some k =>
        simp only [hs] at e; cases e
        have hlt : id < L'.length := by rw [← ok.len]; exact (List.getElem?_eq_some_iff.1 hs).1
        obtain ⟨k1, k2, k3⟩ := hd
        refine ⟨hlt, k2, fun o' rows e1 e2 => ?_⟩
        obtain ⟨o, rows', g1, g2, g3⟩ := sel_list ok hs e1 e2
        rw [selPl_at hs]
        obtain ⟨m1, m2⟩ := k3 o rows' g1 g2
        have hl := rowsW_len g3
        refine ⟨by rw [hl]; exact m1, fun hq => ?_⟩
        obtain ⟨m3, m4⟩ := m2 (by rw [← hl]; exact hq)
        exact ⟨m3, fun z hz => m4 z (rowsW_all g3 hz)⟩
  | ref id lo n tot =>
    unfold unB at e
    cases hs : sel[id]? with
    | none => simp only [hs] at e; cases e
    | some s =>
      have hlt : id < L'.length := by rw [← ok.len]; exact (List.getElem?_eq_some_iff.1 hs).1
      cases s with
      | none =>
        simp only [hs] at e
        split at e
        · rename_i hc
          obtain ⟨rfl, rfl, rfl⟩ := hc
          cases e
          have : v = .slice none 0 0 := PR.scal (P := P) (S := Free W0 γ L h) (h := h) hd
          subst this
          refine ⟨hlt, rfl, fun o' rows e1 e2 => ?_⟩
          have := ok.fresh id o' hs e1
          subst this
          cases e2
          exact ⟨Nat.le_refl _, fun _ => ⟨by omega, fun z _ => .inl ⟨rfl, rfl, selPl_no hs⟩⟩⟩
        · cases e
      | some k =>
        simp only [hs] at e; cases e
        obtain ⟨k1, k2, k3⟩ := hd
        refine ⟨hlt, k2, fun o' rows e1 e2 => ?_⟩
        obtain ⟨o, rows', g1, g2, g3⟩ := sel_list ok hs e1 e2
        unfold RefV
        rw [selPl_at hs]
        obtain ⟨m1, m2⟩ := k3 o rows' g1 g2
        have hl := rowsW_len g3
        refine ⟨by rw [hl]; exact m1, fun hq => ?_⟩
        obtain ⟨m3, m4⟩ := m2 (by rw [← hl]; exact hq)
        exact ⟨m3, fun z hz => m4 z (rowsW_all g3 hz)⟩
  | fn => cases e
  | agg => cases e
  | tup => cases e
theorem sel_dbs (H : Hp P h0 W0 γ L h) (ok : SelOk L sel L') : ∀ {ds' ds : List DV} {vs : List Value}, unBs sel ds' = some ds → All2 (DB P (Free W0 γ L h) γ L h) ds vs → All2 (DB P (Free W0 (selPl γ sel) L' h) (selPl γ sel) L' h) ds' vs
  | [], _, _, e, hd => by cases e; cases hd; exact .nil
  | d' :: ds', _, _, e, hd => by
    unfold unBs at e
    cases h1 : unB sel d' with
    | none => simp only [h1] at e; cases e
    | some d =>
      cases h2 : unBs sel ds' with
      | none => simp only [h1, h2] at e; cases e
      | some ds =>
        simp only [h1, h2] at e; cases e
        cases hd with
        | cons a b => exact .cons (sel_db H ok h1 a) (sel_dbs H ok h2 b)
theorem sel_dc (H : Hp P h0 W0 γ L h) (ok : SelOk L sel L') {d' d : DV} {v : Value} (e : unC sel d' = some d) (hd : DC P (Free W0 γ L h) γ L h d v) : DC P (Free W0 (selPl γ sel) L' h) (selPl γ sel) L' h d' v := by
  have key : ∀ d', (∀ f a b, d' ≠ .fn f a b) → unB sel d' = some d → DC P (Free W0 (selPl γ sel) L' h) (selPl γ sel) L' h d' v := by
    intro d' hn e
    have hb : DB P (Free W0 γ L h) γ L h d v := by
      cases d with
      | fn f a b =>
        cases d' <;> (unfold unB at e) <;> (try split at e) <;> (try split at e) <;> (try split at e) <;> cases e
      | p => exact hd
      | ptr => exact hd
      | ep => exact hd
      | dp => exact hd
      | ref => exact hd
      | aref => exact hd
      | agg => exact hd.elim
      | tup => exact hd.elim
    have := sel_db H ok e hb
    cases d' <;> first | exact this | exact absurd rfl (hn _ _ _)
  cases d' with
  | fn f pre cap =>
    unfold unC at e
    cases h1 : unBs sel pre with
    | none => simp only [h1] at e; cases e
    | some p =>
      cases h2 : unBs sel cap with
      | none => simp only [h1, h2] at e; cases e
      | some c =>
        simp only [h1, h2] at e; cases e
        obtain ⟨as, bs, rfl, a1, a2⟩ := hd
        exact ⟨as, bs, rfl, sel_dbs H ok h1 a1, sel_dbs H ok h2 a2⟩
  | _ => exact key _ (by intro f a b e; cases e) e
theorem sel_dcs (H : Hp P h0 W0 γ L h) (ok : SelOk L sel L') : ∀ {ds' ds : List DV} {vs : List Value}, unCs sel ds' = some ds → All2 (DC P (Free W0 γ L h) γ L h) ds vs → All2 (DC P (Free W0 (selPl γ sel) L' h) (selPl γ sel) L' h) ds' vs
  | [], _, _, e, hd => by cases e; cases hd; exact .nil
  | d' :: ds', _, _, e, hd => by
    unfold unCs at e
    cases h1 : unC sel d' with
    | none => simp only [h1] at e; cases e
    | some d =>
      cases h2 : unCs sel ds' with
      | none => simp only [h1, h2] at e; cases e
      | some ds =>
        simp only [h1, h2] at e; cases e
        cases hd with
        | cons a b => exact .cons (sel_dc H ok h1 a) (sel_dcs H ok h2 b)
theorem sel_dx (H : Hp P h0 W0 γ L h) (ok : SelOk L sel L') {d' d : DV} {v : Value} (e : unX sel d' d) (hd : DC P (Free W0 γ L h) γ L h d v) : DC P (Free W0 (selPl γ sel) L' h) (selPl γ sel) L' h d' v := by
  unfold unX at e
  split at e
  · subst e
    have : v = .slice none 0 0 := PR.scal (P := P) (S := Free W0 γ L h) (h := h) hd
    subst this
    exact PR.nil
  · exact sel_dc H ok e hd
theorem sel_dxs (H : Hp P h0 W0 γ L h) (ok : SelOk L sel L') : ∀ {ds' ds : List DV} {vs : List Value}, All2 (unX sel) ds' ds → All2 (DC P (Free W0 γ L h) γ L h) ds vs → All2 (DC P (Free W0 (selPl γ sel) L' h) (selPl γ sel) L' h) ds' vs
  | _, _, _, .nil, .nil => .nil
  | _, _, _, .cons e t, .cons hd t' => .cons (sel_dx H ok e hd) (sel_dxs H ok t t')
theorem Hp.allowed (H : Hp P h0 W0 γ L h) {id b x : Nat} {o : Obj} (hi : L[id]? = some o) (hd : o.owns = true) (hg : γ id = some (b, x)) : W0.start ≤ b ∨ W0.A b := by
  rw [H.start]
  exact (H.new id o b x hi hd hg).imp_right (W0.sub b)
theorem Hp.select (H : Hp P h0 W0 γ L h) (ok : SelOk L sel L') (hpin : ∀ id b, W0.pin id b → sel[id]? = some (some id)) : Hp P h0 W0 (selPl γ sel) L' h := by
  refine ⟨H.start, fun id b e => (let ⟨a, c, b'⟩ := H.pin id b e; ⟨(selPl_at (hpin id b e)).trans a, sel_st ok (hpin id b e) b'⟩), fun i o' hi => ?_, fun i j o1 o2 b x x' e1 e2 d1 d2 g1 g2 => ?_, fun i x e => ?_, fun i o' b x hi hd hg => ?_, H.next, H.frame⟩
  · obtain ⟨s, hs⟩ := ok.at hi
    cases s with
    | none =>
      have := ok.fresh i o' hs hi
      subst this
      exact ⟨rfl, selPl_no hs⟩
    | some k =>
      obtain ⟨o, h1, h2⟩ := ok.old i k o' hs hi
      have ho := H.obj k o h1
      have rr : ∀ {b q te rows}, Rows P (Free W0 γ L h) h b q te rows → Rows P (Free W0 (selPl γ sel) L' h) h b q te rows := by
        rintro b q te rows ⟨cs, z, a1, a2, a3, a4, a5, a6, a7⟩
        exact ⟨cs, z, a1, a2, a3, a4, a5, a6, fun i r j x u b1 b2 b3 => sel_pr ok (a7 i r j x u b1 b2 b3)⟩
      cases o' with
      | dead => trivial
      | st cells =>
        cases o with
        | st cells' =>
          obtain ⟨b, te, vs, g1, g2, g3⟩ := ho
          exact ⟨b, te, vs, (selPl_at hs).trans g1, g2, sel_dxs H ok h2 g3⟩
        | _ => exact h2.elim
      | li te rows =>
        cases o with
        | li te' rows' =>
          obtain ⟨rfl, hw⟩ := h2
          cases te with
          | none => exact ⟨rowsW_nil hw ho.1, (selPl_at hs).trans ho.2⟩
          | some te =>
            obtain ⟨b, q, g1, g2⟩ := ho
            exact ⟨b, q, (selPl_at hs).trans g1, rr (g2.of_w hw)⟩
        | _ => exact h2.elim
      | fz te rows =>
        cases o with
        | fz te' rows' =>
          obtain ⟨rfl, hw⟩ := h2
          cases te with
          | none => exact ⟨rowsW_nil hw ho.1, (selPl_at hs).trans ho.2⟩
          | some te =>
            obtain ⟨b, q, g1, g2, g3⟩ := ho
            exact ⟨b, q, (selPl_at hs).trans g1, sel_free ok g2, rr (g3.of_w hw)⟩
        | li te' rows' =>
          obtain ⟨rfl, hw⟩ := h2
          cases te with
          | none => exact ⟨rowsW_nil hw ho.1, (selPl_at hs).trans ho.2⟩
          | some te =>
            obtain ⟨b, q, g1, g2⟩ := ho
            refine ⟨b, q, (selPl_at hs).trans g1, ⟨?_, H.allowed h1 rfl g1, fun j oj x hj hd hg => ?_⟩, rr (g2.of_w hw)⟩
            · obtain ⟨cs, z, a1, _⟩ := g2
              exact h.wf _ _ a1
            · obtain ⟨kj, ok', f1, f2, f3⟩ := ok.owns hj hd
              rw [selPl_at f1] at hg
              have hkk := H.inj k kj _ ok' b q x h1 f2 rfl f3 g1 hg
              subst hkk
              have hij := ok.inj i j k hs f1
              subst hij
              rw [hi] at hj
              cases hj
              cases hd
        | _ => exact h2.elim
  · obtain ⟨k1, q1, a1, a2, a3⟩ := ok.owns e1 d1
    obtain ⟨k2, q2, b1, b2, b3⟩ := ok.owns e2 d2
    rw [selPl_at a1] at g1
    rw [selPl_at b1] at g2
    have := H.inj k1 k2 q1 q2 b x x' a2 b2 a3 b3 g1 g2
    subst this
    exact ok.inj i j k1 a1 b1
  · unfold selPl at e
    split at e
    · rename_i k hs
      rw [← ok.len]; exact (List.getElem?_eq_some_iff.1 hs).1
    · cases e
  · obtain ⟨k1, q1, a1, a2, a3⟩ := ok.owns hi hd
    rw [selPl_at a1] at hg
    exact H.new k1 q1 b x a2 a3 hg

/-! ### With slices of lists that are dropped -/
/-- The new value and the old one: objects have other numbers; a slice of a list that is dropped tells its contents. -/
def wkC (P : Program) (L : List Obj) (sel : Sel) : DV → DV → Prop
  | .p (.sl z rows), .ref id lo n tot => some id ∉ sel ∧ ∃ rs, rowsOf L id tot = some rs ∧ rows = (rs.drop lo).take n ∧ ∀ te, L[id]?.bind listTy = some te → szT P te = some z
  | d', d => unX sel d' d
def wk1 (P : Program) (L : List Obj) (sel : Sel) : DV → DV → Prop
  | .agg xs, .agg ys => All2 (wkC P L sel) xs ys
  | d', d => wkC P L sel d' d
def wkD (P : Program) (L : List Obj) (sel : Sel) : DV → DV → Prop
  | .tup xs, .tup ys => All2 (wk1 P L sel) xs ys
  | d', d => wk1 P L sel d' d
/-- A list's slice, when nobody writes the list. -/
theorem ref_pr (H : Hp P h0 W0 γ L h) {S : Nat → Prop} {id lo n tot z : Nat} {v : Value} {rs : List (List PV)} (hd : DB P (Free W0 γ L h) γ L h (.ref id lo n tot) v) (hr : rowsOf L id tot = some rs)
    (hz : ∀ te, L[id]?.bind listTy = some te → szT P te = some z) (hS : ∀ b x, γ id = some (b, x) → b < h.next → S b) (hF : ∀ b, Free W0 γ L h b → S b) : ∃ u, VW v u ∧ PR P S h (.sl z ((rs.drop lo).take n)) u := by
  obtain ⟨q, q1, q2, q3⟩ := rowsOf_some hr
  obtain ⟨k1, k2, k3⟩ := hd
  obtain ⟨k4, k5⟩ := k3 q rs q1 q2
  obtain ⟨k6, k7⟩ := k5 q3
  obtain ⟨z0, hz0⟩ := H.width q1 q2
  have hlen : ((rs.drop lo).take n).length = n := by simp; omega
  have hun : unk > maxLen := by decide
  have hno : noapp > maxLen := by decide
  rcases k7 z0 hz0 with ⟨rfl, h1, h2⟩ | ⟨b, o, c, rfl, h1, h2⟩ | ⟨b, o, c, g, rfl, d1, d2, d3⟩
  · have : (rs.drop lo).take n = [] := List.length_eq_zero_iff.1 (by rw [hlen]; omega)
    rw [this]
    exact ⟨_, .refl _, .nil⟩
  · have : (rs.drop lo).take n = [] := List.length_eq_zero_iff.1 (by rw [hlen]; exact h1)
    rw [this]
    exact ⟨_, .empty b o c, .dud⟩
  · obtain ⟨te', cs, z', r1, r2, r3, r4, r5, r6, r7⟩ := H.rows q1 q2 g
    have hte : L[id]?.bind listTy = some te' := by
      rw [q1]
      have ho := H.obj id q q1
      cases q with
      | li tq rs' =>
        cases tq with
        | none => rw [ho.2] at g; cases g
        | some tq =>
          obtain ⟨b', o', g', cs', zz, s1, s2, _⟩ := ho
          rw [g] at g'; cases g'
          rw [r1] at s1; cases s1; rfl
      | fz tq rs' =>
        cases tq with
        | none => rw [ho.2] at g; cases g
        | some tq =>
          obtain ⟨b', o', g', _, cs', zz, s1, s2, _⟩ := ho
          rw [g] at g'; cases g'
          rw [r1] at s1; cases s1; rfl
      | st => exact q2.elim
      | dead => exact q2.elim
    have hzz : z' = z := by have := hz te' hte; rw [r2] at this; cases this; rfl
    subst hzz
    by_cases hn : n = 0
    · subst hn
      rw [List.take_zero]
      exact ⟨_, .empty b (o + lo * z0) c, .dud⟩
    · have hne : 0 < rs.length := by omega
      have hz00 : z0 = z' := by rw [← r6 _ (List.getElem_mem hne), hz0 _ (List.getElem_mem hne)]
      subst hz00
      refine ⟨_, .refl _, ?_⟩
      have hmul : (lo + n) * z0 ≤ rs.length * z0 := Nat.mul_le_mul_right _ (by omega)
      rw [Nat.add_mul] at hmul
      have := PR.sl (P := P) (S := S) (h := h) (rows := (rs.drop lo).take n) (b := b) (o := o + lo * z0) (c := c) (z := z0) (hS b o g (h.wf _ _ r1)) r1 r3 (by rw [hlen]; omega)
        (fun i r e1 => by
          rw [List.getElem?_take] at e1
          split at e1
          · rw [List.getElem?_drop] at e1; exact r6 r (List.mem_of_getElem? e1)
          · cases e1)
        (fun i r j x u e1 e2 e3 => by
          rw [List.getElem?_take] at e1
          split at e1
          · rw [List.getElem?_drop] at e1
            exact (r7 (lo + i) r j x u e1 e2 (by rw [← e3]; congr 1; rw [Nat.add_mul]; omega)).mono fun b hb => ⟨hF b hb, rfl⟩
          · cases e1) (by
            rw [hlen]
            refine .inr ⟨rfl, r2, ?_⟩
            exact d3) (by rw [hlen]; omega)
      rw [hlen] at this
      exact this
theorem wkC_sound (H : Hp P h0 W0 γ L h) (ok : SelOk L sel L') {d' d : DV} {v : Value} (e : wkC P L sel d' d) (hd : DC P (Free W0 γ L h) γ L h d v) : ∃ u, VW v u ∧ DC P (Free W0 (selPl γ sel) L' h) (selPl γ sel) L' h d' u := by
  unfold wkC at e
  split at e
  · rename_i z rows id lo n tot
    obtain ⟨e1, rs, e2, rfl, e3⟩ := e
    refine ref_pr H hd e2 e3 (fun b x hg hlt => ?_) (fun b hb => sel_free ok hb)
    obtain ⟨q, q1, q2, q3⟩ := rowsOf_some e2
    by_cases hq : q.owns = true
    case neg =>
      have ho := H.obj id q q1
      cases q with
      | li te rs' =>
        cases te with
        | none => rw [ho.2] at hg; cases hg
        | some te => exact absurd rfl hq
      | fz te rs' =>
        cases te with
        | none => rw [ho.2] at hg; cases hg
        | some te =>
          obtain ⟨b', o'', g', hS, _⟩ := ho
          rw [hg] at g'; cases g'
          exact sel_free ok hS
      | st => exact q2.elim
      | dead => exact q2.elim
    refine ⟨hlt, H.allowed q1 hq hg, fun i o' y hi hd' hg' => ?_⟩
    obtain ⟨k, o, f1, f2, f3⟩ := ok.owns hi hd'
    rw [selPl_at f1] at hg'
    have := H.inj id k q o b x y q1 f2 hq f3 hg hg'
    subst this
    exact e1 (List.mem_of_getElem? f1)
  · exact ⟨v, .refl v, sel_dx H ok e hd⟩
theorem vw_one {v u : Value} (hw : VW v u) (h1 : v.oneCell' = true) : u.oneCell' = true := by
  cases hw with
  | refl => exact h1
  | empty => rfl
  | agg => simp [Value.oneCell'] at h1
  | tuple => simp [Value.oneCell'] at h1
theorem wkCs_sound (H : Hp P h0 W0 γ L h) (ok : SelOk L sel L') : ∀ {ds' ds : List DV} {vs : List Value}, All2 (wkC P L sel) ds' ds → All2 (DC P (Free W0 γ L h) γ L h) ds vs → ∃ us, All2 VW vs us ∧ All2 (DC P (Free W0 (selPl γ sel) L' h) (selPl γ sel) L' h) ds' us
  | _, _, _, .nil, .nil => ⟨[], .nil, .nil⟩
  | _, _, _, .cons e t, .cons hd t' => by
    obtain ⟨u, a1, a2⟩ := wkC_sound H ok e hd
    obtain ⟨us, b1, b2⟩ := wkCs_sound H ok t t'
    exact ⟨u :: us, .cons a1 b1, .cons a2 b2⟩
theorem wk1_sound (H : Hp P h0 W0 γ L h) (ok : SelOk L sel L') {d' d : DV} {v : Value} (e : wk1 P L sel d' d) (hd : D1 P (Free W0 γ L h) γ L h d v) : ∃ u, VW v u ∧ D1 P (Free W0 (selPl γ sel) L' h) (selPl γ sel) L' h d' u := by
  unfold wk1 at e
  split at e
  · rename_i xs ys
    obtain ⟨vs, rfl, h1⟩ := hd
    obtain ⟨us, a1, a2⟩ := wkCs_sound H ok e h1
    refine ⟨.agg us.toArray, .agg ?_ fun i x y e1 e2 => ?_, us.toArray, rfl, by simpa using a2⟩
    · have := a1.length; simpa using this
    · obtain ⟨u, b1, b2⟩ := a1.get (i := i) (a := x) (by simpa using e1)
      have : us[i]? = some y := by simpa using e2
      rw [this] at b1; cases b1
      exact b2
  · rename_i hne
    have hc : DC P (Free W0 γ L h) γ L h d v := by
      refine dc_of_d1 hd fun ys hy => ?_
      subst hy
      cases d' with
      | agg xs => exact hne xs ys rfl rfl
      | p x => cases x <;> (simp [wkC, unX, unC, unB] at e)
      | _ =>
        simp only [wkC, unX, unC, unB] at e
        repeat' split at e
        all_goals cases e
    obtain ⟨u, a1, a2⟩ := wkC_sound H ok e hc
    exact ⟨u, a1, d1_of_dc a2⟩
theorem wk1s_sound (H : Hp P h0 W0 γ L h) (ok : SelOk L sel L') : ∀ {ds' ds : List DV} {vs : List Value}, All2 (wk1 P L sel) ds' ds → All2 (D1 P (Free W0 γ L h) γ L h) ds vs → ∃ us, All2 VW vs us ∧ All2 (D1 P (Free W0 (selPl γ sel) L' h) (selPl γ sel) L' h) ds' us
  | _, _, _, .nil, .nil => ⟨[], .nil, .nil⟩
  | _, _, _, .cons e t, .cons hd t' => by
    obtain ⟨u, a1, a2⟩ := wk1_sound H ok e hd
    obtain ⟨us, b1, b2⟩ := wk1s_sound H ok t t'
    exact ⟨u :: us, .cons a1 b1, .cons a2 b2⟩
theorem wkD_sound (H : Hp P h0 W0 γ L h) (ok : SelOk L sel L') {d' d : DV} {v : Value} (e : wkD P L sel d' d) (hd : DR P (Free W0 γ L h) γ L h d v) : ∃ u, VW v u ∧ DR P (Free W0 (selPl γ sel) L' h) (selPl γ sel) L' h d' u := by
  unfold wkD at e
  split at e
  · rename_i xs ys
    obtain ⟨vs, rfl, h1⟩ := hd
    obtain ⟨us, a1, a2⟩ := wk1s_sound H ok e h1
    refine ⟨.tuple us.toArray, .tuple ?_ fun i x y e1 e2 => ?_, us.toArray, rfl, by simpa using a2⟩
    · have := a1.length; simpa using this
    · obtain ⟨u, b1, b2⟩ := a1.get (i := i) (a := x) (by simpa using e1)
      have : us[i]? = some y := by simpa using e2
      rw [this] at b1; cases b1
      exact b2
  · rename_i hne
    have hc : D1 P (Free W0 γ L h) γ L h d v := by
      refine d1_of_dr hd ?_
      cases d with
      | tup ys =>
        exfalso
        cases d' with
        | tup xs => exact hne xs ys rfl rfl
        | p x => cases x <;> (simp [wk1, wkC, unX, unC, unB] at e)
        | _ =>
          simp only [wk1, wkC, unX, unC, unB] at e
          repeat' split at e
          all_goals cases e
      | _ => rfl
    obtain ⟨u, a1, a2⟩ := wk1_sound H ok e hc
    exact ⟨u, a1, dr_of_d1 a2⟩
end
end Go.Sim
/- Deep values: functions, calls, loops. -/
namespace Go.Sim
open Go.RowKit

/-! ### Results -/
def dresultV (P : Program) (a : DFrm) (L : List Obj) : ResultVar → Option DV
  | .tmp t => dlook t a.l
  | .cell p t => match dlook p a.l with
    | some d => dloadV P L t d
    | none => none
def dresultsV (P : Program) (a : DFrm) (L : List Obj) : List ResultVar → Option (List DV)
  | [] => some []
  | x :: r => match dresultV P a L x, dresultsV P a L r with
    | some v, some vs => some (v :: vs)
    | _, _ => none
def packD : List DV → Option DV
  | [d] => some d
  | ds => if ds.all is1 then some (.tup ds) else none
def dbodyQ (P : Program) (rs : List ResultVar) (Q : DV → List Obj → Prop) : DQ
  | .normal, a, L => withD (dresultsV P a L rs) fun ds => withD (packD ds) fun d => Q d L
  | .ret, a, L => withD (dresultsV P a L rs) fun ds => withD (packD ds) fun d => Q d L
  | _, _, _ => False
/-- What a function leaves: objects taken anew, as many as there were at their places. -/
def retQ (P : Program) (c : Nat) (Q : DV → List Obj → Prop) (r : DV) (L : List Obj) : Prop :=
  ∃ sel r' A', SelOk L sel A' ∧ (∀ id, id < c → sel[id]? = some (some id)) ∧ wkD P L sel r' r ∧ Q r' A'
def dargSlots : Nat → List DV → List (Nat × DV)
  | _, [] => []
  | k, v :: vs => (k, v) :: dargSlots (k + 1) vs
/-- A function, by what it makes of such arguments and objects. -/
def DCalls (P : Program) (f : FuncId) (ds : List DV) (A : List Obj) (Q : DV → List Obj → Prop) : Prop :=
  ∀ (W0 : Ent) γ h vs, W0.cnt ≤ A.length → Hp P h W0 γ A h → All2 (DR P (Free W0 γ A h) γ A h) ds vs →
    ACalls P f vs h (fun v h' => ∃ γ' r A', Q r A' ∧ Hp P h W0 γ' A' h' ∧ DR P (Free W0 γ' A' h') γ' A' h' r v)
section
variable {P : Program} {W0 : Ent} {γ : Pl} {L : List Obj} {h : Heap} {h0 : Heap} {a : DFrm} {fa : Frm}
theorem dresult_sound (H : Hp P h0 W0 γ L h) (hf : FR P W0 γ L h a fa) {x : ResultVar} {d : DV} (e : dresultV P a L x = some d) : ∃ v, resultV P fa h x = some v ∧ (DR P (Free W0 γ L h) γ L h) d v := by
  cases x with
  | tmp t => exact hf.slots t d e
  | cell p t =>
    unfold dresultV at e
    cases hq : dlook p a.l with
    | none => simp only [hq] at e; cases e
    | some q =>
      simp only [hq] at e
      obtain ⟨v, e1, r1⟩ := hf.slots p q hq
      obtain ⟨u, e2, r2⟩ := dload_sound H r1 e
      exact ⟨u, by simp only [resultV, e1]; exact e2, r2⟩
theorem dresults_sound (H : Hp P h0 W0 γ L h) (hf : FR P W0 γ L h a fa) : ∀ {rs : List ResultVar} {ds : List DV}, dresultsV P a L rs = some ds → ∃ vs, resultsV P fa h rs = some vs ∧ All2 (DR P (Free W0 γ L h) γ L h) ds vs
  | [], ds, e => by cases e; exact ⟨[], rfl, .nil⟩
  | x :: rs, ds, e => by
    unfold dresultsV at e
    cases h1 : dresultV P a L x with
    | none => rw [h1] at e; cases e
    | some d =>
      cases h2 : dresultsV P a L rs with
      | none => rw [h1, h2] at e; cases e
      | some ds' =>
        rw [h1, h2] at e; cases e
        obtain ⟨v, e1, r1⟩ := dresult_sound H hf h1
        obtain ⟨vs, e2, r2⟩ := dresults_sound H hf h2
        exact ⟨v :: vs, by simp only [resultsV, e1, e2], .cons r1 r2⟩
theorem d1_all2 {S : Nat → Prop} : ∀ {ds : List DV} {vs : List Value}, ds.all is1 = true → All2 (DR P S γ L h) ds vs → All2 (D1 P S γ L h) ds vs
  | [], _, _, .nil => .nil
  | d :: ds, _, hb, .cons hd t => by
    simp only [List.all_cons, Bool.and_eq_true] at hb
    exact .cons (d1_of_dr hd hb.1) (d1_all2 hb.2 t)
theorem pack_sound {ds : List DV} {vs : List Value} {d : DV} (hr : All2 (DR P (Free W0 γ L h) γ L h) ds vs) (e : packD ds = some d) : (DR P (Free W0 γ L h) γ L h) d (packV vs) := by
  cases hr with
  | nil =>
    simp [packD] at e
    subst e
    exact ⟨#[], rfl, .nil⟩
  | cons hd t =>
    cases t with
    | nil => simp only [packD] at e; cases e; exact hd
    | cons hd2 t2 =>
      simp only [packD] at e
      split at e
      · rename_i hb
        cases e
        exact ⟨_, rfl, by simpa using d1_all2 hb (.cons hd (.cons hd2 t2))⟩
      · cases e
theorem dargs_sound : ∀ {ds : List DV} {vs : List Value} (k : Nat), All2 (DR P (Free W0 γ L h) γ L h) ds vs → ∀ t d, dlook t (dargSlots k ds) = some d → ∃ v, look t (argSlots k vs) = some v ∧ (DR P (Free W0 γ L h) γ L h) d v
  | [], _, k, .nil, t, d, e => by cases e
  | d0 :: ds, v0 :: vs, k, .cons hd tl, t, d, e => by
    simp only [dargSlots, dlook] at e
    simp only [argSlots, look]
    split at e
    · rename_i hk; cases e; rw [if_pos hk]; exact ⟨v0, rfl, hd⟩
    · rename_i hk; rw [if_neg hk]; exact dargs_sound (k + 1) tl t d e
theorem dcalls_x {f : FuncId} {fn : Func} {x : X} {n : Nat} {rs : List ResultVar} {ds : List DV} {A : List Obj} {Q : DV → List Obj → Prop} (hf : P.funcs[f]? = some fn) (hx : xOf P (bodyOf fn) .nil = x)
    (hk : (fn.body.isSome && (fn.ntmps == n) && !(fn.name == "runtime.NumGoroutine")) = true) (hrs : fn.results.toList = rs) (hl : ds.length ≤ n) (hb : dxHold P x (dbodyQ P rs (retQ P A.length Q)) ⟨n, A.length, dargSlots 0 ds⟩ A) : DCalls P f ds A Q := by
  intro W0 γ h vs hcnt H hr
  let W1 : Ent := { W0 with cnt := A.length, few := fun id b e => Nat.lt_of_lt_of_le (W0.few id b e) hcnt }
  have H1 : Hp P h W1 γ A h := ⟨H.start, H.pin, H.obj, H.inj, H.dom, H.new, H.next, H.frame⟩
  simp only [Bool.and_eq_true, beq_iff_eq, Bool.not_eq_true'] at hk
  obtain ⟨⟨h1, h2⟩, h3⟩ := hk
  cases hbd : fn.body with
  | none => rw [hbd] at h1; cases h1
  | some c =>
    have : bodyOf fn = c := by simp [bodyOf, hbd]
    rw [this] at hx
    subst hx
    refine ACalls.vw (Q := fun v h' => ∃ γ' r L', retQ P A.length Q r L' ∧ Hp P h W1 γ' L' h' ∧ DR P (Free W1 γ' L' h') γ' L' h' r v) (acalls_intro hf hbd h2 hrs h3 (by rw [← hr.length]; exact hl) (xOf_nil ?_)) ?_
    · obtain ⟨l', hls, hb⟩ := hb
      refine dxWp_sound (h0 := h) (W0 := W1) _ ?_ H1 (γ := γ) (L := A) (a := ⟨n, A.length, l'⟩) ⟨rfl, rfl, fun t d e => dargs_sound 0 hr t d (hls t d e)⟩ hb
      rintro e fa h' ⟨a, L', γ', hq, H', hf'⟩
      have fin : withD (dresultsV P a L' rs) (fun ds => withD (packD ds) fun d => retQ P A.length Q d L') → ∃ vs, resultsV P fa h' rs = some vs ∧ ∃ γ' r L', retQ P A.length Q r L' ∧ Hp P h W1 γ' L' h' ∧ DR P (Free W1 γ' L' h') γ' L' h' r (packV vs) := by
        intro hq
        obtain ⟨ds', e1, hq⟩ := withD_elim hq
        obtain ⟨d, e2, hq⟩ := withD_elim hq
        obtain ⟨vs', e3, r3⟩ := dresults_sound H' hf' e1
        exact ⟨vs', e3, γ', d, L', hq, H', pack_sound r3 e2⟩
      cases e with
      | normal => exact fin hq
      | ret => exact fin hq
      | _ => exact hq.elim
    · rintro v h' ⟨γ', r, L', ⟨sel, r', A', ok, hp, hw, hq⟩, H', hd⟩
      have hpin : ∀ id b, W1.pin id b → sel[id]? = some (some id) := fun id b e => hp id (W1.few id b e)
      obtain ⟨u, hu, hd'⟩ := wkD_sound H' ok hw hd
      have H2 := H'.select ok hpin
      exact ⟨u, hu, _, r', A', hq, ⟨H2.start, H2.pin, H2.obj, H2.inj, H2.dom, H2.new, H2.next, H2.frame⟩, hd'⟩

/-! ### Calls of functions that are given no objects -/
theorem Hp.grow {h' : Heap} (H : Hp P h0 W0 γ L h) (hn : h.next ≤ h'.next) (hg : ∀ b, b < h.next → h'.get b = h.get b) : Hp P h0 W0 γ L h' ∧ Carry W0 γ L h γ L h' := by
  have c : Carry W0 γ L h γ L h' := ⟨fun b hb => ⟨⟨Nat.lt_of_lt_of_le hb.1 hn, hb.2⟩, hg b hb.1⟩, Nat.le_refl _, fun _ _ e hc => ⟨e, hc⟩, fun id o' rows' _ e hl => ⟨o', rows', e, hl, Nat.le_refl _, fun _ => ⟨rfl, fun _ hz => hz⟩⟩⟩
  have hlt : ∀ id o b x, L[id]? = some o → o.owns = true → γ id = some (b, x) → b < h.next := fun id o b x e e2 e3 => (OR.lt (fun b hb => hb.1) (H.obj id o e) e3 e2).1
  exact ⟨⟨H.start, H.pin, fun id o e => H.others c e rfl fun b x g d => hg b (hlt id o b x e d g), H.inj, H.dom, H.new, Nat.le_trans H.next hn, fun b hb hw => (hg b (Nat.lt_of_lt_of_le hb H.next)).trans (H.frame b hb hw)⟩, c⟩
theorem db_free {S S' : Nat → Prop} {γ' : Pl} {h' : Heap} {d : DV} {v : Value} (hs : ∀ b, S b → S' b) (hd : DB P S γ' [] h' d v) : DB P S' γ L h' d v := by
  cases d with
  | p x => exact PR.mono (fun b hb => ⟨hs b hb, rfl⟩) hd
  | dp row off =>
    obtain ⟨b, o, cs, te, rw, h1, h2, h3, h4, h5⟩ := hd
    exact ⟨b, o, cs, te, rw, hs b h1, h2, h3, h4, fun j x u e1 e2 => (h5 j x u e1 e2).mono fun b hb => ⟨hs b hb, rfl⟩⟩
  | ptr => obtain ⟨_, _, ⟨c, hc⟩, _⟩ := hd; simp at hc
  | aref => obtain ⟨_, _, ⟨c, hc⟩, _⟩ := hd; simp at hc
  | ep => obtain ⟨h1, _⟩ := hd; simp at h1
  | ref => obtain ⟨h1, _⟩ := hd; simp at h1
  | _ => exact hd.elim
theorem dc_free {S S' : Nat → Prop} {γ' : Pl} {h' : Heap} {d : DV} {v : Value} (hs : ∀ b, S b → S' b) (hd : DC P S γ' [] h' d v) : DC P S' γ L h' d v := by
  cases d with
  | fn f a b =>
    obtain ⟨as, bs, rfl, h1, h2⟩ := hd
    exact ⟨as, bs, rfl, h1.mono fun _ _ => db_free hs, h2.mono fun _ _ => db_free hs⟩
  | p x => exact db_free (P := P) (S := S) (S' := S') (γ' := γ') (h' := h') (γ := γ) (L := L) (d := .p x) hs hd
  | ptr x y => exact db_free (P := P) (S := S) (S' := S') (γ' := γ') (h' := h') (γ := γ) (L := L) (d := .ptr x y) hs hd
  | aref x y z => exact db_free (P := P) (S := S) (S' := S') (γ' := γ') (h' := h') (γ := γ) (L := L) (d := .aref x y z) hs hd
  | ep x y z w => exact db_free (P := P) (S := S) (S' := S') (γ' := γ') (h' := h') (γ := γ) (L := L) (d := .ep x y z w) hs hd
  | ref x y z w => exact db_free (P := P) (S := S) (S' := S') (γ' := γ') (h' := h') (γ := γ) (L := L) (d := .ref x y z w) hs hd
  | dp x y => exact db_free (P := P) (S := S) (S' := S') (γ' := γ') (h' := h') (γ := γ) (L := L) (d := .dp x y) hs hd
  | _ => exact hd.elim
theorem d1_free {S S' : Nat → Prop} {γ' : Pl} {h' : Heap} {d : DV} {v : Value} (hs : ∀ b, S b → S' b) (hd : D1 P S γ' [] h' d v) : D1 P S' γ L h' d v := by
  cases d with
  | agg xs => obtain ⟨vs, rfl, h1⟩ := hd; exact ⟨vs, rfl, h1.mono fun _ _ => dc_free hs⟩
  | tup => exact hd.elim
  | fn x y z => exact dc_free (P := P) (S := S) (S' := S') (γ' := γ') (h' := h') (γ := γ) (L := L) (d := .fn x y z) hs hd
  | p x => exact dc_free (P := P) (S := S) (S' := S') (γ' := γ') (h' := h') (γ := γ) (L := L) (d := .p x) hs hd
  | ptr x y => exact dc_free (P := P) (S := S) (S' := S') (γ' := γ') (h' := h') (γ := γ) (L := L) (d := .ptr x y) hs hd
  | aref x y z => exact dc_free (P := P) (S := S) (S' := S') (γ' := γ') (h' := h') (γ := γ) (L := L) (d := .aref x y z) hs hd
  | ep x y z w => exact dc_free (P := P) (S := S) (S' := S') (γ' := γ') (h' := h') (γ := γ) (L := L) (d := .ep x y z w) hs hd
  | ref x y z w => exact dc_free (P := P) (S := S) (S' := S') (γ' := γ') (h' := h') (γ := γ) (L := L) (d := .ref x y z w) hs hd
  | dp x y => exact dc_free (P := P) (S := S) (S' := S') (γ' := γ') (h' := h') (γ := γ) (L := L) (d := .dp x y) hs hd
theorem dr_free {S S' : Nat → Prop} {γ' : Pl} {h' : Heap} {d : DV} {v : Value} (hs : ∀ b, S b → S' b) (hd : DR P S γ' [] h' d v) : DR P S' γ L h' d v := by
  cases d with
  | tup xs => obtain ⟨vs, rfl, h1⟩ := hd; exact ⟨vs, rfl, h1.mono fun _ _ => d1_free hs⟩
  | agg xs => exact d1_free (P := P) (S := S) (S' := S') (γ' := γ') (h' := h') (γ := γ) (L := L) (d := .agg xs) hs hd
  | fn x y z => exact d1_free (P := P) (S := S) (S' := S') (γ' := γ') (h' := h') (γ := γ) (L := L) (d := .fn x y z) hs hd
  | p x => exact d1_free (P := P) (S := S) (S' := S') (γ' := γ') (h' := h') (γ := γ) (L := L) (d := .p x) hs hd
  | ptr x y => exact d1_free (P := P) (S := S) (S' := S') (γ' := γ') (h' := h') (γ := γ) (L := L) (d := .ptr x y) hs hd
  | aref x y z => exact d1_free (P := P) (S := S) (S' := S') (γ' := γ') (h' := h') (γ := γ) (L := L) (d := .aref x y z) hs hd
  | ep x y z w => exact d1_free (P := P) (S := S) (S' := S') (γ' := γ') (h' := h') (γ := γ) (L := L) (d := .ep x y z w) hs hd
  | ref x y z w => exact d1_free (P := P) (S := S) (S' := S') (γ' := γ') (h' := h') (γ := γ) (L := L) (d := .ref x y z w) hs hd
  | dp x y => exact d1_free (P := P) (S := S) (S' := S') (γ' := γ') (h' := h') (γ := γ) (L := L) (d := .dp x y) hs hd
/-- A list is given up: it may be read, but no longer written. -/
theorem dcall_freeze {f : FuncId} {ds : List DV} {K : DV → List Obj → Prop} {id : Nat} {e : Option TypeId} {rows : List (List PV)} (hi : L[id]? = some (.li e rows)) (hc : DCallW P f ds (L.set id (.fz e rows)) K) : DCallW P f ds L K := by
  intro h0 W0 γ h vs H hr
  have hget : ∀ b', b' < h.next → (∀ x, γ id ≠ some (b', x)) → h.get b' = h.get b' := fun _ _ _ => rfl
  have hd : (Obj.li e rows).owns = true ∨ γ id = none := by
    cases e with
    | none => exact .inr (H.obj id _ hi).2
    | some _ => exact .inl rfl
  have c := carry_write (W0 := W0) (h := h) (γ := γ) (γ' := γ) (h' := h) (o' := .fz e rows) hi hd (fun _ _ => rfl) (fun c e => (by cases e)) (fun r' hl' => ⟨rows, rfl, by cases hl'; exact Nat.le_refl _, fun _ => ⟨rfl, fun z hz => by cases hl'; exact hz⟩⟩) (Nat.le_refl _) (fun b x e d => by cases d) hget
  have H' : Hp P h0 W0 γ (L.set id (.fz e rows)) h := by
    refine H.write hi hd c (fun _ _ => rfl) (Nat.le_refl _) (fun b x e => .inl ⟨x, e⟩) (fun x e => H.dom _ _ e) hget ?_
    have ho := H.obj id _ hi
    cases e with
    | none => exact ho
    | some te =>
      obtain ⟨b, q, g1, g2⟩ := ho
      refine ⟨b, q, g1, ⟨?_, H.allowed hi rfl g1, fun j oj x hj hdj hg => ?_⟩, c.rows rfl g2⟩
      · obtain ⟨cs, z, a1, _⟩ := g2
        exact h.wf _ _ a1
      · rcases getElem?_set' hj with ⟨hne, hj⟩ | ⟨rfl, _, rfl⟩
        · exact hne (H.inj j id oj _ b x q hj hi hdj rfl hg g1)
        · cases hdj
  refine (hc h0 W0 γ h vs H' (hr.mono fun _ _ => c.dr)).mono ?_
  rintro v h' ⟨γ', d, L', hK, H2, c2, hd2⟩
  refine ⟨γ', d, L', hK, H2, ?_, hd2⟩
  exact ⟨fun b hb => ⟨(c2.free b (c.free b hb).1).1, (c2.free b (c.free b hb).1).2.trans (c.free b hb).2⟩, Nat.le_trans c.len c2.len, fun i b e hs => by
      obtain ⟨a1, a2⟩ := c.st i b e hs
      exact c2.st i b a1 a2, fun i o' rows' hi' e' hl' => by
      obtain ⟨o1, r1, b1, b2, b3, b4⟩ := c2.li i o' rows' (by rw [List.length_set]; exact hi') e' hl'
      obtain ⟨o2, r2, c1, c2', c3, c4⟩ := c.li i o1 r1 hi' b1 b2
      refine ⟨o2, r2, c1, c2', Nat.le_trans c3 b3, fun e5 => ?_⟩
      obtain ⟨d1, d2⟩ := b4 (by omega)
      obtain ⟨d3, d4⟩ := c4 (by omega)
      exact ⟨d1.trans d3, fun z hz => d4 z (d2 z hz)⟩⟩
/-- An argument as the function sees it. -/
def argC (P : Program) (L : List Obj) (any : Bool) : DV → DV → Prop
  | .p (.sl z rows), .ref id lo n tot => (any = true ∨ ∃ e rs, L[id]? = some (.fz e rs)) ∧ ∃ rs, rowsOf L id tot = some rs ∧ rows = (rs.drop lo).take n ∧ ∀ te, L[id]?.bind listTy = some te → szT P te = some z
  | .p (.sl _ rows), .p (.v (.slice none 0 0)) => rows = []
  | d', d => unC [] d' = some d
def arg1 (P : Program) (L : List Obj) (any : Bool) : DV → DV → Prop
  | .agg xs, .agg ys => All2 (argC P L any) xs ys
  | d', d => argC P L any d' d
end
end Go.Sim
/- Deep values: calls of pure functions; loops. -/
namespace Go.Sim
open Go.RowKit
section
variable {P : Program} {W0 : Ent} {γ : Pl} {L : List Obj} {h : Heap} {h0 : Heap} {a : DFrm} {fa : Frm}

def noPl : Pl := fun _ => none
theorem hp_none (W : Ent) (h : Heap) (h1 : W.start = h.next) (h2 : ∀ id b, ¬ W.pin id b) : Hp P h W noPl [] h :=
  ⟨h1, fun id b e => absurd e (h2 id b), fun id o e => by simp at e, fun id id' o o' b x x' e => by simp at e, fun id x e => (by cases e), fun id o b x e => by simp at e, Nat.le_refl _, fun _ _ _ => rfl⟩
theorem unB_nil_sound {S S' : Nat → Prop} {γ' : Pl} {L' : List Obj} {d d' : DV} {v : Value} (hs : ∀ b, S b → S' b) (e : unB [] d' = some d) (hd : DB P S γ L h d v) : DB P S' γ' L' h d' v := by
  cases d' with
  | p x => cases e; exact PR.mono (fun b hb => ⟨hs b hb, rfl⟩) hd
  | dp row off =>
    cases e
    obtain ⟨b, o, cs, te, rw, h1, h2, h3, h4, h5⟩ := hd
    exact ⟨b, o, cs, te, rw, hs b h1, h2, h3, h4, fun j x u e1 e2 => (h5 j x u e1 e2).mono fun b hb => ⟨hs b hb, rfl⟩⟩
  | _ => cases e
theorem unBs_nil_sound {S S' : Nat → Prop} {γ' : Pl} {L' : List Obj} (hs : ∀ b, S b → S' b) : ∀ {ds' ds : List DV} {vs : List Value}, unBs [] ds' = some ds → All2 (DB P S γ L h) ds vs → All2 (DB P S' γ' L' h) ds' vs
  | [], _, _, e, hd => by cases e; cases hd; exact .nil
  | d' :: ds', _, _, e, hd => by
    unfold unBs at e
    cases h1 : unB [] d' with
    | none => simp only [h1] at e; cases e
    | some d =>
      cases h2 : unBs [] ds' with
      | none => simp only [h1, h2] at e; cases e
      | some ds =>
        simp only [h1, h2] at e; cases e
        cases hd with
        | cons a b => exact .cons (unB_nil_sound hs h1 a) (unBs_nil_sound hs h2 b)
theorem unC_nil_sound {S S' : Nat → Prop} {γ' : Pl} {L' : List Obj} {d d' : DV} {v : Value} (hs : ∀ b, S b → S' b) (e : unC [] d' = some d) (hd : DC P S γ L h d v) : DC P S' γ' L' h d' v := by
  cases d' with
  | p x => cases e; exact unB_nil_sound (P := P) (γ := γ) (L := L) (γ' := γ') (L' := L') (d := .p x) (d' := .p x) hs rfl hd
  | dp row off => cases e; exact unB_nil_sound (P := P) (γ := γ) (L := L) (γ' := γ') (L' := L') (d := .dp row off) (d' := .dp row off) hs rfl hd
  | fn f pre cap =>
    unfold unC at e
    cases h1 : unBs [] pre with
    | none => simp only [h1] at e; cases e
    | some p =>
      cases h2 : unBs [] cap with
      | none => simp only [h1, h2] at e; cases e
      | some c =>
        simp only [h1, h2] at e; cases e
        obtain ⟨as, bs, rfl, a1, a2⟩ := hd
        exact ⟨as, bs, rfl, unBs_nil_sound hs h1 a1, unBs_nil_sound hs h2 a2⟩
  | _ => cases e
theorem argC_sound {S' : Nat → Prop} {any : Bool} (H : Hp P h0 W0 γ L h) (hs : ∀ b, Free W0 γ L h b → S' b) (ha : any = true → ∀ b, b < h.next → S' b) {d d' : DV} {v : Value} (e : argC P L any d' d) (hd : DC P (Free W0 γ L h) γ L h d v) : ∃ u, VW v u ∧ DC P S' noPl [] h d' u := by
  unfold argC at e
  split at e
  · rename_i z rows id lo n tot
    obtain ⟨e1, rs, e2, rfl, e3⟩ := e
    refine ref_pr H hd e2 e3 (fun b x hg hlt => ?_) hs
    rcases e1 with e1 | ⟨te, rs', e1⟩
    · exact ha e1 b hlt
    · have ho := H.obj id _ e1
      cases te with
      | none => rw [ho.2] at hg; cases hg
      | some te =>
        obtain ⟨b', o', g', hS, _⟩ := ho
        rw [hg] at g'; cases g'
        exact hs b hS
  · subst e
    have : v = .slice none 0 0 := PR.scal (P := P) (S := Free W0 γ L h) (h := h) hd
    subst this
    exact ⟨_, .refl _, PR.nil⟩
  · exact ⟨v, .refl v, unC_nil_sound hs e hd⟩
theorem argCs_sound {S' : Nat → Prop} {any : Bool} (H : Hp P h0 W0 γ L h) (hs : ∀ b, Free W0 γ L h b → S' b) (ha : any = true → ∀ b, b < h.next → S' b) : ∀ {ds' ds : List DV} {vs : List Value}, All2 (argC P L any) ds' ds → All2 (DC P (Free W0 γ L h) γ L h) ds vs → ∃ us, All2 VW vs us ∧ All2 (DC P S' noPl [] h) ds' us
  | _, _, _, .nil, .nil => ⟨[], .nil, .nil⟩
  | _, _, _, .cons e t, .cons hd t' => by
    obtain ⟨u, a1, a2⟩ := argC_sound H hs ha e hd
    obtain ⟨us, b1, b2⟩ := argCs_sound H hs ha t t'
    exact ⟨u :: us, .cons a1 b1, .cons a2 b2⟩
theorem unC_not {d d' : DV} (e : unC [] d' = some d) : (∀ xs, d ≠ .agg xs) ∧ (∀ xs, d ≠ .tup xs) := by
  cases d' <;> (simp only [unC, unB] at e) <;> (try (repeat' split at e)) <;> cases e <;> exact ⟨fun _ h => (by cases h), fun _ h => (by cases h)⟩
theorem arg1_sound {S' : Nat → Prop} {any : Bool} (H : Hp P h0 W0 γ L h) (hs : ∀ b, Free W0 γ L h b → S' b) (ha : any = true → ∀ b, b < h.next → S' b) {d d' : DV} {v : Value} (e : arg1 P L any d' d) (hd : DR P (Free W0 γ L h) γ L h d v) : ∃ u, VW v u ∧ DR P S' noPl [] h d' u := by
  unfold arg1 at e
  split at e
  · rename_i xs ys
    obtain ⟨vs, rfl, h1⟩ := hd
    obtain ⟨us, a1, a2⟩ := argCs_sound H hs ha e h1
    refine ⟨.agg us.toArray, .agg ?_ fun i x y e1 e2 => ?_, us.toArray, rfl, by simpa using a2⟩
    · have := a1.length; simpa using this
    · obtain ⟨u, b1, b2⟩ := a1.get (i := i) (a := x) (by simpa using e1)
      have : us[i]? = some y := by simpa using e2
      rw [this] at b1; cases b1
      exact b2
  · have hn : (∀ xs, d ≠ .agg xs) ∧ (∀ xs, d ≠ .tup xs) := by
      unfold argC at e
      split at e
      · exact ⟨fun _ h => (by cases h), fun _ h => (by cases h)⟩
      · exact ⟨fun _ h => (by cases h), fun _ h => (by cases h)⟩
      · exact unC_not e
    have h1 : D1 P (Free W0 γ L h) γ L h d v := by
      cases d <;> first | exact hd | exact absurd rfl (hn.2 _)
    obtain ⟨u, a1, a2⟩ := argC_sound H hs ha e (dc_of_d1 h1 hn.1)
    exact ⟨u, a1, dr_of_d1 (d1_of_dc a2)⟩
theorem args_sound {S' : Nat → Prop} {any : Bool} (H : Hp P h0 W0 γ L h) (hs : ∀ b, Free W0 γ L h b → S' b) (ha : any = true → ∀ b, b < h.next → S' b) : ∀ {ds' ds : List DV} {vs : List Value}, All2 (arg1 P L any) ds' ds → All2 (DR P (Free W0 γ L h) γ L h) ds vs → ∃ us, All2 VW vs us ∧ All2 (DR P S' noPl [] h) ds' us
  | _, _, _, .nil, .nil => ⟨[], .nil, .nil⟩
  | _, _, _, .cons e t, .cons hd t' => by
    obtain ⟨u, a1, a2⟩ := arg1_sound H hs ha e hd
    obtain ⟨us, b1, b2⟩ := args_sound H hs ha t t'
    exact ⟨u :: us, .cons a1 b1, .cons a2 b2⟩
/-- Scalars, and structures and tuples of them. -/
def scalC : DV → Bool
  | .p (.v _) => true
  | _ => false
def scal1 : DV → Bool
  | .agg xs => xs.all scalC
  | d => scalC d
def scalD : DV → Bool
  | .tup xs => xs.all scal1
  | d => scal1 d
theorem scalC_free {S S' : Nat → Prop} {γ γ' : Pl} {L L' : List Obj} {h h' : Heap} {d : DV} {v : Value} (hs : scalC d = true) (hd : DC P S γ L h d v) : DC P S' γ' L' h' d v := by
  unfold scalC at hs
  split at hs
  · rename_i x
    cases (show PR P S h (.v x) v from hd) with
    | v hx => exact PR.v hx
  · cases hs
theorem scalCs_free {S S' : Nat → Prop} {γ γ' : Pl} {L L' : List Obj} {h h' : Heap} : ∀ {ds : List DV} {vs : List Value}, ds.all scalC = true → All2 (DC P S γ L h) ds vs → All2 (DC P S' γ' L' h') ds vs
  | [], _, _, .nil => .nil
  | d :: ds, _, hb, .cons hd t => by
    simp only [List.all_cons, Bool.and_eq_true] at hb
    exact .cons (scalC_free hb.1 hd) (scalCs_free hb.2 t)
theorem scal1_free {S S' : Nat → Prop} {γ γ' : Pl} {L L' : List Obj} {h h' : Heap} {d : DV} {v : Value} (hs : scal1 d = true) (hd : D1 P S γ L h d v) : D1 P S' γ' L' h' d v := by
  unfold scal1 at hs
  split at hs
  · obtain ⟨vs, rfl, h1⟩ := hd; exact ⟨vs, rfl, scalCs_free hs h1⟩
  · rename_i hn
    exact d1_of_dc (scalC_free hs (dc_of_d1 hd fun xs e => hn xs e))
theorem scal1s_free {S S' : Nat → Prop} {γ γ' : Pl} {L L' : List Obj} {h h' : Heap} : ∀ {ds : List DV} {vs : List Value}, ds.all scal1 = true → All2 (D1 P S γ L h) ds vs → All2 (D1 P S' γ' L' h') ds vs
  | [], _, _, .nil => .nil
  | d :: ds, _, hb, .cons hd t => by
    simp only [List.all_cons, Bool.and_eq_true] at hb
    exact .cons (scal1_free hb.1 hd) (scal1s_free hb.2 t)
theorem scal_free {S S' : Nat → Prop} {γ γ' : Pl} {L L' : List Obj} {h h' : Heap} {d : DV} {v : Value} (hs : scalD d = true) (hd : DR P S γ L h d v) : DR P S' γ' L' h' d v := by
  unfold scalD at hs
  split at hs
  · obtain ⟨vs, rfl, h1⟩ := hd; exact ⟨vs, rfl, scal1s_free hs h1⟩
  · rename_i hn
    refine dr_of_d1 (scal1_free hs (d1_of_dr hd ?_))
    cases d <;> first | rfl | exact absurd rfl (hn _)
/-- A call of a function that is given no objects: any lists of one's own among the arguments have been given up. -/
theorem dcall_pure {f : FuncId} {ds ds' : List DV} {K : DV → List Obj → Prop} {Q : DV → List Obj → Prop} (hc : DCalls P f ds' [] Q) (ha : All2 (arg1 P L false) ds' ds) (hq : ∀ r A', Q r A' → A' = [] ∧ K r L) : DCallW P f ds L K := by
  intro h0 W0 γ h vs H hr
  let W1 : Ent := { start := h.next, W := fun _ => False, A := Free W0 γ L h, pin := fun _ _ => False, cnt := 0, few := fun _ _ e => e.elim, sub := fun _ e => e.elim }
  have hS : ∀ b, Free W0 γ L h b → Free W1 noPl [] h b := fun b hb => ⟨hb.1, .inr hb, fun id o x e => by simp at e⟩
  obtain ⟨us, hw, hu⟩ := args_sound (S' := Free W1 noPl [] h) H hS (fun e => by cases e) ha hr
  refine ADoes.of (ACalls.args hw ((hc W1 noPl h us (Nat.le_refl _) (hp_none W1 h rfl fun _ _ e => e) hu).mono ?_))
  rintro v h' ⟨γ', r, A', q, H', hd⟩
  obtain ⟨rfl, hK⟩ := hq r A' q
  have hg : ∀ b, b < h.next → h'.get b = h.get b := fun b hb => H'.frame b hb (fun e => e)
  obtain ⟨H2, c⟩ := H.grow H'.next hg
  refine ⟨γ, r, L, hK, H2, c, dr_free (fun b hb => ?_) hd⟩
  obtain ⟨h1, h2, _⟩ := hb
  rcases h2 with h2 | h2
  · have h2' : h.next ≤ b := h2
    refine ⟨h1, .inl (by rw [H.start]; exact Nat.le_trans H.next h2'), fun id o x e hd hγ => ?_⟩
    have := (OR.lt (fun b hb => hb.1) (H.obj id o e) hγ hd).1
    omega
  · exact (c.free b h2).1
/-- One that answers scalars may look at lists of one's own. -/
theorem dcall_scal {f : FuncId} {ds ds' : List DV} {K : DV → List Obj → Prop} {Q : DV → List Obj → Prop} (hc : DCalls P f ds' [] Q) (ha : All2 (arg1 P L true) ds' ds) (hq : ∀ r A', Q r A' → A' = [] ∧ scalD r = true ∧ K r L) : DCallW P f ds L K := by
  intro h0 W0 γ h vs H hr
  let W1 : Ent := { start := h.next, W := fun _ => False, A := fun _ => True, pin := fun _ _ => False, cnt := 0, few := fun _ _ e => e.elim, sub := fun _ e => e.elim }
  have hS : ∀ b, b < h.next → Free W1 noPl [] h b := fun b hb => ⟨hb, .inr trivial, fun id o x e => by simp at e⟩
  obtain ⟨us, hw, hu⟩ := args_sound (S' := Free W1 noPl [] h) H (fun b hb => hS b hb.1) (fun _ => hS) ha hr
  refine ADoes.of (ACalls.args hw ((hc W1 noPl h us (Nat.le_refl _) (hp_none W1 h rfl fun _ _ e => e) hu).mono ?_))
  rintro v h' ⟨γ', r, A', q, H', hd⟩
  obtain ⟨rfl, hsc, hK⟩ := hq r A' q
  have hg : ∀ b, b < h.next → h'.get b = h.get b := fun b hb => H'.frame b hb (fun e => e)
  obtain ⟨H2, c⟩ := H.grow H'.next hg
  exact ⟨γ, r, L, hK, H2, c, scal_free hsc hd⟩

/-! ### Loops -/
/-- A state that tells less: some slots, objects taken anew. -/
def wkS (P : Program) (a : DFrm) (L : List Obj) (l' : List (Nat × DV)) (L' : List Obj) : Prop :=
  ∃ sel, SelOk L sel L' ∧ (∀ id, id < a.c → sel[id]? = some (some id)) ∧ ∀ p ∈ l', ∃ d, dlook p.1 a.l = some d ∧ wkD P L sel p.2 d
theorem AWp.weaken_vw {c : Code} {Q : Exit → Frm → Heap → Prop} {a a' : Frm} (hn : a'.n = a.n) (hl : ∀ t v, a'.get t = some v → ∃ u, a.get t = some u ∧ VW u v) (hc : AWp P c Q a' h) : AWp P c Q a h :=
  fun ro D β m w ha hr ok => hc ro D β m w ⟨ha.defers, by rw [hn]; exact ha.size, fun t v e => by
    obtain ⟨u, e1, hw⟩ := hl t v e
    obtain ⟨mv, e2, r⟩ := ha.rel t u e1
    exact ⟨mv, e2, r.weak hw⟩⟩ hr ok
theorem wk_slots {L' : List Obj} {sel : Sel} (H : Hp P h0 W0 γ L h) (ok : SelOk L sel L') (hf : FR P W0 γ L h a fa) : ∀ (l' : List (Nat × DV)), (∀ p ∈ l', ∃ d, dlook p.1 a.l = some d ∧ wkD P L sel p.2 d) →
    ∃ fl : List (Nat × Value), (∀ t v, look t fl = some v → ∃ u, fa.get t = some u ∧ VW u v) ∧ ∀ t d, dlook t l' = some d → ∃ v, look t fl = some v ∧ DR P (Free W0 (selPl γ sel) L' h) (selPl γ sel) L' h d v
  | [], _ => ⟨[], fun t v e => (by cases e), fun t d e => (by cases e)⟩
  | (t0, d0) :: l', hl => by
    obtain ⟨fl, f1, f2⟩ := wk_slots H ok hf l' fun p hp => hl p (List.mem_cons_of_mem _ hp)
    obtain ⟨d, e1, e2⟩ := hl (t0, d0) List.mem_cons_self
    obtain ⟨v, e3, r3⟩ := hf.slots t0 d e1
    obtain ⟨u, hw, hd⟩ := wkD_sound H ok e2 r3
    refine ⟨(t0, u) :: fl, fun t w e => ?_, fun t d' e => ?_⟩
    · simp only [look] at e
      split at e
      · rename_i ht; cases e; subst ht; exact ⟨v, e3, hw⟩
      · exact f1 t w e
    · simp only [dlook] at e
      simp only [look]
      split at e
      · rename_i ht; cases e; rw [if_pos ht]; exact ⟨u, rfl, hd⟩
      · rename_i ht; rw [if_neg ht]; exact f2 t d' e
theorem wkS_sound {l' : List (Nat × DV)} {L' : List Obj} {c : Code} {Q : Exit → Frm → Heap → Prop} (H : Hp P h0 W0 γ L h) (hf : FR P W0 γ L h a fa) (hw : wkS P a L l' L') (hk : ∀ γ' fa', Hp P h0 W0 γ' L' h → FR P W0 γ' L' h ⟨a.n, a.c, l'⟩ fa' → AWp P c Q fa' h) : AWp P c Q fa h := by
  obtain ⟨sel, ok, hp, hl⟩ := hw
  obtain ⟨fl, f1, f2⟩ := wk_slots H ok hf l' hl
  exact AWp.weaken_vw (a' := ⟨a.n, fl⟩) hf.n.symm f1 (hk _ ⟨a.n, fl⟩ (H.select ok fun id b e => hp id (by rw [← hf.cnt]; exact W0.few id b e)) ⟨rfl, hf.cnt, f2⟩)

/-! ### What is still to be done behind a piece -/
inductive DFx where
  | k (x : X)
  | block (id : Nat)
  | loop (K : DFrm → List Obj → Prop)
  | scope (J : Nat → DFrm → List Obj → Prop)
def dscQ (J : Nat → DFrm → List Obj → Prop) (Q : DQ) : DQ
  | .goto l, a, L => J l a L
  | e, a, L => Q e a L
def dsx (P : Program) : List DFx → DQ → DQ
  | [], Q => Q
  | .k y :: s, Q => dthenQ (dxHold P y (dsx P s Q)) (dsx P s Q)
  | .block id :: s, Q => dblockQ id (dsx P s Q)
  | .loop K :: s, Q => dthenQ K (dsx P s Q)
  | .scope J :: s, Q => dscQ J (dsx P s Q)
theorem DAWp.mono {c : Code} {Q Q' : DQ} {a : DFrm} {L : List Obj} (hc : DAWp P c Q a L) (hq : ∀ e a L, Q e a L → Q' e a L) : DAWp P c Q' a L := fun h0 W0 γ h fa H hf => (hc h0 W0 γ h fa H hf).mono fun e fa h ⟨a, L, γ, hk, H, hf⟩ => ⟨a, L, γ, hq _ _ _ hk, H, hf⟩
theorem dawp_of_x {c : Code} {Q : DQ} {a : DFrm} {L : List Obj} (hk : dxWp P (xOf P c .nil) Q a L) : DAWp P c Q a L := fun h0 W0 γ h fa H hf => xOf_nil (dxWp_sound _ (fun e fa h q => q) H hf hk)
theorem dawp_of_hold {c : Code} {Q : DQ} {a : DFrm} {L : List Obj} (hk : dxHold P (xOf P c .nil) Q a L) : DAWp P c Q a L := by
  obtain ⟨l', hs, hk⟩ := hk
  exact fun h0 W0 γ h fa H hf => dawp_of_x hk h0 W0 γ h fa H (hf.sub hs)
theorem dloop_x {σ : Type} {n c : Nat} {s : List DFx} {Q : DQ} {x : X} {a : DFrm} (F : σ → List (Nat × DV)) (G : σ → List Obj) (p : σ → Prop) (μ : σ → Nat) (y0 : σ) (hn : a.n = n ∧ a.c = c) (h0 : wkS P a L (F y0) (G y0) ∧ p y0)
    (round : ∀ y, p y → dxHold P x (dsx P (.loop (fun a' L' => ∃ y', (wkS P a' L' (F y') (G y') ∧ p y') ∧ (a'.n = n ∧ a'.c = c) ∧ μ y' < μ y) :: s) Q) ⟨n, c, F y⟩ (G y)) : dloopW P x (dsx P s Q) a L := by
  rintro code rfl h1 W0 γ h fa H hf
  obtain ⟨rfl, rfl⟩ := hn
  refine awp_loop_st (σ := σ) (fun y fa h => ∃ γ' a' L', Hp P h1 W0 γ' L' h ∧ FR P W0 γ' L' h a' fa ∧ wkS P a' L' (F y) (G y) ∧ p y ∧ a'.n = a.n ∧ a'.c = a.c) μ y0 ⟨γ, a, L, H, hf, h0.1, h0.2, rfl, rfl⟩ ?_
  rintro y fa h ⟨γ', a', L', H', hf', hw, hp, e1, e2⟩
  refine wkS_sound H' hf' hw fun γ2 fa2 H2 hf2 => ?_
  rw [e1, e2] at hf2
  refine ((dawp_of_hold (round y hp)) h1 W0 γ2 h fa2 H2 hf2).mono ?_
  rintro e fa3 h3 ⟨a3, L3, γ3, hk, H3, hf3⟩
  cases e <;> first
    | exact ⟨a3, L3, γ3, hk, H3, hf3⟩
    | (obtain ⟨y', ⟨k1, k2⟩, ⟨k3, k4⟩, k5⟩ := hk
       exact ⟨y', ⟨γ3, a3, L3, H3, hf3, k1, k2, k3, k4⟩, k5⟩)
end
end Go.Sim

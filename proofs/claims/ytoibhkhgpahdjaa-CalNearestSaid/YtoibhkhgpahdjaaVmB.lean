/- What it means that a state of the abstract interpreter tells of a frame and a world; how that is kept. Conditions: none here. -/
import Derived.Test.YtoibhkhgpahdjaaVmR
import Derived.Laws.CopyRow
import Derived.Laws.IdiomCopy
import Derived.Laws.Cells
set_option linter.unusedVariables false
set_option linter.unusedSimpArgs false
namespace Go.Proofs.Ytoibhkhgpahdjaa.Vm
open Go Go.RowKit

theorem len_eq {α : Type} (l : List α) : len l = l.length := by
  induction l with
  | nil => rfl
  | cons a l ih => simp [len, ih]
theorem nth?_eq {α : Type} (l : List α) (n : Nat) : nth? l n = l[n]? := by
  induction l generalizing n with
  | nil => simp [nth?]
  | cons a l ih => cases n <;> simp [nth?, ih]
theorem nth_eq {α : Type} (d : α) (l : List α) (n : Nat) : nth d l n = l.getD n d := by
  induction l generalizing n with
  | nil => simp [nth]
  | cons a l ih => cases n <;> simp [nth, ih]
theorem put_eq {α : Type} (l : List α) (n : Nat) (b : α) : put l n b = l.set n b := by
  induction l generalizing n with
  | nil => rfl
  | cons a l ih => cases n <;> simp [put, ih]
theorem nth_put {α : Type} (d : α) (l : List α) (n m : Nat) (b : α) : nth d (put l n b) m = if m = n ∧ n < l.length then b else nth d l m := by
  rw [nth_eq, nth_eq, put_eq]
  simp only [List.getD_eq_getElem?_getD, List.getElem?_set]
  by_cases h : n = m
  · subst h
    by_cases h' : n < l.length
    · simp [h']
    · simp [h', List.getElem?_eq_none (Nat.le_of_not_lt h')]
  · have : ¬ m = n := fun e => h e.symm
    simp [h, this]
theorem cut_spec {α : Type} : ∀ (l : List α) (o n : Nat) (r : List α), cut l o n = some r → r.length = n ∧ (n = 0 ∨ o + n ≤ l.length) ∧ ∀ k, k < n → r[k]? = l[o + k]?
  | l, o, 0, r, h => by
    have : r = [] := by cases l <;> simp [cut] at h <;> first | exact h | exact h.symm
    subst this; exact ⟨rfl, .inl rfl, fun k hk => absurd hk (by omega)⟩
  | [], o, n + 1, r, h => by simp [cut] at h
  | a :: l, 0, n + 1, r, h => by
    simp only [cut] at h
    split at h
    · rename_i r' hr
      obtain rfl := Option.some.inj h
      obtain ⟨h1, h2, h3⟩ := cut_spec l 0 n r' hr
      refine ⟨by simp [h1], .inr (by simp; omega), fun k hk => ?_⟩
      cases k with
      | zero => simp
      | succ k => have := h3 k (by omega); simpa using this
    · exact absurd h (by simp)
  | a :: l, o + 1, n + 1, r, h => by
    simp only [cut] at h
    obtain ⟨h1, h2, h3⟩ := cut_spec l o (n + 1) r h
    refine ⟨h1, .inr (by simp; omega), fun k hk => ?_⟩
    rw [h3 k hk, show o + 1 + k = (o + k) + 1 by omega]; simp
theorem over_spec {α : Type} : ∀ (l : List α) (o : Nat) (r q : List α), over l o r = some q → q.length = l.length ∧ (r = [] ∨ o + r.length ≤ l.length) ∧ ∀ k, q[k]? = if o ≤ k ∧ k < o + r.length then r[k - o]? else l[k]?
  | l, o, [], q, h => by
    have : q = l := by cases l <;> simp [over] at h <;> first | exact h | exact h.symm
    subst this
    refine ⟨rfl, .inl rfl, fun k => ?_⟩
    rw [if_neg (by simp)]
  | [], o, b :: r, q, h => by simp [over] at h
  | a :: l, 0, b :: r, q, h => by
    simp only [over] at h
    split at h
    · rename_i q' hq
      obtain rfl := Option.some.inj h
      obtain ⟨h1, h2, h3⟩ := over_spec l 0 r q' hq
      refine ⟨by simp [h1], .inr (by rcases h2 with rfl | h2 <;> simp at * <;> omega), fun k => ?_⟩
      cases k with
      | zero => simp
      | succ k => have := h3 k; simp at this ⊢; rw [this]
    · exact absurd h (by simp)
  | a :: l, o + 1, b :: r, q, h => by
    simp only [over] at h
    split at h
    · rename_i q' hq
      obtain rfl := Option.some.inj h
      obtain ⟨h1, h2, h3⟩ := over_spec l o (b :: r) q' hq
      refine ⟨by simp [h1], .inr (by rcases h2 with h2 | h2 <;> simp at * ; omega), fun k => ?_⟩
      cases k with
      | zero => simp
      | succ k =>
        have := h3 k
        simp only [List.getElem?_cons_succ, this]
        by_cases hk : o ≤ k ∧ k < o + (b :: r).length
        · rw [if_pos hk, if_pos (by omega), show k + 1 - (o + 1) = k - o by omega]
        · rw [if_neg hk, if_neg (by omega)]
    · exact absurd h (by simp)

theorem T.den_bind {α β : Type} (t : T α) (f : α → T β) : (t.bind f).den = t.den.bind fun a => (f a).den := by
  induction t with
  | ret a => rfl
  | fail => rfl
  | ite c t e iht ihe => simp only [T.bind, T.den, iht, ihe]; split <;> rfl
  | bnd o k ih => simp only [T.bind, T.den]; cases o with | none => rfl | some r => simp [ih]
  | cas o k l ihk ihl => simp only [T.bind, T.den, casO]; cases o with | none => rfl | some r => cases r <;> simp [ihk, ihl]
  | opn o => rfl
theorem den_req {α : Type} {c : Bool} {t : T α} {a : α} (h : (T.req c t).den = some a) : c = true ∧ t.den = some a := by
  unfold T.req at h; simp only [T.den] at h; split at h
  · exact ⟨by assumption, h⟩
  · cases h
theorem den_ret1 {v : SV} {o : Out} (h : (ret1 v).den = some o) : o = ⟨v, []⟩ := by simp [ret1, T.den] at h; exact h.symm
theorem den_fail {α : Type} {a : α} (h : (T.fail : T α).den = some a) : False := by simp [T.den] at h

def All2 {α β : Type} (R : α → β → Prop) : List α → List β → Prop
  | [], [] => True
  | a :: l, b :: m => R a b ∧ All2 R l m
  | _, _ => False
theorem All2.length {α β : Type} {R : α → β → Prop} : ∀ {l : List α} {m : List β}, All2 R l m → l.length = m.length
  | [], [], _ => rfl
  | a :: l, b :: m, h => by simp [All2.length h.2]
  | [], b :: m, h => h.elim
  | a :: l, [], h => h.elim
theorem All2.get {α β : Type} {R : α → β → Prop} : ∀ {l : List α} {m : List β}, All2 R l m → ∀ (k : Nat) (a : α), l[k]? = some a → ∃ b, m[k]? = some b ∧ R a b
  | [], [], _, k, a, h => by simp at h
  | a :: l, b :: m, h, k, x, hx => by
    cases k with
    | zero => simp at hx; subst hx; exact ⟨b, rfl, h.1⟩
    | succ k => simp at hx; obtain ⟨y, h1, h2⟩ := All2.get h.2 k x hx; exact ⟨y, by simpa using h1, h2⟩
  | [], b :: m, h, _, _, _ => h.elim
  | a :: l, [], h, _, _, _ => h.elim
theorem All2.of_get {α β : Type} {R : α → β → Prop} : ∀ {l : List α} {m : List β}, l.length = m.length → (∀ (k : Nat) (a : α) (b : β), l[k]? = some a → m[k]? = some b → R a b) → All2 R l m
  | [], [], _, _ => trivial
  | a :: l, b :: m, hl, h => ⟨h 0 a b rfl rfl, All2.of_get (by simpa using hl) fun k x y hx hy => h (k + 1) x y (by simpa using hx) (by simpa using hy)⟩
  | [], b :: m, hl, _ => by simp at hl
  | a :: l, [], hl, _ => by simp at hl
theorem All2.mono {α β : Type} {R R' : α → β → Prop} (hr : ∀ a b, R a b → R' a b) : ∀ {l : List α} {m : List β}, All2 R l m → All2 R' l m
  | [], [], _ => trivial
  | a :: l, b :: m, h => ⟨hr _ _ h.1, All2.mono hr h.2⟩
  | [], b :: m, h => h.elim
  | a :: l, [], h => h.elim

abbrev GM := Nat → Option (Nat × Nat)
/-- A block's type, and its frozen part. -/
abbrev TF := TypeId × Nat × Nat
/-- What was there stays; nothing new is frozen. -/
structure Bel (B : Nat) (w w' : World) : Prop extends Go.RowKit.Below B w w' where
  fresh : ∀ (g : Nat) (cs : Array Value) (t : TypeId) (fr : Nat × Nat), B ≤ g → w'.heap[g]? = some (.cells cs t fr) → fr = (0, 0)
theorem Bel.refl (w : World) : Bel w.heap.size w w :=
  ⟨Go.RowKit.Below.refl _ _, fun g cs t fr h hg => by rw [Array.getElem?_eq_none h] at hg; cases hg⟩
theorem Bel.call {B : Nat} {a w w' : World} (h : Bel B a w) (k : Bel w.heap.size w w') (hB : B ≤ w.heap.size) : Bel B a w' :=
  ⟨h.toBelow.trans (k.toBelow.mono hB), fun g cs t fr hg hx => by
    rcases Nat.lt_or_ge g w.heap.size with hlt | hge
    · rw [k.block g hlt] at hx; exact h.fresh g cs t fr hg hx
    · exact k.fresh g cs t fr hge hx⟩
theorem Bel.alloc {B : Nat} {a w : World} (h : Bel B a w) (hB : B ≤ w.heap.size) (cs : Array Value) (t : TypeId) : Bel B a (w.alloc (.cells cs t)) :=
  ⟨h.toBelow.alloc hB _, fun g c t' fr hg hx => by
    rcases Nat.lt_or_ge g w.heap.size with hlt | hge
    · rw [Below.heap_alloc w _ g hlt] at hx; exact h.fresh g c t' fr hg hx
    · have hx' : (w.heap.push (.cells cs t))[g]? = some (.cells c t' fr) := hx
      rw [Array.getElem?_push] at hx'
      split at hx'
      · simp only [Option.some.injEq, Obj.cells.injEq] at hx'; exact hx'.2.2.symm
      · rw [Array.getElem?_eq_none hge] at hx'; cases hx'⟩
theorem Bel.drew {B : Nat} {a w : World} (h : Bel B a w) : Bel B a w.drew := ⟨h.toBelow.drew, h.fresh⟩
abbrev MM := Nat → Option Ent
/-- A slice of l members from off on, of a block whose members are n cells. -/
def slcOk (γ : GM) (w : World) (b off l n : Nat) (V : Value) : Prop :=
  (l = 0 ∧ ∃ a, V = .slice a 0 0) ∨
  ∃ g base cap, γ b = some (g, base) ∧ V = .slice (some ⟨g, base + off * n, none⟩) l cap ∧ l ≤ cap ∧
    ∃ (cs : Array Value) (t : TF), w.heap[g]? = some (.cells cs t.1 t.2) ∧ base + (off + cap) * n ≤ cs.size
def ptrOk (b : Blk) (i n : Nat) : Prop :=
  match b with
  | .cells _ => i = 0 ∧ n = 0
  | .row _ xs => n = 1 ∧ i < xs.length
  | .recs ks xs => n = len ks ∧ i < xs.length
def RelC (F : Nat → Prop) (γ : GM) (m : MM) (w : World) : CV → Value → Prop
  | .val v, V => V = v
  | .any, _ => True
  | .ptr b i n j, V => F b ∧ (∃ g base, γ b = some (g, base) ∧ V = .pointer (some ⟨g, base + (i * n + j), none⟩)) ∧ ∀ e, m b = some e → ptrOk e.blk i n
  | .slf b, V => F b ∧ (∃ a l c, V = .slice a l c) ∧ ∀ e, m b = some e → slcOk γ w b 0 e.blk.len e.blk.n V
  | .slc b off l, V => F b ∧ (∃ a l c, V = .slice a l c) ∧ ∀ e, m b = some e → off + l ≤ e.blk.len ∧ slcOk γ w b off l e.blk.n V
def RelP (F : Nat → Prop) (γ : GM) (m : MM) (w : World) : PV → Value → Prop
  | .one c, V => RelC F γ m w c V
  | .agg l, V => ∃ cs, V = .agg cs ∧ All2 (RelC F γ m w) l cs.toList
def RelV (F : Nat → Prop) (γ : GM) (m : MM) (w : World) : SV → Value → Prop
  | .pv p, V => RelP F γ m w p V
  | .tup l, V => ∃ vs, V = .tuple vs ∧ All2 (RelP F γ m w) l vs.toList
/-- What stands in a block. -/
def Blk.at (b : Blk) (i j : Nat) : Option CV :=
  match b with
  | .cells l => if i = 0 then l[j]? else none
  | .row k xs => if j = 0 ∧ i < xs.length then some (.val (.int k (nth 0 xs i))) else none
  | .recs ks xs => if i < xs.length then (intsV ks (nth [] xs i) 0)[j]? else none
def RelB (F : Nat → Prop) (γ : GM) (m : MM) (w : World) (b : Nat) (blk : Blk) : Prop :=
  ∀ i j c, blk.at i j = some c → ∃ (g base : Nat) (cs : Array Value) (t : TF) (V : Value), γ b = some (g, base) ∧ w.heap[g]? = some (.cells cs t.1 t.2) ∧ cs[base + (i * blk.n + j)]? = some V ∧ RelC F γ m w c V
structure Rel (A : Nat → Prop) (w0 : World) (F : Nat → Prop) (γ : GM) (s : St) (a : Act) (w : World) : Prop where
  below : Bel w0.heap.size w0 w
  defers : a.defers = []
  size : a.tmps.size = s.tmps.length
  slots : ∀ t, RelV F γ s.mem w (nth undefS s.tmps t) (a.tmps.getD t undef)
  memr : ∀ b e, s.mem b = some e → F b ∧ RelB F γ s.mem w b e.blk
  own : ∀ b e g base, s.mem b = some e → e.own = true → γ b = some (g, base) → w0.heap.size ≤ g ∧ ∀ b' e' g' base', b' ≠ b → s.mem b' = some e' → γ b' = some (g', base') → g' ≠ g
  shr : ∀ b e g base, s.mem b = some e → e.own = false → γ b = some (g, base) → A g ∨ w0.heap.size ≤ g
  bnd : ∀ b e g base, s.mem b = some e → γ b = some (g, base) → g < w.heap.size

/-- Worlds in which no block has lost cells. -/
def WStep (w w' : World) : Prop := ∀ (g : Nat) (cs : Array Value) (t : TF), w.heap[g]? = some (.cells cs t.1 t.2) → ∃ (cs' : Array Value) (t' : TF), w'.heap[g]? = some (.cells cs' t'.1 t'.2) ∧ cs.size ≤ cs'.size
theorem WStep.refl (w : World) : WStep w w := fun g cs t h => ⟨cs, t, h, Nat.le_refl _⟩
theorem WStep.trans {a b c : World} (h : WStep a b) (k : WStep b c) : WStep a c := fun g cs t hg =>
  let ⟨_, _, h1, h2⟩ := h g cs t hg
  let ⟨cs', t', h3, h4⟩ := k g _ _ h1
  ⟨cs', t', h3, Nat.le_trans h2 h4⟩
/-- What is known of names stays. -/
structure MStep (F : Nat → Prop) (γ : GM) (m : MM) (w : World) (F' : Nat → Prop) (γ' : GM) (m' : MM) (w' : World) : Prop where
  names : ∀ b, F b → F' b
  same : ∀ b, F b → γ' b = γ b
  mem : ∀ b e', F b → m' b = some e' → ∃ e, m b = some e ∧ e.blk.len = e'.blk.len ∧ e.blk.n = e'.blk.n ∧ ∀ i n, ptrOk e.blk i n → ptrOk e'.blk i n
  world : WStep w w'
section
variable {F F' : Nat → Prop} {γ γ' : GM} {m m' : MM} {w w' : World}
theorem slcOk.step (hγ : γ' = γ ∨ ∃ b, γ' b = γ b) {b off l n : Nat} {V : Value} (hb : γ' b = γ b) (hw : WStep w w') (h : slcOk γ w b off l n V) : slcOk γ' w' b off l n V := by
  rcases h with h | ⟨g, base, cap, h1, h2, h3, cs, t, h4, h5⟩
  · exact .inl h
  · obtain ⟨cs', t', h6, h7⟩ := hw g cs t h4
    exact .inr ⟨g, base, cap, hb.trans h1, h2, h3, cs', t', h6, Nat.le_trans h5 h7⟩
theorem RelC.step (s : MStep F γ m w F' γ' m' w') {c : CV} {V : Value} (h : RelC F γ m w c V) : RelC F' γ' m' w' c V := by
  cases c with
  | val v => exact h
  | any => trivial
  | ptr b i n j =>
    obtain ⟨h1, ⟨g, base, h2, h3⟩, h4⟩ := h
    refine ⟨s.names b h1, ⟨g, base, (s.same b h1).trans h2, h3⟩, fun e' he' => ?_⟩
    obtain ⟨e, he, _, _, hp⟩ := s.mem b e' h1 he'
    exact hp _ _ (h4 e he)
  | slf b =>
    obtain ⟨h1, h2, h4⟩ := h
    refine ⟨s.names b h1, h2, fun e' he' => ?_⟩
    obtain ⟨e, he, hl, hn, _⟩ := s.mem b e' h1 he'
    rw [← hl, ← hn]
    exact (h4 e he).step (.inr ⟨b, s.same b h1⟩) (s.same b h1) s.world
  | slc b off l =>
    obtain ⟨h1, h2, h4⟩ := h
    refine ⟨s.names b h1, h2, fun e' he' => ?_⟩
    obtain ⟨e, he, hl, hn, _⟩ := s.mem b e' h1 he'
    rw [← hl, ← hn]
    exact ⟨(h4 e he).1, (h4 e he).2.step (.inr ⟨b, s.same b h1⟩) (s.same b h1) s.world⟩
theorem RelP.step (s : MStep F γ m w F' γ' m' w') {c : PV} {V : Value} (h : RelP F γ m w c V) : RelP F' γ' m' w' c V := by
  cases c with
  | one c => exact RelC.step s h
  | agg l => obtain ⟨cs, h1, h2⟩ := h; exact ⟨cs, h1, h2.mono fun _ _ => RelC.step s⟩
theorem RelV.step (s : MStep F γ m w F' γ' m' w') {c : SV} {V : Value} (h : RelV F γ m w c V) : RelV F' γ' m' w' c V := by
  cases c with
  | pv c => exact RelP.step s h
  | tup l => obtain ⟨cs, h1, h2⟩ := h; exact ⟨cs, h1, h2.mono fun _ _ => RelP.step s⟩
theorem MStep.refl : MStep F γ m w F γ m w := ⟨fun _ h => h, fun _ _ => rfl, fun b e _ h => ⟨e, h, rfl, rfl, fun _ _ h => h⟩, WStep.refl w⟩
end

theorem put_tmps (a : Act) (dst : Option Tmp) (V : Value) (t : Nat) : (a.put dst V).tmps.getD t undef = if dst = some t ∧ t < a.tmps.size then V else a.tmps.getD t undef := by
  cases dst with
  | none => simp [Act.put]
  | some d =>
    simp only [Act.put, Array.getD_eq_getD_getElem?, Array.getElem?_setIfInBounds]
    by_cases h : d = t
    · subst h
      by_cases h' : d < a.tmps.size
      · simp [h']
      · simp [h', Array.getElem?_eq_none (Nat.le_of_not_lt h')]
    · simp [h]
theorem put_size (a : Act) (dst : Option Tmp) (V : Value) : (a.put dst V).tmps.size = a.tmps.size := by cases dst <;> simp [Act.put]
theorem put_defers0 (a : Act) (dst : Option Tmp) (V : Value) : (a.put dst V).defers = a.defers := by cases dst <;> rfl
theorem app_tmps (s : St) (dst : Option Tmp) (o : Out) (t : Nat) : nth undefS (s.app dst o).tmps t = if dst = some t ∧ t < s.tmps.length then o.v else nth undefS s.tmps t := by
  cases dst with
  | none => simp [St.app]
  | some d =>
    simp only [St.app, nth_put]
    by_cases h : d = t
    · subst h; simp
    · have : ¬ t = d := fun e => h e.symm
      simp [h, this]
theorem app_len (s : St) (dst : Option Tmp) (o : Out) : (s.app dst o).tmps.length = s.tmps.length := by
  cases dst <;> simp [St.app, put_eq]
/-- A step: the slots behind it. -/
theorem Rel.put {A : Nat → Prop} {w0 : World} {F F' : Nat → Prop} {γ γ' : GM} {s : St} {a : Act} {w w' : World} (R : Rel A w0 F γ s a w) {dst : Option Tmp} {o : Out} {V : Value}
    (hb : Bel w0.heap.size w0 w') (ms : MStep F γ s.mem w F' γ' (updM s.mem o.upd) w') (hv : RelV F' γ' (updM s.mem o.upd) w' o.v V)
    (memr : ∀ b e, updM s.mem o.upd b = some e → F' b ∧ RelB F' γ' (updM s.mem o.upd) w' b e.blk)
    (own : ∀ b e g base, updM s.mem o.upd b = some e → e.own = true → γ' b = some (g, base) → w0.heap.size ≤ g ∧ ∀ b' e' g' base', b' ≠ b → updM s.mem o.upd b' = some e' → γ' b' = some (g', base') → g' ≠ g)
    (shr : ∀ b e g base, updM s.mem o.upd b = some e → e.own = false → γ' b = some (g, base) → A g ∨ w0.heap.size ≤ g)
    (bnd : ∀ b e g base, updM s.mem o.upd b = some e → γ' b = some (g, base) → g < w'.heap.size) : Rel A w0 F' γ' (s.app dst o) (a.put dst V) w' := by
  refine ⟨hb, (put_defers0 a dst V).trans R.defers, by rw [put_size, app_len]; exact R.size, fun t => ?_, memr, own, shr, bnd⟩
  rw [app_tmps, put_tmps, R.size]
  split
  · exact hv
  · exact (R.slots t).step ms
/-- An operation that only looks. -/
theorem Rel.putV {A : Nat → Prop} {w0 : World} {F : Nat → Prop} {γ : GM} {s : St} {a : Act} {w : World} (R : Rel A w0 F γ s a w) (dst : Option Tmp) {v : SV} {V : Value}
    (hv : RelV F γ s.mem w v V) : Rel A w0 F γ (s.app dst ⟨v, []⟩) (a.put dst V) w :=
  R.put (o := ⟨v, []⟩) R.below MStep.refl hv R.memr R.own R.shr R.bnd
theorem relC_val (F : Nat → Prop) (γ : GM) (m : MM) (w : World) (v : Value) : RelC F γ m w (.val v) v := rfl
theorem all2_val (F : Nat → Prop) (γ : GM) (m : MM) (w : World) : ∀ l : List Value, All2 (RelC F γ m w) (l.map .val) l
  | [] => trivial
  | v :: l => ⟨rfl, all2_val F γ m w l⟩
theorem relP_pvOf (F : Nat → Prop) (γ : GM) (m : MM) (w : World) (v : Value) : RelP F γ m w (pvOf v) v := by
  cases v <;> first | exact rfl | exact ⟨_, rfl, all2_val F γ m w _⟩
theorem all2_pvOf (F : Nat → Prop) (γ : GM) (m : MM) (w : World) : ∀ l : List Value, All2 (RelP F γ m w) (l.map pvOf) l
  | [] => trivial
  | v :: l => ⟨relP_pvOf F γ m w v, all2_pvOf F γ m w l⟩
theorem relV_svOf (F : Nat → Prop) (γ : GM) (m : MM) (w : World) (v : Value) : RelV F γ m w (svOf v) v := by
  cases v <;> first | exact rfl | exact ⟨_, rfl, all2_val F γ m w _⟩ | exact ⟨_, rfl, all2_pvOf F γ m w _⟩
/-- What an operand is. -/
theorem Rel.ev {A : Nat → Prop} {w0 : World} {F : Nat → Prop} {γ : GM} {s : St} {a : Act} {w : World} (R : Rel A w0 F γ s a w) (x : Operand) : RelV F γ s.mem w (s.ev x) (a.eval x) := by
  cases x with
  | tmp t => exact R.slots t
  | const v => exact relV_svOf F γ s.mem w v
  | global g => exact rfl
  | func f => exact rfl
end Go.Proofs.Ytoibhkhgpahdjaa.Vm

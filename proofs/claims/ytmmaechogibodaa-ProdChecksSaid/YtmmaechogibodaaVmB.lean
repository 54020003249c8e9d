/- What it means that a state of the abstract interpreter tells of a frame and a world; how that is kept. Conditions: none here. -/
import Derived.Test.YtmmaechogibodaaVmR
import Derived.Laws.CopyRow
import Derived.Laws.IdiomCopy
import Derived.Laws.Cells
set_option linter.unusedVariables false
set_option linter.unusedSimpArgs false
namespace Go.Proofs.Ytmmaechogibodaa.Vm
open Go Go.RowKit

theorem len_eq {α : Type} (l : List α) : len l = l.length := by
  induction l with
  | nil => rfl
  | cons a l ih => simp [len, ih]
theorem nth?_eq {α : Type} (l : List α) (n : Nat) : nth? l n = l[n]? := by
  induction l generalizing n with
  | nil => simp [nth?]
  | cons a l ih => cases n <;> simp [nth?, ih]
theorem nth_eq {α : Type} (d : α) (l : List α) (n : Nat) : nth d l n = l.getD n d := by
  induction l generalizing n with
  | nil => simp [nth]
  | cons a l ih => cases n <;> simp [nth, ih]
theorem put_eq {α : Type} (l : List α) (n : Nat) (b : α) : put l n b = l.set n b := by
  induction l generalizing n with
  | nil => rfl
  | cons a l ih => cases n <;> simp [put, ih]
theorem nth_put {α : Type} (d : α) (l : List α) (n m : Nat) (b : α) : nth d (put l n b) m = if m = n ∧ n < l.length then b else nth d l m := by
  rw [nth_eq, nth_eq, put_eq]
  simp only [List.getD_eq_getElem?_getD, List.getElem?_set]
  by_cases h : n = m
  · subst h
    by_cases h' : n < l.length
    · simp [h']
    · simp [h', List.getElem?_eq_none (Nat.le_of_not_lt h')]
  · have : ¬ m = n := fun e => h e.symm
    simp [h, this]
theorem cut_spec {α : Type} : ∀ (l : List α) (o n : Nat) (r : List α), cut l o n = some r → r.length = n ∧ (n = 0 ∨ o + n ≤ l.length) ∧ ∀ k, k < n → r[k]? = l[o + k]?
  | l, o, 0, r, h => by
    have : r = [] := by cases l <;> simp [cut] at h <;> first | exact h | exact h.symm
    subst this; exact ⟨rfl, .inl rfl, fun k hk => absurd hk (by omega)⟩
  | [], o, n + 1, r, h => by simp [cut] at h
  | a :: l, 0, n + 1, r, h => by
    simp only [cut] at h
    split at h
    · rename_i r' hr
      obtain rfl := Option.some.inj h
      obtain ⟨h1, h2, h3⟩ := cut_spec l 0 n r' hr
      refine ⟨by simp [h1], .inr (by simp; omega), fun k hk => ?_⟩
      cases k with
      | zero => simp
      | succ k => have := h3 k (by omega); simpa using this
    · exact absurd h (by simp)
  | a :: l, o + 1, n + 1, r, h => by
    simp only [cut] at h
    obtain ⟨h1, h2, h3⟩ := cut_spec l o (n + 1) r h
    refine ⟨h1, .inr (by simp; omega), fun k hk => ?_⟩
    rw [h3 k hk, show o + 1 + k = (o + k) + 1 by omega]; simp
theorem over_spec {α : Type} : ∀ (l : List α) (o : Nat) (r q : List α), over l o r = some q → q.length = l.length ∧ (r = [] ∨ o + r.length ≤ l.length) ∧ ∀ k, q[k]? = if o ≤ k ∧ k < o + r.length then r[k - o]? else l[k]?
  | l, o, [], q, h => by
    have : q = l := by cases l <;> simp [over] at h <;> first | exact h | exact h.symm
    subst this
    refine ⟨rfl, .inl rfl, fun k => ?_⟩
    rw [if_neg (by simp)]
  | [], o, b :: r, q, h => by simp [over] at h
  | a :: l, 0, b :: r, q, h => by
    simp only [over] at h
    split at h
    · rename_i q' hq
      obtain rfl := Option.some.inj h
      obtain ⟨h1, h2, h3⟩ := over_spec l 0 r q' hq
      refine ⟨by simp [h1], .inr (by rcases h2 with rfl | h2 <;> simp at * <;> omega), fun k => ?_⟩
      cases k with
      | zero => simp
      | succ k => have := h3 k; simp at this ⊢; rw [this]
    · exact absurd h (by simp)
  | a :: l, o + 1, b :: r, q, h => by
    simp only [over] at h
    split at h
    · rename_i q' hq
      obtain rfl := Option.some.inj h
      obtain ⟨h1, h2, h3⟩ := over_spec l o (b :: r) q' hq
      refine ⟨by simp [h1], .inr (by rcases h2 with h2 | h2 <;> simp at * ; omega), fun k => ?_⟩
      cases k with
      | zero => simp
      | succ k =>
        have := h3 k
        simp only [List.getElem?_cons_succ, this]
        by_cases hk : o ≤ k ∧ k < o + (b :: r).length
        · rw [if_pos hk, if_pos (by omega), show k + 1 - (o + 1) = k - o by omega]
        · rw [if_neg hk, if_neg (by omega)]
    · exact absurd h (by simp)

theorem T.den_bind {α β : Type} (t : T α) (f : α → T β) : (t.bind f).den = t.den.bind fun a => (f a).den := by
  induction t with
  | ret a => rfl
  | fail => rfl
  | ite c t e iht ihe => simp only [T.bind, T.den, iht, ihe]; split <;> rfl
  | bnd o k ih => simp only [T.bind, T.den]; cases o with | none => rfl | some r => simp [ih]
  | cas o k l ihk ihl => simp only [T.bind, T.den, casO]; cases o with | none => rfl | some r => cases r <;> simp [ihk, ihl]
  | opn o => rfl
theorem den_req {α : Type} {c : Bool} {t : T α} {a : α} (h : (T.req c t).den = some a) : c = true ∧ t.den = some a := by
  unfold T.req at h; simp only [T.den] at h; split at h
  · exact ⟨by assumption, h⟩
  · cases h
theorem den_ret1 {v : SV} {o : Out} (h : (ret1 v).den = some o) : o = ⟨v, []⟩ := by simp [ret1, T.den] at h; exact h.symm
theorem den_fail {α : Type} {a : α} (h : (T.fail : T α).den = some a) : False := by simp [T.den] at h

def All2 {α β : Type} (R : α → β → Prop) : List α → List β → Prop
  | [], [] => True
  | a :: l, b :: m => R a b ∧ All2 R l m
  | _, _ => False
theorem All2.length {α β : Type} {R : α → β → Prop} : ∀ {l : List α} {m : List β}, All2 R l m → l.length = m.length
  | [], [], _ => rfl
  | a :: l, b :: m, h => by simp [All2.length h.2]
  | [], b :: m, h => h.elim
  | a :: l, [], h => h.elim
theorem All2.get {α β : Type} {R : α → β → Prop} : ∀ {l : List α} {m : List β}, All2 R l m → ∀ (k : Nat) (a : α), l[k]? = some a → ∃ b, m[k]? = some b ∧ R a b
  | [], [], _, k, a, h => by simp at h
  | a :: l, b :: m, h, k, x, hx => by
    cases k with
    | zero => simp at hx; subst hx; exact ⟨b, rfl, h.1⟩
    | succ k => simp at hx; obtain ⟨y, h1, h2⟩ := All2.get h.2 k x hx; exact ⟨y, by simpa using h1, h2⟩
  | [], b :: m, h, _, _, _ => h.elim
  | a :: l, [], h, _, _, _ => h.elim
theorem All2.of_get {α β : Type} {R : α → β → Prop} : ∀ {l : List α} {m : List β}, l.length = m.length → (∀ (k : Nat) (a : α) (b : β), l[k]? = some a → m[k]? = some b → R a b) → All2 R l m
  | [], [], _, _ => trivial
  | a :: l, b :: m, hl, h => ⟨h 0 a b rfl rfl, All2.of_get (by simpa using hl) fun k x y hx hy => h (k + 1) x y (by simpa using hx) (by simpa using hy)⟩
  | [], b :: m, hl, _ => by simp at hl
  | a :: l, [], hl, _ => by simp at hl
theorem All2.mono {α β : Type} {R R' : α → β → Prop} (hr : ∀ a b, R a b → R' a b) : ∀ {l : List α} {m : List β}, All2 R l m → All2 R' l m
  | [], [], _ => trivial
  | a :: l, b :: m, h => ⟨hr _ _ h.1, All2.mono hr h.2⟩
  | [], b :: m, h => h.elim
  | a :: l, [], h => h.elim

theorem allEq_spec {α : Type} {f : α → α → Bool} (hf : ∀ a b, f a b = true → a = b) : ∀ {l m : List α}, allEq f l m = true → l = m
  | [], [], _ => rfl
  | a :: l, b :: m, h => by
    simp only [allEq] at h
    split at h
    · rename_i e; rw [hf a b e, allEq_spec hf h]
    · cases h
  | [], _ :: _, h => by simp [allEq] at h
  | _ :: _, [], h => by simp [allEq] at h
theorem shEq_spec : ∀ (n : Nat) (a b : Sh), shEq n a b = true → a = b
  | 0, a, b, h => by simp [shEq] at h
  | n + 1, .int k, b, h => by
    cases b <;> simp only [shEq] at h <;> first | (cases h; done) | skip
    split at h
    · rename_i e; rw [e]
    · cases h
  | n + 1, .bool, b, h => by cases b <;> simp only [shEq] at h <;> first | rfl | (cases h; done)
  | n + 1, .str, b, h => by cases b <;> simp only [shEq] at h <;> first | rfl | (cases h; done)
  | n + 1, .sl l, b, h => by
    cases b <;> simp only [shEq] at h <;> first | (cases h; done) | skip
    rw [allEq_spec (shEq_spec n) h]
theorem shsEq_spec {l m : List Sh} (h : shsEq l m = true) : l = m := allEq_spec (shEq_spec 8) h
theorem list_choice {α β : Type} {R : Nat → α → β → Prop} : ∀ (l : List α), (∀ (j : Nat) (c : α), l[j]? = some c → ∃ v, R j c v) → ∃ Vs : List β, Vs.length = l.length ∧ ∀ (j : Nat) (c : α) (v : β), l[j]? = some c → Vs[j]? = some v → R j c v
  | [], _ => ⟨[], rfl, fun j c v h => by simp at h⟩
  | c :: l, h => by
    obtain ⟨v, hv⟩ := h 0 c rfl
    obtain ⟨Vs, h1, h2⟩ := list_choice (R := fun j => R (j + 1)) l fun j c h' => h (j + 1) c (by simpa using h')
    refine ⟨v :: Vs, by simp [h1], fun j c' v' hc hv' => ?_⟩
    cases j with
    | zero => simp at hc hv'; subst hc; subst hv'; exact hv
    | succ j => exact h2 j c' v' (by simpa using hc) (by simpa using hv')
abbrev GM := Nat → Option (Nat × Nat)
/-- A block's type, and its frozen part. -/
abbrev TF := TypeId × Nat × Nat
/-- Worlds in which no block has lost cells. -/
def WStep (w w' : World) : Prop := ∀ (g : Nat) (cs : Array Value) (t : TF), w.heap[g]? = some (.cells cs t.1 t.2) → ∃ (cs' : Array Value) (t' : TF), w'.heap[g]? = some (.cells cs' t'.1 t'.2) ∧ cs.size ≤ cs'.size
theorem WStep.refl (w : World) : WStep w w := fun g cs t h => ⟨cs, t, h, Nat.le_refl _⟩
theorem WStep.trans {a b c : World} (h : WStep a b) (k : WStep b c) : WStep a c := fun g cs t hg =>
  let ⟨_, _, h1, h2⟩ := h g cs t hg
  let ⟨cs', t', h3, h4⟩ := k g _ _ h1
  ⟨cs', t', h3, Nat.le_trans h2 h4⟩
/-- What was there stays, but for what came in to be written. -/
structure Bel (I : Nat → Prop) (B : Nat) (w w' : World) : Prop where
  os : w'.os = w.os
  tape : w'.tape = w.tape
  output : w'.output = w.output
  size : w.heap.size ≤ w'.heap.size
  block : ∀ k, k < B → ¬ I k → w'.heap[k]? = w.heap[k]?
  wst : WStep w w'
theorem wstep_alloc (w : World) (o : Obj) : WStep w (w.alloc o) := fun g cs t h => by
  have hg : g < w.heap.size := by
    rcases Nat.lt_or_ge g w.heap.size with h' | h'
    · exact h'
    · simp [Array.getElem?_eq_none h'] at h
  exact ⟨cs, t, (Below.heap_alloc w o g hg).trans h, Nat.le_refl _⟩
theorem Bel.toBelow {B : Nat} {w w' : World} (h : Bel (fun _ => False) B w w') : Go.RowKit.Below B w w' := ⟨h.os, h.tape, h.output, h.size, fun k hk => h.block k hk id⟩
theorem Bel.refl (I : Nat → Prop) (w : World) : Bel I w.heap.size w w := ⟨rfl, rfl, rfl, Nat.le_refl _, fun _ _ _ => rfl, WStep.refl w⟩
theorem Bel.call {I J : Nat → Prop} {B : Nat} {a w w' : World} (h : Bel I B a w) (k : Bel J w.heap.size w w') (hB : B ≤ w.heap.size) (hJ : ∀ g, J g → B ≤ g ∨ I g) : Bel I B a w' :=
  ⟨k.os.trans h.os, k.tape.trans h.tape, k.output.trans h.output, Nat.le_trans h.size k.size, fun i hi hn =>
    (k.block i (by omega) fun hj => (hJ i hj).elim (fun h => by omega) hn).trans (h.block i hi hn), h.wst.trans k.wst⟩
theorem Bel.alloc {I : Nat → Prop} {B : Nat} {a w : World} (h : Bel I B a w) (hB : B ≤ w.heap.size) (o : Obj) : Bel I B a (w.alloc o) :=
  ⟨h.os, h.tape, h.output, Nat.le_trans h.size (by show w.heap.size ≤ (w.heap.push o).size; simp), fun k hk hn => (Below.heap_alloc w o k (by omega)).trans (h.block k hk hn), h.wst.trans (wstep_alloc w o)⟩
theorem Bel.drew {I : Nat → Prop} {B : Nat} {a w : World} (h : Bel I B a w) : Bel I B a w.drew := ⟨h.os, h.tape, h.output, h.size, h.block, h.wst⟩
abbrev MM := Nat → Option Ent
/-- None of a block's cells is frozen. -/
def nofr (w : World) (g : Nat) : Prop := ∀ (cs : Array Value) (t : TF), w.heap[g]? = some (.cells cs t.1 t.2) → t.2.1 = t.2.2 ∨ cs.size ≤ t.2.1
/-- What a value holds in memory that nobody writes any more. -/
inductive Deep (z : Nat → Prop) (w : World) : Sh → D → Value → Prop
  | int (k : IntKind) (x : Int) : Deep z w (.int k) (.i x) (.int k x)
  | bool (x : Bool) : Deep z w .bool (.b x) (.bool x)
  | str (x : ByteArray) : Deep z w .str (.s x) (.string x)
  | nil (l : List Sh) (a : Option Addr) (c : Nat) : Deep z w (.sl l) (.l []) (.slice a 0 c)
  | sl (l : List Sh) (xs : List (List D)) (g base cap : Nat) (cs : Array Value) (t : TF) (hz : z g) (hg : w.heap[g]? = some (.cells cs t.1 t.2)) (hc : xs.length ≤ cap) (hs : base + xs.length * l.length ≤ cs.size)
      (h : ∀ (i j : Nat) (r : List D) (sh : Sh) (V : Value), xs[i]? = some r → l[j]? = some sh → cs[base + (i * l.length + j)]? = some V → Deep z w sh (nth d0 r j) V) :
      Deep z w (.sl l) (.l xs) (.slice (some ⟨g, base, none⟩) xs.length cap)
theorem Deep.step {z z' : Nat → Prop} {w w' : World} (hz : ∀ g, z g → z' g) (hw : ∀ g, z g → w'.heap[g]? = w.heap[g]?) {sh : Sh} {d : D} {V : Value} (h : Deep z w sh d V) : Deep z' w' sh d V := by
  induction h with
  | int k x => exact .int k x
  | bool x => exact .bool x
  | str x => exact .str x
  | nil l a c => exact .nil l a c
  | sl l xs g base cap cs t h1 h2 h3 h4 h5 ih => exact .sl l xs g base cap cs t (hz g h1) ((hw g h1).trans h2) h3 h4 ih
/-- Names that are taken, and the blocks of memory that nobody writes any more. -/
structure NS where
  f : Nat → Prop
  z : Nat → Prop
instance : CoeFun NS (fun _ => Nat → Prop) := ⟨NS.f⟩
/-- What a function may look at, and what it may write of what came in. -/
structure Ctx where
  a : Nat → Prop
  i : Nat → Prop
  d : List Deferred
/-- A slice of l members from off on, of a block whose members are n cells. -/
def slcOk (γ : GM) (w : World) (b off l n : Nat) (V : Value) : Prop :=
  (l = 0 ∧ ∃ a, V = .slice a 0 0) ∨
  ∃ g base cap, γ b = some (g, base) ∧ V = .slice (some ⟨g, base + off * n, none⟩) l cap ∧ l ≤ cap ∧
    ∃ (cs : Array Value) (t : TF), w.heap[g]? = some (.cells cs t.1 t.2) ∧ base + (off + cap) * n ≤ cs.size
/-- How far a slice reaches. -/
def capV : Value → Nat
  | .slice _ _ c => c
  | _ => 0
def ptrOk (b : Blk) (i n : Nat) : Prop :=
  match b with
  | .cells _ => i = 0 ∧ n = 0
  | .row _ xs => n = 1 ∧ i < xs.length
  | .recs ks xs => n = len ks ∧ i < xs.length
  | .grow l xs => n = len l ∧ i < xs.length
  | .mem .. => False
  | .map .. => False
/-- A row of cells by its data. -/
def DeepR (z : Nat → Prop) (w : World) (l : List Sh) (x : List D) (Vs : Nat → Option Value) : Prop :=
  ∀ (j : Nat) (sh : Sh), l[j]? = some sh → ∃ V, Vs j = some V ∧ Deep z w sh (nth d0 x j) V
def RelC (F : NS) (γ : GM) (m : MM) (w : World) : CV → Value → Prop
  | .val v, V => V = v
  | .any, _ => True
  | .ptr b i n j, V => F b ∧ (∃ g base, γ b = some (g, base) ∧ V = .pointer (some ⟨g, base + (i * n + j), none⟩)) ∧ ∀ e, m b = some e → ptrOk e.blk i n
  | .slf b, V => F b ∧ (∃ a l c, V = .slice a l c) ∧ ∀ e, m b = some e → slcOk γ w b 0 e.blk.len e.blk.n V
  | .slc b off l, V => F b ∧ (∃ a l c, V = .slice a l c) ∧ ∀ e, m b = some e → off + l ≤ e.blk.len ∧ slcOk γ w b off l e.blk.n V ∧ e.blk.len ≤ off + capV V
  | .ro l x, V => Deep F.z w (.sl l) (.l x) V
  | .rop l x j, V => ∃ (g base : Nat) (cs : Array Value) (t : TF), F.z g ∧ w.heap[g]? = some (.cells cs t.1 t.2) ∧ V = .pointer (some ⟨g, base + j, none⟩) ∧ DeepR F.z w l x fun j => cs[base + j]?
  | .mapr b, V => F b ∧ (∃ g base, γ b = some (g, base) ∧ V = .map (some g)) ∧ ∀ e, m b = some e → e.blk.tag = some []
  | .dt h d, V => Deep F.z w h d V
  | .mptr b j l, V => F b ∧ (∃ g base, γ b = some (g, base) ∧ V = .pointer (some ⟨g, base + j, none⟩)) ∧ ∀ e, m b = some e → ∃ L, e.blk.tag = some L ∧ ∀ k, k < l.length → L[j + k]? = l[k]?
def RelP (F : NS) (γ : GM) (m : MM) (w : World) : PV → Value → Prop
  | .one c, V => RelC F γ m w c V
  | .agg l, V => ∃ cs, V = .agg cs ∧ All2 (RelC F γ m w) l cs.toList
  | .dat l ds, V => ∃ cs, V = .agg cs ∧ cs.size = l.length ∧ DeepR F.z w l ds fun j => cs[j]?
def RelV (F : NS) (γ : GM) (m : MM) (w : World) : SV → Value → Prop
  | .pv p, V => RelP F γ m w p V
  | .tup l, V => ∃ vs, V = .tuple vs ∧ All2 (RelP F γ m w) l vs.toList
/-- A row of data, as cells. -/
def dtsL : List Sh → List D → Nat → List CV
  | [], _, _ => []
  | h :: l, ds, j => .dt h (nth d0 ds j) :: dtsL l ds (j + 1)
/-- What stands in a block. -/
def Blk.at (b : Blk) (i j : Nat) : Option CV :=
  match b with
  | .cells l => if i = 0 then l[j]? else none
  | .row k xs => if j = 0 ∧ i < xs.length then some (.val (.int k (nth 0 xs i))) else none
  | .recs ks xs => if i < xs.length then (intsV ks (nth [] xs i) 0)[j]? else none
  | .grow l xs => if i < xs.length then (dtsL l (nth [] xs i) 0)[j]? else none
  | .mem l ds => if i = 0 then (dtsL l ds 0)[j]? else none
  | .map .. => none
def RelB (F : NS) (γ : GM) (m : MM) (w : World) (b : Nat) (blk : Blk) : Prop :=
  ∀ i j c, blk.at i j = some c → ∃ (g base : Nat) (cs : Array Value) (t : TF) (V : Value), γ b = some (g, base) ∧ w.heap[g]? = some (.cells cs t.1 t.2) ∧ cs[base + (i * blk.n + j)]? = some V ∧ RelC F γ m w c V
def valsI : List IntKind → List Int → Nat → List Value
  | [], _, _ => []
  | k :: ks, r, j => .int k (nth 0 r j) :: valsI ks r (j + 1)
/-- A key or value of a map: a number alone, or a struct of two and more. -/
def valK (kk : List IntKind) (q : List Int) : Value := match kk with
  | [k] => .int k (nth 0 q 0)
  | _ => .agg (valsI kk q 0).toArray
/-- A map's entries. -/
def entOk (kk vk : List IntKind) : List (List Int × List Int) → List MapEntry → Prop
  | [], [] => True
  | (k, v) :: l, e :: es => e.key = valK kk k ∧ e.val = valK vk v ∧ k.length = kk.length ∧ entOk kk vk l es
  | _, _ => False
/-- The stamps of a map's entries: all below its clock, no two alike. -/
def bornOk (l : List MapEntry) (clock : Nat) : Prop := (∀ e ∈ l, e.born < clock) ∧ (l.map (·.born)).Nodup
def mapOk (kk vk : List IntKind) (es : List (List Int × List Int)) (ents : Array MapEntry) (clock : Nat) : Prop := entOk kk vk es ents.toList ∧ bornOk ents.toList clock
/-- What is known of the blocks. -/
structure Mem (A : Ctx) (w0 : World) (F : NS) (γ : GM) (m : MM) (rt : List Nat) (w : World) : Prop where
  below : Bel A.i w0.heap.size w0 w
  memr : ∀ b e, m b = some e → F b ∧ RelB F γ m w b e.blk
  own : ∀ b e g base, m b = some e → e.own = true → γ b = some (g, base) → (w0.heap.size ≤ g ∨ A.i g) ∧ ∀ b' e' g' base', b' ≠ b → m b' = some e' → γ b' = some (g', base') → g' ≠ g
  nofr : ∀ b e g base, m b = some e → e.own = true → γ b = some (g, base) → Vm.nofr w g
  shr : ∀ b e g base, m b = some e → e.own = false → γ b = some (g, base) → F.z g
  bnd : ∀ b e g base, m b = some e → γ b = some (g, base) → g < w.heap.size
  maps : ∀ b o kk vk es g base, m b = some ⟨o, .map kk vk es⟩ → γ b = some (g, base) → ∃ ents clock, w.heap[g]? = some (.map ents clock) ∧ mapOk kk vk es ents clock
  zok : ∀ g, F.z g → g < w.heap.size ∧ (A.a g ∨ w0.heap.size ≤ g ∨ A.i g) ∧ ∀ b e base, m b = some e → e.own = true → γ b ≠ some (g, base)
  rts : ∀ b ∈ rt, F b
structure Rel (A : Ctx) (w0 : World) (F : NS) (γ : GM) (s : St) (a : Act) (w : World) : Prop extends Mem A w0 F γ s.mem s.rt w where
  defers : a.defers = A.d
  size : a.tmps.size = s.tmps.length
  slots : ∀ t, RelV F γ s.mem w (nth undefS s.tmps t) (a.tmps.getD t undef)

/-- What is known of names stays. -/
structure MStep (F : NS) (γ : GM) (m : MM) (w : World) (F' : NS) (γ' : GM) (m' : MM) (w' : World) : Prop where
  names : ∀ b, F b → F' b
  same : ∀ b, F b → γ' b = γ b
  mem : ∀ b e', F b → m' b = some e' → ∃ e, m b = some e ∧ e.blk.len = e'.blk.len ∧ e.blk.n = e'.blk.n ∧ e.blk.tag = e'.blk.tag ∧ ∀ i n, ptrOk e.blk i n → ptrOk e'.blk i n
  world : WStep w w'
  zle : ∀ g, F.z g → F'.z g
  zsame : ∀ g, F.z g → w'.heap[g]? = w.heap[g]?
/-- Names stay what they are. -/
def Ext (F : NS) (γ : GM) (F' : NS) (γ' : GM) : Prop := (∀ b, F b → F' b) ∧ ∀ b, F b → γ' b = γ b
theorem Ext.refl (F : NS) (γ : GM) : Ext F γ F γ := ⟨fun _ h => h, fun _ _ => rfl⟩
theorem Ext.trans {F F1 F2 : NS} {γ γ1 γ2 : GM} (h : Ext F γ F1 γ1) (k : Ext F1 γ1 F2 γ2) : Ext F γ F2 γ2 := ⟨fun b hb => k.1 b (h.1 b hb), fun b hb => (k.2 b (h.1 b hb)).trans (h.2 b hb)⟩
section
variable {F F' : NS} {γ γ' : GM} {m m' : MM} {w w' : World}
theorem MStep.ext (s : MStep F γ m w F' γ' m' w') : Ext F γ F' γ' := ⟨s.names, s.same⟩
theorem MStep.refl : MStep F γ m w F γ m w := ⟨fun _ h => h, fun _ _ => rfl, fun b e _ h => ⟨e, h, rfl, rfl, rfl, fun _ _ h => h⟩, WStep.refl w, fun _ h => h, fun _ _ => rfl⟩
theorem MStep.trans {F2 : NS} {γ2 : GM} {m2 : MM} {w2 : World} (s : MStep F γ m w F' γ' m' w') (t : MStep F' γ' m' w' F2 γ2 m2 w2) : MStep F γ m w F2 γ2 m2 w2 :=
  ⟨fun b h => t.names b (s.names b h), fun b h => (t.same b (s.names b h)).trans (s.same b h), fun b e hb he => by
    obtain ⟨e1, h1, h2, h3, h4, h5⟩ := t.mem b e (s.names b hb) he
    obtain ⟨e0, k1, k2, k3, k4, k5⟩ := s.mem b e1 hb h1
    exact ⟨e0, k1, k2.trans h2, k3.trans h3, k4.trans h4, fun i n h => h5 i n (k5 i n h)⟩,
   s.world.trans t.world, fun g h => t.zle g (s.zle g h), fun g h => (t.zsame g (s.zle g h)).trans (s.zsame g h)⟩
theorem slcOk.step (hγ : γ' = γ ∨ ∃ b, γ' b = γ b) {b off l n : Nat} {V : Value} (hb : γ' b = γ b) (hw : WStep w w') (h : slcOk γ w b off l n V) : slcOk γ' w' b off l n V := by
  rcases h with h | ⟨g, base, cap, h1, h2, h3, cs, t, h4, h5⟩
  · exact .inl h
  · obtain ⟨cs', t', h6, h7⟩ := hw g cs t h4
    exact .inr ⟨g, base, cap, hb.trans h1, h2, h3, cs', t', h6, Nat.le_trans h5 h7⟩
theorem DeepR.step {z z' : Nat → Prop} (hz : ∀ g, z g → z' g) (hw : ∀ g, z g → w'.heap[g]? = w.heap[g]?) {l : List Sh} {x : List D} {Vs : Nat → Option Value} (h : DeepR z w l x Vs) : DeepR z' w' l x Vs :=
  fun j sh hj => let ⟨V, h1, h2⟩ := h j sh hj; ⟨V, h1, h2.step hz hw⟩
theorem RelC.step (s : MStep F γ m w F' γ' m' w') {c : CV} {V : Value} (h : RelC F γ m w c V) : RelC F' γ' m' w' c V := by
  cases c with
  | val v => exact h
  | any => trivial
  | ro l x => exact Deep.step s.zle s.zsame h
  | dt l x => exact Deep.step s.zle s.zsame h
  | rop l x j =>
    obtain ⟨g, base, cs, t, h1, h2, h3, h4⟩ := h
    exact ⟨g, base, cs, t, s.zle g h1, (s.zsame g h1).trans h2, h3, h4.step s.zle s.zsame⟩
  | mapr b =>
    obtain ⟨h1, ⟨g, base, h2, h3⟩, h4⟩ := h
    refine ⟨s.names b h1, ⟨g, base, (s.same b h1).trans h2, h3⟩, fun e' he' => ?_⟩
    obtain ⟨e, he, _, _, ht, _⟩ := s.mem b e' h1 he'
    exact ht ▸ h4 e he
  | mptr b j l =>
    obtain ⟨h1, ⟨g, base, h2, h3⟩, h4⟩ := h
    refine ⟨s.names b h1, ⟨g, base, (s.same b h1).trans h2, h3⟩, fun e' he' => ?_⟩
    obtain ⟨e, he, _, _, ht, _⟩ := s.mem b e' h1 he'
    exact ht ▸ h4 e he
  | ptr b i n j =>
    obtain ⟨h1, ⟨g, base, h2, h3⟩, h4⟩ := h
    refine ⟨s.names b h1, ⟨g, base, (s.same b h1).trans h2, h3⟩, fun e' he' => ?_⟩
    obtain ⟨e, he, _, _, _, hp⟩ := s.mem b e' h1 he'
    exact hp _ _ (h4 e he)
  | slf b =>
    obtain ⟨h1, h2, h4⟩ := h
    refine ⟨s.names b h1, h2, fun e' he' => ?_⟩
    obtain ⟨e, he, hl, hn, _⟩ := s.mem b e' h1 he'
    rw [← hl, ← hn]
    exact (h4 e he).step (.inr ⟨b, s.same b h1⟩) (s.same b h1) s.world
  | slc b off l =>
    obtain ⟨h1, h2, h4⟩ := h
    refine ⟨s.names b h1, h2, fun e' he' => ?_⟩
    obtain ⟨e, he, hl, hn, _⟩ := s.mem b e' h1 he'
    rw [← hl, ← hn]
    exact ⟨(h4 e he).1, (h4 e he).2.1.step (.inr ⟨b, s.same b h1⟩) (s.same b h1) s.world, (h4 e he).2.2⟩
theorem RelP.step (s : MStep F γ m w F' γ' m' w') {c : PV} {V : Value} (h : RelP F γ m w c V) : RelP F' γ' m' w' c V := by
  cases c with
  | one c => exact RelC.step s h
  | agg l => obtain ⟨cs, h1, h2⟩ := h; exact ⟨cs, h1, h2.mono fun _ _ => RelC.step s⟩
  | dat l ds => obtain ⟨cs, h1, h2, h3⟩ := h; exact ⟨cs, h1, h2, h3.step s.zle s.zsame⟩
theorem RelV.step (s : MStep F γ m w F' γ' m' w') {c : SV} {V : Value} (h : RelV F γ m w c V) : RelV F' γ' m' w' c V := by
  cases c with
  | pv c => exact RelP.step s h
  | tup l => obtain ⟨cs, h1, h2⟩ := h; exact ⟨cs, h1, h2.mono fun _ _ => RelP.step s⟩
/-- A block's cells stand as they stood. -/
theorem RelB.step (s : MStep F γ m w F' γ' m' w') {b : Nat} {blk : Blk} (h : RelB F γ m w b blk) (hb : γ' b = γ b) (hw : ∀ g base, γ b = some (g, base) → w'.heap[g]? = w.heap[g]?) : RelB F' γ' m' w' b blk := fun i j c hc =>
  let ⟨g, base, cs, t, V, v1, v2, v3, v4⟩ := h i j c hc
  ⟨g, base, cs, t, V, hb.trans v1, (hw g base v1).trans v2, v3, v4.step s⟩
theorem nofr.of {g : Nat} (h : nofr w g) (hw : w'.heap[g]? = w.heap[g]?) : nofr w' g := fun cs t hg => h cs t (hw ▸ hg)
/-- What a datum is, as a cell. -/
theorem Deep.cell {z : Nat → Prop} {h : Sh} {d : D} {V : Value} (hd : Deep z w h d V) (hz : ∀ g, z g → F.z g) : RelC F γ m w (cvOf h d) V := by
  cases hd with
  | int k x => exact rfl
  | bool x => exact rfl
  | str x => exact rfl
  | nil l a c => exact Deep.nil l a c
  | sl l xs g base cap cs t h1 h2 h3 h4 h5 => exact (Deep.sl l xs g base cap cs t h1 h2 h3 h4 h5).step (z' := F.z) hz fun _ _ => rfl
theorem DeepR.cells {l : List Sh} {x : List D} {Vs : Nat → Option Value} (h : DeepR F.z w l x Vs) : ∀ (l2 : List Sh) (j0 : Nat), (∀ k, l[j0 + k]? = l2[k]?) → ∀ (k : Nat) (c : CV), (cvsL l2 x j0)[k]? = some c → ∃ V, Vs (j0 + k) = some V ∧ RelC F γ m w c V
  | [], j0, _, k, c, hc => by simp [cvsL] at hc
  | sh :: l2, j0, hl, k, c, hc => by
    cases k with
    | zero =>
      simp only [cvsL, List.getElem?_cons_zero, Option.some.injEq] at hc
      subst hc
      obtain ⟨V, h1, h2⟩ := h j0 sh (by have := hl 0; simpa using this)
      exact ⟨V, h1, h2.cell fun _ h => h⟩
    | succ k =>
      simp only [cvsL, List.getElem?_cons_succ] at hc
      obtain ⟨V, h1, h2⟩ := DeepR.cells h l2 (j0 + 1) (fun k => by have := hl (k + 1); rw [show j0 + 1 + k = j0 + (k + 1) by omega]; simpa using this) k c hc
      exact ⟨V, by rw [show j0 + (k + 1) = j0 + 1 + k by omega]; exact h1, h2⟩
theorem cvsL_len : ∀ (l : List Sh) (x : List D) (j : Nat), (cvsL l x j).length = l.length
  | [], _, _ => rfl
  | _ :: l, x, j => by simp [cvsL, cvsL_len l]
theorem dtsL_len : ∀ (l : List Sh) (x : List D) (j : Nat), (dtsL l x j).length = l.length
  | [], _, _ => rfl
  | _ :: l, x, j => by simp [dtsL, dtsL_len l]
theorem dtsL_get : ∀ (l : List Sh) (x : List D) (j k : Nat), (dtsL l x j)[k]? = (l[k]?).map fun h => .dt h (nth d0 x (j + k))
  | [], _, _, _ => by simp [dtsL]
  | h :: l, x, j, 0 => by simp [dtsL]
  | h :: l, x, j, k + 1 => by simp only [dtsL, List.getElem?_cons_succ, dtsL_get l]; rw [show j + 1 + k = j + (k + 1) by omega]
theorem cvsL_get : ∀ (l : List Sh) (x : List D) (j k : Nat), (cvsL l x j)[k]? = (l[k]?).map fun h => cvOf h (nth d0 x (j + k))
  | [], _, _, _ => by simp [cvsL]
  | h :: l, x, j, 0 => by simp [cvsL]
  | h :: l, x, j, k + 1 => by simp only [cvsL, List.getElem?_cons_succ, cvsL_get l]; rw [show j + 1 + k = j + (k + 1) by omega]
end

theorem put_tmps (a : Act) (dst : Option Tmp) (V : Value) (t : Nat) : (a.put dst V).tmps.getD t undef = if dst = some t ∧ t < a.tmps.size then V else a.tmps.getD t undef := by
  cases dst with
  | none => simp [Act.put]
  | some d =>
    simp only [Act.put, Array.getD_eq_getD_getElem?, Array.getElem?_setIfInBounds]
    by_cases h : d = t
    · subst h
      by_cases h' : d < a.tmps.size
      · simp [h']
      · simp [h', Array.getElem?_eq_none (Nat.le_of_not_lt h')]
    · simp [h]
theorem put_size (a : Act) (dst : Option Tmp) (V : Value) : (a.put dst V).tmps.size = a.tmps.size := by cases dst <;> simp [Act.put]
theorem put_defers0 (a : Act) (dst : Option Tmp) (V : Value) : (a.put dst V).defers = a.defers := by cases dst <;> rfl
theorem app_tmps (s : St) (dst : Option Tmp) (o : Out) (t : Nat) : nth undefS (s.app dst o).tmps t = if dst = some t ∧ t < s.tmps.length then o.v else nth undefS s.tmps t := by
  cases dst with
  | none => simp [St.app]
  | some d =>
    simp only [St.app, nth_put]
    by_cases h : d = t
    · subst h; simp
    · have : ¬ t = d := fun e => h e.symm
      simp [h, this]
theorem app_len (s : St) (dst : Option Tmp) (o : Out) : (s.app dst o).tmps.length = s.tmps.length := by
  cases dst <;> simp [St.app, put_eq]
/-- A step: the slots behind it. -/
theorem Rel.put {A : Ctx} {w0 : World} {F F' : NS} {γ γ' : GM} {s : St} {a : Act} {w w' : World} (R : Rel A w0 F γ s a w) {dst : Option Tmp} {o : Out} {V : Value}
    (ms : MStep F γ s.mem w F' γ' (updM s.mem o.upd) w') (hv : RelV F' γ' (updM s.mem o.upd) w' o.v V) (M : Mem A w0 F' γ' (updM s.mem o.upd) s.rt w') : Rel A w0 F' γ' (s.app dst o) (a.put dst V) w' := by
  refine { M with defers := (put_defers0 a dst V).trans R.defers, size := by rw [put_size, app_len]; exact R.size, slots := fun t => ?_ }
  rw [app_tmps, put_tmps, R.size]
  split
  · exact hv
  · exact (R.slots t).step ms
/-- An operation that only looks. -/
theorem Rel.putV {A : Ctx} {w0 : World} {F : NS} {γ : GM} {s : St} {a : Act} {w : World} (R : Rel A w0 F γ s a w) (dst : Option Tmp) {v : SV} {V : Value}
    (hv : RelV F γ s.mem w v V) : Rel A w0 F γ (s.app dst ⟨v, []⟩) (a.put dst V) w :=
  R.put (o := ⟨v, []⟩) MStep.refl hv R.toMem
theorem relC_val (F : NS) (γ : GM) (m : MM) (w : World) (v : Value) : RelC F γ m w (.val v) v := rfl
theorem all2_val (F : NS) (γ : GM) (m : MM) (w : World) : ∀ l : List Value, All2 (RelC F γ m w) (l.map .val) l
  | [] => trivial
  | v :: l => ⟨rfl, all2_val F γ m w l⟩
theorem relP_pvOf (F : NS) (γ : GM) (m : MM) (w : World) (v : Value) : RelP F γ m w (pvOf v) v := by
  cases v <;> first | exact rfl | exact ⟨_, rfl, all2_val F γ m w _⟩
theorem all2_pvOf (F : NS) (γ : GM) (m : MM) (w : World) : ∀ l : List Value, All2 (RelP F γ m w) (l.map pvOf) l
  | [] => trivial
  | v :: l => ⟨relP_pvOf F γ m w v, all2_pvOf F γ m w l⟩
theorem relV_svOf (F : NS) (γ : GM) (m : MM) (w : World) (v : Value) : RelV F γ m w (svOf v) v := by
  cases v <;> first | exact rfl | exact ⟨_, rfl, all2_val F γ m w _⟩ | exact ⟨_, rfl, all2_pvOf F γ m w _⟩
/-- What an operand is. -/
theorem Rel.ev {A : Ctx} {w0 : World} {F : NS} {γ : GM} {s : St} {a : Act} {w : World} (R : Rel A w0 F γ s a w) (x : Operand) : RelV F γ s.mem w (s.ev x) (a.eval x) := by
  cases x with
  | tmp t => exact R.slots t
  | const v => exact relV_svOf F γ s.mem w v
  | global g => exact rfl
  | func f => exact rfl
end Go.Proofs.Ytmmaechogibodaa.Vm

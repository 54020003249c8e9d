/- Shapes read and made again, for calls and loops. Conditions: none here. -/
import Derived.Test.YtoibhkhgpahdjaaVmJ
set_option linter.unusedVariables false
set_option linter.unusedSimpArgs false
namespace Go.Proofs.Ytoibhkhgpahdjaa.Vm
open Go Go.RowKit

/-- Where a block told anew lies. -/
def shiftA (γ : GM) : Asg → Option (Nat × Nat)
  | none => none
  | some (b, off, n) => (γ b).map fun x => (x.1, x.2 + off * n)
/-- A block told anew is a part of the old one. -/
def AsgOk (m : MM) (as : Asg × Bool) (e : Ent) : Prop :=
  e.own = as.2 ∧ e.blk.isRow = true ∧ match as.1 with
    | none => e.blk.len = 0
    | some (b, off, n) => ∃ e0, m b = some e0 ∧ (as.2 = true → e0.own = true) ∧ e0.blk.isRow = true ∧ n = e0.blk.n ∧ e.blk.n = n ∧ ∀ (f : Nat) (v : Value), (vals e.blk)[f]? = some v → (vals e0.blk)[off * n + f]? = some v
/-- The new names are what they should be. -/
structure Told (γ : GM) (q : Nat) (as : List (Asg × Bool)) (es : List Ent) (F' : Nat → Prop) (γ' : GM) (m' : MM) : Prop where
  name : ∀ (i : Nat) (e : Ent), es[i]? = some e → F' (q + i)
  ent : ∀ (i : Nat) (e : Ent), es[i]? = some e → m' (q + i) = some e
  place : ∀ (i : Nat) (x : Asg × Bool), as[i]? = some x → γ' (q + i) = shiftA γ x.1
section
variable {m : MM} {γ : GM} {w : World} {F : Nat → Prop}
theorem Told.left {q : Nat} {as as2 : List (Asg × Bool)} {es es2 : List Ent} {F' : Nat → Prop} {γ' : GM} {m' : MM} (h : Told γ q (as ++ as2) (es ++ es2) F' γ' m') : Told γ q as es F' γ' m' :=
  ⟨fun i e he => h.name i e (by rw [List.getElem?_append_left (List.getElem?_eq_some_iff.1 he).1]; exact he), fun i e he => h.ent i e (by rw [List.getElem?_append_left (List.getElem?_eq_some_iff.1 he).1]; exact he),
   fun i x hx => h.place i x (by rw [List.getElem?_append_left (List.getElem?_eq_some_iff.1 hx).1]; exact hx)⟩
theorem Told.right {q : Nat} {as as2 : List (Asg × Bool)} {es es2 : List Ent} {F' : Nat → Prop} {γ' : GM} {m' : MM} (hl : as.length = es.length) (h : Told γ q (as ++ as2) (es ++ es2) F' γ' m') : Told γ (q + es.length) as2 es2 F' γ' m' :=
  ⟨fun i e he => by have := h.name (es.length + i) e (by rw [List.getElem?_append_right (by omega)]; simpa using he); rwa [← Nat.add_assoc] at this,
   fun i e he => by have := h.ent (es.length + i) e (by rw [List.getElem?_append_right (by omega)]; simpa using he); rwa [← Nat.add_assoc] at this,
   fun i x hx => by have := h.place (es.length + i) x (by rw [List.getElem?_append_right (by omega)]; simpa [hl] using hx); rwa [← Nat.add_assoc] at this⟩
/-- A cell, read and told anew. -/
structure Again (m : MM) (γ : GM) (w : World) (F : Nat → Prop) (us : List U) (as : List (Asg × Bool)) (mk : Nat → List U → Option (List CV × List Ent × List U)) (cs : List CV) : Prop where
  make : ∀ (q : Nat) (r : List U), ∃ cs' es, mk q (us ++ r) = some (cs', es, r) ∧ es.length = as.length ∧ (∀ (i : Nat) (e : Ent) (x : Asg × Bool), es[i]? = some e → as[i]? = some x → AsgOk m x e) ∧
    ∀ Vs, All2 (RelC F γ m w) cs Vs → ∀ (F' : Nat → Prop) (γ' : GM) (m' : MM), Told γ q as es F' γ' m' → All2 (RelC F' γ' m' w) cs' Vs
theorem slf_again {b off l n q : Nat} {V : Value} {F' : Nat → Prop} {γ' : GM} {m' : MM} {e : Ent} (hF : F' q) (hm : m' q = some e) (hγ : γ' q = shiftA γ (some (b, off, n))) (hs : ∃ a l c, V = .slice a l c)
    (h : slcOk γ w b off l n V) (hl : e.blk.len = l) (hn : e.blk.n = n) : RelC F' γ' m' w (.slf q) V := by
  refine ⟨hF, hs, fun e' he' => ?_⟩
  rw [hm] at he'; obtain rfl := Option.some.inj he'
  rw [hl, hn]
  rcases h with h | ⟨g, base, cap, h1, h2, h3, cs, t, h4, h5⟩
  · exact .inl h
  · refine .inr ⟨g, base + off * n, cap, by rw [hγ]; simp [shiftA, h1], by simpa using h2, h3, cs, t, h4, ?_⟩
    rw [Nat.zero_add]; rw [Nat.add_mul] at h5; omega
theorem again_row {k : IntKind} {own o' : Bool} {b off l : Nat} {c : CV} {xs : List Int} (hb : m b = some ⟨o', .row k xs⟩) (ho : own = true → o' = true) {ys : List Int}
    (hv : ∀ (f : Nat) (v : Value), (vals (.row k ys))[f]? = some v → (vals (.row k xs))[off * 1 + f]? = some v)
    (hc : ∀ V, RelC F γ m w c V → (∃ a l c, V = .slice a l c) ∧ slcOk γ w b off ys.length 1 V) :
    Again m γ w F [.r ys] [(some (b, off, 1), own)] (fun q us => mkCs q [.row k own] us) [c] :=
  ⟨fun q r => ⟨[.slf q], [⟨own, .row k ys⟩], rfl, rfl, fun i e x he hx => by
      cases i with
      | zero =>
        obtain rfl := Option.some.inj he
        obtain rfl := Option.some.inj hx
        exact ⟨rfl, rfl, _, hb, ho, rfl, rfl, rfl, hv⟩
      | succ i => simp at he, fun Vs hr F' γ' m' T => by
      match Vs, hr with
      | [V], hr =>
        obtain ⟨h1, h2⟩ := hc V hr.1
        exact ⟨slf_again (T.name 0 _ rfl) (T.ent 0 _ rfl) (T.place 0 _ rfl) h1 h2 rfl rfl, trivial⟩
      | [], hr => exact hr.elim
      | _ :: _ :: _, hr => exact hr.2.elim⟩⟩
theorem again_recs {ks : List IntKind} {own o' : Bool} {b off l : Nat} {c : CV} {xs : List (List Int)} (hb : m b = some ⟨o', .recs ks xs⟩) (ho : own = true → o' = true) {ys : List (List Int)}
    (hv : ∀ (f : Nat) (v : Value), (vals (.recs ks ys))[f]? = some v → (vals (.recs ks xs))[off * len ks + f]? = some v)
    (hc : ∀ V, RelC F γ m w c V → (∃ a l c, V = .slice a l c) ∧ slcOk γ w b off ys.length (len ks) V) :
    Again m γ w F [.rr ys] [(some (b, off, len ks), own)] (fun q us => mkCs q [.recs ks own] us) [c] :=
  ⟨fun q r => ⟨[.slf q], [⟨own, .recs ks ys⟩], rfl, rfl, fun i e x he hx => by
      cases i with
      | zero =>
        obtain rfl := Option.some.inj he
        obtain rfl := Option.some.inj hx
        exact ⟨rfl, rfl, _, hb, ho, rfl, rfl, rfl, hv⟩
      | succ i => simp at he, fun Vs hr F' γ' m' T => by
      match Vs, hr with
      | [V], hr =>
        obtain ⟨h1, h2⟩ := hc V hr.1
        exact ⟨slf_again (T.name 0 _ rfl) (T.ent 0 _ rfl) (T.place 0 _ rfl) h1 h2 rfl rfl, trivial⟩
      | [], hr => exact hr.elim
      | _ :: _ :: _, hr => exact hr.2.elim⟩⟩
theorem again_nil {e : Ent} {u : U} {p : CP} {own : Bool} (hmk : ∀ q r, mkCs q [p] (u :: r) = some ([.slf q], [e], r)) (he : e.own = own ∧ e.blk.isRow = true ∧ e.blk.len = 0) :
    Again m γ w F [u] [(none, own)] (fun q us => mkCs q [p] us) [.val (.slice none 0 0)] :=
  ⟨fun q r => ⟨[.slf q], [e], hmk q r, rfl, fun i e' x he' hx => by
      cases i with
      | zero =>
        obtain rfl := Option.some.inj he'
        obtain rfl := Option.some.inj hx
        exact ⟨he.1, he.2.1, he.2.2⟩
      | succ i => simp at he', fun Vs hr F' γ' m' T => by
      match Vs, hr with
      | [V], hr =>
        obtain rfl : V = .slice none 0 0 := hr.1
        refine ⟨⟨T.name 0 _ rfl, ⟨_, _, _, rfl⟩, fun e' he' => ?_⟩, trivial⟩
        rw [show q = q + 0 from rfl, T.ent 0 _ rfl] at he'
        obtain rfl := Option.some.inj he'
        exact .inl ⟨he.2.2, _, rfl⟩
      | [], hr => exact hr.elim
      | _ :: _ :: _, hr => exact hr.2.elim⟩⟩
theorem again_val {u : U} {p : CP} {v : Value} (hmk : ∀ q r, mkCs q [p] (u :: r) = some ([.val v], [], r)) : Again m γ w F [u] [] (fun q us => mkCs q [p] us) [.val v] :=
  ⟨fun q r => ⟨[.val v], [], hmk q r, rfl, fun i e x he hx => by simp at he, fun Vs hr F' γ' m' T => by
      match Vs, hr with
      | [V], hr => exact ⟨hr.1, trivial⟩
      | [], hr => exact hr.elim
      | _ :: _ :: _, hr => exact hr.2.elim⟩⟩
theorem trim_len {α : Type} (xs : List α) (off l : Nat) (h : off + l ≤ xs.length) : ((xs.drop off).take l).length = l := by simp; omega
theorem rdC_again {p : CP} {c : CV} {u : U} {as : List (Asg × Bool)} (h : rdC m p c = some (u, as)) : Again m γ w F [u] as (fun q us => mkCs q [p] us) [c] := by
  unfold rdC at h
  split at h
  · split at h
    · rename_i e; subst e
      obtain ⟨rfl, rfl⟩ := Prod.mk.inj (Option.some.inj h)
      exact again_val fun q r => rfl
    · cases h
  · obtain ⟨rfl, rfl⟩ := Prod.mk.inj (Option.some.inj h); exact again_val fun q r => rfl
  · obtain ⟨rfl, rfl⟩ := Prod.mk.inj (Option.some.inj h); exact again_val fun q r => rfl
  · rename_i k o b
    split at h
    · rename_i o' k' xs hb
      have hs : ∀ V, RelC F γ m w (.slf b) V → (∃ a l c, V = .slice a l c) ∧ slcOk γ w b 0 xs.length 1 V := fun V hV => ⟨hV.2.1, hV.2.2 _ hb⟩
      split at h
      · rename_i e; subst e
        split at h
        · rename_i ho
          split at h
          · rename_i ho'
            obtain ⟨rfl, rfl⟩ := Prod.mk.inj (Option.some.inj h)
            rw [ho]; exact again_row (l := 0) hb (fun _ => ho') (fun f v hf => by simpa using hf) hs
          · cases h
        · rename_i ho
          obtain ⟨rfl, rfl⟩ := Prod.mk.inj (Option.some.inj h)
          rw [show o = false by simpa using ho]; exact again_row (l := 0) hb (fun h => by cases h) (fun f v hf => by simpa using hf) hs
      · cases h
    · cases h
  · rename_i k o b off l
    split at h
    · rename_i o' k' xs hb
      have hs : ∀ V, RelC F γ m w (.slc b off l) V → (∃ a l c, V = .slice a l c) ∧ slcOk γ w b off ((xs.drop off).take l).length 1 V := fun V hV => by
        obtain ⟨h1, h2⟩ := hV.2.2 _ hb
        rw [trim_len xs off l h1]; exact ⟨hV.2.1, h2⟩
      split at h
      · rename_i e; subst e
        split at h
        · rename_i ho
          split at h
          · rename_i ho'
            obtain ⟨rfl, rfl⟩ := Prod.mk.inj (Option.some.inj h)
            rw [ho]; exact again_row (l := 0) hb (fun _ => ho') (fun f v hf => vals_trim hf) hs
          · cases h
        · rename_i ho
          obtain ⟨rfl, rfl⟩ := Prod.mk.inj (Option.some.inj h)
          rw [show o = false by simpa using ho]; exact again_row (l := 0) hb (fun h => by cases h) (fun f v hf => vals_trim hf) hs
      · cases h
    · cases h
  · obtain ⟨rfl, rfl⟩ := Prod.mk.inj (Option.some.inj h); exact again_nil (fun q r => rfl) ⟨rfl, rfl, rfl⟩
  · rename_i k o b
    split at h
    · rename_i o' k' xs hb
      have hs : ∀ V, RelC F γ m w (.slf b) V → (∃ a l c, V = .slice a l c) ∧ slcOk γ w b 0 xs.length (len k') V := fun V hV => ⟨hV.2.1, hV.2.2 _ hb⟩
      split at h
      · rename_i e; subst e
        split at h
        · rename_i ho
          split at h
          · rename_i ho'
            obtain ⟨rfl, rfl⟩ := Prod.mk.inj (Option.some.inj h)
            rw [ho]; exact again_recs (l := 0) hb (fun _ => ho') (fun f v hf => by simpa using hf) hs
          · cases h
        · rename_i ho
          obtain ⟨rfl, rfl⟩ := Prod.mk.inj (Option.some.inj h)
          rw [show o = false by simpa using ho]; exact again_recs (l := 0) hb (fun h => by cases h) (fun f v hf => by simpa using hf) hs
      · cases h
    · cases h
  · rename_i k o b off l
    split at h
    · rename_i o' k' xs hb
      have hs : ∀ V, RelC F γ m w (.slc b off l) V → (∃ a l c, V = .slice a l c) ∧ slcOk γ w b off ((xs.drop off).take l).length (len k') V := fun V hV => by
        obtain ⟨h1, h2⟩ := hV.2.2 _ hb
        rw [trim_len xs off l h1]; exact ⟨hV.2.1, h2⟩
      split at h
      · rename_i e; subst e
        split at h
        · rename_i ho
          split at h
          · rename_i ho'
            obtain ⟨rfl, rfl⟩ := Prod.mk.inj (Option.some.inj h)
            rw [ho]; exact again_recs (l := 0) hb (fun _ => ho') (fun f v hf => vals_trimR hf) hs
          · cases h
        · rename_i ho
          obtain ⟨rfl, rfl⟩ := Prod.mk.inj (Option.some.inj h)
          rw [show o = false by simpa using ho]; exact again_recs (l := 0) hb (fun h => by cases h) (fun f v hf => vals_trimR hf) hs
      · cases h
    · cases h
  · obtain ⟨rfl, rfl⟩ := Prod.mk.inj (Option.some.inj h); exact again_nil (fun q r => rfl) ⟨rfl, rfl, rfl⟩
  · cases h
theorem all2_append {α β : Type} {R : α → β → Prop} : ∀ {l : List α} {m : List β} {l' : List α} {m' : List β}, All2 R l m → All2 R l' m' → All2 R (l ++ l') (m ++ m')
  | [], [], _, _, _, h => h
  | a :: l, b :: m, _, _, h, h' => ⟨h.1, all2_append h.2 h'⟩
  | [], _ :: _, _, _, h, _ => h.elim
  | _ :: _, [], _, _, h, _ => h.elim
theorem mkCs_cons (q : Nat) (p : CP) (ps : List CP) (us : List U) {cs : List CV} {es : List Ent} {r : List U} (h1 : mkCs q [p] us = some (cs, es, r)) : mkCs q (p :: ps) us = match mkCs (q + es.length) ps r with | some (cs', es', r') => some (cs ++ cs', es ++ es', r') | none => none := by
  cases p with
  | int k => cases us with
    | nil => simp [mkCs] at h1
    | cons u us => cases u <;> simp [mkCs] at h1; obtain ⟨rfl, rfl, rfl⟩ := h1; simp only [mkCs, List.length_nil, Nat.add_zero]; rfl
  | bool => cases us with
    | nil => simp [mkCs] at h1
    | cons u us => cases u <;> simp [mkCs] at h1; obtain ⟨rfl, rfl, rfl⟩ := h1; simp only [mkCs, List.length_nil, Nat.add_zero]; rfl
  | str => cases us with
    | nil => simp [mkCs] at h1
    | cons u us => cases u <;> simp [mkCs] at h1; obtain ⟨rfl, rfl, rfl⟩ := h1; simp only [mkCs, List.length_nil, Nat.add_zero]; rfl
  | row k o => cases us with
    | nil => simp [mkCs] at h1
    | cons u us => cases u <;> simp [mkCs] at h1; obtain ⟨rfl, rfl, rfl⟩ := h1; simp only [mkCs, List.length_singleton]; rfl
  | recs k o => cases us with
    | nil => simp [mkCs] at h1
    | cons u us => cases u <;> simp [mkCs] at h1; obtain ⟨rfl, rfl, rfl⟩ := h1; simp only [mkCs, List.length_singleton]; rfl
theorem rdCs_again : ∀ {ps : List CP} {cs : List CV} {us : List U} {as : List (Asg × Bool)}, rdCs m ps cs = some (us, as) → Again m γ w F us as (fun q us => mkCs q ps us) cs
  | [], [], us, as, h => by
    obtain ⟨rfl, rfl⟩ := Prod.mk.inj (Option.some.inj h)
    exact ⟨fun q r => ⟨[], [], rfl, rfl, fun i e x he hx => by simp at he, fun Vs hr F' γ' m' T => by cases Vs with | nil => trivial | cons => exact hr.elim⟩⟩
  | p :: ps, c :: cs, us, as, h => by
    simp only [rdCs] at h
    split at h
    · rename_i u a1 h1
      split at h
      · rename_i us' a2 h2
        obtain ⟨rfl, rfl⟩ := Prod.mk.inj (Option.some.inj h)
        have A1 := rdC_again (γ := γ) (w := w) (F := F) h1
        have A2 : Again m γ w F us' a2 (fun q us => mkCs q ps us) cs := rdCs_again h2
        refine ⟨fun q r => ?_⟩
        obtain ⟨cs1, es1, k1, k2, k3, k4⟩ := A1.make q (us' ++ r)
        obtain ⟨cs2, es2, j1, j2, j3, j4⟩ := A2.make (q + es1.length) r
        refine ⟨cs1 ++ cs2, es1 ++ es2, ?_, by simp [k2, j2], fun i e x he hx => ?_, fun Vs hr F' γ' m' T => ?_⟩
        · have k1' : mkCs q [p] (u :: us' ++ r) = some (cs1, es1, us' ++ r) := k1
          show mkCs q (p :: ps) (u :: us' ++ r) = _
          rw [mkCs_cons q p ps _ k1']
          have j1' : mkCs (q + es1.length) ps (us' ++ r) = some (cs2, es2, r) := j1
          rw [j1']
        · by_cases hi : i < es1.length
          · rw [List.getElem?_append_left hi] at he
            rw [List.getElem?_append_left (by omega)] at hx
            exact k3 i e x he hx
          · rw [List.getElem?_append_right (by omega)] at he
            rw [List.getElem?_append_right (by omega)] at hx
            exact j3 _ e x he (by rw [← hx]; congr 1; omega)
        · cases Vs with
          | nil => exact hr.elim
          | cons V Vs => exact all2_append (k4 [V] ⟨hr.1, trivial⟩ F' γ' m' T.left) (j4 Vs hr.2 F' γ' m' (T.right k2.symm))
      · cases h
    · cases h
  | [], _ :: _, us, as, h => by simp [rdCs] at h
  | _ :: _, [], us, as, h => by simp [rdCs] at h
end
end Go.Proofs.Ytoibhkhgpahdjaa.Vm

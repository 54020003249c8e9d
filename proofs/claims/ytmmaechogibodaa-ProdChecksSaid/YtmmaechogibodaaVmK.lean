/- Shapes read and made again, for calls and loops. Conditions: none here. -/
import Derived.Test.YtmmaechogibodaaVmJ
set_option linter.unusedVariables false
set_option linter.unusedSimpArgs false
namespace Go.Proofs.Ytmmaechogibodaa.Vm
open Go Go.RowKit

/-- Where a block told anew lies. -/
def shiftA (γ : GM) : Asg → Option (Nat × Nat)
  | none => none
  | some (b, off, n) => (γ b).map fun x => (x.1, x.2 + off * n)
/-- A block told anew is one that there was, or a part of it. -/
def AsgOk (m : MM) (as : Asg × Bool) (e : Ent) : Prop :=
  e.own = as.2 ∧ match as.1 with
    | none => e.blk.isRows = true ∧ e.blk.len = 0
    | some (b, off, n) => ∃ e0, m b = some e0 ∧ (as.2 = true → e0.own = true) ∧ ∀ kk vk es, e.blk = .map kk vk es → e0.blk = .map kk vk es
/-- The new names are what they should be. -/
structure Told (γ : GM) (q : Nat) (as : List (Asg × Bool)) (es : List Ent) (F' : NS) (γ' : GM) (m' : MM) : Prop where
  name : ∀ (i : Nat) (e : Ent), es[i]? = some e → F' (q + i)
  ent : ∀ (i : Nat) (e : Ent), es[i]? = some e → m' (q + i) = some e
  place : ∀ (i : Nat) (x : Asg × Bool), as[i]? = some x → γ' (q + i) = shiftA γ x.1
section
variable {A : Ctx} {w0 : World} {rt : List Nat} {m : MM} {γ : GM} {w : World} {F : NS}
theorem Told.left {q : Nat} {as as2 : List (Asg × Bool)} {es es2 : List Ent} {F' : NS} {γ' : GM} {m' : MM} (h : Told γ q (as ++ as2) (es ++ es2) F' γ' m') : Told γ q as es F' γ' m' :=
  ⟨fun i e he => h.name i e (by rw [List.getElem?_append_left (List.getElem?_eq_some_iff.1 he).1]; exact he), fun i e he => h.ent i e (by rw [List.getElem?_append_left (List.getElem?_eq_some_iff.1 he).1]; exact he),
   fun i x hx => h.place i x (by rw [List.getElem?_append_left (List.getElem?_eq_some_iff.1 hx).1]; exact hx)⟩
theorem Told.right {q : Nat} {as as2 : List (Asg × Bool)} {es es2 : List Ent} {F' : NS} {γ' : GM} {m' : MM} (hl : as.length = es.length) (h : Told γ q (as ++ as2) (es ++ es2) F' γ' m') : Told γ (q + es.length) as2 es2 F' γ' m' :=
  ⟨fun i e he => by have := h.name (es.length + i) e (by rw [List.getElem?_append_right (by omega)]; simpa using he); rwa [← Nat.add_assoc] at this,
   fun i e he => by have := h.ent (es.length + i) e (by rw [List.getElem?_append_right (by omega)]; simpa using he); rwa [← Nat.add_assoc] at this,
   fun i x hx => by have := h.place (es.length + i) x (by rw [List.getElem?_append_right (by omega)]; simpa [hl] using hx); rwa [← Nat.add_assoc] at this⟩
theorem Told.tail {q : Nat} {x : Asg × Bool} {as : List (Asg × Bool)} {e : Ent} {es : List Ent} {F' : NS} {γ' : GM} {m' : MM} (h : Told γ q (x :: as) (e :: es) F' γ' m') : Told γ (q + 1) as es F' γ' m' :=
  Told.right (as := [x]) (es := [e]) rfl h
/-- Blocks and cells, told anew, hold what they held. -/
def Anew (m : MM) (γ : GM) (w : World) (F : NS) (as : List (Asg × Bool)) (q : Nat) (es : List Ent) {α : Type} (Q : (F' : NS) → (γ' : GM) → (m' : MM) → Prop) : Prop :=
  es.length = as.length ∧ (∀ (i : Nat) (e : Ent) (x : Asg × Bool), es[i]? = some e → as[i]? = some x → AsgOk m x e) ∧
    ∀ (F' : NS) (γ' : GM) (m' : MM), Told γ q as es F' γ' m' → (∀ g, F.z g → F'.z g) → Q F' γ' m' ∧ ∀ (i : Nat) (e : Ent), es[i]? = some e → RelB F' γ' m' w (q + i) e.blk
/-- A cell, read and told anew. -/
structure Again (m : MM) (γ : GM) (w : World) (F : NS) (us : List U) (as : List (Asg × Bool)) (mk : Nat → List U → Option (List CV × List Ent × List U)) (cs : List CV) : Prop where
  make : ∀ (q : Nat) (r : List U), ∃ cs' es, mk q (us ++ r) = some (cs', es, r) ∧ Anew m γ w F as q es (α := Unit) fun F' γ' m' => (∀ (k : Nat) (c c' : CV) (V : Value), cs[k]? = some c → cs'[k]? = some c' → RelC F γ m w c V → RelC F' γ' m' w c' V) ∧ cs'.length = cs.length
theorem slf_again {b off l n q : Nat} {V : Value} {F' : NS} {γ' : GM} {m' : MM} {e : Ent} (hF : F' q) (hm : m' q = some e) (hγ : γ' q = shiftA γ (some (b, off, n))) (hs : ∃ a l c, V = .slice a l c)
    (h : slcOk γ w b off l n V) (hl : e.blk.len = l) (hn : e.blk.n = n) : RelC F' γ' m' w (.slf q) V := by
  refine ⟨hF, hs, fun e' he' => ?_⟩
  rw [hm] at he'; obtain rfl := Option.some.inj he'
  rw [hl, hn]
  rcases h with h | ⟨g, base, cap, h1, h2, h3, cs, t, h4, h5⟩
  · exact .inl h
  · refine .inr ⟨g, base + off * n, cap, by rw [hγ]; simp [shiftA, h1], by simpa using h2, h3, cs, t, h4, ?_⟩
    rw [Nat.zero_add]; rw [Nat.add_mul] at h5; omega
/-- A part of a block of members, at its new name. -/
theorem relB_part {b off n q : Nat} {e e0 : Blk} {F' : NS} {γ' : GM} {m' : MM} (hz : ∀ g, F.z g → F'.z g) (hr : e.isRows = true) (hp : PartOf e e0 off) (hn : e0.n = n) (h : RelB F γ m w b e0) (hγ : γ' q = shiftA γ (some (b, off, n))) : RelB F' γ' m' w q e := fun i j c hc => by
  obtain ⟨g, base, cs, t, V, k1, k2, k3, k4⟩ := h (off + i) j c (hp.2 i j c hc)
  refine ⟨g, base + off * n, cs, t, V, by rw [hγ]; simp [shiftA, k1], k2, ?_, k4.free ((at_rows hr).1 i j c hc).2.2 hz fun _ _ => rfl⟩
  rw [← k3, hp.1, hn]; congr 1; rw [Nat.add_mul]; omega
theorem get1 {α : Type} {x y : α} {k : Nat} (h : [x][k]? = some y) : k = 0 ∧ y = x := by
  cases k with
  | zero => simp at h; exact ⟨rfl, h.symm⟩
  | succ k => simp at h
theorem again_rows (M : Mem A w0 F γ m rt w) {p : CP} {u : U} {own o' : Bool} {b off n : Nat} {c : CV} {blk blk0 : Blk} (hmk : ∀ q r, mkCs q [p] (u :: r) = some ([.slf q], [⟨own, blk⟩], r)) (hb : m b = some ⟨o', blk0⟩) (ho : own = true → o' = true) (hr : blk.isRows = true) (hp : PartOf blk blk0 off) (hn : blk0.n = n)
    (hc : ∀ V, RelC F γ m w c V → (∃ a l c, V = .slice a l c) ∧ slcOk γ w b off blk.len n V) :
    Again m γ w F [u] [(some (b, off, n), own)] (fun q us => mkCs q [p] us) [c] :=
  ⟨fun q r => ⟨[.slf q], [⟨own, blk⟩], hmk q r, rfl, fun i e x he hx => by
      obtain ⟨rfl, rfl⟩ := get1 he
      obtain ⟨_, rfl⟩ := get1 hx
      exact ⟨rfl, _, hb, ho, fun kk vk es e => absurd e (rows_nomap hr kk vk es)⟩, fun F' γ' m' T hz => ⟨⟨fun k c' c2 V hc' hc2 hV => by
      obtain ⟨rfl, rfl⟩ := get1 hc'
      obtain ⟨_, rfl⟩ := get1 hc2
      obtain ⟨h1, h2⟩ := hc V hV
      exact slf_again (T.name 0 _ rfl) (T.ent 0 _ rfl) (T.place 0 _ rfl) h1 h2 rfl (hp.1.trans hn), rfl⟩, fun i e he => by
      obtain ⟨rfl, rfl⟩ := get1 he
      exact relB_part hz hr hp hn (M.memr b _ hb).2 (T.place 0 _ rfl)⟩⟩⟩
theorem again_nil {e : Ent} {u : U} {p : CP} {own : Bool} (hmk : ∀ q r, mkCs q [p] (u :: r) = some ([.slf q], [e], r)) (he : e.own = own ∧ e.blk.isRows = true ∧ e.blk.len = 0) :
    Again m γ w F [u] [(none, own)] (fun q us => mkCs q [p] us) [.val (.slice none 0 0)] :=
  ⟨fun q r => ⟨[.slf q], [e], hmk q r, rfl, fun i e' x he' hx => by
      obtain ⟨rfl, rfl⟩ := get1 he'
      obtain ⟨_, rfl⟩ := get1 hx
      exact ⟨he.1, he.2.1, he.2.2⟩, fun F' γ' m' T hz => ⟨⟨fun k c' c2 V hc' hc2 hV => by
      obtain ⟨rfl, rfl⟩ := get1 hc'
      obtain ⟨_, rfl⟩ := get1 hc2
      obtain rfl : V = .slice none 0 0 := hV
      refine ⟨T.name 0 _ rfl, ⟨_, _, _, rfl⟩, fun e' he' => ?_⟩
      rw [show q = q + 0 from rfl, T.ent 0 _ rfl] at he'
      obtain rfl := Option.some.inj he'
      exact .inl ⟨he.2.2, _, rfl⟩, rfl⟩, fun i e' he' => by
      obtain ⟨rfl, rfl⟩ := get1 he'
      intro i j c hc
      have := ((at_rows he.2.1).1 i j c hc).2.1
      omega⟩⟩⟩
theorem again_val {u : U} {p : CP} {c c' : CV} (hmk : ∀ q r, mkCs q [p] (u :: r) = some ([c'], [], r)) (hc : ∀ (F' : NS) (γ' : GM) (m' : MM) (V : Value), (∀ g, F.z g → F'.z g) → RelC F γ m w c V → RelC F' γ' m' w c' V) : Again m γ w F [u] [] (fun q us => mkCs q [p] us) [c] :=
  ⟨fun q r => ⟨[c'], [], hmk q r, rfl, fun i e x he hx => by simp at he, fun F' γ' m' T hz => ⟨⟨fun k d d' V hd hd' hV => by
      obtain ⟨rfl, rfl⟩ := get1 hd
      obtain ⟨_, rfl⟩ := get1 hd'
      exact hc F' γ' m' V hz hV, rfl⟩, fun i e he => by simp at he⟩⟩⟩
theorem trim_len {α : Type} (xs : List α) (off l : Nat) (h : off + l ≤ xs.length) : ((xs.drop off).take l).length = l := by simp; omega
theorem rdC_again (M : Mem A w0 F γ m rt w) {p : CP} {c : CV} {u : U} {as : List (Asg × Bool)} (h : rdC m p c = some (u, as)) : Again m γ w F [u] as (fun q us => mkCs q [p] us) [c] := by
  unfold rdC at h
  split at h
  · split at h
    · rename_i e; subst e
      obtain ⟨rfl, rfl⟩ := Prod.mk.inj (Option.some.inj h)
      exact again_val (fun q r => rfl) fun _ _ _ _ _ h => h
    · cases h
  · obtain ⟨rfl, rfl⟩ := Prod.mk.inj (Option.some.inj h); exact again_val (fun q r => rfl) fun _ _ _ _ _ h => h
  · obtain ⟨rfl, rfl⟩ := Prod.mk.inj (Option.some.inj h); exact again_val (fun q r => rfl) fun _ _ _ _ _ h => h
  · rename_i k o b
    split at h
    · rename_i o' k' xs hb
      have hs : ∀ V, RelC F γ m w (.slf b) V → (∃ a l c, V = .slice a l c) ∧ slcOk γ w b 0 xs.length 1 V := fun V hV => ⟨hV.2.1, hV.2.2 _ hb⟩
      split at h
      · rename_i e; subst e
        split at h
        · rename_i ho
          split at h
          · rename_i ho'
            obtain ⟨rfl, rfl⟩ := Prod.mk.inj (Option.some.inj h)
            rw [ho]; exact again_rows M (blk := .row k xs) (fun q r => rfl) hb (fun _ => ho') rfl (partOf_self _) rfl hs
          · cases h
        · rename_i ho
          obtain ⟨rfl, rfl⟩ := Prod.mk.inj (Option.some.inj h)
          rw [show o = false by simpa using ho]; exact again_rows M (blk := .row k xs) (fun q r => rfl) hb (fun h => by cases h) rfl (partOf_self _) rfl hs
      · cases h
    · cases h
  · rename_i k o b off l
    split at h
    · rename_i o' k' xs hb
      have hs : ∀ V, RelC F γ m w (.slc b off l) V → (∃ a l c, V = .slice a l c) ∧ slcOk γ w b off (Blk.row k ((xs.drop off).take l)).len 1 V := fun V hV => by
        obtain ⟨h1, h2, _⟩ := hV.2.2 _ hb
        have e : (Blk.row k ((xs.drop off).take l)).len = l := trim_len xs off l h1
        rw [e]; exact ⟨hV.2.1, h2⟩
      split at h
      · rename_i e; subst e
        split at h
        · rename_i ho
          split at h
          · rename_i ho'
            obtain ⟨rfl, rfl⟩ := Prod.mk.inj (Option.some.inj h)
            rw [ho]; exact again_rows M (fun q r => rfl) hb (fun _ => ho') rfl (partOf_row k xs off l) rfl hs
          · cases h
        · rename_i ho
          obtain ⟨rfl, rfl⟩ := Prod.mk.inj (Option.some.inj h)
          rw [show o = false by simpa using ho]; exact again_rows M (fun q r => rfl) hb (fun h => by cases h) rfl (partOf_row k xs off l) rfl hs
      · cases h
    · cases h
  · obtain ⟨rfl, rfl⟩ := Prod.mk.inj (Option.some.inj h); exact again_nil (fun q r => rfl) ⟨rfl, rfl, rfl⟩
  · rename_i k o b
    split at h
    · rename_i o' k' xs hb
      have hs : ∀ V, RelC F γ m w (.slf b) V → (∃ a l c, V = .slice a l c) ∧ slcOk γ w b 0 xs.length (len k') V := fun V hV => ⟨hV.2.1, hV.2.2 _ hb⟩
      split at h
      · rename_i e; subst e
        split at h
        · rename_i ho
          split at h
          · rename_i ho'
            obtain ⟨rfl, rfl⟩ := Prod.mk.inj (Option.some.inj h)
            rw [ho]; exact again_rows M (blk := .recs k xs) (fun q r => rfl) hb (fun _ => ho') rfl (partOf_self _) rfl hs
          · cases h
        · rename_i ho
          obtain ⟨rfl, rfl⟩ := Prod.mk.inj (Option.some.inj h)
          rw [show o = false by simpa using ho]; exact again_rows M (blk := .recs k xs) (fun q r => rfl) hb (fun h => by cases h) rfl (partOf_self _) rfl hs
      · cases h
    · cases h
  · rename_i k o b off l
    split at h
    · rename_i o' k' xs hb
      have hs : ∀ V, RelC F γ m w (.slc b off l) V → (∃ a l c, V = .slice a l c) ∧ slcOk γ w b off (Blk.recs k ((xs.drop off).take l)).len (len k') V := fun V hV => by
        obtain ⟨h1, h2, _⟩ := hV.2.2 _ hb
        have e : (Blk.recs k ((xs.drop off).take l)).len = l := trim_len xs off l h1
        rw [e]; exact ⟨hV.2.1, h2⟩
      split at h
      · rename_i e; subst e
        split at h
        · rename_i ho
          split at h
          · rename_i ho'
            obtain ⟨rfl, rfl⟩ := Prod.mk.inj (Option.some.inj h)
            rw [ho]; exact again_rows M (fun q r => rfl) hb (fun _ => ho') rfl (partOf_recs k xs off l) rfl hs
          · cases h
        · rename_i ho
          obtain ⟨rfl, rfl⟩ := Prod.mk.inj (Option.some.inj h)
          rw [show o = false by simpa using ho]; exact again_rows M (fun q r => rfl) hb (fun h => by cases h) rfl (partOf_recs k xs off l) rfl hs
      · cases h
    · cases h
  · obtain ⟨rfl, rfl⟩ := Prod.mk.inj (Option.some.inj h); exact again_nil (fun q r => rfl) ⟨rfl, rfl, rfl⟩
  · rename_i l
    split at h
    · rename_i d hd
      obtain ⟨rfl, rfl⟩ := Prod.mk.inj (Option.some.inj h)
      refine again_val (c' := .ro l d.toL) (fun q r => rfl) fun F' γ' m' V hz hV => ?_
      have := toD_deep M hd hV
      have e : D.l d.toL = d := by cases this <;> rfl
      show Deep F'.z w (.sl l) (.l d.toL) V
      rw [e]; exact this.step hz fun _ _ => rfl
    · cases h
  · rename_i l b
    split at h
    · rename_i l' xs hb
      split at h
      · rename_i e
        obtain rfl := shsEq_spec e
        obtain ⟨rfl, rfl⟩ := Prod.mk.inj (Option.some.inj h)
        exact again_rows M (blk := .grow l xs) (fun q r => rfl) hb (fun _ => rfl) rfl (partOf_self _) rfl fun V hV => ⟨hV.2.1, hV.2.2 _ hb⟩
      · cases h
    · cases h
  · obtain ⟨rfl, rfl⟩ := Prod.mk.inj (Option.some.inj h); exact again_nil (fun q r => rfl) ⟨rfl, rfl, rfl⟩
  · rename_i kk vk b
    split at h
    · rename_i kk' vk' es hb
      split at h
      · rename_i e
        obtain ⟨rfl, rfl⟩ := e
        obtain ⟨rfl, rfl⟩ := Prod.mk.inj (Option.some.inj h)
        refine ⟨fun q r => ⟨[.mapr q], [⟨true, .map kk vk es⟩], rfl, rfl, fun i e x he hx => ?_, fun F' γ' m' T hz => ⟨⟨fun k c' c2 V hc' hc2 hV => ?_, rfl⟩, fun i e he => ?_⟩⟩⟩
        · obtain ⟨rfl, rfl⟩ := get1 he
          obtain ⟨_, rfl⟩ := get1 hx
          exact ⟨rfl, _, hb, fun _ => rfl, fun _ _ _ e => e⟩
        · obtain ⟨rfl, rfl⟩ := get1 hc'
          obtain ⟨_, rfl⟩ := get1 hc2
          obtain ⟨h1, ⟨g, base, h2, h3⟩, h4⟩ := hV
          refine ⟨T.name 0 _ rfl, ⟨g, base + 0 * 0, ?_, h3⟩, fun e he => ?_⟩
          · have := T.place 0 _ rfl
            rw [Nat.add_zero] at this
            rw [this]; simp [shiftA, h2]
          · have := T.ent 0 _ rfl
            rw [Nat.add_zero] at this
            rw [this] at he
            obtain rfl := Option.some.inj he
            rfl
        · obtain ⟨rfl, rfl⟩ := get1 he
          intro i j c hc
          simp [Blk.at] at hc
      · cases h
    · cases h
  · split at h
    · rename_i e; subst e
      obtain ⟨rfl, rfl⟩ := Prod.mk.inj (Option.some.inj h)
      exact again_val (fun q r => rfl) fun _ _ _ _ _ h => h
    · cases h
  · obtain ⟨rfl, rfl⟩ := Prod.mk.inj (Option.some.inj h); exact again_val (fun q r => rfl) fun _ _ _ _ _ h => h
  · rename_i k b off l
    split at h
    · rename_i ks' xs hb
      split at h
      · rename_i e; subst e
        obtain ⟨rfl, rfl⟩ := Prod.mk.inj (Option.some.inj h)
        refine ⟨fun q r => ⟨[.slc q 0 l], [⟨true, .recs k xs⟩], rfl, rfl, fun i e x he hx => ?_, fun F' γ' m' T hz => ⟨⟨fun kk c' c2 V hc' hc2 hV => ?_, rfl⟩, fun i e he => ?_⟩⟩⟩
        · obtain ⟨rfl, rfl⟩ := get1 he
          obtain ⟨_, rfl⟩ := get1 hx
          exact ⟨rfl, _, hb, fun _ => rfl, fun kk vk es e => absurd e (rows_nomap rfl kk vk es)⟩
        · obtain ⟨rfl, rfl⟩ := get1 hc'
          obtain ⟨_, rfl⟩ := get1 hc2
          obtain ⟨h1, h2, h3⟩ := hV
          refine ⟨T.name 0 _ rfl, h2, fun e' he' => ?_⟩
          rw [show q = q + 0 from rfl, T.ent 0 _ rfl] at he'
          obtain rfl := Option.some.inj he'
          obtain ⟨k1, k2, k3⟩ := h3 _ hb
          refine ⟨k1, ?_, k3⟩
          rcases k2 with k2 | ⟨g, base, cap, j1, j2, j3, cs, t, j4, j5⟩
          · exact .inl k2
          · refine .inr ⟨g, base + 0 * len k, cap, ?_, by simpa using j2, j3, cs, t, j4, by simpa using j5⟩
            have := T.place 0 _ rfl
            rw [Nat.add_zero] at this
            rw [this]; simp [shiftA, j1]
        · obtain ⟨rfl, rfl⟩ := get1 he
          exact relB_part hz rfl (partOf_self _) rfl (M.memr b _ hb).2 (T.place 0 _ rfl)
      · cases h
    · cases h
  · cases h
theorem all2_append {α β : Type} {R : α → β → Prop} : ∀ {l : List α} {m : List β} {l' : List α} {m' : List β}, All2 R l m → All2 R l' m' → All2 R (l ++ l') (m ++ m')
  | [], [], _, _, _, h => h
  | a :: l, b :: m, _, _, h, h' => ⟨h.1, all2_append h.2 h'⟩
  | [], _ :: _, _, _, h, _ => h.elim
  | _ :: _, [], _, _, h, _ => h.elim
theorem mkCs_cons (q : Nat) (p : CP) (ps : List CP) (us : List U) {cs : List CV} {es : List Ent} {r : List U} (h1 : mkCs q [p] us = some (cs, es, r)) : mkCs q (p :: ps) us = match mkCs (q + es.length) ps r with | some (cs', es', r') => some (cs ++ cs', es ++ es', r') | none => none := by
  cases p <;> cases us <;> first | (simp [mkCs] at h1; done) | skip
  all_goals
    rename_i u us
    cases u <;> simp [mkCs] at h1
    obtain ⟨rfl, rfl, rfl⟩ := h1
    simp only [mkCs, List.length_nil, Nat.add_zero, List.length_singleton, List.drop_one]
    rfl
theorem rdCs_again (M : Mem A w0 F γ m rt w) : ∀ {ps : List CP} {cs : List CV} {us : List U} {as : List (Asg × Bool)}, rdCs m ps cs = some (us, as) → Again m γ w F us as (fun q us => mkCs q ps us) cs
  | [], [], us, as, h => by
    obtain ⟨rfl, rfl⟩ := Prod.mk.inj (Option.some.inj h)
    exact ⟨fun q r => ⟨[], [], rfl, rfl, fun i e x he hx => by simp at he, fun F' γ' m' T hz => ⟨⟨fun k c c' V hc => by simp at hc, rfl⟩, fun i e he => by simp at he⟩⟩⟩
  | p :: ps, c :: cs, us, as, h => by
    simp only [rdCs] at h
    split at h
    · rename_i u a1 h1
      split at h
      · rename_i us' a2 h2
        obtain ⟨rfl, rfl⟩ := Prod.mk.inj (Option.some.inj h)
        have A1 := rdC_again M h1
        have A2 : Again m γ w F us' a2 (fun q us => mkCs q ps us) cs := rdCs_again M h2
        refine ⟨fun q r => ?_⟩
        obtain ⟨cs1, es1, k1, k2, k3, k4⟩ := A1.make q (us' ++ r)
        obtain ⟨cs2, es2, j1, j2, j3, j4⟩ := A2.make (q + es1.length) r
        refine ⟨cs1 ++ cs2, es1 ++ es2, ?_, by simp [k2, j2], fun i e x he hx => ?_, fun F' γ' m' T hz => ?_⟩
        · have k1' : mkCs q [p] (u :: us' ++ r) = some (cs1, es1, us' ++ r) := k1
          show mkCs q (p :: ps) (u :: us' ++ r) = _
          rw [mkCs_cons q p ps _ k1']
          have j1' : mkCs (q + es1.length) ps (us' ++ r) = some (cs2, es2, r) := j1
          rw [j1']
        · by_cases hi : i < es1.length
          · rw [List.getElem?_append_left hi] at he
            rw [List.getElem?_append_left (by omega)] at hx
            exact k3 i e x he hx
          · rw [List.getElem?_append_right (by omega)] at he
            rw [List.getElem?_append_right (by omega)] at hx
            exact j3 _ e x he (by rw [← hx]; congr 1; omega)
        · obtain ⟨⟨q1, q2⟩, q3⟩ := k4 F' γ' m' T.left hz
          obtain ⟨⟨p1, p2⟩, p3⟩ := j4 F' γ' m' (T.right k2.symm) hz
          simp only [List.length_singleton] at q2
          refine ⟨⟨fun k c0 c' V hc0 hc' hV => ?_, by simp [q2, p2]; omega⟩, fun i e he => ?_⟩
          · cases k with
            | zero =>
              rw [List.getElem?_append_left (by omega)] at hc'
              exact q1 0 c0 c' V (by simpa using hc0) hc' hV
            | succ k =>
              rw [List.getElem?_append_right (by omega), q2, Nat.add_sub_cancel] at hc'
              exact p1 k c0 c' V (by simpa using hc0) hc' hV
          · by_cases hi : i < es1.length
            · rw [List.getElem?_append_left hi] at he
              exact q3 i e he
            · rw [List.getElem?_append_right (by omega)] at he
              have := p3 _ e he
              rwa [show q + es1.length + (i - es1.length) = q + i by omega] at this
      · cases h
    · cases h
  | [], _ :: _, us, as, h => by simp [rdCs] at h
  | _ :: _, [], us, as, h => by simp [rdCs] at h
/-- Cells told anew: what they hold. -/
theorem Again.all2 {cs cs' : List CV} {F' : NS} {γ' : GM} {m' : MM} (h : ∀ (k : Nat) (c c' : CV) (V : Value), cs[k]? = some c → cs'[k]? = some c' → RelC F γ m w c V → RelC F' γ' m' w c' V) (hl : cs'.length = cs.length) {Vs : List Value} (hr : All2 (RelC F γ m w) cs Vs) : All2 (RelC F' γ' m' w) cs' Vs :=
  All2.of_get (by rw [hl, hr.length]) fun k c' V hc' hV => by
    have hk : k < cs.length := by have := (List.getElem?_eq_some_iff.1 hc').1; omega
    obtain ⟨V', h1, h2⟩ := hr.get k cs[k] (List.getElem?_eq_getElem hk)
    rw [hV] at h1
    obtain rfl := Option.some.inj h1
    exact h k _ c' V (List.getElem?_eq_getElem hk) hc' h2
end
end Go.Proofs.Ytmmaechogibodaa.Vm

/- States read by a shape and told anew. Conditions: none here. -/
import Derived.Test.YtmmaechogibodaaVmT
import Derived.LoopN
set_option linter.unusedVariables false
set_option linter.unusedSimpArgs false
namespace Go.Proofs.Ytmmaechogibodaa.Vm
open Go Go.RowKit

section
variable {P : Program} {A : Ctx} {w0 : World} {F : NS} {γ : GM} {s : St} {a : Act} {w : World} {rt : List Nat}
section
variable {m : MM} {nb : Nat} {all : List (Nat × SP)} {tmps : List SV}
theorem Anew.append {as1 as2 : List (Asg × Bool)} {q : Nat} {es1 es2 : List Ent} {Q1 Q2 : NS → GM → MM → Prop} (h1 : Anew m γ w F as1 q es1 (α := Unit) Q1) (h2 : Anew m γ w F as2 (q + es1.length) es2 (α := Unit) Q2) :
    Anew m γ w F (as1 ++ as2) q (es1 ++ es2) (α := Unit) fun F' γ' m' => Q1 F' γ' m' ∧ Q2 F' γ' m' := by
  obtain ⟨k2, k3, k4⟩ := h1
  obtain ⟨j2, j3, j4⟩ := h2
  refine ⟨by simp [k2, j2], fun i e x he hx => ?_, fun F' γ' m' T hz => ⟨⟨(k4 F' γ' m' T.left hz).1, (j4 F' γ' m' (T.right k2.symm) hz).1⟩, fun i e he => ?_⟩⟩
  · by_cases hi : i < es1.length
    · rw [List.getElem?_append_left hi] at he
      rw [List.getElem?_append_left (by omega)] at hx
      exact k3 i e x he hx
    · rw [List.getElem?_append_right (by omega)] at he
      rw [List.getElem?_append_right (by omega)] at hx
      exact j3 _ e x he (by rw [← hx]; congr 1; omega)
  · by_cases hi : i < es1.length
    · rw [List.getElem?_append_left hi] at he
      exact (k4 F' γ' m' T.left hz).2 i e he
    · rw [List.getElem?_append_right (by omega)] at he
      have := (j4 F' γ' m' (T.right k2.symm) hz).2 _ e he
      rwa [show q + es1.length + (i - es1.length) = q + i by omega] at this
theorem Anew.mono {as : List (Asg × Bool)} {q : Nat} {es : List Ent} {Q Q' : NS → GM → MM → Prop} (h : Anew m γ w F as q es (α := Unit) Q) (hq : ∀ F' γ' m', (∀ g, F.z g → F'.z g) → Q F' γ' m' → Q' F' γ' m') : Anew m γ w F as q es (α := Unit) Q' :=
  ⟨h.1, h.2.1, fun F' γ' m' T hz => ⟨hq F' γ' m' hz (h.2.2 F' γ' m' T hz).1, (h.2.2 F' γ' m' T hz).2⟩⟩
theorem Anew.nil {q : Nat} {Q : NS → GM → MM → Prop} (h : ∀ F' γ' m', (∀ g, F.z g → F'.z g) → Q F' γ' m') : Anew m γ w F [] q [] (α := Unit) Q :=
  ⟨rfl, fun i e x he => by simp at he, fun F' γ' m' T hz => ⟨h F' γ' m' hz, fun i e he => by simp at he⟩⟩
/-- Blocks of cells that slots point to stand at their numbers. -/
def Boxed (m : MM) (γ : GM) (nb : Nat) (all : List (Nat × SP)) (tmps : List SV) (F' : NS) (γ' : GM) (m' : MM) : Prop :=
  ∀ id b, id < nb → boxAt id tmps all = some b → F' id ∧ γ' id = γ b ∧ ∃ e e', m b = some e ∧ m' id = some e' ∧ AsLong e.blk e'.blk
theorem spOk_spec {id b : Nat} (h : spOk id nb all tmps b = true) : boxAt id tmps all = some b ∧ id < nb := by
  unfold spOk at h
  split at h
  · rename_i b' hb
    split at h
    · rename_i e; obtain ⟨rfl, h2⟩ := e; exact ⟨hb, h2⟩
    · cases h
  · cases h
/-- A slot told of its block, at the block's number. -/
theorem slot_again {q t : Nat} {c' : SV} {tm0 : List SV} {l : List (Nat × SP)} {as : List (Asg × Bool)} {us r : List U} {V : Nat → Value}
    (h : ∃ tm es, mkSlots q l (put tm0 t c') (us ++ r) = some (tm, es, r) ∧ tm.length = (put tm0 t c').length ∧ Anew m γ w F as q es (α := Unit) fun F' γ' m' => Boxed m γ nb all tmps F' γ' m' → (∀ t', RelV F' γ' m' w (nth undefS (put tm0 t c') t') (V t')) → ∀ t, RelV F' γ' m' w (nth undefS tm t) (V t))
    (hc : ∀ (F' : NS) (γ' : GM) (m' : MM), Boxed m γ nb all tmps F' γ' m' → RelV F' γ' m' w c' (V t)) :
    ∃ tm es, mkSlots q l (put tm0 t c') (us ++ r) = some (tm, es, r) ∧ tm.length = tm0.length ∧ Anew m γ w F as q es (α := Unit) fun F' γ' m' => Boxed m γ nb all tmps F' γ' m' → (∀ t, RelV F' γ' m' w (nth undefS tm0 t) (V t)) → ∀ t, RelV F' γ' m' w (nth undefS tm t) (V t) := by
  obtain ⟨tm, es, j1, j4, j5⟩ := h
  refine ⟨tm, es, j1, by rw [j4, put_eq]; simp, j5.mono fun F' γ' m' hz hq hb h0 => hq hb fun t' => ?_⟩
  rw [nth_put]
  split
  · rename_i ht
    obtain ⟨rfl, _⟩ := ht
    exact hc F' γ' m' hb
  · exact h0 t'
theorem slcOk.name {γ' : GM} {b b' off l n : Nat} {V : Value} (hγ : γ' b' = γ b) (h : slcOk γ w b off l n V) : slcOk γ' w b' off l n V := by
  unfold slcOk at h ⊢
  rw [hγ]; exact h
theorem slots_again (M : Mem A w0 F γ m rt w) {V : Nat → Value} (hV : ∀ t, RelV F γ m w (nth undefS tmps t) (V t)) : ∀ {l : List (Nat × SP)} {us : List U} {as : List (Asg × Bool)}, rdSlots m nb all tmps l = some (us, as) → ∀ (q : Nat) (tm0 : List SV) (r : List U),
    ∃ tm es, mkSlots q l tm0 (us ++ r) = some (tm, es, r) ∧ tm.length = tm0.length ∧ Anew m γ w F as q es (α := Unit) fun F' γ' m' => Boxed m γ nb all tmps F' γ' m' → (∀ t, RelV F' γ' m' w (nth undefS tm0 t) (V t)) → ∀ t, RelV F' γ' m' w (nth undefS tm t) (V t)
  | [], us, as, h, q, tm0, r => by
    simp only [rdSlots, Option.some.injEq, Prod.mk.injEq] at h
    obtain ⟨rfl, rfl⟩ := h
    exact ⟨tm0, [], rfl, rfl, Anew.nil fun F' γ' m' hz _ h => h⟩
  | (t, .pv p) :: l, us, as, h, q, tm0, r => by
    simp only [rdSlots] at h
    split at h
    · rename_i v hv
      split at h
      · rename_i u1 a1 h1
        split at h
        · rename_i u2 a2 h2
          obtain ⟨rfl, rfl⟩ := Prod.mk.inj (Option.some.inj h)
          obtain ⟨c1, es1, k1, k2⟩ := rdP_again M h1 q (u2 ++ r)
          obtain ⟨tm, es2, j1, j2, j3⟩ := slots_again M hV h2 (q + es1.length) (put tm0 t (.pv c1)) r
          refine ⟨tm, es1 ++ es2, ?_, by rw [j2, put_eq]; simp, (k2.append j3).mono fun F' γ' m' hz ⟨q1, q2⟩ hb h0 => q2 hb fun t' => ?_⟩
          · rw [List.append_assoc]
            simp only [mkSlots, k1, len_eq, j1]
          · rw [nth_put]
            split
            · rename_i ht
              obtain ⟨rfl, _⟩ := ht
              have := hV t'
              rw [hv] at this
              exact q1 _ this
            · exact h0 t'
        · cases h
      · cases h
    · cases h
  | (t, .box id j) :: l, us, as, h, q, tm0, r => by
    simp only [rdSlots] at h
    split at h
    · rename_i b j' hv
      split at h
      · rename_i hsp hj
        obtain ⟨hb', hid⟩ := spOk_spec hsp
        obtain rfl : j = j' := by simpa using hj
        simp only [mkSlots]
        refine slot_again (slots_again M hV h q _ r) fun F' γ' m' hb => ?_
        have := hV t
        rw [hv] at this
        obtain ⟨h1, ⟨g, base, h2, h3⟩, h4⟩ := this
        obtain ⟨q1, q2, e1, e2, q3, q4, q5⟩ := hb id b hid hb'
        exact ⟨q1, ⟨g, base, q2.trans h2, h3⟩, fun e he => by rw [q4] at he; obtain rfl := Option.some.inj he; exact q5.2.2.2 _ _ (h4 e1 q3)⟩
      · cases h
    · cases h
  | (t, .arr id) :: l, us, as, h, q, tm0, r => by
    simp only [rdSlots] at h
    split at h
    · rename_i b hv
      split at h
      · rename_i hsp
        obtain ⟨hb', hid⟩ := spOk_spec hsp
        simp only [mkSlots]
        refine slot_again (slots_again M hV h q _ r) fun F' γ' m' hb => ?_
        have := hV t
        rw [hv] at this
        obtain ⟨h1, ⟨g, base, h2, h3⟩, h4⟩ := this
        obtain ⟨q1, q2, e1, e2, q3, q4, q5⟩ := hb id b hid hb'
        exact ⟨q1, ⟨g, base, q2.trans h2, h3⟩, fun e he => by rw [q4] at he; obtain rfl := Option.some.inj he; exact q5.2.2.2 _ _ (h4 e1 q3)⟩
      · cases h
    · cases h
  | (t, .slf id) :: l, us, as, h, q, tm0, r => by
    simp only [rdSlots] at h
    split at h
    · rename_i b hv
      split at h
      · rename_i hsp
        obtain ⟨hb', hid⟩ := spOk_spec hsp
        simp only [mkSlots]
        refine slot_again (slots_again M hV h q _ r) fun F' γ' m' hb => ?_
        have := hV t
        rw [hv] at this
        obtain ⟨h1, h2, h4⟩ := this
        obtain ⟨q1, q2, e1, e2, q3, q4, q5⟩ := hb id b hid hb'
        refine ⟨q1, h2, fun e he => ?_⟩
        rw [q4] at he; obtain rfl := Option.some.inj he
        rw [← q5.1, ← q5.2.1]
        exact (h4 e1 q3).name q2
      · cases h
    · cases h
  | (t, .mapr id) :: l, us, as, h, q, tm0, r => by
    simp only [rdSlots] at h
    split at h
    · rename_i b hv
      split at h
      · rename_i hsp
        obtain ⟨hb', hid⟩ := spOk_spec hsp
        simp only [mkSlots]
        refine slot_again (slots_again M hV h q _ r) fun F' γ' m' hb => ?_
        have := hV t
        rw [hv] at this
        obtain ⟨h1, ⟨g, base, h2, h3⟩, h4⟩ := this
        obtain ⟨q1, q2, e1, e2, q3, q4, q5⟩ := hb id b hid hb'
        exact ⟨q1, ⟨g, base, q2.trans h2, h3⟩, fun e he => by rw [q4] at he; obtain rfl := Option.some.inj he; rw [← q5.2.2.1]; exact h4 e1 q3⟩
      · cases h
    · cases h
  | (t, .mem id j L) :: l, us, as, h, q, tm0, r => by
    simp only [rdSlots] at h
    split at h
    · rename_i b j' L' hv
      split at h
      · rename_i hsp hj
        obtain ⟨hb', hid⟩ := spOk_spec hsp
        simp only [Bool.and_eq_true] at hj
        obtain rfl : j = j' := by simpa using hj.1
        obtain rfl := shsEq_spec hj.2
        simp only [mkSlots]
        refine slot_again (slots_again M hV h q _ r) fun F' γ' m' hb => ?_
        have := hV t
        rw [hv] at this
        obtain ⟨h1, ⟨g, base, h2, h3⟩, h4⟩ := this
        obtain ⟨q1, q2, e1, e2, q3, q4, q5⟩ := hb id b hid hb'
        exact ⟨q1, ⟨g, base, q2.trans h2, h3⟩, fun e he => by rw [q4] at he; obtain rfl := Option.some.inj he; rw [← q5.2.2.1]; exact h4 e1 q3⟩
      · cases h
    · cases h
theorem at_free {blk : Blk} (hn : ∀ l, blk ≠ .cells l) {i j : Nat} {c : CV} (hc : blk.at i j = some c) : c.free = true := by
  cases blk with
  | cells l => exact absurd rfl (hn l)
  | mem l ds =>
    simp only [Blk.at] at hc
    split at hc
    · rw [dtsL_get] at hc
      cases hj : l[j]? with
      | none => rw [hj] at hc; cases hc
      | some sh => rw [hj] at hc; obtain rfl := Option.some.inj hc; rfl
    · cases hc
  | map kk vk es => simp [Blk.at] at hc
  | row k xs => exact ((at_rows (blk := .row k xs) rfl).1 i j c hc).2.2
  | recs k xs => exact ((at_rows (blk := .recs k xs) rfl).1 i j c hc).2.2
  | grow k xs => exact ((at_rows (blk := .grow k xs) rfl).1 i j c hc).2.2
/-- A block that is told whole, at another name. -/
theorem relB_again (M : Mem A w0 F γ m rt w) {b id n : Nat} {o : Bool} {blk : Blk} (hb : m b = some ⟨o, blk⟩) (hn : ∀ l, blk ≠ .cells l) {F' : NS} {γ' : GM} {m' : MM} (hz : ∀ g, F.z g → F'.z g) (hγ : γ' id = shiftA γ (some (b, 0, n))) : RelB F' γ' m' w id blk := fun i j c hc => by
  obtain ⟨g, base, cs, t, V, k1, k2, k3, k4⟩ := (M.memr b _ hb).2 i j c hc
  exact ⟨g, base, cs, t, V, by rw [hγ]; simp [shiftA, k1], k2, k3, k4.free (at_free hn hc) hz fun _ _ => rfl⟩
/-- Cells of which some are slices of other blocks. -/
theorem rdCR_again (M : Mem A w0 F γ m rt w) : ∀ {ps : List CR} {cs : List CV} {us : List U} {as : List (Asg × Bool)}, rdCR m nb all tmps ps cs = some (us, as) → ∀ (q : Nat) (r : List U),
    ∃ cs' es, mkCR q ps (us ++ r) = some (cs', es, r) ∧ Anew m γ w F as q es (α := Unit) fun F' γ' m' => Boxed m γ nb all tmps F' γ' m' → (∀ (k : Nat) (c c' : CV) (V : Value), cs[k]? = some c → cs'[k]? = some c' → RelC F γ m w c V → RelC F' γ' m' w c' V) ∧ cs'.length = cs.length
  | [], [], us, as, h, q, r => by
    simp only [rdCR, Option.some.injEq, Prod.mk.injEq] at h
    obtain ⟨rfl, rfl⟩ := h
    exact ⟨[], [], rfl, Anew.nil fun F' γ' m' hz _ => ⟨fun k c c' V h => by simp at h, rfl⟩⟩
  | .c p :: ps, c :: cs, us, as, h, q, r => by
    simp only [rdCR] at h
    split at h
    · rename_i u a1 h1
      split at h
      · rename_i u2 a2 h2
        obtain ⟨rfl, rfl⟩ := Prod.mk.inj (Option.some.inj h)
        obtain ⟨cs1, es1, k1, k2⟩ := (rdC_again M h1).make q (u2 ++ r)
        obtain ⟨cs2, es2, j1, j2⟩ := rdCR_again M h2 (q + es1.length) r
        have hl : cs1.length = 1 := by
          have := mkCs_len _ _ _ _ _ _ k1
          simpa using this
        obtain ⟨c1, rfl⟩ : ∃ c1, cs1 = [c1] := List.length_eq_one_iff.1 hl
        have k1 : mkCs q [p] (u :: (u2 ++ r)) = some ([c1], es1, u2 ++ r) := k1
        refine ⟨c1 :: cs2, es1 ++ es2, ?_, (k2.append j2).mono fun F' γ' m' hz ⟨⟨q1, _⟩, q2⟩ hb => ⟨fun k c0 c' V h0 h' hV => ?_, by simp [(q2 hb).2]⟩⟩
        · show mkCR q (.c p :: ps) (u :: (u2 ++ r)) = _
          simp only [mkCR, k1, len_eq, j1]
        · cases k with
          | zero =>
            simp only [List.getElem?_cons_zero, Option.some.injEq] at h0 h'
            subst h0; subst h'
            exact q1 0 _ _ V rfl rfl hV
          | succ k => exact (q2 hb).1 k c0 c' V (by simpa using h0) (by simpa using h') hV
      · cases h
    · cases h
  | .ref id :: ps, .slf b :: cs, us, as, h, q, r => by
    simp only [rdCR] at h
    split at h
    · rename_i hsp
      obtain ⟨hb', hid⟩ := spOk_spec hsp
      obtain ⟨cs2, es2, j1, j2⟩ := rdCR_again M h q r
      refine ⟨.slf id :: cs2, es2, by simp only [mkCR, j1], j2.mono fun F' γ' m' hz q2 hb => ⟨fun k c0 c' V h0 h' hV => ?_, by simp [(q2 hb).2]⟩⟩
      cases k with
      | zero =>
        simp only [List.getElem?_cons_zero, Option.some.injEq] at h0 h'
        subst h0; subst h'
        obtain ⟨h1, h2, h4⟩ := hV
        obtain ⟨q1, q3, e1, e2, q4, q5, q6⟩ := hb id b hid hb'
        refine ⟨q1, h2, fun e he => ?_⟩
        rw [q5] at he; obtain rfl := Option.some.inj he
        rw [← q6.1, ← q6.2.1]
        exact (h4 e1 q4).name q3
      | succ k => exact (q2 hb).1 k c0 c' V (by simpa using h0) (by simpa using h') hV
    · cases h
  | [], _ :: _, us, as, h, q, r => by simp [rdCR] at h
  | .c _ :: _, [], us, as, h, q, r => by simp [rdCR] at h
  | .ref _ :: _, [], us, as, h, q, r => by simp [rdCR] at h
  | .ref _ :: _, .val _ :: _, us, as, h, q, r => by simp [rdCR] at h
  | .ref _ :: _, .ptr .. :: _, us, as, h, q, r => by simp [rdCR] at h
  | .ref _ :: _, .slc .. :: _, us, as, h, q, r => by simp [rdCR] at h
  | .ref _ :: _, .ro .. :: _, us, as, h, q, r => by simp [rdCR] at h
  | .ref _ :: _, .rop .. :: _, us, as, h, q, r => by simp [rdCR] at h
  | .ref _ :: _, .mapr .. :: _, us, as, h, q, r => by simp [rdCR] at h
  | .ref _ :: _, .mptr .. :: _, us, as, h, q, r => by simp [rdCR] at h
  | .ref _ :: _, .dt .. :: _, us, as, h, q, r => by simp [rdCR] at h
  | .ref _ :: _, .any :: _, us, as, h, q, r => by simp [rdCR] at h
theorem box_again (M : Mem A w0 F γ m rt w) {b n : Nat} {p : BP} {us : List U} {as : List (Asg × Bool)} (h : rdBox m b p = some (us, n, as)) : ∀ (q : Nat) (r : List U),
    ∃ e0 e es, mkBox q p (us ++ r) = some (e, es, r) ∧ m b = some e0 ∧ e0.own = true ∧ e.own = true ∧ AsLong e0.blk e.blk ∧ (∀ kk vk xs, e.blk = .map kk vk xs → e0.blk = .map kk vk xs) ∧
      Anew m γ w F as q es (α := Unit) fun F' γ' m' => ∀ id, γ' id = shiftA γ (some (b, 0, n)) → RelB F' γ' m' w id e.blk := by
  have plain : ∀ {blk : Blk}, m b = some ⟨true, blk⟩ → (∀ l, blk ≠ .cells l) → ∀ (q : Nat) (r : List U) (us : List U), mkBox q p (us ++ r) = some (⟨true, blk⟩, [], r) →
      ∃ e0 e es, mkBox q p (us ++ r) = some (e, es, r) ∧ m b = some e0 ∧ e0.own = true ∧ e.own = true ∧ AsLong e0.blk e.blk ∧ (∀ kk vk xs, e.blk = .map kk vk xs → e0.blk = .map kk vk xs) ∧
      Anew m γ w F [] q es (α := Unit) fun F' γ' m' => ∀ id, γ' id = shiftA γ (some (b, 0, n)) → RelB F' γ' m' w id e.blk := fun {blk} hb hn q r us hm =>
    ⟨_, _, [], hm, hb, rfl, rfl, ⟨rfl, rfl, rfl, fun _ _ h => h⟩, fun _ _ _ h => h, Anew.nil fun F' γ' m' hz id hγ => relB_again M hb hn hz hγ⟩
  unfold rdBox at h
  intro q r
  split at h
  · rename_i k
    split at h
    · rename_i k' xs hb
      split at h
      · rename_i e; subst e
        simp only [Option.some.injEq, Prod.mk.injEq] at h
        obtain ⟨rfl, rfl, rfl⟩ := h
        exact plain hb (fun l e => by cases e) q r _ rfl
      · cases h
    · cases h
  · rename_i k
    split at h
    · rename_i k' xs hb
      split at h
      · rename_i e; subst e
        simp only [Option.some.injEq, Prod.mk.injEq] at h
        obtain ⟨rfl, rfl, rfl⟩ := h
        exact plain hb (fun l e => by cases e) q r _ rfl
      · cases h
    · cases h
  · rename_i k
    split at h
    · rename_i k' xs hb
      split at h
      · rename_i e
        obtain rfl := shsEq_spec e
        simp only [Option.some.injEq, Prod.mk.injEq] at h
        obtain ⟨rfl, rfl, rfl⟩ := h
        exact plain hb (fun l e => by cases e) q r _ rfl
      · cases h
    · cases h
  · rename_i k
    split at h
    · rename_i k' xs hb
      split at h
      · rename_i e
        obtain rfl := shsEq_spec e
        simp only [Option.some.injEq, Prod.mk.injEq] at h
        obtain ⟨rfl, rfl, rfl⟩ := h
        exact plain hb (fun l e => by cases e) q r _ rfl
      · cases h
    · cases h
  · rename_i kk vk
    split at h
    · rename_i k' v' xs hb
      split at h
      · rename_i e
        obtain ⟨rfl, rfl⟩ := e
        simp only [Option.some.injEq, Prod.mk.injEq] at h
        obtain ⟨rfl, rfl, rfl⟩ := h
        exact plain hb (fun l e => by cases e) q r _ rfl
      · cases h
    · cases h
  · rename_i ps
    split at h
    · rename_i cs hb
      split at h
      · rename_i u1 a1 h1
        simp only [Option.some.injEq, Prod.mk.injEq] at h
        obtain ⟨rfl, rfl, rfl⟩ := h
        obtain ⟨cs', es, k1, k2⟩ := (rdCs_again M h1).make q r
        have k1 : mkCs q ps (u1 ++ r) = some (cs', es, r) := k1
        refine ⟨_, ⟨true, .cells cs'⟩, es, by simp only [mkBox, k1], hb, rfl, rfl, ⟨rfl, rfl, rfl, fun _ _ h => h⟩, (fun _ _ _ h => by cases h), k2.mono fun F' γ' m' hz ⟨q1, q2⟩ id hγ => ?_⟩
        exact relB_newcells (M.memr b _ hb).2 q2 hγ q1
      · cases h
    · cases h
  · cases h
theorem boxG_again (M : Mem A w0 F γ m rt w) {b n : Nat} {p : BP} {us : List U} {as : List (Asg × Bool)} (h : rdBoxG m nb all tmps b p = some (us, n, as)) : ∀ (q : Nat) (r : List U),
    ∃ e0 e es, mkBox q p (us ++ r) = some (e, es, r) ∧ m b = some e0 ∧ e0.own = true ∧ e.own = true ∧ AsLong e0.blk e.blk ∧ (∀ kk vk xs, e.blk = .map kk vk xs → e0.blk = .map kk vk xs) ∧
      Anew m γ w F as q es (α := Unit) fun F' γ' m' => Boxed m γ nb all tmps F' γ' m' → ∀ id, γ' id = shiftA γ (some (b, 0, n)) → RelB F' γ' m' w id e.blk := by
  unfold rdBoxG at h
  intro q r
  split at h
  · rename_i l
    split at h
    · rename_i cs hb
      split at h
      · rename_i u1 a1 h1
        simp only [Option.some.injEq, Prod.mk.injEq] at h
        obtain ⟨rfl, rfl, rfl⟩ := h
        obtain ⟨cs', es, k1, k2⟩ := rdCR_again M h1 q r
        refine ⟨_, ⟨true, .cells cs'⟩, es, by simp only [mkBox, k1], hb, rfl, rfl, ⟨rfl, rfl, rfl, fun _ _ h => h⟩, (fun _ _ _ h => by cases h), k2.mono fun F' γ' m' hz hq hbx id hγ => ?_⟩
        obtain ⟨q1, q2⟩ := hq hbx
        exact relB_newcells (M.memr b _ hb).2 q2 hγ q1
      · cases h
    · cases h
  · obtain ⟨e0, e, es, k1, k2, k3, k4, k5, k6, k7⟩ := box_again M h q r
    exact ⟨e0, e, es, k1, k2, k3, k4, k5, k6, k7.mono fun F' γ' m' hz hq _ => hq⟩
theorem boxes_again (M : Mem A w0 F γ m rt w) : ∀ {l : List BP} {id0 : Nat} {us : List U} {ba ra : List (Asg × Bool)}, rdBoxes m nb all tmps l id0 = some (us, ba, ra) →
    ba.length = l.length ∧ (∀ id b, id0 ≤ id → id < id0 + l.length → boxAt id tmps all = some b → ∃ n, ba[id - id0]? = some (some (b, 0, n), true)) ∧
    ∀ q, ∃ bs es, mkBoxes q l us = some (bs, es) ∧ bs.length = l.length ∧
      (∀ (i : Nat) (e : Ent), bs[i]? = some e → ∃ b n e0, ba[i]? = some (some (b, 0, n), true) ∧ m b = some e0 ∧ e0.own = true ∧ e.own = true ∧ AsLong e0.blk e.blk ∧ ∀ kk vk xs, e.blk = .map kk vk xs → e0.blk = .map kk vk xs) ∧
      Anew m γ w F ra q es (α := Unit) fun F' γ' m' => Boxed m γ nb all tmps F' γ' m' → ∀ id1, (∀ (i : Nat) (x : Asg × Bool), ba[i]? = some x → γ' (id1 + i) = shiftA γ x.1) → ∀ (i : Nat) (e : Ent), bs[i]? = some e → RelB F' γ' m' w (id1 + i) e.blk
  | [], id0, us, ba, ra, h => by
    simp only [rdBoxes, Option.some.injEq, Prod.mk.injEq] at h
    obtain ⟨rfl, rfl, rfl⟩ := h
    exact ⟨rfl, fun id b h1 h2 => by simp at h2; omega, fun q => ⟨[], [], rfl, rfl, fun i e he => by simp at he, Anew.nil fun F' γ' m' hz _ id1 _ i e he => by simp at he⟩⟩
  | p :: l, id0, us, ba, ra, h => by
    simp only [rdBoxes] at h
    split at h
    · rename_i b hb
      split at h
      · rename_i u1 n a1 h1
        split at h
        · rename_i u2 ba2 ra2 h2
          simp only [Option.some.injEq, Prod.mk.injEq] at h
          obtain ⟨rfl, rfl, rfl⟩ := h
          obtain ⟨i1, i2, i3⟩ := boxes_again M h2
          refine ⟨by simp [i1], fun id b' g1 g2 g3 => ?_, fun q => ?_⟩
          · by_cases hid : id = id0
            · subst hid; rw [hb] at g3; obtain rfl := Option.some.inj g3; exact ⟨n, by simp⟩
            · obtain ⟨n', this⟩ := i2 id b' (by omega) (by simp at g2; omega) g3
              rw [show id - id0 = (id - (id0 + 1)) + 1 by omega]; exact ⟨n', by simpa using this⟩
          · obtain ⟨e0, e, es1, k1, k2, k3, k4, k5, k6, k7⟩ := boxG_again M h1 q u2
            obtain ⟨bs, es2, j1, j2, j3, j4⟩ := i3 (q + es1.length)
            refine ⟨e :: bs, es1 ++ es2, by simp only [mkBoxes, k1, len_eq, j1], by simp [j2], fun i e' he => ?_, (k7.append j4).mono fun F' γ' m' hz ⟨q1, q2⟩ hbx id1 hγ i e' he => ?_⟩
            · cases i with
              | zero =>
                simp only [List.getElem?_cons_zero, Option.some.injEq] at he
                subst he
                exact ⟨b, n, e0, rfl, k2, k3, k4, k5, k6⟩
              | succ i =>
                obtain ⟨b', n', e0', z1, z2⟩ := j3 i e' (by simpa using he)
                exact ⟨b', n', e0', by simpa using z1, z2⟩
            · cases i with
              | zero =>
                simp only [List.getElem?_cons_zero, Option.some.injEq] at he
                subst he
                exact q1 hbx id1 (hγ 0 _ rfl)
              | succ i =>
                have := q2 hbx (id1 + 1) (fun i x hx => by have := hγ (i + 1) x (by simpa using hx); rwa [show id1 + (i + 1) = id1 + 1 + i by omega] at this) i e' (by simpa using he)
                rwa [show id1 + 1 + i = id1 + (i + 1) by omega] at this
        · cases h
      · cases h
    · cases h
end
end
end Go.Proofs.Ytmmaechogibodaa.Vm

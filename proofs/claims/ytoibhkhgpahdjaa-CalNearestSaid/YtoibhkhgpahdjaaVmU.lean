/- States read by a shape and told anew. Conditions: none here. -/
import Derived.Test.YtoibhkhgpahdjaaVmT
import Derived.LoopN
set_option linter.unusedVariables false
set_option linter.unusedSimpArgs false
namespace Go.Proofs.Ytoibhkhgpahdjaa.Vm
open Go Go.RowKit

section
variable {P : Program} {A : Nat → Prop} {w0 : World} {F : Nat → Prop} {γ : GM} {s : St} {a : Act} {w : World}
theorem inAsg_false {b : Nat} : ∀ {l : List (Asg × Bool)}, inAsg b l = false → ∀ y ∈ l, ∀ c o n, y.1 = some (c, o, n) → b ≠ c
  | [], _, y, hy, _, _, _, _ => by simp at hy
  | (none, x) :: l, h, y, hy, c, o, n, hc => by
    simp only [inAsg] at h
    rcases List.mem_cons.1 hy with rfl | hy
    · cases hc
    · exact inAsg_false h y hy c o n hc
  | (some (d, o', n'), x) :: l, h, y, hy, c, o, n, hc => by
    simp only [inAsg] at h
    split at h
    · cases h
    · rename_i hbd
      rcases List.mem_cons.1 hy with rfl | hy
      · simp only [Option.some.injEq, Prod.mk.injEq] at hc; rw [← hc.1]; simpa using hbd
      · exact inAsg_false h y hy c o n hc
theorem ownIn_false {b : Nat} : ∀ {l : List (Asg × Bool)}, okAsg.ownIn b l = false → ∀ y ∈ l, ∀ c o n, y = (some (c, o, n), true) → b ≠ c
  | [], _, y, hy, _, _, _, _ => by simp at hy
  | (none, x) :: l, h, y, hy, c, o, n, hc => by
    simp only [okAsg.ownIn] at h
    rcases List.mem_cons.1 hy with rfl | hy
    · cases hc
    · exact ownIn_false h y hy c o n hc
  | (some (d, o', n'), false) :: l, h, y, hy, c, o, n, hc => by
    simp only [okAsg.ownIn] at h
    rcases List.mem_cons.1 hy with rfl | hy
    · cases hc
    · exact ownIn_false h y hy c o n hc
  | (some (d, o', n'), true) :: l, h, y, hy, c, o, n, hc => by
    simp only [okAsg.ownIn] at h
    split at h
    · cases h
    · rename_i hbd
      rcases List.mem_cons.1 hy with rfl | hy
      · simp only [Option.some.injEq, Prod.mk.injEq, and_true] at hc; rw [← hc.1]; simpa using hbd
      · exact ownIn_false h y hy c o n hc
theorem okAsg_spec : ∀ {l : List (Asg × Bool)}, okAsg l = true → ∀ (i j : Nat) (b1 o1 n1 : Nat) (y : Asg × Bool) (b2 o2 n2 : Nat), i ≠ j → l[i]? = some (some (b1, o1, n1), true) → l[j]? = some y → y.1 = some (b2, o2, n2) → b1 ≠ b2
  | [], _, i, j, _, _, _, _, _, _, _, _, h, _, _ => by simp at h
  | x :: l, h, i, j, b1, o1, n1, y, b2, o2, n2, hij, hi, hj, hy => by
    have hl : okAsg l = true := by
      obtain ⟨x1, x2⟩ := x
      cases x1 with
      | none => simpa [okAsg] using h
      | some z =>
        obtain ⟨b, o, n⟩ := z
        cases x2 <;> simp only [okAsg] at h <;> split at h <;> first | (cases h; done) | exact h
    cases i with
    | zero =>
      simp only [List.getElem?_cons_zero, Option.some.injEq] at hi
      subst hi
      cases j with
      | zero => exact absurd rfl hij
      | succ j =>
        simp only [okAsg] at h
        split at h
        · cases h
        · rename_i hin
          exact inAsg_false hin y (List.mem_of_getElem? (by simpa using hj)) b2 o2 n2 hy
    | succ i =>
      cases j with
      | zero =>
        simp only [List.getElem?_cons_zero, Option.some.injEq] at hj
        subst hj
        obtain ⟨y1, y2⟩ := x
        simp only at hy
        subst hy
        have hm := List.mem_of_getElem? (show l[i]? = some (some (b1, o1, n1), true) by simpa using hi)
        cases y2 with
        | true =>
          simp only [okAsg] at h
          split at h
          · cases h
          · rename_i hin; exact Ne.symm (inAsg_false hin _ hm b1 o1 n1 rfl)
        | false =>
          simp only [okAsg] at h
          split at h
          · cases h
          · rename_i hin; exact Ne.symm (ownIn_false hin _ hm b1 o1 n1 rfl)
      | succ j => exact okAsg_spec hl i j b1 o1 n1 y b2 o2 n2 (by omega) (by simpa using hi) (by simpa using hj) hy
theorem list_choice {α β : Type} {R : Nat → α → β → Prop} : ∀ (l : List α), (∀ (j : Nat) (c : α), l[j]? = some c → ∃ v, R j c v) → ∃ Vs : List β, Vs.length = l.length ∧ ∀ (j : Nat) (c : α) (v : β), l[j]? = some c → Vs[j]? = some v → R j c v
  | [], _ => ⟨[], rfl, fun j c v h => by simp at h⟩
  | c :: l, h => by
    obtain ⟨v, hv⟩ := h 0 c rfl
    obtain ⟨Vs, h1, h2⟩ := list_choice (R := fun j => R (j + 1)) l fun j c h' => h (j + 1) c (by simpa using h')
    refine ⟨v :: Vs, by simp [h1], fun j c' v' hc hv' => ?_⟩
    cases j with
    | zero => simp at hc hv'; subst hc; subst hv'; exact hv
    | succ j => exact h2 j c' v' (by simpa using hc) (by simpa using hv')
section
variable {m : MM} {nb : Nat} {all : List (Nat × SP)} {tmps : List SV}
theorem rdCs_len : ∀ {ps : List CP} {cs : List CV} {us : List U} {as : List (Asg × Bool)}, rdCs m ps cs = some (us, as) → ps.length = cs.length
  | [], [], _, _, _ => rfl
  | p :: ps, c :: cs, us, as, h => by
    simp only [rdCs] at h
    split at h
    · split at h
      · rename_i us' a2 h2; simp [rdCs_len h2]
      · cases h
    · cases h
  | [], _ :: _, _, _, h => by simp [rdCs] at h
  | _ :: _, [], _, _, h => by simp [rdCs] at h
theorem slots_again {V : Nat → Value} (hV : ∀ t, RelV F γ m w (nth undefS tmps t) (V t)) : ∀ {l : List (Nat × SP)} {us : List U} {as : List (Asg × Bool)}, rdSlots m nb all tmps l = some (us, as) → ∀ (q : Nat) (tm0 : List SV) (r : List U),
    ∃ tm es, mkSlots q l tm0 (us ++ r) = some (tm, es, r) ∧ es.length = as.length ∧ (∀ (i : Nat) (e : Ent) (x : Asg × Bool), es[i]? = some e → as[i]? = some x → AsgOk m x e) ∧ tm.length = tm0.length ∧
      ∀ (F' : Nat → Prop) (γ' : GM) (m' : MM), Told γ q as es F' γ' m' →
        (∀ id b, id < nb → boxAt id tmps all = some b → F' id ∧ γ' id = γ b ∧ ∃ e e', m b = some e ∧ m' id = some e' ∧ ∀ n, ptrOk e.blk 0 n → ptrOk e'.blk 0 n) → (∀ t, RelV F' γ' m' w (nth undefS tm0 t) (V t)) → ∀ t, RelV F' γ' m' w (nth undefS tm t) (V t)
  | [], us, as, h, q, tm0, r => by
    simp only [rdSlots, Option.some.injEq, Prod.mk.injEq] at h
    obtain ⟨rfl, rfl⟩ := h
    exact ⟨tm0, [], rfl, rfl, fun i e x he => by simp at he, rfl, fun F' γ' m' _ _ h => h⟩
  | (t, .pv p) :: l, us, as, h, q, tm0, r => by
    simp only [rdSlots] at h
    split at h
    · rename_i v hv
      split at h
      · rename_i u1 a1 h1
        split at h
        · rename_i u2 a2 h2
          obtain ⟨rfl, rfl⟩ := Prod.mk.inj (Option.some.inj h)
          obtain ⟨c1, es1, k1, k2, k3, k4⟩ := rdP_again (γ := γ) (w := w) (F := F) h1 q (u2 ++ r)
          obtain ⟨tm, es2, j1, j2, j3, j4, j5⟩ := slots_again hV h2 (q + es1.length) (put tm0 t (.pv c1)) r
          refine ⟨tm, es1 ++ es2, ?_, by simp [k2, j2], fun i e x he hx => ?_, by rw [j4, put_eq]; simp, fun F' γ' m' T hb h0 => ?_⟩
          · rw [List.append_assoc]
            simp only [mkSlots, k1, len_eq, j1]
          · by_cases hi : i < es1.length
            · rw [List.getElem?_append_left hi] at he
              rw [List.getElem?_append_left (by omega)] at hx
              exact k3 i e x he hx
            · rw [List.getElem?_append_right (by omega)] at he
              rw [List.getElem?_append_right (by omega)] at hx
              exact j3 _ e x he (by rw [← hx]; congr 1; omega)
          · refine j5 F' γ' m' (T.right k2.symm) hb fun t' => ?_
            rw [nth_put]
            split
            · rename_i ht
              obtain ⟨rfl, _⟩ := ht
              have := hV t'
              rw [hv] at this
              exact k4 _ this F' γ' m' T.left
            · exact h0 t'
        · cases h
      · cases h
    · cases h
  | (t, .box id j) :: l, us, as, h, q, tm0, r => by
    simp only [rdSlots] at h
    split at h
    · rename_i b j' hv
      split at h
      · rename_i b' hb'
        split at h
        · rename_i hc
          obtain ⟨rfl, rfl, hid⟩ := hc
          obtain ⟨tm, es2, j1, j2, j3, j4, j5⟩ := slots_again hV h q (put tm0 t (.pv (.one (.ptr id 0 0 j)))) r
          refine ⟨tm, es2, by simp only [mkSlots, j1], j2, j3, by rw [j4, put_eq]; simp, fun F' γ' m' T hb h0 => ?_⟩
          refine j5 F' γ' m' T hb fun t' => ?_
          rw [nth_put]
          split
          · rename_i ht
            obtain ⟨rfl, _⟩ := ht
            have := hV t'
            rw [hv] at this
            obtain ⟨h1, ⟨g, base, h2, h3⟩, h4⟩ := this
            obtain ⟨q1, q2, e1, e2, q3, q4, q5⟩ := hb id b hid hb'
            exact ⟨q1, ⟨g, base, q2.trans h2, h3⟩, fun e he => by rw [q4] at he; obtain rfl := Option.some.inj he; exact q5 _ (h4 e1 q3)⟩
          · exact h0 t'
        · cases h
      · cases h
    · cases h
  | (t, .arr id) :: l, us, as, h, q, tm0, r => by
    simp only [rdSlots] at h
    split at h
    · rename_i b hv
      split at h
      · rename_i b' hb'
        split at h
        · rename_i hc
          obtain ⟨rfl, hid⟩ := hc
          obtain ⟨tm, es2, j1, j2, j3, j4, j5⟩ := slots_again hV h q (put tm0 t (.pv (.one (.ptr id 0 1 0)))) r
          refine ⟨tm, es2, by simp only [mkSlots, j1], j2, j3, by rw [j4, put_eq]; simp, fun F' γ' m' T hb h0 => ?_⟩
          refine j5 F' γ' m' T hb fun t' => ?_
          rw [nth_put]
          split
          · rename_i ht
            obtain ⟨rfl, _⟩ := ht
            have := hV t'
            rw [hv] at this
            obtain ⟨h1, ⟨g, base, h2, h3⟩, h4⟩ := this
            obtain ⟨q1, q2, e1, e2, q3, q4, q5⟩ := hb id b hid hb'
            exact ⟨q1, ⟨g, base, q2.trans h2, h3⟩, fun e he => by rw [q4] at he; obtain rfl := Option.some.inj he; exact q5 _ (h4 e1 q3)⟩
          · exact h0 t'
        · cases h
      · cases h
    · cases h
theorem boxes_again : ∀ {l : List BP} {id0 : Nat} {us : List U} {ba ra : List (Asg × Bool)}, rdBoxes m all tmps l id0 = some (us, ba, ra) →
    ba.length = l.length ∧ (∀ id b, id0 ≤ id → id < id0 + l.length → boxAt id tmps all = some b → ∃ n, ba[id - id0]? = some (some (b, 0, n), true)) ∧
    ∀ q, ∃ bs es, mkBoxes q l us = some (bs, es) ∧ bs.length = l.length ∧ es.length = ra.length ∧ (∀ (i : Nat) (e : Ent) (x : Asg × Bool), es[i]? = some e → ra[i]? = some x → AsgOk m x e) ∧
      ∀ (i : Nat) (e : Ent), bs[i]? = some e → ∃ b n e0, ba[i]? = some (some (b, 0, n), true) ∧ m b = some e0 ∧ e0.own = true ∧ e.own = true ∧ (∀ n, ptrOk e0.blk 0 n → ptrOk e.blk 0 n) ∧
        (AsgOk m (some (b, 0, n), true) e ∨ ∃ cs cs', e0 = ⟨true, .cells cs⟩ ∧ e = ⟨true, .cells cs'⟩ ∧ cs'.length = cs.length ∧
        ∀ Vs, All2 (RelC F γ m w) cs Vs → ∀ (F' : Nat → Prop) (γ' : GM) (m' : MM), Told γ q ra es F' γ' m' → All2 (RelC F' γ' m' w) cs' Vs)
  | [], id0, us, ba, ra, h => by
    simp only [rdBoxes, Option.some.injEq, Prod.mk.injEq] at h
    obtain ⟨rfl, rfl, rfl⟩ := h
    exact ⟨rfl, fun id b h1 h2 => by simp at h2; omega, fun q => ⟨[], [], rfl, rfl, rfl, fun i e x he => by simp at he, fun i e he => by simp at he⟩⟩
  | .row k :: l, id0, us, ba, ra, h => by
    simp only [rdBoxes] at h
    split at h
    · rename_i b hb
      split at h
      · rename_i k' xs hm
        split at h
        · rename_i hk; subst hk
          split at h
          · rename_i u2 ba2 ra2 h2
            simp only [Option.some.injEq, Prod.mk.injEq] at h
            obtain ⟨rfl, rfl, rfl⟩ := h
            obtain ⟨i1, i2, i3⟩ := boxes_again h2
            refine ⟨by simp [i1], fun id b' g1 g2 g3 => ?_, fun q => ?_⟩
            · by_cases hid : id = id0
              · subst hid; rw [hb] at g3; obtain rfl := Option.some.inj g3; exact ⟨1, by simp⟩
              · obtain ⟨n, this⟩ := i2 id b' (by omega) (by simp at g2; omega) g3
                rw [show id - id0 = (id - (id0 + 1)) + 1 by omega]; exact ⟨n, by simpa using this⟩
            · obtain ⟨bs, es2, j1, j2, j3, j4, j5⟩ := i3 q
              refine ⟨⟨true, .row k xs⟩ :: bs, es2, by simp only [mkBoxes, j1], by simp [j2], j3, j4, fun i e he => ?_⟩
              cases i with
              | zero =>
                simp only [List.getElem?_cons_zero, Option.some.injEq] at he
                subst he
                exact ⟨b, 1, _, rfl, hm, rfl, rfl, fun _ h => h, .inl ⟨rfl, rfl, _, hm, fun _ => rfl, rfl, rfl, rfl, fun f v hf => by simpa using hf⟩⟩
              | succ i =>
                obtain ⟨b', n, e0, q1, q2⟩ := j5 i e (by simpa using he)
                exact ⟨b', n, e0, by simpa using q1, q2⟩
          · cases h
        · cases h
      · cases h
    · cases h
  | .cells ps :: l, id0, us, ba, ra, h => by
    simp only [rdBoxes] at h
    split at h
    · rename_i b hb
      split at h
      · rename_i cs hm
        split at h
        · rename_i u1 a1 h1
          split at h
          · rename_i u2 ba2 ra2 h2
            simp only [Option.some.injEq, Prod.mk.injEq] at h
            obtain ⟨rfl, rfl, rfl⟩ := h
            obtain ⟨i1, i2, i3⟩ := boxes_again h2
            refine ⟨by simp [i1], fun id b' g1 g2 g3 => ?_, fun q => ?_⟩
            · by_cases hid : id = id0
              · subst hid; rw [hb] at g3; obtain rfl := Option.some.inj g3; exact ⟨0, by simp⟩
              · obtain ⟨n, this⟩ := i2 id b' (by omega) (by simp at g2; omega) g3
                rw [show id - id0 = (id - (id0 + 1)) + 1 by omega]; exact ⟨n, by simpa using this⟩
            · obtain ⟨cs', es1, k1, k2, k3, k4⟩ := (rdCs_again (γ := γ) (w := w) (F := F) h1).make q u2
              have k1 : mkCs q ps (u1 ++ u2) = some (cs', es1, u2) := k1
              obtain ⟨bs, es2, j1, j2, j3, j4, j5⟩ := i3 (q + es1.length)
              refine ⟨⟨true, .cells cs'⟩ :: bs, es1 ++ es2, by simp only [mkBoxes, k1, len_eq, j1], by simp [j2], by simp [k2, j3], fun i e x he hx => ?_, fun i e he => ?_⟩
              · by_cases hi : i < es1.length
                · rw [List.getElem?_append_left hi] at he
                  rw [List.getElem?_append_left (by omega)] at hx
                  exact k3 i e x he hx
                · rw [List.getElem?_append_right (by omega)] at he
                  rw [List.getElem?_append_right (by omega)] at hx
                  exact j4 _ e x he (by rw [← hx]; congr 1; omega)
              · cases i with
                | zero =>
                  simp only [List.getElem?_cons_zero, Option.some.injEq] at he
                  subst he
                  refine ⟨b, 0, _, rfl, hm, rfl, rfl, fun _ h => h, .inr ⟨cs, cs', rfl, rfl, ?_, fun Vs hr F' γ' m' T => k4 Vs hr F' γ' m' T.left⟩⟩
                  rw [mkCs_len _ _ _ _ _ _ k1]
                  exact rdCs_len h1
                | succ i =>
                  obtain ⟨b', n, e0, q1, q2, q3, q4, q5, q6⟩ := j5 i e (by simpa using he)
                  refine ⟨b', n, e0, by simpa using q1, q2, q3, q4, q5, q6.imp id ?_⟩
                  rintro ⟨c1, c2, z1, z2, z3, z4⟩
                  exact ⟨c1, c2, z1, z2, z3, fun Vs hr F' γ' m' T => z4 Vs hr F' γ' m' (T.right k2.symm)⟩
          · cases h
        · cases h
      · cases h
    · cases h
end
end
end Go.Proofs.Ytoibhkhgpahdjaa.Vm

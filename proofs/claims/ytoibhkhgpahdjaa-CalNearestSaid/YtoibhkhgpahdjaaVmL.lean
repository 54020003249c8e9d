/- Calls by what is known of a function. Conditions: none here. -/
import Derived.Test.YtoibhkhgpahdjaaVmK
set_option linter.unusedVariables false
set_option linter.unusedSimpArgs false
namespace Go.Proofs.Ytoibhkhgpahdjaa.Vm
open Go Go.RowKit

section
variable {m : MM} {γ : GM} {w : World} {F : Nat → Prop}
theorem mkCs_len : ∀ (q : Nat) (ps : List CP) (us : List U) (cs : List CV) (es : List Ent) (r : List U), mkCs q ps us = some (cs, es, r) → cs.length = ps.length
  | q, [], us, cs, es, r, h => by simp only [mkCs, Option.some.injEq, Prod.mk.injEq] at h; rw [← h.1]; rfl
  | q, p :: ps, us, cs, es, r, h => by
    cases us with
    | nil => cases p <;> simp [mkCs] at h
    | cons u us =>
      cases p <;> cases u <;> simp only [mkCs] at h <;> first | (cases h; done) | skip
      all_goals
        split at h
        · rename_i cs' es' r' h'
          simp only [Option.some.injEq, Prod.mk.injEq] at h
          obtain ⟨rfl, _, _⟩ := h
          simp [mkCs_len _ ps _ _ _ _ h']
        · cases h
/-- Values, read and told anew. -/
structure AgainP (m : MM) (γ : GM) (w : World) (F : Nat → Prop) (us : List U) (as : List (Asg × Bool)) (mk : Nat → List U → Option (List PV × List Ent × List U)) (cs : List PV) : Prop where
  make : ∀ (q : Nat) (r : List U), ∃ cs' es, mk q (us ++ r) = some (cs', es, r) ∧ es.length = as.length ∧ (∀ (i : Nat) (e : Ent) (x : Asg × Bool), es[i]? = some e → as[i]? = some x → AsgOk m x e) ∧
    ∀ Vs, All2 (RelP F γ m w) cs Vs → ∀ (F' : Nat → Prop) (γ' : GM) (m' : MM), Told γ q as es F' γ' m' → All2 (RelP F' γ' m' w) cs' Vs
theorem rdP_again {p : PP} {c : PV} {us : List U} {as : List (Asg × Bool)} (h : rdP m p c = some (us, as)) :
    ∀ (q : Nat) (r : List U), ∃ c' es, mkP q p (us ++ r) = some (c', es, r) ∧ es.length = as.length ∧ (∀ (i : Nat) (e : Ent) (x : Asg × Bool), es[i]? = some e → as[i]? = some x → AsgOk m x e) ∧
      ∀ V, RelP F γ m w c V → ∀ (F' : Nat → Prop) (γ' : GM) (m' : MM), Told γ q as es F' γ' m' → RelP F' γ' m' w c' V := by
  intro q r
  cases p with
  | one p =>
    cases c with
    | agg cs => simp [rdP] at h
    | one c =>
      obtain ⟨cs', es, k1, k2, k3, k4⟩ := (rdCs_again (γ := γ) (w := w) (F := F) h).make q r
      have hl := mkCs_len _ _ _ _ _ _ k1
      match cs', hl with
      | [c'], _ =>
        have k1 : mkCs q [p] (us ++ r) = some ([c'], es, r) := k1
        exact ⟨.one c', es, by simp only [mkP, k1], k2, k3, fun V hV F' γ' m' T => (k4 [V] ⟨hV, trivial⟩ F' γ' m' T).1⟩
  | agg ps =>
    cases c with
    | one c => simp [rdP] at h
    | agg cs =>
      obtain ⟨cs', es, k1, k2, k3, k4⟩ := (rdCs_again (γ := γ) (w := w) (F := F) h).make q r
      have k1 : mkCs q ps (us ++ r) = some (cs', es, r) := k1
      exact ⟨.agg cs', es, by simp only [mkP, k1], k2, k3, fun V ⟨C, hC, hr⟩ F' γ' m' T => ⟨C, hC, k4 _ hr F' γ' m' T⟩⟩
theorem rdPs_again : ∀ {ps : List PP} {cs : List PV} {us : List U} {as : List (Asg × Bool)}, rdPs m ps cs = some (us, as) → AgainP m γ w F us as (fun q us => mkPs q ps us) cs
  | [], [], us, as, h => by
    obtain ⟨rfl, rfl⟩ := Prod.mk.inj (Option.some.inj h)
    exact ⟨fun q r => ⟨[], [], rfl, rfl, fun i e x he hx => by simp at he, fun Vs hr F' γ' m' T => by cases Vs with | nil => trivial | cons => exact hr.elim⟩⟩
  | p :: ps, c :: cs, us, as, h => by
    simp only [rdPs] at h
    split at h
    · rename_i u a1 h1
      split at h
      · rename_i us' a2 h2
        obtain ⟨rfl, rfl⟩ := Prod.mk.inj (Option.some.inj h)
        have A2 : AgainP m γ w F us' a2 (fun q us => mkPs q ps us) cs := rdPs_again h2
        refine ⟨fun q r => ?_⟩
        obtain ⟨c1, es1, k1, k2, k3, k4⟩ := rdP_again (γ := γ) (w := w) (F := F) h1 q (us' ++ r)
        obtain ⟨cs2, es2, j1, j2, j3, j4⟩ := A2.make (q + es1.length) r
        have j1 : mkPs (q + es1.length) ps (us' ++ r) = some (cs2, es2, r) := j1
        refine ⟨c1 :: cs2, es1 ++ es2, ?_, by simp [k2, j2], fun i e x he hx => ?_, fun Vs hr F' γ' m' T => ?_⟩
        · show mkPs q (p :: ps) (u ++ us' ++ r) = _
          rw [List.append_assoc]
          simp only [mkPs, k1, len_eq, j1]
        · by_cases hi : i < es1.length
          · rw [List.getElem?_append_left hi] at he
            rw [List.getElem?_append_left (by omega)] at hx
            exact k3 i e x he hx
          · rw [List.getElem?_append_right (by omega)] at he
            rw [List.getElem?_append_right (by omega)] at hx
            exact j3 _ e x he (by rw [← hx]; congr 1; omega)
        · cases Vs with
          | nil => exact hr.elim
          | cons V Vs => exact ⟨k4 V hr.1 F' γ' m' T.left, j4 Vs hr.2 F' γ' m' (T.right k2.symm)⟩
      · cases h
    · cases h
  | [], _ :: _, us, as, h => by simp [rdPs] at h
  | _ :: _, [], us, as, h => by simp [rdPs] at h
theorem memOf_eq : ∀ (es : List Ent) (q : Nat), memOf es q = es[q]?
  | [], q => by simp [memOf]
  | e :: es, 0 => rfl
  | e :: es, q + 1 => by simp [memOf, memOf_eq es q]
/-- What is known of a function holds. -/
def FnOk (P : Program) (f : FuncId) (sp : Spec) : Prop :=
  ∀ us r, sp.G us = some r → ∀ (γ : GM) (w : World) (Vs : List Value) (ps : List PV) (es : List Ent), mkPs 0 sp.args us = some (ps, es, []) →
    All2 (RelP (fun b => b < es.length) γ (memOf es) w) ps Vs → (∀ b e, memOf es b = some e → RelB (fun b => b < es.length) γ (memOf es) w b e.blk) → (∀ b g base, b < es.length → γ b = some (g, base) → g < w.heap.size) →
    Calls P f Vs.toArray w fun en w' => ∃ V, en = .returned V ∧ Bel w.heap.size w w' ∧ ∀ q, ∃ (γ' : GM) (vs : List PV) (es' : List Ent), mkPs q sp.res (sp.enc r) = some (vs, es', []) ∧
      (∀ (F' : Nat → Prop) (γ2 : GM) (m' : MM), (∀ (i : Nat) (e : Ent), es'[i]? = some e → F' (q + i) ∧ m' (q + i) = some e ∧ γ2 (q + i) = γ' i) → RelV F' γ2 m' w' (resSV vs) V ∧ ∀ (i : Nat) (e : Ent), es'[i]? = some e → RelB F' γ2 m' w' (q + i) e.blk) ∧
      ∀ (i : Nat) (e : Ent) (g base : Nat), es'[i]? = some e → γ' i = some (g, base) → g < w'.heap.size ∧
        (e.own = true → w.heap.size ≤ g ∧ ∀ (j : Nat) (e2 : Ent) (g2 base2 : Nat), j ≠ i → es'[j]? = some e2 → γ' j = some (g2, base2) → g2 ≠ g) ∧ (e.own = false → w.heap.size ≤ g ∨ ∃ b base', b < es.length ∧ γ b = some (g, base'))
def pvals : List PV → Option (List Value)
  | [] => some []
  | p :: l => match pvVal p with | some v => (match pvals l with | some r => some (v :: r) | none => none) | none => none
/-- What is known of a function without a Go body. -/
def ExtOk (P : Program) (f : FuncId) (sp : Spec) : Prop :=
  ∀ us r, sp.G us = some r → ∀ (ps : List PV) (es : List Ent), mkPs 0 sp.args us = some (ps, es, []) → ∃ Vs V vs, pvals ps = some Vs ∧ (∀ w, (callFunc f Vs.toArray).run P w = .ok (.value V) w) ∧
    (∀ q, mkPs q sp.res (sp.enc r) = some (vs, [], [])) ∧ ∀ F γ m w, RelV F γ m w (resSV vs) V
/-- A function with a Go body. -/
def Callable (P : Program) (f : FuncId) : Prop := ∃ fn, P.funcs[f]? = some fn ∧ (fn.name == "runtime.NumGoroutine") = false ∧ fn.body.isNone = false
/-- What is known of the functions holds. -/
def EnvOk (P : Program) (env : FuncId → Option Spec) : Prop := ∀ f sp, env f = some sp → (Callable P f ∧ FnOk P f sp) ∨ ExtOk P f sp
theorem entsUpd_get (m : MM) : ∀ (es : List Ent) (q b : Nat) (rest : List (Nat × Option Ent)), updM m (entsUpd q es ++ rest) b = updM (fun c => if q ≤ c ∧ c < q + es.length then es[c - q]? else m c) rest b
  | [], q, b, rest => by
    simp only [entsUpd, List.nil_append]
    congr 1; funext c; rw [if_neg (by simp <;> omega)]
  | e :: es, q, b, rest => by
    simp only [entsUpd, List.cons_append, updM]
    rw [entsUpd_get _ es (q + 1) b rest]
    congr 1; funext c
    simp only [List.length_cons]
    by_cases h : c = q
    · subst h; simp; intro h; omega
    · by_cases h2 : q + 1 ≤ c ∧ c < q + 1 + es.length
      · rw [if_pos h2, if_pos (by omega), show c - q = (c - (q + 1)) + 1 by omega]; simp
      · rw [if_neg h2]
        have : (c == q) = false := by simpa using h
        simp only [this, Bool.false_eq_true, if_false]
        rw [if_neg (by omega)]
/-- Blocks that were handed on are no longer owned. -/
theorem shared_get (μ : MM) : ∀ (as : List (Asg × Bool)) (m : MM) (b : Nat) (e : Ent), updM m (shared as μ) b = some e →
    (m b = some e ∧ ∀ x ∈ as, ∀ off n, x.1 = some (b, off, n) → μ b = none) ∨ (∃ e0, μ b = some e0 ∧ e = ⟨false, e0.blk⟩)
  | [], m, b, e, h => .inl ⟨h, fun x hx => by simp at hx⟩
  | (none, o) :: as, m, b, e, h => by
    rcases shared_get μ as m b e (by simpa [shared] using h) with ⟨h1, h2⟩ | h1
    · refine .inl ⟨h1, fun x hx off n hxx => ?_⟩
      rcases List.mem_cons.1 hx with rfl | hx
      · cases hxx
      · exact h2 x hx off n hxx
    · exact .inr h1
  | (some (c, off, n), o) :: as, m, b, e, h => by
    simp only [shared] at h
    split at h
    · rename_i e0 he0
      simp only [updM] at h
      rcases shared_get μ as _ b e h with ⟨h1, h2⟩ | h1
      · by_cases hb : b = c
        · subst hb
          simp at h1
          exact .inr ⟨e0, he0, h1.symm⟩
        · have : (b == c) = false := by simpa using hb
          simp only [this, Bool.false_eq_true, if_false] at h1
          refine .inl ⟨h1, fun x hx off' n' hxx => ?_⟩
          rcases List.mem_cons.1 hx with rfl | hx
          · simp only [Option.some.injEq, Prod.mk.injEq] at hxx
            exact absurd hxx.1.symm hb
          · exact h2 x hx off' n' hxx
      · exact .inr h1
    · rename_i he0
      rcases shared_get μ as m b e h with ⟨h1, h2⟩ | h1
      · refine .inl ⟨h1, fun x hx off' n' hxx => ?_⟩
        rcases List.mem_cons.1 hx with rfl | hx
        · simp only [Option.some.injEq, Prod.mk.injEq] at hxx
          rw [← hxx.1]
          exact he0
        · exact h2 x hx off' n' hxx
      · exact .inr h1
end
end Go.Proofs.Ytoibhkhgpahdjaa.Vm

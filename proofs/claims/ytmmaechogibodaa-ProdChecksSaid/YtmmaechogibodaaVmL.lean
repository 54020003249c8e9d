/- Calls by what is known of a function. Conditions: none here. -/
import Derived.Test.YtmmaechogibodaaVmK
set_option linter.unusedVariables false
set_option linter.unusedSimpArgs false
namespace Go.Proofs.Ytmmaechogibodaa.Vm
open Go Go.RowKit

section
variable {A : Ctx} {w0 : World} {rt : List Nat} {m : MM} {γ : GM} {w : World} {F : NS}
theorem mkCs_len : ∀ (q : Nat) (ps : List CP) (us : List U) (cs : List CV) (es : List Ent) (r : List U), mkCs q ps us = some (cs, es, r) → cs.length = ps.length
  | q, [], us, cs, es, r, h => by simp only [mkCs, Option.some.injEq, Prod.mk.injEq] at h; rw [← h.1]; rfl
  | q, p :: ps, us, cs, es, r, h => by
    cases us with
    | nil => cases p <;> simp [mkCs] at h
    | cons u us =>
      cases p <;> cases u <;> simp only [mkCs] at h <;> first | (cases h; done) | skip
      all_goals
        split at h
        · rename_i cs' es' r' h'
          simp only [Option.some.injEq, Prod.mk.injEq] at h
          obtain ⟨rfl, _, _⟩ := h
          simp [mkCs_len _ ps _ _ _ _ h']
        · cases h
theorem rdCs_len : ∀ {ps : List CP} {cs : List CV} {us : List U} {as : List (Asg × Bool)}, rdCs m ps cs = some (us, as) → ps.length = cs.length
  | [], [], _, _, _ => rfl
  | p :: ps, c :: cs, us, as, h => by
    simp only [rdCs] at h
    split at h
    · split at h
      · rename_i us' a2 h2; simp [rdCs_len h2]
      · cases h
    · cases h
  | [], _ :: _, _, _, h => by simp [rdCs] at h
  | _ :: _, [], _, _, h => by simp [rdCs] at h
/-- A block of cells at its new name. -/
theorem relB_newcells {b q : Nat} {cs cs' : List CV} {F' : NS} {γ' : GM} {m' : MM} (h : RelB F γ m w b (.cells cs)) (hl : cs'.length = cs.length) (hγ : γ' q = shiftA γ (some (b, 0, 0)))
    (hc : ∀ (k : Nat) (c c' : CV) (V : Value), cs[k]? = some c → cs'[k]? = some c' → RelC F γ m w c V → RelC F' γ' m' w c' V) : RelB F' γ' m' w q (.cells cs') := fun i j c hcc => by
  simp only [Blk.at] at hcc
  split at hcc
  · rename_i hi
    subst hi
    have hj : j < cs.length := by have := (List.getElem?_eq_some_iff.1 hcc).1; omega
    obtain ⟨g, base, carr, t, V, k1, k2, k3, k4⟩ := h 0 j cs[j] (by simp [Blk.at, hj])
    exact ⟨g, base, carr, t, V, by rw [hγ]; simp [shiftA, k1], k2, by simpa [Blk.n] using k3, hc j _ c V (List.getElem?_eq_getElem hj) hcc k4⟩
  · cases hcc
theorem rdP_again (M : Mem A w0 F γ m rt w) {p : PP} {c : PV} {us : List U} {as : List (Asg × Bool)} (h : rdP m p c = some (us, as)) :
    ∀ (q : Nat) (r : List U), ∃ c' es, mkP q p (us ++ r) = some (c', es, r) ∧ Anew m γ w F as q es (α := Unit) fun F' γ' m' => ∀ V, RelP F γ m w c V → RelP F' γ' m' w c' V := by
  intro q r
  unfold rdP at h
  split at h
  · rename_i p c
    obtain ⟨cs', es, k1, k2, k3, k4⟩ := (rdCs_again M h).make q r
    have hl := mkCs_len _ _ _ _ _ _ k1
    match cs', hl with
    | [c'], _ =>
      have k1 : mkCs q [p] (us ++ r) = some ([c'], es, r) := k1
      exact ⟨.one c', es, by simp only [mkP, k1], k2, k3, fun F' γ' m' T hz => ⟨fun V hV => (k4 F' γ' m' T hz).1.1 0 c c' V rfl rfl hV, (k4 F' γ' m' T hz).2⟩⟩
  · rename_i ps cs
    obtain ⟨cs', es, k1, k2, k3, k4⟩ := (rdCs_again M h).make q r
    have k1 : mkCs q ps (us ++ r) = some (cs', es, r) := k1
    exact ⟨.agg cs', es, by simp only [mkP, k1], k2, k3, fun F' γ' m' T hz => ⟨fun V ⟨C, hC, hr⟩ => ⟨C, hC, Again.all2 (k4 F' γ' m' T hz).1.1 (k4 F' γ' m' T hz).1.2 hr⟩, (k4 F' γ' m' T hz).2⟩⟩
  · rename_i ps b
    split at h
    · rename_i cs hb
      split at h
      · rename_i us' as' hrd
        obtain ⟨rfl, rfl⟩ := Prod.mk.inj (Option.some.inj h)
        obtain ⟨cs', es, k1, k2, k3, k4⟩ := (rdCs_again M hrd).make (q + 1) r
        have k1 : mkCs (q + 1) ps (us' ++ r) = some (cs', es, r) := k1
        refine ⟨.one (.ptr q 0 0 0), ⟨true, .cells cs'⟩ :: es, by simp only [mkP, k1], by simp [k2], fun i e x he hx => ?_, fun F' γ' m' T hz => ?_⟩
        · cases i with
          | zero =>
            simp only [List.getElem?_cons_zero, Option.some.injEq] at he hx
            subst he; subst hx
            exact ⟨rfl, _, hb, fun _ => rfl, fun _ _ _ h => by cases h⟩
          | succ i => exact k3 i e x (by simpa using he) (by simpa using hx)
        · obtain ⟨⟨q1, q2⟩, q3⟩ := k4 F' γ' m' T.tail hz
          refine ⟨fun V hV => ?_, fun i e he => ?_⟩
          · obtain ⟨h1, ⟨g, base, h2, h3⟩, h4⟩ := hV
            have t0 := T.place 0 _ rfl
            rw [Nat.add_zero] at t0
            refine ⟨T.name 0 _ rfl, ⟨g, base, by rw [t0]; simp [shiftA, h2], h3⟩, fun e he => ?_⟩
            have := T.ent 0 _ rfl
            rw [Nat.add_zero] at this
            rw [this] at he
            obtain rfl := Option.some.inj he
            exact ⟨rfl, rfl⟩
          · cases i with
            | zero =>
              simp only [List.getElem?_cons_zero, Option.some.injEq] at he
              subst he
              exact relB_newcells (M.memr b _ hb).2 q2 (T.place 0 _ rfl) q1
            | succ i =>
              have := q3 i e (by simpa using he)
              rwa [show q + 1 + i = q + (i + 1) by omega] at this
      · cases h
    · cases h
  · rename_i l b l'
    split at h
    · rename_i L ds hb
      split at h
      · rename_i hl
        simp only [Bool.and_eq_true] at hl
        obtain rfl := shsEq_spec hl.1
        obtain rfl := shsEq_spec hl.2
        obtain ⟨rfl, rfl⟩ := Prod.mk.inj (Option.some.inj h)
        refine ⟨.one (.mptr q 0 L), [⟨true, .mem L ds⟩], rfl, rfl, fun i e x he hx => ?_, fun F' γ' m' T hz => ⟨fun V hV => ?_, fun i e he => ?_⟩⟩
        · obtain ⟨rfl, rfl⟩ := get1 he
          obtain ⟨_, rfl⟩ := get1 hx
          exact ⟨rfl, _, hb, fun _ => rfl, fun _ _ _ h => by cases h⟩
        · obtain ⟨h1, ⟨g, base, h2, h3⟩, h4⟩ := hV
          have t0 := T.place 0 _ rfl
          rw [Nat.add_zero] at t0
          refine ⟨T.name 0 _ rfl, ⟨g, base, by rw [t0]; simp [shiftA, h2], h3⟩, fun e he => ?_⟩
          have := T.ent 0 _ rfl
          rw [Nat.add_zero] at this
          rw [this] at he
          obtain rfl := Option.some.inj he
          exact ⟨L, rfl, fun k _ => by rw [Nat.zero_add]⟩
        · obtain ⟨rfl, rfl⟩ := get1 he
          intro i j c hc
          simp only [Blk.at] at hc
          split at hc
          · rename_i hi
            subst hi
            obtain ⟨g, base, carr, t, V, k1, k2, k3, k4⟩ := (M.memr b _ hb).2 0 j c (by simp [Blk.at, hc])
            rw [dtsL_get] at hc
            cases hj : L[j]? with
            | none => rw [hj] at hc; cases hc
            | some sh =>
              rw [hj] at hc
              obtain rfl := Option.some.inj hc
              exact ⟨g, base, carr, t, V, by rw [T.place 0 _ rfl]; simp [shiftA, k1], k2, by simpa [Blk.n] using k3, Deep.step (z' := F'.z) hz (fun _ _ => rfl) k4⟩
          · cases hc
      · cases h
    · cases h
  · cases h
/-- Values, read and told anew. -/
structure AgainP (m : MM) (γ : GM) (w : World) (F : NS) (us : List U) (as : List (Asg × Bool)) (mk : Nat → List U → Option (List PV × List Ent × List U)) (cs : List PV) : Prop where
  make : ∀ (q : Nat) (r : List U), ∃ cs' es, mk q (us ++ r) = some (cs', es, r) ∧ Anew m γ w F as q es (α := Unit) fun F' γ' m' => ∀ Vs, All2 (RelP F γ m w) cs Vs → All2 (RelP F' γ' m' w) cs' Vs
theorem rdPs_again (M : Mem A w0 F γ m rt w) : ∀ {ps : List PP} {cs : List PV} {us : List U} {as : List (Asg × Bool)}, rdPs m ps cs = some (us, as) → AgainP m γ w F us as (fun q us => mkPs q ps us) cs
  | [], [], us, as, h => by
    obtain ⟨rfl, rfl⟩ := Prod.mk.inj (Option.some.inj h)
    exact ⟨fun q r => ⟨[], [], rfl, rfl, fun i e x he hx => by simp at he, fun F' γ' m' T hz => ⟨fun Vs hr => by cases Vs with | nil => trivial | cons => exact hr.elim, fun i e he => by simp at he⟩⟩⟩
  | p :: ps, c :: cs, us, as, h => by
    simp only [rdPs] at h
    split at h
    · rename_i u a1 h1
      split at h
      · rename_i us' a2 h2
        obtain ⟨rfl, rfl⟩ := Prod.mk.inj (Option.some.inj h)
        have A2 : AgainP m γ w F us' a2 (fun q us => mkPs q ps us) cs := rdPs_again M h2
        refine ⟨fun q r => ?_⟩
        obtain ⟨c1, es1, k1, k2, k3, k4⟩ := rdP_again M h1 q (us' ++ r)
        obtain ⟨cs2, es2, j1, j2, j3, j4⟩ := A2.make (q + es1.length) r
        have j1 : mkPs (q + es1.length) ps (us' ++ r) = some (cs2, es2, r) := j1
        refine ⟨c1 :: cs2, es1 ++ es2, ?_, by simp [k2, j2], fun i e x he hx => ?_, fun F' γ' m' T hz => ⟨fun Vs hr => ?_, fun i e he => ?_⟩⟩
        · show mkPs q (p :: ps) (u ++ us' ++ r) = _
          rw [List.append_assoc]
          simp only [mkPs, k1, len_eq, j1]
        · by_cases hi : i < es1.length
          · rw [List.getElem?_append_left hi] at he
            rw [List.getElem?_append_left (by omega)] at hx
            exact k3 i e x he hx
          · rw [List.getElem?_append_right (by omega)] at he
            rw [List.getElem?_append_right (by omega)] at hx
            exact j3 _ e x he (by rw [← hx]; congr 1; omega)
        · cases Vs with
          | nil => exact hr.elim
          | cons V Vs => exact ⟨(k4 F' γ' m' T.left hz).1 V hr.1, (j4 F' γ' m' (T.right k2.symm) hz).1 Vs hr.2⟩
        · by_cases hi : i < es1.length
          · rw [List.getElem?_append_left hi] at he
            exact (k4 F' γ' m' T.left hz).2 i e he
          · rw [List.getElem?_append_right (by omega)] at he
            have := (j4 F' γ' m' (T.right k2.symm) hz).2 _ e he
            rwa [show q + es1.length + (i - es1.length) = q + i by omega] at this
      · cases h
    · cases h
  | [], _ :: _, us, as, h => by simp [rdPs] at h
  | _ :: _, [], us, as, h => by simp [rdPs] at h
theorem memOf_eq : ∀ (es : List Ent) (q : Nat), memOf es q = es[q]?
  | [], q => by simp [memOf]
  | e :: es, 0 => rfl
  | e :: es, q + 1 => by simp [memOf, memOf_eq es q]
/-- What a function may write of what came in. -/
def ownedOf (γ : GM) (es : List Ent) (g : Nat) : Prop := ∃ b e base, es[b]? = some e ∧ e.own = true ∧ γ b = some (g, base)
/-- What a function has answered, told by its data. -/
def AnsAt (args res : List PP) (ur : List U) (Z : Nat → Prop) (γ : GM) (es : List Ent) (w : World) (V : Value) (w' : World) : Prop :=
  Bel (ownedOf γ es) w.heap.size w w' ∧ ∃ Z' : Nat → Prop, (∀ g, Z' g → g < w'.heap.size ∧ (Z g ∨ w.heap.size ≤ g ∨ ownedOf γ es g)) ∧
      ∀ q, ∃ (γ' : GM) (vs : List PV) (es' : List Ent), mkPs q (res ++ outsOf args) ur = some (vs, es', []) ∧
      (∀ (F' : NS) (γ2 : GM) (m' : MM), (∀ g, Z' g → F'.z g) → (∀ (i : Nat) (e : Ent), es'[i]? = some e → F' (q + i) ∧ m' (q + i) = some e ∧ γ2 (q + i) = γ' i) → RelV F' γ2 m' w' (resSV (takeL (len res) vs)) V ∧ ∀ (i : Nat) (e : Ent), es'[i]? = some e → RelB F' γ2 m' w' (q + i) e.blk) ∧
      (∀ (i : Nat) (e : Ent) (g base : Nat), es'[i]? = some e → γ' i = some (g, base) → g < w'.heap.size ∧ (∀ kk vk xs, e.blk = .map kk vk xs → ∃ ents clock, w'.heap[g]? = some (.map ents clock) ∧ mapOk kk vk xs ents clock) ∧
        (e.own = true → (w.heap.size ≤ g ∨ ownedOf γ es g) ∧ nofr w' g ∧ ¬ Z' g ∧ ∀ (j : Nat) (e2 : Ent) (g2 base2 : Nat), j ≠ i → es'[j]? = some e2 → γ' j = some (g2, base2) → g2 ≠ g) ∧ (e.own = false → Z' g)) ∧
      ∀ (k b j : Nat), (rootIds 0 args)[k]? = some b → (rootIds (entsPs res) (outsOf args))[k]? = some j → ∃ e e', es[b]? = some e ∧ es'[j]? = some e' ∧ e'.own = true ∧ γ' j = γ b ∧ e.blk.len = e'.blk.len ∧ e.blk.n = e'.blk.n ∧ e.blk.tag = e'.blk.tag ∧ ∀ i n, ptrOk e.blk i n → ptrOk e'.blk i n
/-- What is known of a function at some data holds: what it answers. -/
def FnAt (P : Program) (f : FuncId) (args res : List PP) (us ur : List U) : Prop :=
  ∀ (Z : Nat → Prop) (γ : GM) (w : World) (Vs : List Value) (ps : List PV) (es : List Ent), mkPs 0 args us = some (ps, es, []) →
    All2 (RelP ⟨fun b => b < es.length, Z⟩ γ (memOf es) w) ps Vs → Mem ⟨Z, ownedOf γ es, []⟩ w ⟨fun b => b < es.length, Z⟩ γ (memOf es) (rootIds 0 args) w →
    Calls P f Vs.toArray w fun en w' => ∃ V, en = .returned V ∧ AnsAt args res ur Z γ es w V w'
/-- What is known of a function holds. -/
def FnOk (P : Program) (f : FuncId) (sp : Spec) : Prop :=
  ∀ us r, sp.G us = some r → FnAt P f sp.args sp.res us (sp.enc r)
/-- It panics at some data, with a number of a type. -/
def PanAt (P : Program) (f : FuncId) (args : List PP) (us : List U) (t : TypeId) (n : Int) : Prop :=
  ∀ (Z : Nat → Prop) (γ : GM) (w : World) (Vs : List Value) (ps : List PV) (es : List Ent), mkPs 0 args us = some (ps, es, []) →
    All2 (RelP ⟨fun b => b < es.length, Z⟩ γ (memOf es) w) ps Vs → Mem ⟨Z, ownedOf γ es, []⟩ w ⟨fun b => b < es.length, Z⟩ γ (memOf es) (rootIds 0 args) w →
    Calls P f Vs.toArray w fun en w' => en = .panicked [{ v := .iface t (.int .i64 n), recovered := false }] ∧ Bel (ownedOf γ es) w.heap.size w w'
/-- What is known of a function that may panic holds: did it return; the panic's type and number; what it returned. -/
def PFnOk (P : Program) (f : FuncId) (sp : Spec) : Prop :=
  ∀ us r, sp.G us = some r → ∀ ok t n vs, sp.enc r = .b ok :: .i t :: .i n :: vs → (ok = true → FnAt P f sp.args sp.res us vs) ∧ (ok = false → PanAt P f sp.args us t.toNat n)
def pvals : List PV → Option (List Value)
  | [] => some []
  | p :: l => match pvVal p with | some v => (match pvals l with | some r => some (v :: r) | none => none) | none => none
/-- What is known of a function without a Go body. -/
def ExtAt (P : Program) (f : FuncId) (args res : List PP) (us ur : List U) : Prop :=
  outsOf args = [] ∧ ∀ (ps : List PV) (es : List Ent), mkPs 0 args us = some (ps, es, []) → ∃ Vs V vs, es = [] ∧ pvals ps = some Vs ∧ (∀ w, (callFunc f Vs.toArray).run P w = .ok (.value V) w) ∧ vs.length = len res ∧
    (∀ q, mkPs q res ur = some (vs, [], [])) ∧ ∀ F γ m w, RelV F γ m w (resSV vs) V
def ExtOk (P : Program) (f : FuncId) (sp : Spec) : Prop :=
  outsOf sp.args = [] ∧ ∀ us r, sp.G us = some r → ∀ (ps : List PV) (es : List Ent), mkPs 0 sp.args us = some (ps, es, []) → ∃ Vs V vs, es = [] ∧ pvals ps = some Vs ∧ (∀ w, (callFunc f Vs.toArray).run P w = .ok (.value V) w) ∧ vs.length = len sp.res ∧
    (∀ q, mkPs q sp.res (sp.enc r) = some (vs, [], [])) ∧ ∀ F γ m w, RelV F γ m w (resSV vs) V
/-- A function with a Go body. -/
def Callable (P : Program) (f : FuncId) : Prop := ∃ fn, P.funcs[f]? = some fn ∧ (fn.name == "runtime.NumGoroutine") = false ∧ fn.body.isNone = false
/-- What is known of the functions holds: apart for calls of a nil pointer. -/
def EnvOk (P : Program) (env : FuncId → Option Spec) : Prop := ∀ f sp, env f = some sp → (f < 2000000 → (Callable P (f % 1000000) ∧ FnOk P (f % 1000000) sp) ∨ ExtOk P (f % 1000000) sp) ∧ (2000000 ≤ f → Callable P (f % 1000000) ∧ PFnOk P (f % 1000000) sp)
theorem entsUpd_get (m : MM) : ∀ (es : List Ent) (q b : Nat) (rest : List (Nat × Option Ent)), updM m (entsUpd q es ++ rest) b = updM (fun c => if q ≤ c ∧ c < q + es.length then es[c - q]? else m c) rest b
  | [], q, b, rest => by
    simp only [entsUpd, List.nil_append]
    congr 1; funext c; rw [if_neg (by simp <;> omega)]
  | e :: es, q, b, rest => by
    simp only [entsUpd, List.cons_append, updM]
    rw [entsUpd_get _ es (q + 1) b rest]
    congr 1; funext c
    simp only [List.length_cons]
    by_cases h : c = q
    · subst h; simp; intro h; omega
    · by_cases h2 : q + 1 ≤ c ∧ c < q + 1 + es.length
      · rw [if_pos h2, if_pos (by omega), show c - q = (c - (q + 1)) + 1 by omega]; simp
      · rw [if_neg h2]
        have : (c == q) = false := by simpa using h
        simp only [this, Bool.false_eq_true, if_false]
        rw [if_neg (by omega)]
theorem shared_get (μ : MM) : ∀ (as : List (Asg × Bool)) (m : MM) (b : Nat) (e : Ent), updM m (shared as μ) b = some e →
    (m b = some e ∧ ∀ x ∈ as, ∀ off n, x = (some (b, off, n), false) → μ b = none) ∨ (∃ e0, μ b = some e0 ∧ e = ⟨false, e0.blk⟩ ∧ ∃ off n, (some (b, off, n), false) ∈ as)
  | [], m, b, e, h => .inl ⟨h, fun x hx => by simp at hx⟩
  | (none, o) :: as, m, b, e, h => by
    rcases shared_get μ as m b e (by simpa [shared] using h) with ⟨h1, h2⟩ | ⟨e0, h1, h2, off, n, h3⟩
    · refine .inl ⟨h1, fun x hx off n hxx => ?_⟩
      rcases List.mem_cons.1 hx with rfl | hx
      · cases hxx
      · exact h2 x hx off n hxx
    · exact .inr ⟨e0, h1, h2, off, n, by simp [h3]⟩
  | (some (c, off, n), true) :: as, m, b, e, h => by
    rcases shared_get μ as m b e (by simpa [shared] using h) with ⟨h1, h2⟩ | ⟨e0, h1, h2, off, n, h3⟩
    · refine .inl ⟨h1, fun x hx off n hxx => ?_⟩
      rcases List.mem_cons.1 hx with rfl | hx
      · simp at hxx
      · exact h2 x hx off n hxx
    · exact .inr ⟨e0, h1, h2, off, n, by simp [h3]⟩
  | (some (c, off, n), false) :: as, m, b, e, h => by
    simp only [shared] at h
    split at h
    · rename_i e0 he0
      simp only [updM] at h
      rcases shared_get μ as _ b e h with ⟨h1, h2⟩ | ⟨e0, h1, h2, off, n, h3⟩
      · by_cases hb : b = c
        · subst hb
          simp at h1
          exact .inr ⟨e0, he0, h1.symm, off, n, by simp⟩
        · have : (b == c) = false := by simpa using hb
          simp only [this, Bool.false_eq_true, if_false] at h1
          refine .inl ⟨h1, fun x hx off' n' hxx => ?_⟩
          rcases List.mem_cons.1 hx with rfl | hx
          · simp only [Prod.mk.injEq, Option.some.injEq] at hxx
            exact absurd hxx.1.1.symm hb
          · exact h2 x hx off' n' hxx
      · exact .inr ⟨e0, h1, h2, off, n, by simp [h3]⟩
    · rename_i he0
      rcases shared_get μ as m b e h with ⟨h1, h2⟩ | ⟨e0, h1, h2, off, n, h3⟩
      · refine .inl ⟨h1, fun x hx off' n' hxx => ?_⟩
        rcases List.mem_cons.1 hx with rfl | hx
        · simp only [Prod.mk.injEq, Option.some.injEq] at hxx
          rw [← hxx.1.1]
          exact he0
        · exact h2 x hx off' n' hxx
      · exact .inr ⟨e0, h1, h2, off, n, by simp [h3]⟩
end
end Go.Proofs.Ytmmaechogibodaa.Vm

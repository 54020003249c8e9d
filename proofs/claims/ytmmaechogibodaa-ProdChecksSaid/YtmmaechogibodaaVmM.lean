/- Calls, and every operation of the abstract interpreter. Conditions: none here. -/
import Derived.Test.YtmmaechogibodaaVmL
set_option linter.unusedVariables false
set_option linter.unusedSimpArgs false
namespace Go.Proofs.Ytmmaechogibodaa.Vm
open Go Go.RowKit

section
variable {P : Program} {A : Ctx} {w0 : World} {F : NS} {γ : GM} {s : St} {a : Act} {w : World}
theorem pvals_rel {m : MM} : ∀ {l : List PV} {vs Vs : List Value}, pvals l = some vs → All2 (RelP F γ m w) l Vs → Vs = vs
  | [], vs, [], h, _ => by simp only [pvals, Option.some.injEq] at h; exact h.symm ▸ rfl
  | p :: l, vs, V :: Vs, h, hr => by
    simp only [pvals] at h
    split at h
    · rename_i v hv
      split at h
      · rename_i r hr'
        obtain rfl := Option.some.inj h
        rw [pvals_rel hr' hr.2, svVal_rel (x := .pv p) hv hr.1]
      · cases h
    · cases h
  | [], _, _ :: _, _, hr => hr.elim
  | _ :: _, _, [], _, hr => hr.elim
theorem all2_gets {α β : Type} {R : α → β → Prop} : ∀ {l : List α} {r : List β}, l.length = r.length → (∀ (k : Nat) (a : α) (b : β), l[k]? = some a → r[k]? = some b → R a b) → All2 R l r
  | [], [], _, _ => trivial
  | a :: l, b :: r, hl, h => ⟨h 0 a b rfl rfl, all2_gets (by simpa using hl) fun k a' b' h1 h2 => h (k + 1) a' b' (by simpa using h1) (by simpa using h2)⟩
  | [], _ :: _, hl, _ => by simp at hl
  | _ :: _, [], hl, _ => by simp at hl
theorem normP_rel {m : MM} {p : PV} {V : Value} (h : RelP F γ m w p V) : RelP F γ m w (normP p) V := by
  cases p with
  | one c => exact h
  | agg l => exact h
  | dat l ds =>
    obtain ⟨cs, rfl, h2, h3⟩ := h
    refine ⟨cs, rfl, all2_gets (by rw [cvsL_len, ← h2]; simp) fun k c V hc hV => ?_⟩
    obtain ⟨V', h4, h5⟩ := DeepR.cells (γ := γ) (m := m) h3 l 0 (fun k => by rw [Nat.zero_add]) k c hc
    rw [Nat.zero_add] at h4
    have : cs[k]? = some V := by rw [← Array.getElem?_toList]; exact hV
    rw [this] at h4
    obtain rfl := Option.some.inj h4
    exact h5
theorem pvs_rel {m : MM} : ∀ {l : List SV} {ps : List PV} {Vs : List Value}, pvs l = some ps → All2 (RelV F γ m w) l Vs → All2 (RelP F γ m w) ps Vs
  | [], ps, [], h, _ => by simp only [pvs, Option.some.injEq] at h; subst h; trivial
  | .pv p :: l, ps, V :: Vs, h, hr => by
    simp only [pvs] at h
    split at h
    · rename_i r hr'
      obtain rfl := Option.some.inj h
      exact ⟨normP_rel hr.1, pvs_rel hr' hr.2⟩
    · cases h
  | .tup p :: l, ps, V :: Vs, h, hr => by simp [pvs] at h
  | [], ps, _ :: _, h, hr => hr.elim
  | _ :: _, ps, [], h, hr => hr.elim
theorem evs_rel (R : Rel A w0 F γ s a w) : ∀ l : List Operand, All2 (RelV F γ s.mem w) (l.map s.ev) (l.map a.eval)
  | [] => trivial
  | x :: l => ⟨R.ev x, evs_rel R l⟩
theorem anyRo_of : ∀ (es : List Ent) (j : Nat) (e : Ent), es[j]? = some e → e.own = false → anyRo es = true
  | [], j, e, h, _ => by simp at h
  | x :: es, j, e, h, ho => by
    simp only [anyRo]
    cases j with
    | zero => simp at h; subst h; rw [ho]
    | succ j =>
      have := anyRo_of es j e (by simpa using h) ho
      split <;> first | rfl | exact this
theorem inAsg_false {b : Nat} : ∀ {l : List (Asg × Bool)}, inAsg b l = false → ∀ y ∈ l, ∀ c o n, y.1 = some (c, o, n) → b ≠ c
  | [], _, y, hy, _, _, _, _ => by simp at hy
  | (none, x) :: l, h, y, hy, c, o, n, hc => by
    simp only [inAsg] at h
    rcases List.mem_cons.1 hy with rfl | hy
    · cases hc
    · exact inAsg_false h y hy c o n hc
  | (some (d, o', n'), x) :: l, h, y, hy, c, o, n, hc => by
    simp only [inAsg] at h
    split at h
    · cases h
    · rename_i hbd
      rcases List.mem_cons.1 hy with rfl | hy
      · simp only [Option.some.injEq, Prod.mk.injEq] at hc; rw [← hc.1]; simpa using hbd
      · exact inAsg_false h y hy c o n hc
theorem ownIn_false {b : Nat} : ∀ {l : List (Asg × Bool)}, ownIn b l = false → ∀ y ∈ l, ∀ c o n, y = (some (c, o, n), true) → b ≠ c
  | [], _, y, hy, _, _, _, _ => by simp at hy
  | (none, x) :: l, h, y, hy, c, o, n, hc => by
    simp only [ownIn] at h
    rcases List.mem_cons.1 hy with rfl | hy
    · cases hc
    · exact ownIn_false h y hy c o n hc
  | (some (d, o', n'), false) :: l, h, y, hy, c, o, n, hc => by
    simp only [ownIn] at h
    rcases List.mem_cons.1 hy with rfl | hy
    · cases hc
    · exact ownIn_false h y hy c o n hc
  | (some (d, o', n'), true) :: l, h, y, hy, c, o, n, hc => by
    simp only [ownIn] at h
    split at h
    · cases h
    · rename_i hbd
      rcases List.mem_cons.1 hy with rfl | hy
      · simp only [Option.some.injEq, Prod.mk.injEq, and_true] at hc; rw [← hc.1]; simpa using hbd
      · exact ownIn_false h y hy c o n hc
theorem okAsg_spec : ∀ {l : List (Asg × Bool)}, okAsg l = true → ∀ (i j : Nat) (b1 o1 n1 : Nat) (y : Asg × Bool) (b2 o2 n2 : Nat), i ≠ j → l[i]? = some (some (b1, o1, n1), true) → l[j]? = some y → y.1 = some (b2, o2, n2) → b1 ≠ b2
  | [], _, i, j, _, _, _, _, _, _, _, _, h, _, _ => by simp at h
  | x :: l, h, i, j, b1, o1, n1, y, b2, o2, n2, hij, hi, hj, hy => by
    have hl : okAsg l = true := by
      obtain ⟨x1, x2⟩ := x
      cases x1 with
      | none => simpa [okAsg] using h
      | some z =>
        obtain ⟨b, o, n⟩ := z
        cases x2 <;> simp only [okAsg] at h <;> split at h <;> first | (cases h; done) | exact h
    cases i with
    | zero =>
      simp only [List.getElem?_cons_zero, Option.some.injEq] at hi
      subst hi
      cases j with
      | zero => exact absurd rfl hij
      | succ j =>
        simp only [okAsg] at h
        split at h
        · cases h
        · rename_i hin
          exact inAsg_false hin y (List.mem_of_getElem? (by simpa using hj)) b2 o2 n2 hy
    | succ i =>
      cases j with
      | zero =>
        simp only [List.getElem?_cons_zero, Option.some.injEq] at hj
        subst hj
        obtain ⟨y1, y2⟩ := x
        simp only at hy
        subst hy
        have hm := List.mem_of_getElem? (show l[i]? = some (some (b1, o1, n1), true) by simpa using hi)
        cases y2 with
        | true =>
          simp only [okAsg] at h
          split at h
          · cases h
          · rename_i hin; exact Ne.symm (inAsg_false hin _ hm b1 o1 n1 rfl)
        | false =>
          simp only [okAsg] at h
          split at h
          · cases h
          · rename_i hin; exact Ne.symm (ownIn_false hin _ hm b1 o1 n1 rfl)
      | succ j => exact okAsg_spec hl i j b1 o1 n1 y b2 o2 n2 (by omega) (by simpa using hi) (by simpa using hj) hy
/-- Names alone: what is kept of them. -/
structure NStep (F : NS) (γ : GM) (m : MM) (F' : NS) (γ' : GM) (m' : MM) : Prop where
  names : ∀ b, F b → F' b
  same : ∀ b, F b → γ' b = γ b
  mem : ∀ b e', F b → m' b = some e' → ∃ e, m b = some e ∧ e.blk.len = e'.blk.len ∧ e.blk.n = e'.blk.n ∧ e.blk.tag = e'.blk.tag ∧ ∀ i n, ptrOk e.blk i n → ptrOk e'.blk i n
/-- A cell that tells of no frozen memory. -/
def CV.noz : CV → Bool
  | .ro .. => false
  | .rop .. => false
  | .dt .. => false
  | _ => true
section
variable {F' : NS} {γ' : GM} {m m' : MM}
theorem RelC.nstep (n : NStep F γ m F' γ' m') {c : CV} {V : Value} (hz : c.noz = true ∨ ∀ g, F.z g → F'.z g) (h : RelC F γ m w c V) : RelC F' γ' m' w c V := by
  rcases hz with hz | hz
  · have ms : MStep ⟨F.f, fun _ => False⟩ γ m w ⟨F'.f, fun _ => False⟩ γ' m' w := ⟨n.names, n.same, n.mem, WStep.refl w, fun _ h => h, fun _ _ => rfl⟩
    have h1 : RelC ⟨F.f, fun _ => False⟩ γ m w c V := by cases c <;> first | (cases hz; done) | exact h
    have h2 := h1.step ms
    cases c <;> first | (cases hz; done) | exact h2
  · exact h.step ⟨n.names, n.same, n.mem, WStep.refl w, hz, fun _ _ => rfl⟩
def PV.noz : PV → Bool
  | .one c => c.noz
  | .agg l => l.all CV.noz
  | .dat .. => false
theorem RelP.nstep (n : NStep F γ m F' γ' m') {c : PV} {V : Value} (hz : c.noz = true ∨ ∀ g, F.z g → F'.z g) (h : RelP F γ m w c V) : RelP F' γ' m' w c V := by
  cases c with
  | one c => exact RelC.nstep n hz h
  | agg l =>
    obtain ⟨cs, h1, h2⟩ := h
    refine ⟨cs, h1, All2.of_get h2.length fun k c V hc hV => ?_⟩
    obtain ⟨V', v1, v2⟩ := h2.get k c hc
    rw [hV] at v1
    obtain rfl := Option.some.inj v1
    exact v2.nstep n (hz.imp (fun h => (List.all_eq_true.1 h) c (List.mem_of_getElem? hc)) id)
  | dat l ds =>
    rcases hz with hz | hz
    · cases hz
    · obtain ⟨cs, h1, h2, h3⟩ := h; exact ⟨cs, h1, h2, h3.step hz fun _ _ => rfl⟩
theorem RelV.nstep (n : NStep F γ m F' γ' m') {l : List PV} {V : Value} (hz : (∀ p ∈ l, p.noz = true) ∨ ∀ g, F.z g → F'.z g) (h : RelV F γ m w (resSV l) V) : RelV F' γ' m' w (resSV l) V := by
  unfold resSV at *
  split at h
  · rename_i p
    exact RelP.nstep (c := p) n (hz.imp (fun h => h p (by simp)) id) h
  · obtain ⟨vs, h1, h2⟩ := h
    refine ⟨vs, h1, All2.of_get h2.length fun k c V hc hV => ?_⟩
    obtain ⟨V', v1, v2⟩ := h2.get k c hc
    rw [hV] at v1
    obtain rfl := Option.some.inj v1
    exact v2.nstep n (hz.imp (fun h => h c (List.mem_of_getElem? hc)) id)
theorem RelB.nstep (n : NStep F γ m F' γ' m') {b : Nat} {blk : Blk} (hb : γ' b = γ b) (hz : (∀ i j c, blk.at i j = some c → c.noz = true) ∨ ∀ g, F.z g → F'.z g) (h : RelB F γ m w b blk) : RelB F' γ' m' w b blk := fun i j c hc =>
  let ⟨g, base, cs, t, V, v1, v2, v3, v4⟩ := h i j c hc
  ⟨g, base, cs, t, V, hb.trans v1, v2, v3, v4.nstep n (hz.imp (fun h => h i j c hc) id)⟩
theorem RelB.rename {b b' : Nat} {blk : Blk} (h : RelB F γ m w b blk) (hb : γ b' = γ b) : RelB F γ m w b' blk := fun i j c hc =>
  let ⟨g, base, cs, t, V, v1, v2, v3, v4⟩ := h i j c hc
  ⟨g, base, cs, t, V, hb.trans v1, v2, v3, v4⟩
end
/-- Blocks that tell of no frozen memory. -/
def Blk.noz (blk : Blk) : Prop := ∀ i j c, blk.at i j = some c → c.noz = true
theorem row_noz (k : IntKind) (xs : List Int) : (Blk.row k xs).noz := fun i j c h => by
  simp only [Blk.at] at h
  split at h
  · obtain rfl := Option.some.inj h; rfl
  · cases h
theorem recs_noz (ks : List IntKind) (xs : List (List Int)) : (Blk.recs ks xs).noz := fun i j c h => by
  simp only [Blk.at] at h
  split at h
  · rw [intsV_get] at h
    cases hk : ks[j]? with
    | none => rw [hk] at h; cases h
    | some q => rw [hk] at h; obtain rfl := Option.some.inj h; rfl
  · cases h
theorem mkCs_noz : ∀ (q : Nat) (ps : List CP) (us : List U) (cs : List CV) (es : List Ent) (r : List U), roCs ps = false → mkCs q ps us = some (cs, es, r) → (∀ c ∈ cs, c.noz = true) ∧ ∀ e ∈ es, e.blk.noz
  | q, [], us, cs, es, r, _, h => by simp only [mkCs, Option.some.injEq, Prod.mk.injEq] at h; rw [← h.1, ← h.2.1]; simp
  | q, p :: ps, us, cs, es, r, hr, h => by
    cases us with
    | nil => cases p <;> simp [mkCs] at h
    | cons u us =>
      cases p <;> cases u <;> simp only [mkCs] at h <;> first | (cases h; done) | skip
      all_goals
        split at h
        · rename_i cs' es' r' h'
          simp only [Option.some.injEq, Prod.mk.injEq] at h
          obtain ⟨rfl, rfl, _⟩ := h
          first
          | (simp [roCs] at hr; done)
          | (obtain ⟨i1, i2⟩ := mkCs_noz _ ps _ _ _ _ (by simpa [roCs] using hr) h'
             refine ⟨fun c hc => ?_, fun e he => ?_⟩
             · rcases List.mem_cons.1 hc with rfl | hc
               · rfl
               · exact i1 c hc
             · first
               | exact i2 e he
               | (rcases List.mem_cons.1 he with rfl | he
                  · first | exact row_noz _ _ | exact recs_noz _ _ | (intro i j c h; simp [Blk.at] at h)
                  · exact i2 e he))
        · cases h
theorem mkP_noz {q : Nat} {p : PP} {us : List U} {c : PV} {es : List Ent} {r : List U} (hr : roPs [p] = false) (h : mkP q p us = some (c, es, r)) : c.noz = true ∧ ∀ e ∈ es, e.blk.noz := by
  cases p with
  | one p =>
    have hr : roCs [p] = false := by
      simp only [roPs] at hr
      split at hr
      · cases hr
      · assumption
    simp only [mkP] at h
    split at h
    · rename_i c' es' r' h'
      simp only [Option.some.injEq, Prod.mk.injEq] at h
      obtain ⟨rfl, rfl, _⟩ := h
      obtain ⟨i1, i2⟩ := mkCs_noz _ _ _ _ _ _ hr h'
      exact ⟨i1 c' (by simp), i2⟩
    · cases h
  | agg ps =>
    have hr : roCs ps = false := by
      simp only [roPs] at hr
      split at hr
      · cases hr
      · assumption
    simp only [mkP] at h
    split at h
    · rename_i c' es' r' h'
      simp only [Option.some.injEq, Prod.mk.injEq] at h
      obtain ⟨rfl, rfl, _⟩ := h
      obtain ⟨i1, i2⟩ := mkCs_noz _ _ _ _ _ _ hr h'
      exact ⟨List.all_eq_true.2 i1, i2⟩
    · cases h
  | ptr ps =>
    have hr : roCs ps = false := by
      simp only [roPs] at hr
      split at hr
      · cases hr
      · assumption
    simp only [mkP] at h
    split at h
    · rename_i c' es' r' h'
      simp only [Option.some.injEq, Prod.mk.injEq] at h
      obtain ⟨rfl, rfl, _⟩ := h
      obtain ⟨i1, i2⟩ := mkCs_noz _ _ _ _ _ _ hr h'
      refine ⟨rfl, fun e he => ?_⟩
      rcases List.mem_cons.1 he with rfl | he
      · intro i j c hc
        simp only [Blk.at] at hc
        split at hc
        · exact i1 c (List.mem_of_getElem? hc)
        · cases hc
      · exact i2 e he
    · cases h
  | mptr l => simp [roPs] at hr
theorem roPs_cons {p : PP} {ps : List PP} (h : roPs (p :: ps) = false) : roPs [p] = false ∧ roPs ps = false := by
  cases p <;> simp only [roPs] at h ⊢ <;> first | (cases h; done) | skip
  all_goals
    split at h
    · cases h
    · rename_i e; simp only [e]; exact ⟨trivial, h⟩
theorem mkPs_noz : ∀ (ps : List PP) {q : Nat} {us : List U} {vs : List PV} {es : List Ent} {r : List U}, roPs ps = false → mkPs q ps us = some (vs, es, r) → (∀ c ∈ vs, c.noz = true) ∧ ∀ e ∈ es, e.blk.noz
  | [], q, us, vs, es, r, _, h => by simp only [mkPs, Option.some.injEq, Prod.mk.injEq] at h; rw [← h.1, ← h.2.1]; simp
  | p :: ps, q, us, vs, es, r, hr, h => by
    obtain ⟨r1, r2⟩ := roPs_cons hr
    simp only [mkPs] at h
    split at h
    · rename_i c es1 us1 h1
      split at h
      · rename_i cs es2 us2 h2
        simp only [Option.some.injEq, Prod.mk.injEq] at h
        obtain ⟨rfl, rfl, _⟩ := h
        obtain ⟨i1, i2⟩ := mkP_noz r1 h1
        obtain ⟨j1, j2⟩ := mkPs_noz ps r2 h2
        refine ⟨fun c' hc => ?_, fun e he => ?_⟩
        · rcases List.mem_cons.1 hc with rfl | hc
          · exact i1
          · exact j1 c' hc
        · rcases List.mem_append.1 he with he | he
          · exact i2 e he
          · exact j2 e he
      · cases h
    · cases h
/-- How many blocks are told. -/
theorem mkCs_ents : ∀ (q : Nat) (ps : List CP) (us : List U) (cs : List CV) (es : List Ent) (r : List U), mkCs q ps us = some (cs, es, r) → es.length = entsCs ps
  | q, [], us, cs, es, r, h => by simp only [mkCs, Option.some.injEq, Prod.mk.injEq] at h; rw [← h.2.1]; rfl
  | q, p :: ps, us, cs, es, r, h => by
    cases us with
    | nil => cases p <;> simp [mkCs] at h
    | cons u us =>
      cases p <;> cases u <;> simp only [mkCs] at h <;> first | (cases h; done) | skip
      all_goals
        split at h
        · rename_i cs' es' r' h'
          simp only [Option.some.injEq, Prod.mk.injEq] at h
          obtain ⟨_, rfl, _⟩ := h
          have := mkCs_ents _ ps _ _ _ _ h'
          simp only [entsCs, entsC, List.length_cons, this]; omega
        · cases h
theorem mkP_ents {q : Nat} {p : PP} {us : List U} {c : PV} {es : List Ent} {r : List U} (h : mkP q p us = some (c, es, r)) : es.length = entsP p := by
  cases p with
  | one p =>
    simp only [mkP] at h
    split at h
    · rename_i c' es' r' h'
      simp only [Option.some.injEq, Prod.mk.injEq] at h
      obtain ⟨_, rfl, _⟩ := h
      have := mkCs_ents _ _ _ _ _ _ h'
      simpa [entsP, entsCs] using this
    · cases h
  | agg ps =>
    simp only [mkP] at h
    split at h
    · rename_i c' es' r' h'
      simp only [Option.some.injEq, Prod.mk.injEq] at h
      obtain ⟨_, rfl, _⟩ := h
      exact mkCs_ents _ _ _ _ _ _ h'
    · cases h
  | ptr ps =>
    simp only [mkP] at h
    split at h
    · rename_i c' es' r' h'
      simp only [Option.some.injEq, Prod.mk.injEq] at h
      obtain ⟨_, rfl, _⟩ := h
      have := mkCs_ents _ _ _ _ _ _ h'
      simp only [List.length_cons, this, entsP]; omega
    · cases h
  | mptr l =>
    cases us with
    | nil => simp [mkP] at h
    | cons u us =>
      cases u <;> simp [mkP] at h
      obtain ⟨_, rfl, _⟩ := h
      rfl
theorem mkPs_ents : ∀ (ps : List PP) {q : Nat} {us : List U} {vs : List PV} {es : List Ent} {r : List U}, mkPs q ps us = some (vs, es, r) → es.length = entsPs ps
  | [], q, us, vs, es, r, h => by simp only [mkPs, Option.some.injEq, Prod.mk.injEq] at h; rw [← h.2.1]; rfl
  | p :: ps, q, us, vs, es, r, h => by
    simp only [mkPs] at h
    split at h
    · rename_i c es1 us1 h1
      split at h
      · rename_i cs es2 us2 h2
        simp only [Option.some.injEq, Prod.mk.injEq] at h
        obtain ⟨_, rfl, _⟩ := h
        rw [List.length_append, mkP_ents h1, mkPs_ents ps h2]; rfl
      · cases h
    · cases h
theorem rootIds_lt : ∀ (ps : List PP) (q b : Nat), b ∈ rootIds q ps → q ≤ b ∧ b < q + entsPs ps
  | [], q, b, h => by simp [rootIds] at h
  | p :: ps, q, b, h => by
    have step : b ∈ rootIds (q + entsP p) ps → q ≤ b ∧ b < q + entsPs (p :: ps) := fun h => by
      obtain ⟨h1, h2⟩ := rootIds_lt ps _ b h
      simp only [entsPs]; omega
    simp only [rootIds] at h
    split at h
    · rename_i hr
      rcases List.mem_cons.1 h with rfl | h
      · refine ⟨Nat.le_refl _, ?_⟩
        have : 0 < entsP p := by
          unfold isRoot at hr
          split at hr <;> first | (cases hr; done) | (simp [entsP, entsC] <;> omega)
        simp only [entsPs]; omega
      · exact step h
    · exact step h
theorem rootIds_inj : ∀ (ps : List PP) (q k k' b b' : Nat), k ≠ k' → (rootIds q ps)[k]? = some b → (rootIds q ps)[k']? = some b' → b ≠ b'
  | [], q, k, k', b, b', _, h, _ => by simp [rootIds] at h
  | p :: ps, q, k, k', b, b', hk, h, h' => by
    simp only [rootIds] at h h'
    split at h
    · rename_i hr
      simp only [hr] at h'
      have hp : 0 < entsP p := by
        unfold isRoot at hr
        split at hr <;> first | (cases hr; done) | (simp [entsP, entsC] <;> omega)
      cases k with
      | zero =>
        cases k' with
        | zero => exact absurd rfl hk
        | succ k' =>
          simp only [List.getElem?_cons_zero, Option.some.injEq] at h
          have := (rootIds_lt ps _ b' (List.mem_of_getElem? (by simpa using h'))).1
          omega
      | succ k =>
        cases k' with
        | zero =>
          simp only [List.getElem?_cons_zero, Option.some.injEq] at h'
          have := (rootIds_lt ps _ b (List.mem_of_getElem? (by simpa using h))).1
          omega
        | succ k' => exact rootIds_inj ps _ k k' b b' (by omega) (by simpa using h) (by simpa using h')
    · rename_i hr
      simp only [hr] at h'
      exact rootIds_inj ps _ k k' b b' hk h h'
end
end Go.Proofs.Ytmmaechogibodaa.Vm

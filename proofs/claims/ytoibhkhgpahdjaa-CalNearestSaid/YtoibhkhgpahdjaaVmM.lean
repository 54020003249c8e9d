/- Calls, and every operation of the abstract interpreter. Conditions: none here. -/
import Derived.Test.YtoibhkhgpahdjaaVmL
set_option linter.unusedVariables false
set_option linter.unusedSimpArgs false
namespace Go.Proofs.Ytoibhkhgpahdjaa.Vm
open Go Go.RowKit

section
variable {P : Program} {A : Nat → Prop} {w0 : World} {F : Nat → Prop} {γ : GM} {s : St} {a : Act} {w : World}
theorem pvals_rel {m : MM} : ∀ {l : List PV} {vs Vs : List Value}, pvals l = some vs → All2 (RelP F γ m w) l Vs → Vs = vs
  | [], vs, [], h, _ => by simp only [pvals, Option.some.injEq] at h; exact h.symm ▸ rfl
  | p :: l, vs, V :: Vs, h, hr => by
    simp only [pvals] at h
    split at h
    · rename_i v hv
      split at h
      · rename_i r hr'
        obtain rfl := Option.some.inj h
        rw [pvals_rel hr' hr.2, svVal_rel (x := .pv p) hv hr.1]
      · cases h
    · cases h
  | [], _, _ :: _, _, hr => hr.elim
  | _ :: _, _, [], _, hr => hr.elim
theorem pvs_rel {m : MM} : ∀ {l : List SV} {ps : List PV} {Vs : List Value}, pvs l = some ps → All2 (RelV F γ m w) l Vs → All2 (RelP F γ m w) ps Vs
  | [], ps, [], h, _ => by simp only [pvs, Option.some.injEq] at h; subst h; trivial
  | .pv p :: l, ps, V :: Vs, h, hr => by
    simp only [pvs] at h
    split at h
    · rename_i r hr'
      obtain rfl := Option.some.inj h
      exact ⟨hr.1, pvs_rel hr' hr.2⟩
    · cases h
  | .tup p :: l, ps, V :: Vs, h, hr => by simp [pvs] at h
  | [], ps, _ :: _, h, hr => hr.elim
  | _ :: _, ps, [], h, hr => hr.elim
theorem evs_rel (R : Rel A w0 F γ s a w) : ∀ l : List Operand, All2 (RelV F γ s.mem w) (l.map s.ev) (l.map a.eval)
  | [] => trivial
  | x :: l => ⟨R.ev x, evs_rel R l⟩
theorem anyRo_of : ∀ (es : List Ent) (j : Nat) (e : Ent), es[j]? = some e → e.own = false → anyRo es = true
  | [], j, e, h, _ => by simp at h
  | x :: es, j, e, h, ho => by
    simp only [anyRo]
    cases j with
    | zero => simp at h; subst h; rw [ho]
    | succ j =>
      have := anyRo_of es j e (by simpa using h) ho
      split <;> first | rfl | exact this
theorem shared_out (μ : MM) : ∀ (as : List (Asg × Bool)) (m : MM) (b : Nat), μ b = none → updM m (shared as μ) b = m b
  | [], m, b, h => rfl
  | (none, o) :: as, m, b, h => by simp only [shared]; exact shared_out μ as m b h
  | (some (c, off, n), o) :: as, m, b, h => by
    simp only [shared]
    split
    · rename_i e he
      simp only [updM]
      rw [shared_out μ as _ b h]
      have : (b == c) = false := by
        simp only [beq_eq_false_iff_ne]; intro e'; subst e'; rw [h] at he; cases he
      simp [this]
    · exact shared_out μ as m b h
theorem told_relB (R : Rel A w0 F γ s a w) {x : Asg × Bool} {e : Ent} (hk : AsgOk s.mem x e) {F' : Nat → Prop} {γ' : GM} {m' : MM} {i : Nat} (hg : γ' i = shiftA γ x.1) : RelB F' γ' m' w i e.blk := by
  obtain ⟨h1, h2, h3⟩ := hk
  refine relB_flat h2 fun f v hf => ?_
  cases hx : x.1 with
  | none =>
    rw [hx] at h3
    have : vals e.blk = [] := List.eq_nil_of_length_eq_zero (by rw [vals_len h2, show e.blk.len = 0 from h3, Nat.zero_mul])
    rw [this] at hf; simp at hf
  | some y =>
    obtain ⟨b, off, n⟩ := y
    rw [hx] at h3
    obtain ⟨e0, k1, _, k3, _, _, k6⟩ := h3
    obtain ⟨g, base, cs, t, j1, j2, j3⟩ := flat_relB k3 (R.memr b e0 k1).2 _ v (k6 f v hf)
    exact ⟨g, base + off * n, cs, t, by rw [hg, hx]; simp [shiftA, j1], j2, by rw [← j3]; congr 1; omega⟩
theorem ok_call {env : FuncId → Option Spec} (hE : EnvOk P env) (R : Rel A w0 F γ s a w) {nid : Nat} (hf : ∀ q, nid ≤ q → q < nid + 64 → ¬ F q) {o : Oper} {out : Out} {f : FuncId} {args : Array Operand} {ats : Array TypeId}
    (ho : o.op = .call { callee := .value (.func f), args := args, argTypes := ats }) (h : (exCall (env f) (args.toList.map s.ev) s.mem nid).den = some out) : Sim P A w0 F nid s o out a w := by
  unfold exCall at h
  split at h
  case h_1 => exact (den_fail h).elim
  rename_i sp henv
  split at h
  case h_1 => exact (den_fail h).elim
  rename_i ps hps
  split at h
  case h_1 => exact (den_fail h).elim
  rename_i us as hrd
  simp only [T.den] at h
  cases hG : sp.G us with
  | none => rw [hG] at h; cases h
  | some r =>
  rw [hG] at h
  simp only [Option.bind_some] at h
  split at h
  case h_2 => exact (den_fail h).elim
  rename_i vs es' hmk
  split at h
  case isFalse => exact (den_fail h).elim
  rename_i hes
  rw [len_eq] at hes
  simp only [T.den, Option.some.injEq] at h
  subst h
  have hVs := pvs_rel hps (evs_rel R args.toList)
  obtain ⟨ps', es, k1, k2, k3, k4⟩ := (rdPs_again (γ := γ) (w := w) (F := F) hrd).make 0 []
  have k1 : mkPs 0 sp.args us = some (ps', es, []) := by simpa using k1
  obtain ⟨γ0, hγ0⟩ : ∃ γ0 : GM, ∀ i, γ0 i = match as[i]? with | some x => shiftA γ x.1 | none => none := ⟨_, fun _ => rfl⟩
  have hg0 : ∀ i x, as[i]? = some x → γ0 i = shiftA γ x.1 := fun i x hx => by rw [hγ0, hx]
  have T0 : Told γ 0 as es (fun b => b < es.length) γ0 (memOf es) :=
    ⟨fun i e he => by rw [Nat.zero_add]; exact (List.getElem?_eq_some_iff.1 he).1, fun i e he => by rw [Nat.zero_add, memOf_eq]; exact he, fun i x hx => by rw [Nat.zero_add]; exact hg0 i x hx⟩
  have hA := k4 _ hVs _ _ _ T0
  rcases hE f sp henv with hfn | hext
  case inr =>
    obtain ⟨Vs', V, vs', e1, e2, e3, e4⟩ := hext us r hG ps' es k1
    have e5 := pvals_rel e1 hA
    have e6 := e3 nid
    rw [hmk] at e6
    obtain ⟨rfl, rfl⟩ : vs = vs' ∧ es' = [] := by simpa using e6
    refine Sim.look R (V := V) ?_ (e4 _ _ _ _)
    have hr := e2 w
    rw [← e5] at hr
    have hm : Array.map a.eval args = (args.toList.map a.eval).toArray := by apply Array.ext'; simp
    simp only [execOp, ho, resolve, Act.eval, Deferred.ofValue, Sem.run_bind, Sem.run_pure, Result.andThen_ok, invoke]
    simp only [Array.empty_append, Array.append_empty]
    rw [hm, hr]
  obtain ⟨⟨fn, c1, c2, c3⟩, hFn⟩ := hfn
  have hasg : ∀ i e, es[i]? = some e → ∃ x, as[i]? = some x ∧ AsgOk s.mem x e := fun i e he => by
    have hi := (List.getElem?_eq_some_iff.1 he).1
    obtain ⟨x, hx⟩ : ∃ x, as[i]? = some x := ⟨_, List.getElem?_eq_getElem (by omega)⟩
    exact ⟨x, hx, k3 i e x he hx⟩
  have hBs : ∀ b e, memOf es b = some e → RelB (fun b => b < es.length) γ0 (memOf es) w b e.blk := fun b e hb => by
    rw [memOf_eq] at hb
    obtain ⟨x, hx, hk⟩ := hasg b e hb
    exact told_relB R hk (hg0 b x hx)
  have hsrc : ∀ b g base, b < es.length → γ0 b = some (g, base) → ∃ c e0 base0 x off n, as[b]? = some x ∧ x.1 = some (c, off, n) ∧ s.mem c = some e0 ∧ γ c = some (g, base0) := fun b g base hb hg => by
    obtain ⟨x, hx, hk⟩ := hasg b _ (List.getElem?_eq_getElem hb)
    rw [hg0 b x hx] at hg
    cases hx1 : x.1 with
    | none => rw [hx1] at hg; cases hg
    | some y =>
      obtain ⟨c, off, n⟩ := y
      obtain ⟨_, _, h3⟩ := hk
      rw [hx1] at h3 hg
      obtain ⟨e0, j1, _⟩ := h3
      simp only [shiftA, Option.map_eq_some_iff] at hg
      obtain ⟨⟨g', base'⟩, j2, j3⟩ := hg
      simp only [Prod.mk.injEq] at j3
      obtain ⟨rfl, _⟩ := j3
      exact ⟨c, e0, base', x, off, n, hx, hx1, j1, j2⟩
  have hcalls := hFn us r hG γ0 w (args.toList.map a.eval) ps' es k1 hA hBs (fun b g base hb hg => by
    obtain ⟨c, e0, base0, _, _, _, _, _, j1, j2⟩ := hsrc b g base hb hg
    exact R.bnd c e0 g base0 j1 j2)
  intro K Q hK
  unfold Oper.wp
  have hexec : (execOp a.eval o).run P w = .ok (.enter f (args.toList.map a.eval).toArray) w := by
    simp only [execOp, ho, resolve, Act.eval, Deferred.ofValue, Sem.run_bind, Sem.run_pure, Result.andThen_ok, invoke, callFunc, run_program, c1, c2, c3, Bool.false_eq_true, if_false]
    simp [callFunc, c1, c2, c3]
    apply Array.ext'
    simp
  rw [hexec, Oper.upon_enter]
  refine hcalls.mono ?_
  rintro en w' ⟨V, rfl, hbel, hq⟩
  obtain ⟨γ', vs', es2, m1, m2, m3⟩ := hq nid
  rw [hmk] at m1
  obtain ⟨rfl, rfl⟩ : vs = vs' ∧ es' = es2 := by simpa using m1
  obtain ⟨γ2, hγ2⟩ : ∃ γ2 : GM, ∀ b, γ2 b = if nid ≤ b ∧ b < nid + es'.length then γ' (b - nid) else γ b := ⟨_, fun _ => rfl⟩
  have hFout : ∀ b, F b → ¬ (nid ≤ b ∧ b < nid + es'.length) := fun b hb ⟨h1, h2⟩ => hf b h1 (by omega) hb
  have hmem : ∀ b e, updM s.mem (entsUpd nid es' ++ match anyRo es' with | true => shared as s.mem | false => []) b = some e →
      (nid ≤ b ∧ b < nid + es'.length ∧ es'[b - nid]? = some e) ∨ (¬ (nid ≤ b ∧ b < nid + es'.length) ∧ ∃ e0, s.mem b = some e0 ∧ e.blk = e0.blk ∧ (e.own = true → e0.own = true ∧ (anyRo es' = true → ∀ x ∈ as, ∀ off n, x.1 ≠ some (b, off, n)))) := by
    intro b e hb
    rw [entsUpd_get] at hb
    cases hro : anyRo es' with
    | false =>
      rw [hro] at hb
      simp only [updM] at hb
      split at hb
      · rename_i hr; exact .inl ⟨hr.1, hr.2, hb⟩
      · rename_i hr; exact .inr ⟨hr, e, hb, rfl, fun ho => ⟨ho, fun h => by cases h⟩⟩
    | true =>
      rw [hro] at hb
      rcases shared_get s.mem as _ b e hb with ⟨h1, h2⟩ | ⟨e0, h1, rfl⟩
      · split at h1
        · rename_i hr; exact .inl ⟨hr.1, hr.2, h1⟩
        · rename_i hr
          refine .inr ⟨hr, e, h1, rfl, fun ho => ⟨ho, fun _ x hx off n hxx => ?_⟩⟩
          have := h2 x hx off n hxx
          rw [h1] at this; cases this
      · exact .inr ⟨hFout b (R.memr b e0 h1).1, e0, h1, rfl, fun ho => by cases ho⟩
  have hin : ∀ i e, es'[i]? = some e → updM s.mem (entsUpd nid es' ++ match anyRo es' with | true => shared as s.mem | false => []) (nid + i) = some e := by
    intro i e he
    have hi := (List.getElem?_eq_some_iff.1 he).1
    have hnone : s.mem (nid + i) = none := by
      cases hm : s.mem (nid + i) with
      | none => rfl
      | some e0 => exact absurd (R.memr _ e0 hm).1 (hf _ (by omega) (by omega))
    rw [entsUpd_get]
    cases hro : anyRo es' with
    | false => simp only [updM]; rw [if_pos ⟨by omega, by omega⟩, show nid + i - nid = i by omega]; exact he
    | true => rw [shared_out s.mem as _ _ hnone, if_pos ⟨by omega, by omega⟩, show nid + i - nid = i by omega]; exact he
  have hkeep : ∀ b e g base, s.mem b = some e → γ b = some (g, base) → w'.heap[g]? = w.heap[g]? := fun b e g base hb hg => hbel.block g (R.bnd b e g base hb hg)
  obtain ⟨v1, v2⟩ := m2 (fun b => F b ∨ (nid ≤ b ∧ b < nid + es'.length)) γ2 _ (fun i e he => by
    have hi := (List.getElem?_eq_some_iff.1 he).1
    exact ⟨.inr ⟨by omega, by omega⟩, hin i e he, by rw [hγ2, if_pos ⟨by omega, by omega⟩, show nid + i - nid = i by omega]⟩)
  have hwst : WStep w w' := fun g cs t hg => by
    have hlt : g < w.heap.size := by
      rcases Nat.lt_or_ge g w.heap.size with h' | h'
      · exact h'
      · rw [Array.getElem?_eq_none h'] at hg; cases hg
    exact ⟨cs, t, (hbel.block g hlt).trans hg, Nat.le_refl _⟩
  have ms : MStep F γ s.mem w (fun b => F b ∨ (nid ≤ b ∧ b < nid + es'.length)) γ2 (updM s.mem (entsUpd nid es' ++ match anyRo es' with | true => shared as s.mem | false => [])) w' :=
    ⟨fun b h => .inl h, fun b h => by rw [hγ2, if_neg (hFout b h)], fun b e hb he => by
      rcases hmem b e he with ⟨h1, h2, _⟩ | ⟨_, e0, h2, h3, _⟩
      · exact absurd ⟨h1, h2⟩ (hFout b hb)
      · rw [h3]; exact ⟨e0, h2, rfl, rfl, fun _ _ h => h⟩, hwst⟩
  have hszle := R.below.size
  refine hK V w' _ γ2 (R.put (o := ⟨resSV vs, _⟩) (R.below.call hbel hszle) ms v1 (fun b e he => ?_) (fun b e g base he hown hg => ?_) (fun b e g base he hown hg => ?_) (fun b e g base he hg => ?_)) fun b hb => hb.elim .inl fun h => .inr ⟨h.1, by omega⟩
  · rcases hmem b e he with ⟨h1, h2, h3⟩ | ⟨h1, e0, h2, h3, _⟩
    · refine ⟨.inr ⟨h1, h2⟩, ?_⟩
      have := v2 (b - nid) e h3
      rwa [show nid + (b - nid) = b by omega] at this
    · obtain ⟨q1, q2⟩ := R.memr b e0 h2
      refine ⟨.inl q1, ?_⟩
      rw [h3]
      intro i j c hc
      obtain ⟨g, base, cs, t, V', z1, z2, z3, z4⟩ := q2 i j c hc
      exact ⟨g, base, cs, t, V', by rw [hγ2, if_neg h1]; exact z1, (hkeep b e0 g base h2 z1).trans z2, z3, z4.step ms⟩
  · rcases hmem b e he with ⟨h1, h2, h3⟩ | ⟨h1, e0, h2, h3, h4⟩
    · rw [hγ2, if_pos ⟨h1, h2⟩] at hg
      obtain ⟨z1, z2, z3⟩ := m3 (b - nid) e g base h3 hg
      obtain ⟨z4, z5⟩ := z2 hown
      refine ⟨by omega, fun b' e' g' base' hne he' hg' => ?_⟩
      rcases hmem b' e' he' with ⟨y1, y2, y3⟩ | ⟨y1, e0', y2, y3, _⟩
      · rw [hγ2, if_pos ⟨y1, y2⟩] at hg'
        exact z5 (b' - nid) e' g' base' (by omega) y3 hg'
      · rw [hγ2, if_neg y1] at hg'
        have := R.bnd b' e0' g' base' y2 hg'
        omega
    · rw [hγ2, if_neg h1] at hg
      obtain ⟨h5, h6⟩ := h4 hown
      obtain ⟨z1, z2⟩ := R.own b e0 g base h2 h5 hg
      refine ⟨z1, fun b' e' g' base' hne he' hg' => ?_⟩
      rcases hmem b' e' he' with ⟨y1, y2, y3⟩ | ⟨y1, e0', y2, y3, _⟩
      · rw [hγ2, if_pos ⟨y1, y2⟩] at hg'
        obtain ⟨x1, x2, x3⟩ := m3 (b' - nid) e' g' base' y3 hg'
        have hb0 := R.bnd b e0 g base h2 hg
        cases ho : e'.own with
        | true => have := (x2 ho).1; omega
        | false =>
          rcases x3 ho with x4 | ⟨c, basec, x5, x6⟩
          · omega
          · obtain ⟨c', e0c, base0, x, off, n, w1, w2, w3, w4⟩ := hsrc c g' basec x5 x6
            have hcb : c' ≠ b := fun e => h6 (anyRo_of es' _ e' y3 ho) x (List.mem_of_getElem? w1) off n (by rw [w2, e])
            exact z2 c' e0c g' base0 hcb w3 w4
      · rw [hγ2, if_neg y1] at hg'
        exact z2 b' e0' g' base' hne y2 hg'
  · rcases hmem b e he with ⟨h1, h2, h3⟩ | ⟨h1, e0, h2, h3, h4⟩
    · rw [hγ2, if_pos ⟨h1, h2⟩] at hg
      obtain ⟨z1, z2, z3⟩ := m3 (b - nid) e g base h3 hg
      rcases z3 hown with x4 | ⟨c, basec, x5, x6⟩
      · exact .inr (by omega)
      · obtain ⟨c', e0c, base0, x, off, n, w1, w2, w3, w4⟩ := hsrc c g basec x5 x6
        cases hoc : e0c.own with
        | true => exact .inr (R.own c' e0c g base0 w3 hoc w4).1
        | false => exact R.shr c' e0c g base0 w3 hoc w4
    · rw [hγ2, if_neg h1] at hg
      cases hoc : e0.own with
      | true => exact .inr (R.own b e0 g base h2 hoc hg).1
      | false => exact R.shr b e0 g base h2 hoc hg
  · rcases hmem b e he with ⟨h1, h2, h3⟩ | ⟨h1, e0, h2, h3, h4⟩
    · rw [hγ2, if_pos ⟨h1, h2⟩] at hg
      exact (m3 (b - nid) e g base h3 hg).1
    · rw [hγ2, if_neg h1] at hg
      have := R.bnd b e0 g base h2 hg
      have := hbel.size
      omega
end
end Go.Proofs.Ytoibhkhgpahdjaa.Vm

/- Regions whose order is drawn. Conditions: the program follows the model's mixed orders. -/
import Derived.Test.YtmmaechogibodaaVmP
set_option linter.unusedVariables false
set_option linter.unusedSimpArgs false
namespace Go.Proofs.Ytmmaechogibodaa.Vm
open Go Go.RowKit

section
variable {P : Program} {A : Ctx} {w0 : World} {F : NS} {γ : GM} {s : St} {a : Act} {w : World}
theorem mem?_iff (x : Nat) (l : List Nat) : mem? x l = true ↔ x ∈ l := by
  induction l with
  | nil => simp [mem?]
  | cons y l ih =>
    simp only [mem?]
    by_cases h : x = y
    · subst h; simp
    · have : (x == y) = false := by simpa using h
      rw [this]; simp [ih, h]
theorem meets_false {l m : List Nat} (h : meets l m = false) : ∀ x ∈ l, x ∉ m := by
  induction l with
  | nil => intro x hx; simp at hx
  | cons y l ih =>
    simp only [meets] at h
    intro x hx
    cases hm : mem? y m with
    | true => rw [hm] at h; cases h
    | false =>
      rw [hm] at h
      rcases List.mem_cons.1 hx with rfl | hx
      · intro hxm; rw [(mem?_iff x m).2 hxm] at hm; cases hm
      · exact ih h x hx
theorem updM_congr {m m' : MM} : ∀ (l : List (Nat × Option Ent)) (m m' : MM) (b : Nat), m b = m' b → updM m l b = updM m' l b
  | [], m, m', b, h => h
  | (q, e) :: l, m, m', b, h => by simp only [updM]; exact updM_congr (m := m) (m' := m') l _ _ b (by show (if b == q then e else m b) = (if b == q then e else m' b); rw [h])
theorem updM_out : ∀ (l : List (Nat × Option Ent)) (m : MM) (b : Nat), b ∉ keys l → updM m l b = m b
  | [], m, b, h => rfl
  | (q, e) :: l, m, b, h => by
    simp only [keys, List.mem_cons, not_or] at h
    simp only [updM]
    rw [updM_out l _ b h.2]
    have : (b == q) = false := by simpa using h.1
    simp [this]
theorem updM_comm (l l' : List (Nat × Option Ent)) (m : MM) (h : ∀ x ∈ keys l, x ∉ keys l') : updM (updM m l) l' = updM (updM m l') l := by
  funext b
  by_cases hb : b ∈ keys l
  · rw [updM_out l' _ b (h b hb)]
    exact updM_congr (m := m) (m' := m) l _ _ b (updM_out l' m b (h b hb)).symm
  · rw [updM_out l _ b hb]
    exact updM_congr (m := m) (m' := m) l' _ _ b (updM_out l m b hb)
theorem app_comm (s : St) {x y : Option Tmp} {o o' : Out} (hd : ∀ d, x = some d → y ≠ some d) (hk : ∀ q ∈ keys o.upd, q ∉ keys o'.upd) : (s.app x o).app y o' = (s.app y o').app x o := by
  have hm := updM_comm o.upd o'.upd s.mem hk
  cases x with
  | none => cases y <;> simp [St.app, hm]
  | some d =>
    cases y with
    | none => simp [St.app, hm]
    | some e =>
      have hne : d ≠ e := fun h => hd d rfl (h ▸ rfl)
      simp only [St.app, hm, put_eq]
      rw [List.set_comm _ _ hne]
/-- The state behind some of a region's operations. -/
def curL : List Oper → List Did → Nat → (Nat → Bool) → St → St
  | o :: os, d :: ds, i, p, s => curL os ds (i + 1) p (if p i then s.app o.dst d.out else s)
  | _, _, _, _, s => s
theorem curL_len : ∀ (os : List Oper) (ds : List Did) (i : Nat) (p : Nat → Bool) (s : St), (curL os ds i p s).tmps.length = s.tmps.length
  | o :: os, d :: ds, i, p, s => by
    simp only [curL]; rw [curL_len os ds]; split
    · exact app_len _ _ _
    · rfl
  | [], _, _, _, s => by simp [curL]
  | _ :: _, [], _, _, s => by simp [curL]
theorem curL_slot (t : Nat) : ∀ (os : List Oper) (ds : List Did) (i : Nat) (p q : Nat → Bool) (s s' : St), s.tmps.length = s'.tmps.length → nth undefS s.tmps t = nth undefS s'.tmps t →
    (∀ j o, os[j]? = some o → p (i + j) = q (i + j) ∨ o.dst ≠ some t) → nth undefS (curL os ds i p s).tmps t = nth undefS (curL os ds i q s').tmps t
  | o :: os, d :: ds, i, p, q, s, s', hl, h, hp => by
    simp only [curL]
    refine curL_slot t os ds (i + 1) p q _ _ ?_ ?_ fun j o' ho => by have := hp (j + 1) o' (by simpa using ho); rwa [show i + (j + 1) = i + 1 + j by omega] at this
    · split <;> split <;> simp [app_len, hl]
    · have h0 := hp 0 o rfl
      rw [Nat.add_zero] at h0
      rcases h0 with h0 | h0
      · rw [h0]
        split
        · rw [app_tmps, app_tmps, hl, h]
        · exact h
      · split <;> split <;> simp [app_tmps, h0, h]
  | [], _, _, _, _, s, s', _, h, _ => by simpa [curL] using h
  | _ :: _, [], _, _, _, s, s', _, h, _ => by simpa [curL] using h
theorem curL_mem (b : Nat) : ∀ (os : List Oper) (ds : List Did) (i : Nat) (p q : Nat → Bool) (s s' : St), s.mem b = s'.mem b →
    (∀ (j : Nat) (d : Did), ds[j]? = some d → p (i + j) = q (i + j) ∨ b ∉ keys d.out.upd) → (curL os ds i p s).mem b = (curL os ds i q s').mem b
  | o :: os, d :: ds, i, p, q, s, s', h, hp => by
    simp only [curL]
    refine curL_mem b os ds (i + 1) p q _ _ ?_ fun j d' hd => by have := hp (j + 1) d' (by simpa using hd); rwa [show i + (j + 1) = i + 1 + j by omega] at this
    have h0 := hp 0 d rfl
    rw [Nat.add_zero] at h0
    rcases h0 with h0 | h0
    · rw [h0]
      split
      · exact updM_congr (m := s.mem) (m' := s'.mem) _ _ _ b h
      · exact h
    · split <;> split <;> simp [St.app, updM_out _ _ _ h0, h]
  | [], _, _, _, _, s, s', h, _ => by simpa [curL] using h
  | _ :: _, [], _, _, _, s, s', h, _ => by simpa [curL] using h
theorem curL_none : ∀ (os : List Oper) (ds : List Did) (i : Nat) (p : Nat → Bool) (s : St), (∀ j, i ≤ j → p j = false) → curL os ds i p s = s
  | o :: os, d :: ds, i, p, s, h => by simp only [curL, h i (Nat.le_refl _)]; exact curL_none os ds (i + 1) p s fun j hj => h j (by omega)
  | [], _, _, _, s, _ => by simp [curL]
  | _ :: _, [], _, _, s, _ => by simp [curL]
theorem curL_after {x : Option Tmp} {o : Out} : ∀ (os : List Oper) (ds : List Did) (i : Nat) (p : Nat → Bool) (s : St),
    (∀ (j : Nat) (o' : Oper) (d : Did), os[j]? = some o' → ds[j]? = some d → p (i + j) = true → (∀ t, o'.dst = some t → x ≠ some t) ∧ ∀ q ∈ keys d.out.upd, q ∉ keys o.upd) → curL os ds i p (s.app x o) = (curL os ds i p s).app x o
  | o' :: os, d :: ds, i, p, s, h => by
    simp only [curL]
    have ih := fun s => curL_after (x := x) (o := o) os ds (i + 1) p s fun j o2 d2 h1 h2 h3 => h (j + 1) o2 d2 (by simpa using h1) (by simpa using h2) (by rwa [show i + (j + 1) = i + 1 + j by omega])
    by_cases hp : p i = true
    · rw [if_pos hp, if_pos hp]
      obtain ⟨h1, h2⟩ := h 0 o' d rfl rfl (by simpa using hp)
      rw [← ih, app_comm s (x := o'.dst) (y := x) (o := d.out) (o' := o) h1 h2]
    · rw [if_neg hp, if_neg hp]; exact ih s
  | [], _, _, _, s, _ => by simp [curL]
  | _ :: _, [], _, _, s, _ => by simp [curL]
/-- One operation more, behind the others. -/
theorem curL_insert : ∀ (os : List Oper) (ds : List Did) (i : Nat) (p p' : Nat → Bool) (s : St) (k : Nat) (o : Oper) (d : Did), os[k]? = some o → ds[k]? = some d → p (i + k) = false → p' (i + k) = true → (∀ j, j ≠ i + k → p' j = p j) →
    (∀ (j : Nat) (o' : Oper) (d' : Did), k < j → os[j]? = some o' → ds[j]? = some d' → p (i + j) = true → (∀ t, o'.dst = some t → o.dst ≠ some t) ∧ ∀ q ∈ keys d'.out.upd, q ∉ keys d.out.upd) →
    curL os ds i p' s = (curL os ds i p s).app o.dst d.out
  | o0 :: os, d0 :: ds, i, p, p', s, k, o, d, ho, hd, hp, hp', hs, hc => by
    cases k with
    | zero =>
      simp only [List.getElem?_cons_zero, Option.some.injEq] at ho hd
      subst ho; subst hd
      simp only [Nat.add_zero] at hp hp' hs
      simp only [curL, hp, hp', if_true, Bool.false_eq_true, if_false]
      have e : ∀ s, curL os ds (i + 1) p' s = curL os ds (i + 1) p s := fun s => by
        have : ∀ (os : List Oper) (ds : List Did) (j : Nat) (s : St), i < j → curL os ds j p' s = curL os ds j p s := by
          intro os
          induction os with
          | nil => intro ds j s _; simp [curL]
          | cons o os ih => intro ds j s hj; cases ds with
            | nil => simp [curL]
            | cons d ds => simp only [curL, hs j (by omega)]; exact ih ds (j + 1) _ (by omega)
        exact this os ds (i + 1) s (by omega)
      rw [e]
      exact curL_after os ds (i + 1) p s fun j o' d' h1 h2 h3 => hc (j + 1) o' d' (by omega) (by simpa using h1) (by simpa using h2) (by rwa [show i + (j + 1) = i + 1 + j by omega])
    | succ k =>
      simp only [curL, hs i (by omega)]
      exact curL_insert os ds (i + 1) p p' _ k o d (by simpa using ho) (by simpa using hd) (by rwa [show i + 1 + k = i + (k + 1) by omega]) (by rwa [show i + 1 + k = i + (k + 1) by omega]) (fun j hj => hs j (by omega))
        fun j o' d' h0 h1 h2 h3 => hc (j + 1) o' d' (by omega) (by simpa using h1) (by simpa using h2) (by rwa [show i + (j + 1) = i + 1 + j by omega])
  | [], _, _, _, _, _, k, o, d, ho, _, _, _, _, _ => by simp at ho
  | _ :: _, [], _, _, _, _, k, o, d, _, hd, _, _, _, _ => by simp at hd
/-- A step of a drawn region, its guard's slot left as it is. -/
def stepD0 (P : Program) (env : FuncId → Option Spec) (ops : List Oper) (nid : Nat) (o : Oper) (s : St) : T (Did × St) :=
  match o.guard with
  | none => runD1 P env nid o s
  | some (g, want) => match slotOf ops g with
    | some t => match nth undefS s.tmps t with
      | .pv (.one (.val (.bool c))) => match want with
        | true => .ite c (runD1 P env nid o s) (.ret (skipD1 o s))
        | false => .ite c (.ret (skipD1 o s)) (runD1 P env nid o s)
      | .pv (.one (.val (.tuple ⟨[]⟩))) => .ret (skipD1 o s)
      | _ => .fail
    | none => .fail
theorem lit_self {s : St} {t : Tmp} {b : Bool} (h : nth undefS s.tmps t = .pv (.one (.val (.bool b)))) : s.lit t b = s := by
  unfold St.lit
  have e : put s.tmps t (.pv (.one (.val (.bool b)))) = s.tmps := by
    rw [put_eq]
    rw [nth_eq, List.getD_eq_getElem?_getD] at h
    cases hx : s.tmps[t]? with
    | none => rw [hx] at h; simp [undefS, undef] at h
    | some v =>
      rw [hx] at h
      simp only [Option.getD_some] at h
      subst h
      obtain ⟨h1, h2⟩ := List.getElem?_eq_some_iff.1 hx
      rw [← h2, List.set_getElem_self]
  rw [e]
theorem stepD1_den {env : FuncId → Option Spec} {ops : List Oper} {nid : Nat} {o : Oper} {s : St} : (stepD1 P env ops nid o s).den = (stepD0 P env ops nid o s).den := by
  cases hg : o.guard with
  | none => simp only [stepD1, stepD0, hg]
  | some p =>
    obtain ⟨g, want⟩ := p
    cases ht : slotOf ops g with
    | none => simp only [stepD1, stepD0, hg, ht]
    | some t =>
      simp only [stepD1, stepD0, hg, ht]
      split
      · rename_i c hc
        simp only [hc]
        cases want <;> cases c <;> simp only [T.den, Bool.false_eq_true, if_false, if_true, lit_self hc]
      · rename_i hc
        simp only [hc]
      · rename_i h1 h2
        split
        · rename_i c hc; exact absurd hc (h1 c)
        · rename_i hc; exact absurd hc h2
        · rfl
/-- What a drawn region's operation is, wherever it comes. -/
theorem stepD_app {env : FuncId → Option Spec} {ops : List Oper} {nid : Nat} {o : Oper} {d : Did} {c c' : St} (h : (stepD1 P env ops nid o c).den = some (d, c')) : c' = c.app o.dst d.out := by
  have run : (runD1 P env nid o c).den = some (d, c') → c' = c.app o.dst d.out := fun h => by
    unfold runD1 at h
    rw [T.den_bind] at h
    cases hx : (exOp P env c.ev c.mem nid o).den with
    | none => rw [hx] at h; cases h
    | some out => rw [hx] at h; simp [T.den] at h; obtain ⟨rfl, rfl⟩ := h; rfl
  have skip : some (skipD1 o c) = some (d, c') → c' = c.app o.dst d.out := fun h => by
    simp only [skipD1, Option.some.injEq, Prod.mk.injEq] at h; obtain ⟨rfl, rfl⟩ := h; rfl
  rw [stepD1_den] at h
  unfold stepD0 at h
  split at h
  · exact run h
  · split at h
    · split at h
      · split at h
        · simp only [T.den] at h
          split at h
          · exact run h
          · exact skip h
        · simp only [T.den] at h
          split at h
          · exact skip h
          · exact run h
      · exact skip h
      · exact (den_fail h).elim
    · exact (den_fail h).elim
theorem idsIn_mem {μ : MM} {b : Nat} : ∀ (l : List Nat), b ∈ idsIn μ l ↔ ∃ c ∈ l, ∃ o cs, μ c = some ⟨o, .cells cs⟩ ∧ b ∈ idsCs cs
  | [] => by simp [idsIn]
  | c :: l => by
    simp only [idsIn, List.mem_append, idsIn_mem l]
    constructor
    · rintro (h | ⟨d, h1, h2⟩)
      · split at h
        · rename_i o cs hc; exact ⟨c, by simp, o, cs, hc, h⟩
        · simp at h
      · exact ⟨d, by simp [h1], h2⟩
    · rintro ⟨d, h1, o, cs, h2, h3⟩
      rcases List.mem_cons.1 h1 with rfl | h1
      · left; rw [h2]; exact h3
      · exact .inr ⟨d, h1, o, cs, h2, h3⟩
theorem idsIn_congr {μ μ' : MM} : ∀ (l : List Nat), (∀ b ∈ l, μ b = μ' b) → idsIn μ l = idsIn μ' l
  | [], _ => rfl
  | c :: l, h => by simp only [idsIn, h c (by simp), idsIn_congr l fun b hb => h b (by simp [hb])]
theorem exOp_seen {env : FuncId → Option Spec} {nid : Nat} {o : Oper} {s1 s2 : St} (hev : ∀ x ∈ o.op.operands.toList, s1.ev x = s2.ev x) (hm : ∀ b ∈ seen o s1, s1.mem b = s2.mem b) : exOp P env s1.ev s1.mem nid o = exOp P env s2.ev s2.mem nid o := by
  have all : (∀ x ∈ o.op.operands.toList, ∀ b ∈ idsS (s1.ev x), s1.mem b = s2.mem b) → (∀ x args ats, o.op ≠ .call { callee := .value x, args := args, argTypes := ats }) → exOp P env s1.ev s1.mem nid o = exOp P env s2.ev s2.mem nid o := fun h hn => exOp_congr hev h fun x args ats e => (hn x args ats e).elim
  have none : (∀ μ μ' : Nat → Option Ent, exOp P env s2.ev μ nid o = exOp P env s2.ev μ' nid o) → exOp P env s1.ev s1.mem nid o = exOp P env s2.ev s2.mem nid o := fun h => by
    rw [exOp_congr (μ' := s1.mem) hev (fun _ _ _ _ => rfl) (fun _ _ _ _ _ _ => rfl), h s1.mem s2.mem]
  unfold seen at hm
  generalize hop : o.op = op at *
  cases op
  case move => exact none fun μ μ' => by unfold exOp; rw [hop]
  case assign => exact none fun μ μ' => by unfold exOp; rw [hop]
  case pick => exact none fun μ μ' => by unfold exOp; rw [hop]
  case alloc => exact none fun μ μ' => by unfold exOp; rw [hop]
  case box => exact none fun μ μ' => by unfold exOp; rw [hop]
  case build => exact none fun μ μ' => by unfold exOp; rw [hop]
  case field => exact none fun μ μ' => by unfold exOp; rw [hop]
  case fieldAddr => exact none fun μ μ' => by unfold exOp; rw [hop]
  case extract => exact none fun μ μ' => by unfold exOp; rw [hop]
  case binOp => exact none fun μ μ' => by unfold exOp; rw [hop]
  case unOp => exact none fun μ μ' => by unfold exOp; rw [hop]
  case call c =>
    rcases c with ⟨callee, args, ats⟩
    cases callee
    case value f =>
      have hm' : ∀ b, Deepμ s1.mem ((Op.call ⟨.value f, args, ats⟩).operands.toList.map fun x => idsS (s1.ev x)).flatten b → s1.mem b = s2.mem b := fun b hb => hm b (by
        simp only [sees, List.mem_append]
        rcases hb with hb | hb
        · exact .inl hb
        · exact .inr ((idsIn_mem _).2 hb))
      refine exOp_congr (by rw [hop]; exact hev) (fun x hx b hb => hm' b (.inl (List.mem_flatten.2 ⟨_, List.mem_map.2 ⟨x, by rw [hop] at hx; exact hx, rfl⟩, hb⟩))) fun x args' ats' e b hb => hm' b (by rw [hop] at hb; exact hb)
    all_goals exact all (fun x hx b hb => hm b (by
      simp only [sees, List.mem_flatten, List.mem_map]
      exact ⟨_, ⟨x, hx, rfl⟩, hb⟩)) fun x args ats e => by cases e
  all_goals exact all (fun x hx b hb => hm b (by
    simp only [sees, List.mem_flatten, List.mem_map]
    exact ⟨_, ⟨x, hx, rfl⟩, hb⟩)) fun x args ats e => by cases e
theorem sees_one {op : Op} {a : Operand} (h : sees op = .one a) : False := by
  unfold sees at h
  split at h <;> cases h
theorem stepD_local {env : FuncId → Option Spec} {ops : List Oper} {nid : Nat} {o : Oper} {d : Did} {s1 s1' s2 : St} (h : (stepD1 P env ops nid o s1).den = some (d, s1'))
    (hs : ∀ t ∈ looks ops o, nth undefS s1.tmps t = nth undefS s2.tmps t) (hm : ∀ b ∈ d.ids, s1.mem b = s2.mem b) : (stepD1 P env ops nid o s2).den = some (d, s2.app o.dst d.out) := by
  have hev : ∀ x ∈ o.op.operands.toList, s1.ev x = s2.ev x := fun x hx => by
    cases x with
    | tmp t => exact hs t (by simp only [looks, List.mem_append]; left; simp only [opSlots, List.mem_filterMap]; exact ⟨.tmp t, hx, rfl⟩)
    | const v => rfl
    | global g => rfl
    | func f => rfl
  have hids : (o.op.operands.toList.map fun x => idsS (s1.ev x)) = (o.op.operands.toList.map fun x => idsS (s2.ev x)) := List.map_congr_left fun x hx => by rw [hev x hx]
  have hseen : (∀ b ∈ seen o s1, s1.mem b = s2.mem b) → seen o s1 = seen o s2 := fun hmm => by
    unfold seen at hmm ⊢
    cases hsee : sees o.op with
    | none => rfl
    | one a => exact (sees_one hsee).elim
    | all => simp only; rw [hids]
    | deep =>
      rw [hsee] at hmm
      simp only at hmm ⊢
      rw [← hids, idsIn_congr _ fun b hb => hmm b (List.mem_append_left _ hb)]
  have run : (runD1 P env nid o s1).den = some (d, s1') → (runD1 P env nid o s2).den = some (d, s2.app o.dst d.out) := fun h => by
    unfold runD1 at h ⊢
    rw [T.den_bind] at h ⊢
    cases hx : (exOp P env s1.ev s1.mem nid o).den with
    | none => rw [hx] at h; cases h
    | some out =>
      rw [hx] at h
      simp [T.den] at h
      obtain ⟨rfl, rfl⟩ := h
      have e : exOp P env s1.ev s1.mem nid o = exOp P env s2.ev s2.mem nid o := exOp_seen hev hm
      rw [← e, hx]
      simp [T.den, hseen hm]
  have skip : some (skipD1 o s1) = some (d, s1') → some (skipD1 o s2) = some (d, s2.app o.dst d.out) := fun h => by
    simp only [skipD1, Option.some.injEq, Prod.mk.injEq] at h ⊢; obtain ⟨rfl, _⟩ := h; exact ⟨rfl, rfl⟩
  rw [stepD1_den] at h
  unfold stepD0 at h
  split at h
  · rename_i hg
    rw [stepD1_den]; simp only [stepD0, hg]; exact run h
  · rename_i g want hg
    split at h
    · rename_i t ht
      have hst := hs t (by simp [looks, hg, ht])
      split at h
      · rename_i c hc
        have hc2 := hst.symm.trans hc
        cases want with
        | true =>
          rw [stepD1_den]; simp only [stepD0, hg, ht, hc2, T.den] at h ⊢
          split at h <;> rename_i hcc <;> simp only [hcc, if_true, Bool.false_eq_true, if_false]
          · exact run h
          · exact skip h
        | false =>
          rw [stepD1_den]; simp only [stepD0, hg, ht, hc2, T.den] at h ⊢
          split at h <;> rename_i hcc <;> simp only [hcc, if_true, Bool.false_eq_true, if_false]
          · exact skip h
          · exact run h
      · rename_i hc
        have hc2 := hst.symm.trans hc
        rw [stepD1_den]; simp only [stepD0, hg, ht, hc2]
        exact skip h
      · exact (den_fail h).elim
    · exact (den_fail h).elim
theorem stepD_ok {env : FuncId → Option Spec} (hE : EnvOk P env) {ops : Array Oper} (R : Rel A w0 F γ s a w) {nid : Nat} (hf : ∀ q, nid ≤ q → q < nid + 64 → ¬ F q) {o : Oper} {d : Did} {s' : St} (h : (stepD1 P env ops.toList nid o s).den = some (d, s')) {K : Act → World → Prop} {Q : Exit → Act → World → Prop}
    (hK : ∀ a' w' F' γ', Rel A w0 F' γ' (s.app o.dst d.out) a' w' → (∀ b, F' b → F b ∨ (nid ≤ b ∧ b < nid + 64)) → Ext F γ F' γ' → K a' w') : Step P ops o a w K Q := by
  have run : (runD1 P env nid o s).den = some (d, s') → o.wp P a w K Q := fun h => by
    unfold runD1 at h
    rw [T.den_bind] at h
    cases hx : (exOp P env s.ev s.mem nid o).den with
    | none => rw [hx] at h; cases h
    | some out =>
      rw [hx] at h
      simp [T.den] at h
      obtain ⟨rfl, rfl⟩ := h
      exact ok_op hE R hf hx K Q fun V w' F' γ' R' hF hx => hK _ _ F' γ' R' hF hx
  have skip : some (skipD1 o s) = some (d, s') → K (a.put o.dst undef) w := fun h => by
    simp only [skipD1, Option.some.injEq, Prod.mk.injEq] at h; obtain ⟨rfl, rfl⟩ := h
    exact hK _ _ F γ (R.putV o.dst rfl) (fun b hb => .inl hb) (Ext.refl F γ)
  unfold Step
  rw [stepD1_den] at h
  unfold stepD0 at h
  split at h
  · rename_i hg
    rw [if_pos (by simp [Region.wanted, hg])]
    exact run h
  · rename_i g want hg
    split at h
    · rename_i t ht
      split at h
      · rename_i c hc
        have hy := yields_of R ht hc
        split at h
        · simp only [T.den] at h
          split at h
          · rename_i hct
            rw [if_pos (by simp [Region.wanted, hg, hy, hct])]
            exact run h
          · rename_i hcf
            have hcf : c = false := by simpa using hcf
            rw [if_neg (by simp [Region.wanted, hg, hy, hcf])]
            exact skip h
        · simp only [T.den] at h
          split at h
          · rename_i hct
            rw [if_neg (by simp [Region.wanted, hg, hy, hct])]
            exact skip h
          · rename_i hcf
            have hcf : c = false := by simpa using hcf
            rw [if_pos (by simp [Region.wanted, hg, hy, hcf])]
            exact run h
      · rename_i hc
        have hy := yields_none R ht hc
        rw [if_neg (by simp [Region.wanted, hg, hy])]
        exact skip h
      · exact (den_fail h).elim
    · exact (den_fail h).elim
end
end Go.Proofs.Ytmmaechogibodaa.Vm

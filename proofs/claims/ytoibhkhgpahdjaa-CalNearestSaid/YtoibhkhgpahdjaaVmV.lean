/- Code, loops: the abstract interpreter tells what they do. Conditions: the program follows the model's mixed orders. -/
import Derived.Test.YtoibhkhgpahdjaaVmU
set_option linter.unusedVariables false
set_option linter.unusedSimpArgs false
namespace Go.Proofs.Ytoibhkhgpahdjaa.Vm
open Go Go.RowKit

section
variable {P : Program} {A : Nat → Prop} {w0 : World} {F : Nat → Prop} {γ : GM} {s : St} {a : Act} {w : World}
/-- A state read by a shape is what that shape tells. -/
theorem rdSt_ok {p : Pat} {us : List U} (h : rdSt p s = some us) (R : Rel A w0 F γ s a w) : ∃ s' F' γ', mkSt p us = some s' ∧ Rel A w0 F' γ' s' a w ∧ ∀ b, F' b → b < s'.nx := by
  unfold rdSt at h
  split at h
  case isFalse => cases h
  rename_i hnt
  rw [len_eq] at hnt
  split at h
  case h_2 => cases h
  rename_i u1 a1 u2 ba ra h1 h2
  split at h
  case h_2 => cases h
  rename_i hok
  obtain rfl := Option.some.inj h
  obtain ⟨tm, es, k1, k2, k3, k4, k5⟩ := slots_again (w := w) R.slots h1 p.boxes.length (List.replicate p.nt anyS) u2
  obtain ⟨i1, i2, i3⟩ := boxes_again (γ := γ) (w := w) (F := F) h2
  obtain ⟨bs, es2, j1, j2, j3, j4, j5⟩ := i3 (p.boxes.length + es.length)
  obtain ⟨ents, hents⟩ : ∃ l, l = bs ++ (es ++ es2) := ⟨_, rfl⟩
  obtain ⟨asgs, hasgs⟩ : ∃ l, l = ba ++ (a1 ++ ra) := ⟨_, rfl⟩
  have hlen : ents.length = asgs.length := by rw [hents, hasgs]; simp; omega
  obtain ⟨γ', hγ'⟩ : ∃ γ' : GM, ∀ i, γ' i = match asgs[i]? with | some x => shiftA γ x.1 | none => none := ⟨_, fun _ => rfl⟩
  have hg : ∀ i x, asgs[i]? = some x → γ' i = shiftA γ x.1 := fun i x hx => by rw [hγ', hx]
  have Tall : Told γ 0 asgs ents (fun b => b < ents.length) γ' (memOf ents) :=
    ⟨fun i e he => by rw [Nat.zero_add]; exact (List.getElem?_eq_some_iff.1 he).1, fun i e he => by rw [Nat.zero_add, memOf_eq]; exact he, fun i x hx => by rw [Nat.zero_add]; exact hg i x hx⟩
  have hbl : bs.length = ba.length := by omega
  have T1 : Told γ p.boxes.length a1 es (fun b => b < ents.length) γ' (memOf ents) := by
    have := (hents ▸ hasgs ▸ Tall : Told γ 0 (ba ++ (a1 ++ ra)) (bs ++ (es ++ es2)) _ _ _).right hbl.symm
    rw [Nat.zero_add, j2] at this
    rw [hents]; exact this.left
  have T2 : Told γ (p.boxes.length + es.length) ra es2 (fun b => b < ents.length) γ' (memOf ents) := by
    have := (hents ▸ hasgs ▸ Tall : Told γ 0 (ba ++ (a1 ++ ra)) (bs ++ (es ++ es2)) _ _ _).right hbl.symm
    rw [Nat.zero_add, j2] at this
    rw [hents]; exact this.right k2.symm
  have hbox : ∀ id b, id < p.boxes.length → boxAt id s.tmps p.slots = some b → id < ents.length ∧ γ' id = γ b ∧ ∃ e e', s.mem b = some e ∧ memOf ents id = some e' ∧ ∀ n, ptrOk e.blk 0 n → ptrOk e'.blk 0 n := fun id b hid hb => by
    obtain ⟨n, hba⟩ := i2 id b (Nat.zero_le _) (by omega) hb
    rw [Nat.sub_zero] at hba
    have hidb : id < bs.length := by omega
    obtain ⟨b', n', e0, q1, q2, q3, q4, q5, q6⟩ := j5 id bs[id] (List.getElem?_eq_getElem hidb)
    rw [hba] at q1
    obtain ⟨rfl, rfl⟩ : b = b' ∧ n = n' := by simpa using q1
    have hlt : id < ents.length := by rw [hents]; simp; omega
    refine ⟨hlt, ?_, e0, bs[id], q2, ?_, q5⟩
    · have : asgs[id]? = some (some (b, 0, n), true) := by rw [hasgs, List.getElem?_append_left (by omega)]; exact hba
      rw [hg id _ this]
      simp only [shiftA]
      cases γ b <;> simp
    · rw [memOf_eq, hents, List.getElem?_append_left hidb, List.getElem?_eq_getElem hidb]
  have hslots := k5 (fun b => b < ents.length) γ' (memOf ents) T1 (fun id b h1 h2 => hbox id b (by rw [len_eq] at h1; exact h1) h2) fun t => by
    rw [nth_eq, List.getD_eq_getElem?_getD, List.getElem?_replicate]
    split
    · exact trivial
    · rename_i ht
      have := R.slots t
      rw [nth_eq, List.getD_eq_getElem?_getD, List.getElem?_eq_none (by omega)] at this
      exact this
  have hall : ∀ b e, memOf ents b = some e → (b < bs.length ∧ bs[b]? = some e) ∨ (∃ x, asgs[b]? = some x ∧ AsgOk s.mem x e) := fun b e he => by
    rw [memOf_eq, hents] at he
    by_cases hb : b < bs.length
    · rw [List.getElem?_append_left hb] at he; exact .inl ⟨hb, he⟩
    · right
      rw [List.getElem?_append_right (by omega)] at he
      by_cases hb2 : b - bs.length < es.length
      · rw [List.getElem?_append_left hb2] at he
        obtain ⟨x, hx⟩ : ∃ x, a1[b - bs.length]? = some x := ⟨_, List.getElem?_eq_getElem (by omega)⟩
        refine ⟨x, ?_, k3 _ e x he hx⟩
        rw [hasgs, List.getElem?_append_right (by omega), List.getElem?_append_left (by omega), ← hx]; congr 1; omega
      · rw [List.getElem?_append_right (by omega)] at he
        have hlt := (List.getElem?_eq_some_iff.1 he).1
        obtain ⟨x, hx⟩ : ∃ x, ra[b - bs.length - es.length]? = some x := ⟨_, List.getElem?_eq_getElem (by omega)⟩
        refine ⟨x, ?_, j4 _ e x he hx⟩
        rw [hasgs, List.getElem?_append_right (by omega), List.getElem?_append_right (by omega), ← hx]; congr 1; omega
  -- where each new block lies
  have src : ∀ b e g base, memOf ents b = some e → γ' b = some (g, base) → ∃ c e0 base0 off n, asgs[b]? = some (some (c, off, n), e.own) ∧ s.mem c = some e0 ∧ γ c = some (g, base0) ∧ (e.own = true → e0.own = true) := fun b e g base he hgb => by
    rcases hall b e he with ⟨hb, hbe⟩ | ⟨x, hx, hk⟩
    · obtain ⟨c, n, e0, q1, q2, q3, q4, q5, q6⟩ := j5 b e hbe
      have hx : asgs[b]? = some (some (c, 0, n), true) := by rw [hasgs, List.getElem?_append_left (by omega)]; exact q1
      rw [hg b _ hx] at hgb
      simp only [shiftA, Option.map_eq_some_iff] at hgb
      obtain ⟨⟨g', base'⟩, z1, z2⟩ := hgb
      simp only [Prod.mk.injEq] at z2
      obtain ⟨rfl, _⟩ := z2
      rw [← q4] at hx
      exact ⟨c, _, base', 0, n, hx, q2, z1, fun _ => q3⟩
    · rw [hg b x hx] at hgb
      obtain ⟨h1, _, h3⟩ := hk
      obtain ⟨x1, x2⟩ := x
      cases x1 with
      | none => cases hgb
      | some y =>
        obtain ⟨c, off, n⟩ := y
        obtain ⟨e0, z1, z2, _⟩ := h3
        simp only [shiftA, Option.map_eq_some_iff] at hgb
        obtain ⟨⟨g', base'⟩, z3, z4⟩ := hgb
        simp only [Prod.mk.injEq] at z4
        obtain ⟨rfl, _⟩ := z4
        simp only at h1
        subst h1
        exact ⟨c, e0, base', off, n, hx, z1, z3, z2⟩
  have hmk : mkSt p (u1 ++ u2) = some ⟨tm, memOf (bs ++ (es ++ es2)), bs.length + es.length + es2.length⟩ := by
    unfold mkSt
    rw [len_eq, k1]
    simp only [len_eq, j1]
  refine ⟨_, fun b => b < ents.length, γ', hmk, ⟨R.below, R.defers, ?_, ?_, ?_, ?_, ?_, ?_⟩, fun b hb => by rw [hents] at hb; simp at hb ⊢; omega⟩
  · rw [R.size, hnt]; simp [k4]
  · rw [← hents]; exact hslots
  · rw [← hents]
    intro b e he
    have he : memOf ents b = some e := he
    refine ⟨by rw [memOf_eq] at he; exact (List.getElem?_eq_some_iff.1 he).1, ?_⟩
    rcases hall b e he with ⟨hb, hbe⟩ | ⟨x, hx, hk⟩
    · obtain ⟨c, n, e0, q1, q2, qa, qb, qc, hor⟩ := j5 b e hbe
      have hx : asgs[b]? = some (some (c, 0, n), true) := by rw [hasgs, List.getElem?_append_left (by omega)]; exact q1
      rcases hor with hk | ⟨cs, cs', q0, q3, q4, q5⟩
      · exact told_relB R hk (hg b _ hx)
      subst q0
      subst q3
      have hB := (R.memr c _ q2).2
      obtain ⟨Vs, v1, v2⟩ := list_choice (R := fun j c' V => ∃ (g base : Nat) (carr : Array Value) (t : TF), γ c = some (g, base) ∧ w.heap[g]? = some (.cells carr t.1 t.2) ∧ carr[base + j]? = some V ∧ RelC F γ s.mem w c' V) cs fun j c' hc' => by
        obtain ⟨g, base, carr, t, V, z1, z2, z3, z4⟩ := hB 0 j c' (by simpa [Blk.at] using hc')
        exact ⟨V, g, base, carr, t, z1, z2, by simpa [Blk.n] using z3, z4⟩
      have hr := q5 Vs (All2.of_get v1.symm fun j c' V hc' hV => by obtain ⟨_, _, _, _, _, _, _, z⟩ := v2 j c' V hc' hV; exact z) _ _ _ T2
      intro i j c' hc'
      simp only [Blk.at] at hc'
      split at hc'
      · rename_i hi; subst hi
        obtain ⟨V, hV, hrel⟩ := hr.get j c' hc'
        have hj : j < cs.length := by have := (List.getElem?_eq_some_iff.1 hc').1; omega
        obtain ⟨g, base, carr, t, z1, z2, z3, _⟩ := v2 j _ V (List.getElem?_eq_getElem hj) hV
        exact ⟨g, base, carr, t, V, by rw [hg b _ hx]; simp [shiftA, z1], z2, by simpa [Blk.n] using z3, hrel⟩
      · cases hc'
    · exact told_relB R hk (hg b x hx)
  · rw [← hents]
    intro b e g base he ho hgb
    obtain ⟨c, e0, base0, off, n, z1, z2, z3, z4⟩ := src b e g base he hgb
    obtain ⟨y1, y2⟩ := R.own c e0 g base0 z2 (z4 ho) z3
    refine ⟨y1, fun b' e' g' base' hne he' hg' => ?_⟩
    obtain ⟨c', e0', base0', off', n', x1, x2, x3, x4⟩ := src b' e' g' base' he' hg'
    rw [ho] at z1
    rw [hasgs] at z1 x1
    exact y2 c' e0' g' base0' (Ne.symm (okAsg_spec hok b b' c off n _ c' off' n' (Ne.symm hne) z1 x1 rfl)) x2 x3
  · rw [← hents]
    intro b e g base he ho hgb
    obtain ⟨c, e0, base0, off, n, z1, z2, z3, z4⟩ := src b e g base he hgb
    cases hoc : e0.own with
    | true => exact .inr (R.own c e0 g base0 z2 hoc z3).1
    | false => exact R.shr c e0 g base0 z2 hoc z3
  · rw [← hents]
    intro b e g base he hgb
    obtain ⟨c, e0, base0, off, n, z1, z2, z3, z4⟩ := src b e g base he hgb
    exact R.bnd c e0 g base0 z2 z3
def Ex.to : Ex → Exit
  | .normal => .normal
  | .exit i => .exit i
  | .ret => .ret
/-- What code comes to, as the abstract interpreter tells it. -/
def Comes (P : Program) (A : Nat → Prop) (w0 : World) (c : Code) (s : St) (e : Ex) (s' : St) : Prop :=
  ∀ (a : Act) (w : World) (F : Nat → Prop) (γ : GM), Rel A w0 F γ s a w → (∀ b, F b → b < s.nx) → c.wp P (fun ex a' w' => ex = e.to ∧ ∃ F' γ', Rel A w0 F' γ' s' a' w' ∧ ∀ b, F' b → b < s'.nx) a w
def LoopOk (P : Program) (body : Code) : LS → Prop
  | .one pre β ex post L enc => ∀ us r, L us = some r → ∀ s s', mkSt pre us = some s → mkSt post (enc r) = some s' → ∀ A w0, Comes P A w0 (.loop body) s ex s'
  | .two pre β γ ex post ex' post' L enc enc' => ∀ us r, L us = some r → ∀ s, mkSt pre us = some s → match r with
    | .inl r => ∀ s', mkSt post (enc r) = some s' → ∀ A w0, Comes P A w0 (.loop body) s ex s'
    | .inr r => ∀ s', mkSt post' (enc' r) = some s' → ∀ A w0, Comes P A w0 (.loop body) s ex' s'
/-- What is known of the loops of a text holds. -/
def LpOk (P : Program) (lenv : Nat → Option LS) : Code → Prop
  | .seq a b => LpOk P lenv a ∧ LpOk P lenv b
  | .cond _ a b => LpOk P lenv a ∧ LpOk P lenv b
  | .block _ c => LpOk P lenv c
  | .loop c => ∀ k ls, key c = some k → lenv k = some ls → LoopOk P c ls
  | _ => True
theorem cond_slot (R : Rel A w0 F γ s a w) {t : Tmp} {x : Bool} (h : nth undefS s.tmps t = .pv (.one (.val (.bool x)))) : a.eval (.tmp t) = .bool x := by
  have := R.slots t; rw [h] at this; exact this
theorem runC_ok (hmix : P.follows .mixedOrders = true) {env : FuncId → Option Spec} (hE : EnvOk P env) {lenv : Nat → Option LS} : ∀ (c : Code), LpOk P lenv c → ∀ (s : St) (e : Ex) (s' : St), (runC P env lenv c s).den = some (e, s') → ∀ A w0, Comes P A w0 c s e s'
  | .skip, _, s, e, s', h, A, w0 => by
    simp only [runC, T.den, Option.some.injEq, Prod.mk.injEq] at h
    obtain ⟨rfl, rfl⟩ := h
    exact fun a w F γ R hF => wp_skip ⟨rfl, F, γ, R, hF⟩
  | .ret, _, s, e, s', h, A, w0 => by
    simp only [runC, T.den, Option.some.injEq, Prod.mk.injEq] at h
    obtain ⟨rfl, rfl⟩ := h
    exact fun a w F γ R hF => wp_ret ⟨rfl, F, γ, R, hF⟩
  | .exit id, _, s, e, s', h, A, w0 => by
    simp only [runC, T.den, Option.some.injEq, Prod.mk.injEq] at h
    obtain ⟨rfl, rfl⟩ := h
    exact fun a w F γ R hF => wp_exit ⟨rfl, F, γ, R, hF⟩
  | .seq x y, hl, s, e, s', h, A, w0 => by
    simp only [runC] at h
    rw [T.den_bind] at h
    cases hx : (runC P env lenv x s).den with
    | none => rw [hx] at h; cases h
    | some z =>
      obtain ⟨e1, s1⟩ := z
      rw [hx] at h
      simp only [Option.bind_some] at h
      intro a w F γ R hF
      refine wp_seq (wp_mono (runC_ok hmix hE x hl.1 s e1 s1 hx A w0 a w F γ R hF) ?_)
      rintro ex a' w' ⟨rfl, F', γ', R', hF'⟩
      cases e1 with
      | normal => exact runC_ok hmix hE y hl.2 s1 e s' h A w0 a' w' F' γ' R' hF'
      | exit i =>
        simp only [T.den, Option.some.injEq, Prod.mk.injEq] at h
        obtain ⟨rfl, rfl⟩ := h
        exact ⟨rfl, F', γ', R', hF'⟩
      | ret =>
        simp only [T.den, Option.some.injEq, Prod.mk.injEq] at h
        obtain ⟨rfl, rfl⟩ := h
        exact ⟨rfl, F', γ', R', hF'⟩
  | .cond c x y, hl, s, e, s', h, A, w0 => by
    intro a w F γ R hF
    simp only [runC] at h
    split at h
    · rename_i t
      split at h
      · rename_i b hb
        simp only [T.den] at h
        have hv := cond_slot R hb
        split at h
        · rename_i hbt
          subst hbt
          exact wp_cond_true hv (runC_ok hmix hE x hl.1 _ e s' h A w0 a w F γ (R.lit hb) hF)
        · rename_i hbf
          have hbf : b = false := by simpa using hbf
          subst hbf
          exact wp_cond_false hv (runC_ok hmix hE y hl.2 _ e s' h A w0 a w F γ (R.lit hb) hF)
      · exact (den_fail h).elim
    · rename_i b
      simp only [T.den] at h
      split at h
      · rename_i hbt
        subst hbt
        exact wp_cond_true rfl (runC_ok hmix hE x hl.1 _ e s' h A w0 a w F γ R hF)
      · rename_i hbf
        have hbf : b = false := by simpa using hbf
        subst hbf
        exact wp_cond_false rfl (runC_ok hmix hE y hl.2 _ e s' h A w0 a w F γ R hF)
    · exact (den_fail h).elim
  | .block id c, hl, s, e, s', h, A, w0 => by
    simp only [runC] at h
    rw [T.den_bind] at h
    cases hx : (runC P env lenv c s).den with
    | none => rw [hx] at h; cases h
    | some z =>
      obtain ⟨e1, s1⟩ := z
      rw [hx] at h
      simp only [Option.bind_some] at h
      intro a w F γ R hF
      refine wp_block (wp_mono (runC_ok hmix hE c hl s e1 s1 hx A w0 a w F γ R hF) ?_)
      rintro ex a' w' ⟨rfl, F', γ', R', hF'⟩
      cases e1 with
      | normal =>
        simp only [T.den, Option.some.injEq, Prod.mk.injEq] at h
        obtain ⟨rfl, rfl⟩ := h
        exact ⟨rfl, F', γ', R', hF'⟩
      | ret =>
        simp only [T.den, Option.some.injEq, Prod.mk.injEq] at h
        obtain ⟨rfl, rfl⟩ := h
        exact ⟨rfl, F', γ', R', hF'⟩
      | exit i =>
        simp only [Ex.to, Exit.inBlock]
        simp only at h
        split at h
        · rename_i hi
          simp only [T.den, Option.some.injEq, Prod.mk.injEq] at h
          obtain ⟨rfl, rfl⟩ := h
          rw [if_pos (by simpa using hi)]
          exact ⟨rfl, F', γ', R', hF'⟩
        · rename_i hi
          simp only [T.den, Option.some.injEq, Prod.mk.injEq] at h
          obtain ⟨rfl, rfl⟩ := h
          rw [if_neg (by simpa using hi)]
          exact ⟨rfl, F', γ', R', hF'⟩
  | .region id ops d, hl, s, e, s', h, A, w0 => by
    intro a w F γ R hF
    simp only [runC] at h
    split at h
    · rw [T.den_bind] at h
      cases hx : (runL P env ops.toList s.nx ops.toList 0 s).den with
      | none => rw [hx] at h; cases h
      | some s1 =>
        rw [hx] at h
        simp only [Option.bind_some, T.den, Option.some.injEq, Prod.mk.injEq] at h
        obtain ⟨rfl, rfl⟩ := h
        exact wp_region_list (runL_ok hE (fun a' w' F' γ' R' hF' => ⟨rfl, F', γ', R', hF'⟩) ops.toList 0 s a w F γ R (fun b hb => by have := hF b hb; omega) hx)
    · rw [T.den_bind] at h
      cases hx : (runDraw P env ops.toList s).den with
      | none => rw [hx] at h; cases h
      | some s1 =>
        rw [hx] at h
        simp only [Option.bind_some, T.den, Option.some.injEq, Prod.mk.injEq] at h
        obtain ⟨rfl, rfl⟩ := h
        exact draw_ok hmix hE R hF hx fun a' w' F' γ' R' hF' => ⟨rfl, F', γ', R', hF'⟩
  | .loop c, hl, s, e, s', h, A, w0 => by
    simp only [runC] at h
    split at h
    · rename_i k hk
      unfold runLoop at h
      split at h
      · rename_i pre β ex post L enc hls
        have hok := hl k _ hk hls
        split at h
        · rename_i us hus
          simp only [T.den] at h
          cases hL : L us with
          | none => rw [hL] at h; cases h
          | some r =>
            rw [hL] at h
            simp only [Option.bind_some] at h
            split at h
            · rename_i s1 hs1
              simp only [T.den, Option.some.injEq, Prod.mk.injEq] at h
              obtain ⟨rfl, rfl⟩ := h
              intro a w F γ R hF
              obtain ⟨s2, F2, γ2, hmk, R2, hF2⟩ := rdSt_ok hus R
              exact hok us r hL s2 s1 hmk hs1 A w0 a w F2 γ2 R2 hF2
            · exact (den_fail h).elim
        · exact (den_fail h).elim
      · rename_i pre β γ0 ex post ex' post' L enc enc' hls
        have hok := hl k _ hk hls
        split at h
        · rename_i us hus
          simp only [T.den] at h
          cases hL : L us with
          | none => rw [hL] at h; simp [casO] at h
          | some r =>
            rw [hL] at h
            simp only [casO, Option.bind_some] at h
            intro a w F γ R hF
            obtain ⟨s2, F2, γ2, hmk, R2, hF2⟩ := rdSt_ok hus R
            have hok2 := hok us r hL s2 hmk
            cases r with
            | inl r =>
              simp only at h
              split at h
              · rename_i s1 hs1
                simp only [T.den, Option.some.injEq, Prod.mk.injEq] at h
                obtain ⟨rfl, rfl⟩ := h
                exact hok2 s1 hs1 A w0 a w F2 γ2 R2 hF2
              · exact (den_fail h).elim
            | inr r =>
              simp only at h
              split at h
              · rename_i s1 hs1
                simp only [T.den, Option.some.injEq, Prod.mk.injEq] at h
                obtain ⟨rfl, rfl⟩ := h
                exact hok2 s1 hs1 A w0 a w F2 γ2 R2 hF2
              · exact (den_fail h).elim
        · exact (den_fail h).elim
      · exact (den_fail h).elim
    · exact (den_fail h).elim
  | .rangeFunc .., _, s, e, s', h, A, w0 => by simp [runC, T.den] at h
  | .scope _, _, s, e, s', h, A, w0 => by simp [runC, T.den] at h
  | .label _, _, s, e, s', h, A, w0 => by simp [runC, T.den] at h
  | .goto _, _, s, e, s', h, A, w0 => by simp [runC, T.den] at h
  | .refuse _, _, s, e, s', h, A, w0 => by simp [runC, T.den] at h
end
end Go.Proofs.Ytoibhkhgpahdjaa.Vm

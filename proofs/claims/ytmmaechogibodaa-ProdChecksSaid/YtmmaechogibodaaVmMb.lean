/- Calls. Conditions: none here. -/
import Derived.Test.YtmmaechogibodaaVmM
set_option linter.unusedVariables false
set_option linter.unusedSimpArgs false
namespace Go.Proofs.Ytmmaechogibodaa.Vm
open Go Go.RowKit

section
variable {P : Program} {A : Ctx} {w0 : World} {F : NS} {γ : GM} {s : St} {a : Act} {w : World}
/-- Two blocks of one measure. -/
def AsLong (e e' : Blk) : Prop := e.len = e'.len ∧ e.n = e'.n ∧ e.tag = e'.tag ∧ ∀ i n, ptrOk e i n → ptrOk e' i n
theorem AsLong.refl (e : Blk) : AsLong e e := ⟨rfl, rfl, rfl, fun _ _ h => h⟩
theorem AsLong.trans {a b c : Blk} (h : AsLong a b) (k : AsLong b c) : AsLong a c := ⟨h.1.trans k.1, h.2.1.trans k.2.1, h.2.2.1.trans k.2.2.1, fun i n x => k.2.2.2 i n (h.2.2.2 i n x)⟩
/-- What comes in and is told anew is all of a block. -/
theorem root_whole {m : MM} {p : PP} {c : PV} {us : List U} {as : List (Asg × Bool)} {q : Nat} {r : List U} {c' : PV} {es : List Ent} (hr : isRoot p = true) (hok : rootsOk [p] [c] = true) (h : rdP m p c = some (us, as)) (hmk : mkP q p (us ++ r) = some (c', es, r)) :
    ∃ b n rest e erest e0, as = (some (b, 0, n), true) :: rest ∧ es = e :: erest ∧ m b = some e0 ∧ AsLong e0.blk e.blk ∧ idsP c = [b] := by
  cases p with
  | agg ps => cases hr
  | ptr ps =>
    unfold rdP at h
    split at h <;> first | (rename_i h0 _; cases h0; done) | skip
    · rename_i e; cases e
    · rename_i e; cases e
    · rename_i ps' b e
      cases e
      split at h
      · rename_i cs hb
        split at h
        · rename_i us' as' hrd
          obtain ⟨rfl, rfl⟩ := Prod.mk.inj (Option.some.inj h)
          simp only [mkP] at hmk
          split at hmk
          · rename_i cs' es' r' hcs
            simp only [Option.some.injEq, Prod.mk.injEq] at hmk
            obtain ⟨_, rfl, _⟩ := hmk
            exact ⟨b, 0, as', _, es', _, rfl, rfl, hb, ⟨rfl, rfl, rfl, fun _ _ h => h⟩, rfl⟩
          · cases hmk
        · cases h
      · cases h
    · rename_i e; cases e
    · cases h
  | mptr l =>
    unfold rdP at h
    split at h <;> first | (rename_i h0 _; cases h0; done) | skip
    · rename_i e; cases e
    · rename_i e; cases e
    · rename_i e; cases e
    · rename_i l' b l2 e
      cases e
      split at h
      · rename_i L ds hb
        split at h
        · rename_i hl
          simp only [Bool.and_eq_true] at hl
          obtain rfl := shsEq_spec hl.1
          obtain rfl := shsEq_spec hl.2
          obtain ⟨rfl, rfl⟩ := Prod.mk.inj (Option.some.inj h)
          simp only [List.cons_append, List.nil_append, mkP, Option.some.injEq, Prod.mk.injEq] at hmk
          obtain ⟨_, rfl, _⟩ := hmk
          exact ⟨b, 0, [], _, [], _, rfl, rfl, hb, ⟨rfl, rfl, rfl, fun _ _ h => h⟩, rfl⟩
        · cases h
      · cases h
    · cases h
  | one p =>
    cases c with
    | agg l => simp [rdP] at h
    | dat l ds => simp [rdP] at h
    | one c =>
      simp only [rdP, rdCs] at h
      split at h
      · rename_i u a1 h1
        obtain ⟨rfl, rfl⟩ := Prod.mk.inj (Option.some.inj h)
        cases p <;> simp only [isRoot] at hr <;> first | (cases hr; done) | skip
        · rename_i k o
          cases o <;> first | (cases hr; done) | skip
          cases c <;> simp only [rootsOk, isRoot] at hok <;> first | (cases hok; done) | skip
          · rename_i b
            simp only [rdC] at h1
            split at h1
            · rename_i o' k' xs hb
              split at h1
              · rename_i e; subst e
                (try simp only [if_true] at h1)
                split at h1
                · obtain ⟨rfl, rfl⟩ := Prod.mk.inj (Option.some.inj h1)
                  simp only [List.cons_append, List.nil_append, mkP, mkCs, Option.some.injEq, Prod.mk.injEq] at hmk
                  obtain ⟨_, rfl, _⟩ := hmk
                  exact ⟨b, 1, _, _, [], _, rfl, rfl, hb, AsLong.refl _, rfl⟩
                · cases h1
              · cases h1
            · cases h1
          · simp [rdC] at h1
        · rename_i k o
          cases o <;> first | (cases hr; done) | skip
          cases c <;> simp only [rootsOk, isRoot] at hok <;> first | (cases hok; done) | skip
          · rename_i b
            simp only [rdC] at h1
            split at h1
            · rename_i o' k' xs hb
              split at h1
              · rename_i e; subst e
                (try simp only [if_true] at h1)
                split at h1
                · obtain ⟨rfl, rfl⟩ := Prod.mk.inj (Option.some.inj h1)
                  simp only [List.cons_append, List.nil_append, mkP, mkCs, Option.some.injEq, Prod.mk.injEq] at hmk
                  obtain ⟨_, rfl, _⟩ := hmk
                  exact ⟨b, _, _, _, [], _, rfl, rfl, hb, AsLong.refl _, rfl⟩
                · cases h1
              · cases h1
            · cases h1
          · simp [rdC] at h1
        · rename_i l
          cases c <;> simp only [rootsOk, isRoot] at hok <;> first | (cases hok; done) | skip
          · rename_i b
            simp only [rdC] at h1
            split at h1
            · rename_i l' xs hb
              split at h1
              · rename_i e
                obtain rfl := shsEq_spec e
                obtain ⟨rfl, rfl⟩ := Prod.mk.inj (Option.some.inj h1)
                simp only [List.cons_append, List.nil_append, mkP, mkCs, Option.some.injEq, Prod.mk.injEq] at hmk
                obtain ⟨_, rfl, _⟩ := hmk
                exact ⟨b, _, _, _, [], _, rfl, rfl, hb, AsLong.refl _, rfl⟩
              · cases h1
            · cases h1
          · simp [rdC] at h1
        · rename_i kk vk
          cases c <;> simp only [rootsOk, isRoot] at hok <;> first | (cases hok; done) | skip
          · simp [rdC] at h1
          · rename_i b
            simp only [rdC] at h1
            split at h1
            · rename_i kk' vk' xs hb
              split at h1
              · rename_i e
                obtain ⟨rfl, rfl⟩ := e
                obtain ⟨rfl, rfl⟩ := Prod.mk.inj (Option.some.inj h1)
                simp only [List.cons_append, List.nil_append, mkP, mkCs, Option.some.injEq, Prod.mk.injEq] at hmk
                obtain ⟨_, rfl, _⟩ := hmk
                exact ⟨b, _, _, _, [], _, rfl, rfl, hb, AsLong.refl _, rfl⟩
              · cases h1
            · cases h1
      · cases h
theorem rootsOk_cons {p : PP} {ps : List PP} {c : PV} {cs : List PV} (h : rootsOk (p :: ps) (c :: cs) = true) : rootsOk [p] [c] = true ∧ rootsOk ps cs = true := by
  simp only [rootsOk] at h ⊢
  split at h <;> first | (cases h; done) | exact ⟨rfl, h⟩
/-- The names of what comes in and is told anew. -/
def rootNs : List PP → List PV → List Nat
  | p :: ps, c :: cs => match isRoot p with | true => idsP c ++ rootNs ps cs | false => rootNs ps cs
  | _, _ => []
theorem roots_whole {m : MM} {rt : List Nat} (hM : Mem A w0 F γ m rt w) : ∀ {ps : List PP} {cs : List PV} {us : List U} {as : List (Asg × Bool)} {q0 : Nat} {r : List U} {vs : List PV} {es : List Ent}, rootsOk ps cs = true → rdPs m ps cs = some (us, as) → mkPs q0 ps (us ++ r) = some (vs, es, r) →
    ∀ (q k b : Nat), (rootIds q ps)[k]? = some b → q ≤ b ∧ ∃ c n e e0, as[b - q]? = some (some (c, 0, n), true) ∧ es[b - q]? = some e ∧ m c = some e0 ∧ AsLong e0.blk e.blk ∧ (rootNs ps cs)[k]? = some c := by
  intro ps
  induction ps with
  | nil => intro cs us as q0 r vs es _ _ _ q k b hb; simp [rootIds] at hb
  | cons p ps ih =>
    intro cs us as q0 r vs es hok hrd hmk q k b hb
    cases cs with
    | nil => simp [rdPs] at hrd
    | cons c cs =>
    obtain ⟨ok1, ok2⟩ := rootsOk_cons hok
    simp only [rdPs] at hrd
    split at hrd
    case h_2 => cases hrd
    rename_i u a1 h1
    split at hrd
    case h_2 => cases hrd
    rename_i us' a2 h2
    obtain ⟨rfl, rfl⟩ := Prod.mk.inj (Option.some.inj hrd)
    obtain ⟨c1, es1, k1, k2, k3, k4⟩ := rdP_again hM h1 q0 (us' ++ r)
    obtain ⟨cs2, es2, j1, j2, j3, j4⟩ := (rdPs_again hM h2).make (q0 + es1.length) r
    have j1 : mkPs (q0 + es1.length) ps (us' ++ r) = some (cs2, es2, r) := j1
    have hes : es = es1 ++ es2 := by
      rw [List.append_assoc] at hmk
      simp only [mkPs, k1, len_eq, j1, Option.some.injEq, Prod.mk.injEq] at hmk
      exact hmk.2.1.symm
    have hl1 : es1.length = entsP p := mkP_ents k1
    have rest : ∀ k, (rootIds (q + entsP p) ps)[k]? = some b → q ≤ b ∧ ∃ c n e e0, (a1 ++ a2)[b - q]? = some (some (c, 0, n), true) ∧ es[b - q]? = some e ∧ m c = some e0 ∧ AsLong e0.blk e.blk ∧ (rootNs ps cs)[k]? = some c := fun k hk => by
      obtain ⟨i1, c, n, e, e0, i2, i3, i4, i5⟩ := ih ok2 h2 j1 (q + entsP p) k b hk
      refine ⟨by omega, c, n, e, e0, ?_, ?_, i4, i5⟩
      · rw [List.getElem?_append_right (by omega), ← i2]; congr 1; omega
      · rw [hes, List.getElem?_append_right (by omega), ← i3]; congr 1; omega
    simp only [rootIds] at hb
    split at hb
    · rename_i hr
      cases k with
      | zero =>
        simp only [List.getElem?_cons_zero, Option.some.injEq] at hb
        subst hb
        obtain ⟨b', n, rst, e, erst, e0, x1, x2, x3, x4, x5⟩ := root_whole hr ok1 h1 k1
        exact ⟨Nat.le_refl _, b', n, e, e0, by simp [x1], by simp [hes, x2], x3, x4, by simp [rootNs, hr, x5]⟩
      | succ k =>
        obtain ⟨b', n, rst, e, erst, e0, x1, x2, x3, x4, x5⟩ := root_whole hr ok1 h1 k1
        obtain ⟨i1, c', n', e', e0', i2, i3, i4, i5, i6⟩ := rest k (by simpa using hb)
        exact ⟨i1, c', n', e', e0', i2, i3, i4, i5, by simpa [rootNs, hr, x5] using i6⟩
    · rename_i hr
      obtain ⟨i1, c', n', e', e0', i2, i3, i4, i5, i6⟩ := rest k hb
      exact ⟨i1, c', n', e', e0', i2, i3, i4, i5, by simpa [rootNs, hr] using i6⟩
theorem gone_get : ∀ (as : List (Asg × Bool)) (m : MM) (b : Nat) (e : Ent), updM m (gone as) b = some e → m b = some e ∧ ∀ off n, (some (b, off, n), true) ∉ as
  | [], m, b, e, h => ⟨h, fun off n h => by simp at h⟩
  | (none, o) :: as, m, b, e, h => by
    obtain ⟨h1, h2⟩ := gone_get as m b e (by simpa [gone] using h)
    exact ⟨h1, fun off n hx => by rcases List.mem_cons.1 hx with hx | hx; · cases hx
                                  · exact h2 off n hx⟩
  | (some (c, off', n'), false) :: as, m, b, e, h => by
    obtain ⟨h1, h2⟩ := gone_get as m b e (by simpa [gone] using h)
    exact ⟨h1, fun off n hx => by rcases List.mem_cons.1 hx with hx | hx; · simp at hx
                                  · exact h2 off n hx⟩
  | (some (c, off', n'), true) :: as, m, b, e, h => by
    simp only [gone, updM] at h
    obtain ⟨h1, h2⟩ := gone_get as _ b e h
    by_cases hb : b = c
    · subst hb; simp at h1
    · have : (b == c) = false := by simpa using hb
      simp only [this, Bool.false_eq_true, if_false] at h1
      refine ⟨h1, fun off n hx => ?_⟩
      rcases List.mem_cons.1 hx with hx | hx
      · simp only [Prod.mk.injEq, Option.some.injEq, and_true] at hx
        exact hb hx.1
      · exact h2 off n hx
theorem rootUpd_get {nid : Nat} {as : List (Asg × Bool)} {es : List Ent} : ∀ (bs js : List Nat) {ru : List (Nat × Option Ent)}, rootUpd nid as es bs js = some ru → ∀ (m : MM) (b : Nat) (e : Ent), updM m ru b = some e →
    (∃ k bk jk n : Nat, bs[k]? = some bk ∧ js[k]? = some jk ∧ as[bk]? = some (some (b, 0, n), true) ∧ es[jk]? = some e) ∨
      (m b = some e ∧ (∀ k jk : Nat, js[k]? = some jk → b ≠ nid + jk))
  | [], [], ru, h, m, b, e, he => by
    simp only [rootUpd, Option.some.injEq] at h; subst h
    exact .inr ⟨he, fun k jk hk => by simp at hk⟩
  | b0 :: bs, j0 :: js, ru, h, m, b, e, he => by
    simp only [rootUpd, nth?_eq] at h
    split at h
    · rename_i c n e0 h1 h2
      split at h
      · rename_i r hr
        obtain rfl := Option.some.inj h
        simp only [updM] at he
        rcases rootUpd_get bs js hr _ b e he with ⟨k, bk, jk, n', k1, k2, k3, k4⟩ | ⟨h3, h4⟩
        · exact .inl ⟨k + 1, bk, jk, n', by simpa using k1, by simpa using k2, k3, k4⟩
        · by_cases hc : b = c
          · subst hc
            simp only [beq_self_eq_true, if_true] at h3
            exact .inl ⟨0, b0, j0, n, rfl, rfl, h1, h2.trans h3⟩
          · have e1 : (b == c) = false := by simpa using hc
            simp only [e1, Bool.false_eq_true, if_false] at h3
            by_cases hj : b = nid + j0
            · have e2 : (b == nid + j0) = true := by simpa using hj
              simp [e2] at h3
            · have e2 : (b == nid + j0) = false := by simpa using hj
              simp only [e2, Bool.false_eq_true, if_false] at h3
              refine .inr ⟨h3, fun k jk hk => ?_⟩
              cases k with
              | zero => simp at hk; subst hk; exact hj
              | succ k => exact h4 k jk (by simpa using hk)
      · cases h
    · cases h
  | [], _ :: _, ru, h, _, _, _, _ => by simp [rootUpd] at h
  | _ :: _, [], ru, h, _, _, _, _ => by simp [rootUpd] at h
/-- Behind a call: what was known stays, what was handed in is told anew, what was answered is told. -/
theorem call_rel (R0 : Rel A w0 F γ s a w) {nid : Nat} (hf : ∀ q, nid ≤ q → q < nid + 64 → ¬ F q) {xs : List SV} {Ws : List Value} {agp res : List PP} {us ur : List U} {as : List (Asg × Bool)} {ps vs : List PV} {es' : List Ent} {ru : List (Nat × Option Ent)}
    (hxs : All2 (RelV F γ s.mem w) xs Ws) (hps : pvs xs = some ps) (hrd : rdPs (updM s.mem (frz s.mem (frPs s.mem agp ps))) agp ps = some (us, as)) (hok : okAsg as = true) (hrok : rootsOk agp ps = true)
    (hmk : mkPs nid (res ++ outsOf agp) ur = some (vs, es', [])) (hes : es'.length ≤ 64) (hru : rootUpd nid as es' (rootIds 0 agp) (rootIds (entsPs res) (outsOf agp)) = some ru) :
    ∃ (Zc : Nat → Prop) (γ0 : GM) (ps' : List PV) (es : List Ent), mkPs 0 agp us = some (ps', es, []) ∧ All2 (RelP ⟨fun b => b < es.length, Zc⟩ γ0 (memOf es) w) ps' Ws ∧ Mem ⟨Zc, ownedOf γ0 es, []⟩ w ⟨fun b => b < es.length, Zc⟩ γ0 (memOf es) (rootIds 0 agp) w ∧
      ∀ V w', AnsAt agp res ur Zc γ0 es w V w' → ∀ dst : Option Tmp, ∃ F2 γ2, Rel A w0 F2 γ2 (s.app dst ⟨resSV (takeL (len res) vs), frz s.mem (frPs s.mem agp ps) ++ (gone as ++ (entsUpd nid es' ++ (ru ++ shIf (anyRo es' || roPs (res ++ outsOf agp)) (shared as (updM s.mem (frz s.mem (frPs s.mem agp ps)))))))⟩) (a.put dst V) w' ∧ (∀ b, F2 b → F b ∨ (nid ≤ b ∧ b < nid + 64)) ∧ Ext F γ F2 γ2 := by
  -- what is to be told by its data is frozen
  obtain ⟨F1, f1, ms0, R⟩ := R0.frz (frPs s.mem agp ps)
  obtain ⟨u0, hu0⟩ : ∃ u0, u0 = frz s.mem (frPs s.mem agp ps) := ⟨_, rfl⟩
  rw [← hu0] at hrd R ms0 ⊢
  obtain ⟨μ, hμ⟩ : ∃ μ, μ = updM s.mem u0 := ⟨_, rfl⟩
  rw [← hμ] at hrd R ms0 ⊢
  have happ : ∀ (dst : Option Tmp) (v : SV) (l : List (Nat × Option Ent)), s.app dst ⟨v, u0 ++ l⟩ = ({ s with mem := μ } : St).app dst ⟨v, l⟩ := fun dst v l => by simp only [St.app, updM_append, hμ]
  have hf' : ∀ q, nid ≤ q → q < nid + 64 → ¬ F1 q := fun q h1 h2 => by rw [f1]; exact hf q h1 h2
  obtain ⟨s1, hs1⟩ : ∃ s1 : St, s1 = { s with mem := μ } := ⟨_, rfl⟩
  rw [← hs1] at R happ
  have hmem1 : s1.mem = μ := by subst hs1; rfl
  rw [← hmem1] at hrd ms0 ⊢
  clear hμ hs1 hu0
  have hVs := pvs_rel hps (hxs.mono fun _ _ h => h.step ms0)
  obtain ⟨ps', es, k1, k2, k3, k4⟩ := (rdPs_again R.toMem hrd).make 0 []
  have k1 : mkPs 0 agp us = some (ps', es, []) := by simpa using k1
  obtain ⟨γ0, hγ0⟩ : ∃ γ0 : GM, ∀ i, γ0 i = match as[i]? with | some x => shiftA γ x.1 | none => none := ⟨_, fun _ => rfl⟩
  have hg0 : ∀ i x, as[i]? = some x → γ0 i = shiftA γ x.1 := fun i x hx => by rw [hγ0, hx]
  have hasg : ∀ i e, es[i]? = some e → ∃ x, as[i]? = some x ∧ AsgOk s1.mem x e := fun i e he => by
    have hi := (List.getElem?_eq_some_iff.1 he).1
    obtain ⟨x, hx⟩ : ∃ x, as[i]? = some x := ⟨_, List.getElem?_eq_getElem (by omega)⟩
    exact ⟨x, hx, k3 i e x he hx⟩
  -- where what is handed in lies
  have hsrc : ∀ b g base e, es[b]? = some e → γ0 b = some (g, base) → ∃ c e0 base0 off n, as[b]? = some (some (c, off, n), e.own) ∧ s1.mem c = some e0 ∧ γ c = some (g, base0) ∧ (e.own = true → e0.own = true) ∧ ∀ kk vk xs, e.blk = .map kk vk xs → e0.blk = .map kk vk xs := fun b g base e he hg => by
    obtain ⟨⟨x1, x2⟩, hx, hk⟩ := hasg b e he
    rw [hg0 b _ hx] at hg
    obtain ⟨h1, h3⟩ := hk
    simp only at h1 h3 hg
    cases x1 with
    | none => cases hg
    | some y =>
      obtain ⟨c, off, n⟩ := y
      obtain ⟨e0, j1, j2, j3⟩ := h3
      simp only [shiftA, Option.map_eq_some_iff] at hg
      obtain ⟨⟨g', base'⟩, j4, j5⟩ := hg
      simp only [Prod.mk.injEq] at j5
      obtain ⟨rfl, _⟩ := j5
      exact ⟨c, e0, base', off, n, by rw [hx, h1], j1, j4, fun ho => j2 (h1 ▸ ho), j3⟩
  obtain ⟨Zc, hZc⟩ : ∃ Zc : Nat → Prop, ∀ g, Zc g ↔ (F1.z g ∨ ∃ b e base, es[b]? = some e ∧ e.own = false ∧ γ0 b = some (g, base)) := ⟨_, fun _ => Iff.rfl⟩
  have hT0 : Told γ 0 as es ⟨fun b => b < es.length, Zc⟩ γ0 (memOf es) :=
    ⟨fun i e he => by rw [Nat.zero_add]; exact (List.getElem?_eq_some_iff.1 he).1, fun i e he => by rw [Nat.zero_add, memOf_eq]; exact he, fun i x hx => by rw [Nat.zero_add]; exact hg0 i x hx⟩
  obtain ⟨hA, hBs⟩ := k4 _ _ _ hT0 fun g hg => (hZc g).2 (.inl hg)
  have hA := hA _ hVs
  have hdist : ∀ b e g base b' e' g' base', es[b]? = some e → e.own = true → γ0 b = some (g, base) → b' ≠ b → es[b']? = some e' → γ0 b' = some (g', base') → g' ≠ g := fun b e g base b' e' g' base' he hown hg hne he' hg' => by
    obtain ⟨c, e0, base0, off, n, z1, z2, z3, z4, _⟩ := hsrc b g base e he hg
    obtain ⟨c', e0', base0', off', n', y1, y2, y3, y4, _⟩ := hsrc b' g' base' e' he' hg'
    rw [hown] at z1
    have hcc := okAsg_spec hok b b' c off n _ c' off' n' (Ne.symm hne) z1 y1 rfl
    exact (R.own c e0 g base0 z2 (z4 hown) z3).2 c' e0' g' base0' (Ne.symm hcc) y2 y3
  have hMem : Mem ⟨Zc, ownedOf γ0 es, []⟩ w ⟨fun b => b < es.length, Zc⟩ γ0 (memOf es) (rootIds 0 agp) w := by
    have mo : ∀ b e, memOf es b = some e → es[b]? = some e := fun b e h => by rw [memOf_eq] at h; exact h
    refine ⟨Bel.refl _ _, fun b e he => ⟨(List.getElem?_eq_some_iff.1 (mo b e he)).1, ?_⟩, fun b e g base he hown hg => ⟨.inr ⟨b, e, base, mo b e he, hown, hg⟩, fun b' e' g' base' hne he' hg' => hdist b e g base b' e' g' base' (mo b e he) hown hg hne (mo b' e' he') hg'⟩,
      fun b e g base he hown hg => ?_, fun b e g base he hown hg => (hZc g).2 (.inr ⟨b, e, base, mo b e he, hown, hg⟩), fun b e g base he hg => ?_, fun b o kk vk xs g base he hg => ?_, fun g hg => ⟨?_, .inl hg, fun b e base he hown hgb => ?_⟩, fun b hb => ?_⟩
    · have := hBs b e (mo b e he)
      rwa [Nat.zero_add] at this
    · obtain ⟨c, e0, base0, off, n, z1, z2, z3, z4, _⟩ := hsrc b g base e (mo b e he) hg
      exact R.nofr c e0 g base0 z2 (z4 hown) z3
    · obtain ⟨c, e0, base0, off, n, z1, z2, z3, z4, _⟩ := hsrc b g base e (mo b e he) hg
      exact R.bnd c e0 g base0 z2 z3
    · obtain ⟨c, ⟨o0, blk0⟩, base0, off, n, z1, z2, z3, z4, z5⟩ := hsrc b g base _ (mo b _ he) hg
      have := z5 kk vk xs rfl
      simp only at this
      subst this
      exact R.maps c o0 kk vk xs g base0 z2 z3
    · rcases (hZc g).1 hg with h | ⟨b, e, base, h1, h2, h3⟩
      · exact (R.zok g h).1
      · obtain ⟨c, e0, base0, off, n, z1, z2, z3, z4, _⟩ := hsrc b g base e h1 h3
        exact R.bnd c e0 g base0 z2 z3
    · rcases (hZc g).1 hg with h | ⟨b', e', base', h1, h2, h3⟩
      · obtain ⟨c, e0, base0, off, n, z1, z2, z3, z4, _⟩ := hsrc b g base e (mo b e he) hgb
        exact (R.zok g h).2.2 c e0 base0 z2 (z4 hown) z3
      · refine hdist b e g base b' e' g base' (mo b e he) hown hgb (fun e' => ?_) h1 h3 rfl
        subst e'
        rw [mo b' e he] at h1
        obtain rfl := Option.some.inj h1
        rw [hown] at h2; cases h2
    · have := (rootIds_lt agp 0 b hb).2
      rw [← mkPs_ents _ k1] at this
      show b < es.length
      omega
  refine ⟨Zc, γ0, ps', es, k1, hA, hMem, ?_⟩
  rintro V w' ⟨hbel, Z', hZ', hq⟩
  intro dst
  rw [happ]
  obtain ⟨γ', vs', es2, m1, m2, m3, m4⟩ := hq nid
  rw [hmk] at m1
  obtain ⟨rfl, rfl⟩ : vs = vs' ∧ es' = es2 := by simpa using m1
  -- what is shared from now on
  obtain ⟨ro, hro⟩ : ∃ ro, ro = (anyRo es' || roPs (res ++ outsOf agp)) := ⟨_, rfl⟩
  rw [← hro]
  obtain ⟨upd, hupd⟩ : ∃ upd, upd = gone as ++ (entsUpd nid es' ++ (ru ++ shIf ro (shared as s1.mem))) := ⟨_, rfl⟩
  rw [← hupd]
  obtain ⟨m', hm'⟩ : ∃ m', m' = updM s1.mem upd := ⟨_, rfl⟩
  obtain ⟨γ2, hγ2⟩ : ∃ γ2 : GM, ∀ b, γ2 b = if nid ≤ b ∧ b < nid + es'.length then γ' (b - nid) else γ b := ⟨_, fun _ => rfl⟩
  have hFout : ∀ b, F1 b → ¬ (nid ≤ b ∧ b < nid + es'.length) := fun b hb ⟨h1, h2⟩ => hf' b h1 (by omega) hb
  have gin : ∀ i, i < es'.length → γ2 (nid + i) = γ' i := fun i hi => by rw [hγ2, if_pos ⟨by omega, by omega⟩, show nid + i - nid = i by omega]
  have gout : ∀ b, F1 b → γ2 b = γ b := fun b hb => by rw [hγ2, if_neg (hFout b hb)]
  -- the roots
  have hroot : ∀ k bk jk c n : Nat, (rootIds 0 agp)[k]? = some bk → (rootIds (entsPs res) (outsOf agp))[k]? = some jk → as[bk]? = some (some (c, 0, n), true) →
      ∃ e e0, es'[jk]? = some e ∧ s1.mem c = some e0 ∧ e0.own = true ∧ AsLong e0.blk e.blk ∧ e.own = true ∧ γ' jk = γ c ∧ F1 c := fun k bk jk c n h1 h2 h3 => by
    obtain ⟨_, c', n', e1, e0, q1, q2, q3, q4, _⟩ := roots_whole R.toMem (r := []) hrok hrd (by simpa using k1) 0 k bk h1
    rw [Nat.sub_zero] at q1 q2
    rw [h3] at q1
    obtain ⟨rfl, rfl⟩ : c = c' ∧ n = n' := by simpa using q1
    obtain ⟨ea, eb, p1, p2, p3, p4, p5, p6, p7, p8⟩ := m4 k bk jk h1 h2
    rw [q2] at p1
    obtain rfl := Option.some.inj p1
    obtain ⟨x, hx1, hx2⟩ := hasg bk e1 q2
    rw [h3] at hx1
    obtain rfl := Option.some.inj hx1
    obtain ⟨_, e00, y1, y2, _⟩ := hx2
    rw [q3] at y1
    obtain rfl := Option.some.inj y1
    refine ⟨eb, e0, p2, q3, y2 rfl, q4.trans ⟨p5, p6, p7, p8⟩, p3, ?_, (R.memr c e0 q3).1⟩
    rw [p4, hg0 bk _ h3]
    simp only [shiftA, Nat.zero_mul, Nat.add_zero]
    cases γ c <;> rfl
  have hmem : ∀ b e, m' b = some e →
      (∃ i, b = nid + i ∧ es'[i]? = some e ∧ ∀ k jk : Nat, (rootIds (entsPs res) (outsOf agp))[k]? = some jk → jk ≠ i) ∨
      (∃ k bk jk n : Nat, (rootIds 0 agp)[k]? = some bk ∧ (rootIds (entsPs res) (outsOf agp))[k]? = some jk ∧ as[bk]? = some (some (b, 0, n), true) ∧ es'[jk]? = some e) ∨
      (F1 b ∧ ∃ e0, s1.mem b = some e0 ∧ e.blk = e0.blk ∧ (e.own = true → e0.own = true ∧ (ro = true → ∀ off n, (some (b, off, n), false) ∉ as)) ∧ ∀ off n, (some (b, off, n), true) ∉ as) := by
    intro b e hb
    rw [hm', hupd, updM_append, updM_append, updM_append] at hb
    -- behind the roots
    have mid : ∀ b e, updM (updM (updM s1.mem (gone as)) (entsUpd nid es')) ru b = some e →
        (∃ i, b = nid + i ∧ es'[i]? = some e ∧ ∀ k jk : Nat, (rootIds (entsPs res) (outsOf agp))[k]? = some jk → jk ≠ i) ∨
        (∃ k bk jk n : Nat, (rootIds 0 agp)[k]? = some bk ∧ (rootIds (entsPs res) (outsOf agp))[k]? = some jk ∧ as[bk]? = some (some (b, 0, n), true) ∧ es'[jk]? = some e) ∨
        (F1 b ∧ s1.mem b = some e ∧ ∀ off n, (some (b, off, n), true) ∉ as) := by
      intro b e hb
      rcases rootUpd_get _ _ hru _ b e hb with ⟨k, bk, jk, n, z1, z2, z3, z4⟩ | ⟨h1, h2⟩
      · exact .inr (.inl ⟨k, bk, jk, n, z1, z2, z3, z4⟩)
      · have h1 : updM (updM s1.mem (gone as)) (entsUpd nid es' ++ []) b = some e := by rw [List.append_nil]; exact h1
        rw [entsUpd_get] at h1
        simp only [updM] at h1
        split at h1
        · rename_i hr
          exact .inl ⟨b - nid, by omega, h1, fun k jk hk e' => h2 k jk hk (by omega)⟩
        · obtain ⟨h3, h4⟩ := gone_get as _ b e h1
          exact .inr (.inr ⟨(R.memr b e h3).1, h3, h4⟩)
    cases hr : ro with
    | false =>
      rw [hr] at hb
      rcases mid b e hb with h | h | ⟨h1, h2, h3⟩
      · exact .inl h
      · exact .inr (.inl h)
      · exact .inr (.inr ⟨h1, e, h2, rfl, fun ho => ⟨ho, fun h => by cases h⟩, h3⟩)
    | true =>
      rw [hr] at hb
      rcases shared_get s1.mem as _ b e hb with ⟨h1, h2⟩ | ⟨e0, h1, rfl, off, n, h2⟩
      · rcases mid b e h1 with h | h | ⟨z1, z2, z3⟩
        · exact .inl h
        · exact .inr (.inl h)
        · refine .inr (.inr ⟨z1, e, z2, rfl, fun ho => ⟨ho, fun _ off n hx => ?_⟩, z3⟩)
          rw [h2 _ hx off n rfl] at z2; cases z2
      · refine .inr (.inr ⟨(R.memr b e0 h1).1, e0, h1, rfl, fun ho => by (cases ho), fun off' n' hx => ?_⟩)
        obtain ⟨i, hi⟩ := List.mem_iff_getElem?.1 hx
        obtain ⟨j, hj⟩ := List.mem_iff_getElem?.1 h2
        refine okAsg_spec hok i j b off' n' _ b off n (fun e => ?_) hi hj rfl rfl
        subst e
        rw [hi] at hj
        simp at hj
  -- blocks that were handed in to be written
  have howned : ∀ g, ownedOf γ0 es g → ∃ c e0 base0 off n, (some (c, off, n), true) ∈ as ∧ s1.mem c = some e0 ∧ e0.own = true ∧ γ c = some (g, base0) := fun g ⟨b, e, base, h1, h2, h3⟩ => by
    obtain ⟨c, e0, base0, off, n, z1, z2, z3, z4, _⟩ := hsrc b g base e h1 h3
    rw [h2] at z1
    exact ⟨c, e0, base0, off, n, List.mem_of_getElem? z1, z2, z4 h2, z3⟩
  have hkeep : ∀ b e0 g base, s1.mem b = some e0 → (∀ off n, (some (b, off, n), true) ∉ as) → γ b = some (g, base) → ¬ ownedOf γ0 es g ∧ w'.heap[g]? = w.heap[g]? := fun b e0 g base h1 h2 h3 => by
    have hno : ¬ ownedOf γ0 es g := fun ho => by
      obtain ⟨c, ec, base0, off, n, z1, z2, z3, z4⟩ := howned g ho
      have hne : b ≠ c := fun e => by subst e; exact h2 off n z1
      exact (R.own c ec g base0 z2 z3 z4).2 b e0 g base hne h1 h3 rfl
    exact ⟨hno, hbel.block g (R.bnd b e0 g base h1 h3) hno⟩
  have hzkeep : ∀ g, F1.z g → ¬ ownedOf γ0 es g ∧ w'.heap[g]? = w.heap[g]? := fun g hz => by
    have hno : ¬ ownedOf γ0 es g := fun ho => by
      obtain ⟨c, ec, base0, off, n, z1, z2, z3, z4⟩ := howned g ho
      exact (R.zok g hz).2.2 c ec base0 z2 z3 z4
    exact ⟨hno, hbel.block g (R.zok g hz).1 hno⟩
  -- nobody owns what is frozen by now
  have hYfree : ro = true → ∀ g, (Z' g ∨ Zc g) → ∀ b e base, m' b = some e → e.own = true → γ2 b ≠ some (g, base) := fun hr g hY b e base he hown hg => by
    have hnew : ∀ i, es'[i]? = some e → γ' i = some (g, base) → False := fun i hi hgi => by
      obtain ⟨_, _, z1, _⟩ := m3 i e g base hi hgi
      obtain ⟨z2, z3, z4, z5⟩ := z1 hown
      rcases hY with hY | hY
      · exact z4 hY
      · rcases z2 with z2 | z2
        · have := (hMem.zok g hY).1; omega
        · obtain ⟨b', e', base', y1, y2, y3⟩ := z2
          exact (hMem.zok g hY).2.2 b' e' base' (by rw [memOf_eq]; exact y1) y2 y3
    rcases hmem b e he with ⟨i, rfl, hi, _⟩ | ⟨k, bk, jk, n, z1, z2, z3, z4⟩ | ⟨h1, e0, h2, h3, h4, h5⟩
    · rw [gin i (List.getElem?_eq_some_iff.1 hi).1] at hg
      exact hnew i hi hg
    · obtain ⟨e1, e0, y1, y2, y3, y4, y5, y6, y7⟩ := hroot k bk jk b n z1 z2 z3
      rw [gout b y7, ← y6] at hg
      exact hnew jk z4 hg
    · rw [gout b h1] at hg
      obtain ⟨h6, h7⟩ := h4 hown
      have hb := R.bnd b e0 g base h2 hg
      have hzc : ¬ Zc g := fun hzc => by
        rcases (hZc g).1 hzc with h | ⟨b', e', base', y1, y2, y3⟩
        · exact (R.zok g h).2.2 b e0 base h2 h6 hg
        · obtain ⟨c, ec, base0, off, n, z1, z2, z3, z4, _⟩ := hsrc b' g base' e' y1 y3
          rw [y2] at z1
          have hne : c ≠ b := fun e => by subst e; exact h7 hr off n (List.mem_of_getElem? z1)
          exact (R.own b e0 g base h2 h6 hg).2 c ec g base0 hne z2 z3 rfl
      rcases hY with hY | hY
      · rcases (hZ' g hY).2 with h | h | h
        · exact hzc h
        · omega
        · exact (hkeep b e0 g base h2 h5 hg).1 h
      · exact hzc hY
  obtain ⟨F2, hF2f, hF2z⟩ : ∃ F2 : NS, (∀ b, F2 b ↔ (F1 b ∨ (nid ≤ b ∧ b < nid + es'.length))) ∧ ∀ g, F2.z g ↔ (F1.z g ∨ (ro = true ∧ (Z' g ∨ Zc g))) := ⟨⟨_, _⟩, fun _ => Iff.rfl, fun _ => Iff.rfl⟩
  -- what is answered
  obtain ⟨v1, v2⟩ := m2 ⟨fun b => nid ≤ b ∧ b < nid + es'.length, Z'⟩ (fun b => γ' (b - nid)) (fun b => if nid ≤ b then es'[b - nid]? else none) (fun _ h => h) (fun i e he => by
    have hi := (List.getElem?_eq_some_iff.1 he).1
    refine ⟨⟨by omega, by omega⟩, ?_, ?_⟩
    · rw [if_pos (by omega), show nid + i - nid = i by omega]; exact he
    · simp only [show nid + i - nid = i by omega])
  have ns : NStep ⟨fun b => nid ≤ b ∧ b < nid + es'.length, Z'⟩ (fun b => γ' (b - nid)) (fun b => if nid ≤ b then es'[b - nid]? else none) F2 γ2 m' := by
    refine ⟨fun b hb => (hF2f b).2 (.inr hb), fun b hb => by rw [hγ2, if_pos hb], fun b e hb he => ?_⟩
    rcases hmem b e he with ⟨i, rfl, hi, _⟩ | ⟨k, bk, jk, n, z1, z2, z3, z4⟩ | ⟨h1, _⟩
    · exact ⟨e, by rw [if_pos (by omega), show nid + i - nid = i by omega]; exact hi, rfl, rfl, rfl, fun _ _ h => h⟩
    · obtain ⟨_, _, _, _, _, _, _, _, y7⟩ := hroot k bk jk b n z1 z2 z3
      exact absurd hb (hFout b y7)
    · exact absurd hb (hFout b h1)
  have hznn : (∀ p ∈ vs, p.noz = true) ∧ (∀ e ∈ es', e.blk.noz) ∨ ∀ g, Z' g → F2.z g := by
    cases hr : ro with
    | true => exact .inr fun g hg => (hF2z g).2 (.inr ⟨hr, .inl hg⟩)
    | false =>
      rw [hr] at hro
      have : roPs (res ++ outsOf agp) = false := by
        cases hx : roPs (res ++ outsOf agp) with
        | false => rfl
        | true => rw [hx] at hro; simp at hro
      exact .inl (mkPs_noz _ this hmk)
  have htake : ∀ (n : Nat) (l : List PV) (p : PV), p ∈ takeL n l → p ∈ l := fun n => by
    induction n with
    | zero => intro l p h; simp [takeL] at h
    | succ n ih =>
      intro l p h
      cases l with
      | nil => simp [takeL] at h
      | cons x l =>
        simp only [takeL] at h
        rcases List.mem_cons.1 h with rfl | h
        · simp
        · exact List.mem_cons_of_mem _ (ih l p h)
  have v1 : RelV F2 γ2 m' w' (resSV (takeL (len res) vs)) V := v1.nstep ns (hznn.imp (fun h p hp => h.1 p (htake _ _ p hp)) id)
  have v2 : ∀ (i : Nat) (e : Ent), es'[i]? = some e → RelB F2 γ2 m' w' (nid + i) e.blk := fun i e he =>
    (v2 i e he).nstep ns (by have := (List.getElem?_eq_some_iff.1 he).1
                             show γ2 (nid + i) = γ' (nid + i - nid)
                             rw [gin i this, show nid + i - nid = i by omega]) (hznn.imp (fun h => h.2 e (List.mem_of_getElem? he)) id)
  have ms : MStep F1 γ s1.mem w F2 γ2 m' w' := by
    refine ⟨fun b h => (hF2f b).2 (.inl h), fun b h => gout b h, fun b e hb he => ?_, hbel.wst, fun g h => (hF2z g).2 (.inl h), fun g h => (hzkeep g h).2⟩
    rcases hmem b e he with ⟨i, rfl, hi, _⟩ | ⟨k, bk, jk, n, z1, z2, z3, z4⟩ | ⟨_, e0, h2, h3, _⟩
    · exact absurd ⟨by omega, by have := (List.getElem?_eq_some_iff.1 hi).1; omega⟩ (hFout _ hb)
    · obtain ⟨e1, e0, y1, y2, y3, y4, y5, y6, y7⟩ := hroot k bk jk b n z1 z2 z3
      rw [z4] at y1
      obtain rfl := Option.some.inj y1
      exact ⟨e0, y2, y4⟩
    · exact ⟨e0, h2, by rw [h3], by rw [h3], by rw [h3], fun _ _ h => h3 ▸ h⟩
  -- where what there is now lies
  have hplace : ∀ b e g base, m' b = some e → γ2 b = some (g, base) →
      (∃ i, es'[i]? = some e ∧ γ' i = some (g, base) ∧ (b = nid + i ∨ ∃ k : Nat, (rootIds (entsPs res) (outsOf agp))[k]? = some i) ∧ ((b = nid + i ∧ ∀ k jk : Nat, (rootIds (entsPs res) (outsOf agp))[k]? = some jk → jk ≠ i) ∨ ∃ k bk n : Nat, (rootIds 0 agp)[k]? = some bk ∧ (rootIds (entsPs res) (outsOf agp))[k]? = some i ∧ as[bk]? = some (some (b, 0, n), true))) ∨
      (F1 b ∧ γ b = some (g, base) ∧ ∃ e0, s1.mem b = some e0 ∧ e.blk = e0.blk ∧ (e.own = true → e0.own = true ∧ (ro = true → ∀ off n, (some (b, off, n), false) ∉ as)) ∧ ∀ off n, (some (b, off, n), true) ∉ as) := fun b e g base he hg => by
    rcases hmem b e he with ⟨i, rfl, hi, hni⟩ | ⟨k, bk, jk, n, z1, z2, z3, z4⟩ | ⟨h1, e0, h2, h3, h4, h5⟩
    · rw [gin i (List.getElem?_eq_some_iff.1 hi).1] at hg
      exact .inl ⟨i, hi, hg, .inl rfl, .inl ⟨rfl, hni⟩⟩
    · obtain ⟨e1, e0, y1, y2, y3, y4, y5, y6, y7⟩ := hroot k bk jk b n z1 z2 z3
      rw [gout b y7, ← y6] at hg
      exact .inl ⟨jk, z4, hg, .inr ⟨k, z2⟩, .inr ⟨k, bk, n, z1, z2, z3⟩⟩
    · rw [gout b h1] at hg
      exact .inr ⟨h1, hg, e0, h2, h3, h4, h5⟩
  have hszle := R.below.size
  have hnewM : Mem A w0 F2 γ2 m' s1.rt w' := by
    refine ⟨R.below.call hbel hszle fun g hg => ?_, fun b e he => ?_, fun b e g base he hown hg => ?_, fun b e g base he hown hg => ?_, fun b e g base he hown hg => ?_, fun b e g base he hg => ?_, fun b o kk vk xs g base he hg => ?_, fun g hg => ?_, fun b hb => (hF2f b).2 (.inl (R.rts b hb))⟩
    · obtain ⟨c, ec, base0, off, n, z1, z2, z3, z4⟩ := howned g hg
      exact (R.own c ec g base0 z2 z3 z4).1
    · rcases hmem b e he with ⟨i, rfl, hi, _⟩ | ⟨k, bk, jk, n, z1, z2, z3, z4⟩ | ⟨h1, e0, h2, h3, h4, h5⟩
      · exact ⟨(hF2f _).2 (.inr ⟨by omega, by have := (List.getElem?_eq_some_iff.1 hi).1; omega⟩), v2 i e hi⟩
      · obtain ⟨e1, e0, y1, y2, y3, y4, y5, y6, y7⟩ := hroot k bk jk b n z1 z2 z3
        exact ⟨(hF2f b).2 (.inl y7), (v2 jk e z4).rename (by rw [gout b y7, gin jk (List.getElem?_eq_some_iff.1 z4).1, y6])⟩
      · refine ⟨(hF2f b).2 (.inl h1), ?_⟩
        rw [h3]
        exact (R.memr b e0 h2).2.step ms (gout b h1) fun g base hg => (hkeep b e0 g base h2 h5 hg).2
    · -- owned
      rcases hplace b e g base he hg with ⟨i, hi, hgi, _, hbi⟩ | ⟨h1, hgb, e0, h2, h3, h4, h5⟩
      · obtain ⟨z0, _, z1, _⟩ := m3 i e g base hi hgi
        obtain ⟨z2, z3, z4, z5⟩ := z1 hown
        refine ⟨?_, fun b' e' g' base' hne he' hg' => ?_⟩
        · rcases z2 with z2 | z2
          · exact .inl (by omega)
          · obtain ⟨c, ec, base0, off, n, y1, y2, y3, y4⟩ := howned g z2
            exact (R.own c ec g base0 y2 y3 y4).1
        · rcases hplace b' e' g' base' he' hg' with ⟨i', hi', hgi', _, hbi'⟩ | ⟨h1', hgb', e0', h2', h3', h4', h5'⟩
          · refine z5 i' e' g' base' (fun eii => ?_) hi' hgi'
            subst eii
            rcases hbi with ⟨rfl, x2⟩ | ⟨k, bk, n, x1, x2, x3⟩
            · rcases hbi' with ⟨rfl, _⟩ | ⟨k', bk', n', y1, y2, y3⟩
              · exact hne rfl
              · exact x2 k' _ y2 rfl
            · rcases hbi' with ⟨rfl, y2⟩ | ⟨k', bk', n', y1, y2, y3⟩
              · exact y2 k _ x2 rfl
              · have hkk : k = k' := by
                  rcases Nat.decEq k k' with h | h
                  · exact absurd rfl (rootIds_inj _ _ k k' _ _ h x2 y2)
                  · exact h
                subst hkk
                rw [x1] at y1
                obtain rfl := Option.some.inj y1
                rw [x3] at y3
                simp only [Option.some.injEq, Prod.mk.injEq, and_true, true_and] at y3
                exact hne y3.1.symm
          · have hb := R.bnd b' e0' g' base' h2' hgb'
            rcases z2 with z2 | z2
            · omega
            · intro egg
              subst egg
              exact (hkeep b' e0' g' base' h2' h5' hgb').1 z2
      · obtain ⟨h6, h7⟩ := h4 hown
        obtain ⟨z1, z2⟩ := R.own b e0 g base h2 h6 hgb
        refine ⟨z1, fun b' e' g' base' hne he' hg' => ?_⟩
        rcases hplace b' e' g' base' he' hg' with ⟨i', hi', hgi', _, hbi'⟩ | ⟨h1', hgb', e0', h2', h3', h4', h5'⟩
        · have hb := R.bnd b e0 g base h2 hgb
          intro egg
          subst egg
          obtain ⟨y0, _, y1, y2⟩ := m3 i' e' g' base' hi' hgi'
          cases ho' : e'.own with
          | true =>
            rcases (y1 ho').1 with y | y
            · omega
            · exact (hkeep b e0 g' base h2 h5 hgb).1 y
          | false =>
            have hz := y2 ho'
            have hrt : ro = true := by rw [hro]; simp [anyRo_of es' i' e' hi' ho']
            exact hYfree hrt g' (.inl hz) b e base he hown (by rw [gout b h1]; exact hgb)
        · exact z2 b' e0' g' base' hne h2' hgb'
    · rcases hplace b e g base he hg with ⟨i, hi, hgi, _, hbi⟩ | ⟨h1, hgb, e0, h2, h3, h4, h5⟩
      · obtain ⟨z0, _, z1, _⟩ := m3 i e g base hi hgi
        exact (z1 hown).2.1
      · exact (R.nofr b e0 g base h2 (h4 hown).1 hgb).of (hkeep b e0 g base h2 h5 hgb).2
    · rcases hplace b e g base he hg with ⟨i, hi, hgi, _, hbi⟩ | ⟨h1, hgb, e0, h2, h3, h4, h5⟩
      · obtain ⟨z0, _, _, z1⟩ := m3 i e g base hi hgi
        have hrt : ro = true := by rw [hro]; simp [anyRo_of es' i e hi hown]
        exact (hF2z g).2 (.inr ⟨hrt, .inl (z1 hown)⟩)
      · cases h0 : e0.own with
        | false => exact (hF2z g).2 (.inl (R.shr b e0 g base h2 h0 hgb))
        | true =>
          -- it was shared just now
          have hrt : ro = true ∧ ∃ off n, (some (b, off, n), false) ∈ as := by
            cases hr : ro with
            | false =>
              exfalso
              rw [hm', hupd, updM_append, updM_append, updM_append, hr] at he
              rcases rootUpd_get _ _ hru _ b e he with ⟨k, bk, jk, n, z1, z2, z3, z4⟩ | ⟨q1, q2⟩
              · exact h5 0 n (List.mem_of_getElem? z3)
              · have q1 : updM (updM s1.mem (gone as)) (entsUpd nid es' ++ []) b = some e := by rw [List.append_nil]; exact q1
                rw [entsUpd_get] at q1
                simp only [updM] at q1
                rw [if_neg (hFout b h1)] at q1
                have q3 := (gone_get as _ b e q1).1
                rw [h2] at q3
                obtain rfl := Option.some.inj q3
                rw [h0] at hown; cases hown
            | true =>
              refine ⟨rfl, ?_⟩
              rw [hm', hupd, updM_append, updM_append, updM_append, hr] at he
              rcases shared_get s1.mem as _ b e he with ⟨q1, q2⟩ | ⟨_, _, _, off, n, q2⟩
              · exfalso
                rcases rootUpd_get _ _ hru _ b e q1 with ⟨k, bk, jk, n, z1, z2, z3, z4⟩ | ⟨q1, q2⟩
                · exact h5 0 n (List.mem_of_getElem? z3)
                · have q1 : updM (updM s1.mem (gone as)) (entsUpd nid es' ++ []) b = some e := by rw [List.append_nil]; exact q1
                  rw [entsUpd_get] at q1
                  simp only [updM] at q1
                  rw [if_neg (hFout b h1)] at q1
                  have q3 := (gone_get as _ b e q1).1
                  rw [h2] at q3
                  obtain rfl := Option.some.inj q3
                  rw [h0] at hown; cases hown
              · exact ⟨off, n, q2⟩
          obtain ⟨hrt, off, n, hin⟩ := hrt
          obtain ⟨i, hi⟩ := List.mem_iff_getElem?.1 hin
          have hil : i < es.length := by have := (List.getElem?_eq_some_iff.1 hi).1; omega
          obtain ⟨x, hx1, hx2⟩ := hasg i es[i] (List.getElem?_eq_getElem hil)
          rw [hi] at hx1
          obtain rfl := Option.some.inj hx1
          refine (hF2z g).2 (.inr ⟨hrt, .inr ((hZc g).2 (.inr ⟨i, es[i], base + off * n, List.getElem?_eq_getElem hil, hx2.1, ?_⟩))⟩)
          rw [hg0 i _ hi]
          simp [shiftA, hgb]
    · have := hbel.size
      rcases hplace b e g base he hg with ⟨i, hi, hgi, _, hbi⟩ | ⟨h1, hgb, e0, h2, h3, h4, h5⟩
      · exact (m3 i e g base hi hgi).1
      · have := R.bnd b e0 g base h2 hgb; omega
    · rcases hplace b _ g base he hg with ⟨i, hi, hgi, _, hbi⟩ | ⟨h1, hgb, ⟨o0, blk0⟩, h2, h3, h4, h5⟩
      · exact (m3 i _ g base hi hgi).2.1 kk vk xs rfl
      · simp only at h3
        subst h3
        obtain ⟨ents, clock, y1, y2⟩ := R.maps b o0 kk vk xs g base h2 hgb
        exact ⟨ents, clock, (hkeep b _ g base h2 h5 hgb).2.trans y1, y2⟩
    · have := hbel.size
      rcases (hF2z g).1 hg with hz | ⟨hrt, hY⟩
      · obtain ⟨z1, z2, z3⟩ := R.zok g hz
        refine ⟨by omega, z2, fun b e base he hown hgb => ?_⟩
        rcases hplace b e g base he hgb with ⟨i, hi, hgi, _, hbi⟩ | ⟨h1, hgb, e0, h2, h3, h4, h5⟩
        · obtain ⟨_, _, y1, _⟩ := m3 i e g base hi hgi
          rcases (y1 hown).1 with y | y
          · omega
          · exact (hzkeep g hz).1 y
        · exact z3 b e0 base h2 (h4 hown).1 hgb
      · refine ⟨?_, ?_, hYfree hrt g hY⟩
        · rcases hY with hY | hY
          · exact (hZ' g hY).1
          · have := (hMem.zok g hY).1; omega
        · have hzc : Zc g → A.a g ∨ w0.heap.size ≤ g ∨ A.i g := fun hzc => by
            rcases (hZc g).1 hzc with h | ⟨b', e', base', y1, y2, y3⟩
            · exact (R.zok g h).2.1
            · obtain ⟨c, ec, base0, off, n, z1, z2, z3, z4, _⟩ := hsrc b' g base' e' y1 y3
              cases hoc : ec.own with
              | true => exact .inr (R.own c ec g base0 z2 hoc z3).1
              | false => exact (R.zok g (R.shr c ec g base0 z2 hoc z3)).2.1
          rcases hY with hY | hY
          · rcases (hZ' g hY).2 with h | h | h
            · exact hzc h
            · exact .inr (.inl (by omega))
            · obtain ⟨c, ec, base0, off, n, y1, y2, y3, y4⟩ := howned g h
              exact .inr (R.own c ec g base0 y2 y3 y4).1
          · exact hzc hY
  refine ⟨F2, γ2, R.put (o := ⟨resSV (takeL (len res) vs), upd⟩) (by rw [← hm']; exact ms) (by rw [← hm']; exact v1) (by rw [← hm']; exact hnewM), fun b hb => ?_, ?_⟩
  · rcases (hF2f b).1 hb with h | h
    · exact .inl (by rw [← f1]; exact h)
    · exact .inr ⟨h.1, by omega⟩
  · exact ⟨fun b hb => ms.ext.1 b (by rw [f1]; exact hb), fun b hb => ms.ext.2 b (by rw [f1]; exact hb)⟩
/-- A call, by what is known of the function at these data. -/
theorem call_core (R0 : Rel A w0 F γ s a w) {nid : Nat} (hf : ∀ q, nid ≤ q → q < nid + 64 → ¬ F q) {o : Oper} {f : FuncId} {x : Operand} {args : Array Operand} {ats : Array TypeId} {agp res : List PP} {us ur : List U} {as : List (Asg × Bool)} {ps vs : List PV} {es' : List Ent} {ru : List (Nat × Option Ent)}
    (ho : o.op = .call { callee := .value x, args := args, argTypes := ats }) (hxv : a.eval x = .func (.func f) #[] #[]) (hps : pvs (args.toList.map s.ev) = some ps) (hrd : rdPs (updM s.mem (frz s.mem (frPs s.mem agp ps))) agp ps = some (us, as)) (hok : okAsg as = true) (hrok : rootsOk agp ps = true)
    (hmk : mkPs nid (res ++ outsOf agp) ur = some (vs, es', [])) (hes : es'.length ≤ 64) (hru : rootUpd nid as es' (rootIds 0 agp) (rootIds (entsPs res) (outsOf agp)) = some ru) (hE : (Callable P f ∧ FnAt P f agp res us ur) ∨ ExtAt P f agp res us ur) :
    Sim P A w0 F γ nid s o ⟨resSV (takeL (len res) vs), frz s.mem (frPs s.mem agp ps) ++ (gone as ++ (entsUpd nid es' ++ (ru ++ shIf (anyRo es' || roPs (res ++ outsOf agp)) (shared as (updM s.mem (frz s.mem (frPs s.mem agp ps)))))))⟩ a w := by
  rcases hE with ⟨⟨fn, c1, c2, c3⟩, hFn⟩ | hext
  case inl =>
    obtain ⟨Zc, γ0, ps', es, k1, hA, hMem, hback⟩ := call_rel R0 hf (evs_rel R0 args.toList) hps hrd hok hrok hmk hes hru
    have hcalls := hFn Zc γ0 w (args.toList.map a.eval) ps' es k1 hA hMem
    intro K Q hK
    unfold Oper.wp
    have hexec : (execOp a.eval o).run P w = .ok (.enter f (args.toList.map a.eval).toArray) w := by
      simp only [execOp, ho, resolve, hxv, Deferred.ofValue, Sem.run_bind, Sem.run_pure, Result.andThen_ok, invoke, callFunc, run_program, c1, c2, c3, Bool.false_eq_true, if_false]
      simp [callFunc, c1, c2, c3]
      apply Array.ext'
      simp
    rw [hexec, Oper.upon_enter]
    refine hcalls.mono ?_
    rintro en w' ⟨V, rfl, hans⟩
    obtain ⟨F2, γ2, R2, hF2, hx2⟩ := hback V w' hans o.dst
    exact hK V w' F2 γ2 R2 hF2 hx2
  -- what is to be told by its data is frozen
  obtain ⟨F1, f1, ms0, R⟩ := R0.frz (frPs s.mem agp ps)
  obtain ⟨u0, hu0⟩ : ∃ u0, u0 = frz s.mem (frPs s.mem agp ps) := ⟨_, rfl⟩
  rw [← hu0] at hrd R ms0 ⊢
  obtain ⟨μ, hμ⟩ : ∃ μ, μ = updM s.mem u0 := ⟨_, rfl⟩
  rw [← hμ] at hrd R ms0 ⊢
  refine Sim.frozen (F1 := F1) f1 (u := u0) ?_
  rw [← hμ]
  have hf' : ∀ q, nid ≤ q → q < nid + 64 → ¬ F1 q := fun q h1 h2 => by rw [f1]; exact hf q h1 h2
  generalize hs1 : ({ s with mem := μ } : St) = s1 at R ⊢
  have hev : s1.ev = s.ev := by subst hs1; rfl
  have hmem1 : s1.mem = μ := by subst hs1; rfl
  rw [← hmem1] at hrd ms0 ⊢
  clear hμ hs1 hu0
  have hVs := pvs_rel hps (hev ▸ evs_rel R args.toList)
  obtain ⟨ps', es, k1, k2, k3, k4⟩ := (rdPs_again R.toMem hrd).make 0 []
  have k1 : mkPs 0 agp us = some (ps', es, []) := by simpa using k1
  obtain ⟨γ0, hγ0⟩ : ∃ γ0 : GM, ∀ i, γ0 i = match as[i]? with | some x => shiftA γ x.1 | none => none := ⟨_, fun _ => rfl⟩
  have hg0 : ∀ i x, as[i]? = some x → γ0 i = shiftA γ x.1 := fun i x hx => by rw [hγ0, hx]
  have hasg : ∀ i e, es[i]? = some e → ∃ x, as[i]? = some x ∧ AsgOk s1.mem x e := fun i e he => by
    have hi := (List.getElem?_eq_some_iff.1 he).1
    obtain ⟨x, hx⟩ : ∃ x, as[i]? = some x := ⟨_, List.getElem?_eq_getElem (by omega)⟩
    exact ⟨x, hx, k3 i e x he hx⟩
  -- where what is handed in lies
  have hsrc : ∀ b g base e, es[b]? = some e → γ0 b = some (g, base) → ∃ c e0 base0 off n, as[b]? = some (some (c, off, n), e.own) ∧ s1.mem c = some e0 ∧ γ c = some (g, base0) ∧ (e.own = true → e0.own = true) ∧ ∀ kk vk xs, e.blk = .map kk vk xs → e0.blk = .map kk vk xs := fun b g base e he hg => by
    obtain ⟨⟨x1, x2⟩, hx, hk⟩ := hasg b e he
    rw [hg0 b _ hx] at hg
    obtain ⟨h1, h3⟩ := hk
    simp only at h1 h3 hg
    cases x1 with
    | none => cases hg
    | some y =>
      obtain ⟨c, off, n⟩ := y
      obtain ⟨e0, j1, j2, j3⟩ := h3
      simp only [shiftA, Option.map_eq_some_iff] at hg
      obtain ⟨⟨g', base'⟩, j4, j5⟩ := hg
      simp only [Prod.mk.injEq] at j5
      obtain ⟨rfl, _⟩ := j5
      exact ⟨c, e0, base', off, n, by rw [hx, h1], j1, j4, fun ho => j2 (h1 ▸ ho), j3⟩
  obtain ⟨Zc, hZc⟩ : ∃ Zc : Nat → Prop, ∀ g, Zc g ↔ (F1.z g ∨ ∃ b e base, es[b]? = some e ∧ e.own = false ∧ γ0 b = some (g, base)) := ⟨_, fun _ => Iff.rfl⟩
  have hT0 : Told γ 0 as es ⟨fun b => b < es.length, Zc⟩ γ0 (memOf es) :=
    ⟨fun i e he => by rw [Nat.zero_add]; exact (List.getElem?_eq_some_iff.1 he).1, fun i e he => by rw [Nat.zero_add, memOf_eq]; exact he, fun i x hx => by rw [Nat.zero_add]; exact hg0 i x hx⟩
  obtain ⟨hA, hBs⟩ := k4 _ _ _ hT0 fun g hg => (hZc g).2 (.inl hg)
  have hA := hA _ hVs
  obtain ⟨e0, hext⟩ := hext
  obtain ⟨Vs', V, vs', e1, e2, e3, e7, e4, e5⟩ := hext ps' es k1
  subst e1
  have e6 := pvals_rel e2 hA
  have e8 := e4 nid
  rw [e0, List.append_nil, e8] at hmk
  obtain ⟨rfl, rfl⟩ : vs' = vs ∧ [] = es' := by simpa using hmk
  have has : as = [] := List.eq_nil_of_length_eq_zero (by rw [← k2]; rfl)
  subst has
  have hro : rootIds 0 agp = [] := by
    cases hri : rootIds 0 agp with
    | nil => rfl
    | cons b l =>
      have := rootIds_lt agp 0 b (by rw [hri]; simp)
      rw [← mkPs_ents _ k1] at this
      simp at this
  rw [hro, e0] at hru
  simp only [rootIds, rootUpd, Option.some.injEq] at hru
  subst hru
  have htk : takeL (len res) vs' = vs' := by
    rw [← e7]
    have : ∀ l : List PV, takeL l.length l = l := fun l => by
      induction l with
      | nil => rfl
      | cons x l ih => simp [takeL, ih]
    exact this vs'
  rw [htk]
  have hlook : Sim P A w0 F1 γ nid s1 o ⟨resSV vs', []⟩ a w := by
    refine Sim.look R (V := V) ?_ (e5 _ _ _ _)
    have hr := e3 w
    rw [← e6] at hr
    have hm : Array.map a.eval args = (args.toList.map a.eval).toArray := by apply Array.ext'; simp
    simp only [execOp, ho, resolve, hxv, Deferred.ofValue, Sem.run_bind, Sem.run_pure, Result.andThen_ok, invoke]
    simp only [Array.empty_append, Array.append_empty]
    rw [hm, hr]
  cases (anyRo [] || roPs (res ++ outsOf agp)) <;> exact hlook
theorem vkey_lt {env : FuncId → Option Spec} {f : FuncId} {l : List SV} (h : f < 1000000) : vkey env f l < 2000000 := by
  unfold vkey
  have e : (f : Nat) < 1000000 := h
  have e2 : f + 1000000 < 2000000 := Nat.add_lt_add_right e 1000000
  split
  · exact e2
  · split
    · exact e2
    · exact Nat.lt_trans e (by decide)
  · split
    · exact e2
    · exact Nat.lt_trans e (by decide)
  · split
    · split
      · exact e2
      · exact Nat.lt_trans e (by decide)
    · exact Nat.lt_trans e (by decide)
  · exact Nat.lt_trans e (by decide)
/-- A call. -/
theorem ok_call {env : FuncId → Option Spec} (hE : EnvOk P env) (R0 : Rel A w0 F γ s a w) {nid : Nat} (hf : ∀ q, nid ≤ q → q < nid + 64 → ¬ F q) {o : Oper} {out : Out} {f : FuncId} {x : Operand} {args : Array Operand} {ats : Array TypeId}
    (ho : o.op = .call { callee := .value x, args := args, argTypes := ats }) (hx : s.ev x = .pv (.one (.val (.func (.func f) ⟨[]⟩ ⟨[]⟩)))) (h : (exCallF env f (args.toList.map s.ev) s.mem nid).den = some out) : Sim P A w0 F γ nid s o out a w := by
  have hxv : a.eval x = .func (.func f) #[] #[] := by have := R0.ev x; rw [hx] at this; exact this
  unfold exCallF at h
  split at h
  case isFalse => exact (den_fail h).elim
  rename_i hf6
  have hkey : vkey env f (args.toList.map s.ev) % 1000000 = f := by
    have e1 : (f + 1000000) % 1000000 = f := by rw [Nat.add_mod_right, Nat.mod_eq_of_lt hf6]
    unfold vkey
    split
    · exact e1
    · split
      · exact e1
      · exact Nat.mod_eq_of_lt hf6
    · split
      · exact e1
      · exact Nat.mod_eq_of_lt hf6
    · split
      · split
        · exact e1
        · exact Nat.mod_eq_of_lt hf6
      · exact Nat.mod_eq_of_lt hf6
    · exact Nat.mod_eq_of_lt hf6
  unfold exCall at h
  split at h
  case h_1 => exact (den_fail h).elim
  rename_i sp henv
  split at h
  case h_1 => exact (den_fail h).elim
  rename_i ps hps
  split at h
  case h_1 => exact (den_fail h).elim
  rename_i us as hrd
  split at h
  case h_1 => exact (den_fail h).elim
  rename_i hokk
  obtain ⟨hok, hrok⟩ : okAsg as = true ∧ rootsOk sp.args ps = true := by simpa using hokk
  simp only [T.den] at h
  cases hG : sp.G us with
  | none => rw [hG] at h; cases h
  | some r =>
  rw [hG] at h
  simp only [Option.bind_some] at h
  split at h
  case h_2 => exact (den_fail h).elim
  rename_i vs es' hmk
  split at h
  case isFalse => exact (den_fail h).elim
  rename_i hes
  rw [len_eq] at hes
  split at h
  case h_2 => exact (den_fail h).elim
  rename_i ru hru
  simp only [T.den, Option.some.injEq] at h
  subst h
  have hE2 := (hE (vkey env f (args.toList.map s.ev)) sp henv).1 (vkey_lt hf6)
  rw [hkey] at hE2
  exact call_core R0 hf ho hxv hps hrd hok hrok hmk hes hru (hE2.imp (fun h => ⟨h.1, h.2 us r hG⟩) fun h => ⟨h.1, h.2 us r hG⟩)
/-- A call that panics. -/
theorem call_pan (R0 : Rel A w0 F γ s a w) {o : Oper} {f : FuncId} {x : Operand} {args : Array Operand} {ats : Array TypeId} {agp : List PP} {us : List U} {as : List (Asg × Bool)} {ps : List PV} {t : TypeId} {n : Int}
    (ho : o.op = .call { callee := .value x, args := args, argTypes := ats }) (hxv : a.eval x = .func (.func f) #[] #[]) (hps : pvs (args.toList.map s.ev) = some ps) (hrd : rdPs (updM s.mem (frz s.mem (frPs s.mem agp ps))) agp ps = some (us, as)) (hok : okAsg as = true) (hrok : rootsOk agp ps = true)
    (hE : Callable P f ∧ PanAt P f agp us t n) {K : Act → World → Prop} {Q : Exit → Act → World → Prop}
    (hQ : ∀ w' F', (∀ b, F' b ↔ F b) → Rel A w0 F' γ { s with mem := updM s.mem (frz s.mem (frPs s.mem agp ps) ++ gone as) } a w' → Q (.panic [{ v := .iface t (.int .i64 n), recovered := false }]) a w') : o.wp P a w K Q := by
  -- what is to be told by its data is frozen
  obtain ⟨F1, f1, ms0, R⟩ := R0.frz (frPs s.mem agp ps)
  obtain ⟨u0, hu0⟩ : ∃ u0, u0 = frz s.mem (frPs s.mem agp ps) := ⟨_, rfl⟩
  rw [← hu0] at hrd R ms0
  obtain ⟨μ, hμ⟩ : ∃ μ, μ = updM s.mem u0 := ⟨_, rfl⟩
  rw [← hμ] at hrd R ms0
  obtain ⟨s1, hs1⟩ : ∃ s1 : St, s1 = { s with mem := μ } := ⟨_, rfl⟩
  rw [← hs1] at R
  have hev : s1.ev = s.ev := by subst hs1; rfl
  have hmem1 : s1.mem = μ := by subst hs1; rfl
  rw [← hmem1] at hrd ms0
  have hVs := pvs_rel hps (hev ▸ evs_rel R args.toList)
  obtain ⟨ps', es, k1, k2, k3, k4⟩ := (rdPs_again R.toMem hrd).make 0 []
  have k1 : mkPs 0 agp us = some (ps', es, []) := by simpa using k1
  obtain ⟨γ0, hγ0⟩ : ∃ γ0 : GM, ∀ i, γ0 i = match as[i]? with | some x => shiftA γ x.1 | none => none := ⟨_, fun _ => rfl⟩
  have hg0 : ∀ i x, as[i]? = some x → γ0 i = shiftA γ x.1 := fun i x hx => by rw [hγ0, hx]
  have hasg : ∀ i e, es[i]? = some e → ∃ x, as[i]? = some x ∧ AsgOk s1.mem x e := fun i e he => by
    have hi := (List.getElem?_eq_some_iff.1 he).1
    obtain ⟨x, hx⟩ : ∃ x, as[i]? = some x := ⟨_, List.getElem?_eq_getElem (by omega)⟩
    exact ⟨x, hx, k3 i e x he hx⟩
  -- where what is handed in lies
  have hsrc : ∀ b g base e, es[b]? = some e → γ0 b = some (g, base) → ∃ c e0 base0 off n, as[b]? = some (some (c, off, n), e.own) ∧ s1.mem c = some e0 ∧ γ c = some (g, base0) ∧ (e.own = true → e0.own = true) ∧ ∀ kk vk xs, e.blk = .map kk vk xs → e0.blk = .map kk vk xs := fun b g base e he hg => by
    obtain ⟨⟨x1, x2⟩, hx, hk⟩ := hasg b e he
    rw [hg0 b _ hx] at hg
    obtain ⟨h1, h3⟩ := hk
    simp only at h1 h3 hg
    cases x1 with
    | none => cases hg
    | some y =>
      obtain ⟨c, off, n⟩ := y
      obtain ⟨e0, j1, j2, j3⟩ := h3
      simp only [shiftA, Option.map_eq_some_iff] at hg
      obtain ⟨⟨g', base'⟩, j4, j5⟩ := hg
      simp only [Prod.mk.injEq] at j5
      obtain ⟨rfl, _⟩ := j5
      exact ⟨c, e0, base', off, n, by rw [hx, h1], j1, j4, fun ho => j2 (h1 ▸ ho), j3⟩
  obtain ⟨Zc, hZc⟩ : ∃ Zc : Nat → Prop, ∀ g, Zc g ↔ (F1.z g ∨ ∃ b e base, es[b]? = some e ∧ e.own = false ∧ γ0 b = some (g, base)) := ⟨_, fun _ => Iff.rfl⟩
  have hT0 : Told γ 0 as es ⟨fun b => b < es.length, Zc⟩ γ0 (memOf es) :=
    ⟨fun i e he => by rw [Nat.zero_add]; exact (List.getElem?_eq_some_iff.1 he).1, fun i e he => by rw [Nat.zero_add, memOf_eq]; exact he, fun i x hx => by rw [Nat.zero_add]; exact hg0 i x hx⟩
  obtain ⟨hA, hBs⟩ := k4 _ _ _ hT0 fun g hg => (hZc g).2 (.inl hg)
  have hA := hA _ hVs
  obtain ⟨⟨fn, c1, c2, c3⟩, hFn⟩ := hE
  have hdist : ∀ b e g base b' e' g' base', es[b]? = some e → e.own = true → γ0 b = some (g, base) → b' ≠ b → es[b']? = some e' → γ0 b' = some (g', base') → g' ≠ g := fun b e g base b' e' g' base' he hown hg hne he' hg' => by
    obtain ⟨c, e0, base0, off, n, z1, z2, z3, z4, _⟩ := hsrc b g base e he hg
    obtain ⟨c', e0', base0', off', n', y1, y2, y3, y4, _⟩ := hsrc b' g' base' e' he' hg'
    rw [hown] at z1
    have hcc := okAsg_spec hok b b' c off n _ c' off' n' (Ne.symm hne) z1 y1 rfl
    exact (R.own c e0 g base0 z2 (z4 hown) z3).2 c' e0' g' base0' (Ne.symm hcc) y2 y3
  have hMem : Mem ⟨Zc, ownedOf γ0 es, []⟩ w ⟨fun b => b < es.length, Zc⟩ γ0 (memOf es) (rootIds 0 agp) w := by
    have mo : ∀ b e, memOf es b = some e → es[b]? = some e := fun b e h => by rw [memOf_eq] at h; exact h
    refine ⟨Bel.refl _ _, fun b e he => ⟨(List.getElem?_eq_some_iff.1 (mo b e he)).1, ?_⟩, fun b e g base he hown hg => ⟨.inr ⟨b, e, base, mo b e he, hown, hg⟩, fun b' e' g' base' hne he' hg' => hdist b e g base b' e' g' base' (mo b e he) hown hg hne (mo b' e' he') hg'⟩,
      fun b e g base he hown hg => ?_, fun b e g base he hown hg => (hZc g).2 (.inr ⟨b, e, base, mo b e he, hown, hg⟩), fun b e g base he hg => ?_, fun b o kk vk xs g base he hg => ?_, fun g hg => ⟨?_, .inl hg, fun b e base he hown hgb => ?_⟩, fun b hb => ?_⟩
    · have := hBs b e (mo b e he)
      rwa [Nat.zero_add] at this
    · obtain ⟨c, e0, base0, off, n, z1, z2, z3, z4, _⟩ := hsrc b g base e (mo b e he) hg
      exact R.nofr c e0 g base0 z2 (z4 hown) z3
    · obtain ⟨c, e0, base0, off, n, z1, z2, z3, z4, _⟩ := hsrc b g base e (mo b e he) hg
      exact R.bnd c e0 g base0 z2 z3
    · obtain ⟨c, ⟨o0, blk0⟩, base0, off, n, z1, z2, z3, z4, z5⟩ := hsrc b g base _ (mo b _ he) hg
      have := z5 kk vk xs rfl
      simp only at this
      subst this
      exact R.maps c o0 kk vk xs g base0 z2 z3
    · rcases (hZc g).1 hg with h | ⟨b, e, base, h1, h2, h3⟩
      · exact (R.zok g h).1
      · obtain ⟨c, e0, base0, off, n, z1, z2, z3, z4, _⟩ := hsrc b g base e h1 h3
        exact R.bnd c e0 g base0 z2 z3
    · rcases (hZc g).1 hg with h | ⟨b', e', base', h1, h2, h3⟩
      · obtain ⟨c, e0, base0, off, n, z1, z2, z3, z4, _⟩ := hsrc b g base e (mo b e he) hgb
        exact (R.zok g h).2.2 c e0 base0 z2 (z4 hown) z3
      · refine hdist b e g base b' e' g base' (mo b e he) hown hgb (fun e' => ?_) h1 h3 rfl
        subst e'
        rw [mo b' e he] at h1
        obtain rfl := Option.some.inj h1
        rw [hown] at h2; cases h2
    · have := (rootIds_lt agp 0 b hb).2
      rw [← mkPs_ents _ k1] at this
      show b < es.length
      omega
  have hcalls := hFn Zc γ0 w (args.toList.map a.eval) ps' es k1 hA hMem
  unfold Oper.wp
  have hexec : (execOp a.eval o).run P w = .ok (.enter f (args.toList.map a.eval).toArray) w := by
    simp only [execOp, ho, resolve, hxv, Deferred.ofValue, Sem.run_bind, Sem.run_pure, Result.andThen_ok, invoke, callFunc, run_program, c1, c2, c3, Bool.false_eq_true, if_false]
    simp [callFunc, c1, c2, c3]
    apply Array.ext'
    simp
  rw [hexec, Oper.upon_enter]
  refine hcalls.mono ?_
  rintro en w' ⟨rfl, hbel⟩
  have howned : ∀ g, ownedOf γ0 es g → ∃ c e0 base0 off n, (some (c, off, n), true) ∈ as ∧ s1.mem c = some e0 ∧ e0.own = true ∧ γ c = some (g, base0) := fun g ⟨b, e, base, h1, h2, h3⟩ => by
    obtain ⟨c, e0, base0, off, n, z1, z2, z3, z4, _⟩ := hsrc b g base e h1 h3
    rw [h2] at z1
    exact ⟨c, e0, base0, off, n, List.mem_of_getElem? z1, z2, z4 h2, z3⟩
  have hkeep : ∀ b e0 g base, s1.mem b = some e0 → (∀ off n, (some (b, off, n), true) ∉ as) → γ b = some (g, base) → ¬ ownedOf γ0 es g ∧ w'.heap[g]? = w.heap[g]? := fun b e0 g base h1 h2 h3 => by
    have hno : ¬ ownedOf γ0 es g := fun ho => by
      obtain ⟨c, ec, base0, off, n, z1, z2, z3, z4⟩ := howned g ho
      have hne : b ≠ c := fun e => by subst e; exact h2 off n z1
      exact (R.own c ec g base0 z2 z3 z4).2 b e0 g base hne h1 h3 rfl
    exact ⟨hno, hbel.block g (R.bnd b e0 g base h1 h3) hno⟩
  have hzkeep : ∀ g, F1.z g → ¬ ownedOf γ0 es g ∧ w'.heap[g]? = w.heap[g]? := fun g hz => by
    have hno : ¬ ownedOf γ0 es g := fun ho => by
      obtain ⟨c, ec, base0, off, n, z1, z2, z3, z4⟩ := howned g ho
      exact (R.zok g hz).2.2 c ec base0 z2 z3 z4
    exact ⟨hno, hbel.block g (R.zok g hz).1 hno⟩
  obtain ⟨m', hm'⟩ : ∃ m', m' = updM s1.mem (gone as) := ⟨_, rfl⟩
  have hmem : ∀ b e, m' b = some e → s1.mem b = some e ∧ ∀ off n, (some (b, off, n), true) ∉ as := fun b e hb => gone_get as _ b e (hm' ▸ hb)
  have ms : MStep F1 γ s1.mem w F1 γ m' w' :=
    ⟨fun b h => h, fun b _ => rfl, fun b e hb he => ⟨e, (hmem b e he).1, rfl, rfl, rfl, fun _ _ h => h⟩, hbel.wst, fun g h => h, fun g h => (hzkeep g h).2⟩
  have hnewM : Mem A w0 F1 γ m' s1.rt w' := by
    have hsz := hbel.size
    refine ⟨R.below.call hbel R.below.size fun g hg => ?_, fun b e he => ?_, fun b e g base he hown hg => ?_, fun b e g base he hown hg => ?_, fun b e g base he hown hg => ?_, fun b e g base he hg => ?_, fun b o kk vk xs g base he hg => ?_, fun g hg => ?_, R.rts⟩
    · obtain ⟨c, ec, base0, off, n, z1, z2, z3, z4⟩ := howned g hg
      exact (R.own c ec g base0 z2 z3 z4).1
    · obtain ⟨h1, h2⟩ := hmem b e he
      exact ⟨(R.memr b e h1).1, (R.memr b e h1).2.step ms rfl fun g base hg => (hkeep b e g base h1 h2 hg).2⟩
    · obtain ⟨h1, h2⟩ := hmem b e he
      obtain ⟨z1, z2⟩ := R.own b e g base h1 hown hg
      exact ⟨z1, fun b' e' g' base' hne he' hg' => z2 b' e' g' base' hne (hmem b' e' he').1 hg'⟩
    · obtain ⟨h1, h2⟩ := hmem b e he
      exact (R.nofr b e g base h1 hown hg).of (hkeep b e g base h1 h2 hg).2
    · exact R.shr b e g base (hmem b e he).1 hown hg
    · have := R.bnd b e g base (hmem b e he).1 hg; omega
    · obtain ⟨h1, h2⟩ := hmem b _ he
      obtain ⟨ents, clock, y1, y2⟩ := R.maps b o kk vk xs g base h1 hg
      exact ⟨ents, clock, (hkeep b _ g base h1 h2 hg).2.trans y1, y2⟩
    · obtain ⟨z1, z2, z3⟩ := R.zok g hg
      exact ⟨by omega, z2, fun b e base he hown => z3 b e base (hmem b e he).1 hown⟩
  refine hQ w' F1 (fun b => by rw [f1]) ?_
  rw [updM_append, ← hu0, ← hμ, ← hmem1, ← hm']
  subst hs1
  exact { hnewM with defers := R.defers, size := R.size, slots := fun t => (R.slots t).step ms }
end
end Go.Proofs.Ytmmaechogibodaa.Vm

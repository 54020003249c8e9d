/- Loops and functions whose code has a choice. Conditions: the program follows the model's mixed orders. -/
import Derived.Test.YtmmaechogibodaaVmCk
set_option linter.unusedVariables false
set_option linter.unusedSimpArgs false
namespace Go.Proofs.Ytmmaechogibodaa.Vm
open Go Go.RowKit
def r1K {β : Type} (pre : Pat) (ex : Ex) (post : Pat) (dec : List U → Option β) (L : List U → Option β) : Ex × St → T β
  | (.normal, s') => match rdSt pre s' with | some us' => .opn (L us') | none => .fail
  | (e, s') => match exEq e ex with
    | true => match rdSt post s' with | some us' => T.opt (dec (exIn e us')) .ret | none => .fail
    | false => .fail
noncomputable def round1K (P : Program) (env : FuncId → Option Spec) (lenv : Nat → Option LS) (c : Code) (pre : Pat) {β : Type} (ex : Ex) (post : Pat) (dec : List U → Option β) (L : List U → Option β) (us : List U) : T β :=
  match mkSt pre us with
  | some s => runCK P env lenv c s (r1K pre ex post dec L)
  | none => .fail
def r2K {β γ : Type} (pre : Pat) (ex : Ex) (post : Pat) (ex' : Ex) (post' : Pat) (dec : List U → Option β) (dec' : List U → Option γ) (L : List U → Option (β ⊕ γ)) : Ex × St → T (β ⊕ γ)
  | (.normal, s') => match rdSt pre s' with | some us' => .opn (L us') | none => .fail
  | (e, s') => match exEq e ex with
    | true => match rdSt post s' with | some us' => T.opt (dec (exIn e us')) fun r => .ret (.inl r) | none => .fail
    | false => match exEq e ex' with
      | true => match rdSt post' s' with | some us' => T.opt (dec' (exIn e us')) fun r => .ret (.inr r) | none => .fail
      | false => .fail
noncomputable def round2K (P : Program) (env : FuncId → Option Spec) (lenv : Nat → Option LS) (c : Code) (pre : Pat) {β γ : Type} (ex : Ex) (post : Pat) (ex' : Ex) (post' : Pat) (dec : List U → Option β) (dec' : List U → Option γ) (L : List U → Option (β ⊕ γ)) (us : List U) : T (β ⊕ γ) :=
  match mkSt pre us with
  | some s => runCK P env lenv c s (r2K pre ex post ex' post' dec dec' L)
  | none => .fail
def finK (P : Program) (fn : Func) (es : List Ent) (args res : List PP) {β : Type} (dec : List U → Option β) : Ex × St → T β
  | (.exit _, _) => .fail
  | (.pan _ _, _) => .fail
  | (_, s) => (resPVs P s fn.results.toList).bind fun vs => endFs es args res dec s vs
noncomputable def runFK (P : Program) (env : FuncId → Option Spec) (lenv : Nat → Option LS) (fn : Func) (args res : List PP) {β : Type} (dec : List U → Option β) (us : List U) : T β :=
  match mkPs 0 args us, fn.body with
  | some (ps, es, []), some c => runCK P env lenv c ⟨ps.map .pv ++ List.replicate (fn.ntmps - len ps) undefS, memOf es, len es, rootIds 0 args⟩ (finK P fn es args res dec)
  | _, _ => .fail
section
variable {P : Program} {env : FuncId → Option Spec} {lenv : Nat → Option LS}
theorem loop_oneK (hmix : P.follows .mixedOrders = true) (hE : EnvOk P env) {body : Code} (hlp : LpOk P lenv body) {pre : Pat} {β : Type} {ex : Ex} {post : Pat} {L : Nat → List U → Option β} {enc : β → List U} {dec : List U → Option β}
    (hdec : ∀ u r, dec u = some r → enc r = u) (h0 : ∀ us, L 0 us = none) (hS : ∀ k us r, L (k + 1) us = some r → (round1K P env lenv body pre ex post dec (L k) us).den = some r) (k : Nat) : LoopOk P body (.one pre β ex post (L k) enc) := by
  intro us r hL s s' ex0 vs hs hexo hs' A w0 a w F γ R hF
  refine wp_loop_rounds k ?_
  obtain ⟨r0, hr0⟩ : ∃ r0, r0 = s.rt.map γ := ⟨_, rfl⟩
  rw [← hr0]
  induction k generalizing us s a w F γ with
  | zero => rw [h0] at hL; cases hL
  | succ k ih =>
    have h := hS k us r hL
    unfold round1K at h
    rw [hs] at h
    simp only at h
    rw [rounds_succ]
    refine wp_mono (runCK_ok hmix hE body hlp s _ h A w0 a w F γ R hF) ?_
    rintro ex' a' w' ⟨e, s1, rfl, h, F', γ', R', hF', hrt⟩
    have other : e ≠ .normal → (match exEq e ex with | true => (match rdSt post s1 with | some us' => T.opt (dec (exIn e us')) .ret | none => .fail) | false => (.fail : T β)).den = some r → Exit.then (Code.rounds P body (fun ex_1 a' w' => ex_1 = ex0.to ∧ ∃ F' γ', Rel A w0 F' γ' s' a' w' ∧ (∀ b, F' b → b < s'.nx) ∧ s'.rt.map γ' = r0) k) (fun ex_1 a' w' => ex_1 = ex0.to ∧ ∃ F' γ', Rel A w0 F' γ' s' a' w' ∧ (∀ b, F' b → b < s'.nx) ∧ s'.rt.map γ' = r0) e.to a' w' := by
      intro he hh
      split at hh
      · rename_i heq
        split at hh
        · rename_i us' hus'
          obtain ⟨r', hr', h2⟩ := den_opt hh
          simp only [T.den, Option.some.injEq] at h2
          subst h2
          obtain ⟨s2, F2, γ2, hmk, R2, hF2, hrt2⟩ := rdSt_ok hus' R'
          rw [hdec _ _ hr', exEq_spec heq] at hexo
          obtain ⟨rfl, rfl⟩ : e = ex0 ∧ us' = vs := by simpa using hexo
          rw [hs'] at hmk
          obtain rfl := Option.some.inj hmk
          exact then_other he ⟨rfl, F2, γ2, R2, hF2, hrt2.trans (hrt.trans hr0.symm)⟩
        · exact (den_fail hh).elim
      · exact (den_fail hh).elim
    cases e with
    | normal =>
      simp only [r1K] at h
      split at h
      · rename_i us' hus'
        simp only [T.den] at h
        obtain ⟨s2, F2, γ2, hmk, R2, hF2, hrt2⟩ := rdSt_ok hus' R'
        exact ih us' h s2 hmk a' w' F2 γ2 R2 hF2 (hr0.trans (hrt2.trans hrt).symm)
      · exact (den_fail h).elim
    | exit i => exact other (by simp) h
    | ret => exact other (by simp) h
    | pan t n => exact other (by simp) h
theorem loop_twoK (hmix : P.follows .mixedOrders = true) (hE : EnvOk P env) {body : Code} (hlp : LpOk P lenv body) {pre : Pat} {β γ0 : Type} {ex ex' : Ex} {post post' : Pat} {L : Nat → List U → Option (β ⊕ γ0)} {enc : β → List U} {dec : List U → Option β} {enc' : γ0 → List U} {dec' : List U → Option γ0}
    (hdec : ∀ u r, dec u = some r → enc r = u) (hdec' : ∀ u r, dec' u = some r → enc' r = u) (h0 : ∀ us, L 0 us = none) (hS : ∀ k us r, L (k + 1) us = some r → (round2K P env lenv body pre ex post ex' post' dec dec' (L k) us).den = some r) (k : Nat) :
    LoopOk P body (.two pre β γ0 ex post ex' post' (L k) enc enc') := by
  have key : ∀ (A : Ctx) (w0 : World) (r : β ⊕ γ0) (sx : St) (exx : Ex), (∃ vs, match r with | .inl r => exOut ex (enc r) = some (exx, vs) ∧ mkSt post vs = some sx | .inr r => exOut ex' (enc' r) = some (exx, vs) ∧ mkSt post' vs = some sx) →
      ∀ (us : List U), L k us = some r → ∀ (s : St), mkSt pre us = some s → Comes P A w0 (.loop body) s exx sx := by
    intro A w0 r sx exx ⟨vs, hsx⟩ us hL s hs a w F γ R hF
    refine wp_loop_rounds k ?_
    obtain ⟨r0, hr0⟩ : ∃ r0, r0 = s.rt.map γ := ⟨_, rfl⟩
    rw [← hr0]
    induction k generalizing us s a w F γ with
    | zero => rw [h0] at hL; cases hL
    | succ k ih =>
      have h := hS k us r hL
      unfold round2K at h
      rw [hs] at h
      simp only at h
      rw [rounds_succ]
      refine wp_mono (runCK_ok hmix hE body hlp s _ h A w0 a w F γ R hF) ?_
      rintro ex0 a' w' ⟨e, s1, rfl, h, F', γ', R', hF', hrt⟩
      have other : e ≠ .normal → (match exEq e ex with
          | true => (match rdSt post s1 with | some us' => T.opt (dec (exIn e us')) fun r => .ret (Sum.inl r) | none => .fail)
          | false => (match exEq e ex' with
            | true => (match rdSt post' s1 with | some us' => T.opt (dec' (exIn e us')) fun r => .ret (Sum.inr r) | none => .fail)
            | false => (.fail : T (β ⊕ γ0)))).den = some r →
          Exit.then (Code.rounds P body (fun ex_1 a' w' => ex_1 = exx.to ∧ ∃ F' γ', Rel A w0 F' γ' sx a' w' ∧ (∀ b, F' b → b < sx.nx) ∧ sx.rt.map γ' = r0) k) (fun ex_1 a' w' => ex_1 = exx.to ∧ ∃ F' γ', Rel A w0 F' γ' sx a' w' ∧ (∀ b, F' b → b < sx.nx) ∧ sx.rt.map γ' = r0) e.to a' w' := by
        intro he hh
        split at hh
        · rename_i heq
          split at hh
          · rename_i us' hus'
            obtain ⟨r', hr', h2⟩ := den_opt hh
            simp only [T.den, Option.some.injEq] at h2
            subst h2
            obtain ⟨s2, F2, γ2, hmk, R2, hF2, hrt2⟩ := rdSt_ok hus' R'
            obtain ⟨q0, q1⟩ := hsx
            rw [hdec _ _ hr', exEq_spec heq] at q0
            obtain ⟨rfl, rfl⟩ : e = exx ∧ us' = vs := by simpa using q0
            rw [q1] at hmk
            obtain rfl := Option.some.inj hmk
            exact then_other he ⟨rfl, F2, γ2, R2, hF2, hrt2.trans (hrt.trans hr0.symm)⟩
          · exact (den_fail hh).elim
        · split at hh
          · rename_i heq
            split at hh
            · rename_i us' hus'
              obtain ⟨r', hr', h2⟩ := den_opt hh
              simp only [T.den, Option.some.injEq] at h2
              subst h2
              obtain ⟨s2, F2, γ2, hmk, R2, hF2, hrt2⟩ := rdSt_ok hus' R'
              obtain ⟨q0, q1⟩ := hsx
              rw [hdec' _ _ hr', exEq_spec heq] at q0
              obtain ⟨rfl, rfl⟩ : e = exx ∧ us' = vs := by simpa using q0
              rw [q1] at hmk
              obtain rfl := Option.some.inj hmk
              exact then_other he ⟨rfl, F2, γ2, R2, hF2, hrt2.trans (hrt.trans hr0.symm)⟩
            · exact (den_fail hh).elim
          · exact (den_fail hh).elim
      cases e with
      | normal =>
        simp only [r2K] at h
        split at h
        · rename_i us' hus'
          simp only [T.den] at h
          obtain ⟨s2, F2, γ2, hmk, R2, hF2, hrt2⟩ := rdSt_ok hus' R'
          exact ih us' h s2 hmk a' w' F2 γ2 R2 hF2 (hr0.trans (hrt2.trans hrt).symm)
        · exact (den_fail h).elim
      | exit i => exact other (by simp) h
      | ret => exact other (by simp) h
      | pan t n => exact other (by simp) h
  intro us r hL s hs
  cases r with
  | inl r => exact fun s' e vs hexo hs' A w0 => key A w0 (.inl r) s' e ⟨vs, hexo, hs'⟩ us hL s hs
  | inr r => exact fun s' e vs hexo hs' A w0 => key A w0 (.inr r) s' e ⟨vs, hexo, hs'⟩ us hL s hs
theorem fn_okK (hmix : P.follows .mixedOrders = true) (hE : EnvOk P env) {f : FuncId} {fn : Func} {sp : Spec} (hf : P.funcs[f]? = some fn) (hlp : ∀ c, fn.body = some c → LpOk P lenv c) {dec : List U → Option sp.β}
    (hdec : ∀ u r, dec u = some r → sp.enc r = u) (hS : ∀ us r, sp.G us = some r → (runFK P env lenv fn sp.args sp.res dec us).den = some r) : FnOk P f sp := by
  intro us r hG Z γ w Vs ps es hmk hA hM
  have h := hS us r hG
  unfold runFK at h
  rw [hmk] at h
  cases hbody : fn.body with
  | none => rw [hbody] at h; cases h
  | some c =>
  rw [hbody] at h
  simp only at h
  refine calls_of_wp hf hbody ?_
  refine wp_mono (runCK_ok hmix hE c (hlp c hbody) _ _ h _ w _ w _ γ (entry_rel hA hM) (fun b hb => by show b < len es; rw [len_eq]; exact hb)) ?_
  rintro ex a' w' ⟨e, s1, rfl, h, F', γ', R', hF', hrt⟩
  cases e with
  | normal => exact ⟨R'.defers, answers (fun u hu => hdec u r hu) hmk hA h R' hrt⟩
  | ret => exact ⟨R'.defers, answers (fun u hu => hdec u r hu) hmk hA h R' hrt⟩
  | exit i => exact (den_fail h).elim
  | pan t n => exact (den_fail h).elim
theorem fn_okK' (hmix : P.follows .mixedOrders = true) (hE : EnvOk P env) {f : FuncId} {fn : Func} {args res : List PP} {β : Type} {G : List U → Option β} {enc : β → List U} {dec : List U → Option β} (hf : P.funcs[f]? = some fn) (hlp : ∀ c, fn.body = some c → LpOk P lenv c)
    (hdec : ∀ u r, dec u = some r → enc r = u) (hS : ∀ us r, G us = some r → (runFK P env lenv fn args res dec us).den = some r) : FnOk P f ⟨args, res, β, G, enc⟩ :=
  fn_okK (sp := ⟨args, res, β, G, enc⟩) hmix hE hf hlp (dec := dec) hdec hS
end
end Go.Proofs.Ytmmaechogibodaa.Vm

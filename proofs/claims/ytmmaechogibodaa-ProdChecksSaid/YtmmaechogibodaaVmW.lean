/- Loops and functions: the abstract interpreter tells what they do. Conditions: the program follows the model's mixed orders. -/
import Derived.Test.YtmmaechogibodaaVmV
set_option linter.unusedVariables false
set_option linter.unusedSimpArgs false
namespace Go.Proofs.Ytmmaechogibodaa.Vm
open Go Go.RowKit

section
variable {P : Program} {env : FuncId → Option Spec} {lenv : Nat → Option LS}
theorem exEq_spec {e f : Ex} (h : exEq e f = true) (us : List U) : exOut f (exIn e us) = some (e, us) := by
  cases e <;> cases f <;> simp [exEq] at h <;> first | rfl | (subst h; rfl)
theorem den_opt {α β : Type} {o : Option α} {k : α → T β} {b : β} (h : (T.opt o k).den = some b) : ∃ x, o = some x ∧ (k x).den = some b := by
  cases o with
  | none => cases h
  | some x => exact ⟨x, rfl, h⟩
theorem then_other {e : Ex} (he : e ≠ .normal) {K : Act → World → Prop} {Q : Exit → Act → World → Prop} {a : Act} {w : World} (h : Q e.to a w) : Exit.then K Q e.to a w := by
  cases e with
  | normal => exact absurd rfl he
  | exit i => exact h
  | ret => exact h
  | pan t n => exact h
theorem loop_one (hmix : P.follows .mixedOrders = true) (hE : EnvOk P env) {body : Code} (hlp : LpOk P lenv body) {pre : Pat} {β : Type} {ex : Ex} {post : Pat} {L : Nat → List U → Option β} {enc : β → List U} {dec : List U → Option β}
    (hdec : ∀ u r, dec u = some r → enc r = u) (h0 : ∀ us, L 0 us = none) (hS : ∀ k us r, L (k + 1) us = some r → (round1 P env lenv body pre ex post dec (L k) us).den = some r) (k : Nat) : LoopOk P body (.one pre β ex post (L k) enc) := by
  intro us r hL s s' ex0 vs hs hexo hs' A w0 a w F γ R hF
  refine wp_loop_rounds k ?_
  obtain ⟨r0, hr0⟩ : ∃ r0, r0 = s.rt.map γ := ⟨_, rfl⟩
  rw [← hr0]
  induction k generalizing us s a w F γ with
  | zero => rw [h0] at hL; cases hL
  | succ k ih =>
    have h := hS k us r hL
    unfold round1 at h
    rw [hs] at h
    simp only at h
    rw [T.den_bind] at h
    cases hx : (runC P env lenv body s).den with
    | none => rw [hx] at h; cases h
    | some z =>
      obtain ⟨e, s1⟩ := z
      rw [hx] at h
      simp only [Option.bind_some] at h
      rw [rounds_succ]
      refine wp_mono (runC_ok hmix hE body hlp s e s1 hx A w0 a w F γ R hF) ?_
      rintro ex' a' w' ⟨rfl, F', γ', R', hF', hrt⟩
      have other : e ≠ .normal → (match exEq e ex with | true => (match rdSt post s1 with | some us' => T.opt (dec (exIn e us')) .ret | none => .fail) | false => (.fail : T β)).den = some r → Exit.then (Code.rounds P body (fun ex_1 a' w' => ex_1 = ex0.to ∧ ∃ F' γ', Rel A w0 F' γ' s' a' w' ∧ (∀ b, F' b → b < s'.nx) ∧ s'.rt.map γ' = r0) k) (fun ex_1 a' w' => ex_1 = ex0.to ∧ ∃ F' γ', Rel A w0 F' γ' s' a' w' ∧ (∀ b, F' b → b < s'.nx) ∧ s'.rt.map γ' = r0) e.to a' w' := by
        intro he hh
        split at hh
        · rename_i heq
          split at hh
          · rename_i us' hus'
            obtain ⟨r', hr', h2⟩ := den_opt hh
            simp only [T.den, Option.some.injEq] at h2
            subst h2
            obtain ⟨s2, F2, γ2, hmk, R2, hF2, hrt2⟩ := rdSt_ok hus' R'
            rw [hdec _ _ hr', exEq_spec heq] at hexo
            obtain ⟨rfl, rfl⟩ : e = ex0 ∧ us' = vs := by simpa using hexo
            rw [hs'] at hmk
            obtain rfl := Option.some.inj hmk
            exact then_other he ⟨rfl, F2, γ2, R2, hF2, hrt2.trans (hrt.trans hr0.symm)⟩
          · exact (den_fail hh).elim
        · exact (den_fail hh).elim
      cases e with
      | normal =>
        simp only at h
        split at h
        · rename_i us' hus'
          simp only [T.den] at h
          obtain ⟨s2, F2, γ2, hmk, R2, hF2, hrt2⟩ := rdSt_ok hus' R'
          exact ih us' h s2 hmk a' w' F2 γ2 R2 hF2 (hr0.trans (hrt2.trans hrt).symm)
        · exact (den_fail h).elim
      | exit i => exact other (by simp) h
      | ret => exact other (by simp) h
      | pan t n => exact other (by simp) h
theorem loop_two (hmix : P.follows .mixedOrders = true) (hE : EnvOk P env) {body : Code} (hlp : LpOk P lenv body) {pre : Pat} {β γ0 : Type} {ex ex' : Ex} {post post' : Pat} {L : Nat → List U → Option (β ⊕ γ0)} {enc : β → List U} {dec : List U → Option β} {enc' : γ0 → List U} {dec' : List U → Option γ0}
    (hdec : ∀ u r, dec u = some r → enc r = u) (hdec' : ∀ u r, dec' u = some r → enc' r = u) (h0 : ∀ us, L 0 us = none) (hS : ∀ k us r, L (k + 1) us = some r → (round2 P env lenv body pre ex post ex' post' dec dec' (L k) us).den = some r) (k : Nat) :
    LoopOk P body (.two pre β γ0 ex post ex' post' (L k) enc enc') := by
  -- one way out is shown for both
  have key : ∀ (A : Ctx) (w0 : World) (r : β ⊕ γ0) (sx : St) (exx : Ex), (∃ vs, match r with | .inl r => exOut ex (enc r) = some (exx, vs) ∧ mkSt post vs = some sx | .inr r => exOut ex' (enc' r) = some (exx, vs) ∧ mkSt post' vs = some sx) →
      ∀ (us : List U), L k us = some r → ∀ (s : St), mkSt pre us = some s → Comes P A w0 (.loop body) s exx sx := by
    intro A w0 r sx exx ⟨vs, hsx⟩ us hL s hs a w F γ R hF
    refine wp_loop_rounds k ?_
    obtain ⟨r0, hr0⟩ : ∃ r0, r0 = s.rt.map γ := ⟨_, rfl⟩
    rw [← hr0]
    induction k generalizing us s a w F γ with
    | zero => rw [h0] at hL; cases hL
    | succ k ih =>
      have h := hS k us r hL
      unfold round2 at h
      rw [hs] at h
      simp only at h
      rw [T.den_bind] at h
      cases hx : (runC P env lenv body s).den with
      | none => rw [hx] at h; cases h
      | some z =>
        obtain ⟨e, s1⟩ := z
        rw [hx] at h
        simp only [Option.bind_some] at h
        rw [rounds_succ]
        refine wp_mono (runC_ok hmix hE body hlp s e s1 hx A w0 a w F γ R hF) ?_
        rintro ex0 a' w' ⟨rfl, F', γ', R', hF', hrt⟩
        have other : e ≠ .normal → (match exEq e ex with
            | true => (match rdSt post s1 with | some us' => T.opt (dec (exIn e us')) fun r => .ret (Sum.inl r) | none => .fail)
            | false => (match exEq e ex' with
              | true => (match rdSt post' s1 with | some us' => T.opt (dec' (exIn e us')) fun r => .ret (Sum.inr r) | none => .fail)
              | false => (.fail : T (β ⊕ γ0)))).den = some r →
            Exit.then (Code.rounds P body (fun ex_1 a' w' => ex_1 = exx.to ∧ ∃ F' γ', Rel A w0 F' γ' sx a' w' ∧ (∀ b, F' b → b < sx.nx) ∧ sx.rt.map γ' = r0) k) (fun ex_1 a' w' => ex_1 = exx.to ∧ ∃ F' γ', Rel A w0 F' γ' sx a' w' ∧ (∀ b, F' b → b < sx.nx) ∧ sx.rt.map γ' = r0) e.to a' w' := by
          intro he hh
          split at hh
          · rename_i heq
            split at hh
            · rename_i us' hus'
              obtain ⟨r', hr', h2⟩ := den_opt hh
              simp only [T.den, Option.some.injEq] at h2
              subst h2
              obtain ⟨s2, F2, γ2, hmk, R2, hF2, hrt2⟩ := rdSt_ok hus' R'
              obtain ⟨q0, q1⟩ := hsx
              rw [hdec _ _ hr', exEq_spec heq] at q0
              obtain ⟨rfl, rfl⟩ : e = exx ∧ us' = vs := by simpa using q0
              rw [q1] at hmk
              obtain rfl := Option.some.inj hmk
              exact then_other he ⟨rfl, F2, γ2, R2, hF2, hrt2.trans (hrt.trans hr0.symm)⟩
            · exact (den_fail hh).elim
          · split at hh
            · rename_i heq
              split at hh
              · rename_i us' hus'
                obtain ⟨r', hr', h2⟩ := den_opt hh
                simp only [T.den, Option.some.injEq] at h2
                subst h2
                obtain ⟨s2, F2, γ2, hmk, R2, hF2, hrt2⟩ := rdSt_ok hus' R'
                obtain ⟨q0, q1⟩ := hsx
                rw [hdec' _ _ hr', exEq_spec heq] at q0
                obtain ⟨rfl, rfl⟩ : e = exx ∧ us' = vs := by simpa using q0
                rw [q1] at hmk
                obtain rfl := Option.some.inj hmk
                exact then_other he ⟨rfl, F2, γ2, R2, hF2, hrt2.trans (hrt.trans hr0.symm)⟩
              · exact (den_fail hh).elim
            · exact (den_fail hh).elim
        cases e with
        | normal =>
          simp only at h
          split at h
          · rename_i us' hus'
            simp only [T.den] at h
            obtain ⟨s2, F2, γ2, hmk, R2, hF2, hrt2⟩ := rdSt_ok hus' R'
            exact ih us' h s2 hmk a' w' F2 γ2 R2 hF2 (hr0.trans (hrt2.trans hrt).symm)
          · exact (den_fail h).elim
        | exit i => exact other (by simp) h
        | ret => exact other (by simp) h
        | pan t n => exact other (by simp) h
  intro us r hL s hs
  cases r with
  | inl r => exact fun s' e vs hexo hs' A w0 => key A w0 (.inl r) s' e ⟨vs, hexo, hs'⟩ us hL s hs
  | inr r => exact fun s' e vs hexo hs' A w0 => key A w0 (.inr r) s' e ⟨vs, hexo, hs'⟩ us hL s hs
theorem row_load {A : Ctx} {w0 : World} {F : NS} {γ : GM} {s : St} {a : Act} {w : World} (R : Rel A w0 F γ s a w) {b i n j sz : Nat} {e : Ent} {k : IntKind} {xs : List Int} {t : TypeId} {V0 : Value} (he : s.mem b = some e) (hx : RelC F γ s.mem w (.ptr b i n j) V0) (hsz : sizeT P t = some sz)
    (hwr : wholeRow e.blk (aggT P t) i j = some (k, xs)) (hq : sz ≤ xs.length) : ∃ g base V, V0 = .pointer (some ⟨g, base, none⟩) ∧ (loadVar t ⟨g, base, none⟩).run P w = .ok V w ∧ RelP F γ s.mem w (.agg (rowCells k xs 0 sz)) V := by
  obtain ⟨hblk, hagg, rfl, rfl⟩ := wholeRow_spec hwr
  obtain ⟨h1, ⟨g, base, h2, h3⟩, h4⟩ := hx
  have hpk := h4 e he
  have hB := (R.memr b e he).2
  rw [hblk] at hB hpk
  obtain ⟨rfl, _⟩ := hpk
  have key : ∀ j, j < sz → w.cell? ⟨g, base + j, none⟩ = some (.int k (nth 0 xs j)) := fun j hj => by
    obtain ⟨g', base', cs, t', V, k1, k2, k3, k4⟩ := hB j 0 (.val (.int k (nth 0 xs j))) (by simp only [Blk.at]; rw [if_pos ⟨trivial, by omega⟩])
    rw [h2] at k1
    obtain ⟨rfl, rfl⟩ : g = g' ∧ base = base' := by simpa using k1
    obtain rfl : V = .int k (nth 0 xs j) := k4
    simp only [World.cell?, k2]
    simpa [Blk.n] using k3
  have hrun := run_loadCells_list (P := P) w ⟨g, base, none⟩ ((List.range sz).map fun j => .int k (nth 0 xs j)) (fun j v hj => by
    rw [addr_add]
    rw [List.getElem?_map] at hj
    by_cases hlt : j < sz
    · rw [List.getElem?_range hlt] at hj
      obtain rfl := Option.some.inj hj
      exact key j hlt
    · rw [List.getElem?_eq_none (by simpa using hlt)] at hj; cases hj)
  rw [List.length_map, List.length_range] at hrun
  refine ⟨g, base, .agg ((List.range sz).map fun j => Value.int k (nth 0 xs j)).toArray, h3, ?_, ⟨_, rfl, All2.of_get (by simp [rowCells_len]) fun j c V hc hV => ?_⟩⟩
  · simp only [loadVar, Sem.run_bind, Sem.run_pure, Result.andThen_ok, sAgg hagg, if_true, sSize hsz]
    rw [hrun]
    rfl
  · have hlt : j < sz := by have := (List.getElem?_eq_some_iff.1 hc).1; rwa [rowCells_len] at this
    rw [rowCells_get k xs sz 0 j hlt] at hc
    obtain rfl := Option.some.inj hc
    simp only [List.getElem?_map, List.getElem?_range hlt, Option.map_some, Option.some.injEq, Nat.zero_add] at hV
    subst hV
    simp [RelC]
theorem resPV_run {A : Ctx} {w0 : World} {F : NS} {γ : GM} {s : St} {a : Act} {w : World} (R : Rel A w0 F γ s a w) {rv : ResultVar} {p : PV} (h : (resPV P s rv).den = some p) :
    ∃ V, (match rv with | .tmp t => (pure (a.tmps.getD t undef) : Sem Value) | .cell c t => do loadVar t (← asAddr (a.tmps.getD c undef))).run P w = .ok V w ∧ RelP F γ s.mem w p V := by
  cases rv with
  | tmp t =>
    simp only [resPV] at h
    split at h
    · rename_i q hq
      obtain rfl := Option.some.inj h
      have := R.slots t
      rw [hq] at this
      exact ⟨_, rfl, this⟩
    · exact (den_fail h).elim
  | cell c t =>
    simp only [resPV] at h
    split at h
    · rename_i b i n j sz hp hsz
      have hx := R.slots c
      rw [hp] at hx
      split at h
      · rename_i e he
        split at h
        · rename_i k xs hwr
          obtain ⟨hq, h⟩ := den_req h
          obtain rfl := Option.some.inj h
          obtain ⟨g, base, V, h2, h6, h7⟩ := row_load R he hx hsz hwr (of_decide_eq_true hq)
          refine ⟨V, ?_, h7⟩
          simp only [h2, asAddr, Sem.run_bind, Sem.run_pure, Result.andThen_ok, h6]
        · split at h
          · rename_i l hl
            split at h
            · rename_i p' hsh
              obtain rfl := Option.some.inj h
              obtain ⟨g, base, Vs, h1, h2, h3, h4, h5⟩ := block_read R he hx hl
              obtain ⟨V, h6, h7⟩ := loadVar_run (W := w) hsz hsh h4 h3 h5
              refine ⟨V, ?_, h7⟩
              simp only [h2, asAddr, Sem.run_bind, Sem.run_pure, Result.andThen_ok, h6]
            · exact (den_fail h).elim
          · exact (den_fail h).elim
      · exact (den_fail h).elim
    · exact (den_fail h).elim
theorem resPVs_run {A : Ctx} {w0 : World} {F : NS} {γ : GM} {s : St} {a : Act} {w : World} (R : Rel A w0 F γ s a w) : ∀ (l : List ResultVar) (ps : List PV), (resPVs P s l).den = some ps →
    ∃ Vs, (l.mapM fun (rv : ResultVar) => (match rv with | .tmp t => (pure (a.tmps.getD t undef) : Sem Value) | .cell c t => do loadVar t (← asAddr (a.tmps.getD c undef)))).run P w = .ok Vs w ∧ All2 (RelP F γ s.mem w) ps Vs
  | [], ps, h => by
    simp only [resPVs, T.den, Option.some.injEq] at h; subst h
    exact ⟨[], by simp, trivial⟩
  | rv :: l, ps, h => by
    simp only [resPVs] at h
    rw [T.den_bind] at h
    cases hp : (resPV P s rv).den with
    | none => rw [hp] at h; cases h
    | some p =>
    rw [hp] at h
    simp only [Option.bind_some] at h
    rw [T.den_bind] at h
    cases hps : (resPVs P s l).den with
    | none => rw [hps] at h; cases h
    | some ps' =>
    rw [hps] at h
    simp only [Option.bind_some] at h
    obtain rfl := Option.some.inj h
    obtain ⟨V, h1, h2⟩ := resPV_run R hp
    obtain ⟨Vs, h3, h4⟩ := resPVs_run R l ps' hps
    refine ⟨V :: Vs, ?_, h2, h4⟩
    rw [List.mapM_cons]
    simp only [Sem.run_bind, h1, Result.andThen_ok, h3, Sem.run_pure]
theorem resSV_rel {F : NS} {γ : GM} {m : MM} {w : World} {ps : List PV} {Vs : List Value} (h : All2 (RelP F γ m w) ps Vs) : RelV F γ m w (resSV ps) (if h : Vs.toArray.size = 1 then Vs.toArray[0] else .tuple Vs.toArray) := by
  match ps, Vs, h with
  | [], [], h => exact ⟨_, rfl, trivial⟩
  | [p], [V], h => exact h.1
  | p :: p' :: ps, V :: V' :: Vs, h =>
    rw [dif_neg (by simp)]
    exact ⟨_, rfl, h⟩
  | [p], V :: V' :: Vs, h => exact h.2.elim
  | p :: p' :: ps, [V], h => exact h.2.elim
  | [], V :: Vs, h => exact h.elim
  | p :: ps, [], h => exact h.elim
theorem results_run {A : Ctx} {w0 : World} {F : NS} {γ : GM} {s : St} {a : Act} {w : World} (R : Rel A w0 F γ s a w) {fn : Func} {ps : List PV} (h : (resPVs P s fn.results.toList).den = some ps) :
    ∃ Vs, (results fn a.tmps).run P w = .ok (if h : Vs.toArray.size = 1 then Vs.toArray[0] else .tuple Vs.toArray) w ∧ All2 (RelP F γ s.mem w) ps Vs := by
  obtain ⟨Vs, h1, h2⟩ := resPVs_run R _ _ h
  refine ⟨Vs, ?_, h2⟩
  unfold results
  rw [Sem.run_bind, Array.mapM_eq_mapM_toList, Sem.run_map]
  erw [h1]
  rfl
theorem lensT_head {es : List Ent} {m' : MM} {q c : Nat} {bs cs : List Nat} {b : Option Bool} (h : lensT es m' (q :: bs) (c :: cs) = some b) (hb : b ≠ some false) :
    ∃ e e', es[q]? = some e ∧ m' c = some e' ∧ AsLong e.blk e'.blk ∧ ∃ b', lensT es m' bs cs = some b' ∧ b' ≠ some false := by
  have fin : ∀ {d : Bool} {r : Option Bool}, some (some (match r with | some q => d && q | none => d)) = some b → d = true ∧ r ≠ some false := fun {d r} h => by
    obtain rfl := Option.some.inj h
    cases r with
    | none => cases d <;> simp at hb ⊢
    | some x => cases d <;> cases x <;> simp at hb ⊢
  simp only [lensT, nth?_eq] at h
  split at h
  · rename_i h1 h2 h3
    obtain ⟨d, r⟩ := fin h
    have d := of_decide_eq_true d
    exact ⟨_, _, h1, h2, ⟨d.symm, rfl, rfl, fun i n ⟨k1, k2⟩ => ⟨k1, by omega⟩⟩, _, h3, r⟩
  · rename_i h1 h2 h3
    split at h
    · rename_i hk
      obtain ⟨d, r⟩ := fin h
      have d := of_decide_eq_true d
      exact ⟨_, _, h1, h2, ⟨d.symm, hk, rfl, fun i n ⟨k1, k2⟩ => ⟨k1.trans hk, by omega⟩⟩, _, h3, r⟩
    · cases h
  · rename_i h1 h2 h3
    split at h
    · rename_i hk
      obtain ⟨d, r⟩ := fin h
      have d := of_decide_eq_true d
      exact ⟨_, _, h1, h2, ⟨d.symm, hk, rfl, fun i n ⟨k1, k2⟩ => ⟨k1.trans hk, by omega⟩⟩, _, h3, r⟩
    · cases h
  · rename_i h1 h2 h3
    obtain rfl := Option.some.inj h
    exact ⟨_, _, h1, h2, ⟨rfl, rfl, rfl, fun _ _ h => h⟩, _, h3, hb⟩
  · rename_i h1 h2 h3
    split at h
    · rename_i hl
      obtain rfl := shsEq_spec hl
      obtain rfl := Option.some.inj h
      exact ⟨_, _, h1, h2, ⟨rfl, rfl, rfl, fun _ _ h => h⟩, _, h3, hb⟩
    · cases h
  · rename_i h1 h2 h3
    obtain rfl := Option.some.inj h
    exact ⟨_, _, h1, h2, ⟨rfl, rfl, rfl, fun _ _ h => h⟩, _, h3, hb⟩
  · cases h
theorem lensT_get {es : List Ent} {m' : MM} : ∀ {bs cs : List Nat} {b : Option Bool}, lensT es m' bs cs = some b → b ≠ some false → bs.length = cs.length ∧ ∀ (k b c : Nat), bs[k]? = some b → cs[k]? = some c → ∃ e e', es[b]? = some e ∧ m' c = some e' ∧ AsLong e.blk e'.blk
  | [], [], b, h, hb => ⟨rfl, fun k b c h => by simp at h⟩
  | q :: bs, c :: cs, b, h, hb => by
    obtain ⟨e, e', h1, h2, h3, b', h4, h5⟩ := lensT_head h hb
    obtain ⟨i1, i2⟩ := lensT_get h4 h5
    refine ⟨by simp [i1], fun k b c' hk hc => ?_⟩
    cases k with
    | zero => simp at hk hc; subst hk; subst hc; exact ⟨e, e', h1, h2, h3⟩
    | succ k => exact i2 k b c' (by simpa using hk) (by simpa using hc)
  | [], _ :: _, b, h, hb => by simp [lensT] at h
  | _ :: _, [], b, h, hb => by simp [lensT] at h
section
variable {F F' : NS} {γ γ' : GM} {m m' : MM} {w w' : World}
/-- What came in, by its name at the end. -/
theorem root_rel {p : PP} {us r : List U} {q c : Nat} {v : PV} {es1 : List Ent} {e e' : Ent} {V : Value} (hr : isRoot p = true) (hmk : mkP q p us = some (v, es1, r)) (hL : AsLong e.blk e'.blk) (he : m q = some e) (hm : m' c = some e') (hF : F' c) (hγ : γ' c = γ q) (hw : WStep w w') (hV : RelP F γ m w v V) :
    ∃ v', (∀ l l', outPVs (p :: l) (c :: l') = v' :: outPVs l l') ∧ RelP F' γ' m' w' v' V := by
  have slf : RelC F γ m w (.slf q) V → RelC F' γ' m' w' (.slf c) V := fun ⟨h1, h2, h3⟩ => ⟨hF, h2, fun e2 he2 => by
    rw [hm] at he2; obtain rfl := Option.some.inj he2
    rw [← hL.1, ← hL.2.1]
    exact ((h3 e he).name hγ).step (.inr ⟨c, rfl⟩) rfl hw⟩
  cases p with
  | agg ps => cases hr
  | ptr ps =>
    simp only [mkP] at hmk
    split at hmk
    · simp only [Option.some.injEq, Prod.mk.injEq] at hmk
      obtain ⟨rfl, _, _⟩ := hmk
      obtain ⟨h1, ⟨g, base, h2, h3⟩, h4⟩ := hV
      refine ⟨.one (.ptr c 0 0 0), fun l l' => rfl, hF, ⟨g, base, hγ.trans h2, h3⟩, fun e2 he2 => ?_⟩
      rw [hm] at he2; obtain rfl := Option.some.inj he2
      exact hL.2.2.2 _ _ (h4 e he)
    · cases hmk
  | mptr l =>
    cases us with
    | nil => simp [mkP] at hmk
    | cons u us =>
      cases u <;> simp only [mkP] at hmk <;> first | (cases hmk; done) | skip
      simp only [Option.some.injEq, Prod.mk.injEq] at hmk
      obtain ⟨rfl, _, _⟩ := hmk
      obtain ⟨h1, ⟨g, base, h2, h3⟩, h4⟩ := hV
      refine ⟨.one (.mptr c 0 l), fun l l' => rfl, hF, ⟨g, base, hγ.trans h2, h3⟩, fun e2 he2 => ?_⟩
      rw [hm] at he2; obtain rfl := Option.some.inj he2
      rw [← hL.2.2.1]
      exact h4 e he
  | one p =>
    cases p <;> simp only [isRoot] at hr <;> first | (cases hr; done) | skip
    · rename_i k o
      cases o <;> first | (cases hr; done) | skip
      cases us with
      | nil => simp [mkP, mkCs] at hmk
      | cons u us =>
        cases u <;> simp [mkP, mkCs] at hmk
        obtain ⟨rfl, _, _⟩ := hmk
        exact ⟨.one (.slf c), fun l l' => rfl, slf hV⟩
    · rename_i k o
      cases o <;> first | (cases hr; done) | skip
      cases us with
      | nil => simp [mkP, mkCs] at hmk
      | cons u us =>
        cases u <;> simp [mkP, mkCs] at hmk
        obtain ⟨rfl, _, _⟩ := hmk
        exact ⟨.one (.slf c), fun l l' => rfl, slf hV⟩
    · cases us with
      | nil => simp [mkP, mkCs] at hmk
      | cons u us =>
        cases u <;> simp [mkP, mkCs] at hmk
        obtain ⟨rfl, _, _⟩ := hmk
        exact ⟨.one (.slf c), fun l l' => rfl, slf hV⟩
    · cases us with
      | nil => simp [mkP, mkCs] at hmk
      | cons u us =>
        cases u <;> simp [mkP, mkCs] at hmk
        obtain ⟨rfl, _, _⟩ := hmk
        obtain ⟨h1, ⟨g, base, h2, h3⟩, h4⟩ := hV
        refine ⟨.one (.mapr c), fun l l' => rfl, hF, ⟨g, base, hγ.trans h2, h3⟩, fun e2 he2 => ?_⟩
        rw [hm] at he2; obtain rfl := Option.some.inj he2
        rw [← hL.2.2.1]
        exact h4 e he
theorem outs_rel {es : List Ent} (hw : WStep w w') : ∀ (args : List PP) (q : Nat) (us r : List U) (ps : List PV) (es1 : List Ent) (Vs : List Value) (rt : List Nat) (b : Option Bool),
    mkPs q args us = some (ps, es1, r) → All2 (RelP F γ (memOf es) w) ps Vs → lensT es m' (rootIds q args) rt = some b → b ≠ some false → rt.map γ' = (rootIds q args).map γ → (∀ c ∈ rt, F' c) →
    ∃ Os, All2 (RelP F' γ' m' w') (outPVs (outsOf args) rt) Os
  | [], q, us, r, ps, es1, Vs, rt, b, hmk, hA, hl, hb, hg, hF => ⟨[], by simp [outsOf, outPVs, All2]⟩
  | p :: args, q, us, r, ps, es1, Vs, rt, b, hmk, hA, hl, hb, hg, hF => by
    simp only [mkPs] at hmk
    split at hmk
    case h_2 => cases hmk
    rename_i v e1 us1 h1
    split at hmk
    case h_2 => cases hmk
    rename_i vs e2 r2 h2
    simp only [Option.some.injEq, Prod.mk.injEq] at hmk
    obtain ⟨rfl, rfl, rfl⟩ := hmk
    have hq : q + len e1 = q + entsP p := by rw [len_eq, mkP_ents h1]
    rw [hq] at h2
    cases Vs with
    | nil => exact hA.elim
    | cons V Vs =>
    cases hr : isRoot p with
    | false =>
      simp only [rootIds, hr, outsOf] at hl hg ⊢
      exact outs_rel hw args _ us1 r2 vs e2 Vs rt b h2 hA.2 hl hb hg hF
    | true =>
      simp only [rootIds, hr, outsOf] at hl hg ⊢
      cases rt with
      | nil => simp [lensT] at hl
      | cons c rt =>
      obtain ⟨e, e', k1, k2, k3, b', k4, k5⟩ := lensT_head hl hb
      simp only [List.map_cons, List.cons.injEq] at hg
      obtain ⟨v', n1, n2⟩ := root_rel (m := memOf es) (m' := m') hr h1 k3 (by rw [memOf_eq]; exact k1) k2 (hF c (by simp)) hg.1 hw hA.1
      obtain ⟨Os, ho⟩ := outs_rel hw args _ us1 r2 vs e2 Vs rt b' h2 hA.2 k4 k5 hg.2 fun c' hc' => hF c' (by simp [hc'])
      rw [n1]
      exact ⟨V :: Os, n2, ho⟩
end
theorem outsOf_root : ∀ (args : List PP) (p : PP), p ∈ outsOf args → isRoot p = true
  | [], p, h => by simp [outsOf] at h
  | q :: args, p, h => by
    simp only [outsOf] at h
    split at h
    · rename_i hr
      rcases List.mem_cons.1 h with rfl | h
      · exact hr
      · exact outsOf_root args p h
    · exact outsOf_root args p h
theorem rootIds_len : ∀ (args : List PP) (q : Nat), (rootIds q args).length = (outsOf args).length
  | [], q => rfl
  | p :: args, q => by
    simp only [rootIds, outsOf]
    split <;> simp [rootIds_len args]
theorem outs_spec : ∀ (l : List PP) (rt : List Nat), (∀ p ∈ l, isRoot p = true) → rt.length = l.length → rootsOk l (outPVs l rt) = true ∧ rootNs l (outPVs l rt) = rt ∧ (outPVs l rt).length = l.length
  | [], [], _, _ => ⟨rfl, rfl, rfl⟩
  | p :: l, c :: rt, h, hl => by
    obtain ⟨i1, i2, i3⟩ := outs_spec l rt (fun p hp => h p (by simp [hp])) (by simpa using hl)
    have hr := h p (by simp)
    cases p with
    | agg ps => cases hr
    | ptr ps => exact ⟨by simpa [outPVs, rootsOk] using i1, by simp [outPVs, rootNs, isRoot, idsP, idsC, i2], by simp [outPVs, i3]⟩
    | mptr ps => exact ⟨by simpa [outPVs, rootsOk] using i1, by simp [outPVs, rootNs, isRoot, idsP, idsC, i2], by simp [outPVs, i3]⟩
    | one p =>
      cases p <;> simp only [isRoot] at hr <;> first | (cases hr; done) | skip
      · rename_i k o
        cases o <;> first | (cases hr; done) | skip
        exact ⟨by simpa [outPVs, rootsOk, isRoot] using i1, by simp [outPVs, rootNs, isRoot, idsP, idsC, i2], by simp [outPVs, i3]⟩
      · rename_i k o
        cases o <;> first | (cases hr; done) | skip
        exact ⟨by simpa [outPVs, rootsOk, isRoot] using i1, by simp [outPVs, rootNs, isRoot, idsP, idsC, i2], by simp [outPVs, i3]⟩
      · exact ⟨by simpa [outPVs, rootsOk, isRoot] using i1, by simp [outPVs, rootNs, isRoot, idsP, idsC, i2], by simp [outPVs, i3]⟩
      · exact ⟨by simpa [outPVs, rootsOk, isRoot] using i1, by simp [outPVs, rootNs, isRoot, idsP, idsC, i2], by simp [outPVs, i3]⟩
  | [], _ :: _, _, hl => by simp at hl
  | _ :: _, [], _, hl => by simp at hl
theorem rdPs_split {m : MM} : ∀ {p1 p2 : List PP} {c1 c2 : List PV} {us : List U} {as : List (Asg × Bool)}, rdPs m (p1 ++ p2) (c1 ++ c2) = some (us, as) → c1.length = p1.length → ∃ u1 a1 u2 a2, rdPs m p1 c1 = some (u1, a1) ∧ rdPs m p2 c2 = some (u2, a2) ∧ us = u1 ++ u2 ∧ as = a1 ++ a2
  | [], p2, [], c2, us, as, h, _ => ⟨[], [], us, as, rfl, h, rfl, rfl⟩
  | p :: p1, p2, c :: c1, c2, us, as, h, hl => by
    simp only [List.cons_append, rdPs] at h
    split at h
    · rename_i u a h1
      split at h
      · rename_i us' as' h2
        obtain ⟨rfl, rfl⟩ := Prod.mk.inj (Option.some.inj h)
        obtain ⟨u1, a1, u2, a2, k1, k2, rfl, rfl⟩ := rdPs_split h2 (by simpa using hl)
        exact ⟨u ++ u1, a ++ a1, u2, a2, by simp only [rdPs, h1, k1], k2, by simp, by simp⟩
      · cases h
    · cases h
  | [], p2, _ :: _, c2, us, as, h, hl => by simp at hl
  | _ :: _, p2, [], c2, us, as, h, hl => by simp at hl
theorem mkPs_append : ∀ {p1 p2 : List PP} {q : Nat} {us us2 r : List U} {v1 v2 : List PV} {e1 e2 : List Ent}, mkPs q p1 us = some (v1, e1, us2) → mkPs (q + e1.length) p2 us2 = some (v2, e2, r) → mkPs q (p1 ++ p2) us = some (v1 ++ v2, e1 ++ e2, r)
  | [], p2, q, us, us2, r, v1, v2, e1, e2, h1, h2 => by
    simp only [mkPs, Option.some.injEq, Prod.mk.injEq] at h1
    obtain ⟨rfl, rfl, rfl⟩ := h1
    simpa using h2
  | p :: p1, p2, q, us, us2, r, v1, v2, e1, e2, h1, h2 => by
    simp only [mkPs] at h1
    split at h1
    case h_2 => cases h1
    rename_i v e us1 k1
    split at h1
    case h_2 => cases h1
    rename_i vs es us3 k2
    simp only [Option.some.injEq, Prod.mk.injEq] at h1
    obtain ⟨rfl, rfl, rfl⟩ := h1
    have := mkPs_append k2 (by rw [len_eq, Nat.add_assoc, ← List.length_append]; exact h2)
    simp only [List.cons_append, mkPs, k1, this, List.append_assoc]
theorem all2_take {α β : Type} {R : α → β → Prop} : ∀ {l : List α} {m1 m2 : List β}, All2 R l (m1 ++ m2) → All2 R (takeL m1.length l) m1
  | l, [], m2, h => by cases l <;> simp [takeL, All2]
  | a :: l, b :: m1, m2, h => ⟨h.1, all2_take h.2⟩
  | [], b :: m1, m2, h => h.elim
theorem entry_rel {args : List PP} {ps : List PV} {es : List Ent} {Vs : List Value} {Z : Nat → Prop} {γ : GM} {w : World} {fn : Func} (hA : All2 (RelP ⟨fun b => b < es.length, Z⟩ γ (memOf es) w) ps Vs) (hM : Mem ⟨Z, ownedOf γ es, []⟩ w ⟨fun b => b < es.length, Z⟩ γ (memOf es) (rootIds 0 args) w) :
    Rel ⟨Z, ownedOf γ es, []⟩ w ⟨fun b => b < es.length, Z⟩ γ ⟨ps.map .pv ++ List.replicate (fn.ntmps - len ps) undefS, memOf es, len es, rootIds 0 args⟩ { tmps := Vs.toArray ++ Array.replicate (fn.ntmps - Vs.toArray.size) undef, defers := [] } w := by
  have hlen := hA.length
  refine { hM with defers := rfl, size := by simp [len_eq, hlen], slots := fun t => ?_ }
  rw [nth_eq, List.getD_eq_getElem?_getD, Array.getD_eq_getD_getElem?]
  by_cases ht : t < ps.length
  · rw [List.getElem?_append_left (by simpa using ht), Array.getElem?_append_left (by simp; omega)]
    obtain ⟨V, hV, hrel⟩ := hA.get t ps[t] (List.getElem?_eq_getElem ht)
    simp only [List.getElem?_map, List.getElem?_eq_getElem ht, Option.map_some, Option.getD_some, List.getElem?_toArray, hV]
    exact hrel
  · rw [List.getElem?_append_right (by simp; omega), Array.getElem?_append_right (by simp; omega), List.getElem?_replicate, Array.getElem?_replicate]
    split <;> split <;> exact rfl
/-- What a function answers is read behind its body: as the abstract interpreter tells of it. -/
theorem answers {ds : List Deferred} {β : Type} {fn : Func} {args res : List PP} {us ur : List U} {r : β} {dec : List U → Option β} {Z : Nat → Prop} {γ : GM} {w : World} {Vs : List Value} {ps : List PV} {es : List Ent} (hdec : ∀ u, dec u = some r → ur = u) (hmk : mkPs 0 args us = some (ps, es, [])) (hA : All2 (RelP ⟨fun b => b < es.length, Z⟩ γ (memOf es) w) ps Vs) {s1 : St}
    (h : ((resPVs P s1 fn.results.toList).bind fun vs => endFs es args res dec s1 vs).den = some r) {a' : Act} {w' : World} {F' : NS} {γ' : GM} (R' : Rel ⟨Z, ownedOf γ es, ds⟩ w F' γ' s1 a' w') (hrt : s1.rt.map γ' = (rootIds 0 args).map γ) :
    ∃ v, (results fn a'.tmps).run P w' = .ok v w' ∧ ∃ V, Ending.returned v = .returned V ∧ AnsAt args res ur Z γ es w V w' := by
  rw [T.den_bind] at h
  cases hvs : (resPVs P s1 fn.results.toList).den with
  | none => rw [hvs] at h; cases h
  | some vs =>
  rw [hvs] at h
  simp only [Option.bind_some] at h
  unfold endFs at h
  split at h
  case isFalse => exact (den_fail h).elim
  rename_i hvl
  rw [len_eq, len_eq] at hvl
  split at h
  case h_1 => exact (den_fail h).elim
  rename_i lb hlb
  split at h
  case h_2 => exact (den_fail h).elim
  rename_i us' as hrd
  split at h
  case h_2 => exact (den_fail h).elim
  rename_i hok
  obtain ⟨hlb2, r', hr', h2⟩ : lb ≠ some false ∧ ∃ r', dec us' = some r' ∧ (T.ret r').den = some r := by
    split at h
    · obtain ⟨r', hr', h2⟩ := den_opt h
      exact ⟨by simp, r', hr', h2⟩
    · obtain ⟨hc, h⟩ := den_req h
      obtain ⟨r', hr', h2⟩ := den_opt h
      subst hc
      exact ⟨by simp, r', hr', h2⟩
  simp only [T.den, Option.some.injEq] at h2
  subst h2
  have hus : ur = us' := hdec _ (by rw [hr'])
  obtain ⟨Vs', q1, q2⟩ := results_run R' hvs
  obtain ⟨Os, q3⟩ := outs_rel (F' := F') (γ' := γ') (m' := s1.mem) R'.below.wst args 0 us [] ps es Vs s1.rt lb hmk hA hlb hlb2 hrt R'.rts
  obtain ⟨hrl, hlens⟩ := lensT_get hlb hlb2
  obtain ⟨so1, so2, so3⟩ := outs_spec (outsOf args) s1.rt (outsOf_root args) (by rw [← hrl, rootIds_len])
  -- what is to be told by its data is frozen
  obtain ⟨F2, f2, ms, R2⟩ := R'.frz (frPs s1.mem (res ++ outsOf args) (vs ++ outPVs (outsOf args) s1.rt))
  obtain ⟨m2, hm2⟩ : ∃ m2, m2 = updM s1.mem (frz s1.mem (frPs s1.mem (res ++ outsOf args) (vs ++ outPVs (outsOf args) s1.rt))) := ⟨_, rfl⟩
  rw [← hm2] at hrd ms R2
  have M2 : Mem ⟨Z, ownedOf γ es, ds⟩ w F2 γ' m2 s1.rt w' := R2.toMem
  have hall : All2 (RelP F2 γ' m2 w') (vs ++ outPVs (outsOf args) s1.rt) (Vs' ++ Os) := all2_append (q2.mono fun _ _ h => h.step ms) (q3.mono fun _ _ h => h.step ms)
  obtain ⟨u1, a1, u2, a2, hr1, hr2, rfl, rfl⟩ := rdPs_split hrd hvl
  obtain ⟨Z', hZ'⟩ : ∃ Z' : Nat → Prop, ∀ g, Z' g ↔ (F2.z g ∨ ∃ (i : Nat) (x : Asg) (base : Nat), (a1 ++ a2)[i]? = some (x, false) ∧ shiftA γ' x = some (g, base)) := ⟨fun g => F2.z g ∨ ∃ (i : Nat) (x : Asg) (base : Nat), (a1 ++ a2)[i]? = some (x, false) ∧ shiftA γ' x = some (g, base), fun _ => Iff.rfl⟩
  -- where what is told lies
  have srcA : ∀ (i : Nat) (x : Asg × Bool) (g base : Nat) (e : Ent), (a1 ++ a2)[i]? = some x → AsgOk m2 x e → shiftA γ' x.1 = some (g, base) → ∃ c e0 base0 off n, x = (some (c, off, n), e.own) ∧ m2 c = some e0 ∧ γ' c = some (g, base0) ∧ (e.own = true → e0.own = true) ∧ ∀ kk vk xs, e.blk = .map kk vk xs → e0.blk = .map kk vk xs := fun i x g base e hx hk hg => by
    obtain ⟨x1, x2⟩ := x
    obtain ⟨h1, h3⟩ := hk
    cases x1 with
    | none => cases hg
    | some y =>
      obtain ⟨c, off, n⟩ := y
      obtain ⟨e0, z1, z2, z5⟩ := h3
      simp only [shiftA, Option.map_eq_some_iff] at hg
      obtain ⟨⟨g', base'⟩, z3, z4⟩ := hg
      simp only [Prod.mk.injEq] at z4
      obtain ⟨rfl, _⟩ := z4
      simp only at h1
      subst h1
      exact ⟨c, e0, base', off, n, rfl, z1, z3, z2, z5⟩
  have told : ∀ q, ∃ vs1 es1 vs2 es2, mkPs q res (u1 ++ u2) = some (vs1, es1, u2) ∧ mkPs (q + es1.length) (outsOf args) (u2 ++ []) = some (vs2, es2, []) ∧ Anew m2 γ' w' F2 (a1 ++ a2) q (es1 ++ es2) (α := Unit) fun Fx γx mx => ∀ Ws, All2 (RelP F2 γ' m2 w') (vs ++ outPVs (outsOf args) s1.rt) Ws → All2 (RelP Fx γx mx w') (vs1 ++ vs2) Ws := fun q => by
    obtain ⟨vs1, es1, k1, n1⟩ := (rdPs_again M2 hr1).make q u2
    obtain ⟨vs2, es2, k2, n2⟩ := (rdPs_again M2 hr2).make (q + es1.length) []
    refine ⟨vs1, es1, vs2, es2, k1, k2, (n1.append n2).mono fun Fx γx mx hz ⟨y1, y2⟩ Ws hW => ?_⟩
    obtain ⟨W1, W2, rfl, g1, g2⟩ : ∃ W1 W2, Ws = W1 ++ W2 ∧ All2 (RelP F2 γ' m2 w') vs W1 ∧ All2 (RelP F2 γ' m2 w') (outPVs (outsOf args) s1.rt) W2 := by
      have : ∀ (l1 l2 : List PV) (Ws : List Value), All2 (RelP F2 γ' m2 w') (l1 ++ l2) Ws → ∃ W1 W2, Ws = W1 ++ W2 ∧ All2 (RelP F2 γ' m2 w') l1 W1 ∧ All2 (RelP F2 γ' m2 w') l2 W2 := by
        intro l1
        induction l1 with
        | nil => intro l2 Ws h; exact ⟨[], Ws, rfl, trivial, h⟩
        | cons x l1 ih =>
          intro l2 Ws h
          cases Ws with
          | nil => exact h.elim
          | cons W Ws =>
            obtain ⟨W1, W2, rfl, g1, g2⟩ := ih l2 Ws h.2
            exact ⟨W :: W1, W2, rfl, ⟨h.1, g1⟩, g2⟩
      exact this _ _ _ hW
    exact all2_append (y1 _ g1) (y2 _ g2)
  have ent : ∀ i x, (a1 ++ a2)[i]? = some x → ∃ e, AsgOk m2 x e := fun i x hx => by
    obtain ⟨vs1, es1, vs2, es2, _, _, k2, k3, _⟩ := told 0
    have hi := (List.getElem?_eq_some_iff.1 hx).1
    exact ⟨_, k3 i _ x (List.getElem?_eq_getElem (by omega)) hx⟩
  refine ⟨_, q1, _, rfl, R'.below, Z', fun g hg => ?_, fun q => ?_⟩
  · rcases (hZ' g).1 hg with h | ⟨i, x, base, h1, h2⟩
    · obtain ⟨z1, z2, _⟩ := M2.zok g h
      exact ⟨z1, z2⟩
    · obtain ⟨e, he⟩ := ent i _ h1
      obtain ⟨c, e0, base0, off, n, z1, z2, z3, z4, _⟩ := srcA i _ g base e h1 he h2
      refine ⟨M2.bnd c e0 g base0 z2 z3, ?_⟩
      cases hoc : e0.own with
      | true => exact .inr (M2.own c e0 g base0 z2 hoc z3).1
      | false => exact (M2.zok g (M2.shr c e0 g base0 z2 hoc z3)).2.1
  obtain ⟨vs1, es1, vs2, es2, k1, k2, k3, k4, k5⟩ := told q
  have hl1 : es1.length = entsPs res := mkPs_ents _ k1
  obtain ⟨γr, hγr⟩ : ∃ γr : GM, ∀ i, γr i = match (a1 ++ a2)[i]? with | some x => shiftA γ' x.1 | none => none := ⟨_, fun _ => rfl⟩
  have hgr : ∀ i x, (a1 ++ a2)[i]? = some x → γr i = shiftA γ' x.1 := fun i x hx => by rw [hγr, hx]
  have src : ∀ i e g base, (es1 ++ es2)[i]? = some e → γr i = some (g, base) → ∃ c e0 base0 off n, (a1 ++ a2)[i]? = some (some (c, off, n), e.own) ∧ m2 c = some e0 ∧ γ' c = some (g, base0) ∧ (e.own = true → e0.own = true) ∧ ∀ kk vk xs, e.blk = .map kk vk xs → e0.blk = .map kk vk xs := fun i e g base he hg => by
    have hi := (List.getElem?_eq_some_iff.1 he).1
    obtain ⟨x, hx⟩ : ∃ x, (a1 ++ a2)[i]? = some x := ⟨_, List.getElem?_eq_getElem (by omega)⟩
    rw [hgr i x hx] at hg
    obtain ⟨c, e0, base0, off, n, z1, z2⟩ := srcA i x g base e hx (k4 i e x he hx) hg
    exact ⟨c, e0, base0, off, n, by rw [hx, z1], z2⟩
  have hmk2 := mkPs_append k1 (by rw [List.append_nil] at k2; exact k2)
  refine ⟨γr, vs1 ++ vs2, es1 ++ es2, by rw [hus]; exact hmk2, fun Fx γx mx hz hcond => ?_, fun i e g base he hg => ?_, fun k b j hb hj => ?_⟩
  · have T : Told γ' q (a1 ++ a2) (es1 ++ es2) Fx γx mx := ⟨fun i e he => (hcond i e he).1, fun i e he => (hcond i e he).2.1, fun i x hx => by
      have hi := (List.getElem?_eq_some_iff.1 hx).1
      rw [(hcond i _ (List.getElem?_eq_getElem (by omega))).2.2, hgr i x hx]⟩
    obtain ⟨y1, y2⟩ := k5 Fx γx mx T fun g hg => hz g ((hZ' g).2 (.inl hg))
    refine ⟨resSV_rel ?_, y2⟩
    have := all2_take (y1 _ hall)
    rwa [show len res = Vs'.length by rw [len_eq, ← hvl]; exact q2.length]
  · obtain ⟨c, e0, base0, off, n, z1, z2, z3, z4, z5⟩ := src i e g base he hg
    refine ⟨M2.bnd c e0 g base0 z2 z3, fun kk vk xs hb => ?_, fun ho => ?_, fun ho => (hZ' g).2 (.inr ⟨i, _, base, by rw [z1, ho], ?_⟩)⟩
    · obtain ⟨o0, b0⟩ := e0
      have := z5 kk vk xs hb
      simp only at this
      subst this
      exact M2.maps c o0 kk vk xs g base0 z2 z3
    · obtain ⟨y1, y2⟩ := M2.own c e0 g base0 z2 (z4 ho) z3
      rw [ho] at z1
      refine ⟨y1, M2.nofr c e0 g base0 z2 (z4 ho) z3, fun hzg => ?_, fun j e2 g2 base2 hne he2 hg2 => ?_⟩
      · rcases (hZ' g).1 hzg with h | ⟨j, x, basex, h1, h2⟩
        · exact (M2.zok g h).2.2 c e0 base0 z2 (z4 ho) z3
        · obtain ⟨ex, hex⟩ := ent j _ h1
          obtain ⟨c', e0', base0', off', n', x1, x2, x3, x4, _⟩ := srcA j _ g basex ex h1 hex h2
          have hne : i ≠ j := fun e' => by
            subst e'
            have := h1.symm.trans z1
            simp at this
          rw [x1] at h1
          exact y2 c' e0' g base0' (Ne.symm (okAsg_spec hok i j c off n _ c' off' n' hne z1 h1 rfl)) x2 x3 rfl
      · obtain ⟨c', e0', base0', off', n', x1, x2, x3, x4, _⟩ := src j e2 g2 base2 he2 hg2
        exact y2 c' e0' g2 base0' (Ne.symm (okAsg_spec hok i j c off n _ c' off' n' (Ne.symm hne) z1 x1 rfl)) x2 x3
    · rw [hgr i _ z1] at hg; exact hg
  · obtain ⟨i1, c, n, e, e0, x1, x2, x3, x4, x5⟩ := roots_whole M2 so1 hr2 k2 (entsPs res) k j hj
    rw [so2] at x5
    obtain ⟨eb, ec, y1, y2, y3⟩ := hlens k b c hb x5
    obtain ⟨e1, v1, v2⟩ := ms.mem c e0 (R'.rts c (List.mem_of_getElem? x5)) x3
    rw [y2] at v1
    obtain rfl := Option.some.inj v1
    have hla : a1.length = entsPs res := by
      obtain ⟨vs1', es1', k1', n1', _⟩ := (rdPs_again M2 hr1).make 0 []
      rw [← n1']; exact mkPs_ents _ k1'
    have xa : (a1 ++ a2)[j]? = some (some (c, 0, n), true) := by rw [List.getElem?_append_right (by omega), hla]; exact x1
    have xe : (es1 ++ es2)[j]? = some e := by rw [List.getElem?_append_right (by omega), hl1]; exact x2
    have := (y3.trans (⟨v2.1, v2.2.1, v2.2.2.1, v2.2.2.2⟩ : AsLong ec.blk e0.blk)).trans x4
    refine ⟨eb, e, y1, xe, (k4 j e _ xe xa).1, ?_, this.1, this.2.1, this.2.2.1, this.2.2.2⟩
    rw [hgr j _ xa]
    have hmp : (s1.rt.map γ')[k]? = ((rootIds 0 args).map γ)[k]? := by rw [hrt]
    rw [List.getElem?_map, List.getElem?_map, x5, hb] at hmp
    simp only [Option.map_some, Option.some.injEq] at hmp
    simp only [shiftA, Nat.zero_mul, Nat.add_zero]
    rw [hmp]
    cases γ b <;> rfl
/-- A function is what the abstract interpreter tells of its body. -/
theorem fn_ok (hmix : P.follows .mixedOrders = true) (hE : EnvOk P env) {f : FuncId} {fn : Func} {sp : Spec} (hf : P.funcs[f]? = some fn) (hlp : ∀ c, fn.body = some c → LpOk P lenv c) {dec : List U → Option sp.β}
    (hdec : ∀ u r, dec u = some r → sp.enc r = u) (hS : ∀ us r, sp.G us = some r → (runF P env lenv fn sp.args sp.res dec us).den = some r) : FnOk P f sp := by
  intro us r hG Z γ w Vs ps es hmk hA hM
  have h := hS us r hG
  unfold runF at h
  rw [hmk] at h
  cases hbody : fn.body with
  | none => rw [hbody] at h; cases h
  | some c =>
  rw [hbody] at h
  simp only at h
  rw [T.den_bind] at h
  cases hx : (runC P env lenv c ⟨ps.map .pv ++ List.replicate (fn.ntmps - len ps) undefS, memOf es, len es, rootIds 0 sp.args⟩).den with
  | none => rw [hx] at h; cases h
  | some z =>
  obtain ⟨e, s1⟩ := z
  rw [hx] at h
  simp only [Option.bind_some] at h
  refine calls_of_wp hf hbody ?_
  refine wp_mono (runC_ok hmix hE c (hlp c hbody) _ e s1 hx _ w _ w _ γ (entry_rel hA hM) (fun b hb => by show b < len es; rw [len_eq]; exact hb)) ?_
  rintro ex a' w' ⟨rfl, F', γ', R', hF', hrt⟩
  cases e with
  | normal => exact ⟨R'.defers, answers (fun u hu => hdec u r hu) hmk hA h R' hrt⟩
  | ret => exact ⟨R'.defers, answers (fun u hu => hdec u r hu) hmk hA h R' hrt⟩
  | exit i => exact (den_fail h).elim
  | pan t n => exact (den_fail h).elim
/-- A function that may panic is what the abstract interpreter tells of its body. -/
theorem fnP_ok (hmix : P.follows .mixedOrders = true) (hE : EnvOk P env) {f : FuncId} {fn : Func} {sp : Spec} {t0 : Nat} {junk : List U} (hf : P.funcs[f]? = some fn) (hlp : ∀ c, fn.body = some c → LpOk P lenv c) {dec : Bool → Int → List U → Option sp.β}
    (hdec : ∀ ok n u r, dec ok n u = some r → sp.enc r = .b ok :: .i t0 :: .i n :: u) (hS : ∀ us r, sp.G us = some r → (runFP P env lenv fn sp.args sp.res t0 dec junk us).den = some r) : PFnOk P f sp := by
  intro us r hG ok t n vs henc
  have h := hS us r hG
  unfold runFP at h
  cases hmk : mkPs 0 sp.args us with
  | none => rw [hmk] at h; cases h
  | some z0 =>
  obtain ⟨ps, es, rest⟩ := z0
  cases rest with
  | cons u0 rest => rw [hmk] at h; cases h
  | nil =>
  rw [hmk] at h
  cases hbody : fn.body with
  | none => rw [hbody] at h; cases h
  | some c =>
  rw [hbody] at h
  simp only at h
  rw [T.den_bind] at h
  cases hx : (runC P env lenv c ⟨ps.map .pv ++ List.replicate (fn.ntmps - len ps) undefS, memOf es, len es, rootIds 0 sp.args⟩).den with
  | none => rw [hx] at h; cases h
  | some z =>
  obtain ⟨e, s1⟩ := z
  rw [hx] at h
  simp only [Option.bind_some] at h
  -- it returned
  have back : ((resPVs P s1 fn.results.toList).bind fun vs => endFs es sp.args sp.res (dec true 0) s1 vs).den = some r → (e = .normal ∨ e = .ret) → (ok = true → FnAt P f sp.args sp.res us vs) ∧ (ok = false → PanAt P f sp.args us t.toNat n) := fun h he => by
    have hor : ∃ u, dec true 0 u = some r := by
      rw [T.den_bind] at h
      cases hvs : (resPVs P s1 fn.results.toList).den with
      | none => rw [hvs] at h; cases h
      | some vs1 =>
      rw [hvs] at h
      simp only [Option.bind_some] at h
      unfold endFs at h
      split at h
      case isFalse => exact (den_fail h).elim
      split at h
      case h_1 => exact (den_fail h).elim
      split at h
      case h_2 => exact (den_fail h).elim
      split at h
      case h_2 => exact (den_fail h).elim
      split at h
      · obtain ⟨r', hr', h2⟩ := den_opt h
        obtain rfl := Option.some.inj h2
        exact ⟨_, hr'⟩
      · obtain ⟨hc, h⟩ := den_req h
        obtain ⟨r', hr', h2⟩ := den_opt h
        obtain rfl := Option.some.inj h2
        exact ⟨_, hr'⟩
    obtain ⟨u, hu⟩ := hor
    have h1 := hdec _ _ _ _ hu
    rw [henc] at h1
    simp only [List.cons.injEq, U.b.injEq, U.i.injEq] at h1
    obtain ⟨rfl, rfl, rfl, rfl⟩ := h1
    refine ⟨fun _ => ?_, fun h => by cases h⟩
    intro Z γ w Vs ps' es' hmk' hA hM
    rw [hmk] at hmk'
    obtain ⟨rfl, rfl⟩ : ps = ps' ∧ es = es' := by simpa using hmk'
    refine calls_of_wp hf hbody ?_
    refine wp_mono (runC_ok hmix hE c (hlp c hbody) _ e s1 hx _ w _ w _ γ (entry_rel hA hM) (fun b hb => by show b < len es; rw [len_eq]; exact hb)) ?_
    rintro ex a' w' ⟨rfl, F', γ', R', hF', hrt⟩
    have fin := answers (fn := fn) (ur := vs) (r := r) (dec := dec true 0) (fun u' hu' => by
      have := hdec _ _ _ _ hu'
      rw [henc] at this
      simpa using this) hmk hA h R' hrt
    rcases he with rfl | rfl
    · exact ⟨R'.defers, fin⟩
    · exact ⟨R'.defers, fin⟩
  cases e with
  | normal => exact back h (.inl rfl)
  | ret => exact back h (.inr rfl)
  | exit i => exact (den_fail h).elim
  | pan t1 n1 =>
    simp only at h
    split at h
    case h_2 => exact (den_fail h).elim
    rename_i ht
    obtain rfl : t1 = t0 := by simpa using ht
    obtain ⟨r', hr', h2⟩ := den_opt h
    obtain rfl := Option.some.inj h2
    have h1 := hdec _ _ _ _ hr'
    rw [henc] at h1
    simp only [List.cons.injEq, U.b.injEq, U.i.injEq] at h1
    obtain ⟨rfl, rfl, rfl, rfl⟩ := h1
    refine ⟨fun h => (by cases h), fun _ => ?_⟩
    intro Z γ w Vs ps' es' hmk' hA hM
    rw [hmk] at hmk'
    obtain ⟨rfl, rfl⟩ : ps = ps' ∧ es = es' := by simpa using hmk'
    refine calls_of_wp hf hbody ?_
    refine wp_mono (runC_ok hmix hE c (hlp c hbody) _ _ s1 hx _ w _ w _ γ (entry_rel hA hM) (fun b hb => by show b < len es; rw [len_eq]; exact hb)) ?_
    rintro ex a' w' ⟨rfl, F', γ', R', hF', hrt⟩
    exact ⟨R'.defers, rfl, R'.below⟩
end
end Go.Proofs.Ytmmaechogibodaa.Vm

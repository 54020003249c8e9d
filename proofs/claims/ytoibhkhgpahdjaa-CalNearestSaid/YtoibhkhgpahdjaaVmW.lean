/- Loops and functions: the abstract interpreter tells what they do. Conditions: the program follows the model's mixed orders. -/
import Derived.Test.YtoibhkhgpahdjaaVmV
set_option linter.unusedVariables false
set_option linter.unusedSimpArgs false
namespace Go.Proofs.Ytoibhkhgpahdjaa.Vm
open Go Go.RowKit

section
variable {P : Program} {env : FuncId → Option Spec} {lenv : Nat → Option LS}
theorem exEq_spec {e f : Ex} (h : exEq e f = true) : e = f := by
  cases e <;> cases f <;> simp [exEq] at h <;> first | rfl | (subst h; rfl)
theorem den_opt {α β : Type} {o : Option α} {k : α → T β} {b : β} (h : (T.opt o k).den = some b) : ∃ x, o = some x ∧ (k x).den = some b := by
  cases o with
  | none => cases h
  | some x => exact ⟨x, rfl, h⟩
theorem then_other {e : Ex} (he : e ≠ .normal) {K : Act → World → Prop} {Q : Exit → Act → World → Prop} {a : Act} {w : World} (h : Q e.to a w) : Exit.then K Q e.to a w := by
  cases e with
  | normal => exact absurd rfl he
  | exit i => exact h
  | ret => exact h
theorem loop_one (hmix : P.follows .mixedOrders = true) (hE : EnvOk P env) {body : Code} (hlp : LpOk P lenv body) {pre : Pat} {β : Type} {ex : Ex} {post : Pat} {L : Nat → List U → Option β} {enc : β → List U} {dec : List U → Option β}
    (hdec : ∀ u r, dec u = some r → enc r = u) (h0 : ∀ us, L 0 us = none) (hS : ∀ k us r, L (k + 1) us = some r → (round1 P env lenv body pre ex post dec (L k) us).den = some r) (k : Nat) : LoopOk P body (.one pre β ex post (L k) enc) := by
  intro us r hL s s' hs hs' A w0 a w F γ R hF
  refine wp_loop_rounds k ?_
  induction k generalizing us s a w F γ with
  | zero => rw [h0] at hL; cases hL
  | succ k ih =>
    have h := hS k us r hL
    unfold round1 at h
    rw [hs] at h
    simp only at h
    rw [T.den_bind] at h
    cases hx : (runC P env lenv body s).den with
    | none => rw [hx] at h; cases h
    | some z =>
      obtain ⟨e, s1⟩ := z
      rw [hx] at h
      simp only [Option.bind_some] at h
      rw [rounds_succ]
      refine wp_mono (runC_ok hmix hE body hlp s e s1 hx A w0 a w F γ R hF) ?_
      rintro ex' a' w' ⟨rfl, F', γ', R', hF'⟩
      have other : e ≠ .normal → (match exEq e ex with | true => (match rdSt post s1 with | some us' => T.opt (dec us') .ret | none => .fail) | false => (.fail : T β)).den = some r → Exit.then (Code.rounds P body (fun ex_1 a' w' => ex_1 = ex.to ∧ ∃ F' γ', Rel A w0 F' γ' s' a' w' ∧ ∀ b, F' b → b < s'.nx) k) (fun ex_1 a' w' => ex_1 = ex.to ∧ ∃ F' γ', Rel A w0 F' γ' s' a' w' ∧ ∀ b, F' b → b < s'.nx) e.to a' w' := by
        intro he hh
        split at hh
        · rename_i heq
          obtain rfl := exEq_spec heq
          split at hh
          · rename_i us' hus'
            obtain ⟨r', hr', h2⟩ := den_opt hh
            simp only [T.den, Option.some.injEq] at h2
            subst h2
            obtain ⟨s2, F2, γ2, hmk, R2, hF2⟩ := rdSt_ok hus' R'
            rw [← hdec _ _ hr'] at hmk
            rw [hs'] at hmk
            obtain rfl := Option.some.inj hmk
            exact then_other he ⟨rfl, F2, γ2, R2, hF2⟩
          · exact (den_fail hh).elim
        · exact (den_fail hh).elim
      cases e with
      | normal =>
        simp only at h
        split at h
        · rename_i us' hus'
          simp only [T.den] at h
          obtain ⟨s2, F2, γ2, hmk, R2, hF2⟩ := rdSt_ok hus' R'
          exact ih us' h s2 hmk a' w' F2 γ2 R2 hF2
        · exact (den_fail h).elim
      | exit i => exact other (by simp) h
      | ret => exact other (by simp) h
theorem loop_two (hmix : P.follows .mixedOrders = true) (hE : EnvOk P env) {body : Code} (hlp : LpOk P lenv body) {pre : Pat} {β γ0 : Type} {ex ex' : Ex} {post post' : Pat} {L : Nat → List U → Option (β ⊕ γ0)} {enc : β → List U} {dec : List U → Option β} {enc' : γ0 → List U} {dec' : List U → Option γ0}
    (hdec : ∀ u r, dec u = some r → enc r = u) (hdec' : ∀ u r, dec' u = some r → enc' r = u) (h0 : ∀ us, L 0 us = none) (hS : ∀ k us r, L (k + 1) us = some r → (round2 P env lenv body pre ex post ex' post' dec dec' (L k) us).den = some r) (k : Nat) :
    LoopOk P body (.two pre β γ0 ex post ex' post' (L k) enc enc') := by
  -- one way out is shown for both
  have key : ∀ (A : Nat → Prop) (w0 : World) (r : β ⊕ γ0) (sx : St) (exx : Ex), (match r with | .inl r => mkSt post (enc r) = some sx ∧ exx = ex | .inr r => mkSt post' (enc' r) = some sx ∧ exx = ex') →
      ∀ (us : List U), L k us = some r → ∀ (s : St), mkSt pre us = some s → Comes P A w0 (.loop body) s exx sx := by
    intro A w0 r sx exx hsx us hL s hs a w F γ R hF
    refine wp_loop_rounds k ?_
    induction k generalizing us s a w F γ with
    | zero => rw [h0] at hL; cases hL
    | succ k ih =>
      have h := hS k us r hL
      unfold round2 at h
      rw [hs] at h
      simp only at h
      rw [T.den_bind] at h
      cases hx : (runC P env lenv body s).den with
      | none => rw [hx] at h; cases h
      | some z =>
        obtain ⟨e, s1⟩ := z
        rw [hx] at h
        simp only [Option.bind_some] at h
        rw [rounds_succ]
        refine wp_mono (runC_ok hmix hE body hlp s e s1 hx A w0 a w F γ R hF) ?_
        rintro ex0 a' w' ⟨rfl, F', γ', R', hF'⟩
        have other : e ≠ .normal → (match exEq e ex with
            | true => (match rdSt post s1 with | some us' => T.opt (dec us') fun r => .ret (Sum.inl r) | none => .fail)
            | false => (match exEq e ex' with
              | true => (match rdSt post' s1 with | some us' => T.opt (dec' us') fun r => .ret (Sum.inr r) | none => .fail)
              | false => (.fail : T (β ⊕ γ0)))).den = some r →
            Exit.then (Code.rounds P body (fun ex_1 a' w' => ex_1 = exx.to ∧ ∃ F' γ', Rel A w0 F' γ' sx a' w' ∧ ∀ b, F' b → b < sx.nx) k) (fun ex_1 a' w' => ex_1 = exx.to ∧ ∃ F' γ', Rel A w0 F' γ' sx a' w' ∧ ∀ b, F' b → b < sx.nx) e.to a' w' := by
          intro he hh
          split at hh
          · rename_i heq
            obtain rfl := exEq_spec heq
            split at hh
            · rename_i us' hus'
              obtain ⟨r', hr', h2⟩ := den_opt hh
              simp only [T.den, Option.some.injEq] at h2
              subst h2
              obtain ⟨s2, F2, γ2, hmk, R2, hF2⟩ := rdSt_ok hus' R'
              rw [← hdec _ _ hr'] at hmk
              obtain ⟨q1, rfl⟩ := hsx
              rw [q1] at hmk
              obtain rfl := Option.some.inj hmk
              exact then_other he ⟨rfl, F2, γ2, R2, hF2⟩
            · exact (den_fail hh).elim
          · split at hh
            · rename_i heq
              obtain rfl := exEq_spec heq
              split at hh
              · rename_i us' hus'
                obtain ⟨r', hr', h2⟩ := den_opt hh
                simp only [T.den, Option.some.injEq] at h2
                subst h2
                obtain ⟨s2, F2, γ2, hmk, R2, hF2⟩ := rdSt_ok hus' R'
                rw [← hdec' _ _ hr'] at hmk
                obtain ⟨q1, rfl⟩ := hsx
                rw [q1] at hmk
                obtain rfl := Option.some.inj hmk
                exact then_other he ⟨rfl, F2, γ2, R2, hF2⟩
              · exact (den_fail hh).elim
            · exact (den_fail hh).elim
        cases e with
        | normal =>
          simp only at h
          split at h
          · rename_i us' hus'
            simp only [T.den] at h
            obtain ⟨s2, F2, γ2, hmk, R2, hF2⟩ := rdSt_ok hus' R'
            exact ih us' h s2 hmk a' w' F2 γ2 R2 hF2
          · exact (den_fail h).elim
        | exit i => exact other (by simp) h
        | ret => exact other (by simp) h
  intro us r hL s hs
  cases r with
  | inl r => exact fun s' hs' A w0 => key A w0 (.inl r) s' ex ⟨hs', rfl⟩ us hL s hs
  | inr r => exact fun s' hs' A w0 => key A w0 (.inr r) s' ex' ⟨hs', rfl⟩ us hL s hs
theorem row_load {A : Nat → Prop} {w0 : World} {F : Nat → Prop} {γ : GM} {s : St} {a : Act} {w : World} (R : Rel A w0 F γ s a w) {b i n j sz : Nat} {e : Ent} {k : IntKind} {xs : List Int} {t : TypeId} {V0 : Value} (he : s.mem b = some e) (hx : RelC F γ s.mem w (.ptr b i n j) V0) (hsz : sizeT P t = some sz)
    (hwr : wholeRow e.blk (aggT P t) i j = some (k, xs)) (hq : sz ≤ xs.length) : ∃ g base V, V0 = .pointer (some ⟨g, base, none⟩) ∧ (loadVar t ⟨g, base, none⟩).run P w = .ok V w ∧ RelP F γ s.mem w (.agg (rowCells k xs 0 sz)) V := by
  obtain ⟨hblk, hagg, rfl, rfl⟩ := wholeRow_spec hwr
  obtain ⟨h1, ⟨g, base, h2, h3⟩, h4⟩ := hx
  have hpk := h4 e he
  have hB := (R.memr b e he).2
  rw [hblk] at hB hpk
  obtain ⟨rfl, _⟩ := hpk
  have key : ∀ j, j < sz → w.cell? ⟨g, base + j, none⟩ = some (.int k (nth 0 xs j)) := fun j hj => by
    obtain ⟨g', base', cs, t', V, k1, k2, k3, k4⟩ := hB j 0 (.val (.int k (nth 0 xs j))) (by simp only [Blk.at]; rw [if_pos ⟨trivial, by omega⟩])
    rw [h2] at k1
    obtain ⟨rfl, rfl⟩ : g = g' ∧ base = base' := by simpa using k1
    obtain rfl : V = .int k (nth 0 xs j) := k4
    simp only [World.cell?, k2]
    simpa [Blk.n] using k3
  have hrun := run_loadCells_list (P := P) w ⟨g, base, none⟩ ((List.range sz).map fun j => .int k (nth 0 xs j)) (fun j v hj => by
    rw [addr_add]
    rw [List.getElem?_map] at hj
    by_cases hlt : j < sz
    · rw [List.getElem?_range hlt] at hj
      obtain rfl := Option.some.inj hj
      exact key j hlt
    · rw [List.getElem?_eq_none (by simpa using hlt)] at hj; cases hj)
  rw [List.length_map, List.length_range] at hrun
  refine ⟨g, base, .agg ((List.range sz).map fun j => Value.int k (nth 0 xs j)).toArray, h3, ?_, ⟨_, rfl, All2.of_get (by simp [rowCells_len]) fun j c V hc hV => ?_⟩⟩
  · simp only [loadVar, Sem.run_bind, Sem.run_pure, Result.andThen_ok, sAgg hagg, if_true, sSize hsz]
    rw [hrun]
    rfl
  · have hlt : j < sz := by have := (List.getElem?_eq_some_iff.1 hc).1; rwa [rowCells_len] at this
    rw [rowCells_get k xs sz 0 j hlt] at hc
    obtain rfl := Option.some.inj hc
    simp only [List.getElem?_map, List.getElem?_range hlt, Option.map_some, Option.some.injEq, Nat.zero_add] at hV
    subst hV
    simp [RelC]
theorem resPV_run {A : Nat → Prop} {w0 : World} {F : Nat → Prop} {γ : GM} {s : St} {a : Act} {w : World} (R : Rel A w0 F γ s a w) {rv : ResultVar} {p : PV} (h : (resPV P s rv).den = some p) :
    ∃ V, (match rv with | .tmp t => (pure (a.tmps.getD t undef) : Sem Value) | .cell c t => do loadVar t (← asAddr (a.tmps.getD c undef))).run P w = .ok V w ∧ RelP F γ s.mem w p V := by
  cases rv with
  | tmp t =>
    simp only [resPV] at h
    split at h
    · rename_i q hq
      obtain rfl := Option.some.inj h
      have := R.slots t
      rw [hq] at this
      exact ⟨_, rfl, this⟩
    · exact (den_fail h).elim
  | cell c t =>
    simp only [resPV] at h
    split at h
    · rename_i b i n j sz hp hsz
      have hx := R.slots c
      rw [hp] at hx
      split at h
      · rename_i e he
        split at h
        · rename_i k xs hwr
          obtain ⟨hq, h⟩ := den_req h
          obtain rfl := Option.some.inj h
          obtain ⟨g, base, V, h2, h6, h7⟩ := row_load R he hx hsz hwr (of_decide_eq_true hq)
          refine ⟨V, ?_, h7⟩
          simp only [h2, asAddr, Sem.run_bind, Sem.run_pure, Result.andThen_ok, h6]
        · split at h
          · rename_i l hl
            split at h
            · rename_i p' hsh
              obtain rfl := Option.some.inj h
              obtain ⟨g, base, Vs, h1, h2, h3, h4, h5⟩ := block_read R he hx hl
              obtain ⟨V, h6, h7⟩ := loadVar_run (W := w) hsz hsh h4 h3 h5
              refine ⟨V, ?_, h7⟩
              simp only [h2, asAddr, Sem.run_bind, Sem.run_pure, Result.andThen_ok, h6]
            · exact (den_fail h).elim
          · exact (den_fail h).elim
      · exact (den_fail h).elim
    · exact (den_fail h).elim
theorem resPVs_run {A : Nat → Prop} {w0 : World} {F : Nat → Prop} {γ : GM} {s : St} {a : Act} {w : World} (R : Rel A w0 F γ s a w) : ∀ (l : List ResultVar) (ps : List PV), (resPVs P s l).den = some ps →
    ∃ Vs, (l.mapM fun (rv : ResultVar) => (match rv with | .tmp t => (pure (a.tmps.getD t undef) : Sem Value) | .cell c t => do loadVar t (← asAddr (a.tmps.getD c undef)))).run P w = .ok Vs w ∧ All2 (RelP F γ s.mem w) ps Vs
  | [], ps, h => by
    simp only [resPVs, T.den, Option.some.injEq] at h; subst h
    exact ⟨[], by simp, trivial⟩
  | rv :: l, ps, h => by
    simp only [resPVs] at h
    rw [T.den_bind] at h
    cases hp : (resPV P s rv).den with
    | none => rw [hp] at h; cases h
    | some p =>
    rw [hp] at h
    simp only [Option.bind_some] at h
    rw [T.den_bind] at h
    cases hps : (resPVs P s l).den with
    | none => rw [hps] at h; cases h
    | some ps' =>
    rw [hps] at h
    simp only [Option.bind_some] at h
    obtain rfl := Option.some.inj h
    obtain ⟨V, h1, h2⟩ := resPV_run R hp
    obtain ⟨Vs, h3, h4⟩ := resPVs_run R l ps' hps
    refine ⟨V :: Vs, ?_, h2, h4⟩
    rw [List.mapM_cons]
    simp only [Sem.run_bind, h1, Result.andThen_ok, h3, Sem.run_pure]
theorem resSV_rel {F : Nat → Prop} {γ : GM} {m : MM} {w : World} {ps : List PV} {Vs : List Value} (h : All2 (RelP F γ m w) ps Vs) : RelV F γ m w (resSV ps) (if h : Vs.toArray.size = 1 then Vs.toArray[0] else .tuple Vs.toArray) := by
  match ps, Vs, h with
  | [], [], h => exact ⟨_, rfl, trivial⟩
  | [p], [V], h => exact h.1
  | p :: p' :: ps, V :: V' :: Vs, h =>
    rw [dif_neg (by simp)]
    exact ⟨_, rfl, h⟩
  | [p], V :: V' :: Vs, h => exact h.2.elim
  | p :: p' :: ps, [V], h => exact h.2.elim
  | [], V :: Vs, h => exact h.elim
  | p :: ps, [], h => exact h.elim
theorem results_run {A : Nat → Prop} {w0 : World} {F : Nat → Prop} {γ : GM} {s : St} {a : Act} {w : World} (R : Rel A w0 F γ s a w) {fn : Func} {ps : List PV} (h : (resPVs P s fn.results.toList).den = some ps) :
    ∃ Vs, (results fn a.tmps).run P w = .ok (if h : Vs.toArray.size = 1 then Vs.toArray[0] else .tuple Vs.toArray) w ∧ All2 (RelP F γ s.mem w) ps Vs := by
  obtain ⟨Vs, h1, h2⟩ := resPVs_run R _ _ h
  refine ⟨Vs, ?_, h2⟩
  unfold results
  rw [Sem.run_bind, Array.mapM_eq_mapM_toList, Sem.run_map]
  erw [h1]
  rfl
theorem allRo_spec : ∀ {es : List Ent}, allRo es = true → ∀ (i : Nat) (e : Ent), es[i]? = some e → e.own = false
  | [], _, i, e, h => by simp at h
  | x :: es, h, i, e, he => by
    simp only [allRo] at h
    split at h
    · cases h
    · rename_i hx
      cases i with
      | zero => simp at he; subst he; exact hx
      | succ i => exact allRo_spec h i e (by simpa using he)
/-- A function is what the abstract interpreter tells of its body. -/
theorem fn_ok (hmix : P.follows .mixedOrders = true) (hE : EnvOk P env) {f : FuncId} {fn : Func} {sp : Spec} (hf : P.funcs[f]? = some fn) (hlp : ∀ c, fn.body = some c → LpOk P lenv c) {dec : List U → Option sp.β}
    (hdec : ∀ u r, dec u = some r → sp.enc r = u) (hS : ∀ us r, sp.G us = some r → (runF P env lenv fn sp.args sp.res dec us).den = some r) : FnOk P f sp := by
  intro us r hG γ w Vs ps es hmk hA hBs hbnd
  have h := hS us r hG
  unfold runF at h
  rw [hmk] at h
  cases hbody : fn.body with
  | none => rw [hbody] at h; cases h
  | some c =>
  rw [hbody] at h
  simp only at h
  split at h
  case h_2 => exact (den_fail h).elim
  rename_i hro
  rw [T.den_bind] at h
  cases hx : (runC P env lenv c ⟨ps.map .pv ++ List.replicate (fn.ntmps - len ps) undefS, memOf es, len es⟩).den with
  | none => rw [hx] at h; cases h
  | some z =>
  obtain ⟨e, s1⟩ := z
  rw [hx] at h
  simp only [Option.bind_some] at h
  have hlen := hA.length
  have fin : e ≠ .normal → e ≠ .ret → False := by
    intro h1 h2
    cases e with
    | normal => exact h1 rfl
    | ret => exact h2 rfl
    | exit i => exact den_fail h
  have h : ((resPVs P s1 fn.results.toList).bind fun vs => match rdPs s1.mem sp.res vs with
        | some (us', as) => match okAsg as with | true => T.opt (dec us') .ret | false => .fail
        | none => .fail).den = some r := by
    cases e with
    | normal => exact h
    | ret => exact h
    | exit i => exact (den_fail h).elim
  rw [T.den_bind] at h
  cases hvs : (resPVs P s1 fn.results.toList).den with
  | none => rw [hvs] at h; cases h
  | some vs =>
  rw [hvs] at h
  simp only [Option.bind_some] at h
  split at h
  case h_2 => exact (den_fail h).elim
  rename_i us' as hrd
  split at h
  case h_2 => exact (den_fail h).elim
  rename_i hok
  obtain ⟨r', hr', h2⟩ := den_opt h
  simp only [T.den, Option.some.injEq] at h2
  subst h2
  have hus := hdec _ _ hr'
  refine calls_of_wp hf hbody ?_
  have R0 : Rel (fun g => ∃ b base, b < es.length ∧ γ b = some (g, base)) w (fun b => b < es.length) γ ⟨ps.map .pv ++ List.replicate (fn.ntmps - len ps) undefS, memOf es, len es⟩ { tmps := Vs.toArray ++ Array.replicate (fn.ntmps - Vs.toArray.size) undef, defers := [] } w := by
    refine ⟨Bel.refl _, rfl, by simp [len_eq, hlen], fun t => ?_, fun b e he => ⟨by have he : memOf es b = some e := he; rw [memOf_eq] at he; exact (List.getElem?_eq_some_iff.1 he).1, hBs b e he⟩, fun b e g base he ho hg => ?_, fun b e g base he ho hg => ?_, fun b e g base he hg => ?_⟩
    · rw [nth_eq, List.getD_eq_getElem?_getD, Array.getD_eq_getD_getElem?]
      by_cases ht : t < ps.length
      · rw [List.getElem?_append_left (by simpa using ht), Array.getElem?_append_left (by simp; omega)]
        obtain ⟨V, hV, hrel⟩ := hA.get t ps[t] (List.getElem?_eq_getElem ht)
        simp only [List.getElem?_map, List.getElem?_eq_getElem ht, Option.map_some, Option.getD_some, List.getElem?_toArray, hV]
        exact hrel
      · rw [List.getElem?_append_right (by simp; omega), Array.getElem?_append_right (by simp; omega), List.getElem?_replicate, Array.getElem?_replicate]
        split <;> split <;> exact rfl
    · have he : memOf es b = some e := he
      rw [memOf_eq] at he; rw [allRo_spec hro b e he] at ho; cases ho
    · have he : memOf es b = some e := he
      rw [memOf_eq] at he
      exact .inl ⟨b, base, (List.getElem?_eq_some_iff.1 he).1, hg⟩
    · have he : memOf es b = some e := he
      rw [memOf_eq] at he
      exact hbnd b g base (List.getElem?_eq_some_iff.1 he).1 hg
  refine wp_mono (runC_ok hmix hE c (hlp c hbody) _ e s1 hx _ w _ w _ γ R0 (fun b hb => by show b < len es; rw [len_eq]; exact hb)) ?_
  rintro ex a' w' ⟨rfl, F', γ', R', hF'⟩
  have post : a'.defers = [] ∧ ∃ v, (results fn a'.tmps).run P w' = .ok v w' ∧ ∃ V, Ending.returned v = .returned V ∧ Bel w.heap.size w w' ∧ ∀ q, ∃ (γ' : GM) (vs : List PV) (es' : List Ent), mkPs q sp.res (sp.enc r') = some (vs, es', []) ∧
      (∀ (F' : Nat → Prop) (γ2 : GM) (m' : MM), (∀ (i : Nat) (e : Ent), es'[i]? = some e → F' (q + i) ∧ m' (q + i) = some e ∧ γ2 (q + i) = γ' i) → RelV F' γ2 m' w' (resSV vs) V ∧ ∀ (i : Nat) (e : Ent), es'[i]? = some e → RelB F' γ2 m' w' (q + i) e.blk) ∧
      ∀ (i : Nat) (e : Ent) (g base : Nat), es'[i]? = some e → γ' i = some (g, base) → g < w'.heap.size ∧
        (e.own = true → w.heap.size ≤ g ∧ ∀ (j : Nat) (e2 : Ent) (g2 base2 : Nat), j ≠ i → es'[j]? = some e2 → γ' j = some (g2, base2) → g2 ≠ g) ∧ (e.own = false → w.heap.size ≤ g ∨ ∃ b base', b < es.length ∧ γ b = some (g, base')) := by
    obtain ⟨Vs', q1, q2⟩ := results_run R' hvs
    refine ⟨R'.defers, _, q1, _, rfl, R'.below, fun q => ?_⟩
    obtain ⟨vs', es', k1, k2, k3, k4⟩ := (rdPs_again (γ := γ') (w := w') (F := F') hrd).make q []
    have k1 : mkPs q sp.res (sp.enc r') = some (vs', es', []) := by rw [hus]; simpa using k1
    obtain ⟨γr, hγr⟩ : ∃ γr : GM, ∀ i, γr i = match as[i]? with | some x => shiftA γ' x.1 | none => none := ⟨_, fun _ => rfl⟩
    have hgr : ∀ i x, as[i]? = some x → γr i = shiftA γ' x.1 := fun i x hx => by rw [hγr, hx]
    have hasg : ∀ i e, es'[i]? = some e → ∃ x, as[i]? = some x ∧ AsgOk s1.mem x e := fun i e he => by
      have hi := (List.getElem?_eq_some_iff.1 he).1
      obtain ⟨x, hx⟩ : ∃ x, as[i]? = some x := ⟨_, List.getElem?_eq_getElem (by omega)⟩
      exact ⟨x, hx, k3 i e x he hx⟩
    have src : ∀ i e g base, es'[i]? = some e → γr i = some (g, base) → ∃ c e0 base0 off n, as[i]? = some (some (c, off, n), e.own) ∧ s1.mem c = some e0 ∧ γ' c = some (g, base0) ∧ (e.own = true → e0.own = true) := fun i e g base he hg => by
      obtain ⟨x, hx, hk⟩ := hasg i e he
      rw [hgr i x hx] at hg
      obtain ⟨h1, _, h3⟩ := hk
      obtain ⟨x1, x2⟩ := x
      cases x1 with
      | none => cases hg
      | some y =>
        obtain ⟨c, off, n⟩ := y
        obtain ⟨e0, z1, z2, _⟩ := h3
        simp only [shiftA, Option.map_eq_some_iff] at hg
        obtain ⟨⟨g', base'⟩, z3, z4⟩ := hg
        simp only [Prod.mk.injEq] at z4
        obtain ⟨rfl, _⟩ := z4
        simp only at h1
        subst h1
        exact ⟨c, e0, base', off, n, hx, z1, z3, z2⟩
    refine ⟨γr, vs', es', k1, fun F2 γ2 m2 hcond => ?_, fun i e g base he hg => ?_⟩
    · have T : Told γ' q as es' F2 γ2 m2 := ⟨fun i e he => (hcond i e he).1, fun i e he => (hcond i e he).2.1, fun i x hx => by
        have hi := (List.getElem?_eq_some_iff.1 hx).1
        rw [(hcond i _ (List.getElem?_eq_getElem (by omega))).2.2, hgr i x hx]⟩
      refine ⟨resSV_rel (k4 Vs' q2 F2 γ2 m2 T), fun i e he => ?_⟩
      obtain ⟨x, hx, hk⟩ := hasg i e he
      exact told_relB R' hk (T.place i x hx)
    · obtain ⟨c, e0, base0, off, n, z1, z2, z3, z4⟩ := src i e g base he hg
      refine ⟨R'.bnd c e0 g base0 z2 z3, fun ho => ?_, fun ho => ?_⟩
      · obtain ⟨y1, y2⟩ := R'.own c e0 g base0 z2 (z4 ho) z3
        refine ⟨y1, fun j e2 g2 base2 hne he2 hg2 => ?_⟩
        obtain ⟨c', e0', base0', off', n', x1, x2, x3, x4⟩ := src j e2 g2 base2 he2 hg2
        rw [ho] at z1
        exact y2 c' e0' g2 base0' (Ne.symm (okAsg_spec hok i j c off n _ c' off' n' (Ne.symm hne) z1 x1 rfl)) x2 x3
      · cases hoc : e0.own with
        | true => exact .inl (R'.own c e0 g base0 z2 hoc z3).1
        | false => rcases R'.shr c e0 g base0 z2 hoc z3 with h | h
                   · exact .inr h
                   · exact .inl h
  cases e with
  | normal => exact post
  | ret => exact post
  | exit i => exact (fin (by simp) (by simp)).elim
end
end Go.Proofs.Ytoibhkhgpahdjaa.Vm

/- Code walked in a fence: within a round of a range over a function too. Conditions: no deferred calls in it. -/
import Derived.Test.YtmmaechogibodaaVmY
import Derived.RangeFuncLeaves
import Derived.RangeFuncRecord
import Derived.OrdersIn
import Derived.TacticsIn
set_option linter.unusedVariables false
set_option linter.unusedSimpArgs false
namespace Go.Proofs.Ytmmaechogibodaa.Vm
open Go Go.RowKit
/-- The wide fence, within a round or not. -/
def wr (r : Option Nat) : Fence := { Fence.wide with round := r }
def notDefer (o : Oper) : Bool := match o.op with | .defer _ => false | _ => true
section
variable {P : Program} {A : Ctx} {w0 : World} {F : NS} {γ : GM} {s : St} {a : Act} {w : World}
theorem callsIn_wr {r : Option Nat} {n : Nat} {f : FuncId} {args : Array Value} {w : World} {R : Ending → World → Prop} (h : Calls P f args w R) : CallsIn (wr r) n P f args w R :=
  (callsIn_wide (n := n)).2 h
theorem wr_depth {r : Option Nat} {n : Nat} : (wr r).depth.isSome = true → 1 ≤ n := fun h => by cases h
theorem opIn {o : Oper} {r : Option Nat} {n : Nat} {K K' : Act → World → Prop} {Q1 Q : Exit → Act → World → Prop} (hd : notDefer o = true) (hK : ∀ a w, K a w → K' a w) (hO : ¬ LetsOut Q1) (hP : ∀ c a w, ¬ Q1 (.panic c) a w) (h : o.wp P a w K Q1) : o.wpIn (wr r) n P a w K' Q := by
  unfold Oper.wpIn
  refine ⟨fun _ _ => trivial, ?_⟩
  rw [Oper.semAt_eq _ _ _ (fun c hc => by simp [notDefer, hc] at hd)]
  unfold Oper.wp at h
  generalize (execOp a.eval o).run P w = x at h ⊢
  cases x with
  | ok x w' =>
    cases x with
    | value v => exact hK _ _ h
    | skip => exact hK _ _ h
    | defer d => exact hK _ _ h
    | enter f args =>
      refine ⟨wr_depth, (callsIn_wr h).mono fun e w'' he => ?_⟩
      cases e with
      | returned v => exact hK _ _ he
      | panicked c => exact (hP _ _ _ he).elim
      | outgrown => exact (hO he).elim
    | row row args =>
      have h : Rows P row args w' fun v w'' => K (a.put o.dst v) w'' := h
      refine ⟨wr_depth, fun c cs _ => ?_⟩
      obtain ⟨v, w2, hr, hs⟩ := h c cs
      exact ⟨v, w2, hK _ _ hr, stepsIn_wide.2 hs⟩
    | _ => exact h.elim
  | halt x w' =>
    cases x with
    | panic v => exact (hP _ _ _ h).elim
    | _ => exact h.elim
theorem listIn {ops : Array Oper} {r : Option Nat} {n : Nat} {Q1 Q : Exit → Act → World → Prop} (hO : ¬ LetsOut Q1) (hP : ∀ c a w, ¬ Q1 (.panic c) a w) {l2 : List Oper} (h2 : ∀ a' w', Q1 .normal a' w' → wpListIn (wr r) n P ops Q l2 a' w') :
    ∀ (l1 : List Oper) (a : Act) (w : World), (l1.all notDefer) = true → wpList P ops Q1 l1 a w → wpListIn (wr r) n P ops Q (l1 ++ l2) a w
  | [], a, w, _, h => h2 a w h
  | o :: l1, a, w, hd, h => by
    simp only [List.all_cons, Bool.and_eq_true] at hd
    have ih := listIn hO hP h2 l1
    simp only [wpList] at h
    simp only [List.cons_append, wpListIn]
    split
    · rename_i hw
      rw [if_pos hw] at h
      rcases h with h | h
      · exact opIn hd.1 (fun a w h => ih a w hd.2 h) hO hP h
      · exact (hO h.2).elim
    · rename_i hw
      rw [if_neg hw] at h
      exact ⟨fun _ _ => trivial, ih _ _ hd.2 h⟩
/-- Code without loops and draws, no deferred calls in it. -/
def flatC : Code → Bool
  | .skip => true
  | .ret => true
  | .exit _ => true
  | .seq a b => flatC a && flatC b
  | .cond _ a b => flatC a && flatC b
  | .block _ c => flatC c
  | .region _ ops false => ops.toList.all notDefer
  | _ => false
theorem Ex.to_out (e : Ex) : e.to ≠ .outgrown := by cases e <;> simp [Ex.to]
def InPost (A : Ctx) (w0 : World) (F : NS) (γ : GM) (e : Ex) (s' : St) : Exit → Act → World → Prop := fun ex a' w' => ex = e.to ∧ ∃ F' γ', Rel A w0 F' γ' s' a' w' ∧ (∀ b, F' b → b < s'.nx) ∧ Ext F γ F' γ'
theorem InPost.ext {e : Ex} {s' : St} {F1 : NS} {γ1 : GM} (hx : Ext F γ F1 γ1) {ex : Exit} {a' : Act} {w' : World} (h : InPost A w0 F1 γ1 e s' ex a' w') : InPost A w0 F γ e s' ex a' w' := by
  obtain ⟨h1, F', γ', h2, h3, h4⟩ := h
  exact ⟨h1, F', γ', h2, h3, hx.trans h4⟩
theorem runC_in {env : FuncId → Option Spec} (hE : EnvOk P env) {lenv : Nat → Option LS} {r : Option Nat} {n : Nat} : ∀ (c : Code), flatC c = true → ∀ (s : St) (e : Ex) (s' : St), (runC P env lenv c s).den = some (e, s') → (∀ t m, e ≠ .pan t m) → ∀ (A : Ctx) (w0 : World) (a : Act) (w : World) (F : NS) (γ : GM), Rel A w0 F γ s a w → (∀ b, F b → b < s.nx) →
    c.wpIn (wr r) n P (InPost A w0 F γ e s') a w
  | .skip, _, s, e, s', h, _, A, w0, a, w, F, γ, R, hF => by
    simp only [runC, T.den, Option.some.injEq, Prod.mk.injEq] at h
    obtain ⟨rfl, rfl⟩ := h
    exact wpIn_skip ⟨rfl, F, γ, R, hF, Ext.refl F γ⟩
  | .ret, _, s, e, s', h, _, A, w0, a, w, F, γ, R, hF => by
    simp only [runC, T.den, Option.some.injEq, Prod.mk.injEq] at h
    obtain ⟨rfl, rfl⟩ := h
    exact wpIn_ret ⟨rfl, F, γ, R, hF, Ext.refl F γ⟩
  | .exit id, _, s, e, s', h, _, A, w0, a, w, F, γ, R, hF => by
    simp only [runC, T.den, Option.some.injEq, Prod.mk.injEq] at h
    obtain ⟨rfl, rfl⟩ := h
    exact wpIn_exit ⟨rfl, F, γ, R, hF, Ext.refl F γ⟩
  | .seq x y, hc, s, e, s', h, np, A, w0, a, w, F, γ, R, hF => by
    simp only [flatC, Bool.and_eq_true] at hc
    simp only [runC] at h
    rw [T.den_bind] at h
    cases hx : (runC P env lenv x s).den with
    | none => rw [hx] at h; cases h
    | some z =>
      obtain ⟨e1, s1⟩ := z
      rw [hx] at h
      simp only [Option.bind_some] at h
      have np1 : ∀ t m, e1 ≠ .pan t m := fun t m he => by
        subst he
        simp only [T.den, Option.some.injEq, Prod.mk.injEq] at h
        exact np t m h.1.symm
      refine wpIn_seq (wpIn_mono (runC_in hE x hc.1 s e1 s1 hx np1 A w0 a w F γ R hF) ?_)
      rintro ex a' w' ⟨rfl, F', γ', R', hF', hx'⟩
      cases e1 with
      | normal =>
        refine wpIn_mono (runC_in hE y hc.2 s1 e s' h np A w0 a' w' F' γ' R' hF') ?_
        exact fun ex a2 w2 h2 => h2.ext hx'
      | exit i =>
        simp only [T.den, Option.some.injEq, Prod.mk.injEq] at h
        obtain ⟨rfl, rfl⟩ := h
        exact ⟨rfl, F', γ', R', hF', hx'⟩
      | ret =>
        simp only [T.den, Option.some.injEq, Prod.mk.injEq] at h
        obtain ⟨rfl, rfl⟩ := h
        exact ⟨rfl, F', γ', R', hF', hx'⟩
      | pan t m => exact (np1 t m rfl).elim
  | .cond c x y, hc, s, e, s', h, np, A, w0, a, w, F, γ, R, hF => by
    simp only [flatC, Bool.and_eq_true] at hc
    simp only [runC] at h
    split at h
    · rename_i t
      split at h
      · rename_i b hb
        simp only [T.den] at h
        have hv := cond_slot R hb
        split at h
        · rename_i hbt
          subst hbt
          exact wpIn_cond_true hv (runC_in hE x hc.1 _ e s' h np A w0 a w F γ (R.lit hb) hF)
        · rename_i hbf
          have hbf : b = false := by simpa using hbf
          subst hbf
          exact wpIn_cond_false hv (runC_in hE y hc.2 _ e s' h np A w0 a w F γ (R.lit hb) hF)
      · exact (den_fail h).elim
    · rename_i b
      simp only [T.den] at h
      split at h
      · rename_i hbt
        subst hbt
        exact wpIn_cond_true rfl (runC_in hE x hc.1 _ e s' h np A w0 a w F γ R hF)
      · rename_i hbf
        have hbf : b = false := by simpa using hbf
        subst hbf
        exact wpIn_cond_false rfl (runC_in hE y hc.2 _ e s' h np A w0 a w F γ R hF)
    · exact (den_fail h).elim
  | .block id c, hc, s, e, s', h, np, A, w0, a, w, F, γ, R, hF => by
    simp only [flatC] at hc
    simp only [runC] at h
    rw [T.den_bind] at h
    cases hx : (runC P env lenv c s).den with
    | none => rw [hx] at h; cases h
    | some z =>
      obtain ⟨e1, s1⟩ := z
      rw [hx] at h
      simp only [Option.bind_some] at h
      have np1 : ∀ t m, e1 ≠ .pan t m := fun t m he => by
        subst he
        simp only [T.den, Option.some.injEq, Prod.mk.injEq] at h
        exact np t m h.1.symm
      refine wpIn_block (wpIn_mono (runC_in hE c hc s e1 s1 hx np1 A w0 a w F γ R hF) ?_)
      rintro ex a' w' ⟨rfl, F', γ', R', hF', hx'⟩
      cases e1 with
      | normal =>
        simp only [T.den, Option.some.injEq, Prod.mk.injEq] at h
        obtain ⟨rfl, rfl⟩ := h
        exact ⟨rfl, F', γ', R', hF', hx'⟩
      | ret =>
        simp only [T.den, Option.some.injEq, Prod.mk.injEq] at h
        obtain ⟨rfl, rfl⟩ := h
        exact ⟨rfl, F', γ', R', hF', hx'⟩
      | pan t m => exact (np1 t m rfl).elim
      | exit i =>
        simp only [Ex.to, Exit.inBlock]
        simp only at h
        split at h
        · rename_i hi
          simp only [T.den, Option.some.injEq, Prod.mk.injEq] at h
          obtain ⟨rfl, rfl⟩ := h
          rw [if_pos (by simpa using hi)]
          exact ⟨rfl, F', γ', R', hF', hx'⟩
        · rename_i hi
          simp only [T.den, Option.some.injEq, Prod.mk.injEq] at h
          obtain ⟨rfl, rfl⟩ := h
          rw [if_neg (by simpa using hi)]
          exact ⟨rfl, F', γ', R', hF', hx'⟩
  | .region id ops false, hc, s, e, s', h, np, A, w0, a, w, F, γ, R, hF => by
    simp only [flatC] at hc
    simp only [runC] at h
    have key : wpList P ops (InPost A w0 F γ e s') ops.toList a w := runLX_ok hE (fun a' w' F' γ' R' hF' hx' => ⟨rfl, F', γ', R', hF', hx'⟩) ops.toList 0 s a w F γ R (fun b hb => by have := hF b hb; omega) (Ext.refl F γ) h
    have := listIn (r := r) (n := n) (Q := InPost A w0 F γ e s') (l2 := []) (fun ⟨a, w, q⟩ => e.to_out q.1.symm) (fun c a w q => by
      cases e with
      | pan t m => exact np t m rfl
      | _ => cases q.1) (fun a' w' h => wpListIn_nil h) ops.toList a w hc key
    rw [List.append_nil] at this
    exact wpIn_region_list this
  | .region id ops true, hc, _, _, _, _, _, _, _, _, _, _, _, _, _ => by simp [flatC] at hc
  | .loop c, hc, _, _, _, _, _, _, _, _, _, _, _, _, _ => by simp [flatC] at hc
  | .rangeFunc .., hc, _, _, _, _, _, _, _, _, _, _, _, _, _ => by simp [flatC] at hc
  | .scope _, hc, _, _, _, _, _, _, _, _, _, _, _, _, _ => by simp [flatC] at hc
  | .label _, hc, _, _, _, _, _, _, _, _, _, _, _, _, _ => by simp [flatC] at hc
  | .goto _, hc, _, _, _, _, _, _, _, _, _, _, _, _, _ => by simp [flatC] at hc
  | .refuse _, hc, _, _, _, _, _, _, _, _, _, _, _, _, _ => by simp [flatC] at hc
end
end Go.Proofs.Ytmmaechogibodaa.Vm

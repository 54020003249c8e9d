/- Every operation of the abstract interpreter, guards, regions in the order of their text. Conditions: none here. -/
import Derived.Test.YtmmaechogibodaaVmMb
import Derived.Test.YtmmaechogibodaaVmMa
set_option linter.unusedVariables false
set_option linter.unusedSimpArgs false
namespace Go.Proofs.Ytmmaechogibodaa.Vm
open Go Go.RowKit

section
variable {P : Program} {A : Ctx} {w0 : World} {F : NS} {γ : GM} {s : St} {a : Act} {w : World}
theorem ok_op {env : FuncId → Option Spec} (hE : EnvOk P env) (R : Rel A w0 F γ s a w) {nid : Nat} (hf : ∀ q, nid ≤ q → q < nid + 64 → ¬ F q) {o : Oper} {out : Out} (h : (exOp P env s.ev s.mem nid o).den = some out) : Sim P A w0 F γ nid s o out a w := by
  unfold exOp at h
  split at h
  · rename_i x ho; exact ok_copy R (.inl ho) h
  · rename_i x ho; exact ok_copy R (.inr ho) h
  · rename_i c x y ho
    split at h
    · rename_i t hc; exact ok_pick R ho hc h
    · exact (den_fail h).elim
  · rename_i t ho; exact ok_alloc R hf ho h
  · rename_i t x ho; exact ok_box R hf ho h
  · rename_i t parts ho; exact ok_build R ho h
  · rename_i t n parts ho; exact ok_buildSlice R hf ho h
  · rename_i t x i ho; exact ok_field R ho h
  · rename_i t x ho; exact ok_load R ho h
  · rename_i t x y ho; exact ok_store R ho h
  · rename_i t x i ho; exact ok_fieldAddr R ho h
  · rename_i t x y ho; exact ok_indexAddr R ho h
  · rename_i t x y ho; exact ok_index R ho h
  · rename_i x i ho; exact ok_extract R ho h
  · rename_i op xt x y yt ho; exact ok_binA R ho h
  · rename_i t x y ho; exact ok_makeSlice R hf ho h
  · rename_i t x lo hi mx ho; exact ok_slice R ho h
  · rename_i x args ats ho
    split at h
    · rename_i f hx; exact ok_call hE R hf ho hx h
    · exact (den_fail h).elim
  · rename_i x t ho; exact ok_len R ho h
  · rename_i x y t t2 ho; exact ok_append R hf ho h
  · rename_i ho; exact ok_pure R (fun cs b e => by rw [ho] at e; cases e) h
  · rename_i ho; exact ok_pure R (fun cs b e => by rw [ho] at e; cases e) h
  · rename_i op xt x ho; exact ok_un R ho h
  · rename_i x ho
    split at h
    · rename_i c hx
      split at h
      · rename_i hc; exact ok_nilCheck R ho hx hc h
      · exact (den_fail h).elim
    · exact (den_fail h).elim
  · rename_i ho; exact ok_pure R (fun cs b e => by rw [ho] at e; cases e) h
  · rename_i ho; exact ok_pure R (fun cs b e => by rw [ho] at e; cases e) h
  · rename_i ho; exact ok_pure R (fun cs b e => by rw [ho] at e; cases e) h
  · rename_i src dst x ho; exact ok_conv R hf ho h
  · rename_i t ho; exact ok_makeMap R hf ho h
  · rename_i t x ix ok ho; exact ok_lookup R ho h
  · rename_i t x ix v ho; exact ok_mapUpdate R ho h
  · exact (den_fail h).elim
theorem Rel.lit (R : Rel A w0 F γ s a w) {t : Tmp} {c : Bool} (h : nth undefS s.tmps t = .pv (.one (.val (.bool c)))) : Rel A w0 F γ (s.lit t c) a w := by
  refine { R.toMem with defers := R.defers, size := by rw [R.size]; simp [St.lit, put_eq], slots := fun t' => ?_ }
  have h0 := R.slots t'
  simp only [St.lit, nth_put]
  split
  · rename_i ht; obtain ⟨rfl, _⟩ := ht; rw [h] at h0; exact h0
  · exact h0
theorem Rel.nx (R : Rel A w0 F γ s a w) (n : Nat) : Rel A w0 F γ { s with nx := n } a w := { R.toMem with defers := R.defers, size := R.size, slots := R.slots }
theorem slot_bool (R : Rel A w0 F γ s a w) {t : Tmp} {c : Bool} (h : nth undefS s.tmps t = .pv (.one (.val (.bool c)))) : a.tmps[t]? = some (.bool c) := by
  have h0 := R.slots t
  rw [h] at h0
  have h1 : a.tmps.getD t undef = .bool c := h0
  rw [Array.getD_eq_getD_getElem?] at h1
  cases hx : a.tmps[t]? with
  | none => rw [hx] at h1; simp [undef] at h1
  | some v => rw [hx] at h1; simp at h1; rw [h1]
theorem yields_of (R : Rel A w0 F γ s a w) {ops : Array Oper} {g : Nat} {t : Tmp} {c : Bool} (hs : slotOf ops.toList g = some t) (h : nth undefS s.tmps t = .pv (.one (.val (.bool c)))) : yielded ops a.tmps g = some c := by
  unfold slotOf at hs
  split at hs
  · rename_i o ho
    rw [nth?_eq] at ho
    have ho : ops[g]? = some o := by simpa using ho
    simp [yielded, ho, hs, slot_bool R h]
  · cases hs
theorem yields_none (R : Rel A w0 F γ s a w) {ops : Array Oper} {g : Nat} {t : Tmp} (hs : slotOf ops.toList g = some t) (h : nth undefS s.tmps t = .pv (.one (.val (.tuple #[])))) : yielded ops a.tmps g = none := by
  unfold slotOf at hs
  split at hs
  · rename_i o ho
    rw [nth?_eq] at ho
    have ho : ops[g]? = some o := by simpa using ho
    have h0 := R.slots t
    rw [h] at h0
    have h1 : a.tmps.getD t undef = .tuple #[] := h0
    rw [Array.getD_eq_getD_getElem?] at h1
    cases hx : a.tmps[t]? with
    | none => simp [yielded, ho, hs, hx]
    | some v => rw [hx] at h1; simp at h1; subst h1; simp [yielded, ho, hs, hx]
  · cases hs
/-- The model's step over an operation, guard and all. -/
def Step (P : Program) (ops : Array Oper) (o : Oper) (a : Act) (w : World) (K : Act → World → Prop) (Q : Exit → Act → World → Prop) : Prop :=
  if Region.wanted o (yielded ops a.tmps) then o.wp P a w K Q else K (a.put o.dst undef) w
theorem run1_den {env : FuncId → Option Spec} {nid : Nat} {o : Oper} {s' : St} (h : (run1 P env nid o s).den = some s') : ∃ out, (exOp P env s.ev s.mem nid o).den = some out ∧ s' = s.app o.dst out := by
  unfold run1 at h
  rw [T.den_bind] at h
  cases hx : (exOp P env s.ev s.mem nid o).den with
  | none => rw [hx] at h; cases h
  | some out => rw [hx] at h; simp [T.den] at h; exact ⟨out, rfl, h.symm⟩
theorem step_ok {env : FuncId → Option Spec} (hE : EnvOk P env) {ops : Array Oper} (R : Rel A w0 F γ s a w) {nid : Nat} (hf : ∀ q, nid ≤ q → q < nid + 64 → ¬ F q) {o : Oper} {s' : St} (h : (step1 P env ops.toList nid o s).den = some s') {K : Act → World → Prop} {Q : Exit → Act → World → Prop}
    (hK : ∀ a' w' F' γ', Rel A w0 F' γ' s' a' w' → (∀ b, F' b → F b ∨ (nid ≤ b ∧ b < nid + 64)) → Ext F γ F' γ' → K a' w') : Step P ops o a w K Q := by
  have skip : ∀ {s1 : St}, Rel A w0 F γ s1 a w → s' = skip1 o s1 → K (a.put o.dst undef) w := fun {s1} R1 e => by
    subst e; exact hK _ _ F γ (R1.putV o.dst rfl) (fun b hb => .inl hb) (Ext.refl F γ)
  have run : ∀ {s1 : St}, Rel A w0 F γ s1 a w → (run1 P env nid o s1).den = some s' → o.wp P a w K Q := fun {s1} R1 e => by
    obtain ⟨out, h1, rfl⟩ := run1_den e
    exact ok_op hE R1 hf h1 K Q fun V w' F' γ' R' hF hx => hK _ _ F' γ' R' hF hx
  unfold Step
  unfold step1 at h
  split at h
  · rename_i hg
    rw [if_pos (by simp [Region.wanted, hg])]
    exact run R h
  · rename_i g want hg
    split at h
    · rename_i t ht
      split at h
      · rename_i c hc
        have hy := yields_of R ht hc
        have R' : ∀ b, c = b → Rel A w0 F γ (s.lit t b) a w := fun b e => e ▸ R.lit hc
        split at h
        · simp only [T.den] at h
          split at h
          · rename_i hct
            rw [if_pos (by simp [Region.wanted, hg, hy, hct])]
            exact run (R' true hct) h
          · rename_i hcf
            have hcf : c = false := by simpa using hcf
            rw [if_neg (by simp [Region.wanted, hg, hy, hcf])]
            exact skip (R' false hcf) (Option.some.inj h).symm
        · simp only [T.den] at h
          split at h
          · rename_i hct
            rw [if_neg (by simp [Region.wanted, hg, hy, hct])]
            exact skip (R' true hct) (Option.some.inj h).symm
          · rename_i hcf
            have hcf : c = false := by simpa using hcf
            rw [if_pos (by simp [Region.wanted, hg, hy, hcf])]
            exact run (R' false hcf) h
      · rename_i hc
        have hy := yields_none R ht hc
        rw [if_neg (by simp [Region.wanted, hg, hy])]
        exact skip R (Option.some.inj h).symm
      · exact (den_fail h).elim
    · exact (den_fail h).elim
theorem runL_ok {env : FuncId → Option Spec} (hE : EnvOk P env) {ops : Array Oper} {nx : Nat} {Q : Exit → Act → World → Prop} {s' : St} {F0 : NS} {γ0 : GM} (hQ : ∀ a' w' F' γ', Rel A w0 F' γ' s' a' w' → (∀ b, F' b → b < s'.nx) → Ext F0 γ0 F' γ' → Q .normal a' w') :
    ∀ (l : List Oper) (i : Nat) (s : St) (a : Act) (w : World) (F : NS) (γ : GM), Rel A w0 F γ s a w → (∀ b, F b → b < nx + 64 * i) → Ext F0 γ0 F γ → (runL P env ops.toList nx l i s).den = some s' → wpList P ops Q l a w
  | [], i, s, a, w, F, γ, R, hF, hx, h => by
    simp only [runL, T.den, Option.some.injEq] at h
    subst h
    exact wpList_nil (hQ a w F γ (R.nx _) hF hx)
  | o :: l, i, s, a, w, F, γ, R, hF, hx, h => by
    simp only [runL] at h
    rw [T.den_bind] at h
    cases hx1 : (step1 P env ops.toList (nx + 64 * i) o s).den with
    | none => rw [hx1] at h; cases h
    | some s1 =>
      rw [hx1] at h
      simp only [Option.bind_some] at h
      refine wpList_step fun K hK => ?_
      refine step_ok hE R (fun q h1 h2 hb => by have := hF q hb; omega) hx1 (fun a' w' F' γ' R' hF' hx' => hK a' w' ?_)
      exact runL_ok hE hQ l (i + 1) s1 a' w' F' γ' R' (fun b hb => by
        rcases hF' b hb with h | h
        · have := hF b h; omega
        · omega) (hx.trans hx') h
/-- The names of what came in: kept by operations. -/
theorem step1_rt {env : FuncId → Option Spec} {ops : List Oper} {nid : Nat} {o : Oper} {s s' : St} (h : (step1 P env ops nid o s).den = some s') : s'.rt = s.rt := by
  have run : ∀ {s1 : St}, s1.rt = s.rt → (run1 P env nid o s1).den = some s' → s'.rt = s.rt := fun {s1} e h => by
    obtain ⟨out, _, rfl⟩ := run1_den h
    exact e
  have skip : ∀ {s1 : St}, s1.rt = s.rt → some (skip1 o s1) = some s' → s'.rt = s.rt := fun {s1} e h => by
    obtain rfl := Option.some.inj h
    exact e
  unfold step1 at h
  split at h
  · exact run rfl h
  · split at h
    · split at h
      · split at h
        · simp only [T.den] at h
          split at h
          · exact run (by exact rfl) h
          · exact skip (by exact rfl) h
        · simp only [T.den] at h
          split at h
          · exact skip (by exact rfl) h
          · exact run (by exact rfl) h
      · exact skip rfl h
      · exact (den_fail h).elim
    · exact (den_fail h).elim
theorem runL_rt {env : FuncId → Option Spec} {ops : List Oper} {nx : Nat} : ∀ (l : List Oper) (i : Nat) (s s' : St), (runL P env ops nx l i s).den = some s' → s'.rt = s.rt
  | [], i, s, s', h => by
    simp only [runL, T.den, Option.some.injEq] at h
    subst h; rfl
  | o :: l, i, s, s', h => by
    simp only [runL] at h
    rw [T.den_bind] at h
    cases hx1 : (step1 P env ops (nx + 64 * i) o s).den with
    | none => rw [hx1] at h; cases h
    | some s1 =>
      rw [hx1] at h
      simp only [Option.bind_some] at h
      exact (runL_rt l (i + 1) s1 s' h).trans (step1_rt hx1)
end
end Go.Proofs.Ytmmaechogibodaa.Vm

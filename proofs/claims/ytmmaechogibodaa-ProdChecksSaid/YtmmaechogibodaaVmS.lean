/- Regions whose order is drawn: whatever the order is. Conditions: the program follows the model's mixed orders. -/
import Derived.Test.YtmmaechogibodaaVmQ
set_option linter.unusedVariables false
set_option linter.unusedSimpArgs false
namespace Go.Proofs.Ytmmaechogibodaa.Vm
open Go Go.RowKit

section
variable {P : Program} {A : Ctx} {w0 : World} {F : NS} {γ : GM} {s : St} {a : Act} {w : World}
theorem curL_ext : ∀ (os : List Oper) (ds : List Did) (i : Nat) (p q : Nat → Bool) (s : St), (∀ j, i ≤ j → j < i + os.length → p j = q j) → curL os ds i p s = curL os ds i q s
  | o :: os, d :: ds, i, p, q, s, h => by
    simp only [curL, h i (Nat.le_refl _) (by simp)]
    exact curL_ext os ds (i + 1) p q _ fun j h1 h2 => h j (by omega) (by simp; omega)
  | [], _, _, _, _, _, _ => by simp [curL]
  | _ :: _, [], _, _, _, _, _ => by simp [curL]
theorem runD_spec {env : FuncId → Option Spec} {L : List Oper} {nx : Nat} : ∀ (os : List Oper) (i : Nat) (s : St) (ds : List Did) (s' : St), (runD P env L nx os i s).den = some (ds, s') →
    ds.length = os.length ∧ s' = curL os ds i (fun _ => true) s ∧ ∀ (j : Nat) (o : Oper) (d : Did), os[j]? = some o → ds[j]? = some d →
      (stepD1 P env L (nx + 64 * (i + j)) o (curL os ds i (fun k => decide (k < i + j)) s)).den = some (d, (curL os ds i (fun k => decide (k < i + j)) s).app o.dst d.out)
  | [], i, s, ds, s', h => by
    simp only [runD, T.den, Option.some.injEq, Prod.mk.injEq] at h
    obtain ⟨rfl, rfl⟩ := h
    exact ⟨rfl, rfl, fun j o d h => by simp at h⟩
  | o :: os, i, s, ds, s', h => by
    simp only [runD] at h
    rw [T.den_bind] at h
    cases hx : (stepD1 P env L (nx + 64 * i) o s).den with
    | none => rw [hx] at h; cases h
    | some y =>
      obtain ⟨d, s1⟩ := y
      rw [hx] at h
      simp only [Option.bind_some] at h
      rw [T.den_bind] at h
      cases hy : (runD P env L nx os (i + 1) s1).den with
      | none => rw [hy] at h; cases h
      | some y =>
        obtain ⟨ds', s2⟩ := y
        rw [hy] at h
        simp only [Option.bind_some, T.den, Option.some.injEq, Prod.mk.injEq] at h
        obtain ⟨rfl, rfl⟩ := h
        obtain ⟨i1, i2, i3⟩ := runD_spec os (i + 1) s1 ds' s2 hy
        have e1 := stepD_app hx
        subst e1
        refine ⟨by simp [i1], by simpa [curL] using i2, fun j o' d' ho hd => ?_⟩
        cases j with
        | zero =>
          simp only [List.getElem?_cons_zero, Option.some.injEq] at ho hd
          subst ho; subst hd
          have e : curL (o :: os) (d :: ds') i (fun k => decide (k < i + 0)) s = s := curL_none _ _ _ _ _ fun j hj => by simp; omega
          rw [e, Nat.add_zero]; exact hx
        | succ j =>
          have := i3 j o' d' (by simpa using ho) (by simpa using hd)
          have e : curL (o :: os) (d :: ds') i (fun k => decide (k < i + (j + 1))) s = curL os ds' (i + 1) (fun k => decide (k < i + 1 + j)) (s.app o.dst d.out) := by
            simp only [curL]
            rw [if_pos (by simp), show i + (j + 1) = i + 1 + j by omega]
          rw [e, show i + (j + 1) = i + 1 + j by omega]; exact this
theorem freeWith_spec {L : List Oper} {oi : Oper} {di : Did} {i : Nat} : ∀ (os : List Oper) (ds : List Did), freeWith L oi di i os ds = true → ∀ (k : Nat) (o : Oper) (d : Did), os[k]? = some o → ds[k]? = some d → apart L oi o di d = true ∨ reach L 8 o i = true
  | o :: os, d :: ds, h, k, o', d', ho, hd => by
    simp only [freeWith, Bool.and_eq_true, Bool.or_eq_true] at h
    cases k with
    | zero => simp at ho hd; subst ho; subst hd; exact h.1
    | succ k => exact freeWith_spec os ds h.2 k o' d' (by simpa using ho) (by simpa using hd)
  | [], _, _, k, o', d', ho, _ => by simp at ho
  | _ :: _, [], _, k, o', d', _, hd => by simp at hd
theorem freeAll_spec {L : List Oper} : ∀ (os : List Oper) (ds : List Did) (i : Nat), freeAll L os ds i = true → ∀ (j k : Nat) (o : Oper) (d : Did) (o' : Oper) (d' : Did), j < k → os[j]? = some o → ds[j]? = some d → os[k]? = some o' → ds[k]? = some d' → apart L o o' d d' = true ∨ reach L 8 o' (i + j) = true
  | o0 :: os, d0 :: ds, i, h, j, k, o, d, o', d', hjk, ho, hd, ho', hd' => by
    simp only [freeAll, Bool.and_eq_true] at h
    cases j with
    | zero =>
      simp at ho hd; subst ho; subst hd
      cases k with
      | zero => omega
      | succ k => exact freeWith_spec os ds h.1 k o' d' (by simpa using ho') (by simpa using hd')
    | succ j =>
      cases k with
      | zero => omega
      | succ k =>
        have := freeAll_spec os ds (i + 1) h.2 j k o d o' d' (by omega) (by simpa using ho) (by simpa using hd) (by simpa using ho') (by simpa using hd')
        rwa [show i + (j + 1) = i + 1 + j by omega]
  | [], _, _, _, j, k, o, d, o', d', _, ho, _, _, _ => by simp at ho
  | _ :: _, [], _, _, j, k, o, d, o', d', _, _, hd, _, _ => by simp at hd
theorem edgesOk_spec : ∀ (os : List Oper) (i : Nat), edgesOk os i = true → ∀ (k : Nat) (o : Oper), os[k]? = some o → ∀ e ∈ o.after.toList, binding e = true → e.on < i + k
  | o :: os, i, h, k, o', ho, e, he, hb => by
    simp only [edgesOk, Bool.and_eq_true, List.all_eq_true] at h
    cases k with
    | zero =>
      simp at ho; subst ho
      have := h.1 e he
      simp [hb] at this; omega
    | succ k => have := edgesOk_spec os (i + 1) h.2 k o' (by simpa using ho) e he hb; omega
  | [], _, _, k, o', ho, _, _, _ => by simp at ho
theorem binds_eq (e : Edge) : Region.binds .any e = binding e := by
  unfold Region.binds binding
  cases e.ground <;> rfl
theorem bound_spec {o : Oper} {i : Nat} (h : bound o i = true) : ∃ e ∈ o.after, Region.binds .any e = true ∧ e.on = i := by
  unfold bound at h
  obtain ⟨e, he, h2⟩ := List.any_eq_true.1 h
  simp only [Bool.and_eq_true, beq_iff_eq] at h2
  exact ⟨e, by simpa using he, (binds_eq e).trans h2.1, h2.2⟩
theorem reach_listed {L : List Oper} {p : Nat → Bool} (hcl : ∀ (j : Nat) (o : Oper), p j = true → L[j]? = some o → ∀ e ∈ o.after, Region.binds .any e = true → p e.on = true) {i : Nat} : ∀ (f : Nat) (o : Oper), (∀ e ∈ o.after, Region.binds .any e = true → p e.on = true) → reach L f o i = true → p i = true
  | 0, o, ho, h => by
    obtain ⟨e, he, hb, hon⟩ := bound_spec h
    rw [← hon]; exact ho e he hb
  | f + 1, o, ho, h => by
    simp only [reach, Bool.or_eq_true] at h
    rcases h with h | h
    · obtain ⟨e, he, hb, hon⟩ := bound_spec h
      rw [← hon]; exact ho e he hb
    · obtain ⟨e, he, h2⟩ := List.any_eq_true.1 h
      simp only [Bool.and_eq_true] at h2
      obtain ⟨hb, h3⟩ := h2
      have hp := ho e (by simpa using he) ((binds_eq e).trans hb)
      split at h3
      · rename_i o' ho'
        rw [nth?_eq] at ho'
        exact reach_listed hcl f o' (hcl e.on o' hp ho') h3
      · cases h3
theorem apart_spec {L : List Oper} {o o' : Oper} {d d' : Did} (h : apart L o o' d d' = true) : (∀ t, o.dst = some t → t ∉ looks L o') ∧ (∀ t, o'.dst = some t → t ∉ looks L o) ∧ (∀ t, o.dst = some t → o'.dst ≠ some t) ∧
    (∀ q ∈ keys d.out.upd, q ∉ d'.ids) ∧ (∀ q ∈ keys d'.out.upd, q ∉ d.ids) ∧ (∀ q ∈ keys d.out.upd, q ∉ keys d'.out.upd) := by
  unfold apart at h
  simp only [Bool.and_eq_true, Bool.not_eq_true'] at h
  obtain ⟨⟨⟨⟨⟨h1, h2⟩, h3⟩, h4⟩, h5⟩, h6⟩ := h
  refine ⟨fun t ht => meets_false h1 t (by simp [dstL, ht]), fun t ht => meets_false h2 t (by simp [dstL, ht]), fun t ht ht' => meets_false h3 t (by simp [dstL, ht]) (by simp [dstL, ht']), meets_false h4, meets_false h5, meets_false h6⟩
theorem countP_drop (p : Nat → Bool) (i : Nat) : ∀ l : List Nat, i ∈ l → p i = true → l.countP (fun j => p j && (j != i)) + 1 ≤ l.countP p
  | [], h, _ => by simp at h
  | x :: l, h, hp => by
    have mono : ∀ l : List Nat, l.countP (fun j => p j && (j != i)) ≤ l.countP p := fun l => List.countP_mono_left fun j _ hj => by simp at hj; exact hj.1
    by_cases hx : x = i
    · subst hx
      rw [List.countP_cons_of_neg (by simp), List.countP_cons_of_pos hp]
      have := mono l; omega
    · have hi : i ∈ l := (List.mem_cons.1 h).resolve_left fun h => hx h.symm
      have ih := countP_drop p i l hi hp
      by_cases hpx : p x = true
      · rw [List.countP_cons_of_pos (by simp [hpx, hx]), List.countP_cons_of_pos hpx]; omega
      · rw [List.countP_cons_of_neg (by simp [hpx]), List.countP_cons_of_neg hpx]; exact ih
end
end Go.Proofs.Ytmmaechogibodaa.Vm

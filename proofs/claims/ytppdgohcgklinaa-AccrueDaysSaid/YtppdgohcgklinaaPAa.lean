/- Rounding, by the size of what is rounded. Conditions: a part above nought. -/
import Derived.Test.YtppdgohcgklinaaPRj
set_option linter.unusedVariables false
set_option linter.unusedSimpArgs false
namespace Go.Proofs.Ytppdgohcgklinaa.Wide
open Go Go.RowKit Go.Proofs.Ytppdgohcgklinaa.Vm
theorem cmp3_mono {r r' B : Int} (h : r ≤ r') : cmp3 (r * 2) B ≤ cmp3 (r' * 2) B := by
  unfold cmp3
  by_cases c : r * 2 < B
  · rw [if_pos c]; split <;> (try split) <;> omega
  · rw [if_neg c, if_neg (show ¬ r' * 2 < B by omega)]
    split
    · rw [if_pos (by omega)]; omega
    · split <;> omega
theorem moreB_mono {m k k' w : Int} (h : k ≤ k') (hk : k = -1 ∨ k = 0 ∨ k = 1) (hk' : k' = -1 ∨ k' = 0 ∨ k' = 1) (hm : moreB m k w false = true) : moreB m k' w false = true := by
  unfold moreB at *
  by_cases m0 : m = 0
  · simp [m0] at hm
  by_cases m1 : m = 1
  · simp [m1]
  by_cases m2 : m = 2
  · simp [m2] at hm
  by_cases m3 : m = 3
  · simp [m3]
  by_cases m4 : m = 4
  · simp [m4] at hm ⊢; omega
  by_cases m5 : m = 5
  · simp [m5] at hm ⊢; omega
  simp only [m0, m1, m2, m3, m4, m5, if_false] at hm ⊢
  rcases hk with rfl | rfl | rfl <;> rcases hk' with rfl | rfl | rfl <;> first | exact hm | omega | rfl | (simp at hm; done) | simp
theorem roundS_mono {A A' B m : Int} (hA : 0 ≤ A) (h : A ≤ A') (hB : 0 < B) : roundS false A B m ≤ roundS false A' B m := by
  have q := Int.ediv_le_ediv hB h
  have two := roundS_two false A B m
  have two' := roundS_two false A' B m
  by_cases c : A / B < A' / B
  · rcases two with e | ⟨e, _⟩ <;> rcases two' with e' | ⟨e', _⟩ <;> rw [e, e'] <;> omega
  · have hq : A / B = A' / B := by omega
    have e1 := Int.emod_add_mul_ediv A B
    have e2 := Int.emod_add_mul_ediv A' B
    rw [← hq] at e2
    have hr : A % B ≤ A' % B := by omega
    have hr0 := Int.emod_nonneg A (show B ≠ 0 by omega)
    unfold roundS
    rw [← hq]
    by_cases z : A % B = 0
    · rw [if_pos z]
      split
      · omega
      · split <;> omega
    · rw [if_neg z, if_neg (show ¬ A' % B = 0 by omega)]
      by_cases g : moreB m (cmp3 (A % B * 2) B) (wd0 (A / B)) false = true
      · rw [if_pos g, if_pos (moreB_mono (cmp3_mono hr) (cmp3_bd _ _) (cmp3_bd _ _) g)]
        omega
      · rw [if_neg g]; split <;> omega
theorem roundS_zero (B m : Int) : roundS false 0 B m = 0 := by
  unfold roundS; simp
end Go.Proofs.Ytppdgohcgklinaa.Wide

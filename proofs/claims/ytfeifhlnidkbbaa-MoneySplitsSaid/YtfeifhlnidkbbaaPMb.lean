/- Money: the law MoneySums. Conditions: none here. -/
import Derived.Test.YtfeifhlnidkbbaaPMa
set_option linter.unusedVariables false
set_option linter.unusedSimpArgs false
namespace Go.Proofs.Ytfeifhlnidkbbaa.Wide
open Go Go.RowKit Go.Proofs.Ytfeifhlnidkbbaa.Vm
theorem rcur_ok (K : Nat) (c : Int) : F.ref05_Cur K c = some (decide (Cu c)) := by
  unfold F.ref05_Cur
  rw [bi_eq]
  by_cases h : c ≥ 0
  · rw [if_pos (by simpa using h)]
    congr 1
    apply decide_eq_decide.2
    unfold Cu
    omega
  · rw [if_neg (by simpa using h)]
    have : ¬ Cu c := by unfold Cu; omega
    simp [this]
theorem ramount_ok (K : Nat) (n : Int) : F.ref05_Amount K n = some (decide (Am n)) := within_ok K n
theorem rform_ok (K : Nat) (c n : Int) : F.ref05_Form K c n = some (decide (Cu c ∧ Am n)) := by
  unfold F.ref05_Form
  rw [rcur_ok, Option.bind_some, bi_eq]
  by_cases h : Cu c
  · rw [if_pos (by simpa using h), ramount_ok, Option.bind_some]
    simp [h]
  · rw [if_neg (by simpa using h)]
    simp [h]
/-- What a sum or difference comes to. -/
def two (c n d m x : Int) : Int × Int × Int := if (Cu c ∧ Am n) ∧ (Cu d ∧ Am m) then (if c = d then (if Am x then (c, x, 0) else (0, 0, 4)) else (0, 0, 10)) else (0, 0, 3)
def ord (c n d m : Int) : Int × Int := if (Cu c ∧ Am n) ∧ (Cu d ∧ Am m) then (if c = d then (cmp3' n m, 0) else (0, 10)) else (0, 3)
namespace L
end L
end Go.Proofs.Ytfeifhlnidkbbaa.Wide

/- Money: the document's examples; checks, sums, order. Conditions: none here. -/
import Derived.Test.YtfeifhlnidkbbaaFE
import Derived.Test.YtfeifhlnidkbbaaPWa
import Derived.KernelRfl
set_option linter.unusedVariables false
set_option linter.unusedSimpArgs false
namespace Go.Proofs.Ytfeifhlnidkbbaa.Wide
open Go Go.RowKit Go.Proofs.Ytfeifhlnidkbbaa.Vm
/-- Is it a currency; is it an amount? -/
def Cu (c : Int) : Prop := 0 ≤ c ∧ c ≤ 3
def Am (n : Int) : Prop := -10000000000000 ≤ n ∧ n ≤ 10000000000000
instance (c : Int) : Decidable (Cu c) := inferInstanceAs (Decidable (0 ≤ c ∧ c ≤ 3))
instance (n : Int) : Decidable (Am n) := inferInstanceAs (Decidable (-10000000000000 ≤ n ∧ n ≤ 10000000000000))
theorem within_ok (K : Nat) (n : Int) : F.money_within K n = some (decide (Am n)) := by
  unfold F.money_within
  rw [bi_eq]
  by_cases h : n ≥ -10000000000000
  · rw [if_pos (by simpa using h)]
    congr 1
    apply decide_eq_decide.2
    unfold Am
    omega
  · rw [if_neg (by simpa using h)]
    have : ¬ Am n := by unfold Am; omega
    simp [this]
theorem name_in (K : Nat) {c : Int} (h : Cu c) : ∃ s, F.money_name K c = some s ∧ sEq s ⟨#[]⟩ = false ∧ s.size = 3 := by
  unfold F.money_name Cu at *
  simp only [bi_eq]
  obtain rfl | rfl | rfl | rfl : c = 0 ∨ c = 1 ∨ c = 2 ∨ c = 3 := by omega
  · exact ⟨_, by rw [if_pos (by decide)], by decide +kernel, rfl⟩
  · exact ⟨_, by rw [if_neg (by decide), if_pos (by decide)], by decide +kernel, rfl⟩
  · exact ⟨_, by rw [if_neg (by decide), if_neg (by decide), if_pos (by decide)], by decide +kernel, rfl⟩
  · exact ⟨_, by rw [if_neg (by decide), if_neg (by decide), if_neg (by decide), if_pos (by decide)], by decide +kernel, rfl⟩
theorem name_out (K : Nat) {c : Int} (h : ¬ Cu c) : F.money_name K c = some ⟨#[]⟩ := by
  unfold F.money_name Cu at *
  simp only [bi_eq]
  rw [if_neg (by simp; omega), if_neg (by simp; omega), if_neg (by simp; omega), if_neg (by simp; omega)]
theorem seq_nil : sEq ⟨#[]⟩ ⟨#[]⟩ = true := by decide +kernel
theorem mcheck_ok (K : Nat) (c n : Int) : F.money_Check K c n = some (if Cu c ∧ Am n then 0 else 3) := by
  unfold F.money_Check
  by_cases h : Cu c
  · obtain ⟨s, e1, e2, _⟩ := name_in K h
    rw [e1, Option.bind_some, bi_eq, if_neg (by rw [e2]; decide), within_ok, Option.bind_some, bi_eq]
    by_cases h2 : Am n
    · rw [if_neg (by simp [h2]), if_pos ⟨h, h2⟩]
    · rw [if_pos (by simp [h2]), if_neg fun k => h2 k.2]
  · rw [name_out K h, Option.bind_some, bi_eq, if_pos seq_nil, if_neg fun k => h k.1]
def cmp3' (a b : Int) : Int := if a < b then -1 else if a > b then 1 else 0
namespace L
end L
end Go.Proofs.Ytfeifhlnidkbbaa.Wide

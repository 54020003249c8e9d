/- Several of my texts in one: plain facts about the printed functions. Conditions: none here. -/
import Derived.Test.YtimhhefngigfeaaPHx
import Derived.Test.YtimhhefngigfeaaFK
set_option linter.unusedVariables false
set_option linter.unusedSimpArgs false
namespace Go.Proofs.Ytimhhefngigfeaa.Wide
open Go Go.RowKit Go.Proofs.Ytimhhefngigfeaa.Vm
end Go.Proofs.Ytimhhefngigfeaa.Wide

namespace Go.Proofs.Ytimhhefngigfeaa.Wide
open Go Go.RowKit Go.Proofs.Ytimhhefngigfeaa.Vm
structure RE (e : List D) (β : Int → Int → Int) (n : Int) : Prop where
  c7 : C7 e β
  n72 : (nth d0 e 72).toI = n
theorem sums_zero : C6 [D.b false, D.l [], D.b false, D.l [], D.b false, D.l [], D.b false, D.l []] fun _ => 0 := by
  intro u u0 u1
  have e : rl 0 = [] := rl_zero (by omega)
  have h : u = 0 ∨ u = 1 ∨ u = 2 ∨ u = 3 := by omega
  rcases h with rfl | rfl | rfl | rfl <;> exact ⟨false, 0, by omega, rfl, by rw [e]; rfl, rfl⟩
def zl : List D := (List.replicate 36 [D.b false, D.l []]).flatten ++ [D.i 0]
theorem zl7 : C7 zl fun _ _ => 0 := by
  intro c u c0 c1 u0 u1
  have e : rl 0 = [] := rl_zero (by omega)
  have h : u = 0 ∨ u = 1 ∨ u = 2 ∨ u = 3 := by omega
  have h' : c = 0 ∨ c = 1 ∨ c = 2 ∨ c = 3 ∨ c = 4 ∨ c = 5 ∨ c = 6 ∨ c = 7 ∨ c = 8 := by omega
  rcases h with rfl | rfl | rfl | rfl <;> rcases h' with rfl | rfl | rfl | rfl | rfl | rfl | rfl | rfl | rfl <;> exact ⟨false, 0, by omega, rfl, by rw [e]; rfl, rfl⟩
theorem zl72 : (nth d0 zl 72).toI = 0 := rfl
end Go.Proofs.Ytimhhefngigfeaa.Wide

/- What the reference answers for package dec: its calls. Conditions: a decimal's parts are int64 and uint64, a scale is an int64. -/
import Derived.Test.YtppdgohcgklinaaPRi
set_option linter.unusedVariables false
set_option linter.unusedSimpArgs false
namespace Go.Proofs.Ytppdgohcgklinaa.Wide
open Go Go.RowKit Go.Proofs.Ytppdgohcgklinaa.Vm
theorem rrounded_ok {K : Nat} (hK : 40000 ≤ K) {b : Bool} {A B mode : Int} (a0 : 0 ≤ A) (a1 : A < TOP) (b0 : 0 < B) (b1 : B < TOP) (m0 : 0 ≤ mode) (m1 : mode ≤ 6) : F.ref01_Rounded K b (rl A) (rl B) mode = some (b, rl (roundS b A B mode)) := by
  have lA := len_top a1
  have lA2 := len_top2 a1
  have lB := len_top b1
  have q0 : 0 ≤ A / B := Int.ediv_nonneg a0 (Int.le_of_lt b0)
  have q1 : A / B ≤ A := Int.ediv_le_self B a0
  have r0 : 0 ≤ A % B := Int.emod_nonneg A (by omega)
  have r1 : A % B < B := Int.emod_lt_of_pos A b0
  have eq := rquo_ok hK a0 b0 (by omega) (by omega)
  have ew := word_ok (K := K) (by omega) (x := 1) (by decide)
  have ep := plus_ok (by omega : 2000 ≤ K) (a := A / B) (b := 1) q0 (by decide) (by have := len_top (a := A / B) (by omega); omega) (by have := len_top (a := 1) (by unfold TOP; omega); omega)
  have lr := len_top (a := A % B) (by omega)
  have lr2 : (rl (A % B + A % B)).length ≤ 13 := by rw [← Int.two_mul]; exact len_top2 (by omega)
  have ep2 := plus_ok (by omega : 2000 ≤ K) (a := A % B) (b := A % B) r0 r0 (by omega) (by omega)
  have ec := compare_ok (by omega : 2000 ≤ K) (a := A % B + A % B) (b := B) (by omega) (by omega) (by omega)
  have z1 := rl_len_zero r0
  have z2 := rl_len_zero q0
  unfold F.ref01_Rounded
  rw [eq, Option.bind_some]
  simp only
  unfold roundS
  by_cases c : A % B = 0
  · rw [if_pos (by simpa using z1.2 c), if_pos c, Int.add_zero]
  · rw [if_neg (by simpa using fun h => c (z1.1 h)), if_neg c, ew, Option.bind_some, ep, Option.bind_some, ep2, Option.bind_some, ec, Option.bind_some]
    rw [show A % B * 2 = A % B + A % B by omega]
    have hc : cmp3 (A % B + A % B) B = -1 ∨ cmp3 (A % B + A % B) B = 0 ∨ cmp3 (A % B + A % B) B = 1 := by unfold cmp3; split <;> (try split) <;> simp
    generalize cmp3 (A % B + A % B) B = k at *
    have hmode : mode = 0 ∨ mode = 1 ∨ mode = 2 ∨ mode = 3 ∨ mode = 4 ∨ mode = 5 ∨ mode = 6 := by omega
    have n0 := nth_rl 0 q0
    rw [Int.pow_zero, Int.ediv_one] at n0
    have par : (nth 0 (rl (A / B)) 0).tmod 2 = wd0 (A / B) % 2 := by
      rw [n0, tm _ (by unfold B32; omega)]
      unfold wd0 B32; omega
    by_cases g : A / B = 0
    · have gz : ¬ ((rl (A / B)).length : Int) > 0 := by have := z2.2 g; omega
      have w : wd0 (A / B) % 2 = 0 := by rw [g]; decide
      rw [if_neg (by simpa using gz)]
      unfold moreB
      rw [w]
      rcases hmode with rfl | rfl | rfl | rfl | rfl | rfl | rfl <;> rcases hc with rfl | rfl | rfl <;> cases b <;> simp
    · have gz : ((rl (A / B)).length : Int) > 0 := by
        have : ¬ ((rl (A / B)).length : Int) = 0 := fun h => g (z2.1 h)
        omega
      have gz' : 0 < (rl (A / B)).length := by omega
      rw [if_pos (by simpa using gz), if_pos (by simpa using gz'), par]
      have hpar : wd0 (A / B) % 2 = 0 ∨ wd0 (A / B) % 2 = 1 := by omega
      generalize wd0 (A / B) = w at *
      unfold moreB
      rcases hmode with rfl | rfl | rfl | rfl | rfl | rfl | rfl <;> rcases hc with rfl | rfl | rfl <;> rcases hpar with h | h <;> cases b <;> simp [h]
end Go.Proofs.Ytppdgohcgklinaa.Wide

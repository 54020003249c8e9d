/- The reference's numbers: their order. Conditions: digits are digits, lists are short. -/
import Derived.Test.YtppdgohcgklinaaPRc
set_option linter.unusedVariables false
set_option linter.unusedSimpArgs false
namespace Go.Proofs.Ytppdgohcgklinaa.Wide
open Go Go.RowKit Go.Proofs.Ytppdgohcgklinaa.Vm
theorem vr_take_lt {l : List Int} (d : Dg l) {m : Nat} (h : m ≤ l.length) : vr (l.take m) < B32 ^ m ∧ 0 ≤ vr (l.take m) := by
  have d' : Dg (l.take m) := fun x hx => d x (List.mem_of_mem_take hx)
  have := vr_lt d'
  rw [List.length_take, Nat.min_eq_left h] at this
  exact ⟨this, vr_nonneg d'⟩
theorem digit_lt {x y P u v : Int} (h : x < y) (hP : 0 < P) (hu : u < P) (hv : 0 ≤ v) : u + x * P < v + y * P := by
  have := Int.mul_le_mul_of_nonneg_right (show x + 1 ≤ y by omega) (show 0 ≤ P by omega)
  rw [Int.add_mul, Int.one_mul] at this
  omega
theorem compare_loop {K : Nat} {l0 l1 : List Int} (d0 : Dg l0) (d1 : Dg l1) (hl : l0.length = l1.length) (hM : l0.length < 900000) : ∀ (k m : Nat), m < k → m ≤ l0.length → vr l0 - vr (l0.take m) = vr l1 - vr (l1.take m) →
    F.ref01_Compare_l6 K k l0 l1 ((m : Int) - 1) = some (if vr l0 < vr l1 then .inr (-1) else if vr l1 < vr l0 then .inr 1 else .inl ())
  | 0, m, h, _, _ => by omega
  | k + 1, m, h, hm, hv => by
    rw [F.ref01_Compare_l6]
    cases m with
    | zero =>
      simp only [List.take_zero, vr] at hv
      rw [if_neg (show ¬ vr l0 < vr l1 by omega), if_neg (show ¬ vr l1 < vr l0 by omega)]
      simp
    | succ m =>
      rw [show ((m + 1 : Nat) : Int) - 1 = (m : Int) by omega]
      simp only [Int.toNat_natCast]
      have g0 : (m : Int) < (l0.length : Int) := by omega
      have g1 : (m : Int) < (l1.length : Int) := by omega
      have hP : (0 : Int) < B32 ^ m := Int.pow_pos (by decide)
      obtain ⟨u0, u1⟩ := vr_take_lt d0 (m := m) (by omega)
      obtain ⟨v0, v1⟩ := vr_take_lt d1 (m := m) (by omega)
      rw [vr_take', vr_take'] at hv
      rcases Int.lt_trichotomy (nth 0 l0 m) (nth 0 l1 m) with c | c | c
      · have := digit_lt c hP u0 v1
        rw [if_pos (show vr l0 < vr l1 by omega)]
        simp [g0, g1, c]
      · have ih := compare_loop (K := K) d0 d1 hl hM k m (by omega) (by omega) (by rw [c] at hv; omega)
        rw [show IntKind.i64.wrap ((m : Int) - 1) = (m : Int) - 1 from iw (by omega) (by omega)]
        simp [g0, g1, c, ih]
      · have := digit_lt c hP v0 u1
        have c' : ¬ nth 0 l0 m < nth 0 l1 m := by omega
        rw [if_neg (show ¬ vr l0 < vr l1 by omega), if_pos (show vr l1 < vr l0 by omega)]
        simp [g0, g1, c, c']
theorem rl_len_lt {a b : Int} (h : (rl a).length < (rl b).length) : a < b := by
  apply Int.lt_of_not_ge
  intro hge
  have := rl_len_mono hge
  omega
theorem compare_ok {K : Nat} (hK : 2000 ≤ K) {a b : Int} (a0 : 0 ≤ a) (b0 : 0 ≤ b) (ha : (rl a).length ≤ 1000) : F.ref01_Compare K (rl a) (rl b) = some (cmp3 a b) := by
  unfold F.ref01_Compare
  by_cases e : (rl a).length = (rl b).length
  · have key := compare_loop (K := K) (dg_rl a) (dg_rl b) e (by omega) K (rl a).length (by omega) (Nat.le_refl _) (by rw [List.take_of_length_le (Nat.le_refl _), List.take_of_length_le (l := rl b) (by omega)]; omega)
    rw [vr_rl a0, vr_rl b0] at key
    rw [show IntKind.i64.wrap (((rl a).length : Int) - 1) = ((rl a).length : Int) - 1 from iw (by omega) (by omega), key]
    rw [if_neg (by rw [e]; simp)]
    unfold cmp3
    by_cases c1 : a < b
    · simp [casO, c1]
    · by_cases c2 : b < a
      · simp [casO, c1, c2]
      · simp [casO, c1, c2]
  · have e' : ¬ ((rl a).length : Int) = ((rl b).length : Int) := by omega
    unfold cmp3
    by_cases c : (rl a).length < (rl b).length
    · have c' : ((rl a).length : Int) < ((rl b).length : Int) := by omega
      have := rl_len_lt c
      rw [if_pos this]
      simp [e', c']
    · have := rl_len_lt (a := b) (b := a) (by omega)
      have c' : ¬ ((rl a).length : Int) < ((rl b).length : Int) := by omega
      rw [if_neg (show ¬ a < b by omega), if_pos this]
      simp [e', c']
end Go.Proofs.Ytppdgohcgklinaa.Wide

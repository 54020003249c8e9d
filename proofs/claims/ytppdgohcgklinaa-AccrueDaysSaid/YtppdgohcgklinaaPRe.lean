/- The reference's numbers: how long they are, which are words. Conditions: digits are digits, lists are short. -/
import Derived.Test.YtppdgohcgklinaaPRd
set_option linter.unusedVariables false
set_option linter.unusedSimpArgs false
namespace Go.Proofs.Ytppdgohcgklinaa.Wide
open Go Go.RowKit Go.Proofs.Ytppdgohcgklinaa.Vm
theorem nth_rl : ∀ (i : Nat) {a : Int}, 0 ≤ a → nth 0 (rl a) i = a / B32 ^ i % B32
  | 0, a, h => by
    by_cases c : 0 < a
    · rw [rl_pos c]; simp [nth]
    · rw [rl_zero (by omega), show a = 0 by omega]; rfl
  | i + 1, a, h => by
    by_cases c : 0 < a
    · rw [rl_pos c]
      show nth 0 (rl (a / B32)) i = _
      rw [nth_rl i (by unfold B32; omega), Int.pow_succ, Int.mul_comm, Int.ediv_ediv_of_nonneg (by decide)]
    · rw [rl_zero (by omega), show a = 0 by omega]; simp [nth]
theorem len_rl_le {a : Int} {n : Nat} (h : (rl a).length = n + 1) : B32 ^ n ≤ a ∧ a < B32 ^ (n + 1) := by
  constructor
  · apply Int.le_of_not_gt
    intro hlt
    have := rl_len_le hlt
    omega
  · have h0 : 0 ≤ a := by
      apply Int.le_of_not_gt
      intro hn
      rw [rl_zero (by omega)] at h; simp at h
    have := vr_lt (dg_rl a)
    rw [vr_rl h0, h] at this
    exact this
theorem b32_pow (n : Nat) : B32 ^ n = 2 ^ (32 * n) := by
  rw [Int.pow_mul, show (2 : Int) ^ 32 = B32 by decide]
theorem blen_half {x : Int} (h : 0 < x) : blen x = blen (x / 2) + 1 := by
  by_cases c : 2 ≤ x
  · have := blen_shift (x := x) 1 (by omega)
    rw [this]; simp; omega
  · rw [show x = 1 by omega]; decide
theorem size_loop {K : Nat} : ∀ (k : Nat) (n x : Int), 0 ≤ n → n + k ≤ 1000000 → 0 ≤ x → x < 2 ^ k → x < 18446744073709551616 → k ≤ 64 → ∀ j, k < j → F.ref01_Size_l5 K j n x = some (n + blen x)
  | 0, n, x, n0, n1, x0, x1, x2, hk, j, hj => by
    obtain ⟨j, rfl⟩ : ∃ i, j = i + 1 := ⟨j - 1, by omega⟩
    rw [F.ref01_Size_l5]
    have : x = 0 := by simp at x1; omega
    subst this
    simp [blen]
  | k + 1, n, x, n0, n1, x0, x1, x2, hk, j, hj => by
    obtain ⟨j, rfl⟩ : ∃ i, j = i + 1 := ⟨j - 1, by omega⟩
    rw [F.ref01_Size_l5]
    by_cases c : 0 < x
    · rw [if_pos (by simpa using c), td _ x0, uw (by omega) (by omega), iw (by omega) (by omega)]
      rw [size_loop k (n + 1) (x / 2) (by omega) (by omega) (by omega) (by rw [Int.pow_succ] at x1; omega) (by omega) (by omega) j (by omega), blen_half c]
      congr 1; omega
    · rw [if_neg (by simpa using c), show x = 0 by omega]
      simp [blen]
theorem size_ok {K : Nat} (hK : 2000 ≤ K) {a : Int} (a0 : 0 ≤ a) (ha : (rl a).length ≤ 1000) : F.ref01_Size K (rl a) = some (blen a) := by
  unfold F.ref01_Size
  cases e : (rl a).length with
  | zero =>
    have : a = 0 := by
      have h := vr_rl a0
      rw [List.length_eq_zero_iff.1 e, vr] at h; exact h.symm
    subst this
    simp [blen]
  | succ n =>
    obtain ⟨h1, h2⟩ := len_rl_le e
    have hp : (0 : Int) < B32 ^ n := Int.pow_pos (by decide)
    have hd0 : 0 < a / B32 ^ n := Int.lt_of_lt_of_le (by decide) ((Int.le_ediv_iff_mul_le hp).2 (by omega) : 1 ≤ a / B32 ^ n)
    have hd1 : a / B32 ^ n < B32 := (Int.ediv_lt_iff_lt_mul hp).2 (by rw [Int.mul_comm, ← Int.pow_succ]; exact h2)
    have hn := nth_rl n a0
    rw [Int.emod_eq_of_lt (by omega) hd1] at hn
    have hs := blen_shift (x := a) (32 * n) (by rw [← b32_pow]; exact h1)
    rw [← b32_pow] at hs
    have key := size_loop (K := K) 33 (32 * (n : Int)) (a / B32 ^ n) (by omega) (by omega) (by omega) (by unfold B32 at *; omega) (by unfold B32 at *; omega) (by decide) K (by omega)
    have i1 : IntKind.i64.wrap (((n + 1 : Nat) : Int) - 1) = (n : Int) := by rw [iw (by omega) (by omega)]; omega
    have i2 : IntKind.i64.wrap (32 * (n : Int)) = 32 * (n : Int) := iw (by omega) (by omega)
    have g : ¬ ((n : Int) + 1 = 0) := by omega
    have g2 : (n : Int) < (n : Int) + 1 := by omega
    have hk : (((32 * n : Nat) : Int)) = 32 * (n : Int) := by omega
    rw [i1, i2, Int.toNat_natCast, hn, key, hs, hk]
    rw [if_neg (by simp; omega), if_pos (by simp; omega), Option.bind_some]
end Go.Proofs.Ytppdgohcgklinaa.Wide

/- The reference's numbers: quotients, powers of ten. Conditions: digits are digits, lists are short. -/
import Derived.Test.YtppdgohcgklinaaPRg
set_option linter.unusedVariables false
set_option linter.unusedSimpArgs false
namespace Go.Proofs.Ytppdgohcgklinaa.Wide
open Go Go.RowKit Go.Proofs.Ytppdgohcgklinaa.Vm
theorem len_small {x A : Int} (h : x ≤ 2 * A) (hA : (rl (2 * A)).length ≤ 1000) : (rl x).length ≤ 1000 := Nat.le_trans (rl_len_mono h) hA
theorem pow_pred {n : Int} (h : 0 ≤ n) : (2 : Int) ^ (n + 1).toNat = 2 ^ n.toNat * 2 := by
  rw [show (n + 1).toNat = n.toNat + 1 by omega, Int.pow_succ]
theorem rquo_loop {K : Nat} (hK : 4000 ≤ K) {A B : Int} (hB : 0 < B) (hA : (rl (2 * A)).length ≤ 1000) : ∀ (k : Nat) (n R q : Int), A = q * B + R → 0 ≤ R → 0 ≤ q → -1 ≤ n → n ≤ 30000 → R < B * 2 ^ (n + 1).toNat → (0 ≤ n → B * 2 ^ n.toNat ≤ 2 * A) → (n + 1).toNat < k → F.ref01_Quo_l3 K k (rl R) (rl B) (rl q) n = some (rl (A % B), rl (A / B))
  | 0, n, R, q, _, _, _, _, _, _, _, h => by omega
  | k + 1, n, R, q, hA1, R0, q0, n0, n1, hR, hT, hk => by
    rw [F.ref01_Quo_l3]
    have hk' : 0 ≤ n → (n - 1 + 1).toNat < k := fun h => by omega
    have qB : q ≤ q * B := by
      have := Int.mul_le_mul_of_nonneg_left (show 1 ≤ B by omega) q0
      omega
    by_cases c : 0 ≤ n
    · have T0 := hT c
      have hp : (0 : Int) < 2 ^ n.toNat := Int.pow_pos (by decide)
      have hTp : 0 < B * 2 ^ n.toNat := Int.mul_pos hB hp
      have h2 : 2 ^ n.toNat ≤ B * 2 ^ n.toNat := by
        have := Int.mul_le_mul_of_nonneg_right (show 1 ≤ B by omega) (show (0 : Int) ≤ 2 ^ n.toNat by omega)
        omega
      have BT : B ≤ B * 2 ^ n.toNat := by
        have := Int.mul_le_mul_of_nonneg_left (show 1 ≤ (2 : Int) ^ n.toNat by omega) (show 0 ≤ B by omega)
        omega
      have e1 := rleft_ok hK (a := B) (n := n) (by omega) (len_small (A := A) (by omega) hA) c n1
      have e2 := compare_ok (by omega : 2000 ≤ K) (a := B * 2 ^ n.toNat) (b := R) (by omega) R0 (len_small T0 hA)
      rw [pow_pred c] at hR
      have hR' : R < 2 * (B * 2 ^ n.toNat) := by
        rw [← Int.mul_assoc] at hR; omega
      have hn1 : (n - 1 + 1).toNat = n.toNat := by omega
      have hT' : 0 ≤ n - 1 → B * 2 ^ (n - 1).toNat ≤ 2 * A := fun h => by
        have e := pow_pred h
        rw [hn1] at e
        have := Int.mul_le_mul_of_nonneg_left (show (2 : Int) ^ (n - 1).toNat ≤ 2 ^ n.toNat by rw [e]; have : (0 : Int) < 2 ^ (n - 1).toNat := Int.pow_pos (by decide); omega) (show 0 ≤ B by omega)
        omega
      have wn : IntKind.i64.wrap (n - 1) = n - 1 := iw (by omega) (by omega)
      by_cases g : B * 2 ^ n.toNat ≤ R
      · have e3 := minus_ok (by omega : 2000 ≤ K) (a := R) (b := B * 2 ^ n.toNat) (by omega) g (len_small (A := A) (by omega) hA)
        have e4 := word_ok (K := K) (by omega) (x := 1) (by decide)
        have e5 := rleft_ok hK (a := 1) (n := n) (by decide) (by rw [rl_pos (by decide), rl_zero (by decide)]; simp) c n1
        rw [Int.one_mul] at e5
        have e6 := plus_ok (by omega : 2000 ≤ K) (a := q) (b := 2 ^ n.toNat) q0 (by omega) (len_small (A := A) (by omega) hA) (len_small (A := A) (by omega) hA)
        have ih := rquo_loop hK hB hA k (n - 1) (R - B * 2 ^ n.toNat) (q + 2 ^ n.toNat) (by rw [Int.add_mul, Int.mul_comm (2 ^ n.toNat) B]; omega) (by omega) (by omega) (by omega) (by omega) (by rw [hn1]; omega) hT' (hk' c)
        have ec : cmp3 (B * 2 ^ n.toNat) R ≤ 0 := by unfold cmp3; split <;> (try split) <;> omega
        simp [c, e1, e2, ec, e3, e4, e5, e6, wn, ih]
      · have ih := rquo_loop hK hB hA k (n - 1) R q hA1 R0 q0 (by omega) (by omega) (by rw [hn1]; omega) hT' (hk' c)
        have ec : ¬ cmp3 (B * 2 ^ n.toNat) R ≤ 0 := by unfold cmp3; rw [if_neg (by omega), if_pos (by omega)]; omega
        simp [c, e1, e2, ec, wn, ih]
    · have hn : n = -1 := by omega
      subst hn
      have hR2 : R < B := by simpa using hR
      obtain ⟨rfl, rfl⟩ := inv_end (n := -1) ⟨hA1, R0, q0, fun _ => hR2, fun h => absurd h (by decide)⟩ hB (by decide)
      simp
theorem blen_bd {x : Int} (h : 0 < x) : 2 ^ ((blen x).toNat - 1) ≤ x ∧ x < 2 ^ (blen x).toNat ∧ 1 ≤ blen x := by
  obtain ⟨m, e, a, b⟩ := blen_spec h
  rw [e, show ((m : Int) + 1).toNat = m + 1 by omega, Nat.add_sub_cancel]
  exact ⟨a, b, by omega⟩
theorem rquo_ok {K : Nat} (hK : 40000 ≤ K) {A B : Int} (hA0 : 0 ≤ A) (hB : 0 < B) (hA : (rl (2 * A)).length ≤ 900) (hBl : (rl B).length ≤ 1000) : F.ref01_Quo K (rl A) (rl B) = some (rl (A / B), rl (A % B)) := by
  have lA : (rl A).length ≤ 900 := Nat.le_trans (rl_len_mono (by omega : A ≤ 2 * A)) hA
  have sA := size_ok (by omega : 2000 ≤ K) hA0 (by omega)
  have sB := size_ok (by omega : 2000 ≤ K) (by omega : 0 ≤ B) hBl
  obtain ⟨b1, b2, b3⟩ := blen_bd hB
  have r0 : 0 ≤ A % B := Int.emod_nonneg _ (by omega)
  have r1 : A % B ≤ A := by
    have e := Int.emod_add_mul_ediv A B
    have := Int.mul_nonneg (show 0 ≤ B by omega) (Int.ediv_nonneg hA0 (show 0 ≤ B by omega))
    omega
  have nr := norm_ok (K := K) (dg_rl (A % B)) (by have := rl_len_mono r1; omega) (by have := rl_len_mono r1; omega)
  rw [vr_rl r0] at nr
  have bA : 0 ≤ blen A ∧ blen A ≤ ((32 * (rl A).length : Nat) : Int) := blen_lt (by
    have := vr_lt (dg_rl A)
    rw [vr_rl hA0, b32_pow] at this
    exact this)
  have bB : blen B ≤ ((32 * (rl B).length : Nat) : Int) := (blen_lt (by
    have := vr_lt (dg_rl B)
    rw [vr_rl (by omega), b32_pow] at this
    exact this)).2
  have wn : IntKind.i64.wrap (blen A - blen B) = blen A - blen B := iw (by omega) (by omega)
  have key : F.ref01_Quo_l3 K K (rl A) (rl B) (rl 0) (blen A - blen B) = some (rl (A % B), rl (A / B)) := by
    by_cases c : -1 ≤ blen A - blen B
    · by_cases hA1 : 0 < A
      · obtain ⟨a1, a2, a3⟩ := blen_bd hA1
        refine rquo_loop (by omega) hB (by omega) K _ A 0 (by omega) hA0 (by decide) c (by omega) ?_ (fun hn => ?_) (by omega)
        · have e : (2 : Int) ^ (blen A).toNat = 2 ^ ((blen B).toNat - 1) * 2 ^ (blen A - blen B + 1).toNat := by
            rw [← Int.pow_add]; congr 1; omega
          have := Int.mul_le_mul_of_nonneg_right b1 (show (0 : Int) ≤ 2 ^ (blen A - blen B + 1).toNat from Int.le_of_lt (Int.pow_pos (by decide)))
          omega
        · have e : (2 : Int) ^ (blen A).toNat = 2 ^ ((blen B).toNat) * 2 ^ (blen A - blen B).toNat := by
            rw [← Int.pow_add]; congr 1; omega
          have h := Int.mul_le_mul_of_nonneg_right (Int.le_of_lt b2) (show (0 : Int) ≤ 2 ^ (blen A - blen B).toNat from Int.le_of_lt (Int.pow_pos (by decide)))
          have e2 : (2 : Int) ^ (blen A).toNat = 2 ^ ((blen A).toNat - 1) * 2 := by
            rw [← Int.pow_succ]; congr 1; omega
          omega
      · have hz : A = 0 := by omega
        subst hz
        refine rquo_loop (by omega) hB (by omega) K _ 0 0 (by omega) (by decide) (by decide) c (by omega) (Int.mul_pos hB (Int.pow_pos (by decide))) (fun hn => ?_) (by omega)
        have : blen 0 = 0 := by decide
        omega
    · have hlt : A < B := by
        by_cases hA1 : 0 < A
        · obtain ⟨a1, a2, a3⟩ := blen_bd hA1
          have := pow_le (show (blen A).toNat ≤ (blen B).toNat - 1 by omega)
          omega
        · omega
      obtain ⟨j, rfl⟩ : ∃ j, K = j + 1 := ⟨K - 1, by omega⟩
      rw [F.ref01_Quo_l3, if_neg (by simp; omega), Int.emod_eq_of_lt hA0 hlt, Int.ediv_eq_zero_of_lt hA0 hlt]
  rw [rl_zero (show (0 : Int) ≤ 0 by decide)] at key
  unfold F.ref01_Quo
  rw [sA, Option.bind_some, sB, Option.bind_some, wn, key, Option.bind_some]
  simp only [nr, Option.bind_some]
end Go.Proofs.Ytppdgohcgklinaa.Wide

/- The reference's numbers: powers of ten, words, whole numbers with a sign. Conditions: numbers below 2^384. -/
import Derived.Test.YtppdgohcgklinaaPRh
set_option linter.unusedVariables false
set_option linter.unusedSimpArgs false
namespace Go.Proofs.Ytppdgohcgklinaa.Wide
open Go Go.RowKit Go.Proofs.Ytppdgohcgklinaa.Vm
theorem top_pow : B32 ^ 12 = TOP := by
  have e : ∀ n m : Nat, B32 ^ (n + m) = B32 ^ n * B32 ^ m := fun n m => Int.pow_add B32 n m
  rw [show (12 : Nat) = 6 + 6 from rfl, e, show B32 ^ 6 = 6277101735386680763835789423207666416102355444464034512896 from by decide]
  unfold TOP; decide
theorem len_top {a : Int} (h : a < TOP) : (rl a).length ≤ 12 := rl_len_le (by rw [top_pow]; exact h)
theorem len_top2 {a : Int} (h : a < TOP) : (rl (2 * a)).length ≤ 13 := rl_len_le (by rw [Int.pow_succ, top_pow]; unfold B32; unfold TOP at *; omega)
theorem fits_loop {K : Nat} {l : List Int} (d : Dg l) (hM : l.length ≤ 1000) : ∀ (k m : Nat) (n : Int), m < k → m ≤ l.length → 0 ≤ n → n < 18446744073709551616 →
    F.ref01_Fits_l3 K k l n ((m : Int) - 1) = some (l, (n * B32 ^ m + vr (l.take m)) % 18446744073709551616)
  | 0, m, n, h, _, _, _ => by omega
  | k + 1, m, n, h, hm, n0, n1 => by
    rw [F.ref01_Fits_l3]
    cases m with
    | zero =>
      have : n % 18446744073709551616 = n := Int.emod_eq_of_lt n0 n1
      simp [vr, this]
    | succ m =>
      rw [show ((m + 1 : Nat) : Int) - 1 = (m : Int) by omega]
      have g0 : (m : Int) < (l.length : Int) := by omega
      have b := nth_bd d m
      have wn : IntKind.i64.wrap ((m : Int) - 1) = (m : Int) - 1 := iw (by omega) (by omega)
      simp only [Int.toNat_natCast]
      have hx : ∀ x : Int, 0 ≤ x % 18446744073709551616 ∧ x % 18446744073709551616 < 18446744073709551616 := fun x => by omega
      have ih := fits_loop (K := K) d hM k m (IntKind.u64.wrap (IntKind.u64.wrap (n * 4294967296) + nth 0 l m)) (by omega) (by omega) (by rw [wu]; exact (hx _).1) (by rw [wu]; exact (hx _).2)
      rw [wn]
      have g1 : (m : Int) ≥ 0 := by omega
      simp only [g0, g1, decide_true, Bool.and_self, if_true, ih]
      congr 2
      rw [vr_take', wu, wu, Int.pow_succ]
      have e1 : (n * 4294967296 % 18446744073709551616 + nth 0 l m) % 18446744073709551616 = (n * 4294967296 + nth 0 l m) % 18446744073709551616 := by omega
      rw [e1]
      have e2 : ∀ x y z : Int, (x % 18446744073709551616 * y + z) % 18446744073709551616 = (x * y + z) % 18446744073709551616 := fun x y z => by
        rw [Int.add_emod, Int.mul_emod, Int.emod_emod_of_dvd _ (Int.dvd_refl _), ← Int.mul_emod, ← Int.add_emod]
      rw [e2]
      congr 1
      rw [show n * (B32 ^ m * B32) = n * B32 * B32 ^ m by rw [Int.mul_comm (B32 ^ m) B32, Int.mul_assoc], Int.add_mul]
      show n * B32 * B32 ^ m + nth 0 l m * B32 ^ m + vr (l.take m) = _
      omega
theorem rfits_ok {K : Nat} (hK : 2000 ≤ K) {a : Int} (a0 : 0 ≤ a) (h : a < TOP) : F.ref01_Fits K (rl a) = some (a % 18446744073709551616, decide (a < 18446744073709551616)) := by
  have hl := len_top h
  have key := fits_loop (K := K) (dg_rl a) (by omega) K (rl a).length 0 (by omega) (Nat.le_refl _) (by decide) (by decide)
  rw [List.take_of_length_le (Nat.le_refl _), vr_rl a0, Int.zero_mul, Int.zero_add] at key
  unfold F.ref01_Fits
  rw [show IntKind.i64.wrap (((rl a).length : Int) - 1) = ((rl a).length : Int) - 1 from iw (by omega) (by omega), key, Option.bind_some]
  congr 2
  rw [decide_eq_decide]
  constructor
  · intro hh
    have := vr_lt (dg_rl a)
    rw [vr_rl a0] at this
    have hp : B32 ^ (rl a).length ≤ B32 ^ 2 := by
      have h2 : (rl a).length ≤ 2 := by simp only at hh; omega
      have : (rl a).length = 0 ∨ (rl a).length = 1 ∨ (rl a).length = 2 := by omega
      rcases this with h | h | h <;> rw [h] <;> decide
    rw [show B32 ^ 2 = 18446744073709551616 from by decide] at hp
    omega
  · intro hh
    have := rl_len_le (n := a) (k := 2) (by rw [show B32 ^ 2 = 18446744073709551616 from by decide]; exact hh)
    simp only; omega
theorem rten_loop {K : Nat} (hK : 4000 ≤ K) {x : Int} (hx : x ≤ 36) : ∀ (k : Nat) (i : Int), 0 ≤ i → i ≤ x → (x - i).toNat < k → F.ref01_Ten_l3 K k (rl (p10z i)) x i = some (rl (p10z x))
  | 0, i, _, _, h => by omega
  | k + 1, i, i0, i1, h => by
    rw [F.ref01_Ten_l3]
    by_cases c : i < x
    · have b := p10z_bd (k := i) i0 (by omega)
      have hw := word_ok (K := K) (by omega) (x := 10) (by decide)
      have ht := times_ok hK (a := p10z i) (b := 10) (by omega) (by decide) (by have := len_top (a := p10z i) (by unfold TOP; omega); omega) (by have := len_top (a := 10) (by unfold TOP; omega); omega)
      rw [← p10z_succ i0] at ht
      have wi : IntKind.i64.wrap (i + 1) = i + 1 := iw (by omega) (by omega)
      have ih := rten_loop hK hx k (i + 1) (by omega) (by omega) (by omega)
      simp [c, hw, ht, wi, ih]
    · have : i = x := by omega
      subst this
      simp
theorem rten_ok {K : Nat} (hK : 4000 ≤ K) {x : Int} (x0 : 0 ≤ x) (x1 : x ≤ 36) : F.ref01_Ten K x = some (rl (p10z x)) := by
  have hw := word_ok (K := K) (by omega) (x := 1) (by decide)
  have key := rten_loop hK x1 K 0 (by decide) x0 (by omega)
  rw [show p10z 0 = 1 from rfl] at key
  unfold F.ref01_Ten
  rw [hw, Option.bind_some, key, Option.bind_some]
/-- A whole number of the reference. -/
def In (m : Bool) (n : Int) : Bool × List Int := (m, rl n)
theorem made_ok {K : Nat} (hK : 3 ≤ K) {x : Int} (h : I64 x) : F.ref01_Made K x = some (decide (x < 0), rl (if x < 0 then -x else x)) := by
  unfold I64 at h
  unfold F.ref01_Made
  by_cases c : x < 0
  · have e : IntKind.u64.wrap (0 - IntKind.u64.wrap x) = -x := by rw [wu, wu]; omega
    rw [e, word_ok (x := -x) hK (by unfold Word; omega)]
    simp [c]
  · have e : IntKind.u64.wrap x = x := by rw [wu]; omega
    rw [e, word_ok (x := x) hK (by unfold Word; omega)]
    simp [c]
def sumS (b d : Bool) (A B : Int) : Bool × Int := if b = d then (b, A + B) else if B ≤ A then (b, A - B) else (d, B - A)
theorem sumS_val {b d : Bool} {A B : Int} (h0 : 0 ≤ A) (h1 : 0 ≤ B) : 0 ≤ (sumS b d A B).2 ∧ (sumS b d A B).2 ≤ A + B ∧ sgB (sumS b d A B).1 (sumS b d A B).2 = sgB b A + sgB d B := by
  unfold sumS sgB
  by_cases g : B ≤ A
  · cases b <;> cases d <;> simp [g] <;> omega
  · cases b <;> cases d <;> simp [g] <;> omega
theorem sum_ok {K : Nat} (hK : 2000 ≤ K) {b d : Bool} {A B : Int} (a0 : 0 ≤ A) (a1 : A < TOP) (b0 : 0 ≤ B) (b1 : B < TOP) : F.ref01_Sum K b (rl A) d (rl B) = some ((sumS b d A B).1, rl (sumS b d A B).2) := by
  have lA := len_top a1
  have lB := len_top b1
  unfold F.ref01_Sum sumS
  by_cases c : b = d
  · rw [plus_ok hK a0 b0 (by omega) (by omega)]
    simp [c]
  · rw [compare_ok hK a0 b0 (by omega)]
    by_cases g : B ≤ A
    · have e : cmp3 A B ≥ 0 := by unfold cmp3; rw [if_neg (by omega)]; split <;> omega
      rw [minus_ok hK b0 g (by omega)]
      simp [c, g, e]
    · have e : ¬ cmp3 A B ≥ 0 := by unfold cmp3; rw [if_pos (by omega)]; omega
      rw [minus_ok (a := B) (b := A) hK a0 (by omega) (by omega)]
      simp [c, g, e]
theorem product_ok {K : Nat} (hK : 4000 ≤ K) {b d : Bool} {A B : Int} (a0 : 0 ≤ A) (a1 : A < TOP) (b0 : 0 ≤ B) (b1 : B < TOP) : F.ref01_Product K b (rl A) d (rl B) = some (!b == d, rl (A * B)) := by
  have lA := len_top a1
  have lB := len_top b1
  unfold F.ref01_Product
  rw [times_ok hK a0 b0 (by omega) (by omega)]
  rfl
theorem rl_len_zero {n : Int} (h : 0 ≤ n) : ((rl n).length : Int) = 0 ↔ n = 0 := by
  constructor
  · intro e
    have := vr_rl h
    have e0 : rl n = [] := List.length_eq_zero_iff.1 (by omega)
    rw [e0, vr] at this
    exact this.symm
  · rintro rfl; rw [rl_zero (by decide)]; rfl
theorem small_ok {K : Nat} (hK : 2000 ≤ K) {b : Bool} {n : Int} (h0 : 0 ≤ n) (h1 : n < TOP) : F.ref01_Small K b (rl n) = some (if I64 (sgB b n) then (sgB b n, true) else (0, false)) := by
  unfold F.ref01_Small
  rw [rfits_ok hK h0 h1, Option.bind_some]
  unfold sgB I64
  by_cases c : n < 18446744073709551616
  · have e : n % 18446744073709551616 = n := by omega
    rw [e]
    by_cases g : n > 9223372036854775808
    · cases b <;> simp [c, g] <;> omega
    · by_cases g2 : n = 9223372036854775808
      · subst g2; cases b <;> simp [wi]
      · have ew : IntKind.i64.wrap n = n := iw (by omega) (by omega)
        have ew2 : IntKind.i64.wrap (-n) = -n := by rw [iw (by omega) (by omega)]
        have h9 : n ≤ 9223372036854775807 := by omega
        have h8 : -9223372036854775808 ≤ n := by omega
        have h7 : n ≤ 9223372036854775808 := by omega
        have h6 : -n ≤ 9223372036854775807 := by omega
        cases b <;> simp [c, g, g2, ew, ew2, h9, h8, h7, h6]
  · cases b <;> simp [c] <;> omega
end Go.Proofs.Ytppdgohcgklinaa.Wide

/- The reference's numbers: powers of ten, words, whole numbers with a sign. Conditions: numbers below 2^384. -/
import Derived.Test.YtelnigjdfgdapaaPRh
set_option linter.unusedVariables false
set_option linter.unusedSimpArgs false
namespace Go.Proofs.Ytelnigjdfgdapaa.Wide
open Go Go.RowKit Go.Proofs.Ytelnigjdfgdapaa.Vm
theorem top_pow : B32 ^ 12 = TOP := by
  have e : ∀ n m : Nat, B32 ^ (n + m) = B32 ^ n * B32 ^ m := fun n m => Int.pow_add B32 n m
  rw [show (12 : Nat) = 6 + 6 from rfl, e, show B32 ^ 6 = 6277101735386680763835789423207666416102355444464034512896 from by decide]
  unfold TOP; decide
theorem len_top {a : Int} (h : a < TOP) : (rl a).length ≤ 12 := rl_len_le (by rw [top_pow]; exact h)
theorem len_top2 {a : Int} (h : a < TOP) : (rl (2 * a)).length ≤ 13 := rl_len_le (by rw [Int.pow_succ, top_pow]; unfold B32; unfold TOP at *; omega)
theorem fits_loop {K : Nat} {l : List Int} (d : Dg l) (hM : l.length ≤ 1000) : ∀ (k m : Nat) (n : Int), m < k → m ≤ l.length → 0 ≤ n → n < 18446744073709551616 →
    F.ref01_Fits_l3 K k l n ((m : Int) - 1) = some (l, (n * B32 ^ m + vr (l.take m)) % 18446744073709551616)
  | 0, m, n, h, _, _, _ => by omega
  | k + 1, m, n, h, hm, n0, n1 => by
    rw [F.ref01_Fits_l3]
    cases m with
    | zero =>
      have : n % 18446744073709551616 = n := Int.emod_eq_of_lt n0 n1
      simp [vr, this]
    | succ m =>
      rw [show ((m + 1 : Nat) : Int) - 1 = (m : Int) by omega]
      have g0 : (m : Int) < (l.length : Int) := by omega
      have b := nth_bd d m
      have wn : IntKind.i64.wrap ((m : Int) - 1) = (m : Int) - 1 := iw (by omega) (by omega)
      simp only [Int.toNat_natCast]
      have hx : ∀ x : Int, 0 ≤ x % 18446744073709551616 ∧ x % 18446744073709551616 < 18446744073709551616 := fun x => by omega
      have ih := fits_loop (K := K) d hM k m (IntKind.u64.wrap (IntKind.u64.wrap (n * 4294967296) + nth 0 l m)) (by omega) (by omega) (by rw [wu]; exact (hx _).1) (by rw [wu]; exact (hx _).2)
      rw [wn]
      have g1 : (m : Int) ≥ 0 := by omega
      simp only [g0, g1, decide_true, Bool.and_self, if_true, ih]
      congr 2
      rw [vr_take', wu, wu, Int.pow_succ]
      have e1 : (n * 4294967296 % 18446744073709551616 + nth 0 l m) % 18446744073709551616 = (n * 4294967296 + nth 0 l m) % 18446744073709551616 := by omega
      rw [e1]
      have e2 : ∀ x y z : Int, (x % 18446744073709551616 * y + z) % 18446744073709551616 = (x * y + z) % 18446744073709551616 := fun x y z => by
        rw [Int.add_emod, Int.mul_emod, Int.emod_emod_of_dvd _ (Int.dvd_refl _), ← Int.mul_emod, ← Int.add_emod]
      rw [e2]
      congr 1
      rw [show n * (B32 ^ m * B32) = n * B32 * B32 ^ m by rw [Int.mul_comm (B32 ^ m) B32, Int.mul_assoc], Int.add_mul]
      show n * B32 * B32 ^ m + nth 0 l m * B32 ^ m + vr (l.take m) = _
      omega
theorem rfits_ok {K : Nat} (hK : 2000 ≤ K) {a : Int} (a0 : 0 ≤ a) (h : a < TOP) : F.ref01_Fits K (rl a) = some (a % 18446744073709551616, decide (a < 18446744073709551616)) := by
  have hl := len_top h
  have key := fits_loop (K := K) (dg_rl a) (by omega) K (rl a).length 0 (by omega) (Nat.le_refl _) (by decide) (by decide)
  rw [List.take_of_length_le (Nat.le_refl _), vr_rl a0, Int.zero_mul, Int.zero_add] at key
  unfold F.ref01_Fits
  rw [show IntKind.i64.wrap (((rl a).length : Int) - 1) = ((rl a).length : Int) - 1 from iw (by omega) (by omega), key, Option.bind_some]
  congr 2
  rw [decide_eq_decide]
  constructor
  · intro hh
    have := vr_lt (dg_rl a)
    rw [vr_rl a0] at this
    have hp : B32 ^ (rl a).length ≤ B32 ^ 2 := by
      have h2 : (rl a).length ≤ 2 := by simp only at hh; omega
      have : (rl a).length = 0 ∨ (rl a).length = 1 ∨ (rl a).length = 2 := by omega
      rcases this with h | h | h <;> rw [h] <;> decide
    rw [show B32 ^ 2 = 18446744073709551616 from by decide] at hp
    omega
  · intro hh
    have := rl_len_le (n := a) (k := 2) (by rw [show B32 ^ 2 = 18446744073709551616 from by decide]; exact hh)
    simp only; omega
theorem p10z_succ {k : Int} (h : 0 ≤ k) : p10z (k + 1) = p10z k * 10 := by
  unfold p10z
  rw [show (k + 1).toNat = k.toNat + 1 by omega, Int.pow_succ]
theorem p10z_add {j k : Int} (h : 0 ≤ j) (h' : 0 ≤ k) : p10z (j + k) = p10z j * p10z k := by
  unfold p10z
  rw [show (j + k).toNat = j.toNat + k.toNat by omega, Int.pow_add]
theorem rten_loop {K : Nat} (hK : 4000 ≤ K) {x : Int} (hx : x ≤ 36) : ∀ (k : Nat) (i : Int), 0 ≤ i → i ≤ x → (x - i).toNat < k → F.ref01_Ten_l3 K k (rl (p10z i)) x i = some (rl (p10z x))
  | 0, i, _, _, h => by omega
  | k + 1, i, i0, i1, h => by
    rw [F.ref01_Ten_l3]
    by_cases c : i < x
    · have b := p10z_bd (k := i) i0 (by omega)
      have hw := word_ok (K := K) (by omega) (x := 10) (by decide)
      have ht := times_ok hK (a := p10z i) (b := 10) (by omega) (by decide) (by have := len_top (a := p10z i) (by unfold TOP; omega); omega) (by have := len_top (a := 10) (by unfold TOP; omega); omega)
      rw [← p10z_succ i0] at ht
      have wi : IntKind.i64.wrap (i + 1) = i + 1 := iw (by omega) (by omega)
      have ih := rten_loop hK hx k (i + 1) (by omega) (by omega) (by omega)
      simp [c, hw, ht, wi, ih]
    · have : i = x := by omega
      subst this
      simp
theorem rten_ok {K : Nat} (hK : 4000 ≤ K) {x : Int} (x0 : 0 ≤ x) (x1 : x ≤ 36) : F.ref01_Ten K x = some (rl (p10z x)) := by
  have hw := word_ok (K := K) (by omega) (x := 1) (by decide)
  have key := rten_loop hK x1 K 0 (by decide) x0 (by omega)
  rw [show p10z 0 = 1 from rfl] at key
  unfold F.ref01_Ten
  rw [hw, Option.bind_some, key, Option.bind_some]
/-- A whole number of the reference. -/
def In (m : Bool) (n : Int) : Bool × List Int := (m, rl n)
theorem made_ok {K : Nat} (hK : 3 ≤ K) {x : Int} (h : I64 x) : F.ref01_Made K x = some (decide (x < 0), rl (if x < 0 then -x else x)) := by
  unfold I64 at h
  unfold F.ref01_Made
  by_cases c : x < 0
  · have e : IntKind.u64.wrap (0 - IntKind.u64.wrap x) = -x := by rw [wu, wu]; omega
    rw [e, word_ok (x := -x) hK (by unfold Word; omega)]
    simp [c]
  · have e : IntKind.u64.wrap x = x := by rw [wu]; omega
    rw [e, word_ok (x := x) hK (by unfold Word; omega)]
    simp [c]
def sumS (b d : Bool) (A B : Int) : Bool × Int := if b = d then (b, A + B) else if B ≤ A then (b, A - B) else (d, B - A)
theorem sumS_val {b d : Bool} {A B : Int} (h0 : 0 ≤ A) (h1 : 0 ≤ B) : 0 ≤ (sumS b d A B).2 ∧ (sumS b d A B).2 ≤ A + B ∧ sgB (sumS b d A B).1 (sumS b d A B).2 = sgB b A + sgB d B := by
  unfold sumS sgB
  by_cases g : B ≤ A
  · cases b <;> cases d <;> simp [g] <;> omega
  · cases b <;> cases d <;> simp [g] <;> omega
theorem sum_ok {K : Nat} (hK : 2000 ≤ K) {b d : Bool} {A B : Int} (a0 : 0 ≤ A) (a1 : A < TOP) (b0 : 0 ≤ B) (b1 : B < TOP) : F.ref01_Sum K b (rl A) d (rl B) = some ((sumS b d A B).1, rl (sumS b d A B).2) := by
  have lA := len_top a1
  have lB := len_top b1
  unfold F.ref01_Sum sumS
  by_cases c : b = d
  · rw [plus_ok hK a0 b0 (by omega) (by omega)]
    simp [c]
  · rw [compare_ok hK a0 b0 (by omega)]
    by_cases g : B ≤ A
    · have e : cmp3 A B ≥ 0 := by unfold cmp3; rw [if_neg (by omega)]; split <;> omega
      rw [minus_ok hK b0 g (by omega)]
      simp [c, g, e]
    · have e : ¬ cmp3 A B ≥ 0 := by unfold cmp3; rw [if_pos (by omega)]; omega
      rw [minus_ok (a := B) (b := A) hK a0 (by omega) (by omega)]
      simp [c, g, e]
theorem product_ok {K : Nat} (hK : 4000 ≤ K) {b d : Bool} {A B : Int} (a0 : 0 ≤ A) (a1 : A < TOP) (b0 : 0 ≤ B) (b1 : B < TOP) : F.ref01_Product K b (rl A) d (rl B) = some (!b == d, rl (A * B)) := by
  have lA := len_top a1
  have lB := len_top b1
  unfold F.ref01_Product
  rw [times_ok hK a0 b0 (by omega) (by omega)]
  rfl
theorem rl_len_zero {n : Int} (h : 0 ≤ n) : ((rl n).length : Int) = 0 ↔ n = 0 := by
  constructor
  · intro e
    have := vr_rl h
    have e0 : rl n = [] := List.length_eq_zero_iff.1 (by omega)
    rw [e0, vr] at this
    exact this.symm
  · rintro rfl; rw [rl_zero (by decide)]; rfl
theorem rsign_ok (K : Nat) {b : Bool} {n : Int} (h : 0 ≤ n) : F.ref01_Sign K b (rl n) = some (cmp3 (sgB b n) 0) := by
  unfold F.ref01_Sign
  have e := rl_len_zero h
  unfold cmp3 sgB
  by_cases c : n = 0
  · rw [if_pos (by simpa using e.2 c), c]; simp
  · rw [if_neg (by simpa using fun hh => c (e.1 hh))]
    cases b with
    | true => simp; omega
    | false => simp; rw [if_neg (by omega), if_pos (by omega)]
theorem order_ok {K : Nat} (hK : 2000 ≤ K) {b d : Bool} {A B : Int} (a0 : 0 ≤ A) (a1 : A < TOP) (b0 : 0 ≤ B) (b1 : B < TOP) : F.ref01_Order K b (rl A) d (rl B) = some (cmp3 (sgB b A) (sgB d B)) := by
  unfold F.ref01_Order F.ref01_Opposite
  rw [Option.bind_some]
  simp only [sum_ok hK a0 a1 b0 b1, Option.bind_some]
  obtain ⟨h0, h1, h2⟩ := sumS_val (b := b) (d := !d) a0 b0
  rw [rsign_ok K h0, h2, Option.bind_some]
  have e : sgB (!d) B = -(sgB d B) := by unfold sgB; cases d <;> simp
  rw [e]
  unfold cmp3
  congr 1
  generalize sgB b A = x
  generalize sgB d B = y
  by_cases c : x < y
  · rw [if_pos (show x + -y < 0 by omega), if_pos c]
  · rw [if_neg (show ¬ x + -y < 0 by omega), if_neg c]
    by_cases g : y < x
    · rw [if_pos (show 0 < x + -y by omega), if_pos g]
    · rw [if_neg (show ¬ 0 < x + -y by omega), if_neg g]
theorem small_ok {K : Nat} (hK : 2000 ≤ K) {b : Bool} {n : Int} (h0 : 0 ≤ n) (h1 : n < TOP) : F.ref01_Small K b (rl n) = some (if I64 (sgB b n) then (sgB b n, true) else (0, false)) := by
  unfold F.ref01_Small
  rw [rfits_ok hK h0 h1, Option.bind_some]
  unfold sgB I64
  by_cases c : n < 18446744073709551616
  · have e : n % 18446744073709551616 = n := by omega
    rw [e]
    by_cases g : n > 9223372036854775808
    · cases b <;> simp [c, g] <;> omega
    · by_cases g2 : n = 9223372036854775808
      · subst g2; cases b <;> simp [wi]
      · have ew : IntKind.i64.wrap n = n := iw (by omega) (by omega)
        have ew2 : IntKind.i64.wrap (-n) = -n := by rw [iw (by omega) (by omega)]
        have h9 : n ≤ 9223372036854775807 := by omega
        have h8 : -9223372036854775808 ≤ n := by omega
        have h7 : n ≤ 9223372036854775808 := by omega
        have h6 : -n ≤ 9223372036854775807 := by omega
        cases b <;> simp [c, g, g2, ew, ew2, h9, h8, h7, h6]
  · cases b <;> simp [c] <;> omega
theorem form_ok (K : Nat) (a0 a1 a2 : Int) : F.ref01_Form K a0 a1 a2 = some (decide (Fm a0 a1 a2)) := by
  unfold F.ref01_Form
  by_cases c1 : a2 ≥ 0
  · by_cases c2 : a2 ≤ 18
    · by_cases c3 : a0 = -9223372036854775808
      · by_cases c4 : a1 = 0
        · rw [decide_eq_false (show ¬ Fm a0 a1 a2 by unfold Fm; omega)]; simp [c1, c2, c3, c4]
        · rw [decide_eq_true (show Fm a0 a1 a2 by unfold Fm; omega)]; simp [c1, c2, c3, c4]
      · rw [decide_eq_true (show Fm a0 a1 a2 by unfold Fm; omega)]; simp [c1, c2, c3]
    · rw [decide_eq_false (show ¬ Fm a0 a1 a2 by unfold Fm; omega)]; simp [c1, c2]
  · rw [decide_eq_false (show ¬ Fm a0 a1 a2 by unfold Fm; omega)]; simp [c1]
theorem coef_ok {K : Nat} (hK : 4000 ≤ K) {hi lo sc : Int} (i : I64 hi) (l : Word lo) : F.ref01_Coef K hi lo sc = some (decide (hi < 0), rl (siz hi lo)) := by
  have i' := i
  have l' := l
  unfold I64 at i'
  unfold Word at l'
  have hm : 0 ≤ (if hi < 0 then -hi else hi) ∧ (if hi < 0 then -hi else hi) ≤ 9223372036854775808 := by split <;> omega
  have hp : (2 : Int) ^ (64 : Int).toNat = 18446744073709551616 := by decide
  unfold F.ref01_Coef
  rw [made_ok (by omega) i, Option.bind_some]
  simp only
  rw [rleft_ok hK hm.1 (by have := len_top (a := (if hi < 0 then -hi else hi)) (by unfold TOP; omega); omega) (by decide) (by decide), hp, Option.bind_some, word_ok (by omega) l, Option.bind_some,
    sum_ok (by omega) (by omega) (by unfold TOP; omega) (by omega) (by unfold TOP; omega), Option.bind_some]
  unfold sumS siz cf
  by_cases c : hi < 0
  · simp only [c, decide_true, if_true, Bool.true_eq_false, if_false]
    rw [if_pos (by omega)]
    congr 3
    omega
  · simp [c]
def absI (x : Int) : Int := if x < 0 then -x else x
theorem dec_loop {K : Nat} {sc : Int} {a : Int} (a0 : 0 ≤ a) (a1 : a < 340282366920938463463374607431768211456) : ∀ (k i : Nat) (x7 x8 : Int), i ≤ (rl a).length → (rl a).length - i < k →
    (i ≤ 2 → x8 = 0 ∧ x7 = a % B32 ^ i) → (2 ≤ i → x7 = a % 18446744073709551616 ∧ x8 = a / 18446744073709551616 % B32 ^ (i - 2)) →
    F.ref01_Dec_l9 K k sc x7 x8 (rl a) ((rl a).length : Int) i 0 0 0 = some (sc, a % 18446744073709551616, a / 18446744073709551616, 0, 0, 0)
  | 0, i, x7, x8, _, h, _, _ => by omega
  | k + 1, i, x7, x8, hi, hk, h7, h8 => by
    have hl : (rl a).length ≤ 4 := rl_len_le (by rw [show B32 ^ 4 = 340282366920938463463374607431768211456 from by decide]; exact a1)
    rw [F.ref01_Dec_l9]
    by_cases c : (i : Int) < ((rl a).length : Int)
    · have hn := nth_rl i a0
      have g : (0 : Int) ≤ (i : Int) := by omega
      have w1 : IntKind.i64.wrap ((i : Int) + 1) = ((i + 1 : Nat) : Int) := by rw [iw (by omega) (by omega)]; omega
      simp only [c, g, decide_true, if_true, Bool.and_self, Int.toNat_natCast, hn, w1]
      by_cases c2 : (i : Int) < 2
      · obtain ⟨e8, e7⟩ := h7 (by omega)
        have w2 : IntKind.i64.wrap (32 * (i : Int)) = 32 * (i : Int) := iw (by omega) (by omega)
        have n2 : ¬ (32 * (i : Int) < 0) := by omega
        simp only [c2, decide_true, if_true, w2, n2, decide_false, if_false, Bool.false_eq_true]
        refine dec_loop a0 a1 k (i + 1) _ _ (by omega) (by omega) (fun _ => ⟨e8, ?_⟩) (fun h => ?_)
        · have : i = 0 ∨ i = 1 := by omega
          rcases this with rfl | rfl
          · rw [e7, wu, wu, show min (32 * ((0 : Nat) : Int)).toNat 64 = 0 from rfl]
            simp only [Int.pow_zero, Nat.zero_add, Int.pow_one, Int.ediv_one]
            unfold B32; omega
          · rw [e7, wu, wu, show min (32 * ((1 : Nat) : Int)).toNat 64 = 32 from rfl, show (2 : Int) ^ 32 = 4294967296 from by decide]
            simp only [Int.pow_one]
            rw [show B32 ^ (1 + 1) = 18446744073709551616 from by decide]
            unfold B32; omega
        · have : i = 1 := by omega
          subst this
          refine ⟨?_, ?_⟩
          · rw [e7, wu, wu, show min (32 * ((1 : Nat) : Int)).toNat 64 = 32 from rfl, show (2 : Int) ^ 32 = 4294967296 from by decide]
            simp only [Int.pow_one]
            unfold B32; omega
          · rw [e8]; simp
      · obtain ⟨e7, e8⟩ := h8 (by omega)
        have w2 : IntKind.i64.wrap ((i : Int) - 2) = (i : Int) - 2 := iw (by omega) (by omega)
        have w3 : IntKind.i64.wrap (32 * ((i : Int) - 2)) = 32 * ((i : Int) - 2) := iw (by omega) (by omega)
        have n2 : ¬ (32 * ((i : Int) - 2) < 0) := by omega
        simp only [c2, decide_false, if_false, Bool.false_eq_true, w2, w3, n2]
        refine dec_loop a0 a1 k (i + 1) _ _ (by omega) (by omega) (fun h => by omega) (fun _ => ⟨e7, ?_⟩)
        have : i = 2 ∨ i = 3 := by omega
        rcases this with rfl | rfl
        · rw [e8, wu, wu, show min (32 * (((2 : Nat) : Int) - 2)).toNat 64 = 0 from rfl, show B32 ^ 2 = 18446744073709551616 from by decide]
          simp only [Int.pow_zero, show 2 + 1 - 2 = 1 from rfl, Nat.sub_self, Int.pow_one]
          unfold B32; omega
        · rw [e8, wu, wu, show min (32 * (((3 : Nat) : Int) - 2)).toNat 64 = 32 from rfl, show (2 : Int) ^ 32 = 4294967296 from by decide, show B32 ^ 3 = 79228162514264337593543950336 from by decide]
          simp only [show 3 - 2 = 1 from rfl, show 3 + 1 - 2 = 2 from rfl, Int.pow_one, show B32 ^ 2 = 18446744073709551616 from by decide]
          unfold B32; omega
    · have e : i = (rl a).length := by omega
      have hb : a < B32 ^ i := by
        have := vr_lt (dg_rl a)
        rw [vr_rl a0, ← e] at this; exact this
      simp only [c, decide_false, if_false, Bool.false_eq_true]
      by_cases c2 : i ≤ 2
      · obtain ⟨e8, e7⟩ := h7 c2
        have hp : B32 ^ i ≤ 18446744073709551616 := by
          have : i = 0 ∨ i = 1 ∨ i = 2 := by omega
          rcases this with h | h | h <;> rw [h] <;> decide
        have z : a / 18446744073709551616 = 0 := by omega
        rw [z, e8, e7, Int.emod_eq_of_lt a0 hb, Int.emod_eq_of_lt a0 (by omega)]
      · obtain ⟨e7, e8⟩ := h8 (by omega)
        have : i = 3 ∨ i = 4 := by omega
        rw [e7, e8]
        congr 3
        have hb2 : a / 18446744073709551616 < B32 ^ (i - 2) := by
          rcases this with h | h <;> rw [h] at hb ⊢ <;> simp only [show 3 - 2 = 1 from rfl, show 4 - 2 = 2 from rfl, show B32 ^ 3 = 79228162514264337593543950336 from by decide, show B32 ^ 4 = 340282366920938463463374607431768211456 from by decide, show B32 ^ 2 = 18446744073709551616 from by decide, Int.pow_one] at hb ⊢ <;> (try unfold B32) <;> omega
        congr 1
        exact Int.emod_eq_of_lt (by omega) hb2
theorem rdec_ok {K : Nat} (hK : 40000 ≤ K) {b : Bool} {n sc : Int} (h0 : 0 ≤ n) (h1 : n < TOP) : F.ref01_Dec K b (rl n) sc = some (togD b n sc) := by
  have ln := len_top h1
  unfold F.ref01_Dec
  rw [size_ok (by omega) h0 (by omega), Option.bind_some, rsign_ok K h0]
  have hb : blen n > 127 ↔ ¬ n < 170141183460469231731687303715884105728 := by
    constructor
    · intro h c
      have := (blen_lt (n := 127) (by rw [p127]; exact c)).2
      omega
    · intro c
      apply Int.lt_of_not_ge
      intro h
      exact c (by have := blen_le (n := 127) (x := n) h; rwa [p127] at this)
  unfold togD
  by_cases c : n < 170141183460469231731687303715884105728
  · have hb' : ¬ blen n > 127 := fun h => hb.1 h c
    rw [if_pos c, if_neg (by simpa using hb')]
    by_cases s : sgB b n < 0
    · have hbt : b = true := by
        cases b with
        | true => rfl
        | false => simp [sgB] at s; omega
      subst hbt
      have hn : 0 < n := by simp [sgB] at s; exact s
      have e1 : cmp3 (sgB true n) 0 = -1 := by unfold cmp3; rw [if_pos s]
      have hw := word_ok (K := K) (by omega) (x := 1) (by decide)
      have hl := rleft_ok (by omega : 4000 ≤ K) (a := 1) (n := 128) (by decide) (by have := len_top (a := 1) (by unfold TOP; omega); omega) (by decide) (by decide)
      rw [show (1 : Int) * 2 ^ (128 : Int).toNat = 340282366920938463463374607431768211456 from by decide] at hl
      have hs := sum_ok (by omega : 2000 ≤ K) (b := true) (d := false) (A := n) (B := 340282366920938463463374607431768211456) h0 h1 (by decide) (by unfold TOP; omega)
      have he : sumS true false n 340282366920938463463374607431768211456 = (false, 340282366920938463463374607431768211456 - n) := by
        unfold sumS; rw [if_neg (by decide), if_neg (by omega)]
      rw [he] at hs
      have hd := dec_loop (K := K) (sc := sc) (a := 340282366920938463463374607431768211456 - n) (by omega) (by omega) K 0 0 0 (by omega) (by have := len_top (a := 340282366920938463463374607431768211456 - n) (by unfold TOP; omega); omega) (fun _ => ⟨rfl, by simp⟩) (fun h => by omega)
      have hd' : F.ref01_Dec_l9 K K sc 0 0 (rl (340282366920938463463374607431768211456 - n)) ((rl (340282366920938463463374607431768211456 - n)).length : Int) 0 0 0 0 = _ := hd
      rw [Option.bind_some, e1]
      simp only [show ((-1 : Int) < 0) = True from by simp, decide_true, if_true, hw, hl, hs, hd', Option.bind_some]
      have w : IntKind.i64.wrap ((340282366920938463463374607431768211456 - n) / 18446744073709551616) = -n / 18446744073709551616 := by rw [wi]; omega
      rw [w, show (340282366920938463463374607431768211456 - n) % 18446744073709551616 = -n % 18446744073709551616 by omega]
    · have e1 : ¬ cmp3 (sgB b n) 0 < 0 := by unfold cmp3; rw [if_neg s]; split <;> omega
      have hd := dec_loop (K := K) (sc := sc) (a := n) (by omega) (by omega) K 0 0 0 (by omega) (by omega) (fun _ => ⟨rfl, by simp⟩) (fun h => by omega)
      have hd' : F.ref01_Dec_l9 K K sc 0 0 (rl n) ((rl n).length : Int) 0 0 0 0 = _ := hd
      rw [Option.bind_some]
      simp only [e1, decide_false, if_false, Bool.false_eq_true, hd', Option.bind_some]
      have w : IntKind.i64.wrap (n / 18446744073709551616) = n / 18446744073709551616 := iw (by omega) (by omega)
      rw [w]
      have : (if b = true then -n else n) = n := by
        unfold sgB at s
        split at s
        · have : n = 0 := by omega
          subst this; split <;> rfl
        · rename_i hbf; rw [if_neg hbf]
      rw [this]
  · have hb' : blen n > 127 := hb.2 c
    rw [if_neg c, if_pos (by simpa using hb')]
end Go.Proofs.Ytelnigjdfgdapaa.Wide

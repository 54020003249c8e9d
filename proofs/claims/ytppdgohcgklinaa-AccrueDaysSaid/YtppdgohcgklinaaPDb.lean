/- What package dec's inner functions answer: rounding. Conditions: a decimal's parts are int64 and uint64. -/
import Derived.Test.YtppdgohcgklinaaPDa
set_option linter.unusedVariables false
set_option linter.unusedSimpArgs false
namespace Go.Proofs.Ytppdgohcgklinaa.Wide
open Go Go.RowKit Go.Proofs.Ytppdgohcgklinaa.Vm
theorem mask1 (x : Int) (h0 : 0 ≤ x) (h1 : x < 18446744073709551616) : land .u64 x 1 = x % 2 :=
  bits_mask .u64 64 (by decide) wraps64 1 (by decide) x h0 h1
theorem more_ok {K : Nat} (hK : 7 ≤ K) {mode q r d : Int} {m : Bool} (r0 : 0 ≤ r) (r1 : r * 2 < TOP) (d0 : 0 ≤ d) (d1 : d < TOP) :
    F.dec_more K mode m (wd0 q) (wd1 q) (wd2 q) (wd3 q) (wd4 q) (wd5 q) (wd0 r) (wd1 r) (wd2 r) (wd3 r) (wd4 r) (wd5 r) (wd0 d) (wd1 d) (wd2 d) (wd3 d) (wd4 d) (wd5 d) = some (if r = 0 then false else moreB mode (cmp3 (r * 2) d) (wd0 q) m) := by
  have el := len_ok hK (words_tup r)
  rw [val_tup r0 (by omega)] at el
  have es := left_ok hK (words_tup r) (n := 1) (by decide) (by decide)
  rw [val_tup r0 (by omega), show (2 : Int) ^ (1 : Int).toNat = 2 by decide, Int.emod_eq_of_lt (by omega) r1] at es
  have ec := cmp_ok hK (words_tup (r * 2)) (words_tup d)
  rw [val_tup (by omega) r1, val_tup d0 d1] at ec
  have wq : 0 ≤ wd0 q ∧ wd0 q < 18446744073709551616 := by unfold wd0; omega
  unfold F.dec_more
  simp only [el, es, tup, Option.bind_some, ec, mask1 _ wq.1 wq.2]
  by_cases c : r = 0
  · have : blen r = 0 := (blen_zero r0).2 c
    rw [this]
    simp [c]
  · have : ¬ blen r = 0 := fun h => c ((blen_zero r0).1 h)
    have hc : cmp3 (r * 2) d = -1 ∨ cmp3 (r * 2) d = 0 ∨ cmp3 (r * 2) d = 1 := by unfold cmp3; split <;> (try split) <;> simp
    generalize cmp3 (r * 2) d = k at *
    have e2 : ∀ b : Int, (b % 2 == 1) = decide (b % 2 = 1) := fun b => rfl
    simp only [moreB, c, if_false, beq_iff_eq, this, decide_eq_true_eq]
    by_cases m0 : mode = 0
    · simp [m0]
    by_cases m1 : mode = 1
    · simp [m1]
    by_cases m2 : mode = 2
    · simp [m2]
    by_cases m3 : mode = 3
    · simp [m3]
    by_cases m4 : mode = 4
    · simp [m4]
    by_cases m5 : mode = 5
    · simp [m5]
    simp only [m0, m1, m2, m3, m4, m5, if_false, e2]
    rcases hc with rfl | rfl | rfl <;> simp
theorem rounded_ok {K : Nat} (hK : 400 ≤ K) {mode n d sc : Int} {m : Bool} (n0 : 0 ≤ n) (n1 : n + 1 < TOP) (d0 : 0 < d) (d1 : d * 2 < TOP) :
    F.dec_rounded K m (wd0 n) (wd1 n) (wd2 n) (wd3 n) (wd4 n) (wd5 n) (wd0 d) (wd1 d) (wd2 d) (wd3 d) (wd4 d) (wd5 d) sc mode = some (togD m (roundS m n d mode) sc) := by
  have h7 : 7 ≤ K := by omega
  have eq := quo_ok hK (words_tup n) (words_tup d) (by rw [val_tup (by omega) (by omega)]; exact d0)
  rw [val_tup n0 (by omega), val_tup (by omega) (by omega)] at eq
  have q0 : 0 ≤ n / d := Int.ediv_nonneg n0 (by omega)
  have q1 : n / d ≤ n := Int.ediv_le_self d n0
  have r0 : 0 ≤ n % d := Int.emod_nonneg n (by omega)
  have r1 : n % d < d := Int.emod_lt_of_pos n d0
  have em := more_ok (mode := mode) (q := n / d) (m := m) h7 r0 (show n % d * 2 < TOP by omega) (by omega : 0 ≤ d) (by omega)
  unfold F.dec_rounded
  simp only [eq, Option.bind_some, tup2, em]
  unfold roundS
  by_cases c : n % d = 0
  · have et := together_ok (m := m) (sc := sc) h7 q0 (by omega : n / d < TOP)
    simp [c, et]
  · by_cases b : moreB mode (cmp3 (n % d * 2) d) (wd0 (n / d)) m = true
    · have ea := add_ok h7 (words_tup (n / d)) (b0 := 1) (b1 := 0) (b2 := 0) (b3 := 0) (b4 := 0) (b5 := 0) (by decide)
      rw [val_tup q0 (by omega), show val 1 0 0 0 0 0 = 1 by decide, Int.emod_eq_of_lt (by omega) (by omega)] at ea
      have et := together_ok (m := m) (sc := sc) h7 (show 0 ≤ n / d + 1 by omega) (by omega : n / d + 1 < TOP)
      simp [c, b, ea, tup, et]
    · have et := together_ok (m := m) (sc := sc) h7 q0 (by omega : n / d < TOP)
      simp [c, b, et]
theorem ten_num {K : Nat} (hK : 400 ≤ K) {k : Int} (h0 : 0 ≤ k) (h1 : k ≤ 36) : F.wide_Ten K k = some (tup (p10z k)) := by
  have b := p10z_bd h0 h1
  rw [ten_ok hK h0 (by omega)]
  show some (tup (p10z k % TOP)) = _
  rw [Int.emod_eq_of_lt (by omega) (by unfold TOP; omega)]
theorem mul_num {K : Nat} (hK : 7 ≤ K) {A B : Int} (a0 : 0 ≤ A) (a1 : A < TOP) (b0 : 0 ≤ B) (b1 : B < TOP) (h : A * B < TOP) :
    F.wide_Int_Mul K (wd0 A) (wd1 A) (wd2 A) (wd3 A) (wd4 A) (wd5 A) (wd0 B) (wd1 B) (wd2 B) (wd3 B) (wd4 B) (wd5 B) = some (tup (A * B)) := by
  have e := mul_ok hK (words_tup A) (words_tup B)
  rw [val_tup a0 a1, val_tup b0 b1, Int.emod_eq_of_lt (Int.mul_nonneg a0 b0) h] at e
  exact e
theorem wd_one : wd0 1 = 1 ∧ wd1 1 = 0 ∧ wd2 1 = 0 ∧ wd3 1 = 0 ∧ wd4 1 = 0 ∧ wd5 1 = 0 := by decide
theorem scaled_ok {K : Nat} (hK : 400 ≤ K) {n f s mode : Int} {m : Bool} (n0 : 0 ≤ n) (n1 : n ≤ T254) (f0 : 0 ≤ f) (f1 : f ≤ 36) (s0 : 0 ≤ s) (s1 : s ≤ 18) :
    F.dec_scaled K m (wd0 n) (wd1 n) (wd2 n) (wd3 n) (wd4 n) (wd5 n) f s mode = some (togD m (scaledS m n f s mode) s) := by
  have h7 : 7 ≤ K := by omega
  unfold F.dec_scaled scaledS
  by_cases c : f ≤ s
  · have b := p10z_bd (k := s - f) (by omega) (by omega)
    have hb : n * p10z (s - f) ≤ T254 * 1000000000000000000000000000000000000 := Int.mul_le_mul n1 b.2 (by omega) (by decide)
    have hm0 : 0 ≤ n * p10z (s - f) := Int.mul_nonneg n0 (by omega)
    have et := ten_num hK (k := s - f) (by omega) (by omega)
    have em := mul_num h7 n0 (by unfold T254 TOP at *; omega) (by omega : 0 ≤ p10z (s - f)) (by unfold TOP; omega) (by unfold T254 TOP at *; omega)
    have er := rounded_ok (mode := mode) (m := m) (sc := s) hK hm0 (by unfold T254 TOP at *; omega) (by decide : (0 : Int) < 1) (by decide)
    obtain ⟨o0, o1, o2, o3, o4, o5⟩ := wd_one
    rw [o0, o1, o2, o3, o4, o5] at er
    rw [iw (x := s - f) (by omega) (by omega)]
    simp [c, et, tup, em, er]
  · have b := p10z_bd (k := f - s) (by omega) (by omega)
    have et := ten_num hK (k := f - s) (by omega) (by omega)
    have er := rounded_ok (mode := mode) (m := m) (sc := s) hK n0 (by unfold T254 TOP at *; omega) (by omega : 0 < p10z (f - s)) (by unfold TOP; omega)
    rw [iw (x := f - s) (by omega) (by omega)]
    simp [c, et, tup, er]
end Go.Proofs.Ytppdgohcgklinaa.Wide

/- What package wide's functions answer: quotients and powers of ten. Conditions: words are uint64; the divisor is not 0; a power is at most 100. -/
import Derived.Test.YtppdgohcgklinaaPWd
set_option linter.unusedVariables false
set_option linter.unusedSimpArgs false
set_option exponentiation.threshold 400
namespace Go.Proofs.Ytppdgohcgklinaa.Wide
open Go Go.RowKit Go.Proofs.Ytppdgohcgklinaa.Vm
theorem p384 : (2 : Int) ^ 384 = TOP := (Int.pow_add 2 192 192).trans (by decide)
theorem pow_le {a b : Nat} (h : a ≤ b) : (2 : Int) ^ a ≤ 2 ^ b := by exact_mod_cast Nat.pow_le_pow_right (n := 2) (by decide) h
/-- What holds at the head of the division's loop: A is q B + R. -/
def Inv (A B n R q : Int) : Prop := A = q * B + R ∧ 0 ≤ R ∧ 0 ≤ q ∧ (n < 0 → R < B) ∧ (0 ≤ n → R < B * 2 ^ (n.toNat + 1) ∧ B * 2 ^ n.toNat < TOP ∧ ∃ k, q = 2 ^ (n.toNat + 1) * k)
theorem inv_start {A B : Int} (hA : 0 ≤ A ∧ A < TOP) (hB : 0 < B ∧ B < TOP) : Inv A B (blen A - blen B) A 0 := by
  obtain ⟨m, em, m0, m1⟩ := blen_spec hB.1
  refine ⟨by omega, hA.1, by omega, ?_, ?_⟩
  · intro hn
    by_cases c : 0 < A
    · obtain ⟨n, en, n0, n1⟩ := blen_spec c
      have : n + 1 ≤ m := by omega
      have : (2 : Int) ^ (n + 1) ≤ 2 ^ m := by exact_mod_cast Nat.pow_le_pow_right (by decide) this
      omega
    · omega
  · intro hn
    by_cases c : 0 < A
    · obtain ⟨n, en, n0, n1⟩ := blen_spec c
      obtain ⟨d, hd⟩ : ∃ d : Nat, (blen A - blen B).toNat = d := ⟨_, rfl⟩
      have e : n = m + d := by omega
      subst e
      rw [hd]
      have hp : (0 : Int) < 2 ^ d := Int.pow_pos (by decide)
      have hq : (0 : Int) < 2 ^ (d + 1) := Int.pow_pos (by decide)
      refine ⟨?_, ?_, ⟨0, by simp⟩⟩
      · have := Int.mul_le_mul_of_nonneg_right m0 (Int.le_of_lt hq)
        rw [← Int.pow_add, ← Nat.add_assoc] at this
        omega
      · have h2 : B * 2 ^ d < 2 ^ (m + 1) * 2 ^ d := Int.mul_lt_mul_of_pos_right m1 hp
        rw [← Int.pow_add] at h2
        have h3 : m + d < 384 := by
          apply Nat.lt_of_not_le
          intro hle
          have := pow_le hle
          rw [p384] at this
          omega
        have h4 := pow_le (show m + 1 + d ≤ 384 by omega)
        rw [p384] at h4
        omega
    · have : blen A = 0 := by unfold blen; rw [if_pos (by omega)]
      omega
/-- One round: the bit is set, or not. -/
theorem inv_yes {A B n R q : Int} (h : Inv A B n R q) (hB : 0 < B) (hn : 0 ≤ n) (hge : B * 2 ^ n.toNat ≤ R) : Inv A B (n - 1) (R - B * 2 ^ n.toNat) (q + 2 ^ n.toNat) := by
  obtain ⟨e, r0, q0, _, h2⟩ := h
  obtain ⟨a, b, k, hk⟩ := h2 hn
  have hp : (0 : Int) < 2 ^ n.toNat := Int.pow_pos (by decide)
  have e1 : B * 2 ^ (n.toNat + 1) = B * 2 ^ n.toNat + B * 2 ^ n.toNat := by rw [Int.pow_succ, ← Int.mul_assoc]; omega
  refine ⟨by rw [Int.add_mul, Int.mul_comm (2 ^ n.toNat) B]; omega, by omega, by omega, ?_, ?_⟩
  · intro h0
    obtain rfl : n = 0 := by omega
    simp at e1 ⊢ a hge
    omega
  · intro h0
    rw [show (n - 1).toNat + 1 = n.toNat by omega]
    refine ⟨by omega, ?_, ⟨2 * k + 1, by rw [hk, Int.pow_succ, Int.mul_add, Int.mul_assoc, Int.mul_one]⟩⟩
    have e2 : B * 2 ^ n.toNat = B * 2 ^ (n - 1).toNat + B * 2 ^ (n - 1).toNat := by rw [show n.toNat = (n - 1).toNat + 1 by omega, Int.pow_succ, ← Int.mul_assoc]; omega
    have := Int.mul_pos hB (Int.pow_pos (by decide) : (0 : Int) < 2 ^ (n - 1).toNat)
    omega
theorem inv_no {A B n R q : Int} (h : Inv A B n R q) (hB : 0 < B) (hn : 0 ≤ n) (hlt : R < B * 2 ^ n.toNat) : Inv A B (n - 1) R q := by
  obtain ⟨e, r0, q0, _, h2⟩ := h
  obtain ⟨a, b, k, hk⟩ := h2 hn
  refine ⟨e, r0, q0, ?_, ?_⟩
  · intro h0
    obtain rfl : n = 0 := by omega
    simpa using hlt
  · intro h0
    rw [show (n - 1).toNat + 1 = n.toNat by omega]
    refine ⟨hlt, ?_, ⟨2 * k, by rw [hk, Int.pow_succ, Int.mul_assoc]⟩⟩
    have e2 : B * 2 ^ n.toNat = B * 2 ^ (n - 1).toNat + B * 2 ^ (n - 1).toNat := by rw [show n.toNat = (n - 1).toNat + 1 by omega, Int.pow_succ, ← Int.mul_assoc]; omega
    have := Int.mul_pos hB (Int.pow_pos (by decide) : (0 : Int) < 2 ^ (n - 1).toNat)
    omega
theorem inv_end {A B n R q : Int} (h : Inv A B n R q) (hB : 0 < B) (hn : n < 0) : q = A / B ∧ R = A % B := by
  obtain ⟨e, r0, q0, h1, _⟩ := h
  have := h1 hn
  have d := Int.ediv_emod_unique (a := A) (b := B) (r := R) (q := q) hB
  have := d.2 ⟨by rw [Int.mul_comm]; omega, r0, this⟩
  exact ⟨this.1.symm, this.2.symm⟩
theorem inv_bd {A B n R q : Int} (h : Inv A B n R q) (hA : A < TOP) (hB : 0 < B) : R < TOP ∧ q ≤ A ∧ R ≤ A := by
  obtain ⟨e, r0, q0, _, _⟩ := h
  have h1 : q * 1 ≤ q * B := Int.mul_le_mul_of_nonneg_left (by omega) q0
  rw [Int.mul_one] at h1
  omega
theorem set_bit0 {q x S : Int} (hq : q = 1 * x) (hx : 0 ≤ x) (hS : 0 ≤ S) (hf : x % 18446744073709551616 + S ≤ 18446744073709551615) : wd0 (q + 1 * S) = wd0 q + S ∧ wd1 (q + 1 * S) = wd1 q ∧ wd2 (q + 1 * S) = wd2 q ∧ wd3 (q + 1 * S) = wd3 q ∧ wd4 (q + 1 * S) = wd4 q ∧ wd5 (q + 1 * S) = wd5 q ∧ wd0 q = x % 18446744073709551616 := by
  subst hq
  unfold wd0 wd1 wd2 wd3 wd4 wd5
  refine ⟨?_, ?_, ?_, ?_, ?_, ?_, ?_⟩ <;> omega
theorem set_bit1 {q x S : Int} (hq : q = 18446744073709551616 * x) (hx : 0 ≤ x) (hS : 0 ≤ S) (hf : x % 18446744073709551616 + S ≤ 18446744073709551615) : wd0 (q + 18446744073709551616 * S) = wd0 q ∧ wd1 (q + 18446744073709551616 * S) = wd1 q + S ∧ wd2 (q + 18446744073709551616 * S) = wd2 q ∧ wd3 (q + 18446744073709551616 * S) = wd3 q ∧ wd4 (q + 18446744073709551616 * S) = wd4 q ∧ wd5 (q + 18446744073709551616 * S) = wd5 q ∧ wd1 q = x % 18446744073709551616 := by
  subst hq
  unfold wd0 wd1 wd2 wd3 wd4 wd5
  refine ⟨?_, ?_, ?_, ?_, ?_, ?_, ?_⟩ <;> omega
theorem set_bit2 {q x S : Int} (hq : q = 340282366920938463463374607431768211456 * x) (hx : 0 ≤ x) (hS : 0 ≤ S) (hf : x % 18446744073709551616 + S ≤ 18446744073709551615) : wd0 (q + 340282366920938463463374607431768211456 * S) = wd0 q ∧ wd1 (q + 340282366920938463463374607431768211456 * S) = wd1 q ∧ wd2 (q + 340282366920938463463374607431768211456 * S) = wd2 q + S ∧ wd3 (q + 340282366920938463463374607431768211456 * S) = wd3 q ∧ wd4 (q + 340282366920938463463374607431768211456 * S) = wd4 q ∧ wd5 (q + 340282366920938463463374607431768211456 * S) = wd5 q ∧ wd2 q = x % 18446744073709551616 := by
  subst hq
  unfold wd0 wd1 wd2 wd3 wd4 wd5
  refine ⟨?_, ?_, ?_, ?_, ?_, ?_, ?_⟩ <;> omega
theorem set_bit3 {q x S : Int} (hq : q = 6277101735386680763835789423207666416102355444464034512896 * x) (hx : 0 ≤ x) (hS : 0 ≤ S) (hf : x % 18446744073709551616 + S ≤ 18446744073709551615) : wd0 (q + 6277101735386680763835789423207666416102355444464034512896 * S) = wd0 q ∧ wd1 (q + 6277101735386680763835789423207666416102355444464034512896 * S) = wd1 q ∧ wd2 (q + 6277101735386680763835789423207666416102355444464034512896 * S) = wd2 q ∧ wd3 (q + 6277101735386680763835789423207666416102355444464034512896 * S) = wd3 q + S ∧ wd4 (q + 6277101735386680763835789423207666416102355444464034512896 * S) = wd4 q ∧ wd5 (q + 6277101735386680763835789423207666416102355444464034512896 * S) = wd5 q ∧ wd3 q = x % 18446744073709551616 := by
  subst hq
  unfold wd0 wd1 wd2 wd3 wd4 wd5
  refine ⟨?_, ?_, ?_, ?_, ?_, ?_, ?_⟩ <;> omega
theorem set_bit4 {q x S : Int} (hq : q = 115792089237316195423570985008687907853269984665640564039457584007913129639936 * x) (hx : 0 ≤ x) (hS : 0 ≤ S) (hf : x % 18446744073709551616 + S ≤ 18446744073709551615) : wd0 (q + 115792089237316195423570985008687907853269984665640564039457584007913129639936 * S) = wd0 q ∧ wd1 (q + 115792089237316195423570985008687907853269984665640564039457584007913129639936 * S) = wd1 q ∧ wd2 (q + 115792089237316195423570985008687907853269984665640564039457584007913129639936 * S) = wd2 q ∧ wd3 (q + 115792089237316195423570985008687907853269984665640564039457584007913129639936 * S) = wd3 q ∧ wd4 (q + 115792089237316195423570985008687907853269984665640564039457584007913129639936 * S) = wd4 q + S ∧ wd5 (q + 115792089237316195423570985008687907853269984665640564039457584007913129639936 * S) = wd5 q ∧ wd4 q = x % 18446744073709551616 := by
  subst hq
  unfold wd0 wd1 wd2 wd3 wd4 wd5
  refine ⟨?_, ?_, ?_, ?_, ?_, ?_, ?_⟩ <;> omega
theorem set_bit5 {q x S : Int} (hq : q = 2135987035920910082395021706169552114602704522356652769947041607822219725780640550022962086936576 * x) (hx : 0 ≤ x) (hS : 0 ≤ S) (hf : x % 18446744073709551616 + S ≤ 18446744073709551615) : wd0 (q + 2135987035920910082395021706169552114602704522356652769947041607822219725780640550022962086936576 * S) = wd0 q ∧ wd1 (q + 2135987035920910082395021706169552114602704522356652769947041607822219725780640550022962086936576 * S) = wd1 q ∧ wd2 (q + 2135987035920910082395021706169552114602704522356652769947041607822219725780640550022962086936576 * S) = wd2 q ∧ wd3 (q + 2135987035920910082395021706169552114602704522356652769947041607822219725780640550022962086936576 * S) = wd3 q ∧ wd4 (q + 2135987035920910082395021706169552114602704522356652769947041607822219725780640550022962086936576 * S) = wd4 q ∧ wd5 (q + 2135987035920910082395021706169552114602704522356652769947041607822219725780640550022962086936576 * S) = wd5 q + S ∧ wd5 q = x % 18446744073709551616 := by
  subst hq
  unfold wd0 wd1 wd2 wd3 wd4 wd5
  refine ⟨?_, ?_, ?_, ?_, ?_, ?_, ?_⟩ <;> omega
/-- The bit's word. -/
theorem bit_word {n q k : Int} (n0 : 0 ≤ n) (q0 : 0 ≤ q) (hk : q = 2 ^ (n.toNat + 1) * k) {W : Nat} (hW : n / 64 = W) {P : Int} (hP : (2 : Int) ^ (64 * W) = P) :
    ∃ x s : Int, s = n % 64 ∧ 0 ≤ s ∧ s ≤ 63 ∧ q = P * x ∧ 0 ≤ x ∧ 2 ^ n.toNat = P * 2 ^ s.toNat ∧ 0 < (2 : Int) ^ s.toNat ∧ (2 : Int) ^ s.toNat ≤ 9223372036854775808 ∧ x % 18446744073709551616 + 2 ^ s.toNat ≤ 18446744073709551615 ∧ (x % 18446744073709551616) % 2 ^ (s.toNat + 1) = 0 := by
  obtain ⟨s, hs⟩ : ∃ s : Nat, (s : Int) = n % 64 := ⟨(n % 64).toNat, by omega⟩
  have hs63 : s ≤ 63 := by omega
  have en : n.toNat = 64 * W + s := by omega
  have hp : (0 : Int) < 2 ^ s := Int.pow_pos (by decide)
  have hp1 : (0 : Int) < 2 ^ (s + 1) := Int.pow_pos (by decide)
  have hP0 : (0 : Int) < P := by rw [← hP]; exact Int.pow_pos (by decide)
  have e64 : (2 : Int) ^ (s + 1) * 2 ^ (63 - s) = 18446744073709551616 := by rw [← Int.pow_add, show s + 1 + (63 - s) = 64 by omega]; decide
  have e63 : (2 : Int) ^ s * 2 ^ (63 - s) = 9223372036854775808 := by rw [← Int.pow_add, show s + (63 - s) = 63 by omega]; decide
  have hr : (0 : Int) < 2 ^ (63 - s) := Int.pow_pos (by decide)
  have hq : q = P * (2 ^ (s + 1) * k) := by rw [hk, en, show 64 * W + s + 1 = 64 * W + (s + 1) by omega, Int.pow_add, hP, Int.mul_assoc]
  have hm : 2 ^ (s + 1) * k % 18446744073709551616 = 2 ^ (s + 1) * (k % 2 ^ (63 - s)) := by rw [← e64]; exact Int.mul_emod_mul_of_pos _ _ hp1
  have hx : 0 ≤ 2 ^ (s + 1) * k := by
    apply Int.le_of_not_gt; intro hneg
    have := Int.mul_lt_mul_of_pos_left hneg hP0
    rw [← hq, Int.mul_zero] at this; omega
  refine ⟨2 ^ (s + 1) * k, s, hs, by omega, by omega, hq, hx, ?_, ?_, ?_, ?_, ?_⟩
  · rw [Int.toNat_natCast, en, Int.pow_add, hP]
  · rw [Int.toNat_natCast]; exact hp
  · rw [Int.toNat_natCast, ← e63]
    have := Int.mul_le_mul_of_nonneg_left (show (1 : Int) ≤ 2 ^ (63 - s) by omega) (Int.le_of_lt hp)
    omega
  · rw [Int.toNat_natCast, hm]
    have b1 := Int.emod_lt_of_pos k hr
    have b2 := Int.mul_le_mul_of_nonneg_left (show k % 2 ^ (63 - s) ≤ 2 ^ (63 - s) - 1 by omega) (Int.le_of_lt hp1)
    rw [Int.mul_sub, Int.mul_one, e64] at b2
    have b3 : (2 : Int) ^ (s + 1) = 2 ^ s + 2 ^ s := by rw [Int.pow_succ]; omega
    omega
  · rw [Int.toNat_natCast, hm]; exact Int.mul_emod_right _ _
theorem or_bit {x s : Int} (s0 : 0 ≤ s) (s1 : s ≤ 63) (hp : 0 < (2 : Int) ^ s.toNat) (hl : (2 : Int) ^ s.toNat ≤ 9223372036854775808) (hf : x % 18446744073709551616 + 2 ^ s.toNat ≤ 18446744073709551615) (hd : (x % 18446744073709551616) % 2 ^ (s.toNat + 1) = 0) :
    lor .u64 (x % 18446744073709551616) (IntKind.u64.wrap (2 ^ s.toNat)) = x % 18446744073709551616 + 2 ^ s.toNat := by
  rw [wu, Int.emod_eq_of_lt (a := 2 ^ s.toNat) (b := 18446744073709551616) (by omega) (by omega)]
  have e : (2 : Int) ^ (s.toNat + 1) = 2 ^ s.toNat + 2 ^ s.toNat := by rw [Int.pow_succ]; omega
  exact bits_join .u64 64 (by decide) wraps64 (s.toNat + 1) _ _ (by omega) hd (by omega) (by omega) (by omega) (by omega)

/-- The words of a number, as a row. -/
def tl (n : Int) : List Int := [wd0 n, wd1 n, wd2 n, wd3 n, wd4 n, wd5 n]
theorem set_tl {n q k : Int} (n0 : 0 ≤ n) (n1 : n ≤ 383) (q0 : 0 ≤ q) (hk : q = 2 ^ (n.toNat + 1) * k) :
    (tl q).set (n.fdiv 64).toNat (lor .u64 (nth 0 (tl q) (n.fdiv 64).toNat) (IntKind.u64.wrap (1 * 2 ^ min (IntKind.u64.wrap (land .i64 n 63)).toNat 64))) = tl (q + 2 ^ n.toNat) := by
  rw [fd n 64 (by decide), and63 n n0 (by omega), uw (x := n % 64) (by omega) (by omega), show min (n % 64).toNat 64 = (n % 64).toNat by omega, Int.one_mul]
  rcases (show n / 64 = (0 : Nat) ∨ n / 64 = (1 : Nat) ∨ n / 64 = (2 : Nat) ∨ n / 64 = (3 : Nat) ∨ n / 64 = (4 : Nat) ∨ n / 64 = (5 : Nat) by omega) with hw | hw | hw | hw | hw | hw
  · obtain ⟨x, s, hs, s0, s1, hq, x0, hp, sp, sl, hf, hd⟩ := bit_word n0 q0 hk hw (P := 1) (by decide)
    obtain ⟨g0, g1, g2, g3, g4, g5, gx⟩ := set_bit0 hq x0 (Int.le_of_lt sp) hf
    have ho := or_bit s0 s1 sp sl hf hd
    rw [hw, ← hs, hp]
    simp only [tl, Int.toNat_natCast, nth, List.set_cons_succ, List.set_cons_zero, g0, g1, g2, g3, g4, g5]
    rw [gx, ho]
  · obtain ⟨x, s, hs, s0, s1, hq, x0, hp, sp, sl, hf, hd⟩ := bit_word n0 q0 hk hw (P := 18446744073709551616) (by decide)
    obtain ⟨g0, g1, g2, g3, g4, g5, gx⟩ := set_bit1 hq x0 (Int.le_of_lt sp) hf
    have ho := or_bit s0 s1 sp sl hf hd
    rw [hw, ← hs, hp]
    simp only [tl, Int.toNat_natCast, nth, List.set_cons_succ, List.set_cons_zero, g0, g1, g2, g3, g4, g5]
    rw [gx, ho]
  · obtain ⟨x, s, hs, s0, s1, hq, x0, hp, sp, sl, hf, hd⟩ := bit_word n0 q0 hk hw (P := 340282366920938463463374607431768211456) (by decide)
    obtain ⟨g0, g1, g2, g3, g4, g5, gx⟩ := set_bit2 hq x0 (Int.le_of_lt sp) hf
    have ho := or_bit s0 s1 sp sl hf hd
    rw [hw, ← hs, hp]
    simp only [tl, Int.toNat_natCast, nth, List.set_cons_succ, List.set_cons_zero, g0, g1, g2, g3, g4, g5]
    rw [gx, ho]
  · obtain ⟨x, s, hs, s0, s1, hq, x0, hp, sp, sl, hf, hd⟩ := bit_word n0 q0 hk hw (P := 6277101735386680763835789423207666416102355444464034512896) (by decide)
    obtain ⟨g0, g1, g2, g3, g4, g5, gx⟩ := set_bit3 hq x0 (Int.le_of_lt sp) hf
    have ho := or_bit s0 s1 sp sl hf hd
    rw [hw, ← hs, hp]
    simp only [tl, Int.toNat_natCast, nth, List.set_cons_succ, List.set_cons_zero, g0, g1, g2, g3, g4, g5]
    rw [gx, ho]
  · obtain ⟨x, s, hs, s0, s1, hq, x0, hp, sp, sl, hf, hd⟩ := bit_word n0 q0 hk hw (P := 115792089237316195423570985008687907853269984665640564039457584007913129639936) (by decide)
    obtain ⟨g0, g1, g2, g3, g4, g5, gx⟩ := set_bit4 hq x0 (Int.le_of_lt sp) hf
    have ho := or_bit s0 s1 sp sl hf hd
    rw [hw, ← hs, hp]
    simp only [tl, Int.toNat_natCast, nth, List.set_cons_succ, List.set_cons_zero, g0, g1, g2, g3, g4, g5]
    rw [gx, ho]
  · obtain ⟨x, s, hs, s0, s1, hq, x0, hp, sp, sl, hf, hd⟩ := bit_word n0 q0 hk hw (P := 2135987035920910082395021706169552114602704522356652769947041607822219725780640550022962086936576) (by decide)
    obtain ⟨g0, g1, g2, g3, g4, g5, gx⟩ := set_bit5 hq x0 (Int.le_of_lt sp) hf
    have ho := or_bit s0 s1 sp sl hf hd
    rw [hw, ← hs, hp]
    simp only [tl, Int.toNat_natCast, nth, List.set_cons_succ, List.set_cons_zero, g0, g1, g2, g3, g4, g5]
    rw [gx, ho]
theorem val_tl {n : Int} (h0 : 0 ≤ n) (h1 : n < TOP) : val (wd0 n) (wd1 n) (wd2 n) (wd3 n) (wd4 n) (wd5 n) = n := val_tup h0 h1
set_option maxRecDepth 10000 in
theorem quo_loop {K : Nat} (hK : 7 ≤ K) {A B : Int} (hA : 0 ≤ A ∧ A < TOP) (hB : 0 < B ∧ B < TOP) (l4 l5 : List Int) : ∀ (k : Nat) (n R q : Int), Inv A B n R q → n ≤ 383 → (n + 1).toNat < k → F.wide_Int_Quo_l3 K k n (tl R) (tl B) l4 l5 (tl q) = some (tl (A % B), l4, l5, tl (A / B))
  | 0, n, R, q, hI, hn, hk => by omega
  | k + 1, n, R, q, hI, hn, hk => by
    rw [F.wide_Int_Quo_l3]
    have hk' : 0 ≤ n → (n - 1 + 1).toNat < k := fun h => by clear hI; omega
    by_cases n0 : n ≥ 0
    · have n0' : 0 ≤ n := n0
      obtain ⟨hbR, hbq, hbR'⟩ := inv_bd hI hA.2 hB.1
      obtain ⟨i1, R0, q0, i4, i5⟩ := id hI
      obtain ⟨j1, hT1, kk, hkk⟩ := i5 n0'
      have hp : (0 : Int) < 2 ^ n.toNat := Int.pow_pos (by decide)
      have hT0 : 0 ≤ B * 2 ^ n.toNat := Int.mul_nonneg (by omega) (by omega)
      have e1 := left_ok hK (words_tup B) n0' hn
      rw [val_tup (by omega) hB.2, Int.emod_eq_of_lt hT0 hT1] at e1
      have e2 := cmp_ok hK (words_tup R) (words_tup (B * 2 ^ n.toNat))
      rw [val_tup R0 hbR, val_tup hT0 hT1] at e2
      have hd : ¬ (n < 0) := by omega
      by_cases hge : B * 2 ^ n.toNat ≤ R
      · have e3 := sub_ok hK (words_tup R) (words_tup (B * 2 ^ n.toNat))
        rw [val_tup R0 hbR, val_tup hT0 hT1, Int.emod_eq_of_lt (by omega) (by omega)] at e3
        have ec : cmp3 R (B * 2 ^ n.toNat) ≥ 0 := by unfold cmp3; rw [if_neg (by omega)]; split <;> omega
        have st := set_tl n0' hn q0 hkk
        have ih := quo_loop hK hA hB l4 l5 k (n - 1) (R - B * 2 ^ n.toNat) (q + 2 ^ n.toNat) (inv_yes hI hB.1 n0' hge) (by omega) (hk' n0')
        have hw : 0 ≤ n.fdiv 64 ∧ n.fdiv 64 < 6 ∧ (n.fdiv 64).toNat < 6 := by rw [fd n 64 (by decide)]; omega
        have hl : ¬ IntKind.u64.wrap (land .i64 n 63) < 0 := by rw [and63 n n0' (by omega), uw (by omega) (by omega)]; omega
        rw [iw (by omega) (by omega)]
        rw [← st] at ih
        simp [tl, nth] at e1 e2 e3 ih ⊢
        simp [n0', e1, tup, e2, ec, e3, hw, hl, ih]
      · have ec : ¬ cmp3 R (B * 2 ^ n.toNat) ≥ 0 := by unfold cmp3; rw [if_pos (by omega)]; omega
        have ih := quo_loop hK hA hB l4 l5 k (n - 1) R q (inv_no hI hB.1 n0' (by omega)) (by omega) (hk' n0')
        rw [iw (by omega) (by omega)]
        simp [tl, nth] at e1 e2 ih ⊢
        simp [n0', e1, tup, e2, ec, ih]
    · obtain ⟨rfl, rfl⟩ := inv_end hI hB.1 (by omega)
      simp [n0]
theorem words_tl {a0 a1 a2 a3 a4 a5 : Int} (h : Words a0 a1 a2 a3 a4 a5) : [a0, a1, a2, a3, a4, a5] = tl (val a0 a1 a2 a3 a4 a5) := by
  have e := tup_val h
  simp only [tup, Prod.mk.injEq] at e
  obtain ⟨e0, e1, e2, e3, e4, e5⟩ := e
  rw [tl, e0, e1, e2, e3, e4, e5]
theorem mm (a b m : Int) : a % m * b % m = a * b % m := by
  rw [Int.mul_emod (a % m) b, Int.emod_emod_of_dvd a (Int.dvd_refl m), ← Int.mul_emod]
theorem tl0 : tl 0 = [0, 0, 0, 0, 0, 0] := by decide
/-- What Quo answers, as a tuple. -/
def tup2 (q r : Int) : Int × Int × Int × Int × Int × Int × Int × Int × Int × Int × Int × Int := (wd0 q, wd1 q, wd2 q, wd3 q, wd4 q, wd5 q, wd0 r, wd1 r, wd2 r, wd3 r, wd4 r, wd5 r)
set_option maxRecDepth 10000 in
theorem quo_ok {K : Nat} (hK : 400 ≤ K) {a0 a1 a2 a3 a4 a5 b0 b1 b2 b3 b4 b5 : Int} (ha : Words a0 a1 a2 a3 a4 a5) (hb : Words b0 b1 b2 b3 b4 b5) (h0 : 0 < val b0 b1 b2 b3 b4 b5) :
    F.wide_Int_Quo K a0 a1 a2 a3 a4 a5 b0 b1 b2 b3 b4 b5 = some (tup2 (val a0 a1 a2 a3 a4 a5 / val b0 b1 b2 b3 b4 b5) (val a0 a1 a2 a3 a4 a5 % val b0 b1 b2 b3 b4 b5)) := by
  have bA := val_bd ha
  have bB := val_bd hb
  have l1 := len_ok (by omega : 7 ≤ K) ha
  have l2 := len_ok (by omega : 7 ≤ K) hb
  have hl1 : 0 ≤ blen (val a0 a1 a2 a3 a4 a5) ∧ blen (val a0 a1 a2 a3 a4 a5) ≤ 384 := blen_lt (n := 384) (by rw [p384]; exact bA.2)
  have hl2 : 0 ≤ blen (val b0 b1 b2 b3 b4 b5) ∧ blen (val b0 b1 b2 b3 b4 b5) ≤ 384 := blen_lt (n := 384) (by rw [p384]; exact bB.2)
  have hl3 : 1 ≤ blen (val b0 b1 b2 b3 b4 b5) := by obtain ⟨m, e, _⟩ := blen_spec h0; omega
  have key := quo_loop (by omega : 7 ≤ K) bA ⟨h0, bB.2⟩ [0, 0, 0, 0, 0, 0] [0, 0, 0, 0, 0, 0] K _ _ _ (inv_start bA ⟨h0, bB.2⟩) (by omega) (by omega)
  rw [← words_tl ha, ← words_tl hb, tl0] at key
  unfold F.wide_Int_Quo
  rw [l1, Option.bind_some, l2, Option.bind_some, iw (by omega) (by omega), key]
  simp [tl, nth, tup2]
set_option maxRecDepth 10000 in
theorem ten_loop {K : Nat} (hK : 7 ≤ K) (l2 : List Int) : ∀ (k : Nat) (N i : Nat) (hN : N ≤ 100) (hi : i ≤ N), N - i < k → F.wide_Ten_l3 K k N i l2 (tl (10 ^ i % TOP)) = some (l2, tl (10 ^ N % TOP))
  | 0, N, i, hN, hi, hk => by omega
  | k + 1, N, i, hN, hi, hk => by
    rw [F.wide_Ten_l3]
    have hT : (0 : Int) < TOP := by decide
    by_cases c : i < N
    · have c' : (i : Int) < (N : Int) := by omega
      have e := mul_ok hK (words_tup (10 ^ i % TOP)) (b0 := 10) (b1 := 0) (b2 := 0) (b3 := 0) (b4 := 0) (b5 := 0) (by decide)
      rw [val_tup (Int.emod_nonneg _ (by decide)) (Int.emod_lt_of_pos _ hT), show val 10 0 0 0 0 0 = 10 by decide, mm, ← Int.pow_succ] at e
      have ih := ten_loop hK l2 k N (i + 1) hN c (by omega)
      rw [iw (by omega) (by omega), show (i : Int) + 1 = ((i + 1 : Nat) : Int) by omega]
      simp [tl, nth] at e ih ⊢
      simp [c', e, tup, ih]
      omega
    · obtain rfl : i = N := by omega
      simp
set_option maxRecDepth 10000 in
theorem ten_ok {K : Nat} (hK : 400 ≤ K) {n : Int} (h0 : 0 ≤ n) (h1 : n ≤ 100) : F.wide_Ten K n = some (tup (10 ^ n.toNat % TOP)) := by
  obtain ⟨N, rfl⟩ := Int.eq_ofNat_of_zero_le h0
  have key := ten_loop (by omega : 7 ≤ K) [0, 0, 0, 0, 0, 0] K N 0 (by omega) (by omega) (by omega)
  rw [show (10 : Int) ^ 0 % TOP = 1 by decide, show tl 1 = [1, 0, 0, 0, 0, 0] by decide] at key
  have key' : F.wide_Ten_l3 K K (N : Int) 0 [0, 0, 0, 0, 0, 0] [1, 0, 0, 0, 0, 0] = _ := key
  unfold F.wide_Ten
  rw [key']
  simp [tl, nth, tup]
end Go.Proofs.Ytppdgohcgklinaa.Wide

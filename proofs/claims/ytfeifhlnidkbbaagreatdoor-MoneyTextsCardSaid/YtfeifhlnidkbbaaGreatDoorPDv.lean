/- bits.Div64 is the quotient and the remainder. Conditions: none here. -/
import Derived.Test.YtfeifhlnidkbbaaGreatDoorPWa
import Derived.Test.YtfeifhlnidkbbaaGreatDoorFT
set_option linter.unusedVariables false
set_option linter.unusedSimpArgs false
namespace Go.Proofs.YtfeifhlnidkbbaaGreatDoor.Wide
open Go Go.RowKit Go.Proofs.YtfeifhlnidkbbaaGreatDoor.Vm
theorem lor_add {s : Nat} (hs : s ≤ 64) {a b : Int} (ha : 0 ≤ a) (hb : 0 ≤ b) (hb2 : b < 2 ^ s) (h : a * 2 ^ s + b < 18446744073709551616) : lor .u64 (a * 2 ^ s) b = a * 2 ^ s + b := by
  rw [show (18446744073709551616 : Int) = 2 ^ 64 by decide] at h
  obtain ⟨a, rfl⟩ := Int.eq_ofNat_of_zero_le ha
  obtain ⟨b, rfl⟩ := Int.eq_ofNat_of_zero_le hb
  have hb2' : b < 2 ^ s := by exact_mod_cast hb2
  have h' : a * 2 ^ s + b < 2 ^ 64 := by exact_mod_cast h
  have e1 : ((a : Int) * 2 ^ s) = ((2 ^ s * a : Nat) : Int) := by push_cast; exact Int.mul_comm _ _
  have e2 : 2 ^ s * a + b = 2 ^ s * a ||| b := Nat.two_pow_add_eq_or_of_lt hb2' a
  have e3 : 2 ^ s * a + b < 2 ^ 64 := by rw [Nat.mul_comm]; exact h'
  unfold lor
  rw [e1]
  show IntKind.u64.wrap (((BitVec.ofInt 64 ((2 ^ s * a : Nat) : Int) ||| BitVec.ofInt 64 (b : Int)).toNat : Nat) : Int) = _
  rw [BitVec.toNat_or, BitVec.ofInt_natCast, BitVec.ofInt_natCast, BitVec.toNat_ofNat, BitVec.toNat_ofNat, Nat.mod_eq_of_lt (by omega), Nat.mod_eq_of_lt (by omega), ← e2]
  generalize 2 ^ s * a = z at *
  rw [uw (by omega) (by omega)]
  omega
theorem dg_mul {y1 y0 u q r : Int} (e : q * y1 + r = u) : q * (y1 * 4294967296 + y0) = (u - r) * 4294967296 + q * y0 := by
  have : u - r = q * y1 := by omega
  rw [this, Int.mul_add, Int.mul_assoc]
theorem dg_done {y1 y0 u d q r : Int} (hy : 0 < y1 * 4294967296 + y0) (e : q * y1 + r = u) (h : q * y0 ≤ 4294967296 * r + d) : q ≤ (u * 4294967296 + d) / (y1 * 4294967296 + y0) := by
  refine (Int.le_ediv_iff_mul_le hy).2 ?_
  rw [dg_mul e]
  omega
theorem dg_over {y1 y0 u d q r : Int} (hy : 0 < y1 * 4294967296 + y0) (e : q * y1 + r = u) (h : 4294967296 * r + d < q * y0) : (u * 4294967296 + d) / (y1 * 4294967296 + y0) ≤ q - 1 := by
  have : (u * 4294967296 + d) / (y1 * 4294967296 + y0) < q := by
    refine Int.ediv_lt_of_lt_mul hy ?_
    rw [dg_mul e]
    omega
  omega
theorem dg_break {y1 y0 u d q r : Int} (hy : 0 < y1 * 4294967296 + y0) (h0 : 0 ≤ y0 ∧ y0 < 4294967296) (hd : 0 ≤ d) (hq : 0 ≤ q ∧ q ≤ 4294967296) (e : q * y1 + r = u) (hr : 4294967296 ≤ r) : q ≤ (u * 4294967296 + d) / (y1 * 4294967296 + y0) := by
  refine (Int.le_ediv_iff_mul_le hy).2 ?_
  rw [dg_mul e]
  have := (mul_le hq.1 hq.2 h0.1 (Int.le_of_lt h0.2)).2
  omega
theorem dg_lt {y u d : Int} (hy : 0 < y) (hu : u < y) (hd : 0 ≤ d ∧ d < 4294967296) : (u * 4294967296 + d) / y < 4294967296 := by
  refine Int.ediv_lt_of_lt_mul hy ?_
  omega
theorem dg_first {y1 y0 u d : Int} (h1 : 2147483648 ≤ y1) (h0 : 0 ≤ y0 ∧ y0 < 4294967296) (hu : 0 ≤ u ∧ u < y1 * 4294967296 + y0) (hd : 0 ≤ d ∧ d < 4294967296) :
    (u * 4294967296 + d) / (y1 * 4294967296 + y0) ≤ u / y1 ∧ 0 ≤ u / y1 ∧ u / y1 ≤ 4294967297 ∧ u / y1 * y1 + u % y1 = u ∧ 0 ≤ u % y1 ∧ u % y1 < y1 := by
  have m0 := Int.emod_nonneg u (show y1 ≠ 0 by omega)
  have m1 := Int.emod_lt_of_pos u (show 0 < y1 by omega)
  have e : u / y1 * y1 + u % y1 = u := by have := Int.mul_ediv_add_emod u y1; rw [Int.mul_comm]; exact this
  refine ⟨?_, Int.ediv_nonneg hu.1 (by omega), ?_, e, m0, m1⟩
  · have : (u * 4294967296 + d) / (y1 * 4294967296 + y0) < u / y1 + 1 := by
      refine Int.ediv_lt_of_lt_mul (by omega) ?_
      have e2 : (u / y1 + 1) * y1 + (u % y1 - y1) = u := by rw [Int.add_mul]; omega
      rw [dg_mul e2]
      have : 0 ≤ (u / y1 + 1) * y0 := Int.mul_nonneg (by have := Int.ediv_nonneg hu.1 (show 0 ≤ y1 by omega); omega) h0.1
      omega
    omega
  · have : u / y1 < 4294967298 := by
      refine Int.ediv_lt_of_lt_mul (by omega) ?_
      omega
    omega
theorem dg_step {y1 y0 u d q r : Int} (h1 : 2147483648 ≤ y1 ∧ y1 < 4294967296) (h0 : 0 ≤ y0 ∧ y0 < 4294967296) (hu : u < y1 * 4294967296 + y0) (hd : 0 ≤ d ∧ d < 4294967296) (e : q * y1 + r = u) (hr : 0 ≤ r ∧ r < 4294967296) (hq : 0 ≤ q ∧ q ≤ 4294967297)
    (hQ : (u * 4294967296 + d) / (y1 * 4294967296 + y0) ≤ q) (t : 4294967296 ≤ q ∨ 4294967296 * r + d < q * y0) :
    (u * 4294967296 + d) / (y1 * 4294967296 + y0) ≤ q - 1 ∧ 1 ≤ q ∧ (q - 1) * y1 + (r + y1) = u := by
  have hy : 0 < y1 * 4294967296 + y0 := by omega
  have l := dg_lt hy hu hd
  refine ⟨?_, ?_, by rw [Int.sub_mul]; omega⟩
  · rcases t with t | t
    · omega
    · exact dg_over hy e t
  · rcases t with t | t
    · omega
    · rcases Int.lt_or_le 0 q with h | h
      · omega
      · have : q = 0 := by omega
        subst this
        omega
theorem l17_ok (K : Nat) {y s y1 y0 u d z : Int} (h1 : 2147483648 ≤ y1 ∧ y1 < 4294967296) (h0 : 0 ≤ y0 ∧ y0 < 4294967296) (hu : u < y1 * 4294967296 + y0) (hd : 0 ≤ d ∧ d < 4294967296) :
    ∀ (k : Nat) (q r : Int), q * y1 + r = u → 0 ≤ r ∧ r < 4294967296 → 0 ≤ q ∧ q ≤ 4294967297 → (u * 4294967296 + d) / (y1 * 4294967296 + y0) ≤ q → 4294967296 ≤ r + k * y1 →
    F.bits_Div64_l17 K (k + 1) y s y1 y0 u d z q r = some (y, s, y1, y0, u, d, z, (u * 4294967296 + d) / (y1 * 4294967296 + y0))
  | 0, q, r, _, hr, _, _, hk => by omega
  | k + 1, q, r, e, hr, hq, hQ, hk => by
    have hy : 0 < y1 * 4294967296 + y0 := by omega
    have m := mul_le hq.1 hq.2 h0.1 (show y0 ≤ 4294967295 by omega)
    have a1 : IntKind.u64.wrap (q * y0) = q * y0 := uw m.1 (by omega)
    have a2 : IntKind.u64.wrap (4294967296 * r) = 4294967296 * r := uw (by omega) (by omega)
    have a3 : IntKind.u64.wrap (4294967296 * r + d) = 4294967296 * r + d := uw (by omega) (by omega)
    have a4 : IntKind.u64.wrap (r + y1) = r + y1 := uw (by omega) (by omega)
    rw [F.bits_Div64_l17]
    simp only [bi_eq, a1, a2, a3, a4]
    have go : ∀ (t : 4294967296 ≤ q ∨ 4294967296 * r + d < q * y0), (if decide (r + y1 ≥ 4294967296) = true then some (y, s, y1, y0, u, d, z, IntKind.u64.wrap (q - 1)) else F.bits_Div64_l17 K (k + 1) y s y1 y0 u d z (IntKind.u64.wrap (q - 1)) (r + y1)) = some (y, s, y1, y0, u, d, z, (u * 4294967296 + d) / (y1 * 4294967296 + y0)) := fun t => by
      obtain ⟨g1, g2, g3⟩ := dg_step h1 h0 hu hd e hr hq hQ t
      have a5 : IntKind.u64.wrap (q - 1) = q - 1 := uw (by omega) (by omega)
      rw [a5]
      by_cases c : 4294967296 ≤ r + y1
      · rw [if_pos (by simpa using c)]
        have := dg_break hy h0 hd.1 (show 0 ≤ q - 1 ∧ q - 1 ≤ 4294967296 by omega) g3 c
        have : q - 1 = (u * 4294967296 + d) / (y1 * 4294967296 + y0) := by omega
        rw [← this]
      · rw [if_neg (by simpa using c)]
        exact l17_ok K h1 h0 hu hd k (q - 1) (r + y1) g3 ⟨by omega, by omega⟩ ⟨by omega, by omega⟩ g1 (by
          have : (((k + 1 : Nat) : Int)) * y1 = k * y1 + y1 := by push_cast; rw [Int.add_mul]; omega
          omega)
    by_cases t1 : 4294967296 ≤ q
    · rw [if_pos (by simpa using t1)]
      exact go (.inl t1)
    · rw [if_neg (by simpa using t1)]
      by_cases t2 : 4294967296 * r + d < q * y0
      · rw [if_pos (by simpa using t2)]
        exact go (.inr t2)
      · rw [if_neg (by simpa using t2)]
        have := dg_done hy e (show q * y0 ≤ 4294967296 * r + d by omega)
        have : q = (u * 4294967296 + d) / (y1 * 4294967296 + y0) := by omega
        rw [← this]
theorem l24_ok (K : Nat) {y s y1 y0 u d w z : Int} (h1 : 2147483648 ≤ y1 ∧ y1 < 4294967296) (h0 : 0 ≤ y0 ∧ y0 < 4294967296) (hu : u < y1 * 4294967296 + y0) (hd : 0 ≤ d ∧ d < 4294967296) :
    ∀ (k : Nat) (q r : Int), q * y1 + r = u → 0 ≤ r ∧ r < 4294967296 → 0 ≤ q ∧ q ≤ 4294967297 → (u * 4294967296 + d) / (y1 * 4294967296 + y0) ≤ q → 4294967296 ≤ r + k * y1 →
    F.bits_Div64_l24 K (k + 1) y s y1 y0 d w r z q = some (y, s, d, w, z, (u * 4294967296 + d) / (y1 * 4294967296 + y0))
  | 0, q, r, _, hr, _, _, hk => by omega
  | k + 1, q, r, e, hr, hq, hQ, hk => by
    have hy : 0 < y1 * 4294967296 + y0 := by omega
    have m := mul_le hq.1 hq.2 h0.1 (show y0 ≤ 4294967295 by omega)
    have a1 : IntKind.u64.wrap (q * y0) = q * y0 := uw m.1 (by omega)
    have a2 : IntKind.u64.wrap (4294967296 * r) = 4294967296 * r := uw (by omega) (by omega)
    have a3 : IntKind.u64.wrap (4294967296 * r + d) = 4294967296 * r + d := uw (by omega) (by omega)
    have a4 : IntKind.u64.wrap (r + y1) = r + y1 := uw (by omega) (by omega)
    rw [F.bits_Div64_l24]
    simp only [bi_eq, a1, a2, a3, a4]
    have go : ∀ (t : 4294967296 ≤ q ∨ 4294967296 * r + d < q * y0), (if decide (r + y1 ≥ 4294967296) = true then some (y, s, d, w, z, IntKind.u64.wrap (q - 1)) else F.bits_Div64_l24 K (k + 1) y s y1 y0 d w (r + y1) z (IntKind.u64.wrap (q - 1))) = some (y, s, d, w, z, (u * 4294967296 + d) / (y1 * 4294967296 + y0)) := fun t => by
      obtain ⟨g1, g2, g3⟩ := dg_step h1 h0 hu hd e hr hq hQ t
      have a5 : IntKind.u64.wrap (q - 1) = q - 1 := uw (by omega) (by omega)
      rw [a5]
      by_cases c : 4294967296 ≤ r + y1
      · rw [if_pos (by simpa using c)]
        have := dg_break hy h0 hd.1 (show 0 ≤ q - 1 ∧ q - 1 ≤ 4294967296 by omega) g3 c
        have : q - 1 = (u * 4294967296 + d) / (y1 * 4294967296 + y0) := by omega
        rw [← this]
      · rw [if_neg (by simpa using c)]
        exact l24_ok K h1 h0 hu hd k (q - 1) (r + y1) g3 ⟨by omega, by omega⟩ ⟨by omega, by omega⟩ g1 (by
          have : (((k + 1 : Nat) : Int)) * y1 = k * y1 + y1 := by push_cast; rw [Int.add_mul]; omega
          omega)
    by_cases t1 : 4294967296 ≤ q
    · rw [if_pos (by simpa using t1)]
      exact go (.inl t1)
    · rw [if_neg (by simpa using t1)]
      by_cases t2 : 4294967296 * r + d < q * y0
      · rw [if_pos (by simpa using t2)]
        exact go (.inr t2)
      · rw [if_neg (by simpa using t2)]
        have := dg_done hy e (show q * y0 ≤ 4294967296 * r + d by omega)
        have : q = (u * 4294967296 + d) / (y1 * 4294967296 + y0) := by omega
        rw [← this]
theorem two_digits {u d1 d0 y : Int} (hy : 0 < y) : (u * 4294967296 * 4294967296 + d1 * 4294967296 + d0) / y = (u * 4294967296 + d1) / y * 4294967296 + ((u * 4294967296 + d1) % y * 4294967296 + d0) / y
    ∧ (u * 4294967296 * 4294967296 + d1 * 4294967296 + d0) % y = ((u * 4294967296 + d1) % y * 4294967296 + d0) % y := by
  have e := Int.mul_ediv_add_emod (u * 4294967296 + d1) y
  generalize (u * 4294967296 + d1) / y = q at *
  generalize (u * 4294967296 + d1) % y = r at *
  have e2 : u * 4294967296 * 4294967296 + d1 * 4294967296 + d0 = (r * 4294967296 + d0) + y * (q * 4294967296) := by
    have : y * (q * 4294967296) = y * q * 4294967296 := (Int.mul_assoc _ _ _).symm
    rw [this]
    omega
  rw [e2, Int.add_mul_ediv_left _ _ (by omega), Int.add_mul_emod_self_left]
  exact ⟨by omega, rfl⟩
theorem div64_val {K : Nat} (hK : 3 ≤ K) {hi lo y : Int} (hh : 0 ≤ hi ∧ hi < y) (hl : Word lo) (hy : Word y) : F.bits_Div64 K hi lo y = some ((hi * 18446744073709551616 + lo) / y, (hi * 18446744073709551616 + lo) % y) := by
  have y0 : 0 < y := by omega
  unfold Word at hl hy
  unfold F.bits_Div64
  simp only [bi_eq]
  rw [if_neg (by simp <;> omega), if_neg (by simp <;> omega)]
  by_cases h0 : hi = 0
  · subst h0
    rw [if_pos (by simp), if_neg (by simp <;> omega), if_neg (by simp <;> omega)]
    have q1 : lo / y ≤ lo := Int.ediv_le_self _ hl.1
    have q0 := Int.ediv_nonneg hl.1 (show 0 ≤ y by omega)
    rw [td _ hl.1, tm _ hl.1, uw q0 (by omega)]
    simp
  · rw [if_neg (by simpa using h0)]
    obtain ⟨n, b1, b2, b3⟩ := blen_spec y0
    have hn : n ≤ 63 := by
      rcases Nat.lt_or_ge 63 n with h | h
      · have : (2 : Int) ^ 64 ≤ 2 ^ n := by exact_mod_cast Nat.pow_le_pow_right (show 0 < 2 by decide) h
        have : (2 : Int) ^ 64 = 18446744073709551616 := by decide
        omega
      · exact h
    obtain ⟨s, hs⟩ : ∃ s, n + s = 63 := ⟨63 - n, by omega⟩
    have P0 : (0 : Int) < 2 ^ s := Int.pow_pos (by decide)
    have PS : (2 : Int) ^ n * 2 ^ s = 9223372036854775808 := by rw [← Int.pow_add, hs]; decide
    have PT : (2 : Int) ^ (n + 1) * 2 ^ s = 18446744073709551616 := by rw [← Int.pow_add, show n + 1 + s = 64 by omega]; decide
    have e1 : F.bits_LeadingZeros64 K y = some (s : Int) := by
      unfold F.bits_LeadingZeros64
      rw [len64_val K ⟨by omega, hy.2⟩, b1, Option.bind_some, iw (by omega) (by omega)]
      congr 1
      omega
    rw [e1, Option.bind_some]
    have w1 : IntKind.u64.wrap (s : Int) = s := uw (by omega) (by omega)
    have w2 : IntKind.u64.wrap (64 - (s : Int)) = ((64 - s : Nat) : Int) := by rw [uw (by omega) (by omega)]; omega
    have w3 : Min.min s 64 = s := Nat.min_eq_left (by omega)
    have w4 : Min.min (64 - s) 64 = 64 - s := Nat.min_eq_left (by omega)
    simp only [w1, w2, Int.toNat_natCast, w3, w4]
    have yS1 : 9223372036854775808 ≤ y * 2 ^ s := by
      have := Int.mul_le_mul_of_nonneg_right b2 (Int.le_of_lt P0)
      omega
    have yS2 : y * 2 ^ s < 18446744073709551616 := by
      have := Int.mul_lt_mul_of_pos_right b3 P0
      omega
    have hS : hi * 2 ^ s + 2 ^ s ≤ y * 2 ^ s := by
      have := Int.mul_le_mul_of_nonneg_right (show hi + 1 ≤ y by omega) (Int.le_of_lt P0)
      rw [Int.add_mul] at this
      omega
    have hS0 : 0 ≤ hi * 2 ^ s := Int.mul_nonneg hh.1 (Int.le_of_lt P0)
    have PU : (2 : Int) ^ s * 2 ^ (64 - s) = 18446744073709551616 := by rw [← Int.pow_add, show s + (64 - s) = 64 by omega]; decide
    have lq0 : 0 ≤ lo / 2 ^ (64 - s) := Int.ediv_nonneg hl.1 (Int.le_of_lt (Int.pow_pos (by decide)))
    have lq1 : lo / 2 ^ (64 - s) < 2 ^ s := by
      refine Int.ediv_lt_of_lt_mul (Int.pow_pos (by decide)) ?_
      omega
    have w5 : IntKind.u64.wrap (y * 2 ^ s) = y * 2 ^ s := uw (by omega) yS2
    have w6 : IntKind.u64.wrap (hi * 2 ^ s) = hi * 2 ^ s := uw hS0 (by omega)
    have w7 : lo.fdiv (2 ^ (64 - s)) = lo / 2 ^ (64 - s) := fd _ _ (Int.le_of_lt (Int.pow_pos (by decide)))
    have w8 : lor .u64 (hi * 2 ^ s) (lo / 2 ^ (64 - s)) = hi * 2 ^ s + lo / 2 ^ (64 - s) := lor_add (by omega) hh.1 lq0 lq1 (by omega)
    have w9 : IntKind.u64.wrap (lo * 2 ^ s) = lo * 2 ^ s % 18446744073709551616 := wu _
    simp only [w5, w6, w7, w8, w9]
    have z0 := Int.emod_nonneg (lo * 2 ^ s) (show (18446744073709551616 : Int) ≠ 0 by decide)
    have z1 := Int.emod_lt_of_pos (lo * 2 ^ s) (show (0 : Int) < 18446744073709551616 by decide)
    have z2 : lo * 2 ^ s / 18446744073709551616 = lo / 2 ^ (64 - s) := by
      rw [← PU, Int.mul_comm lo, Int.mul_ediv_mul_of_pos _ _ P0]
    have z3 := Int.mul_ediv_add_emod (lo * 2 ^ s) 18446744073709551616
    rw [z2] at z3
    have big : (hi * 18446744073709551616 + lo) * 2 ^ s = (hi * 2 ^ s + lo / 2 ^ (64 - s)) * 18446744073709551616 + lo * 2 ^ s % 18446744073709551616 := by
      rw [Int.add_mul, Int.mul_assoc, Int.mul_comm 18446744073709551616, ← Int.mul_assoc]
      omega
    have res1 : (hi * 18446744073709551616 + lo) / y = (hi * 18446744073709551616 + lo) * 2 ^ s / (y * 2 ^ s) := (Int.mul_ediv_mul_of_pos_left _ _ P0).symm
    have res2 : (hi * 18446744073709551616 + lo) * 2 ^ s % (y * 2 ^ s) = (hi * 18446744073709551616 + lo) % y * 2 ^ s := by rw [Int.mul_comm _ (2 ^ s), Int.mul_comm y, Int.mul_emod_mul_of_pos _ _ P0, Int.mul_comm]
    have usm : hi * 2 ^ s + lo / 2 ^ (64 - s) < y * 2 ^ s := by omega
    have us0 : 0 ≤ hi * 2 ^ s + lo / 2 ^ (64 - s) := by omega
    generalize hi * 2 ^ s + lo / 2 ^ (64 - s) = u at *
    generalize lo * 2 ^ s % 18446744073709551616 = un at *
    generalize hyy : y * 2 ^ s = Y at *
    have f1 : Y.fdiv 4294967296 = Y / 4294967296 := fd _ _ (by decide)
    have f2 : land .u64 Y 4294967295 = Y % 4294967296 := mask32 _ (by omega) (by omega)
    have f3 : un.fdiv 4294967296 = un / 4294967296 := fd _ _ (by decide)
    have f4 : land .u64 un 4294967295 = un % 4294967296 := mask32 _ (by omega) (by omega)
    simp only [f1, f2, f3, f4]
    have Y1 : 2147483648 ≤ Y / 4294967296 ∧ Y / 4294967296 < 4294967296 := by omega
    have Y0 : 0 ≤ Y % 4294967296 ∧ Y % 4294967296 < 4294967296 := by omega
    have YE : Y / 4294967296 * 4294967296 + Y % 4294967296 = Y := by omega
    have D1 : 0 ≤ un / 4294967296 ∧ un / 4294967296 < 4294967296 := by omega
    have D0 : 0 ≤ un % 4294967296 ∧ un % 4294967296 < 4294967296 := by omega
    have UE : un = un / 4294967296 * 4294967296 + un % 4294967296 := by omega
    generalize Y / 4294967296 = y1 at *
    generalize Y % 4294967296 = y2 at *
    generalize un / 4294967296 = d1 at *
    generalize un % 4294967296 = d0 at *
    obtain ⟨k, rfl⟩ : ∃ k, K = k + 2 + 1 := ⟨K - 3, by omega⟩
    have enough : ∀ r : Int, 0 ≤ r → 4294967296 ≤ r + ((k + 2 : Nat) : Int) * y1 := fun r h => by
      have : ((k + 2 : Nat) : Int) * y1 = k * y1 + 2 * y1 := by rw [show ((k + 2 : Nat) : Int) = k + 2 by omega, Int.add_mul]
      have : 0 ≤ (k : Int) * y1 := Int.mul_nonneg (by omega) (by omega)
      omega
    obtain ⟨p1, p2, p3, p4, p5, p6⟩ := dg_first (d := d1) Y1.1 Y0 ⟨us0, by rw [YE]; exact usm⟩ D1
    have v1 : IntKind.u64.wrap (u.tdiv y1) = u / y1 := by rw [td _ us0, uw p2 (by omega)]
    have v2 : IntKind.u64.wrap (u - IntKind.u64.wrap (u / y1 * y1)) = u % y1 := by
      have : 0 ≤ u / y1 * y1 := Int.mul_nonneg p2 (by omega)
      have : u / y1 * y1 = u - u % y1 := by omega
      rw [this, uw (x := u - u % y1) (by omega) (by omega), uw (by omega) (by omega)]
      omega
    simp only [v1, v2]
    rw [if_neg (by simp <;> omega), if_neg (by simp <;> omega), if_neg (by simp <;> omega), if_neg (by simp <;> omega), if_neg (by simp <;> omega)]
    rw [l17_ok _ (z := d0) Y1 Y0 (by rw [YE]; exact usm) D1 (k + 2) _ _ p4 ⟨p5, by omega⟩ ⟨p2, p3⟩ p1 (enough _ p5), Option.bind_some]
    simp only [YE]
    have Qlt := dg_lt (d := d1) (show 0 < Y by omega) usm D1
    have Q0 : 0 ≤ (u * 4294967296 + d1) / Y := Int.ediv_nonneg (by omega) (by omega)
    have R0 := Int.emod_nonneg (u * 4294967296 + d1) (show Y ≠ 0 by omega)
    have R1 := Int.emod_lt_of_pos (u * 4294967296 + d1) (show 0 < Y by omega)
    have QR := Int.mul_ediv_add_emod (u * 4294967296 + d1) Y
    obtain ⟨t1, t2⟩ := two_digits (u := u) (d1 := d1) (d0 := d0) (show 0 < Y by omega)
    generalize (u * 4294967296 + d1) / Y = Q at *
    generalize (u * 4294967296 + d1) % Y = R at *
    have v3 : IntKind.u64.wrap (IntKind.u64.wrap (IntKind.u64.wrap (u * 4294967296) + d1) - IntKind.u64.wrap (Q * Y)) = R := by
      simp only [wu]
      rw [Int.mul_comm] at QR
      generalize Q * Y = QY at *
      omega
    simp only [v3]
    obtain ⟨p1, p2, p3, p4, p5, p6⟩ := dg_first (d := d0) Y1.1 Y0 ⟨R0, by rw [YE]; exact R1⟩ D0
    have v4 : IntKind.u64.wrap (R.tdiv y1) = R / y1 := by rw [td _ R0, uw p2 (by omega)]
    have v5 : IntKind.u64.wrap (R - IntKind.u64.wrap (R / y1 * y1)) = R % y1 := by
      have : 0 ≤ R / y1 * y1 := Int.mul_nonneg p2 (by omega)
      have : R / y1 * y1 = R - R % y1 := by omega
      rw [this, uw (x := R - R % y1) (by omega) (by omega), uw (by omega) (by omega)]
      omega
    simp only [v4, v5]
    rw [if_neg (by simp <;> omega)]
    rw [l24_ok _ (u := R) Y1 Y0 (by rw [YE]; exact R1) D0 (k + 2) _ _ p4 ⟨p5, by omega⟩ ⟨p2, p3⟩ p1 (enough _ p5), Option.bind_some]
    simp only [YE]
    rw [if_neg (by simp), Int.toNat_natCast, w3]
    have Qlt' := dg_lt (d := d0) (show 0 < Y by omega) R1 D0
    have Q0' : 0 ≤ (R * 4294967296 + d0) / Y := Int.ediv_nonneg (by omega) (by omega)
    have R0' := Int.emod_nonneg (R * 4294967296 + d0) (show Y ≠ 0 by omega)
    have R1' := Int.emod_lt_of_pos (R * 4294967296 + d0) (show 0 < Y by omega)
    have QR' := Int.mul_ediv_add_emod (R * 4294967296 + d0) Y
    have tot : u * 18446744073709551616 + un = u * 4294967296 * 4294967296 + d1 * 4294967296 + d0 := by omega
    rw [big, tot] at res2
    rw [res1, big, tot, t1]
    rw [t2] at res2
    generalize (R * 4294967296 + d0) / Y = Q' at *
    generalize hR' : (R * 4294967296 + d0) % Y = R' at *
    have v6 : IntKind.u64.wrap (IntKind.u64.wrap (IntKind.u64.wrap (R * 4294967296) + d0) - IntKind.u64.wrap (Q' * Y)) = R' := by
      simp only [wu]
      rw [Int.mul_comm] at QR'
      generalize Q' * Y = QY at *
      omega
    have v7 : IntKind.u64.wrap (IntKind.u64.wrap (Q * 4294967296) + Q') = Q * 4294967296 + Q' := by
      rw [uw (x := Q * 4294967296) (by omega) (by omega), uw (by omega) (by omega)]
    rw [v6, v7, fd _ _ (Int.le_of_lt P0), res2, Int.mul_ediv_cancel _ (by omega)]
end Go.Proofs.YtfeifhlnidkbbaaGreatDoor.Wide

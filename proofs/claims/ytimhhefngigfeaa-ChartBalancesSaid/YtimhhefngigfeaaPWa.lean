/- Whole numbers of six words as one number: the plain laws; what math/bits' functions answer. Conditions: words are uint64. -/
import Derived.Test.YtimhhefngigfeaaFA
import Derived.RowKit
import Derived.Laws.BitsLemmas
set_option linter.unusedVariables false
set_option linter.unusedSimpArgs false
namespace Go.Proofs.Ytimhhefngigfeaa.Wide
open Go Go.RowKit Go.Proofs.Ytimhhefngigfeaa.Vm
theorem oB {α β : Type} (a : α) (f : α → Option β) : (some a).bind f = f a := rfl

def Word (x : Int) : Prop := 0 ≤ x ∧ x ≤ 18446744073709551615
instance (x : Int) : Decidable (Word x) := by unfold Word; infer_instance
def val (a0 a1 a2 a3 a4 a5 : Int) : Int := a0 + 18446744073709551616 * (a1 + 18446744073709551616 * (a2 + 18446744073709551616 * (a3 + 18446744073709551616 * (a4 + 18446744073709551616 * a5))))
def Words (a0 a1 a2 a3 a4 a5 : Int) : Prop := Word a0 ∧ Word a1 ∧ Word a2 ∧ Word a3 ∧ Word a4 ∧ Word a5
instance (a0 a1 a2 a3 a4 a5 : Int) : Decidable (Words a0 a1 a2 a3 a4 a5) := by unfold Words; infer_instance
def TOP : Int := 39402006196394479212279040100143613805079739270465446667948293404245721771497210611414266254884915640806627990306816
def wd0 (n : Int) : Int := n % 18446744073709551616
def wd1 (n : Int) : Int := n / 18446744073709551616 % 18446744073709551616
def wd2 (n : Int) : Int := n / 18446744073709551616 / 18446744073709551616 % 18446744073709551616
def wd3 (n : Int) : Int := n / 18446744073709551616 / 18446744073709551616 / 18446744073709551616 % 18446744073709551616
def wd4 (n : Int) : Int := n / 18446744073709551616 / 18446744073709551616 / 18446744073709551616 / 18446744073709551616 % 18446744073709551616
def wd5 (n : Int) : Int := n / 18446744073709551616 / 18446744073709551616 / 18446744073709551616 / 18446744073709551616 / 18446744073709551616 % 18446744073709551616
def tup (n : Int) : Int × Int × Int × Int × Int × Int := (wd0 n, wd1 n, wd2 n, wd3 n, wd4 n, wd5 n)
theorem words_tup (n : Int) : Words (wd0 n) (wd1 n) (wd2 n) (wd3 n) (wd4 n) (wd5 n) := by
  unfold Words Word wd0 wd1 wd2 wd3 wd4 wd5
  refine ⟨?_, ?_, ?_, ?_, ?_, ?_⟩ <;> omega
theorem val_tup {n : Int} (h0 : 0 ≤ n) (h1 : n < TOP) : val (wd0 n) (wd1 n) (wd2 n) (wd3 n) (wd4 n) (wd5 n) = n := by
  unfold val wd0 wd1 wd2 wd3 wd4 wd5 TOP at *
  omega
theorem val_bd {a0 a1 a2 a3 a4 a5 : Int} (h : Words a0 a1 a2 a3 a4 a5) : 0 ≤ val a0 a1 a2 a3 a4 a5 ∧ val a0 a1 a2 a3 a4 a5 < TOP := by
  unfold Words Word at h
  unfold val TOP
  omega
theorem tup_val {a0 a1 a2 a3 a4 a5 : Int} (h : Words a0 a1 a2 a3 a4 a5) : tup (val a0 a1 a2 a3 a4 a5) = (a0, a1, a2, a3, a4, a5) := by
  unfold Words Word at h
  unfold tup wd0 wd1 wd2 wd3 wd4 wd5 val
  simp only [Prod.mk.injEq]
  refine ⟨?_, ?_, ?_, ?_, ?_, ?_⟩ <;> omega

theorem wu (x : Int) : IntKind.u64.wrap x = x % 18446744073709551616 := rfl
theorem wi (x : Int) : IntKind.i64.wrap x = (x + 9223372036854775808) % 18446744073709551616 - 9223372036854775808 := by
  have e : IntKind.i64.wrap x = if x % 18446744073709551616 ≥ 9223372036854775808 then x % 18446744073709551616 - 18446744073709551616 else x % 18446744073709551616 := by
    simp [IntKind.wrap, IntKind.signed, IntKind.bits]
  rw [e]; split <;> omega
theorem wu8 (x : Int) : IntKind.u8.wrap x = x % 256 := rfl
theorem iw {x : Int} (h0 : -9223372036854775808 ≤ x) (h1 : x < 9223372036854775808) : IntKind.i64.wrap x = x := by rw [wi]; omega
theorem uw {x : Int} (h0 : 0 ≤ x) (h1 : x < 18446744073709551616) : IntKind.u64.wrap x = x := by rw [wu]; omega
theorem fd (a b : Int) (h : 0 ≤ b) : a.fdiv b = a / b := Int.fdiv_eq_ediv_of_nonneg a h
theorem td {a : Int} (b : Int) (h : 0 ≤ a) : a.tdiv b = a / b := Int.tdiv_eq_ediv_of_nonneg h
theorem tm {a : Int} (b : Int) (h : 0 ≤ a) : a.tmod b = a % b := Int.tmod_eq_emod_of_nonneg h
theorem wraps64 (n : Int) (h0 : 0 ≤ n) (h1 : n < 2 ^ 64) : IntKind.u64.wrap n = n := by
  rw [wu]; exact Int.emod_eq_of_lt h0 h1
theorem mask32 (x : Int) (h0 : 0 ≤ x) (h1 : x < 18446744073709551616) : land .u64 x 4294967295 = x % 4294967296 :=
  bits_mask .u64 64 (by decide) wraps64 32 (by decide) x h0 h1
theorem mul_le {a b A B : Int} (h0 : 0 ≤ a) (h1 : a ≤ A) (h2 : 0 ≤ b) (h3 : b ≤ B) : 0 ≤ a * b ∧ a * b ≤ A * B :=
  ⟨Int.mul_nonneg h0 h2, Int.mul_le_mul h1 h3 h2 (by omega)⟩
theorem mul64_val (K : Nat) {x y : Int} (hx : Word x) (hy : Word y) : F.bits_Mul64 K x y = some (x * y / 18446744073709551616, x * y % 18446744073709551616) := by
  unfold Word at hx hy
  have e : x * y = (x / 4294967296) * (y / 4294967296) * 18446744073709551616 + ((x / 4294967296) * (y % 4294967296) + (x % 4294967296) * (y / 4294967296)) * 4294967296 + (x % 4294967296) * (y % 4294967296) := by
    have ex := Int.mul_ediv_add_emod x 4294967296
    have ey := Int.mul_ediv_add_emod y 4294967296
    generalize x / 4294967296 = x1 at *
    generalize x % 4294967296 = x0 at *
    generalize y / 4294967296 = y1 at *
    generalize y % 4294967296 = y0 at *
    have e2 : (4294967296 * x1 + x0) * (4294967296 * y1 + y0) = 18446744073709551616 * (x1 * y1) + 4294967296 * (x1 * y0) + 4294967296 * (x0 * y1) + x0 * y0 := by
      rw [Int.add_mul, Int.mul_add, Int.mul_add, Int.mul_assoc, Int.mul_left_comm x1 4294967296 y1, Int.mul_assoc, Int.mul_left_comm x0 4294967296 y1]; omega
    rw [← ex, ← ey, e2]
    omega
  have ha := mul_le (a := x / 4294967296) (b := y / 4294967296) (A := 4294967295) (B := 4294967295) (by omega) (by omega) (by omega) (by omega)
  have hb := mul_le (a := x / 4294967296) (b := y % 4294967296) (A := 4294967295) (B := 4294967295) (by omega) (by omega) (by omega) (by omega)
  have hc := mul_le (a := x % 4294967296) (b := y / 4294967296) (A := 4294967295) (B := 4294967295) (by omega) (by omega) (by omega) (by omega)
  have hd := mul_le (a := x % 4294967296) (b := y % 4294967296) (A := 4294967295) (B := 4294967295) (by omega) (by omega) (by omega) (by omega)
  unfold F.bits_Mul64
  rw [mask32 x (by omega) (by omega), mask32 y (by omega) (by omega)]
  simp only [wu, fd _ 4294967296 (by decide)]
  rw [mask32 _ (by omega) (by omega)]
  rw [e]
  generalize (x / 4294967296) * (y / 4294967296) = a at *
  generalize (x / 4294967296) * (y % 4294967296) = b at *
  generalize (x % 4294967296) * (y / 4294967296) = c at *
  generalize (x % 4294967296) * (y % 4294967296) = d at *
  rw [Option.some.injEq, Prod.mk.injEq]
  exact ⟨by omega, by omega⟩

def blen (x : Int) : Int := if x ≤ 0 then 0 else (Nat.log2 x.toNat : Int) + 1
theorem blen_of {x : Int} {n : Nat} (h0 : 2 ^ n ≤ x) (h1 : x < 2 ^ (n + 1)) : blen x = n + 1 := by
  have hp : (0 : Int) < 2 ^ n := Int.pow_pos (by decide)
  obtain ⟨m, rfl⟩ := Int.eq_ofNat_of_zero_le (show 0 ≤ x by omega)
  have h0' : 2 ^ n ≤ m := by exact_mod_cast h0
  have h1' : m < 2 ^ (n + 1) := by exact_mod_cast h1
  unfold blen
  rw [if_neg (by omega), Int.toNat_natCast]
  have : Nat.log2 m = n := (Nat.log2_eq_iff (by have := Nat.two_pow_pos n; omega)).2 ⟨h0', h1'⟩
  rw [this]
theorem blen_spec {x : Int} (h : 0 < x) : ∃ n : Nat, blen x = n + 1 ∧ 2 ^ n ≤ x ∧ x < 2 ^ (n + 1) := by
  obtain ⟨m, rfl⟩ := Int.eq_ofNat_of_zero_le (show 0 ≤ x by omega)
  refine ⟨Nat.log2 m, by unfold blen; rw [if_neg (by omega), Int.toNat_natCast], ?_, ?_⟩
  · exact_mod_cast Nat.log2_self_le (by omega)
  · exact_mod_cast Nat.lt_log2_self
theorem blen_shift {x : Int} (k : Nat) (h : 2 ^ k ≤ x) : blen x = k + blen (x / 2 ^ k) := by
  have hp : (0 : Int) < 2 ^ k := Int.pow_pos (by decide)
  have hq : 0 < x / 2 ^ k := Int.lt_of_lt_of_le (by decide) ((Int.le_ediv_iff_mul_le hp).2 (by omega) : 1 ≤ x / 2 ^ k)
  obtain ⟨n, e, a, b⟩ := blen_spec hq
  rw [e]
  have := blen_of (x := x) (n := n + k) ?_ ?_
  · rw [this]; omega
  · rw [Int.pow_add]
    exact (Int.le_ediv_iff_mul_le hp).1 a
  · rw [show n + k + 1 = (n + 1) + k by omega, Int.pow_add]
    exact (Int.ediv_lt_iff_lt_mul hp).1 b

theorem table8 {x : Int} (h0 : 0 ≤ x) (h1 : x < 256) : bt len8tab x = blen x := by
  have key : ∀ i : Fin 256, bt len8tab (i.val : Int) = blen (i.val : Int) := by decide +kernel
  obtain ⟨m, rfl⟩ := Int.eq_ofNat_of_zero_le h0
  exact key ⟨m, by omega⟩
theorem sh8 {x : Int} (h : 256 ≤ x) : blen x = 8 + blen (x / 256) := blen_shift 8 h
theorem sh16 {x : Int} (h : 65536 ≤ x) : blen x = 16 + blen (x / 65536) := blen_shift 16 h
theorem sh32 {x : Int} (h : 4294967296 ≤ x) : blen x = 32 + blen (x / 4294967296) := blen_shift 32 h
theorem blen_lt {x : Int} {n : Nat} (h : x < 2 ^ n) : 0 ≤ blen x ∧ blen x ≤ n := by
  by_cases c : 0 < x
  · obtain ⟨m, e, a, b⟩ := blen_spec c
    rw [e]
    have : m < n := by
      apply Nat.lt_of_not_le; intro hle
      have : (2 : Int) ^ n ≤ 2 ^ m := by exact_mod_cast Nat.pow_le_pow_right (by decide) hle
      omega
    omega
  · unfold blen; rw [if_pos (by omega)]; omega
theorem bl8 {x : Int} (h : x < 256) : 0 ≤ blen x ∧ blen x ≤ 8 := blen_lt (n := 8) h
theorem bl64 {x : Int} (h : x < 18446744073709551616) : 0 ≤ blen x ∧ blen x ≤ 64 := blen_lt (n := 64) h

theorem sel {α : Type} {p : Prop} [Decidable p] {a b : α} : (if decide p = true then a else b) = if p then a else b := by
  by_cases h : p <;> simp [h]
theorem len64_val (K : Nat) {x : Int} (h : Word x) : F.bits_Len64 K x = some (blen x) := by
  unfold Word at h
  have leaf : ∀ (c y : Int), 0 ≤ c → c ≤ 56 → 0 ≤ y → y < 256 → (if (decide (0 ≤ IntKind.u8.wrap y) && decide (IntKind.u8.wrap y < 256)) = true then some (IntKind.i64.wrap (c + IntKind.i64.wrap (bt len8tab (IntKind.u8.wrap y)))) else none) = some (c + blen y) := fun c y h0 h1 h2 h3 => by
    have hb := bl8 h3
    rw [wu8, Int.emod_eq_of_lt h2 h3, if_pos (by simp; omega), table8 h2 h3, iw (x := blen y) (by omega) (by omega), iw (by omega) (by omega)]
  unfold F.bits_Len64
  rw [fd _ 4294967296 (by decide), fd _ 65536 (by decide), fd _ 256 (by decide), fd _ 256 (by decide), fd _ 65536 (by decide), fd _ 256 (by decide), fd _ 256 (by decide)]
  rw [sel (p := x ≥ 4294967296), sel (p := x / 4294967296 ≥ 65536), sel (p := x / 4294967296 / 65536 ≥ 256), sel (p := x / 4294967296 ≥ 256), sel (p := x ≥ 65536), sel (p := x / 65536 ≥ 256), sel (p := x ≥ 256)]
  by_cases a : x ≥ 4294967296
  · rw [if_pos a, sh32 a]
    by_cases b : x / 4294967296 ≥ 65536
    · rw [if_pos b, sh16 b]
      by_cases c : x / 4294967296 / 65536 ≥ 256
      · rw [if_pos c, sh8 c, leaf 56 _ (by omega) (by omega) (by omega) (by omega)]; congr 1; omega
      · rw [if_neg c, leaf 48 _ (by omega) (by omega) (by omega) (by omega)]; congr 1; omega
    · rw [if_neg b]
      by_cases c : x / 4294967296 ≥ 256
      · rw [if_pos c, sh8 c, leaf 40 _ (by omega) (by omega) (by omega) (by omega)]; congr 1; omega
      · rw [if_neg c, leaf 32 _ (by omega) (by omega) (by omega) (by omega)]
  · rw [if_neg a]
    by_cases b : x ≥ 65536
    · rw [if_pos b, sh16 b]
      by_cases c : x / 65536 ≥ 256
      · rw [if_pos c, sh8 c, leaf 24 _ (by omega) (by omega) (by omega) (by omega)]; congr 1; omega
      · rw [if_neg c, leaf 16 _ (by omega) (by omega) (by omega) (by omega)]
    · rw [if_neg b]
      by_cases c : x ≥ 256
      · rw [if_pos c, sh8 c, leaf 8 _ (by omega) (by omega) (by omega) (by omega)]
      · rw [if_neg c, leaf 0 _ (by omega) (by omega) (by omega) (by omega)]; congr 1; omega
end Go.Proofs.Ytimhhefngigfeaa.Wide

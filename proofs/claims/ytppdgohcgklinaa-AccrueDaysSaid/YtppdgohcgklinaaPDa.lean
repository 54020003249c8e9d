/- What package dec's inner functions answer. Conditions: a decimal's parts are int64 and uint64. -/
import Derived.Test.YtppdgohcgklinaaPWe
set_option linter.unusedVariables false
set_option linter.unusedSimpArgs false
namespace Go.Proofs.Ytppdgohcgklinaa.Wide
open Go Go.RowKit Go.Proofs.Ytppdgohcgklinaa.Vm
theorem xor_max {x : Int} (h0 : 0 ≤ x) (h1 : x ≤ 18446744073709551615) : lxor .u64 18446744073709551615 x = 18446744073709551615 - x := by
  obtain ⟨n, rfl⟩ := Int.eq_ofNat_of_zero_le h0
  have hn : n < 2 ^ 64 := by omega
  show IntKind.u64.wrap (((BitVec.ofInt 64 18446744073709551615) ^^^ (BitVec.ofInt 64 (n : Int))).toNat : Int) = _
  have e : BitVec.ofInt 64 18446744073709551615 = BitVec.allOnes 64 := by decide
  rw [e, BitVec.allOnes_xor, BitVec.ofInt_natCast, BitVec.toNat_not, BitVec.toNat_ofNat, Nat.mod_eq_of_lt hn, wu]
  omega
/-- The coefficient of a decimal, and its size. -/
def cf (hi lo : Int) : Int := hi * 18446744073709551616 + lo
def siz (hi lo : Int) : Int := if hi < 0 then -(cf hi lo) else cf hi lo
def I64 (x : Int) : Prop := -9223372036854775808 ≤ x ∧ x ≤ 9223372036854775807
instance (x : Int) : Decidable (I64 x) := by unfold I64; infer_instance
theorem siz_bd {hi lo : Int} (h : I64 hi) (l : Word lo) : 0 ≤ siz hi lo ∧ siz hi lo ≤ 170141183460469231731687303715884105728 := by
  unfold siz cf I64 Word at *
  split <;> omega
theorem blen_le {x : Int} {n : Nat} (h : blen x ≤ n) : x < 2 ^ n := by
  by_cases c : 0 < x
  · obtain ⟨m, e, a, b⟩ := blen_spec c
    have := pow_le (show m + 1 ≤ n by omega)
    omega
  · have := (Int.pow_pos (by decide) : (0 : Int) < 2 ^ n)
    omega
theorem p127 : (2 : Int) ^ 127 = 170141183460469231731687303715884105728 := by decide
theorem blen_zero {x : Int} (h : 0 ≤ x) : blen x = 0 ↔ x = 0 := by
  constructor
  · intro e
    by_cases c : 0 < x
    · obtain ⟨n, en, _, _⟩ := blen_spec c
      omega
    · omega
  · rintro rfl; rfl
def moreB (mode k a0 : Int) (m : Bool) : Bool := if mode = 0 then false else if mode = 1 then true else if mode = 2 then m else if mode = 3 then !m else if mode = 4 then decide (0 ≤ k) else if mode = 5 then decide (0 < k) else (decide (0 < k) || (decide (k = 0) && decide (a0 % 2 = 1)))
def togD (m : Bool) (S sc : Int) : Int × Int × Int × Int := if S < 170141183460469231731687303715884105728 then ((if m = true then -S else S) / 18446744073709551616, (if m = true then -S else S) % 18446744073709551616, sc, 0) else (0, 0, 0, 4)
def roundS (m : Bool) (A B mode : Int) : Int := A / B + (if A % B = 0 then 0 else if moreB mode (cmp3 (A % B * 2) B) (wd0 (A / B)) m = true then 1 else 0)
def T254 : Int := 28948022309329048855892746252171976963317496166410141009864396001978282409984
def p10z (k : Int) : Int := 10 ^ k.toNat
theorem p10z_bd {k : Int} (h0 : 0 ≤ k) (h1 : k ≤ 36) : 1 ≤ p10z k ∧ p10z k ≤ 1000000000000000000000000000000000000 := by
  unfold p10z
  have a : (0 : Int) < 10 ^ k.toNat := Int.pow_pos (by decide)
  have b : (10 : Int) ^ k.toNat ≤ 10 ^ 36 := by exact_mod_cast Nat.pow_le_pow_right (n := 10) (by decide) (show k.toNat ≤ 36 by omega)
  rw [show (10 : Int) ^ 36 = 1000000000000000000000000000000000000 from by decide] at b
  omega
def scaledS (m : Bool) (S hv wa mode : Int) : Int := if hv ≤ wa then roundS m (S * p10z (wa - hv)) 1 mode else roundS m S (p10z (hv - wa)) mode
def sgB (m : Bool) (S : Int) : Int := if m = true then -S else S
def pack (T sc : Int) : Int × Int × Int × Int := if -170141183460469231731687303715884105728 < T ∧ T < 170141183460469231731687303715884105728 then (T / 18446744073709551616, T % 18446744073709551616, sc, 0) else (0, 0, 0, 4)
theorem togD_pack {m : Bool} {S sc : Int} (h : 0 ≤ S) : togD m S sc = pack (sgB m S) sc := by
  unfold togD pack sgB
  cases m
  · simp only [Bool.false_eq_true, if_false]
    by_cases c : S < 170141183460469231731687303715884105728
    · rw [if_pos c, if_pos ⟨by omega, c⟩]
    · rw [if_neg c, if_neg (by omega)]
  · simp only [if_true]
    by_cases c : S < 170141183460469231731687303715884105728
    · rw [if_pos c, if_pos ⟨by omega, by omega⟩]
    · rw [if_neg c, if_neg (by omega)]

theorem of_ok (K : Nat) {hi lo : Int} (h : Word hi) (l : Word lo) : F.wide_Of K hi lo = some (tup (hi * 18446744073709551616 + lo)) := by
  have e := tup_val (a0 := lo) (a1 := hi) (a2 := 0) (a3 := 0) (a4 := 0) (a5 := 0) ⟨l, h, by decide, by decide, by decide, by decide⟩
  rw [show val lo hi 0 0 0 0 = hi * 18446744073709551616 + lo by unfold val; omega] at e
  unfold F.wide_Of
  rw [e]
/-- A number of package dec: its sign, its words, its scale. -/
def ntup (m : Bool) (n sc : Int) : Bool × Int × Int × Int × Int × Int × Int × Int := (m, wd0 n, wd1 n, wd2 n, wd3 n, wd4 n, wd5 n, sc)
theorem apart_ok (K : Nat) {hi lo sc : Int} (h : I64 hi) (l : Word lo) : F.dec_apart K hi lo sc = some (ntup (decide (hi < 0)) (siz hi lo) sc) := by
  unfold I64 at h
  have hl := l
  unfold Word at hl
  unfold F.dec_apart
  by_cases c : hi < 0
  · have ew : IntKind.u64.wrap hi = hi + 18446744073709551616 := by rw [wu]; omega
    have ex := xor_max (x := hi + 18446744073709551616) (by omega) (by omega)
    by_cases c0 : lo = 0
    · have e0 : IntKind.u64.wrap (-lo) = 0 := by rw [wu]; omega
      have e1 : IntKind.u64.wrap (18446744073709551615 - (hi + 18446744073709551616) + 1) = -hi := by rw [wu]; omega
      have eo := of_ok K (hi := -hi) (lo := 0) (by unfold Word; omega) (by decide)
      rw [show -hi * 18446744073709551616 + 0 = siz hi lo by unfold siz cf; rw [if_pos c]; omega] at eo
      simp [c, e0, ew, ex, e1, eo, tup, ntup]
    · have e0 : IntKind.u64.wrap (-lo) = 18446744073709551616 - lo := by rw [wu]; omega
      have en : ¬ (18446744073709551616 - lo = 0) := by omega
      have eo := of_ok K (hi := 18446744073709551615 - (hi + 18446744073709551616)) (lo := 18446744073709551616 - lo) (by unfold Word; omega) (by unfold Word; omega)
      rw [show (18446744073709551615 - (hi + 18446744073709551616)) * 18446744073709551616 + (18446744073709551616 - lo) = siz hi lo by unfold siz cf; rw [if_pos c]; omega] at eo
      simp [c, e0, ew, ex, en, eo, tup, ntup]
  · have ew : IntKind.u64.wrap hi = hi := by rw [wu]; omega
    have eo := of_ok K (hi := hi) (lo := lo) (by unfold Word; omega) l
    rw [show hi * 18446744073709551616 + lo = siz hi lo by unfold siz cf; rw [if_neg c]] at eo
    simp [c, ew, eo, tup, ntup]
theorem together_ok {K : Nat} (hK : 7 ≤ K) {m : Bool} {n sc : Int} (h0 : 0 ≤ n) (h1 : n < TOP) : F.dec_together K m (wd0 n) (wd1 n) (wd2 n) (wd3 n) (wd4 n) (wd5 n) sc = some (togD m n sc) := by
  have el := len_ok hK (words_tup n)
  rw [val_tup h0 h1] at el
  unfold F.dec_together togD
  rw [el]
  simp only [Option.bind_some]
  by_cases c : n < 170141183460469231731687303715884105728
  · have hb : blen n ≤ 127 := (blen_lt (n := 127) (by rw [p127]; exact c)).2
    rw [if_neg (by simp; omega), if_pos c]
    have w0 : wd0 n = n % 18446744073709551616 := rfl
    have w1 : wd1 n = n / 18446744073709551616 := by unfold wd1; omega
    have w1b : 0 ≤ wd1 n ∧ wd1 n ≤ 9223372036854775807 := by rw [w1]; omega
    cases m with
    | false =>
      simp only [Bool.false_eq_true, if_false]
      rw [iw (x := wd1 n) (by omega) (by omega), w0, w1]
    | true =>
      simp only [↓reduceIte]
      rw [xor_max (by omega) (by omega)]
      by_cases c0 : n % 18446744073709551616 = 0
      · have e0 : IntKind.u64.wrap (0 - wd0 n) = 0 := by rw [wu, w0]; omega
        have e1 : IntKind.i64.wrap (IntKind.u64.wrap (18446744073709551615 - wd1 n + 1)) = -(wd1 n) := by rw [wi, wu]; omega
        rw [e0, e1, if_pos (by simp), w1]
        simp only [Option.some.injEq, Prod.mk.injEq]
        refine ⟨?_, ?_, trivial⟩ <;> omega
      · have e0 : IntKind.u64.wrap (0 - wd0 n) = 18446744073709551616 - n % 18446744073709551616 := by rw [wu, w0]; omega
        have e1 : IntKind.i64.wrap (18446744073709551615 - wd1 n) = -(wd1 n) - 1 := by rw [wi]; omega
        rw [e0, e1, if_neg (by simp; omega), w1]
        simp only [Option.some.injEq, Prod.mk.injEq]
        refine ⟨?_, ?_, trivial⟩ <;> omega
  · have hb : ¬ blen n ≤ 127 := fun h => c (by have := blen_le (n := 127) h; rwa [p127] at this)
    rw [if_pos (by simp; omega), if_neg c]
end Go.Proofs.Ytppdgohcgklinaa.Wide

/- Decimals by their numbers: what products, quotients, sums and rounding come to. Conditions: a decimal's parts are int64 and uint64, a scale is an int64. -/
import Derived.Test.YtppdgohcgklinaaPDd
set_option linter.unusedVariables false
set_option linter.unusedSimpArgs false
namespace Go.Proofs.Ytppdgohcgklinaa.Wide
open Go Go.RowKit Go.Proofs.Ytppdgohcgklinaa.Vm
theorem p10z_succ {k : Int} (h : 0 ≤ k) : p10z (k + 1) = p10z k * 10 := by
  unfold p10z
  rw [show (k + 1).toNat = k.toNat + 1 by omega, Int.pow_succ]
theorem p10z_add {j k : Int} (h : 0 ≤ j) (h' : 0 ≤ k) : p10z (j + k) = p10z j * p10z k := by
  unfold p10z
  rw [show (j + k).toNat = j.toNat + k.toNat by omega, Int.pow_add]
def absI (x : Int) : Int := if x < 0 then -x else x
/-- To round is the same for a greater whole and a greater part. -/
theorem roundS_scale {m : Bool} {A B P mode : Int} (hB : 0 < B) (hP : 0 < P) : roundS m (A * P) (B * P) mode = roundS m A B mode := by
  have e1 : A * P / (B * P) = A / B := Int.mul_ediv_mul_of_pos_left A B hP
  have e2 : A * P % (B * P) = A % B * P := by rw [Int.mul_comm A P, Int.mul_comm B P, Int.mul_emod_mul_of_pos A B hP, Int.mul_comm]
  have e3 : (A % B * P = 0) ↔ (A % B = 0) := by
    constructor
    · intro h
      rcases Int.mul_eq_zero.1 h with h | h
      · exact h
      · omega
    · intro h; rw [h, Int.zero_mul]
  have e4 : cmp3 (A % B * P * 2) (B * P) = cmp3 (A % B * 2) B := by
    rw [show A % B * P * 2 = A % B * 2 * P by rw [Int.mul_assoc, Int.mul_comm P 2, ← Int.mul_assoc]]
    unfold cmp3
    have l1 : (A % B * 2 * P < B * P) ↔ (A % B * 2 < B) := ⟨fun h => Int.lt_of_mul_lt_mul_right h (Int.le_of_lt hP), fun h => Int.mul_lt_mul_of_pos_right h hP⟩
    have l2 : (B * P < A % B * 2 * P) ↔ (B < A % B * 2) := ⟨fun h => Int.lt_of_mul_lt_mul_right h (Int.le_of_lt hP), fun h => Int.mul_lt_mul_of_pos_right h hP⟩
    simp only [l1, l2]
  unfold roundS
  rw [e1, e2, e4]
  by_cases c : A % B = 0
  · rw [if_pos c, if_pos (e3.2 c)]
  · rw [if_neg c, if_neg (fun h => c (e3.1 h))]
theorem roundS_nonneg {m : Bool} {A B mode : Int} (hA : 0 ≤ A) (hB : 0 < B) : 0 ≤ roundS m A B mode ∧ roundS m A B mode ≤ A := by
  unfold roundS
  have q := Int.ediv_nonneg hA (Int.le_of_lt hB)
  have r0 := Int.emod_nonneg A (show B ≠ 0 by omega)
  have r1 := Int.emod_lt_of_pos A hB
  have e := Int.emod_add_mul_ediv A B
  have hq : A / B ≤ B * (A / B) := by
    have := Int.mul_le_mul_of_nonneg_right (show 1 ≤ B by omega) q
    omega
  split
  · omega
  · split <;> omega
theorem mul_bd {a b A B : Int} (h0 : 0 ≤ a) (h1 : a ≤ A) (h2 : 0 ≤ b) (h3 : b ≤ B) : 0 ≤ a * b ∧ a * b ≤ A * B := ⟨Int.mul_nonneg h0 h2, Int.mul_le_mul h1 h3 h2 (by omega)⟩
-- numbers within their kinds
theorem wfI64 {x : Int} (h : (Lit.int .i64 x).wf = true) : I64 x := by simp [Lit.wf, IntKind.min, IntKind.max, IntKind.signed, IntKind.bits] at h; unfold I64; omega
theorem wfU64 {x : Int} (h : (Lit.int .u64 x).wf = true) : Word x := by simp [Lit.wf, IntKind.min, IntKind.max, IntKind.signed, IntKind.bits] at h; unfold Word; omega
theorem wfI32 {x : Int} (h : (Lit.int .i32 x).wf = true) : -2147483648 ≤ x ∧ x ≤ 2147483647 := by simp [Lit.wf, IntKind.min, IntKind.max, IntKind.signed, IntKind.bits] at h; omega
theorem wfU8 {x : Int} (h : (Lit.int .u8 x).wf = true) : 0 ≤ x ∧ x ≤ 255 := by simp [Lit.wf, IntKind.min, IntKind.max, IntKind.signed, IntKind.bits] at h; omega
theorem cf_parts {hi lo : Int} (l : Word lo) : cf hi lo / 18446744073709551616 = hi ∧ cf hi lo % 18446744073709551616 = lo := by
  unfold Word at l; unfold cf; omega
theorem p10z_zero : p10z 0 = 1 := rfl
/-- A number at a greater scale still. -/
theorem up_more {a0 a1 a2 s t : Int} (h : a2 ≤ s) (h' : s ≤ t) : up a0 a1 a2 t = up a0 a1 a2 s * p10z (t - s) := by
  unfold up
  rw [Int.mul_assoc, ← p10z_add (by omega) (by omega), show s - a2 + (t - s) = t - a2 by omega]
theorem cmp3_scale {x y P : Int} (hP : 0 < P) : cmp3 (x * P) (y * P) = cmp3 x y := by
  unfold cmp3
  have l1 : (x * P < y * P) ↔ (x < y) := ⟨fun h => Int.lt_of_mul_lt_mul_right h (Int.le_of_lt hP), fun h => Int.mul_lt_mul_of_pos_right h hP⟩
  have l2 : (y * P < x * P) ↔ (y < x) := ⟨fun h => Int.lt_of_mul_lt_mul_right h (Int.le_of_lt hP), fun h => Int.mul_lt_mul_of_pos_right h hP⟩
  simp only [l1, l2]
theorem cmp3_neg (x y : Int) : cmp3 (-x) (-y) = cmp3 y x := by
  unfold cmp3
  have l1 : (-x < -y) ↔ (y < x) := by omega
  have l2 : (-y < -x) ↔ (x < y) := by omega
  simp only [l1, l2]
theorem cmp3_swap (x y : Int) : cmp3 y x = -(cmp3 x y) := by
  unfold cmp3
  by_cases c : x < y
  · rw [if_neg (show ¬ y < x by omega), if_pos c, if_pos c]; rfl
  · by_cases d : y < x
    · rw [if_pos d, if_neg c, if_pos d]
    · rw [if_neg d, if_neg c, if_neg c, if_neg d]; rfl
theorem cmp3_add (x y z : Int) : cmp3 (x + z) (y + z) = cmp3 x y := by
  unfold cmp3
  have l1 : (x + z < y + z) ↔ (x < y) := by omega
  have l2 : (y + z < x + z) ↔ (y < x) := by omega
  simp only [l1, l2]
theorem cmp3_self (x : Int) : cmp3 x x = 0 := by unfold cmp3; rw [if_neg (by omega), if_neg (by omega)]
theorem cmp3_bd (x y : Int) : cmp3 x y = -1 ∨ cmp3 x y = 0 ∨ cmp3 x y = 1 := by unfold cmp3; split <;> (try split) <;> simp
theorem cmp3_wrap (x y : Int) : IntKind.i64.wrap (0 - cmp3 x y) = -(cmp3 x y) := by
  rcases cmp3_bd x y with h | h | h <;> rw [h] <;> rfl
theorem mx_comm (a b : Int) : mx a b = mx b a := by unfold mx; split <;> split <;> omega
theorem mx_self (a : Int) : mx a a = a := by unfold mx; split <;> rfl
theorem mx_ge (a b : Int) : a ≤ mx a b ∧ b ≤ mx a b := by unfold mx; split <;> omega
theorem mx_le {a b c : Int} (h : a ≤ c) (h' : b ≤ c) : mx a b ≤ c := by unfold mx; split <;> omega
theorem mx_left {a b : Int} (h : b ≤ a) : mx a b = a := by unfold mx; rw [if_neg (by omega)]
theorem mx_assoc (a b c : Int) : mx (mx a b) c = mx a (mx b c) := by
  unfold mx
  by_cases h1 : b > a <;> by_cases h2 : c > b <;> by_cases h3 : c > a <;> simp [h1, h2, h3] <;> omega
theorem pack_ok {T sc : Int} (h : (pack T sc).2.2.2 = 0) : -170141183460469231731687303715884105728 < T ∧ T < 170141183460469231731687303715884105728 := by
  unfold pack at h
  split at h
  · assumption
  · simp at h
/-- A sum at a greater scale. -/
theorem up_sum {x0 x1 y0 y1 x2 y2 S : Int} (h3 : mx x2 y2 ≤ S) (h4 : -170141183460469231731687303715884105728 < up x0 x1 x2 (mx x2 y2) + up y0 y1 y2 (mx x2 y2)) (h5 : up x0 x1 x2 (mx x2 y2) + up y0 y1 y2 (mx x2 y2) < 170141183460469231731687303715884105728) :
    up ((up x0 x1 x2 (mx x2 y2) + up y0 y1 y2 (mx x2 y2)) / 18446744073709551616) ((up x0 x1 x2 (mx x2 y2) + up y0 y1 y2 (mx x2 y2)) % 18446744073709551616) (mx x2 y2) S = up x0 x1 x2 S + up y0 y1 y2 S := by
  rw [up_more (mx_ge x2 y2).1 h3, up_more (mx_ge x2 y2).2 h3]
  show cf _ _ * p10z (S - mx x2 y2) = _
  rw [(packed (sc := 0) h4 h5 (by decide) (by decide)).2.2.2, Int.add_mul]
theorem roundS_one {m : Bool} {A mode : Int} : roundS m A 1 mode = A := by
  unfold roundS; rw [Int.ediv_one, Int.emod_one, if_pos rfl, Int.add_zero]
theorem roundS_exact {m : Bool} {A P mode : Int} (hP : 0 < P) : roundS m (A * P) P mode = A := by
  unfold roundS; rw [Int.mul_ediv_cancel _ (by omega), Int.mul_emod_left, if_pos rfl, Int.add_zero]
theorem absI_nonneg (x : Int) : 0 ≤ absI x := by unfold absI; split <;> omega
theorem sgB_abs (x : Int) : sgB (decide (x < 0)) (absI x) = x := by unfold sgB absI; by_cases c : x < 0 <;> simp [c]
theorem sgB_mulAbs (x z : Int) : sgB (!decide (x < 0) == decide (z < 0)) (absI x * absI z) = x * z := by
  unfold sgB absI
  by_cases c : x < 0 <;> by_cases d : z < 0 <;> simp [c, d, Int.neg_mul, Int.mul_neg]
theorem siz_parts {x : Int} (h0 : -170141183460469231731687303715884105728 < x) (h1 : x < 170141183460469231731687303715884105728) : siz (x / 18446744073709551616) (x % 18446744073709551616) = absI x ∧ decide (x / 18446744073709551616 < 0) = decide (x < 0) := by
  have e := (packed (sc := 0) h0 h1 (by decide) (by decide)).2.2.2
  have c : (x / 18446744073709551616 < 0) ↔ (x < 0) := by omega
  unfold siz absI
  rw [e]
  simp only [c]
  exact ⟨trivial, trivial⟩
/-- The product of whole numbers over powers of ten, nothing rounded. -/
theorem mul_exact {K : Nat} (hK : 400 ≤ K) {x z s t m : Int} (x0 : -170141183460469231731687303715884105728 < x) (x1 : x < 170141183460469231731687303715884105728) (z0 : -170141183460469231731687303715884105728 < z) (z1 : z < 170141183460469231731687303715884105728)
    (hs : 0 ≤ s) (ht : 0 ≤ t) (hst : s + t ≤ 18) (m0 : 0 ≤ m) (m1 : m ≤ 6) : F.dec_Mul K (x / 18446744073709551616) (x % 18446744073709551616) s (z / 18446744073709551616) (z % 18446744073709551616) t (s + t) m = some (pack (x * z) (s + t)) := by
  obtain ⟨p0, p1, p2, p3⟩ := packed (sc := s) x0 x1 hs (by omega)
  obtain ⟨q0, q1, q2, q3⟩ := packed (sc := t) z0 z1 ht (by omega)
  obtain ⟨sx, dx⟩ := siz_parts x0 x1
  obtain ⟨sz, dz⟩ := siz_parts z0 z1
  rw [dmul_ok hK p0 p1 q0 q1, if_pos (show Wy (s + t) m by unfold Wy; omega), if_pos (And.intro p2 q2), sx, sz, dx, dz]
  unfold scaledS
  rw [if_pos (Int.le_refl _), Int.sub_self, p10z_zero, Int.mul_one, roundS_one, togD_pack (Int.mul_nonneg (absI_nonneg x) (absI_nonneg z)), sgB_mulAbs]
theorem quo_exact {K : Nat} (hK : 400 ≤ K) {x y s m : Int} (x0 : -170141183460469231731687303715884105728 < x * y) (x1 : x * y < 170141183460469231731687303715884105728) (y0 : -170141183460469231731687303715884105728 < y) (y1 : y < 170141183460469231731687303715884105728)
    (hs : 0 ≤ s) (hs1 : s ≤ 18) (m0 : 0 ≤ m) (m1 : m ≤ 6) : F.dec_Quo K (x * y / 18446744073709551616) (x * y % 18446744073709551616) s (y / 18446744073709551616) (y % 18446744073709551616) 0 s m = some (if y = 0 then (0, 0, 0, 5) else pack x s) := by
  obtain ⟨p0, p1, p2, p3⟩ := packed (sc := s) x0 x1 hs hs1
  obtain ⟨q0, q1, q2, q3⟩ := packed (sc := 0) y0 y1 (by decide) (by decide)
  obtain ⟨sx, dx⟩ := siz_parts x0 x1
  obtain ⟨sz, dz⟩ := siz_parts y0 y1
  rw [dquo_ok hK p0 p1 q0 q1, if_pos (show Wy s m by unfold Wy; omega), if_pos (And.intro p2 q2), sx, sz, dx, dz]
  by_cases c : y = 0
  · rw [if_pos (by rw [c]; rfl), if_pos c]
  · have ya : 0 < absI y := by unfold absI; split <;> omega
    rw [if_neg (by omega), if_neg c, if_pos (by omega), show 0 + s - s = 0 by omega, p10z_zero, Int.mul_one]
    have ea : absI (x * y) = absI x * absI y := by
      unfold absI
      rcases Int.lt_trichotomy x 0 with h | h | h <;> rcases Int.lt_trichotomy y 0 with g | g | g
      · have := Int.mul_pos_of_neg_of_neg h g; rw [if_neg (by omega), if_pos h, if_pos g, Int.neg_mul_neg]
      · omega
      · have := Int.mul_neg_of_neg_of_pos h g; rw [if_pos this, if_pos h, if_neg (by omega), Int.neg_mul]
      · simp [h]
      · simp [h]
      · simp [h]
      · have := Int.mul_neg_of_pos_of_neg h g; rw [if_pos this, if_neg (by omega), if_pos g, Int.mul_neg]
      · omega
      · have := Int.mul_pos h g; rw [if_neg (by omega), if_neg (by omega), if_neg (by omega)]
    rw [ea, roundS_exact ya, togD_pack (absI_nonneg x)]
    have es : sgB (!decide (x * y < 0) == decide (y < 0)) (absI x) = x := by
      unfold sgB absI
      rcases Int.lt_trichotomy x 0 with h | h | h <;> rcases Int.lt_trichotomy y 0 with g | g | g
      · have := Int.mul_pos_of_neg_of_neg h g
        simp [show ¬ x * y < 0 by omega, h, g]
      · omega
      · have := Int.mul_neg_of_neg_of_pos h g
        simp [this, h, show ¬ y < 0 by omega]
      · subst h; simp
      · omega
      · subst h; simp
      · have := Int.mul_neg_of_pos_of_neg h g
        simp [this, g, show ¬ x < 0 by omega]
      · omega
      · have := Int.mul_pos h g
        simp [show ¬ x * y < 0 by omega, show ¬ x < 0 by omega, show ¬ y < 0 by omega]
    rw [es]
theorem mul32 {x y : Int} (x0 : -4294967296 ≤ x) (x1 : x ≤ 4294967296) (y0 : -4294967296 ≤ y) (y1 : y ≤ 4294967296) : -18446744073709551616 ≤ x * y ∧ x * y ≤ 18446744073709551616 := by
  have a := Int.mul_le_mul (show absI x ≤ 4294967296 by unfold absI; split <;> omega) (show absI y ≤ 4294967296 by unfold absI; split <;> omega) (absI_nonneg y) (by decide)
  have b := sgB_mulAbs x y
  have n := Int.mul_nonneg (absI_nonneg x) (absI_nonneg y)
  generalize absI x * absI y = v at *
  rw [← b]
  unfold sgB
  split <;> omega
theorem add_same {K : Nat} (hK : 400 ≤ K) {x y s : Int} (x0 : -170141183460469231731687303715884105728 < x) (x1 : x < 170141183460469231731687303715884105728) (y0 : -170141183460469231731687303715884105728 < y) (y1 : y < 170141183460469231731687303715884105728) (hs : 0 ≤ s) (hs1 : s ≤ 18) :
    F.dec_Add K (x / 18446744073709551616) (x % 18446744073709551616) s (y / 18446744073709551616) (y % 18446744073709551616) s = some (pack (x + y) s) := by
  obtain ⟨p0, p1, p2, p3⟩ := packed (sc := s) x0 x1 hs hs1
  obtain ⟨q0, q1, q2, q3⟩ := packed (sc := s) y0 y1 hs hs1
  rw [dadd_ok hK p0 p1 q0 q1, if_pos (And.intro p2 q2), mx_self]
  unfold up
  rw [p3, q3, Int.sub_self, p10z_zero, Int.mul_one, Int.mul_one]
theorem p10z_pos (k : Int) : 0 < p10z k := Int.pow_pos (by decide)
theorem roundS_two (m : Bool) (A B mode : Int) : roundS m A B mode = A / B ∨ (roundS m A B mode = A / B + 1 ∧ A % B ≠ 0) := by
  unfold roundS
  by_cases c : A % B = 0
  · rw [if_pos c, Int.add_zero]; exact .inl rfl
  · rw [if_neg c]
    split
    · exact .inr ⟨rfl, c⟩
    · exact .inl (Int.add_zero _)
theorem roundS_floor (m : Bool) (A B : Int) : roundS m A B 2 = A / B + (if A % B = 0 then 0 else if m = true then 1 else 0) := rfl
theorem roundS_ceil (m : Bool) (A B : Int) : roundS m A B 3 = A / B + (if A % B = 0 then 0 else if m = true then 0 else 1) := by
  unfold roundS moreB; cases m <;> rfl
theorem togD_zero {w : Bool} {S s : Int} : (togD w S s).2.2.2 ≠ 0 → togD w S s = (0, 0, 0, 4) := by
  intro h
  unfold togD at h ⊢
  split at h
  · simp at h
  · rename_i hn; rw [if_neg hn]
end Go.Proofs.Ytppdgohcgklinaa.Wide

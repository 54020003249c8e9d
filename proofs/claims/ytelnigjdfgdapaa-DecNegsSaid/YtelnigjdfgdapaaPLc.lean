/- The laws of package dec: products and quotients of whole numbers, more digits and back, rounding between neighbours. Conditions: a decimal's parts are int64 and uint64, a scale is an int64. -/
import Derived.Test.YtelnigjdfgdapaaPLb
set_option linter.unusedVariables false
set_option linter.unusedSimpArgs false
namespace Go.Proofs.Ytelnigjdfgdapaa.Wide
open Go Go.RowKit Go.Proofs.Ytelnigjdfgdapaa.Vm
theorem roundS_one {m : Bool} {A mode : Int} : roundS m A 1 mode = A := by
  unfold roundS; rw [Int.ediv_one, Int.emod_one, if_pos rfl, Int.add_zero]
theorem roundS_exact {m : Bool} {A P mode : Int} (hP : 0 < P) : roundS m (A * P) P mode = A := by
  unfold roundS; rw [Int.mul_ediv_cancel _ (by omega), Int.mul_emod_left, if_pos rfl, Int.add_zero]
theorem absI_nonneg (x : Int) : 0 ≤ absI x := by unfold absI; split <;> omega
theorem sgB_abs (x : Int) : sgB (decide (x < 0)) (absI x) = x := by unfold sgB absI; by_cases c : x < 0 <;> simp [c]
theorem sgB_mulAbs (x z : Int) : sgB (!decide (x < 0) == decide (z < 0)) (absI x * absI z) = x * z := by
  unfold sgB absI
  by_cases c : x < 0 <;> by_cases d : z < 0 <;> simp [c, d, Int.neg_mul, Int.mul_neg]
theorem siz_parts {x : Int} (h0 : -170141183460469231731687303715884105728 < x) (h1 : x < 170141183460469231731687303715884105728) : siz (x / 18446744073709551616) (x % 18446744073709551616) = absI x ∧ decide (x / 18446744073709551616 < 0) = decide (x < 0) := by
  have e := (packed (sc := 0) h0 h1 (by decide) (by decide)).2.2.2
  have c : (x / 18446744073709551616 < 0) ↔ (x < 0) := by omega
  unfold siz absI
  rw [e]
  simp only [c]
  exact ⟨trivial, trivial⟩
/-- The product of whole numbers over powers of ten, nothing rounded. -/
theorem mul_exact {K : Nat} (hK : 400 ≤ K) {x z s t m : Int} (x0 : -170141183460469231731687303715884105728 < x) (x1 : x < 170141183460469231731687303715884105728) (z0 : -170141183460469231731687303715884105728 < z) (z1 : z < 170141183460469231731687303715884105728)
    (hs : 0 ≤ s) (ht : 0 ≤ t) (hst : s + t ≤ 18) (m0 : 0 ≤ m) (m1 : m ≤ 6) : F.dec_Mul K (x / 18446744073709551616) (x % 18446744073709551616) s (z / 18446744073709551616) (z % 18446744073709551616) t (s + t) m = some (pack (x * z) (s + t)) := by
  obtain ⟨p0, p1, p2, p3⟩ := packed (sc := s) x0 x1 hs (by omega)
  obtain ⟨q0, q1, q2, q3⟩ := packed (sc := t) z0 z1 ht (by omega)
  obtain ⟨sx, dx⟩ := siz_parts x0 x1
  obtain ⟨sz, dz⟩ := siz_parts z0 z1
  rw [dmul_ok hK p0 p1 q0 q1, if_pos (show Wy (s + t) m by unfold Wy; omega), if_pos (And.intro p2 q2), sx, sz, dx, dz]
  unfold scaledS
  rw [if_pos (Int.le_refl _), Int.sub_self, p10z_zero, Int.mul_one, roundS_one, togD_pack (Int.mul_nonneg (absI_nonneg x) (absI_nonneg z)), sgB_mulAbs]
theorem quo_exact {K : Nat} (hK : 400 ≤ K) {x y s m : Int} (x0 : -170141183460469231731687303715884105728 < x * y) (x1 : x * y < 170141183460469231731687303715884105728) (y0 : -170141183460469231731687303715884105728 < y) (y1 : y < 170141183460469231731687303715884105728)
    (hs : 0 ≤ s) (hs1 : s ≤ 18) (m0 : 0 ≤ m) (m1 : m ≤ 6) : F.dec_Quo K (x * y / 18446744073709551616) (x * y % 18446744073709551616) s (y / 18446744073709551616) (y % 18446744073709551616) 0 s m = some (if y = 0 then (0, 0, 0, 5) else pack x s) := by
  obtain ⟨p0, p1, p2, p3⟩ := packed (sc := s) x0 x1 hs hs1
  obtain ⟨q0, q1, q2, q3⟩ := packed (sc := 0) y0 y1 (by decide) (by decide)
  obtain ⟨sx, dx⟩ := siz_parts x0 x1
  obtain ⟨sz, dz⟩ := siz_parts y0 y1
  rw [dquo_ok hK p0 p1 q0 q1, if_pos (show Wy s m by unfold Wy; omega), if_pos (And.intro p2 q2), sx, sz, dx, dz]
  by_cases c : y = 0
  · rw [if_pos (by rw [c]; rfl), if_pos c]
  · have ya : 0 < absI y := by unfold absI; split <;> omega
    rw [if_neg (by omega), if_neg c, if_pos (by omega), show 0 + s - s = 0 by omega, p10z_zero, Int.mul_one]
    have ea : absI (x * y) = absI x * absI y := by
      unfold absI
      rcases Int.lt_trichotomy x 0 with h | h | h <;> rcases Int.lt_trichotomy y 0 with g | g | g
      · have := Int.mul_pos_of_neg_of_neg h g; rw [if_neg (by omega), if_pos h, if_pos g, Int.neg_mul_neg]
      · omega
      · have := Int.mul_neg_of_neg_of_pos h g; rw [if_pos this, if_pos h, if_neg (by omega), Int.neg_mul]
      · simp [h]
      · simp [h]
      · simp [h]
      · have := Int.mul_neg_of_pos_of_neg h g; rw [if_pos this, if_neg (by omega), if_pos g, Int.mul_neg]
      · omega
      · have := Int.mul_pos h g; rw [if_neg (by omega), if_neg (by omega), if_neg (by omega)]
    rw [ea, roundS_exact ya, togD_pack (absI_nonneg x)]
    have es : sgB (!decide (x * y < 0) == decide (y < 0)) (absI x) = x := by
      unfold sgB absI
      rcases Int.lt_trichotomy x 0 with h | h | h <;> rcases Int.lt_trichotomy y 0 with g | g | g
      · have := Int.mul_pos_of_neg_of_neg h g
        simp [show ¬ x * y < 0 by omega, h, g]
      · omega
      · have := Int.mul_neg_of_neg_of_pos h g
        simp [this, h, show ¬ y < 0 by omega]
      · subst h; simp
      · omega
      · subst h; simp
      · have := Int.mul_neg_of_pos_of_neg h g
        simp [this, g, show ¬ x < 0 by omega]
      · omega
      · have := Int.mul_pos h g
        simp [show ¬ x * y < 0 by omega, show ¬ x < 0 by omega, show ¬ y < 0 by omega]
    rw [es]
theorem mul32 {x y : Int} (x0 : -4294967296 ≤ x) (x1 : x ≤ 4294967296) (y0 : -4294967296 ≤ y) (y1 : y ≤ 4294967296) : -18446744073709551616 ≤ x * y ∧ x * y ≤ 18446744073709551616 := by
  have a := Int.mul_le_mul (show absI x ≤ 4294967296 by unfold absI; split <;> omega) (show absI y ≤ 4294967296 by unfold absI; split <;> omega) (absI_nonneg y) (by decide)
  have b := sgB_mulAbs x y
  have n := Int.mul_nonneg (absI_nonneg x) (absI_nonneg y)
  generalize absI x * absI y = v at *
  rw [← b]
  unfold sgB
  split <;> omega
theorem back_loop {K : Nat} (hK : 400 ≤ K) {x y s : Int} (x0 : -2147483648 ≤ x) (x1 : x ≤ 2147483647) (y0 : -2147483648 ≤ y) (y1 : y ≤ 2147483647) (hs : 0 ≤ s) (hs1 : s ≤ 9) : ∀ (k : Nat) (m : Int), 0 ≤ m → m ≤ 7 → (7 - m).toNat < k →
    F.law01_DecBack_l9 K k y s m (x / 18446744073709551616) (x % 18446744073709551616) s (y / 18446744073709551616) (y % 18446744073709551616) 0 = some (.inl ())
  | 0, m, _, _, h => by omega
  | k + 1, m, m0, m1, h => by
    rw [F.law01_DecBack_l9]
    by_cases c : m < 7
    · have b := mul32 (x := x) (y := y) (by omega) (by omega) (by omega) (by omega)
      have em := mul_exact hK (x := x) (z := y) (s := s) (t := 0) (m := m) (by omega) (by omega) (by omega) (by omega) hs (by decide) (by omega) m0 (by omega)
      rw [Int.add_zero, pack_in (by omega) (by omega)] at em
      have eq := quo_exact hK (x := x) (y := y) (s := s) (m := m) (by omega) (by omega) (by omega) (by omega) hs (by omega) m0 (by omega)
      have ih := back_loop hK x0 x1 y0 y1 hs hs1 k (m + 1) (by omega) (by omega) (by omega)
      have wm : IntKind.i64.wrap (m + 1) = m + 1 := iw (by omega) (by omega)
      rw [if_pos (by simpa using c), em, Option.bind_some]
      simp only [bne_self_eq_false, Bool.false_eq_true, if_false]
      rw [eq, wm, ih]
      by_cases z : y = 0
      · subst z; simp
      · rw [if_neg (by simpa using z), if_neg z, Option.bind_some, pack_in (by omega) (by omega)]
        simp
    · rw [if_neg (by simpa using c)]
theorem DecBack {K : Nat} (hK : 400 ≤ K) {x y s : Int} (x0 : -2147483648 ≤ x) (x1 : x ≤ 2147483647) (y0 : -2147483648 ≤ y) (y1 : y ≤ 2147483647) (hs : I64 s) : F.law01_DecBack K x y s = some true := by
  unfold F.law01_DecBack
  have e1 : IntKind.i64.wrap ((IntKind.u64.wrap s).tmod 10) = s % 18446744073709551616 % 10 := by rw [wu, tm _ (by omega), iw (by omega) (by omega)]
  have b : 0 ≤ s % 18446744073709551616 % 10 ∧ s % 18446744073709551616 % 10 ≤ 9 := by omega
  rw [awake_ok hK, Option.bind_some, if_neg (by decide), e1, iw (x := x) (by omega) (by omega), iw (x := y) (by omega) (by omega)]
  generalize s % 18446744073709551616 % 10 = t at b
  rw [decof_ok K (show I64 x by unfold I64; omega), Option.bind_some, if_pos (show 0 ≤ t ∧ t ≤ 18 by omega), decof_ok K (show I64 y by unfold I64; omega), Option.bind_some, if_pos (show (0 : Int) ≤ 0 ∧ (0 : Int) ≤ 18 by decide), pack_in (c := x) (by omega) (by omega), pack_in (c := y) (by omega) (by omega)]
  simp only [bne_self_eq_false, Bool.false_eq_true, if_false, Bool.not_true]
  rw [back_loop hK x0 x1 y0 y1 b.1 b.2 K 0 (by omega) (by omega) (by omega)]
  rfl
theorem add_same {K : Nat} (hK : 400 ≤ K) {x y s : Int} (x0 : -170141183460469231731687303715884105728 < x) (x1 : x < 170141183460469231731687303715884105728) (y0 : -170141183460469231731687303715884105728 < y) (y1 : y < 170141183460469231731687303715884105728) (hs : 0 ≤ s) (hs1 : s ≤ 18) :
    F.dec_Add K (x / 18446744073709551616) (x % 18446744073709551616) s (y / 18446744073709551616) (y % 18446744073709551616) s = some (pack (x + y) s) := by
  obtain ⟨p0, p1, p2, p3⟩ := packed (sc := s) x0 x1 hs hs1
  obtain ⟨q0, q1, q2, q3⟩ := packed (sc := s) y0 y1 hs hs1
  rw [dadd_ok hK p0 p1 q0 q1, if_pos (And.intro p2 q2), mx_self]
  unfold up
  rw [p3, q3, Int.sub_self, p10z_zero, Int.mul_one, Int.mul_one]
theorem spread_loop {K : Nat} (hK : 400 ≤ K) {a b c s t : Int} (a0 : -2147483648 ≤ a) (a1 : a ≤ 2147483647) (b0 : -2147483648 ≤ b) (b1 : b ≤ 2147483647) (c0 : -2147483648 ≤ c) (c1 : c ≤ 2147483647) (hs : 0 ≤ s) (hs1 : s ≤ 9) (ht : 0 ≤ t) (ht1 : t ≤ 8) : ∀ (k : Nat) (m : Int), 0 ≤ m → m ≤ 7 → (7 - m).toNat < k →
    F.law01_DecSpread_l11 K k (s + t) m (a / 18446744073709551616) (a % 18446744073709551616) s (b / 18446744073709551616) (b % 18446744073709551616) s (c / 18446744073709551616) (c % 18446744073709551616) t ((a + b) / 18446744073709551616) ((a + b) % 18446744073709551616) s = some (.inl ())
  | 0, m, _, _, h => by omega
  | k + 1, m, m0, m1, h => by
    rw [F.law01_DecSpread_l11]
    by_cases g : m < 7
    · have bs := mul32 (x := a + b) (y := c) (by omega) (by omega) (by omega) (by omega)
      have ba := mul32 (x := a) (y := c) (by omega) (by omega) (by omega) (by omega)
      have bb := mul32 (x := b) (y := c) (by omega) (by omega) (by omega) (by omega)
      have es := mul_exact hK (x := a + b) (z := c) (s := s) (t := t) (m := m) (by omega) (by omega) (by omega) (by omega) hs ht (by omega) m0 (by omega)
      have ea := mul_exact hK (x := a) (z := c) (s := s) (t := t) (m := m) (by omega) (by omega) (by omega) (by omega) hs ht (by omega) m0 (by omega)
      have eb := mul_exact hK (x := b) (z := c) (s := s) (t := t) (m := m) (by omega) (by omega) (by omega) (by omega) hs ht (by omega) m0 (by omega)
      rw [pack_in (by omega) (by omega)] at es ea eb
      have ed := add_same hK (x := a * c) (y := b * c) (s := s + t) (by omega) (by omega) (by omega) (by omega) (by omega) (by omega)
      rw [← Int.add_mul, pack_in (by omega) (by omega)] at ed
      have ih := spread_loop hK a0 a1 b0 b1 c0 c1 hs hs1 ht ht1 k (m + 1) (by omega) (by omega) (by omega)
      have wm : IntKind.i64.wrap (m + 1) = m + 1 := iw (by omega) (by omega)
      rw [if_pos (by simpa using g), es, Option.bind_some, ea, Option.bind_some, eb, Option.bind_some, ed, Option.bind_some, wm, ih]
      simp
    · rw [if_neg (by simpa using g)]
theorem DecSpread {K : Nat} (hK : 400 ≤ K) {a b c s t : Int} (a0 : -2147483648 ≤ a) (a1 : a ≤ 2147483647) (b0 : -2147483648 ≤ b) (b1 : b ≤ 2147483647) (c0 : -2147483648 ≤ c) (c1 : c ≤ 2147483647) (hs : 0 ≤ s ∧ s ≤ 255) (ht : 0 ≤ t ∧ t ≤ 255) : F.law01_DecSpread K a b c s t = some true := by
  unfold F.law01_DecSpread
  have e1 : IntKind.i64.wrap (s.tmod 10) = s % 10 := by rw [tm _ hs.1, iw (by omega) (by omega)]
  have e2 : IntKind.i64.wrap (t.tmod 9) = t % 9 := by rw [tm _ ht.1, iw (by omega) (by omega)]
  have bs : 0 ≤ s % 10 ∧ s % 10 ≤ 9 := by omega
  have bt : 0 ≤ t % 9 ∧ t % 9 ≤ 8 := by omega
  rw [awake_ok hK, Option.bind_some, if_neg (by decide), e1, e2, iw (x := a) (by omega) (by omega), iw (x := b) (by omega) (by omega), iw (x := c) (by omega) (by omega)]
  generalize s % 10 = s at bs
  generalize t % 9 = t at bt
  have i64 : ∀ x : Int, -2147483648 ≤ x → x ≤ 2147483647 → I64 x := fun x h h' => by unfold I64; omega
  rw [decof_ok K (i64 a a0 a1), if_pos (by omega), Option.bind_some, decof_ok K (i64 b b0 b1), if_pos (by omega), Option.bind_some, decof_ok K (i64 c c0 c1), if_pos (by omega), Option.bind_some,
    pack_in (c := a) (by omega) (by omega), pack_in (c := b) (by omega) (by omega), pack_in (c := c) (by omega) (by omega)]
  simp only
  rw [add_same hK (by omega) (by omega) (by omega) (by omega) bs.1 (by omega), Option.bind_some, pack_in (by omega) (by omega)]
  simp only [bne_self_eq_false, Bool.false_eq_true, if_false, Bool.not_true]
  rw [iw (x := s + t) (by omega) (by omega), spread_loop hK a0 a1 b0 b1 c0 c1 bs.1 bs.2 bt.1 bt.2 K 0 (by omega) (by omega) (by omega)]
  rfl
theorem rescale_up {K : Nat} (hK : 400 ≤ K) {a0 a1 a2 s m : Int} (ia : I64 a0) (la : Word a1) (f : Fm a0 a1 a2) (h : a2 ≤ s) (h' : s ≤ 18) (m0 : 0 ≤ m) (m1 : m ≤ 6) : F.dec_Rescale K a0 a1 a2 s m = some (pack (up a0 a1 a2 s) s) := by
  have fa := f
  unfold Fm at fa
  obtain ⟨x0, x1, x2, x3⟩ := fm_bd f ia la
  have p := p10z_bd (k := s - a2) (by omega) (by omega)
  rw [drescale_ok hK ia la, if_pos (show Wy s m by unfold Wy; omega), if_pos f]
  unfold scaledS
  rw [if_pos h, roundS_one, togD_pack (Int.mul_nonneg x2 (by omega)), sgB_siz]
  rfl
theorem p10z_pos (k : Int) : 0 < p10z k := Int.pow_pos (by decide)
theorem rescale_back {K : Nat} (hK : 400 ≤ K) {a0 a1 a2 s m : Int} (ia : I64 a0) (la : Word a1) (f : Fm a0 a1 a2) (h : a2 ≤ s) (h' : s ≤ 18) (m0 : 0 ≤ m) (m1 : m ≤ 6) (u0 : -170141183460469231731687303715884105728 < up a0 a1 a2 s) (u1 : up a0 a1 a2 s < 170141183460469231731687303715884105728) :
    F.dec_Rescale K (up a0 a1 a2 s / 18446744073709551616) (up a0 a1 a2 s % 18446744073709551616) s a2 m = some (a0, a1, a2, 0) := by
  have fa := f
  unfold Fm at fa
  obtain ⟨x0, x1, x2, x3⟩ := fm_bd f ia la
  obtain ⟨p0, p1, p2, p3⟩ := packed (sc := s) u0 u1 (by omega) h'
  obtain ⟨sx, dx⟩ := siz_parts u0 u1
  have P := p10z_pos (s - a2)
  have ea : absI (up a0 a1 a2 s) = absI (cf a0 a1) * p10z (s - a2) := by
    unfold up absI
    rcases Int.lt_trichotomy (cf a0 a1) 0 with c | c | c
    · have := Int.mul_neg_of_neg_of_pos c P; rw [if_pos this, if_pos c, Int.neg_mul]
    · rw [c]; simp
    · have := Int.mul_pos c P; rw [if_neg (by omega), if_neg (by omega)]
  have ed : decide (up a0 a1 a2 s < 0) = decide (cf a0 a1 < 0) := by
    rw [decide_eq_decide]
    unfold up
    constructor
    · intro hh
      apply Int.lt_of_not_ge
      intro g
      have := Int.mul_nonneg g (Int.le_of_lt P)
      omega
    · intro hh; exact Int.mul_neg_of_neg_of_pos hh P
  rw [drescale_ok hK p0 p1, if_pos (show Wy a2 m by unfold Wy; omega), if_pos p2, sx, dx, ea, ed]
  have er : scaledS (decide (cf a0 a1 < 0)) (absI (cf a0 a1) * p10z (s - a2)) s a2 m = absI (cf a0 a1) := by
    unfold scaledS
    by_cases c : s ≤ a2
    · have : s = a2 := by omega
      subst this
      rw [if_pos (Int.le_refl _), Int.sub_self, p10z_zero, Int.mul_one, Int.mul_one, roundS_one]
    · rw [if_neg c, roundS_exact P]
  rw [er, togD_pack (absI_nonneg _), sgB_abs, pack_in x0 x1, (cf_parts la).1, (cf_parts la).2]
theorem scales_loop {K : Nat} (hK : 400 ≤ K) {a0 a1 a2 s : Int} (ia : I64 a0) (la : Word a1) (f : Fm a0 a1 a2) (h : a2 ≤ s) (h' : s ≤ 18) : ∀ (k : Nat) (m : Int), 0 ≤ m → m ≤ 7 → (7 - m).toNat < k →
    F.law01_DecScales_l7 K k s m a0 a1 a2 = some (.inl ()) ∨ F.law01_DecScales_l7 K k s m a0 a1 a2 = some (.inr true)
  | 0, m, _, _, h => by omega
  | k + 1, m, m0, m1, hk => by
    rw [F.law01_DecScales_l7]
    by_cases g : m < 7
    · have fa := f
      unfold Fm at fa
      rw [if_pos (by simpa using g), rescale_up hK ia la f h h' m0 (by omega), Option.bind_some]
      by_cases g1 : (pack (up a0 a1 a2 s) s).2.2.2 = 0
      · obtain ⟨u0, u1⟩ := pack_ok g1
        obtain ⟨p0, p1, p2, p3⟩ := packed (sc := s) u0 u1 (by omega) h'
        have wm : IntKind.i64.wrap (m + 1) = m + 1 := iw (by omega) (by omega)
        have ih := scales_loop hK ia la f h h' k (m + 1) (by omega) (by omega) (by omega)
        have ee := equal_ok hK p0 p1 ia la p2 f (by
          rw [mx_left h]
          show cf _ _ * p10z (s - s) = _
          rw [p3, Int.sub_self, p10z_zero, Int.mul_one])
        rw [pack_in u0 u1]
        simp only [bne_self_eq_false, Bool.false_eq_true, if_false]
        rw [rescale_back hK ia la f h h' m0 (by omega) u0 u1, Option.bind_some, ee, wm]
        simpa using ih
      · right
        have e : pack (up a0 a1 a2 s) s = (0, 0, 0, 4) := by
          unfold pack at g1 ⊢
          split at g1
          · simp at g1
          · rename_i hn; rw [if_neg hn]
        rw [e]; rfl
    · rw [if_neg (by simpa using g)]; exact .inl rfl
theorem DecScales {K : Nat} (hK : 400 ≤ K) {a0 a1 a2 t : Int} (ia : I64 a0) (la : Word a1) (ht : 0 ≤ t ∧ t ≤ 255) : F.law01_DecScales K a0 a1 a2 t = some true := by
  unfold F.law01_DecScales
  rw [awake_ok hK, Option.bind_some, if_neg (by decide), check_ok, Option.bind_some]
  by_cases f : Fm a0 a1 a2
  · have fa := f
    unfold Fm at fa
    have e1 : IntKind.i64.wrap (t.tmod 19) = t % 19 := by rw [tm _ ht.1, iw (by omega) (by omega)]
    rw [if_pos f, e1, iw (x := a2 + t % 19) (by omega) (by omega)]
    have hs : a2 ≤ (if 18 < a2 + t % 19 then 18 else a2 + t % 19) ∧ (if 18 < a2 + t % 19 then 18 else a2 + t % 19) ≤ 18 := by split <;> omega
    simp only [bne_self_eq_false, Bool.false_eq_true, if_false, Bool.not_true]
    rcases scales_loop hK ia la f hs.1 hs.2 K 0 (by omega) (by omega) (by omega) with e | e <;> rw [e] <;> rfl
  · rw [if_neg f]; rfl
theorem roundS_two (m : Bool) (A B mode : Int) : roundS m A B mode = A / B ∨ (roundS m A B mode = A / B + 1 ∧ A % B ≠ 0) := by
  unfold roundS
  by_cases c : A % B = 0
  · rw [if_pos c, Int.add_zero]; exact .inl rfl
  · rw [if_neg c]
    split
    · exact .inr ⟨rfl, c⟩
    · exact .inl (Int.add_zero _)
theorem roundS_floor (m : Bool) (A B : Int) : roundS m A B 2 = A / B + (if A % B = 0 then 0 else if m = true then 1 else 0) := rfl
theorem roundS_ceil (m : Bool) (A B : Int) : roundS m A B 3 = A / B + (if A % B = 0 then 0 else if m = true then 0 else 1) := by
  unfold roundS moreB; cases m <;> rfl
theorem between_loop {K : Nat} {a0 a1 a2 s l0 l1 l2 h0 h1 h2 : Int} (hr : ∀ m, 0 ≤ m → m ≤ 6 → F.dec_Rescale K a0 a1 a2 s m = some (l0, l1, l2, 0) ∨ F.dec_Rescale K a0 a1 a2 s m = some (h0, h1, h2, 0)) : ∀ (k : Nat) (m : Int), 0 ≤ m → m ≤ 7 → (7 - m).toNat < k →
    F.law01_DecBetween_l14 K k s m a0 a1 a2 l0 l1 l2 h0 h1 h2 = some (.inl ())
  | 0, m, _, _, h => by omega
  | k + 1, m, m0, m1, hk => by
    rw [F.law01_DecBetween_l14]
    by_cases g : m < 7
    · have wm : IntKind.i64.wrap (m + 1) = m + 1 := iw (by omega) (by omega)
      have ih := between_loop hr k (m + 1) (by omega) (by omega) (by omega)
      rw [if_pos (by simpa using g), wm, ih]
      rcases hr m m0 (by omega) with e | e <;> rw [e, Option.bind_some] <;> simp
    · rw [if_neg (by simpa using g)]
theorem togD_zero {w : Bool} {S s : Int} : (togD w S s).2.2.2 ≠ 0 → togD w S s = (0, 0, 0, 4) := by
  intro h
  unfold togD at h ⊢
  split at h
  · simp at h
  · rename_i hn; rw [if_neg hn]
theorem DecBetween {K : Nat} (hK : 400 ≤ K) {a0 a1 a2 s : Int} (ia : I64 a0) (la : Word a1) : F.law01_DecBetween K a0 a1 a2 s = some true := by
  unfold F.law01_DecBetween
  rw [awake_ok hK, Option.bind_some, if_neg (by decide), drescale_ok hK ia la, Option.bind_some, drescale_ok hK ia la, Option.bind_some]
  have hw2 : Wy s 2 ↔ (0 ≤ s ∧ s ≤ 18) := by unfold Wy; omega
  have hw3 : Wy s 3 ↔ (0 ≤ s ∧ s ≤ 18) := by unfold Wy; omega
  by_cases hs : 0 ≤ s ∧ s ≤ 18
  · by_cases f : Fm a0 a1 a2
    · rw [if_pos (hw2.2 hs), if_pos (hw3.2 hs), if_pos f, if_pos f]
      have fa := f
      unfold Fm at fa
      obtain ⟨x0, x1, x2, x3⟩ := fm_bd f ia la
      -- the whole and the part
      obtain ⟨A, B, hA, hB, hAB, hup⟩ : ∃ A B : Int, 0 ≤ A ∧ 0 < B ∧ (∀ m, scaledS (decide (a0 < 0)) (siz a0 a1) a2 s m = roundS (decide (a0 < 0)) A B m) ∧ (up a0 a1 a2 (mx s a2) = sgB (decide (a0 < 0)) A ∧ p10z (mx s a2 - s) = B) := by
        by_cases c : a2 ≤ s
        · refine ⟨siz a0 a1 * p10z (s - a2), 1, Int.mul_nonneg x2 (Int.le_of_lt (p10z_pos _)), by decide, fun m => by unfold scaledS; rw [if_pos c], ?_, ?_⟩
          · rw [mx_left c, sgB_siz]; rfl
          · rw [mx_left c, Int.sub_self]; rfl
        · refine ⟨siz a0 a1, p10z (a2 - s), x2, p10z_pos _, fun m => by unfold scaledS; rw [if_neg c], ?_, ?_⟩
          · rw [mx_comm, mx_left (by omega)]
            have e := sgB_siz a0 a1 1
            rw [Int.mul_one, Int.mul_one] at e
            rw [e]; unfold up; rw [Int.sub_self, p10z_zero, Int.mul_one]
          · rw [mx_comm, mx_left (by omega)]
      simp only [hAB]
      by_cases g2 : (togD (decide (a0 < 0)) (roundS (decide (a0 < 0)) A B 2) s).2.2.2 = 0
      · by_cases g3 : (togD (decide (a0 < 0)) (roundS (decide (a0 < 0)) A B 3) s).2.2.2 = 0
        · have n2 := roundS_nonneg (m := decide (a0 < 0)) (mode := 2) hA hB
          have n3 := roundS_nonneg (m := decide (a0 < 0)) (mode := 3) hA hB
          have hr0 : ∀ m, 0 ≤ m → m ≤ 6 → F.dec_Rescale K a0 a1 a2 s m = some (togD (decide (a0 < 0)) (roundS (decide (a0 < 0)) A B m) s) := fun m m0 m1 => by
            rw [drescale_ok hK ia la, if_pos (show Wy s m by unfold Wy; omega), if_pos f, hAB]
          rw [togD_pack n2.1] at g2 ⊢
          rw [togD_pack n3.1] at g3 ⊢
          obtain ⟨u0, u1⟩ := pack_ok g2
          obtain ⟨v0, v1⟩ := pack_ok g3
          rw [pack_in u0 u1, pack_in v0 v1]
          have hR : ∀ m, 0 ≤ m → m ≤ 6 → F.dec_Rescale K a0 a1 a2 s m = some (sgB (decide (a0 < 0)) (roundS (decide (a0 < 0)) A B 2) / 18446744073709551616, sgB (decide (a0 < 0)) (roundS (decide (a0 < 0)) A B 2) % 18446744073709551616, s, 0) ∨
              F.dec_Rescale K a0 a1 a2 s m = some (sgB (decide (a0 < 0)) (roundS (decide (a0 < 0)) A B 3) / 18446744073709551616, sgB (decide (a0 < 0)) (roundS (decide (a0 < 0)) A B 3) % 18446744073709551616, s, 0) := fun m m0 m1 => by
            rw [hr0 m m0 m1, togD_pack (roundS_nonneg hA hB).1]
            have : roundS (decide (a0 < 0)) A B m = roundS (decide (a0 < 0)) A B 2 ∨ roundS (decide (a0 < 0)) A B m = roundS (decide (a0 < 0)) A B 3 := by
              rw [roundS_floor, roundS_ceil]
              by_cases c : A % B = 0
              · left
                rcases roundS_two (decide (a0 < 0)) A B m with e | ⟨e, hn⟩
                · rw [e, if_pos c, Int.add_zero]
                · exact absurd c hn
              · rw [if_neg c, if_neg c]
                rcases roundS_two (decide (a0 < 0)) A B m with e | ⟨e, hn⟩
                · rw [e]; cases decide (a0 < 0) <;> simp
                · rw [e]; cases decide (a0 < 0) <;> simp
            rcases this with e | e <;> rw [e]
            · left; rw [pack_in u0 u1]
            · right; rw [pack_in v0 v1]
          have loop := between_loop hR K 0 (by omega) (by omega) (by omega)
          obtain ⟨p0, p1, p2, p3⟩ := packed (sc := s) u0 u1 hs.1 hs.2
          obtain ⟨q0, q1, q2, q3⟩ := packed (sc := s) v0 v1 hs.1 hs.2
          simp only [bne_self_eq_false, Bool.false_eq_true, if_false, Bool.not_true]
          rw [dcmp_ok hK p0 p1 ia la, Option.bind_some, dcmp_ok hK ia la q0 q1, Option.bind_some, dsub_ok hK q0 q1 p0 p1, Option.bind_some, decof_ok K (show I64 1 by decide), Option.bind_some, if_pos (And.intro p2 f), if_pos (And.intro f q2), if_pos (And.intro q2 p2), if_pos hs, loop]
          have e1 : up (sgB (decide (a0 < 0)) (roundS (decide (a0 < 0)) A B 2) / 18446744073709551616) (sgB (decide (a0 < 0)) (roundS (decide (a0 < 0)) A B 2) % 18446744073709551616) s (mx s a2) = sgB (decide (a0 < 0)) (roundS (decide (a0 < 0)) A B 2) * B := by
            show cf _ _ * p10z (mx s a2 - s) = _
            rw [p3, hup.2]
          have e2 : up (sgB (decide (a0 < 0)) (roundS (decide (a0 < 0)) A B 3) / 18446744073709551616) (sgB (decide (a0 < 0)) (roundS (decide (a0 < 0)) A B 3) % 18446744073709551616) s (mx a2 s) = sgB (decide (a0 < 0)) (roundS (decide (a0 < 0)) A B 3) * B := by
            show cf _ _ * p10z (mx a2 s - s) = _
            rw [q3, mx_comm a2 s, hup.2]
          have e3 : up (sgB (decide (a0 < 0)) (roundS (decide (a0 < 0)) A B 3) / 18446744073709551616) (sgB (decide (a0 < 0)) (roundS (decide (a0 < 0)) A B 3) % 18446744073709551616) s (mx s s) = sgB (decide (a0 < 0)) (roundS (decide (a0 < 0)) A B 3) := by
            rw [mx_self]; show cf _ _ * p10z (s - s) = _
            rw [q3, Int.sub_self, p10z_zero, Int.mul_one]
          have e4 : up (sgB (decide (a0 < 0)) (roundS (decide (a0 < 0)) A B 2) / 18446744073709551616) (sgB (decide (a0 < 0)) (roundS (decide (a0 < 0)) A B 2) % 18446744073709551616) s (mx s s) = sgB (decide (a0 < 0)) (roundS (decide (a0 < 0)) A B 2) := by
            rw [mx_self]; show cf _ _ * p10z (s - s) = _
            rw [p3, Int.sub_self, p10z_zero, Int.mul_one]
          rw [e1, e2, e3, e4, mx_comm a2 s, hup.1, mx_self, roundS_floor, roundS_ceil]
          have e := Int.emod_add_mul_ediv A B
          have r0 := Int.emod_nonneg A (show B ≠ 0 by omega)
          have r1 := Int.emod_lt_of_pos A hB
          have eB : (A / B + 1) * B = B * (A / B) + B := by rw [Int.add_mul, Int.one_mul, Int.mul_comm]
          have eB0 : A / B * B = B * (A / B) := Int.mul_comm _ _
          generalize B * (A / B) = qB at *
          generalize A / B = q at *
          generalize A % B = r at *
          have pk0 : pack 0 s = (0, 0, s, 0) := rfl
          have pk1 : pack 1 s = (0, 1, s, 0) := rfl
          by_cases c : r = 0
          · rw [if_pos c, if_pos c, Int.add_zero]
            have z : sgB (decide (a0 < 0)) q * B = sgB (decide (a0 < 0)) A := by
              unfold sgB; split <;> (try rw [Int.neg_mul]) <;> omega
            rw [z, cmp3_self, Int.sub_self, pk0, pk1]
            simp [casO]
          · rw [if_neg c, if_neg c]
            cases decide (a0 < 0) with
            | true =>
              have c1 : cmp3 (sgB true (q + 1) * B) (sgB true A) = -1 := by unfold cmp3 sgB; simp only [if_true]; rw [if_pos (by rw [Int.neg_mul]; omega)]
              have c2 : cmp3 (sgB true A) (sgB true q * B) = -1 := by unfold cmp3 sgB; simp only [if_true]; rw [if_pos (by rw [Int.neg_mul]; omega)]
              have c3 : sgB true q - sgB true (q + 1) = 1 := by unfold sgB; simp only [if_true]; omega
              simp only [if_true, Int.add_zero]
              rw [c1, c2, c3, pk1]
              simp [casO]
            | false =>
              have c1 : cmp3 (sgB false q * B) (sgB false A) = -1 := by unfold cmp3 sgB; simp only [Bool.false_eq_true, if_false]; rw [if_pos (by omega)]
              have c2 : cmp3 (sgB false A) (sgB false (q + 1) * B) = -1 := by unfold cmp3 sgB; simp only [Bool.false_eq_true, if_false]; rw [if_pos (by omega)]
              have c3 : sgB false (q + 1) - sgB false q = 1 := by unfold sgB; simp only [Bool.false_eq_true, if_false]; omega
              simp only [Bool.false_eq_true, if_false, Int.add_zero]
              rw [c1, c2, c3, pk1]
              simp [casO]
        · rw [togD_zero g3]
          simp [g2]
      · rw [togD_zero g2]
        simp
    · rw [if_pos (hw2.2 hs), if_pos (hw3.2 hs), if_neg f]; rfl
  · rw [if_neg (fun h => hs (hw2.1 h)), if_neg (fun h => hs (hw3.1 h))]; rfl
namespace L
theorem DecBack {x y s : Int} (w0 : (Lit.int .i32 x).wf = true) (w1 : (Lit.int .i32 y).wf = true) (w2 : (Lit.int .i64 s).wf = true) : F.law01_DecBack 100000 x y s = some true :=
  Wide.DecBack (by decide) (wfI32 w0).1 (wfI32 w0).2 (wfI32 w1).1 (wfI32 w1).2 (wfI64 w2)
theorem DecSpread {a b c s t : Int} (w0 : (Lit.int .i32 a).wf = true) (w1 : (Lit.int .i32 b).wf = true) (w2 : (Lit.int .i32 c).wf = true) (w3 : (Lit.int .u8 s).wf = true) (w4 : (Lit.int .u8 t).wf = true) : F.law01_DecSpread 100000 a b c s t = some true :=
  Wide.DecSpread (by decide) (wfI32 w0).1 (wfI32 w0).2 (wfI32 w1).1 (wfI32 w1).2 (wfI32 w2).1 (wfI32 w2).2 (wfU8 w3) (wfU8 w4)
theorem DecScales {a0 a1 a2 t : Int} (w0 : (Lit.int .i64 a0).wf = true) (w1 : (Lit.int .u64 a1).wf = true) (w2 : (Lit.int .i64 a2).wf = true) (w3 : (Lit.int .u8 t).wf = true) : F.law01_DecScales 100000 a0 a1 a2 t = some true :=
  Wide.DecScales (by decide) (wfI64 w0) (wfU64 w1) (wfU8 w3)
theorem DecBetween {a0 a1 a2 s : Int} (w0 : (Lit.int .i64 a0).wf = true) (w1 : (Lit.int .u64 a1).wf = true) (w2 : (Lit.int .i64 a2).wf = true) (w3 : (Lit.int .i64 s).wf = true) : F.law01_DecBetween 100000 a0 a1 a2 s = some true :=
  Wide.DecBetween (by decide) (wfI64 w0) (wfU64 w1)
theorem DecNegs {a0 a1 a2 b0 b1 b2 : Int} (w0 : (Lit.int .i64 a0).wf = true) (w1 : (Lit.int .u64 a1).wf = true) (w2 : (Lit.int .i64 a2).wf = true) (v0 : (Lit.int .i64 b0).wf = true) (v1 : (Lit.int .u64 b1).wf = true) (v2 : (Lit.int .i64 b2).wf = true) : F.law01_DecNegs 100000 a0 a1 a2 b0 b1 b2 = some true :=
  Wide.DecNegs (by decide) (wfI64 w0) (wfU64 w1) (wfI64 v0) (wfU64 v1)
theorem DecOrder {a0 a1 a2 b0 b1 b2 c0 c1 c2 : Int} (w0 : (Lit.int .i64 a0).wf = true) (w1 : (Lit.int .u64 a1).wf = true) (w2 : (Lit.int .i64 a2).wf = true) (v0 : (Lit.int .i64 b0).wf = true) (v1 : (Lit.int .u64 b1).wf = true) (v2 : (Lit.int .i64 b2).wf = true) (u0 : (Lit.int .i64 c0).wf = true) (u1 : (Lit.int .u64 c1).wf = true) (u2 : (Lit.int .i64 c2).wf = true) : F.law01_DecOrder 100000 a0 a1 a2 b0 b1 b2 c0 c1 c2 = some true :=
  Wide.DecOrder (by decide) (wfI64 w0) (wfU64 w1) (wfI64 v0) (wfU64 v1) (wfI64 u0) (wfU64 u1)
theorem DecLaws {a0 a1 a2 b0 b1 b2 c0 c1 c2 : Int} (w0 : (Lit.int .i64 a0).wf = true) (w1 : (Lit.int .u64 a1).wf = true) (w2 : (Lit.int .i64 a2).wf = true) (v0 : (Lit.int .i64 b0).wf = true) (v1 : (Lit.int .u64 b1).wf = true) (v2 : (Lit.int .i64 b2).wf = true) (u0 : (Lit.int .i64 c0).wf = true) (u1 : (Lit.int .u64 c1).wf = true) (u2 : (Lit.int .i64 c2).wf = true) : F.law01_DecLaws 100000 a0 a1 a2 b0 b1 b2 c0 c1 c2 = some true :=
  Wide.DecLaws (by decide) (wfI64 w0) (wfU64 w1) (wfI64 v0) (wfU64 v1) (wfI64 u0) (wfU64 u1)
end L
end Go.Proofs.Ytelnigjdfgdapaa.Wide

/- What package fx answers. Conditions: rates, parts and amounts within their ranges. -/
import Derived.Test.YtmlohnfghomghaaFX
import Derived.Test.YtmlohnfghomghaaPRj
set_option linter.unusedVariables false
set_option linter.unusedSimpArgs false
namespace Go.Proofs.Ytmlohnfghomghaa.Wide
open Go Go.RowKit Go.Proofs.Ytmlohnfghomghaa.Vm
/-- A number that isn't below nought, as a decimal's parts. -/
theorem fxof_ok (K : Nat) {n s : Int} (h0 : 0 ≤ n) (h1 : n ≤ 9223372036854775807) (s0 : 0 ≤ s) (s1 : s ≤ 18) : F.fx_of K n s = some (n / 18446744073709551616, n % 18446744073709551616, s) := by
  unfold F.fx_of
  rw [decof_ok K (show I64 n by unfold I64; omega), if_pos ⟨s0, s1⟩, pack_in (by omega) (by omega), Option.bind_some]
theorem absI_pos {x : Int} (h : 0 ≤ x) : absI x = x := by unfold absI; rw [if_neg (by omega)]
theorem mul_pos_ok {K : Nat} (hK : 400 ≤ K) {x z s t sc m : Int} (x0 : 0 ≤ x) (x1 : x < 170141183460469231731687303715884105728) (z0 : 0 ≤ z) (z1 : z < 170141183460469231731687303715884105728) (hs : 0 ≤ s ∧ s ≤ 18) (ht : 0 ≤ t ∧ t ≤ 18) (hw : 0 ≤ sc ∧ sc ≤ 18) (m0 : 0 ≤ m) (m1 : m ≤ 6) :
    F.dec_Mul K (x / 18446744073709551616) (x % 18446744073709551616) s (z / 18446744073709551616) (z % 18446744073709551616) t sc m = some (togD false (scaledS false (x * z) (s + t) sc m) sc) := by
  obtain ⟨p0, p1, p2, p3⟩ := packed (c := x) (sc := s) (by omega) x1 hs.1 hs.2
  obtain ⟨q0, q1, q2, q3⟩ := packed (c := z) (sc := t) (by omega) z1 ht.1 ht.2
  obtain ⟨sx, dx⟩ := siz_parts (x := x) (by omega) x1
  obtain ⟨sz, dz⟩ := siz_parts (x := z) (by omega) z1
  rw [dmul_ok hK p0 p1 q0 q1, if_pos (show Wy sc m by unfold Wy; omega), if_pos ⟨p2, q2⟩, sx, sz, dx, dz, absI_pos x0, absI_pos z0]
  rw [show decide (x < 0) = false by simp; omega, show decide (z < 0) = false by simp; omega]
  rfl
theorem int_pos_ok {K : Nat} (hK : 400 ≤ K) {x : Int} (x0 : 0 ≤ x) (x1 : x < 170141183460469231731687303715884105728) : F.dec_Int K (x / 18446744073709551616) (x % 18446744073709551616) 0 = some (if x ≤ 9223372036854775807 then (x, 0) else (0, 4)) := by
  obtain ⟨p0, p1, p2, p3⟩ := packed (c := x) (sc := 0) (by omega) x1 (by decide) (by decide)
  obtain ⟨sx, dx⟩ := siz_parts (x := x) (by omega) x1
  rw [dint_ok hK p0 p1, if_pos p2, sx, dx, absI_pos x0, p10z_zero, Int.ediv_one, Int.emod_one]
  rw [show decide (x < 0) = false by simp; omega]
  unfold sgB I64
  by_cases c : x ≤ 9223372036854775807
  · rw [if_pos c]; simp [c]; omega
  · rw [if_neg c]; simp [c]
theorem roundS_down (A B : Int) : roundS false A B 0 = A / B := by
  unfold roundS moreB; by_cases c : A % B = 0 <;> simp [c]
theorem roundS_up (A B : Int) : roundS false A B 1 = A / B + (if A % B = 0 then 0 else 1) := by
  unfold roundS moreB; by_cases c : A % B = 0 <;> simp [c]
theorem p10z_6 : p10z 6 = 1000000 := by decide
theorem p10z_9 : p10z 9 = 1000000000 := by decide
theorem share_ok {K : Nat} (hK : 400 ≤ K) {r p m : Int} (r0 : 0 ≤ r) (r1 : r ≤ 1000000000000) (p0 : 0 ≤ p) (p1 : p ≤ 2000000) (m0 : 0 ≤ m) (m1 : m ≤ 6) : F.fx_share K r p m = some (roundS false (r * p) 1000000 m) := by
  have b := mul_bd r0 r1 p0 p1
  have n := roundS_nonneg (m := false) (mode := m) b.1 (show (0 : Int) < 1000000 by decide)
  unfold F.fx_share
  rw [fxof_ok K r0 (by omega) (by decide) (by decide), Option.bind_some, fxof_ok K p0 (by omega) (by decide) (by decide), Option.bind_some]
  simp only
  rw [mul_pos_ok hK r0 (by omega) p0 (by omega) ⟨by decide, by decide⟩ ⟨by decide, by decide⟩ ⟨by decide, by decide⟩ m0 m1, Option.bind_some]
  have e : scaledS false (r * p) (0 + 6) 0 m = roundS false (r * p) 1000000 m := by unfold scaledS; rw [if_neg (by decide)]; rfl
  have e2 : sgB false (roundS false (r * p) 1000000 m) = roundS false (r * p) 1000000 m := rfl
  rw [e, togD_pack n.1, e2, pack_in (by omega) (by omega)]
  simp only
  rw [int_pos_ok hK n.1 (by omega), if_pos (by omega), Option.bind_some]
def Rt (n : Int) : Prop := 1 ≤ n ∧ n ≤ 1000000000000
instance (n : Int) : Decidable (Rt n) := by unfold Rt; infer_instance
theorem is_ok (K : Nat) (n : Int) : F.fx_is K n = some (decide (Rt n)) := by
  unfold F.fx_is Rt
  by_cases c : n ≥ 1 <;> simp [c]
theorem rate_ok (K : Nat) (n : Int) : F.ref16_Rate K n = some (decide (Rt n)) := by
  unfold F.ref16_Rate Rt
  by_cases c : n ≥ 1 <;> simp [c]
theorem over_ok {K : Nat} (hK : 40000 ≤ K) {a b c m : Int} (a0 : 0 ≤ a) (a1 : a ≤ 1000000000000) (b0 : 0 ≤ b) (b1 : b ≤ 1000000000000) (c0 : 1000000 ≤ c) (c1 : c ≤ 1000000000) (m0 : 0 ≤ m) (m1 : m ≤ 6) : F.ref16_over K a b c m = some (roundS false (a * b) c m, decide (Rt (roundS false (a * b) c m))) := by
  have bd := mul_bd a0 a1 b0 b1
  have n := roundS_nonneg (m := false) (mode := m) bd.1 (show 0 < c by omega)
  have hd : a * b / c ≤ 1000000000000 * 1000000000000 / 1000000 := by
    have h1 := Int.ediv_mul_le (a * b) (show c ≠ 0 by omega)
    have h2 := Int.mul_le_mul_of_nonneg_left c0 (Int.ediv_nonneg bd.1 (show 0 ≤ c by omega))
    omega
  have two := roundS_two false (a * b) c m
  have n2 : roundS false (a * b) c m ≤ 1000000000000000001 := by rcases two with h | ⟨h, _⟩ <;> rw [h] <;> omega
  unfold F.ref16_over
  rw [made_ok (by omega) (show I64 a by unfold I64; omega), Option.bind_some, made_ok (by omega) (show I64 b by unfold I64; omega), Option.bind_some]
  simp only [show ¬ a < 0 by omega, show ¬ b < 0 by omega, if_false, decide_false]
  rw [product_ok (by omega) a0 (by unfold TOP; omega) b0 (by unfold TOP; omega), Option.bind_some, uw (x := c) (by omega) (by omega), word_ok (by omega) (show Word c by unfold Word; omega), Option.bind_some]
  simp only
  rw [rrounded_ok hK bd.1 (by unfold TOP; omega) (by omega) (by unfold TOP; omega) m0 m1, Option.bind_some]
  simp only
  rw [show (!false == false) = false from rfl]
  have e2 : sgB false (roundS false (a * b) c m) = roundS false (a * b) c m := rfl
  rw [small_ok (by omega) n.1 (by unfold TOP; omega), e2, if_pos (show I64 (roundS false (a * b) c m) by unfold I64; omega), Option.bind_some, rate_ok]
  simp
theorem quote_ok {K : Nat} (hK : 400 ≤ K) {r s : Int} : F.fx_Quote K r s = some (if Rt r ∧ 0 ≤ s ∧ s < 1000000 then (if Rt (roundS false (r * (1000000 - s)) 1000000 0) ∧ Rt (roundS false (r * (1000000 + s)) 1000000 1) then (roundS false (r * (1000000 - s)) 1000000 0, roundS false (r * (1000000 + s)) 1000000 1, 0) else (0, 0, 4)) else (0, 0, 1)) := by
  unfold F.fx_Quote
  rw [is_ok, Option.bind_some]
  by_cases h : Rt r
  · by_cases h1 : s < 0
    · rw [if_neg (show ¬ (Rt r ∧ 0 ≤ s ∧ s < 1000000) by omega)]; simp [h, h1]
    · by_cases h2 : s ≥ 1000000
      · rw [if_neg (show ¬ (Rt r ∧ 0 ≤ s ∧ s < 1000000) by omega)]; simp [h, h1, h2]
      · have h' := h
        unfold Rt at h'
        rw [if_pos (show Rt r ∧ 0 ≤ s ∧ s < 1000000 from ⟨h, by omega, by omega⟩), if_neg (by simp [h]), if_neg (by simpa using h1), if_neg (by simpa using h2), iw (x := 1000000 - s) (by omega) (by omega), iw (x := 1000000 + s) (by omega) (by omega),
          share_ok hK (by omega) (by omega) (by omega) (by omega) (by decide) (by decide), Option.bind_some, share_ok hK (by omega) (by omega) (by omega) (by omega) (by decide) (by decide), Option.bind_some, is_ok, Option.bind_some, is_ok, Option.bind_some]
        by_cases g : Rt (roundS false (r * (1000000 - s)) 1000000 0) <;> by_cases g' : Rt (roundS false (r * (1000000 + s)) 1000000 1) <;> simp [g, g']
  · rw [if_neg (show ¬ (Rt r ∧ 0 ≤ s ∧ s < 1000000) from fun g => h g.1)]; simp [h]
theorem docquote_ok {K : Nat} (hK : 40000 ≤ K) {r s : Int} : F.ref16_DocQuote K r s = some (if Rt r ∧ 0 ≤ s ∧ s < 1000000 then (if Rt (roundS false (r * (1000000 - s)) 1000000 0) ∧ Rt (roundS false (r * (1000000 + s)) 1000000 1) then (roundS false (r * (1000000 - s)) 1000000 0, roundS false (r * (1000000 + s)) 1000000 1, 0) else (0, 0, 4)) else (0, 0, 1)) := by
  unfold F.ref16_DocQuote
  rw [rate_ok, Option.bind_some]
  by_cases h : Rt r
  · by_cases h1 : s < 0
    · rw [if_neg (show ¬ (Rt r ∧ 0 ≤ s ∧ s < 1000000) by omega)]; simp [h, h1]
    · by_cases h2 : s > 999999
      · rw [if_neg (show ¬ (Rt r ∧ 0 ≤ s ∧ s < 1000000) by omega)]; simp [h, h1, h2]
      · have h' := h
        unfold Rt at h'
        rw [if_pos (show Rt r ∧ 0 ≤ s ∧ s < 1000000 from ⟨h, by omega, by omega⟩), if_neg (by simp [h]), if_neg (by simpa using h1), if_neg (by simpa using h2), iw (x := 1000000 - s) (by omega) (by omega), iw (x := 1000000 + s) (by omega) (by omega),
          over_ok hK (by omega) (by omega) (by omega) (by omega) (by decide) (by decide) (by decide) (by decide), Option.bind_some, over_ok hK (by omega) (by omega) (by omega) (by omega) (by decide) (by decide) (by decide) (by decide), Option.bind_some]
        by_cases g : Rt (roundS false (r * (1000000 - s)) 1000000 0) <;> by_cases g' : Rt (roundS false (r * (1000000 + s)) 1000000 1) <;> simp [g, g']
  · rw [if_neg (show ¬ (Rt r ∧ 0 ≤ s ∧ s < 1000000) from fun g => h g.1)]; simp [h]
theorem cross_ok {K : Nat} (hK : 400 ≤ K) {a b : Int} : F.fx_Cross K a b = some (if Rt a ∧ Rt b then (if Rt (roundS false (a * b) 1000000000 0) then (roundS false (a * b) 1000000000 0, 0) else (0, 4)) else (0, 1)) := by
  unfold F.fx_Cross
  rw [is_ok, Option.bind_some, is_ok, Option.bind_some]
  by_cases h : Rt a
  · by_cases h' : Rt b
    · have g := h
      have g' := h'
      unfold Rt at g g'
      have bd := mul_bd (show 0 ≤ a by omega) g.2 (show 0 ≤ b by omega) g'.2
      have n := roundS_nonneg (m := false) (mode := 0) bd.1 (show (0 : Int) < 1000000000 by decide)
      rw [if_neg (by simp [h]), if_neg (by simp [h']), if_pos (And.intro h h'), fxof_ok K (by omega) (by omega) (by decide) (by decide), Option.bind_some, fxof_ok K (by omega) (by omega) (by decide) (by decide), Option.bind_some]
      simp only
      rw [mul_pos_ok hK (by omega) (by omega) (by omega) (by omega) ⟨by decide, by decide⟩ ⟨by decide, by decide⟩ ⟨by decide, by decide⟩ (by decide) (by decide), Option.bind_some]
      have e : scaledS false (a * b) (0 + 9) 0 0 = roundS false (a * b) 1000000000 0 := by unfold scaledS; rw [if_neg (by decide)]; rfl
      have e2 : sgB false (roundS false (a * b) 1000000000 0) = roundS false (a * b) 1000000000 0 := rfl
      rw [e, togD_pack n.1, e2, pack_in (by omega) (by omega)]
      simp only
      have n2 : roundS false (a * b) 1000000000 0 ≤ 1000000000000000 := by rw [roundS_down]; omega
      rw [int_pos_ok hK n.1 (by omega), if_pos (by omega), Option.bind_some]
      simp only
      rw [is_ok, Option.bind_some]
      by_cases g : Rt (roundS false (a * b) 1000000000 0) <;> simp [g]
    · rw [if_neg (show ¬ (Rt a ∧ Rt b) from fun g => h' g.2)]; simp [h, h']
  · rw [if_neg (show ¬ (Rt a ∧ Rt b) from fun g => h g.1)]; simp [h]
theorem doccross_ok {K : Nat} (hK : 40000 ≤ K) {a b : Int} : F.ref16_DocCross K a b = some (if Rt a ∧ Rt b then (if Rt (roundS false (a * b) 1000000000 0) then (roundS false (a * b) 1000000000 0, 0) else (0, 4)) else (0, 1)) := by
  unfold F.ref16_DocCross
  rw [rate_ok, Option.bind_some, rate_ok, Option.bind_some]
  by_cases h : Rt a
  · by_cases h' : Rt b
    · have g := h
      have g' := h'
      unfold Rt at g g'
      rw [if_neg (by simp [h]), if_neg (by simp [h']), if_pos (And.intro h h'), over_ok hK (by omega) (by omega) (by omega) (by omega) (by decide) (by decide) (by decide) (by decide), Option.bind_some]
      by_cases g : Rt (roundS false (a * b) 1000000000 0) <;> simp [g]
    · rw [if_neg (show ¬ (Rt a ∧ Rt b) from fun g => h' g.2)]; simp [h, h']
  · rw [if_neg (show ¬ (Rt a ∧ Rt b) from fun g => h g.1)]; simp [h]
/-- How many digits a currency's minor units have. -/
def fig (c : Int) : Int := if c = 2 then 0 else if c = 3 then 3 else 2
theorem digits0 (K : Nat) : F.money_Digits K 0 = some (2, 0) := by kernel_rfl
theorem digits1 (K : Nat) : F.money_Digits K 1 = some (2, 0) := by kernel_rfl
theorem digits2 (K : Nat) : F.money_Digits K 2 = some (0, 0) := by kernel_rfl
theorem digits3 (K : Nat) : F.money_Digits K 3 = some (3, 0) := by kernel_rfl
theorem digits_ok (K : Nat) {c : Int} (h0 : 0 ≤ c) (h1 : c ≤ 3) : F.money_Digits K c = some (fig c, 0) := by
  have : c = 0 ∨ c = 1 ∨ c = 2 ∨ c = 3 := by omega
  rcases this with rfl | rfl | rfl | rfl
  · exact digits0 K
  · exact digits1 K
  · exact digits2 K
  · exact digits3 K
theorem fig_bd (c : Int) : 0 ≤ fig c ∧ fig c ≤ 3 := by unfold fig; split <;> (try split) <;> omega
theorem power_loop {K : Nat} {n : Int} (n1 : n ≤ 3) : ∀ (k : Nat) (i : Int), 0 ≤ i → i ≤ n → (n - i).toNat < k → F.fx_power_l3 K k (p10z i) n i 0 0 0 = some (p10z n, 0, 0, 0)
  | 0, i, _, _, h => by omega
  | k + 1, i, i0, i1, h => by
    rw [F.fx_power_l3]
    by_cases c : i < n
    · have b := p10z_bd (k := i) i0 (by omega)
      have b2 : p10z i ≤ 1000 := by
        have : i = 0 ∨ i = 1 ∨ i = 2 := by omega
        rcases this with rfl | rfl | rfl <;> decide
      rw [if_pos (by simpa using c), iw (x := p10z i * 10) (by omega) (by omega), iw (x := i + 1) (by omega) (by omega), ← p10z_succ i0]
      exact power_loop n1 k (i + 1) (by omega) (by omega) (by omega)
    · rw [if_neg (by simpa using c), show i = n by omega]
theorem power_ok {K : Nat} (hK : 400 ≤ K) {n : Int} (n0 : 0 ≤ n) (n1 : n ≤ 3) : F.fx_power K n = some (p10z n / 18446744073709551616, p10z n % 18446744073709551616, 0) := by
  have key := power_loop (K := K) n1 K 0 (by decide) n0 (by omega)
  rw [p10z_zero] at key
  have b := p10z_bd (k := n) n0 (by omega)
  have b2 : p10z n ≤ 1000 := by
    have : n = 0 ∨ n = 1 ∨ n = 2 ∨ n = 3 := by omega
    rcases this with rfl | rfl | rfl | rfl <;> decide
  unfold F.fx_power
  rw [key, Option.bind_some]
  simp only
  rw [fxof_ok K (by omega) (by omega) (by decide) (by decide), Option.bind_some]
theorem quo_pos_ok {K : Nat} (hK : 400 ≤ K) {x y : Int} (x0 : 0 ≤ x) (x1 : x < 170141183460469231731687303715884105728) (y0 : 0 < y) (y1 : y < 170141183460469231731687303715884105728) :
    F.dec_Quo K (x / 18446744073709551616) (x % 18446744073709551616) 12 (y / 18446744073709551616) (y % 18446744073709551616) 0 12 0 = some (pack (x / y) 12) := by
  obtain ⟨p0, p1, p2, p3⟩ := packed (c := x) (sc := 12) (by omega) x1 (by decide) (by decide)
  obtain ⟨q0, q1, q2, q3⟩ := packed (c := y) (sc := 0) (by omega) y1 (by decide) (by decide)
  obtain ⟨sx, dx⟩ := siz_parts (x := x) (by omega) x1
  obtain ⟨sz, dz⟩ := siz_parts (x := y) (by omega) y1
  have n := Int.ediv_nonneg x0 (Int.le_of_lt y0)
  rw [dquo_ok hK p0 p1 q0 q1, if_pos (by decide), if_pos ⟨p2, q2⟩, sx, sz, dx, dz, absI_pos x0, absI_pos (Int.le_of_lt y0), if_neg (by omega), if_pos (by decide)]
  rw [show decide (x < 0) = false by simp; omega, show decide (y < 0) = false by simp; omega, show (0 : Int) + 12 - 12 = 0 from rfl, p10z_zero, Int.mul_one]
  rw [show (!false == false) = false from rfl, roundS_down, togD_pack n]
  rfl
theorem floor12_ok {K : Nat} (hK : 400 ≤ K) {x : Int} (x0 : 0 ≤ x) (x1 : x < 170141183460469231731687303715884105728) : F.dec_Rescale K (x / 18446744073709551616) (x % 18446744073709551616) 12 0 0 = some (x / 1000000000000 / 18446744073709551616, x / 1000000000000 % 18446744073709551616, 0, 0) := by
  obtain ⟨p0, p1, p2, p3⟩ := packed (c := x) (sc := 12) (by omega) x1 (by decide) (by decide)
  obtain ⟨sx, dx⟩ := siz_parts (x := x) (by omega) x1
  rw [drescale_ok hK p0 p1, if_pos (by decide), if_pos p2, sx, dx, absI_pos x0, show decide (x < 0) = false by simp; omega]
  have e : scaledS false x 12 0 0 = x / 1000000000000 := by unfold scaledS; rw [if_neg (by decide), roundS_down]; rfl
  have e2 : sgB false (x / 1000000000000) = x / 1000000000000 := rfl
  rw [e, togD_pack (by omega), e2, pack_in (by omega) (by omega)]
/-- What an amount is worth, in 10^-12 minor units of the other currency. -/
def worth (c o r a : Int) : Int := if fig o ≥ fig c then a * r * 1000 * p10z (fig o - fig c) else a * r * 1000 / p10z (fig c - fig o)
theorem convert_ok {K : Nat} (hK : 400 ≤ K) {c o r a : Int} (c0 : 0 ≤ c) (c1 : c ≤ 3) (o0 : 0 ≤ o) (o1 : o ≤ 3) (hr : Rt r) (a0 : 1 ≤ a) (a1 : a ≤ 10000000000000) :
    ∃ e, F.fx_Convert K c o r a = some (if c = o then (0, 0, 0, 0, 10) else if worth c o r a / 1000000000000 ≤ 10000000000000 then (worth c o r a / 1000000000000, e) else (0, 0, 0, 0, 4)) ∧ e.2.2.2 = 0 := by
  have hr' := hr
  unfold Rt at hr'
  have fc := fig_bd c
  have fo := fig_bd o
  have b0 := mul_bd (show 0 ≤ a by omega) a1 (show 0 ≤ r by omega) hr'.2
  have bp : ∀ n : Int, 0 ≤ n → n ≤ 3 → 1 ≤ p10z n ∧ p10z n ≤ 1000 := fun n h h' => by
    have : n = 0 ∨ n = 1 ∨ n = 2 ∨ n = 3 := by omega
    rcases this with rfl | rfl | rfl | rfl <;> decide
  have em : F.dec_Mul K (a / 18446744073709551616) (a % 18446744073709551616) 0 (r / 18446744073709551616) (r % 18446744073709551616) 9 12 0 = some (a * r * 1000 / 18446744073709551616, a * r * 1000 % 18446744073709551616, 12, 0) := by
    rw [mul_pos_ok hK (by omega) (by omega) (by omega) (by omega) ⟨by decide, by decide⟩ ⟨by decide, by decide⟩ ⟨by decide, by decide⟩ (by decide) (by decide)]
    have e : scaledS false (a * r) (0 + 9) 12 0 = a * r * 1000 := by unfold scaledS; rw [if_pos (by decide), roundS_one]; rfl
    have e2 : sgB false (a * r * 1000) = a * r * 1000 := rfl
    rw [e, togD_pack (by omega), e2, pack_in (by omega) (by omega)]
  have tail : ∀ E : Int, 0 ≤ E → E < 170141183460469231731687303715884105728 → ∃ e : Int × Int × Int × Int, e.2.2.2 = 0 ∧ ((F.dec_Rescale K (E / 18446744073709551616) (E % 18446744073709551616) 12 0 0).bind fun r8 => ((F.dec_Int K r8.fst r8.snd.fst r8.snd.snd.fst).bind fun r9 => (if (r9.snd != 0) = true then
    (some ((0, 0, 0, 0, 4)))
    else (if (Decidable.decide (r9.fst > 10000000000000)) = true then
    (some ((0, 0, 0, 0, 4)))
    else ((F.dec_Sub K (E / 18446744073709551616) (E % 18446744073709551616) 12 r8.fst r8.snd.fst r8.snd.snd.fst).bind fun r10 => (some ((r9.fst, r10.fst, r10.snd.fst, r10.snd.snd.fst, 0)))))))) = some (if E / 1000000000000 ≤ 10000000000000 then (E / 1000000000000, e) else (0, 0, 0, 0, 4)) := by
    intro E E0 E1
    obtain ⟨p0, p1, p2, p3⟩ := packed (c := E) (sc := 12) (by omega) E1 (by decide) (by decide)
    obtain ⟨q0, q1, q2, q3⟩ := packed (c := E / 1000000000000) (sc := 0) (by omega) (by omega) (by decide) (by decide)
    have es := dsub_ok hK p0 p1 q0 q1 (a2 := 12) (b2 := 0)
    rw [floor12_ok hK E0 E1, Option.bind_some]
    simp only
    rw [int_pos_ok hK (x := E / 1000000000000) (by omega) (by omega), Option.bind_some, es]
    generalize (if Fm (E / 18446744073709551616) (E % 18446744073709551616) 12 ∧ Fm (E / 1000000000000 / 18446744073709551616) (E / 1000000000000 % 18446744073709551616) 0 then pack (up (E / 18446744073709551616) (E % 18446744073709551616) 12 (mx 12 0) - up (E / 1000000000000 / 18446744073709551616) (E / 1000000000000 % 18446744073709551616) 0 (mx 12 0)) (mx 12 0) else (0, 0, 0, 3)) = q
    refine ⟨(q.1, q.2.1, q.2.2.1, 0), rfl, ?_⟩
    by_cases g : E / 1000000000000 ≤ 9223372036854775807
    · rw [if_pos g]
      by_cases g2 : E / 1000000000000 ≤ 10000000000000
      · rw [if_pos g2]; simp [g2]
      · rw [if_neg g2]; simp; omega
    · rw [if_neg g, if_neg (show ¬ E / 1000000000000 ≤ 10000000000000 by omega)]; simp
  unfold F.fx_Convert
  rw [digits_ok K c0 c1, Option.bind_some, digits_ok K o0 o1, Option.bind_some, is_ok, Option.bind_some]
  simp only [bne_self_eq_false, Bool.false_eq_true, if_false, hr, decide_true, Bool.not_true]
  rw [if_neg (by simp; omega), if_neg (by simp; omega)]
  by_cases hco : c = o
  · exact ⟨(0, 0, 0, 0), by simp [hco], rfl⟩
  · rw [if_neg (by simpa using hco), fxof_ok K (by omega) (by omega) (by decide) (by decide), Option.bind_some, fxof_ok K (by omega) (by omega) (by decide) (by decide), Option.bind_some]
    simp only
    rw [em, Option.bind_some]
    unfold worth
    by_cases g : fig o ≥ fig c
    · have pb := bp (fig o - fig c) (by omega) (by omega)
      have bE := mul_bd (a := a * r * 1000) (A := 10000000000000 * 1000000000000 * 1000) (by omega) (by omega) (show 0 ≤ p10z (fig o - fig c) by omega) pb.2
      obtain ⟨e, e0, et⟩ := tail (a * r * 1000 * p10z (fig o - fig c)) bE.1 (by omega)
      refine ⟨e, ?_, e0⟩
      have em2 : F.dec_Mul K (a * r * 1000 / 18446744073709551616) (a * r * 1000 % 18446744073709551616) 12 (p10z (fig o - fig c) / 18446744073709551616) (p10z (fig o - fig c) % 18446744073709551616) 0 12 0 = some (a * r * 1000 * p10z (fig o - fig c) / 18446744073709551616, a * r * 1000 * p10z (fig o - fig c) % 18446744073709551616, 12, 0) := by
        rw [mul_pos_ok hK (by omega) (by omega) (by omega) (by omega) ⟨by decide, by decide⟩ ⟨by decide, by decide⟩ ⟨by decide, by decide⟩ (by decide) (by decide)]
        have e : scaledS false (a * r * 1000 * p10z (fig o - fig c)) (12 + 0) 12 0 = a * r * 1000 * p10z (fig o - fig c) := by unfold scaledS; rw [if_pos (by decide), show (12 : Int) - (12 + 0) = 0 from rfl, p10z_zero, Int.mul_one, roundS_one]
        have e2 : sgB false (a * r * 1000 * p10z (fig o - fig c)) = a * r * 1000 * p10z (fig o - fig c) := rfl
        rw [e, togD_pack bE.1, e2, pack_in (by omega) (by omega)]
      rw [if_neg hco, if_pos (by simpa using g), if_pos g, iw (x := fig o - fig c) (by omega) (by omega), power_ok hK (by omega) (by omega), Option.bind_some]
      simp only
      rw [em2, Option.bind_some]
      exact et
    · have pb := bp (fig c - fig o) (by omega) (by omega)
      have n := Int.ediv_nonneg (a := a * r * 1000) (b := p10z (fig c - fig o)) (by omega) (by omega)
      have le := Int.ediv_le_self (a := a * r * 1000) (p10z (fig c - fig o)) (by omega)
      obtain ⟨e, e0, et⟩ := tail (a * r * 1000 / p10z (fig c - fig o)) n (by omega)
      refine ⟨e, ?_, e0⟩
      rw [if_neg hco, if_neg (by simpa using g), if_neg g, iw (x := fig c - fig o) (by omega) (by omega), power_ok hK (by omega) (by omega), Option.bind_some]
      simp only
      rw [quo_pos_ok hK (by omega) (by omega) (by omega) (by omega), Option.bind_some, pack_in (by omega) (by omega)]
      exact et
theorem fxawake_ok {K : Nat} (hK : 400 ≤ K) : F.law16_awake K = some true := by
  have eq := quote_ok hK (r := 1000000000) (s := 5000)
  have ec : F.fx_Convert K 0 1 1100000000 333 = some (366, 0, 300000000000, 12, 0) := by
    unfold F.fx_Convert
    rw [digits_ok K (by decide) (by decide), Option.bind_some, digits_ok K (by decide) (by decide), Option.bind_some, is_ok, Option.bind_some]
    rw [if_neg (by decide), if_neg (by decide), if_neg (by decide), if_neg (by decide), if_neg (by decide), if_neg (by decide), fxof_ok K (by decide) (by decide) (by decide) (by decide), Option.bind_some, fxof_ok K (by decide) (by decide) (by decide) (by decide), Option.bind_some]
    simp only
    rw [mul_pos_ok hK (by decide) (by decide) (by decide) (by decide) ⟨by decide, by decide⟩ ⟨by decide, by decide⟩ ⟨by decide, by decide⟩ (by decide) (by decide), show togD false (scaledS false (333 * 1100000000) (0 + 9) 12 0) 12 = (0, 366300000000000, 12, 0) from rfl, Option.bind_some]
    rw [if_pos (by decide), show IntKind.i64.wrap (fig 1 - fig 0) = 0 by decide, power_ok hK (by decide) (by decide), Option.bind_some]
    simp only
    have e1 := mul_pos_ok hK (x := 366300000000000) (z := 1) (s := 12) (t := 0) (sc := 12) (m := 0) (by decide) (by decide) (by decide) (by decide) ⟨by decide, by decide⟩ ⟨by decide, by decide⟩ ⟨by decide, by decide⟩ (by decide) (by decide)
    have e2 := floor12_ok hK (x := 366300000000000) (by decide) (by decide)
    have e3 := int_pos_ok hK (x := 366) (by decide) (by decide)
    have e4 := dsub_ok hK (a0 := 0) (a1 := 366300000000000) (a2 := 12) (b0 := 0) (b1 := 366) (b2 := 0) (by decide) (by decide) (by decide) (by decide)
    have e1' : F.dec_Mul K 0 366300000000000 12 (p10z 0 / 18446744073709551616) (p10z 0 % 18446744073709551616) 0 12 0 = some (0, 366300000000000, 12, 0) := e1
    have e2' : F.dec_Rescale K 0 366300000000000 12 0 0 = some (0, 366, 0, 0) := e2
    have e3' : F.dec_Int K 0 366 0 = some (366, 0) := e3
    have e4' : F.dec_Sub K 0 366300000000000 12 0 366 0 = some (0, 300000000000, 12, 0) := e4
    rw [e1', Option.bind_some]
    simp only
    rw [e2', Option.bind_some]
    simp only
    rw [e3', Option.bind_some]
    simp only
    rw [e4']
    rfl
  unfold F.law16_awake
  rw [ec, Option.bind_some, eq, Option.bind_some]
  rfl
theorem FxQuotes {K : Nat} (hK : 40000 ≤ K) {a b s : Int} : F.law16_FxQuotes K a b s = some true := by
  unfold F.law16_FxQuotes
  rw [quote_ok (by omega), Option.bind_some, docquote_ok hK, Option.bind_some, cross_ok (by omega), Option.bind_some, doccross_ok hK, Option.bind_some, fxawake_ok (by omega), Option.bind_some]
  simp
/-- The bank's own rates, by the spread. -/
theorem quote_more {r s t : Int} (hr : 0 ≤ r) (h0 : 0 ≤ s) (h : s ≤ t) (h1 : t < 1000000) : roundS false (r * (1000000 - t)) 1000000 0 ≤ roundS false (r * (1000000 - s)) 1000000 0 ∧ roundS false (r * (1000000 + s)) 1000000 1 ≤ roundS false (r * (1000000 + t)) 1000000 1 ∧
    roundS false (r * (1000000 - s)) 1000000 0 ≤ r ∧ r ≤ roundS false (r * (1000000 + s)) 1000000 1 := by
  have e1 := Int.mul_le_mul_of_nonneg_left (show 1000000 - t ≤ 1000000 - s by omega) hr
  have e2 := Int.mul_le_mul_of_nonneg_left (show 1000000 + s ≤ 1000000 + t by omega) hr
  have e3 := Int.mul_le_mul_of_nonneg_left (show 1000000 - s ≤ 1000000 by omega) hr
  have e4 := Int.mul_le_mul_of_nonneg_left (show 1000000 ≤ 1000000 + s by omega) hr
  rw [roundS_down, roundS_down, roundS_up, roundS_up]
  generalize r * (1000000 - t) = A at *
  generalize r * (1000000 - s) = B at *
  generalize r * (1000000 + s) = C at *
  generalize r * (1000000 + t) = D at *
  refine ⟨by omega, ?_, by omega, ?_⟩
  · split <;> split <;> omega
  · split <;> omega
theorem spread_core {r s t : Int} (hr : Rt r) (s0 : 0 ≤ s) (st : s ≤ t) (t1 : t < 1000000) :
    ∀ q1 q2 : Int × Int × Int, q1 = (if Rt r ∧ 0 ≤ s ∧ s < 1000000 then (if Rt (roundS false (r * (1000000 - s)) 1000000 0) ∧ Rt (roundS false (r * (1000000 + s)) 1000000 1) then (roundS false (r * (1000000 - s)) 1000000 0, roundS false (r * (1000000 + s)) 1000000 1, 0) else (0, 0, 4)) else (0, 0, 1)) →
    q2 = (if Rt r ∧ 0 ≤ t ∧ t < 1000000 then (if Rt (roundS false (r * (1000000 - t)) 1000000 0) ∧ Rt (roundS false (r * (1000000 + t)) 1000000 1) then (roundS false (r * (1000000 - t)) 1000000 0, roundS false (r * (1000000 + t)) 1000000 1, 0) else (0, 0, 4)) else (0, 0, 1)) →
    (q1.2.2 ≠ 0 → q1.2.2 = 4 ∧ q2.2.2 = 4) ∧ (q1.2.2 = 0 → q1.1 ≤ r ∧ r ≤ q1.2.1 ∧ (s = 0 → q1.1 = r ∧ q1.2.1 = r) ∧ (q2.2.2 = 0 → q2.1 ≤ q1.1 ∧ q1.2.1 ≤ q2.2.1)) := by
  intro q1 q2 h1 h2
  have hr' := hr
  unfold Rt at hr'
  obtain ⟨m1, m2, m3, m4⟩ := quote_more (r := r) (by omega) s0 st t1
  have hz : s = 0 → roundS false (r * (1000000 - s)) 1000000 0 = r ∧ roundS false (r * (1000000 + s)) 1000000 1 = r := by
    intro h; subst h
    rw [roundS_down, roundS_up]
    constructor
    · omega
    · rw [if_pos (by omega)]; omega
  rw [if_pos ⟨hr, by omega, by omega⟩] at h1 h2
  generalize roundS false (r * (1000000 - s)) 1000000 0 = x at *
  generalize roundS false (r * (1000000 + s)) 1000000 1 = y at *
  generalize roundS false (r * (1000000 - t)) 1000000 0 = u at *
  generalize roundS false (r * (1000000 + t)) 1000000 1 = v at *
  unfold Rt at h1 h2
  by_cases g1 : (1 ≤ x ∧ x ≤ 1000000000000) ∧ (1 ≤ y ∧ y ≤ 1000000000000)
  · rw [if_pos g1] at h1
    subst h1
    refine ⟨fun h => absurd rfl h, fun _ => ⟨m3, m4, hz, ?_⟩⟩
    by_cases g2 : (1 ≤ u ∧ u ≤ 1000000000000) ∧ (1 ≤ v ∧ v ≤ 1000000000000)
    · rw [if_pos g2] at h2; subst h2; exact fun _ => ⟨m1, m2⟩
    · rw [if_neg g2] at h2; subst h2; intro h; simp at h
  · have g2 : ¬ ((1 ≤ u ∧ u ≤ 1000000000000) ∧ (1 ≤ v ∧ v ≤ 1000000000000)) := by omega
    rw [if_neg g1] at h1
    rw [if_neg g2] at h2
    subst h1; subst h2
    exact ⟨fun _ => ⟨rfl, rfl⟩, fun h => by simp at h⟩
theorem FxSpread {K : Nat} (hK : 400 ≤ K) {r a b : Int} (ha : 0 ≤ a ∧ a ≤ 4294967295) (hb : 0 ≤ b ∧ b ≤ 4294967295) : F.law16_FxSpread K r a b = some true := by
  unfold F.law16_FxSpread
  have e1 : IntKind.i64.wrap (1 + IntKind.i64.wrap ((IntKind.u64.wrap r).tmod 1000000000000)) = 1 + r % 18446744073709551616 % 1000000000000 := by rw [wu, tm _ (by omega), iw (x := r % 18446744073709551616 % 1000000000000) (by omega) (by omega), iw (by omega) (by omega)]
  have e2 : IntKind.i64.wrap (a.tmod 1000000) = a % 1000000 := by rw [tm _ ha.1, iw (by omega) (by omega)]
  have e3 : IntKind.i64.wrap (b.tmod 1000000) = b % 1000000 := by rw [tm _ hb.1, iw (by omega) (by omega)]
  have hr : Rt (1 + r % 18446744073709551616 % 1000000000000) := by unfold Rt; omega
  have hs : 0 ≤ a % 1000000 ∧ a % 1000000 < 1000000 := by omega
  have ht : 0 ≤ b % 1000000 ∧ b % 1000000 < 1000000 := by omega
  rw [fxawake_ok hK, Option.bind_some, if_neg (by decide), e1, e2, e3]
  generalize 1 + r % 18446744073709551616 % 1000000000000 = rr at *
  generalize a % 1000000 = s at *
  generalize b % 1000000 = t at *
  have core : ∀ s t : Int, 0 ≤ s → s ≤ t → t < 1000000 → ((F.fx_Quote K rr s).bind fun r3 => ((F.fx_Quote K rr t).bind fun r4 => (if (r3.snd.snd != 0) = true then
    (if (r3.snd.snd == 4) = true then
    (some (r4.snd.snd == 4))
    else (some Bool.false))
    else (if (Decidable.decide (r3.fst > rr)) = true then
    (some Bool.false)
    else (if (Decidable.decide (r3.snd.fst < rr)) = true then
    (some Bool.false)
    else (if (s == 0) = true then
    (if (r3.fst != rr) = true then
    (some Bool.false)
    else (if (r3.snd.fst != rr) = true then
    (some Bool.false)
    else (if (r4.snd.snd != 0) = true then
    (some Bool.true)
    else (if (Decidable.decide (r4.fst ≤ r3.fst)) = true then
    (some (Decidable.decide (r4.snd.fst ≥ r3.snd.fst)))
    else (some Bool.false)))))
    else (if (r4.snd.snd != 0) = true then
    (some Bool.true)
    else (if (Decidable.decide (r4.fst ≤ r3.fst)) = true then
    (some (Decidable.decide (r4.snd.fst ≥ r3.snd.fst)))
    else (some Bool.false))))))))) = some true := by
    intro s t s0 st t1
    obtain ⟨c1, c2⟩ := spread_core hr s0 st t1 _ _ rfl rfl
    rw [quote_ok hK, Option.bind_some, quote_ok hK, Option.bind_some]
    generalize (if Rt rr ∧ 0 ≤ s ∧ s < 1000000 then (if Rt (roundS false (rr * (1000000 - s)) 1000000 0) ∧ Rt (roundS false (rr * (1000000 + s)) 1000000 1) then (roundS false (rr * (1000000 - s)) 1000000 0, roundS false (rr * (1000000 + s)) 1000000 1, 0) else (0, 0, 4)) else ((0, 0, 1) : Int × Int × Int)) = q1 at *
    generalize (if Rt rr ∧ 0 ≤ t ∧ t < 1000000 then (if Rt (roundS false (rr * (1000000 - t)) 1000000 0) ∧ Rt (roundS false (rr * (1000000 + t)) 1000000 1) then (roundS false (rr * (1000000 - t)) 1000000 0, roundS false (rr * (1000000 + t)) 1000000 1, 0) else (0, 0, 4)) else ((0, 0, 1) : Int × Int × Int)) = q2 at *
    by_cases z : q1.2.2 = 0
    · obtain ⟨d1, d2, d3, d4⟩ := c2 z
      rw [if_neg (by simpa using z), if_neg (by simp; omega), if_neg (by simp; omega)]
      by_cases y : q2.2.2 = 0
      · obtain ⟨f1, f2⟩ := d4 y
        by_cases x : s = 0
        · obtain ⟨g1, g2⟩ := d3 x
          rw [g1] at f1
          rw [g2] at f2
          simp [x, y, g1, g2, f1, f2]
        · simp [x, y, f1, f2]
      · by_cases x : s = 0
        · obtain ⟨g1, g2⟩ := d3 x
          simp [x, y, g1, g2]
        · simp [x, y]
    · obtain ⟨d1, d2⟩ := c1 z
      simp [d1, d2]
  by_cases c : s > t
  · rw [if_pos (by simpa using c)]
    exact core t s ht.1 (by omega) hs.2
  · rw [if_neg (by simpa using c)]
    exact core s t hs.1 (by omega) ht.2
/-- There and back: nobody gains. -/
theorem back_core {c o r a n : Int} (hco : c ≠ o) (hr : Rt r) (a0 : 1 ≤ a) (a1 : a ≤ 10000000000000) (hn : n = worth c o r a / 1000000000000) (n0 : 0 ≤ n) : worth o c (1000000000000000000 / r) n / 1000000000000 ≤ a ∧ 0 ≤ worth o c (1000000000000000000 / r) n := by
  unfold Rt at hr
  have hi := Int.ediv_mul_le 1000000000000000000 (show r ≠ 0 by omega)
  have hi0 : 0 ≤ 1000000000000000000 / r := Int.ediv_nonneg (by decide) (by omega)
  generalize 1000000000000000000 / r = v at *
  -- n v r at most n 10^18
  have h1 := Int.mul_le_mul_of_nonneg_left hi n0
  have hnv := Int.mul_nonneg n0 hi0
  unfold worth at *
  have fc := fig_bd c
  have fo := fig_bd o
  by_cases g : fig o ≥ fig c
  · rw [if_pos g] at hn
    have P := p10z_pos (fig o - fig c)
    have hN : n * 1000000000000 ≤ a * r * 1000 * p10z (fig o - fig c) := by omega
    -- n v 10^12 <= a P 10^21
    have h2 : n * v * 1000 ≤ a * p10z (fig o - fig c) * 1000000000000 := by
      apply Int.le_of_mul_le_mul_right (a := r * 1000000000000)
      · have e1 : n * v * 1000 * (r * 1000000000000) = n * 1000000000000 * 1000 * (v * r) := by ac_rfl
        have e2 : a * p10z (fig o - fig c) * 1000000000000 * (r * 1000000000000) = a * r * 1000 * p10z (fig o - fig c) * 1000 * 1000000000000000000 := by
          rw [show (1000000000000000000 : Int) = 1000000 * 1000000000000 by decide]
          have : (1000000000000 : Int) * 1000000000000 = 1000 * 1000 * (1000000 * 1000000000000) := by decide
          calc a * p10z (fig o - fig c) * 1000000000000 * (r * 1000000000000) = a * r * p10z (fig o - fig c) * (1000000000000 * 1000000000000) := by ac_rfl
            _ = a * r * p10z (fig o - fig c) * (1000 * 1000 * (1000000 * 1000000000000)) := by rw [this]
            _ = a * r * 1000 * p10z (fig o - fig c) * 1000 * (1000000 * 1000000000000) := by ac_rfl
        rw [e1, e2]
        have h3 := Int.mul_le_mul_of_nonneg_left hi (show 0 ≤ n * 1000000000000 * 1000 by omega)
        have h4 := Int.mul_le_mul_of_nonneg_right (show n * 1000000000000 * 1000 ≤ a * r * 1000 * p10z (fig o - fig c) * 1000 by omega) (show (0 : Int) ≤ 1000000000000000000 by decide)
        omega
      · omega
    by_cases g2 : fig c ≥ fig o
    · have z : fig o - fig c = 0 := by omega
      have z2 : fig c - fig o = 0 := by omega
      rw [if_pos g2, z2, p10z_zero, Int.mul_one]
      rw [z, p10z_zero, Int.mul_one] at h2
      omega
    · rw [if_neg g2]
      have hd := Int.ediv_mul_le (n * v * 1000) (show p10z (fig o - fig c) ≠ 0 by omega)
      have hd0 := Int.ediv_nonneg (show 0 ≤ n * v * 1000 by omega) (Int.le_of_lt P)
      have : n * v * 1000 / p10z (fig o - fig c) ≤ a * 1000000000000 := by
        apply Int.le_of_mul_le_mul_right (a := p10z (fig o - fig c))
        · have e : a * 1000000000000 * p10z (fig o - fig c) = a * p10z (fig o - fig c) * 1000000000000 := by ac_rfl
          rw [e]; omega
        · exact P
      omega
  · rw [if_neg g] at hn
    have P := p10z_pos (fig c - fig o)
    have hd := Int.ediv_mul_le (a * r * 1000) (show p10z (fig c - fig o) ≠ 0 by omega)
    have hN : n * 1000000000000 ≤ a * r * 1000 / p10z (fig c - fig o) := by omega
    have hN2 := Int.mul_le_mul_of_nonneg_right hN (Int.le_of_lt P)
    rw [if_pos (show fig c ≥ fig o by omega)]
    have h2 : n * v * 1000 * p10z (fig c - fig o) ≤ a * 1000000000000 := by
      apply Int.le_of_mul_le_mul_right (a := r * 1000000000000)
      · have e1 : n * v * 1000 * p10z (fig c - fig o) * (r * 1000000000000) = n * 1000000000000 * p10z (fig c - fig o) * 1000 * (v * r) := by ac_rfl
        have e2 : a * 1000000000000 * (r * 1000000000000) = a * r * 1000 * 1000 * 1000000000000000000 := by
          have : (1000000000000 : Int) * 1000000000000 = 1000 * 1000 * 1000000000000000000 := by decide
          calc a * 1000000000000 * (r * 1000000000000) = a * r * (1000000000000 * 1000000000000) := by ac_rfl
            _ = a * r * (1000 * 1000 * 1000000000000000000) := by rw [this]
            _ = a * r * 1000 * 1000 * 1000000000000000000 := by ac_rfl
        rw [e1, e2]
        have n1 := Int.mul_nonneg (show 0 ≤ n * 1000000000000 by omega) (Int.le_of_lt P)
        have h3 := Int.mul_le_mul_of_nonneg_left hi (show 0 ≤ n * 1000000000000 * p10z (fig c - fig o) * 1000 by omega)
        have h4 := Int.mul_le_mul_of_nonneg_right (show n * 1000000000000 * p10z (fig c - fig o) * 1000 ≤ a * r * 1000 * 1000 by omega) (show (0 : Int) ≤ 1000000000000000000 by decide)
        omega
      · omega
    have h0 := Int.mul_nonneg (show 0 ≤ n * v * 1000 by omega) (Int.le_of_lt P)
    omega
theorem worth_nonneg {c o r a : Int} (hr : 0 ≤ r) (ha : 0 ≤ a) : 0 ≤ worth c o r a := by
  have h := Int.mul_nonneg ha hr
  unfold worth
  split
  · exact Int.mul_nonneg (by omega) (Int.le_of_lt (p10z_pos _))
  · exact Int.ediv_nonneg (by omega) (Int.le_of_lt (p10z_pos _))
theorem FxBack {K : Nat} (hK : 400 ≤ K) {c o r a : Int} (hc : 0 ≤ c) (ho : 0 ≤ o) : F.law16_FxBack K c o r a = some true := by
  unfold F.law16_FxBack
  have e1 : IntKind.i64.wrap (1 + IntKind.i64.wrap ((IntKind.u64.wrap r).tmod 1000000000000)) = 1 + r % 18446744073709551616 % 1000000000000 := by rw [wu, tm _ (by omega), iw (x := r % 18446744073709551616 % 1000000000000) (by omega) (by omega), iw (by omega) (by omega)]
  have e2 : IntKind.i64.wrap (1 + IntKind.i64.wrap ((IntKind.u64.wrap a).tmod 10000000000000)) = 1 + a % 18446744073709551616 % 10000000000000 := by rw [wu, tm _ (by omega), iw (x := a % 18446744073709551616 % 10000000000000) (by omega) (by omega), iw (by omega) (by omega)]
  have e3 : IntKind.i64.wrap (c.tmod 4) = c % 4 := by rw [tm _ hc, iw (by omega) (by omega)]
  have e4 : IntKind.i64.wrap (o.tmod 4) = o % 4 := by rw [tm _ ho, iw (by omega) (by omega)]
  have hr : Rt (1 + r % 18446744073709551616 % 1000000000000) := by unfold Rt; omega
  have ha : 1 ≤ 1 + a % 18446744073709551616 % 10000000000000 ∧ 1 + a % 18446744073709551616 % 10000000000000 ≤ 10000000000000 := by omega
  have bc : 0 ≤ c % 4 ∧ c % 4 ≤ 3 := by omega
  have bo : 0 ≤ o % 4 ∧ o % 4 ≤ 3 := by omega
  rw [fxawake_ok hK, Option.bind_some, if_neg (by decide), e1, e2, e3, e4]
  generalize 1 + r % 18446744073709551616 % 1000000000000 = rr at *
  generalize 1 + a % 18446744073709551616 % 10000000000000 = aa at *
  generalize c % 4 = cc at *
  generalize o % 4 = oo at *
  have hr' := hr
  unfold Rt at hr'
  have d0 : 0 ≤ 1000000000000000000 / rr := Int.ediv_nonneg (by decide) (by omega)
  have d1 : 1000000000000000000 / rr ≤ 1000000000000000000 := Int.ediv_le_self _ (by decide)
  have e5 : IntKind.i64.wrap (Int.tdiv 1000000000000000000 rr) = 1000000000000000000 / rr := by rw [td _ (by decide), iw (by omega) (by omega)]
  rw [e5]
  obtain ⟨e, h1, h2⟩ := convert_ok hK bc.1 bc.2 bo.1 bo.2 hr ha.1 ha.2
  rw [if_neg (by simp; omega), h1, Option.bind_some]
  by_cases hco : cc = oo
  · rw [if_pos hco]; rfl
  · rw [if_neg hco]
    by_cases g : worth cc oo rr aa / 1000000000000 ≤ 10000000000000
    · rw [if_pos g]
      simp only [h2, bne_self_eq_false, Bool.false_eq_true, if_false]
      by_cases z : worth cc oo rr aa / 1000000000000 = 0
      · rw [if_pos (by simpa using z)]
      · rw [if_neg (by simpa using z)]
        by_cases i1 : 1000000000000000000 / rr < 1
        · rw [if_pos (by simpa using i1)]
        · rw [if_neg (by simpa using i1)]
          by_cases i2 : 1000000000000000000 / rr > 1000000000000
          · rw [if_pos (by simpa using i2)]
          · rw [if_neg (by simpa using i2)]
            have n0 : 0 ≤ worth cc oo rr aa / 1000000000000 := Int.ediv_nonneg (worth_nonneg (by omega) (by omega)) (by decide)
            obtain ⟨k1, k2⟩ := back_core hco hr ha.1 ha.2 rfl n0
            obtain ⟨e', f1, f2⟩ := convert_ok hK bo.1 bo.2 bc.1 bc.2 (r := 1000000000000000000 / rr) (show Rt (1000000000000000000 / rr) by unfold Rt; omega) (a := worth cc oo rr aa / 1000000000000) (by omega) g
            rw [f1, Option.bind_some, if_neg (show ¬ oo = cc from fun h => hco h.symm), if_pos (show worth oo cc (1000000000000000000 / rr) (worth cc oo rr aa / 1000000000000) / 1000000000000 ≤ 10000000000000 by omega)]
            simp [f2, k1]
    · rw [if_neg g]; rfl
namespace L
theorem FxBack {c o r a : Int} (w0 : (Lit.int .u8 c).wf = true) (w1 : (Lit.int .u8 o).wf = true) (w2 : (Lit.int .i64 r).wf = true) (w3 : (Lit.int .i64 a).wf = true) : F.law16_FxBack 100000 c o r a = some true := Wide.FxBack (by decide) (wfU8 w0).1 (wfU8 w1).1
theorem wfU32 {x : Int} (h : (Lit.int .u32 x).wf = true) : 0 ≤ x ∧ x ≤ 4294967295 := by simp [Lit.wf, IntKind.min, IntKind.max, IntKind.signed, IntKind.bits] at h; omega
theorem FxQuotes {a b s : Int} (w0 : (Lit.int .i64 a).wf = true) (w1 : (Lit.int .i64 b).wf = true) (w2 : (Lit.int .i64 s).wf = true) : F.law16_FxQuotes 100000 a b s = some true := Wide.FxQuotes (by decide)
theorem FxSpread {r a b : Int} (w0 : (Lit.int .i64 r).wf = true) (w1 : (Lit.int .u32 a).wf = true) (w2 : (Lit.int .u32 b).wf = true) : F.law16_FxSpread 100000 r a b = some true := Wide.FxSpread (by decide) (wfU32 w1) (wfU32 w2)
end L
end Go.Proofs.Ytmlohnfghomghaa.Wide

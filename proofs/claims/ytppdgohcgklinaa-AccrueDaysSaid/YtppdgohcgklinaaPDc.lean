/- What package dec's functions answer: sums, order, signs. Conditions: a decimal's parts are int64 and uint64. -/
import Derived.Test.YtppdgohcgklinaaPDb
set_option linter.unusedVariables false
set_option linter.unusedSimpArgs false
namespace Go.Proofs.Ytppdgohcgklinaa.Wide
open Go Go.RowKit Go.Proofs.Ytppdgohcgklinaa.Vm
/-- A decimal in form. -/
def Fm (hi lo sc : Int) : Prop := 0 ≤ sc ∧ sc ≤ 18 ∧ ¬(hi = -9223372036854775808 ∧ lo = 0)
instance (hi lo sc : Int) : Decidable (Fm hi lo sc) := by unfold Fm; infer_instance
theorem check_ok (K : Nat) (hi lo sc : Int) : F.dec_Check K hi lo sc = some (if Fm hi lo sc then 0 else 3) := by
  unfold F.dec_Check
  by_cases c1 : sc < 0
  · rw [if_neg (show ¬ Fm hi lo sc by unfold Fm; omega)]; simp [c1]
  by_cases c2 : sc > 18
  · rw [if_neg (show ¬ Fm hi lo sc by unfold Fm; omega)]; simp [c1, c2]
  by_cases c3 : hi = -9223372036854775808
  · by_cases c4 : lo = 0
    · rw [if_neg (show ¬ Fm hi lo sc by unfold Fm; omega)]; simp [c1, c2, c3, c4]
    · rw [if_pos (show Fm hi lo sc by unfold Fm; omega)]; simp [c1, c2, c3, c4]
  · rw [if_pos (show Fm hi lo sc by unfold Fm; omega)]; simp [c1, c2, c3]
theorem both_ok (K : Nat) (a0 a1 a2 b0 b1 b2 : Int) : F.dec_both K a0 a1 a2 b0 b1 b2 = some (if Fm a0 a1 a2 ∧ Fm b0 b1 b2 then 0 else 3) := by
  unfold F.dec_both
  rw [check_ok, check_ok]
  by_cases c : Fm a0 a1 a2 <;> by_cases d : Fm b0 b1 b2 <;> simp [c, d]
theorem fm_bd {hi lo sc : Int} (h : Fm hi lo sc) (i : I64 hi) (l : Word lo) : -170141183460469231731687303715884105728 < cf hi lo ∧ cf hi lo < 170141183460469231731687303715884105728 ∧ 0 ≤ siz hi lo ∧ siz hi lo < 170141183460469231731687303715884105728 := by
  unfold Fm I64 Word at *
  unfold siz cf
  split <;> omega
theorem sgB_siz (hi lo p : Int) : sgB (decide (hi < 0)) (siz hi lo * p) = cf hi lo * p := by
  unfold sgB siz
  by_cases c : hi < 0
  · rw [if_pos (by simpa using c), if_pos c, Int.neg_mul, Int.neg_neg]
  · rw [if_neg (by simpa using c), if_neg c]
theorem sgB_neg (hi lo : Int) : sgB (!decide (hi < 0)) (siz hi lo) = -(cf hi lo) := by
  unfold sgB siz
  by_cases c : hi < 0 <;> simp [c]
theorem pack_in {c sc : Int} (h0 : -170141183460469231731687303715884105728 < c) (h1 : c < 170141183460469231731687303715884105728) : pack c sc = (c / 18446744073709551616, c % 18446744073709551616, sc, 0) := by
  unfold pack; rw [if_pos ⟨h0, h1⟩]
/-- What is packed is in form, and the number itself. -/
theorem packed {c sc : Int} (h0 : -170141183460469231731687303715884105728 < c) (h1 : c < 170141183460469231731687303715884105728) (s0 : 0 ≤ sc) (s1 : sc ≤ 18) :
    I64 (c / 18446744073709551616) ∧ Word (c % 18446744073709551616) ∧ Fm (c / 18446744073709551616) (c % 18446744073709551616) sc ∧ cf (c / 18446744073709551616) (c % 18446744073709551616) = c := by
  unfold I64 Word Fm cf
  omega
theorem decof_ok (K : Nat) {n s : Int} (h : I64 n) : F.dec_Of K n s = some (if 0 ≤ s ∧ s ≤ 18 then pack n s else (0, 0, 0, 1)) := by
  unfold F.dec_Of
  unfold I64 at h
  rw [pack_in (by omega) (by omega), wu, fd n _ (by decide), show n / 9223372036854775808 = n / 18446744073709551616 by omega]
  by_cases c1 : s < 0
  · rw [if_neg (show ¬ (0 ≤ s ∧ s ≤ 18) by omega)]; simp [c1]
  by_cases c2 : s > 18
  · rw [if_neg (show ¬ (0 ≤ s ∧ s ≤ 18) by omega)]; simp [c1, c2]
  · rw [if_neg (by simpa using c1), if_neg (by simpa using c2), if_pos (by omega)]
theorem to_num {K : Nat} (hK : 400 ≤ K) {b : Bool} {A s k : Int} (h0 : 0 ≤ A) (h1 : A ≤ T254) (h2 : s ≤ k) (h3 : k - s ≤ 36) (hs : 0 ≤ s) (hk : k ≤ 100) : F.dec_number_to K b (wd0 A) (wd1 A) (wd2 A) (wd3 A) (wd4 A) (wd5 A) s k = some (ntup b (A * p10z (k - s)) k) := by
  have b' := p10z_bd (k := k - s) (by omega) h3
  have hm : A * p10z (k - s) ≤ T254 * 1000000000000000000000000000000000000 := Int.mul_le_mul h1 b'.2 (by omega) (by decide)
  have et := ten_num hK (k := k - s) (by omega) h3
  have em := mul_num (by omega : 7 ≤ K) h0 (by unfold T254 TOP at *; omega) (by omega : 0 ≤ p10z (k - s)) (by unfold TOP; omega) (by unfold T254 TOP at *; omega)
  unfold F.dec_number_to
  rw [iw (by omega) (by omega)]
  simp only [et, tup, Option.bind_some, em, ntup]
theorem plus_num {K : Nat} (hK : 7 ≤ K) {b d : Bool} {A B k s' : Int} (hA : 0 ≤ A) (hB : 0 ≤ B) (h : A + B < TOP) : ∃ n V, 0 ≤ V ∧ V ≤ A + B ∧ sgB n V = sgB b A + sgB d B ∧ F.dec_number_plus K b (wd0 A) (wd1 A) (wd2 A) (wd3 A) (wd4 A) (wd5 A) k d (wd0 B) (wd1 B) (wd2 B) (wd3 B) (wd4 B) (wd5 B) s' = some (ntup n V k) := by
  unfold F.dec_number_plus
  by_cases c : b = d
  · subst c
    have ea := add_ok hK (words_tup A) (words_tup B)
    rw [val_tup hA (by omega), val_tup hB (by omega), Int.emod_eq_of_lt (by omega) h] at ea
    exact ⟨b, A + B, by omega, by omega, by unfold sgB; split <;> omega, by simp [ea, tup, ntup]⟩
  · have ec := cmp_ok hK (words_tup A) (words_tup B)
    rw [val_tup hA (by omega), val_tup hB (by omega)] at ec
    by_cases g : B ≤ A
    · have es := sub_ok hK (words_tup A) (words_tup B)
      rw [val_tup hA (by omega), val_tup hB (by omega), Int.emod_eq_of_lt (by omega) (by omega)] at es
      have e3 : 0 ≤ cmp3 A B := by unfold cmp3; rw [if_neg (by omega)]; split <;> omega
      exact ⟨b, A - B, by omega, by omega, by unfold sgB; cases b <;> cases d <;> simp_all <;> omega, by simp [c, ec, e3, es, tup, ntup]⟩
    · have es := sub_ok hK (words_tup B) (words_tup A)
      rw [val_tup hA (by omega), val_tup hB (by omega), Int.emod_eq_of_lt (by omega) (by omega)] at es
      have e3 : ¬ 0 ≤ cmp3 A B := by unfold cmp3; rw [if_pos (by omega)]; omega
      exact ⟨d, B - A, by omega, by omega, by unfold sgB; cases b <;> cases d <;> simp_all <;> omega, by simp [c, ec, e3, es, tup, ntup]⟩
def mx (a b : Int) : Int := if b > a then b else a
/-- Numbers at the greater scale. -/
def up (a0 a1 a2 s : Int) : Int := cf a0 a1 * p10z (s - a2)
theorem dadd_ok {K : Nat} (hK : 400 ≤ K) {a0 a1 a2 b0 b1 b2 : Int} (ia : I64 a0) (la : Word a1) (ib : I64 b0) (lb : Word b1) :
    F.dec_Add K a0 a1 a2 b0 b1 b2 = some (if Fm a0 a1 a2 ∧ Fm b0 b1 b2 then pack (up a0 a1 a2 (mx a2 b2) + up b0 b1 b2 (mx a2 b2)) (mx a2 b2) else (0, 0, 0, 3)) := by
  unfold F.dec_Add
  rw [both_ok]
  by_cases c : Fm a0 a1 a2 ∧ Fm b0 b1 b2
  · obtain ⟨x0, x1, x2, x3⟩ := fm_bd c.1 ia la
    obtain ⟨y0, y1, y2, y3⟩ := fm_bd c.2 ib lb
    have fa := c.1
    have fb := c.2
    unfold Fm at fa fb
    have hs : a2 ≤ mx a2 b2 ∧ b2 ≤ mx a2 b2 ∧ mx a2 b2 ≤ 18 := by unfold mx; split <;> omega
    rw [show (if b2 > a2 then b2 else a2) = mx a2 b2 from rfl]
    generalize mx a2 b2 = s at *
    have p1 := p10z_bd (k := s - a2) (by omega) (by omega)
    have p2 := p10z_bd (k := s - b2) (by omega) (by omega)
    have ta := to_num hK (b := decide (a0 < 0)) (s := a2) (k := s) x2 (by unfold T254; omega) hs.1 (by omega) (by omega) (by omega)
    have tb := to_num hK (b := decide (b0 < 0)) (s := b2) (k := s) y2 (by unfold T254; omega) hs.2.1 (by omega) (by omega) (by omega)
    have m1 : siz a0 a1 * p10z (s - a2) ≤ 170141183460469231731687303715884105728 * 1000000000000000000000000000000000000 := Int.mul_le_mul (by omega) p1.2 (by omega) (by decide)
    have m2 : siz b0 b1 * p10z (s - b2) ≤ 170141183460469231731687303715884105728 * 1000000000000000000000000000000000000 := Int.mul_le_mul (by omega) p2.2 (by omega) (by decide)
    have n1 : 0 ≤ siz a0 a1 * p10z (s - a2) := Int.mul_nonneg x2 (by omega)
    have n2 : 0 ≤ siz b0 b1 * p10z (s - b2) := Int.mul_nonneg y2 (by omega)
    obtain ⟨n, V, v0, v1, v2, ep⟩ := plus_num (by omega : 7 ≤ K) (b := decide (a0 < 0)) (d := decide (b0 < 0)) (k := s) (s' := s) n1 n2 (by unfold TOP; omega)
    have et := together_ok (m := n) (sc := s) (by omega : 7 ≤ K) v0 (by unfold TOP; omega)
    rw [togD_pack v0, v2, sgB_siz, sgB_siz] at et
    rw [if_pos c, if_pos c]
    simp only [Option.bind_some, apart_ok K ia la, apart_ok K ib lb, ntup, ta, tb, ep, et, up]
    simp
  · simp [c]
theorem dcmp_ok {K : Nat} (hK : 400 ≤ K) {a0 a1 a2 b0 b1 b2 : Int} (ia : I64 a0) (la : Word a1) (ib : I64 b0) (lb : Word b1) :
    F.dec_Cmp K a0 a1 a2 b0 b1 b2 = some (if Fm a0 a1 a2 ∧ Fm b0 b1 b2 then (cmp3 (up a0 a1 a2 (mx a2 b2)) (up b0 b1 b2 (mx a2 b2)), 0) else (0, 3)) := by
  unfold F.dec_Cmp
  rw [both_ok]
  by_cases c : Fm a0 a1 a2 ∧ Fm b0 b1 b2
  · obtain ⟨x0, x1, x2, x3⟩ := fm_bd c.1 ia la
    obtain ⟨y0, y1, y2, y3⟩ := fm_bd c.2 ib lb
    have fa := c.1
    have fb := c.2
    unfold Fm at fa fb
    have hs : a2 ≤ mx a2 b2 ∧ b2 ≤ mx a2 b2 ∧ mx a2 b2 ≤ 18 := by unfold mx; split <;> omega
    rw [show (if b2 > a2 then b2 else a2) = mx a2 b2 from rfl]
    generalize mx a2 b2 = s at *
    have p1 := p10z_bd (k := s - a2) (by omega) (by omega)
    have p2 := p10z_bd (k := s - b2) (by omega) (by omega)
    have ta := to_num hK (b := decide (a0 < 0)) (s := a2) (k := s) x2 (by unfold T254; omega) hs.1 (by omega) (by omega) (by omega)
    have tb := to_num hK (b := decide (b0 < 0)) (s := b2) (k := s) y2 (by unfold T254; omega) hs.2.1 (by omega) (by omega) (by omega)
    have m1 : siz a0 a1 * p10z (s - a2) ≤ 170141183460469231731687303715884105728 * 1000000000000000000000000000000000000 := Int.mul_le_mul (by omega) p1.2 (by omega) (by decide)
    have m2 : siz b0 b1 * p10z (s - b2) ≤ 170141183460469231731687303715884105728 * 1000000000000000000000000000000000000 := Int.mul_le_mul (by omega) p2.2 (by omega) (by decide)
    have n1 : 0 ≤ siz a0 a1 * p10z (s - a2) := Int.mul_nonneg x2 (by omega)
    have n2 : 0 ≤ siz b0 b1 * p10z (s - b2) := Int.mul_nonneg y2 (by omega)
    obtain ⟨n, V, v0, v1, v2, ep⟩ := plus_num (by omega : 7 ≤ K) (b := decide (a0 < 0)) (d := !decide (b0 < 0)) (k := s) (s' := s) n1 n2 (by unfold TOP; omega)
    have el := len_ok (by omega : 7 ≤ K) (words_tup V)
    rw [val_tup v0 (by unfold TOP; omega)] at el
    have hz := blen_zero v0
    have e2 : sgB (!decide (b0 < 0)) (siz b0 b1 * p10z (s - b2)) = -(sgB (decide (b0 < 0)) (siz b0 b1 * p10z (s - b2))) := by unfold sgB; cases decide (b0 < 0) <;> simp
    rw [e2, sgB_siz, sgB_siz] at v2
    rw [if_pos c, if_pos c]
    simp only [Option.bind_some, apart_ok K ia la, apart_ok K ib lb, ntup, ta, tb, ep, el, up]
    unfold sgB at v2
    unfold cmp3
    generalize cf a0 a1 * p10z (s - a2) = X at *
    generalize cf b0 b1 * p10z (s - b2) = Y at *
    by_cases z : V = 0
    · have z' := hz.2 z
      have : X = Y := by rw [z] at v2; split at v2 <;> omega
      simp [z', this]
    · have z' : ¬ blen V = 0 := fun h => z (hz.1 h)
      cases n with
      | true =>
        simp only [↓reduceIte] at v2
        rw [if_pos (show X < Y by omega)]
        simp [z']
      | false =>
        simp at v2
        simp [z', show ¬ X < Y by omega, show Y < X by omega]
  · simp [c]
end Go.Proofs.Ytppdgohcgklinaa.Wide

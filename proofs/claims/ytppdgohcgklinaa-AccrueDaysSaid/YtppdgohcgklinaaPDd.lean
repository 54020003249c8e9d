/- What package dec's functions answer: differences, products, quotients, rounding, whole numbers. Conditions: a decimal's parts are int64 and uint64, a scale is an int64. -/
import Derived.Test.YtppdgohcgklinaaPDc
set_option linter.unusedVariables false
set_option linter.unusedSimpArgs false
namespace Go.Proofs.Ytppdgohcgklinaa.Wide
open Go Go.RowKit Go.Proofs.Ytppdgohcgklinaa.Vm
theorem up_neg (a0 a1 a2 s : Int) (h0 : -170141183460469231731687303715884105728 < cf a0 a1) (h1 : cf a0 a1 < 170141183460469231731687303715884105728) : up (-(cf a0 a1) / 18446744073709551616) (-(cf a0 a1) % 18446744073709551616) a2 s = -(up a0 a1 a2 s) := by
  unfold up
  rw [(packed (c := -(cf a0 a1)) (sc := 0) (by omega) (by omega) (by decide) (by decide)).2.2.2, Int.neg_mul]
/-- A scale and a mode. -/
def Wy (s m : Int) : Prop := 0 ≤ s ∧ s ≤ 18 ∧ 0 ≤ m ∧ m ≤ 6
instance (s m : Int) : Decidable (Wy s m) := by unfold Wy; infer_instance
theorem way_ok (K : Nat) (s m : Int) : F.dec_way K s m = some (if Wy s m then 0 else 1) := by
  unfold F.dec_way
  by_cases c1 : s < 0
  · rw [if_neg (show ¬ Wy s m by unfold Wy; omega)]; simp [c1]
  by_cases c2 : s > 18
  · rw [if_neg (show ¬ Wy s m by unfold Wy; omega)]; simp [c1, c2]
  by_cases c3 : m < 0
  · rw [if_neg (show ¬ Wy s m by unfold Wy; omega)]; simp [c1, c2, c3]
  by_cases c4 : m > 6
  · rw [if_neg (show ¬ Wy s m by unfold Wy; omega)]; simp [c1, c2, c3, c4]
  · rw [if_pos (show Wy s m by unfold Wy; omega)]; simp [c1, c2, c3, c4]
theorem dmul_ok {K : Nat} (hK : 400 ≤ K) {a0 a1 a2 b0 b1 b2 s m : Int} (ia : I64 a0) (la : Word a1) (ib : I64 b0) (lb : Word b1) :
    F.dec_Mul K a0 a1 a2 b0 b1 b2 s m = some (if Wy s m then (if Fm a0 a1 a2 ∧ Fm b0 b1 b2 then togD (!decide (a0 < 0) == decide (b0 < 0)) (scaledS (!decide (a0 < 0) == decide (b0 < 0)) (siz a0 a1 * siz b0 b1) (a2 + b2) s m) s else (0, 0, 0, 3)) else (0, 0, 0, 1)) := by
  unfold F.dec_Mul
  rw [way_ok, both_ok]
  by_cases c : Wy s m
  · by_cases d : Fm a0 a1 a2 ∧ Fm b0 b1 b2
    · obtain ⟨x0, x1, x2, x3⟩ := fm_bd d.1 ia la
      obtain ⟨y0, y1, y2, y3⟩ := fm_bd d.2 ib lb
      have fa := d.1
      have fb := d.2
      have fw := c
      unfold Fm at fa fb
      unfold Wy at fw
      have m0 : 0 ≤ siz a0 a1 * siz b0 b1 := Int.mul_nonneg x2 y2
      have m1 : siz a0 a1 * siz b0 b1 ≤ 170141183460469231731687303715884105728 * 170141183460469231731687303715884105728 := Int.mul_le_mul (by omega) (by omega) y2 (by decide)
      have em := mul_num (by omega : 7 ≤ K) x2 (by unfold TOP; omega) y2 (by unfold TOP; omega) (by unfold TOP; omega)
      have e := scaled_ok hK (mode := m) (m := !decide (a0 < 0) == decide (b0 < 0)) (f := a2 + b2) (s := s) m0 (by unfold T254; omega) (by omega) (by omega) fw.1 fw.2.1
      rw [if_pos c, if_pos d, if_pos c, if_pos d]
      simp only [Option.bind_some, apart_ok K ia la, apart_ok K ib lb, ntup, em, tup, iw (x := a2 + b2) (by omega) (by omega), e]
      simp
    · simp [c, d]
  · simp [c]
theorem dquo_ok {K : Nat} (hK : 400 ≤ K) {a0 a1 a2 b0 b1 b2 s m : Int} (ia : I64 a0) (la : Word a1) (ib : I64 b0) (lb : Word b1) :
    F.dec_Quo K a0 a1 a2 b0 b1 b2 s m = some (if Wy s m then (if Fm a0 a1 a2 ∧ Fm b0 b1 b2 then (if siz b0 b1 = 0 then (0, 0, 0, 5) else if b2 + s - a2 ≥ 0 then togD (!decide (a0 < 0) == decide (b0 < 0)) (roundS (!decide (a0 < 0) == decide (b0 < 0)) (siz a0 a1 * p10z (b2 + s - a2)) (siz b0 b1) m) s
      else togD (!decide (a0 < 0) == decide (b0 < 0)) (roundS (!decide (a0 < 0) == decide (b0 < 0)) (siz a0 a1) (siz b0 b1 * p10z (0 - (b2 + s - a2))) m) s) else (0, 0, 0, 3)) else (0, 0, 0, 1)) := by
  unfold F.dec_Quo
  rw [way_ok, both_ok]
  by_cases c : Wy s m
  · by_cases d : Fm a0 a1 a2 ∧ Fm b0 b1 b2
    · obtain ⟨x0, x1, x2, x3⟩ := fm_bd d.1 ia la
      obtain ⟨y0, y1, y2, y3⟩ := fm_bd d.2 ib lb
      have fa := d.1
      have fb := d.2
      have fw := c
      unfold Fm at fa fb
      unfold Wy at fw
      have el := len_ok (by omega : 7 ≤ K) (words_tup (siz b0 b1))
      rw [val_tup y2 (by unfold TOP; omega)] at el
      rw [if_pos c, if_pos d, if_pos c, if_pos d]
      simp only [Option.bind_some, apart_ok K ia la, apart_ok K ib lb, ntup, el, iw (x := b2 + s) (by omega) (by omega), iw (x := b2 + s - a2) (by omega) (by omega), iw (x := 0 - (b2 + s - a2)) (by omega) (by omega)]
      by_cases z : siz b0 b1 = 0
      · have := (blen_zero y2).2 z
        rw [this, if_pos z]; simp
      · have hz : ¬ blen (siz b0 b1) = 0 := fun h => z ((blen_zero y2).1 h)
        rw [if_neg z]
        by_cases g : b2 + s - a2 ≥ 0
        · have p := p10z_bd (k := b2 + s - a2) (by omega) (by omega)
          have m0 : 0 ≤ siz a0 a1 * p10z (b2 + s - a2) := Int.mul_nonneg x2 (by omega)
          have m1 : siz a0 a1 * p10z (b2 + s - a2) ≤ 170141183460469231731687303715884105728 * 1000000000000000000000000000000000000 := Int.mul_le_mul (by omega) p.2 (by omega) (by decide)
          have et := ten_num hK (k := b2 + s - a2) (by omega) (by omega)
          have em := mul_num (by omega : 7 ≤ K) x2 (by unfold TOP; omega) (by omega : 0 ≤ p10z (b2 + s - a2)) (by unfold TOP; omega) (by unfold TOP; omega)
          have er := rounded_ok hK (mode := m) (sc := s) (m := !decide (a0 < 0) == decide (b0 < 0)) m0 (by unfold TOP; omega) (by omega : 0 < siz b0 b1) (by unfold TOP; omega)
          rw [if_pos g]
          simp only [et, em, tup, Option.bind_some, er]
          have g' : a2 ≤ b2 + s := by omega
          simp [hz, g']
        · have p := p10z_bd (k := 0 - (b2 + s - a2)) (by omega) (by omega)
          have m0 : 0 < siz b0 b1 * p10z (0 - (b2 + s - a2)) := Int.mul_pos (by omega) (by omega)
          have m1 : siz b0 b1 * p10z (0 - (b2 + s - a2)) ≤ 170141183460469231731687303715884105728 * 1000000000000000000000000000000000000 := Int.mul_le_mul (by omega) p.2 (by omega) (by decide)
          have et := ten_num hK (k := 0 - (b2 + s - a2)) (by omega) (by omega)
          have em := mul_num (by omega : 7 ≤ K) y2 (by unfold TOP; omega) (by omega : 0 ≤ p10z (0 - (b2 + s - a2))) (by unfold TOP; omega) (by unfold TOP; omega)
          have er := rounded_ok hK (mode := m) (sc := s) (m := !decide (a0 < 0) == decide (b0 < 0)) x2 (by unfold TOP; omega) m0 (by unfold TOP; omega)
          rw [if_neg g]
          simp only [et, em, tup, Option.bind_some, er]
          have g' : ¬ a2 ≤ b2 + s := by omega
          simp [hz, g']
    · simp [c, d]
  · simp [c]
theorem dint_ok {K : Nat} (hK : 400 ≤ K) {a0 a1 a2 : Int} (ia : I64 a0) (la : Word a1) :
    F.dec_Int K a0 a1 a2 = some (if Fm a0 a1 a2 then (if siz a0 a1 % p10z a2 = 0 ∧ I64 (sgB (decide (a0 < 0)) (siz a0 a1 / p10z a2)) then (sgB (decide (a0 < 0)) (siz a0 a1 / p10z a2), 0) else (0, 4)) else (0, 3)) := by
  unfold F.dec_Int
  rw [check_ok]
  by_cases d : Fm a0 a1 a2
  · obtain ⟨x0, x1, x2, x3⟩ := fm_bd d ia la
    have fa := d
    unfold Fm at fa
    have p := p10z_bd (k := a2) (by omega) (by omega)
    have et := ten_num hK (k := a2) (by omega) (by omega)
    have eq := quo_ok hK (words_tup (siz a0 a1)) (words_tup (p10z a2)) (by rw [val_tup (by omega) (by unfold TOP; omega)]; omega)
    rw [val_tup x2 (by unfold TOP; omega), val_tup (by omega) (by unfold TOP; omega)] at eq
    have q0 : 0 ≤ siz a0 a1 / p10z a2 := Int.ediv_nonneg x2 (by omega)
    have q1 : siz a0 a1 / p10z a2 ≤ siz a0 a1 := Int.ediv_le_self _ x2
    have r0 : 0 ≤ siz a0 a1 % p10z a2 := Int.emod_nonneg _ (by omega)
    have r1 : siz a0 a1 % p10z a2 < p10z a2 := Int.emod_lt_of_pos _ (by omega)
    have el := len_ok (by omega : 7 ≤ K) (words_tup (siz a0 a1 % p10z a2))
    rw [val_tup r0 (by unfold TOP; omega)] at el
    have hz := blen_zero r0
    have hb : 0 ≤ blen (siz a0 a1 % p10z a2) := (blen_lt (n := 384) (by rw [p384]; unfold TOP; omega)).1
    have eg := together_ok (m := decide (a0 < 0)) (sc := 0) (by omega : 7 ≤ K) q0 (by unfold TOP; omega)
    have zb : -170141183460469231731687303715884105728 < sgB (decide (a0 < 0)) (siz a0 a1 / p10z a2) ∧ sgB (decide (a0 < 0)) (siz a0 a1 / p10z a2) < 170141183460469231731687303715884105728 := by unfold sgB; split <;> omega
    rw [togD_pack q0, pack_in zb.1 zb.2] at eg
    rw [if_pos d, if_pos d]
    simp only [Option.bind_some, apart_ok K ia la, ntup, et, tup, eq, tup2, el, eg]
    generalize sgB (decide (a0 < 0)) (siz a0 a1 / p10z a2) = z at *
    by_cases g : siz a0 a1 % p10z a2 = 0
    · have hl : ¬ blen (siz a0 a1 % p10z a2) > 0 := by have := hz.2 g; omega
      have ew : (IntKind.i64.wrap (z % 18446744073709551616)).fdiv 9223372036854775808 = IntKind.i64.wrap (z % 18446744073709551616) / 9223372036854775808 := fd _ _ (by decide)
      by_cases r : I64 z
      · have r' := r
        unfold I64 at r'
        have e1 : IntKind.i64.wrap (z % 18446744073709551616) = z := by rw [wi]; omega
        have e2 : z / 18446744073709551616 = z / 9223372036854775808 := by omega
        rw [if_pos (show siz a0 a1 % p10z a2 = 0 ∧ I64 z from ⟨g, r⟩), ew, e1, e2]
        simp [hl]
      · have r' := r
        unfold I64 at r'
        have e2 : ¬ z / 18446744073709551616 = IntKind.i64.wrap (z % 18446744073709551616) / 9223372036854775808 := by rw [wi]; omega
        rw [if_neg (show ¬ (siz a0 a1 % p10z a2 = 0 ∧ I64 z) from fun h => r h.2), ew]
        simp [hl, e2]
    · have hl : blen (siz a0 a1 % p10z a2) > 0 := by
        have : ¬ blen (siz a0 a1 % p10z a2) = 0 := fun h => g (hz.1 h)
        omega
      rw [if_neg (show ¬ (siz a0 a1 % p10z a2 = 0 ∧ I64 z) from fun h => g h.1)]
      simp [hl]
  · simp [d]
end Go.Proofs.Ytppdgohcgklinaa.Wide

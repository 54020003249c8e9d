/- The laws of package dec among themselves: order, opposites, sums. Conditions: a decimal's parts are int64 and uint64, a scale is an int64. -/
import Derived.Test.YtelnigjdfgdapaaPLa
set_option linter.unusedVariables false
set_option linter.unusedSimpArgs false
namespace Go.Proofs.Ytelnigjdfgdapaa.Wide
open Go Go.RowKit Go.Proofs.Ytelnigjdfgdapaa.Vm
theorem cf_parts {hi lo : Int} (l : Word lo) : cf hi lo / 18446744073709551616 = hi ∧ cf hi lo % 18446744073709551616 = lo := by
  unfold Word at l; unfold cf; omega
theorem p10z_zero : p10z 0 = 1 := rfl
/-- A number at a greater scale still. -/
theorem up_more {a0 a1 a2 s t : Int} (h : a2 ≤ s) (h' : s ≤ t) : up a0 a1 a2 t = up a0 a1 a2 s * p10z (t - s) := by
  unfold up
  rw [Int.mul_assoc, ← p10z_add (by omega) (by omega), show s - a2 + (t - s) = t - a2 by omega]
theorem cmp3_scale {x y P : Int} (hP : 0 < P) : cmp3 (x * P) (y * P) = cmp3 x y := by
  unfold cmp3
  have l1 : (x * P < y * P) ↔ (x < y) := ⟨fun h => Int.lt_of_mul_lt_mul_right h (Int.le_of_lt hP), fun h => Int.mul_lt_mul_of_pos_right h hP⟩
  have l2 : (y * P < x * P) ↔ (y < x) := ⟨fun h => Int.lt_of_mul_lt_mul_right h (Int.le_of_lt hP), fun h => Int.mul_lt_mul_of_pos_right h hP⟩
  simp only [l1, l2]
theorem cmp3_neg (x y : Int) : cmp3 (-x) (-y) = cmp3 y x := by
  unfold cmp3
  have l1 : (-x < -y) ↔ (y < x) := by omega
  have l2 : (-y < -x) ↔ (x < y) := by omega
  simp only [l1, l2]
theorem cmp3_swap (x y : Int) : cmp3 y x = -(cmp3 x y) := by
  unfold cmp3
  by_cases c : x < y
  · rw [if_neg (show ¬ y < x by omega), if_pos c, if_pos c]; rfl
  · by_cases d : y < x
    · rw [if_pos d, if_neg c, if_pos d]
    · rw [if_neg d, if_neg c, if_neg c, if_neg d]; rfl
theorem cmp3_add (x y z : Int) : cmp3 (x + z) (y + z) = cmp3 x y := by
  unfold cmp3
  have l1 : (x + z < y + z) ↔ (x < y) := by omega
  have l2 : (y + z < x + z) ↔ (y < x) := by omega
  simp only [l1, l2]
theorem cmp3_self (x : Int) : cmp3 x x = 0 := by unfold cmp3; rw [if_neg (by omega), if_neg (by omega)]
theorem cmp3_bd (x y : Int) : cmp3 x y = -1 ∨ cmp3 x y = 0 ∨ cmp3 x y = 1 := by unfold cmp3; split <;> (try split) <;> simp
theorem cmp3_wrap (x y : Int) : IntKind.i64.wrap (0 - cmp3 x y) = -(cmp3 x y) := by
  rcases cmp3_bd x y with h | h | h <;> rw [h] <;> rfl
theorem mx_comm (a b : Int) : mx a b = mx b a := by unfold mx; split <;> split <;> omega
theorem mx_self (a : Int) : mx a a = a := by unfold mx; split <;> rfl
theorem mx_ge (a b : Int) : a ≤ mx a b ∧ b ≤ mx a b := by unfold mx; split <;> omega
theorem mx_le {a b c : Int} (h : a ≤ c) (h' : b ≤ c) : mx a b ≤ c := by unfold mx; split <;> omega
theorem mx_left {a b : Int} (h : b ≤ a) : mx a b = a := by unfold mx; rw [if_neg (by omega)]
theorem mx_assoc (a b c : Int) : mx (mx a b) c = mx a (mx b c) := by
  unfold mx
  by_cases h1 : b > a <;> by_cases h2 : c > b <;> by_cases h3 : c > a <;> simp [h1, h2, h3] <;> omega
theorem pack_ok {T sc : Int} (h : (pack T sc).2.2.2 = 0) : -170141183460469231731687303715884105728 < T ∧ T < 170141183460469231731687303715884105728 := by
  unfold pack at h
  split at h
  · assumption
  · simp at h
/-- 'Cmp' of a decimal with itself, and of one number in two scales. -/
theorem equal_ok {K : Nat} (hK : 400 ≤ K) {a0 a1 a2 b0 b1 b2 : Int} (ia : I64 a0) (la : Word a1) (ib : I64 b0) (lb : Word b1) (fa : Fm a0 a1 a2) (fb : Fm b0 b1 b2) (h : up a0 a1 a2 (mx a2 b2) = up b0 b1 b2 (mx a2 b2)) : F.law01_equal K a0 a1 a2 b0 b1 b2 = some true := by
  unfold F.law01_equal
  rw [dcmp_ok hK ia la ib lb, if_pos (And.intro fa fb), h, cmp3_self]
  rfl
theorem DecNegs {K : Nat} (hK : 400 ≤ K) {a0 a1 a2 b0 b1 b2 : Int} (ia : I64 a0) (la : Word a1) (ib : I64 b0) (lb : Word b1) : F.law01_DecNegs K a0 a1 a2 b0 b1 b2 = some true := by
  unfold F.law01_DecNegs
  rw [awake_ok hK, Option.bind_some, if_neg (by decide), neg_ok (by omega) ib lb]
  by_cases d : Fm b0 b1 b2
  · obtain ⟨y0, y1, y2, y3⟩ := fm_bd d ib lb
    have fb := d
    unfold Fm at fb
    obtain ⟨p0, p1, p2, p3⟩ := packed (c := -(cf b0 b1)) (sc := b2) (by omega) (by omega) fb.1 fb.2.1
    have en := neg_ok (by omega : 7 ≤ K) p0 p1 (sc := b2)
    rw [if_pos p2, p3, Int.neg_neg, pack_in y0 y1, (cf_parts lb).1, (cf_parts lb).2] at en
    have ea := dadd_ok hK ib lb p0 p1 (a2 := b2) (b2 := b2)
    rw [if_pos (And.intro d p2), mx_self, up_neg _ _ _ _ y0 y1, ← Int.sub_eq_add_neg, Int.sub_self] at ea
    have es := sign_ok K ib lb (sc := b2)
    rw [if_pos d] at es
    have et := sign_ok K p0 p1 (sc := b2)
    rw [if_pos p2, p3] at et
    have ec : cmp3 (-(cf b0 b1)) 0 = -(cmp3 (cf b0 b1) 0) := by
      have := cmp3_neg (cf b0 b1) 0
      rw [show (-0 : Int) = 0 from rfl] at this
      rw [this, cmp3_swap]
    have e1 := dsub_ok hK ia la ib lb (a2 := a2) (b2 := b2)
    have e2 := dadd_ok hK ia la p0 p1 (a2 := a2) (b2 := b2)
    have e3 : F.dec_Add K a0 a1 a2 (-(cf b0 b1) / 18446744073709551616) (-(cf b0 b1) % 18446744073709551616) b2 = F.dec_Sub K a0 a1 a2 b0 b1 b2 := by
      rw [e1, e2]
      by_cases c : Fm a0 a1 a2
      · rw [if_pos (And.intro c p2), if_pos (And.intro c d), up_neg _ _ _ _ y0 y1, ← Int.sub_eq_add_neg]
      · rw [if_neg (fun h => c h.1), if_neg (fun h => c h.1)]
    have ew := cmp3_wrap (-(cf b0 b1)) 0
    rw [if_pos d, pack_in (by omega) (by omega), Option.bind_some]
    simp only [en, ea, es, et, e3, Option.bind_some, e1]
    rw [ew, ec]
    simp [show pack 0 b2 = (0, 0, b2, 0) from rfl]
  · rw [if_neg d]; rfl
theorem DecOrder {K : Nat} (hK : 400 ≤ K) {a0 a1 a2 b0 b1 b2 c0 c1 c2 : Int} (ia : I64 a0) (la : Word a1) (ib : I64 b0) (lb : Word b1) (ic : I64 c0) (lc : Word c1) : F.law01_DecOrder K a0 a1 a2 b0 b1 b2 c0 c1 c2 = some true := by
  unfold F.law01_DecOrder
  rw [awake_ok hK, Option.bind_some, if_neg (by decide), dcmp_ok hK ia la ib lb, Option.bind_some, dcmp_ok hK ib lb ia la, Option.bind_some]
  by_cases h : Fm a0 a1 a2 ∧ Fm b0 b1 b2
  · obtain ⟨d, d'⟩ := h
    obtain ⟨x0, x1, x2, x3⟩ := fm_bd d ia la
    obtain ⟨y0, y1, y2, y3⟩ := fm_bd d' ib lb
    have fa := d
    have fb := d'
    unfold Fm at fa fb
    obtain ⟨p0, p1, p2, p3⟩ := packed (c := -(cf a0 a1)) (sc := a2) (by omega) (by omega) fa.1 fa.2.1
    obtain ⟨q0, q1, q2, q3⟩ := packed (c := -(cf b0 b1)) (sc := b2) (by omega) (by omega) fb.1 fb.2.1
    have en := neg_ok (by omega : 7 ≤ K) ia la (sc := a2)
    rw [if_pos d, pack_in (by omega) (by omega)] at en
    have em := neg_ok (by omega : 7 ≤ K) ib lb (sc := b2)
    rw [if_pos d', pack_in (by omega) (by omega)] at em
    have ec := dcmp_ok hK p0 p1 q0 q1 (a2 := a2) (b2 := b2)
    rw [if_pos (And.intro p2 q2), up_neg _ _ _ _ x0 x1, up_neg _ _ _ _ y0 y1, cmp3_neg, cmp3_swap] at ec
    have ee := equal_ok hK ia la ia la d d rfl
    have eX := dadd_ok hK ia la ic lc (a2 := a2) (b2 := c2)
    have eY := dadd_ok hK ib lb ic lc (a2 := b2) (b2 := c2)
    have ms : mx b2 a2 = mx a2 b2 := mx_comm _ _
    rw [if_pos (And.intro d d'), if_pos (And.intro d' d), ms]
    simp only [en, em, ec, ee, Option.bind_some]
    have esw := cmp3_swap (up a0 a1 a2 (mx a2 b2)) (up b0 b1 b2 (mx a2 b2))
    have ew := cmp3_wrap (up b0 b1 b2 (mx a2 b2)) (up a0 a1 a2 (mx a2 b2))
    have ew2 := cmp3_wrap (up a0 a1 a2 (mx a2 b2)) (up b0 b1 b2 (mx a2 b2))
    rw [esw] at ew
    simp only [esw, ew, ew2, Int.neg_neg]
    simp only [bne_self_eq_false, Bool.not_true, Bool.false_eq_true, if_false]
    rw [eX, eY, Option.bind_some, Option.bind_some]
    by_cases f : Fm c0 c1 c2
    · have fc := f
      unfold Fm at fc
      rw [if_pos (And.intro d f), if_pos (And.intro d' f)]
      by_cases g1 : (pack (up a0 a1 a2 (mx a2 c2) + up c0 c1 c2 (mx a2 c2)) (mx a2 c2)).2.2.2 = 0
      · by_cases g2 : (pack (up b0 b1 b2 (mx b2 c2) + up c0 c1 c2 (mx b2 c2)) (mx b2 c2)).2.2.2 = 0
        · obtain ⟨u0, u1⟩ := pack_ok g1
          obtain ⟨v0, v1⟩ := pack_ok g2
          have ma := mx_ge a2 c2
          have mb := mx_ge b2 c2
          have mab := mx_ge a2 b2
          have la18 := mx_le (a := a2) (b := c2) (c := 18) fa.2.1 fc.2.1
          have lb18 := mx_le (a := b2) (b := c2) (c := 18) fb.2.1 fc.2.1
          obtain ⟨r0, r1, r2, r3⟩ := packed (sc := mx a2 c2) u0 u1 (by omega) la18
          obtain ⟨s0, s1, s2, s3⟩ := packed (sc := mx b2 c2) v0 v1 (by omega) lb18
          rw [pack_in u0 u1, pack_in v0 v1]
          simp only
          rw [dcmp_ok hK r0 r1 s0 s1, if_pos (And.intro r2 s2)]
          have key : ∀ S : Int, mx a2 c2 ≤ S → mx b2 c2 ≤ S → cmp3 (up ((up a0 a1 a2 (mx a2 c2) + up c0 c1 c2 (mx a2 c2)) / 18446744073709551616) ((up a0 a1 a2 (mx a2 c2) + up c0 c1 c2 (mx a2 c2)) % 18446744073709551616) (mx a2 c2) S) (up ((up b0 b1 b2 (mx b2 c2) + up c0 c1 c2 (mx b2 c2)) / 18446744073709551616) ((up b0 b1 b2 (mx b2 c2) + up c0 c1 c2 (mx b2 c2)) % 18446744073709551616) (mx b2 c2) S) = cmp3 (up a0 a1 a2 (mx a2 b2)) (up b0 b1 b2 (mx a2 b2)) := by
            intro S hS1 hS2
            have e1 : ∀ x0 x1 y0 y1 x2 y2 : Int, x2 ≤ mx x2 y2 → y2 ≤ mx x2 y2 → mx x2 y2 ≤ S → cf ((up x0 x1 x2 (mx x2 y2) + up y0 y1 y2 (mx x2 y2)) / 18446744073709551616) ((up x0 x1 x2 (mx x2 y2) + up y0 y1 y2 (mx x2 y2)) % 18446744073709551616) = up x0 x1 x2 (mx x2 y2) + up y0 y1 y2 (mx x2 y2) →
                up ((up x0 x1 x2 (mx x2 y2) + up y0 y1 y2 (mx x2 y2)) / 18446744073709551616) ((up x0 x1 x2 (mx x2 y2) + up y0 y1 y2 (mx x2 y2)) % 18446744073709551616) (mx x2 y2) S = up x0 x1 x2 S + up y0 y1 y2 S := by
              intro x0 x1 y0 y1 x2 y2 h1 h2 h3 h4
              rw [up_more h1 h3, up_more h2 h3]
              show cf _ _ * p10z (S - mx x2 y2) = _
              rw [h4, Int.add_mul]
            rw [e1 _ _ _ _ _ _ ma.1 ma.2 hS1 r3, e1 _ _ _ _ _ _ mb.1 mb.2 hS2 s3, cmp3_add]
            have hab : mx a2 b2 ≤ S := mx_le (by omega) (by omega)
            rw [up_more mab.1 hab, up_more mab.2 hab, cmp3_scale (by unfold p10z; exact Int.pow_pos (by decide))]
          rw [key _ (mx_ge _ _).1 (mx_ge _ _).2]
          simp
        · simp [g1, g2]
      · simp [g1]
    · rw [if_neg (show ¬ (Fm a0 a1 a2 ∧ Fm c0 c1 c2) from fun h => f h.2)]; simp
  · have h' : ¬ (Fm b0 b1 b2 ∧ Fm a0 a1 a2) := fun g => h ⟨g.2, g.1⟩
    rw [if_neg h, if_neg h']
    rfl
/-- A sum at a greater scale. -/
theorem up_sum {x0 x1 y0 y1 x2 y2 S : Int} (h3 : mx x2 y2 ≤ S) (h4 : -170141183460469231731687303715884105728 < up x0 x1 x2 (mx x2 y2) + up y0 y1 y2 (mx x2 y2)) (h5 : up x0 x1 x2 (mx x2 y2) + up y0 y1 y2 (mx x2 y2) < 170141183460469231731687303715884105728) :
    up ((up x0 x1 x2 (mx x2 y2) + up y0 y1 y2 (mx x2 y2)) / 18446744073709551616) ((up x0 x1 x2 (mx x2 y2) + up y0 y1 y2 (mx x2 y2)) % 18446744073709551616) (mx x2 y2) S = up x0 x1 x2 S + up y0 y1 y2 S := by
  rw [up_more (mx_ge x2 y2).1 h3, up_more (mx_ge x2 y2).2 h3]
  show cf _ _ * p10z (S - mx x2 y2) = _
  rw [(packed (sc := 0) h4 h5 (by decide) (by decide)).2.2.2, Int.add_mul]
theorem DecLaws {K : Nat} (hK : 400 ≤ K) {a0 a1 a2 b0 b1 b2 c0 c1 c2 : Int} (ia : I64 a0) (la : Word a1) (ib : I64 b0) (lb : Word b1) (ic : I64 c0) (lc : Word c1) : F.law01_DecLaws K a0 a1 a2 b0 b1 b2 c0 c1 c2 = some true := by
  unfold F.law01_DecLaws
  rw [awake_ok hK, Option.bind_some, if_neg (by decide), dadd_ok hK ia la ib lb, Option.bind_some, dadd_ok hK ib lb ia la, Option.bind_some]
  by_cases h : Fm a0 a1 a2 ∧ Fm b0 b1 b2
  · obtain ⟨d, d'⟩ := h
    have fa := d
    have fb := d'
    unfold Fm at fa fb
    rw [if_pos (And.intro d d'), if_pos (And.intro d' d), mx_comm b2 a2, Int.add_comm (up b0 b1 b2 (mx a2 b2)) (up a0 a1 a2 (mx a2 b2))]
    simp only [Bool.not_true, Bool.false_eq_true, if_false, beq_self_eq_true, Bool.and_self, bne_self_eq_false]
    by_cases g1 : (pack (up a0 a1 a2 (mx a2 b2) + up b0 b1 b2 (mx a2 b2)) (mx a2 b2)).2.2.2 = 0
    · obtain ⟨u0, u1⟩ := pack_ok g1
      have mab := mx_ge a2 b2
      have l18 := mx_le (a := a2) (b := b2) (c := 18) fa.2.1 fb.2.1
      obtain ⟨r0, r1, r2, r3⟩ := packed (sc := mx a2 b2) u0 u1 (by omega) l18
      rw [pack_in u0 u1]
      simp only [bne_self_eq_false, Bool.false_eq_true, if_false]
      have es := dsub_ok hK r0 r1 ib lb (a2 := mx a2 b2) (b2 := b2)
      rw [if_pos (And.intro r2 d'), mx_left mab.2, up_sum (Int.le_refl _) u0 u1] at es
      rw [show up a0 a1 a2 (mx a2 b2) + up b0 b1 b2 (mx a2 b2) - up b0 b1 b2 (mx a2 b2) = up a0 a1 a2 (mx a2 b2) by omega] at es
      have tail : ((F.dec_Add K ((up a0 a1 a2 (mx a2 b2) + up b0 b1 b2 (mx a2 b2)) / 18446744073709551616) ((up a0 a1 a2 (mx a2 b2) + up b0 b1 b2 (mx a2 b2)) % 18446744073709551616) (mx a2 b2) c0 c1 c2).bind fun r5 => ((F.dec_Add K b0 b1 b2 c0 c1 c2).bind fun r6 => (if (r5.snd.snd.snd != 0) = true then
    (some Bool.true)
    else (if (r6.snd.snd.snd != 0) = true then
    (some Bool.true)
    else ((F.dec_Add K a0 a1 a2 r6.fst r6.snd.fst r6.snd.snd.fst).bind fun r7 => (if (r7.snd.snd.snd == 0) = true then
    (some (r7.fst == r5.fst && (r7.snd.fst == r5.snd.fst && (r7.snd.snd.fst == r5.snd.snd.fst && Bool.true))))
    else (some Bool.false)))))) ) = some true := by
        rw [dadd_ok hK r0 r1 ic lc, Option.bind_some, dadd_ok hK ib lb ic lc, Option.bind_some]
        by_cases f : Fm c0 c1 c2
        · have fc := f
          unfold Fm at fc
          rw [if_pos (And.intro r2 f), if_pos (And.intro d' f)]
          rw [up_sum (mx_ge _ _).1 u0 u1]
          by_cases g3 : (pack (up a0 a1 a2 (mx (mx a2 b2) c2) + up b0 b1 b2 (mx (mx a2 b2) c2) + up c0 c1 c2 (mx (mx a2 b2) c2)) (mx (mx a2 b2) c2)).2.2.2 = 0
          · by_cases g4 : (pack (up b0 b1 b2 (mx b2 c2) + up c0 c1 c2 (mx b2 c2)) (mx b2 c2)).2.2.2 = 0
            · obtain ⟨v0, v1⟩ := pack_ok g4
              have lbc := mx_le (a := b2) (b := c2) (c := 18) fb.2.1 fc.2.1
              have mbc := mx_ge b2 c2
              obtain ⟨s0, s1, s2, s3⟩ := packed (sc := mx b2 c2) v0 v1 (by omega) lbc
              rw [pack_in v0 v1]
              simp only
              rw [dadd_ok hK ia la s0 s1, if_pos (And.intro d s2), up_sum (mx_ge _ _).2 v0 v1, ← mx_assoc, ← Int.add_assoc]
              simp [g3]
            · simp [g3, g4]
          · simp [g3]
        · have n1 : ∀ X Y Z : Int, ¬ (Fm X Y Z ∧ Fm c0 c1 c2) := fun X Y Z h => f h.2
          rw [if_neg (n1 _ _ _)]; simp
      rw [es, Option.bind_some]
      by_cases g2 : (pack (up a0 a1 a2 (mx a2 b2)) (mx a2 b2)).2.2.2 = 0
      · obtain ⟨v0, v1⟩ := pack_ok g2
        obtain ⟨s0, s1, s2, s3⟩ := packed (sc := mx a2 b2) v0 v1 (by omega) l18
        rw [pack_in v0 v1]
        simp only [beq_self_eq_true, if_true]
        rw [equal_ok hK s0 s1 ia la s2 d (by
          rw [mx_left mab.1]
          show cf _ _ * p10z (mx a2 b2 - mx a2 b2) = _
          rw [s3, Int.sub_self, p10z_zero, Int.mul_one]), Option.bind_some]
        exact tail
      · rw [if_neg (by simpa using g2)]
        exact tail
    · rw [if_pos (by simpa using g1)]
      unfold pack at g1 ⊢
      split at g1
      · simp at g1
      · rename_i hn; rw [if_neg hn]; rfl
  · have h' : ¬ (Fm b0 b1 b2 ∧ Fm a0 a1 a2) := fun g => h ⟨g.2, g.1⟩
    rw [if_neg h, if_neg h']
    rfl
end Go.Proofs.Ytelnigjdfgdapaa.Wide

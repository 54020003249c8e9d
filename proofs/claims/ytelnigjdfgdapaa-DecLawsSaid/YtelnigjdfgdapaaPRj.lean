/- What the reference answers for package dec: its calls. Conditions: a decimal's parts are int64 and uint64, a scale is an int64. -/
import Derived.Test.YtelnigjdfgdapaaPRi
set_option linter.unusedVariables false
set_option linter.unusedSimpArgs false
namespace Go.Proofs.Ytelnigjdfgdapaa.Wide
open Go Go.RowKit Go.Proofs.Ytelnigjdfgdapaa.Vm
theorem rway_ok (K : Nat) (s m : Int) : F.ref01_way K s m = some (decide (Wy s m)) := by
  unfold F.ref01_way
  by_cases c1 : s ≥ 0
  · by_cases c2 : s ≤ 18
    · by_cases c3 : m ≥ 0
      · by_cases c4 : m ≤ 6
        · rw [decide_eq_true (show Wy s m by unfold Wy; omega)]; simp [c1, c2, c3, c4]
        · rw [decide_eq_false (show ¬ Wy s m by unfold Wy; omega)]; simp [c1, c2, c3, c4]
      · rw [decide_eq_false (show ¬ Wy s m by unfold Wy; omega)]; simp [c1, c2, c3]
    · rw [decide_eq_false (show ¬ Wy s m by unfold Wy; omega)]; simp [c1, c2]
  · rw [decide_eq_false (show ¬ Wy s m by unfold Wy; omega)]; simp [c1]
/-- To round is the same for a greater whole and a greater part. -/
theorem roundS_scale {m : Bool} {A B P mode : Int} (hB : 0 < B) (hP : 0 < P) : roundS m (A * P) (B * P) mode = roundS m A B mode := by
  have e1 : A * P / (B * P) = A / B := Int.mul_ediv_mul_of_pos_left A B hP
  have e2 : A * P % (B * P) = A % B * P := by rw [Int.mul_comm A P, Int.mul_comm B P, Int.mul_emod_mul_of_pos A B hP, Int.mul_comm]
  have e3 : (A % B * P = 0) ↔ (A % B = 0) := by
    constructor
    · intro h
      rcases Int.mul_eq_zero.1 h with h | h
      · exact h
      · omega
    · intro h; rw [h, Int.zero_mul]
  have e4 : cmp3 (A % B * P * 2) (B * P) = cmp3 (A % B * 2) B := by
    rw [show A % B * P * 2 = A % B * 2 * P by rw [Int.mul_assoc, Int.mul_comm P 2, ← Int.mul_assoc]]
    unfold cmp3
    have l1 : (A % B * 2 * P < B * P) ↔ (A % B * 2 < B) := ⟨fun h => Int.lt_of_mul_lt_mul_right h (Int.le_of_lt hP), fun h => Int.mul_lt_mul_of_pos_right h hP⟩
    have l2 : (B * P < A % B * 2 * P) ↔ (B < A % B * 2) := ⟨fun h => Int.lt_of_mul_lt_mul_right h (Int.le_of_lt hP), fun h => Int.mul_lt_mul_of_pos_right h hP⟩
    simp only [l1, l2]
  unfold roundS
  rw [e1, e2, e4]
  by_cases c : A % B = 0
  · rw [if_pos c, if_pos (e3.2 c)]
  · rw [if_neg c, if_neg (fun h => c (e3.1 h))]
theorem roundS_nonneg {m : Bool} {A B mode : Int} (hA : 0 ≤ A) (hB : 0 < B) : 0 ≤ roundS m A B mode ∧ roundS m A B mode ≤ A := by
  unfold roundS
  have q := Int.ediv_nonneg hA (Int.le_of_lt hB)
  have r0 := Int.emod_nonneg A (show B ≠ 0 by omega)
  have r1 := Int.emod_lt_of_pos A hB
  have e := Int.emod_add_mul_ediv A B
  have hq : A / B ≤ B * (A / B) := by
    have := Int.mul_le_mul_of_nonneg_right (show 1 ≤ B by omega) q
    omega
  split
  · omega
  · split <;> omega
theorem rrounded_ok {K : Nat} (hK : 40000 ≤ K) {b : Bool} {A B mode : Int} (a0 : 0 ≤ A) (a1 : A < TOP) (b0 : 0 < B) (b1 : B < TOP) (m0 : 0 ≤ mode) (m1 : mode ≤ 6) : F.ref01_Rounded K b (rl A) (rl B) mode = some (b, rl (roundS b A B mode)) := by
  have lA := len_top a1
  have lA2 := len_top2 a1
  have lB := len_top b1
  have q0 : 0 ≤ A / B := Int.ediv_nonneg a0 (Int.le_of_lt b0)
  have q1 : A / B ≤ A := Int.ediv_le_self B a0
  have r0 : 0 ≤ A % B := Int.emod_nonneg A (by omega)
  have r1 : A % B < B := Int.emod_lt_of_pos A b0
  have eq := rquo_ok hK a0 b0 (by omega) (by omega)
  have ew := word_ok (K := K) (by omega) (x := 1) (by decide)
  have ep := plus_ok (by omega : 2000 ≤ K) (a := A / B) (b := 1) q0 (by decide) (by have := len_top (a := A / B) (by omega); omega) (by have := len_top (a := 1) (by unfold TOP; omega); omega)
  have lr := len_top (a := A % B) (by omega)
  have lr2 : (rl (A % B + A % B)).length ≤ 13 := by rw [← Int.two_mul]; exact len_top2 (by omega)
  have ep2 := plus_ok (by omega : 2000 ≤ K) (a := A % B) (b := A % B) r0 r0 (by omega) (by omega)
  have ec := compare_ok (by omega : 2000 ≤ K) (a := A % B + A % B) (b := B) (by omega) (by omega) (by omega)
  have z1 := rl_len_zero r0
  have z2 := rl_len_zero q0
  unfold F.ref01_Rounded
  rw [eq, Option.bind_some]
  simp only
  unfold roundS
  by_cases c : A % B = 0
  · rw [if_pos (by simpa using z1.2 c), if_pos c, Int.add_zero]
  · rw [if_neg (by simpa using fun h => c (z1.1 h)), if_neg c, ew, Option.bind_some, ep, Option.bind_some, ep2, Option.bind_some, ec, Option.bind_some]
    rw [show A % B * 2 = A % B + A % B by omega]
    have hc : cmp3 (A % B + A % B) B = -1 ∨ cmp3 (A % B + A % B) B = 0 ∨ cmp3 (A % B + A % B) B = 1 := by unfold cmp3; split <;> (try split) <;> simp
    generalize cmp3 (A % B + A % B) B = k at *
    have hmode : mode = 0 ∨ mode = 1 ∨ mode = 2 ∨ mode = 3 ∨ mode = 4 ∨ mode = 5 ∨ mode = 6 := by omega
    have n0 := nth_rl 0 q0
    rw [Int.pow_zero, Int.ediv_one] at n0
    have par : (nth 0 (rl (A / B)) 0).tmod 2 = wd0 (A / B) % 2 := by
      rw [n0, tm _ (by unfold B32; omega)]
      unfold wd0 B32; omega
    by_cases g : A / B = 0
    · have gz : ¬ ((rl (A / B)).length : Int) > 0 := by have := z2.2 g; omega
      have w : wd0 (A / B) % 2 = 0 := by rw [g]; decide
      rw [if_neg (by simpa using gz)]
      unfold moreB
      rw [w]
      rcases hmode with rfl | rfl | rfl | rfl | rfl | rfl | rfl <;> rcases hc with rfl | rfl | rfl <;> cases b <;> simp
    · have gz : ((rl (A / B)).length : Int) > 0 := by
        have : ¬ ((rl (A / B)).length : Int) = 0 := fun h => g (z2.1 h)
        omega
      have gz' : 0 < (rl (A / B)).length := by omega
      rw [if_pos (by simpa using gz), if_pos (by simpa using gz'), par]
      have hpar : wd0 (A / B) % 2 = 0 ∨ wd0 (A / B) % 2 = 1 := by omega
      generalize wd0 (A / B) = w at *
      unfold moreB
      rcases hmode with rfl | rfl | rfl | rfl | rfl | rfl | rfl <;> rcases hc with rfl | rfl | rfl <;> rcases hpar with h | h <;> cases b <;> simp [h]
theorem at_ok {K : Nat} (hK : 40000 ≤ K) {a0 a1 a2 s : Int} (ia : I64 a0) (la : Word a1) (h0 : 0 ≤ s - a2) (h1 : s - a2 ≤ 36) (hs : 0 ≤ a2) (hs1 : a2 ≤ 18) : F.ref01_At K a0 a1 a2 s = some (decide (a0 < 0), rl (siz a0 a1 * p10z (s - a2))) := by
  obtain ⟨x2, x3⟩ := siz_bd ia la
  have p1 := p10z_bd h0 h1
  unfold F.ref01_At
  rw [coef_ok (by omega) ia la, Option.bind_some, iw (x := s - a2) (by omega) (by omega), rten_ok (by omega) h0 h1, Option.bind_some]
  simp only
  rw [product_ok (by omega) x2 (by unfold TOP; omega) (by omega) (by unfold TOP; omega), Option.bind_some]
  simp
theorem docof_ok {K : Nat} (hK : 40000 ≤ K) {n s : Int} (h : I64 n) : F.ref01_DocOf K n s = some (if 0 ≤ s ∧ s ≤ 18 then pack n s else (0, 0, 0, 1)) := by
  unfold F.ref01_DocOf
  by_cases c1 : s < 0
  · rw [if_neg (show ¬ (0 ≤ s ∧ s ≤ 18) by omega)]; simp [c1]
  by_cases c2 : s > 18
  · rw [if_neg (show ¬ (0 ≤ s ∧ s ≤ 18) by omega)]; simp [c1, c2]
  · have h' := h
    unfold I64 at h'
    have e0 : 0 ≤ (if n < 0 then -n else n) ∧ (if n < 0 then -n else n) < TOP := by unfold TOP; split <;> omega
    rw [if_neg (by simpa using c1), if_neg (by simpa using c2), if_pos (by omega), made_ok (by omega) h, Option.bind_some]
    simp only
    rw [rdec_ok hK e0.1 e0.2, Option.bind_some, togD_pack e0.1]
    have : sgB (decide (n < 0)) (if n < 0 then -n else n) = n := by
      unfold sgB
      by_cases c : n < 0 <;> simp [c]
    rw [this]
theorem docint_ok {K : Nat} (hK : 40000 ≤ K) {a0 a1 a2 : Int} (ia : I64 a0) (la : Word a1) :
    F.ref01_DocInt K a0 a1 a2 = some (if Fm a0 a1 a2 then (if siz a0 a1 % p10z a2 = 0 ∧ I64 (sgB (decide (a0 < 0)) (siz a0 a1 / p10z a2)) then (sgB (decide (a0 < 0)) (siz a0 a1 / p10z a2), 0) else (0, 4)) else (0, 3)) := by
  unfold F.ref01_DocInt
  rw [form_ok, Option.bind_some]
  by_cases d : Fm a0 a1 a2
  · obtain ⟨x0, x1, x2, x3⟩ := fm_bd d ia la
    have fa := d
    unfold Fm at fa
    have p := p10z_bd (k := a2) (by omega) (by omega)
    have q0 : 0 ≤ siz a0 a1 / p10z a2 := Int.ediv_nonneg x2 (by omega)
    have q1 : siz a0 a1 / p10z a2 ≤ siz a0 a1 := Int.ediv_le_self _ x2
    have r0 : 0 ≤ siz a0 a1 % p10z a2 := Int.emod_nonneg _ (by omega)
    have lA2 := len_top2 (a := siz a0 a1) (by unfold TOP; omega)
    have lB := len_top (a := p10z a2) (by unfold TOP; omega)
    have z := rl_len_zero r0
    rw [if_neg (by simp [d]), if_pos d, coef_ok (by omega) ia la, Option.bind_some, rten_ok (by omega) (by omega) (by omega), Option.bind_some]
    simp only
    rw [rquo_ok hK x2 (by omega) (by omega) (by omega), Option.bind_some]
    simp only
    rw [small_ok (by omega) q0 (by unfold TOP; omega), Option.bind_some]
    by_cases g : siz a0 a1 % p10z a2 = 0
    · have hl : ¬ ((rl (siz a0 a1 % p10z a2)).length : Int) > 0 := by have := z.2 g; omega
      rw [if_neg (by simpa using hl)]
      by_cases r : I64 (sgB (decide (a0 < 0)) (siz a0 a1 / p10z a2))
      · simp [g, r]
      · simp [g, r]
    · have hl : ((rl (siz a0 a1 % p10z a2)).length : Int) > 0 := by
        have : ¬ ((rl (siz a0 a1 % p10z a2)).length : Int) = 0 := fun h => g (z.1 h)
        omega
      rw [if_pos (by simpa using hl)]
      simp [g]
  · simp [d]
theorem docsign_ok {K : Nat} (hK : 40000 ≤ K) {a0 a1 a2 : Int} (ia : I64 a0) (la : Word a1) : F.ref01_DocSign K a0 a1 a2 = some (if Fm a0 a1 a2 then (cmp3 (cf a0 a1) 0, 0) else (0, 3)) := by
  unfold F.ref01_DocSign
  rw [form_ok, Option.bind_some]
  by_cases d : Fm a0 a1 a2
  · obtain ⟨x0, x1, x2, x3⟩ := fm_bd d ia la
    have e := sgB_siz a0 a1 1
    rw [Int.mul_one, Int.mul_one] at e
    rw [if_neg (by simp [d]), if_pos d, coef_ok (by omega) ia la, Option.bind_some]
    simp only
    rw [rsign_ok K x2, Option.bind_some, e]
  · simp [d]
theorem docneg_ok {K : Nat} (hK : 40000 ≤ K) {a0 a1 a2 : Int} (ia : I64 a0) (la : Word a1) : F.ref01_DocNeg K a0 a1 a2 = some (if Fm a0 a1 a2 then pack (-(cf a0 a1)) a2 else (0, 0, 0, 3)) := by
  unfold F.ref01_DocNeg F.ref01_Opposite
  rw [form_ok, Option.bind_some]
  by_cases d : Fm a0 a1 a2
  · obtain ⟨x0, x1, x2, x3⟩ := fm_bd d ia la
    rw [if_neg (by simp [d]), if_pos d, coef_ok (by omega) ia la, Option.bind_some, Option.bind_some]
    simp only
    rw [rdec_ok hK x2 (by unfold TOP; omega), Option.bind_some, togD_pack x2, sgB_neg]
  · simp [d]
theorem mul_bd {a b A B : Int} (h0 : 0 ≤ a) (h1 : a ≤ A) (h2 : 0 ≤ b) (h3 : b ≤ B) : 0 ≤ a * b ∧ a * b ≤ A * B := ⟨Int.mul_nonneg h0 h2, Int.mul_le_mul h1 h3 h2 (by omega)⟩
theorem doccmp_ok {K : Nat} (hK : 40000 ≤ K) {a0 a1 a2 b0 b1 b2 : Int} (ia : I64 a0) (la : Word a1) (ib : I64 b0) (lb : Word b1) :
    F.ref01_DocCmp K a0 a1 a2 b0 b1 b2 = some (if Fm a0 a1 a2 ∧ Fm b0 b1 b2 then (cmp3 (up a0 a1 a2 (mx a2 b2)) (up b0 b1 b2 (mx a2 b2)), 0) else (0, 3)) := by
  unfold F.ref01_DocCmp
  rw [form_ok, Option.bind_some, form_ok, Option.bind_some]
  by_cases d : Fm a0 a1 a2
  · by_cases d' : Fm b0 b1 b2
    · obtain ⟨x0, x1, x2, x3⟩ := fm_bd d ia la
      obtain ⟨y0, y1, y2, y3⟩ := fm_bd d' ib lb
      have fa := d
      have fb := d'
      unfold Fm at fa fb
      have hs : a2 ≤ mx a2 b2 ∧ b2 ≤ mx a2 b2 ∧ mx a2 b2 ≤ 18 := by unfold mx; split <;> omega
      rw [show (if b2 > a2 then b2 else a2) = mx a2 b2 from rfl]
      generalize mx a2 b2 = s at *
      have p1 := p10z_bd (k := s - a2) (by omega) (by omega)
      have p2 := p10z_bd (k := s - b2) (by omega) (by omega)
      have m1 := mul_bd x2 (Int.le_of_lt x3) (by omega : 0 ≤ p10z (s - a2)) p1.2
      have m2 := mul_bd y2 (Int.le_of_lt y3) (by omega : 0 ≤ p10z (s - b2)) p2.2
      rw [if_neg (by simp [d]), if_neg (by simp [d']), if_pos ⟨d, d'⟩, at_ok hK ia la (by omega) (by omega) (by omega) (by omega), Option.bind_some, at_ok hK ib lb (by omega) (by omega) (by omega) (by omega), Option.bind_some]
      simp only
      rw [order_ok (by omega) m1.1 (by unfold TOP; omega) m2.1 (by unfold TOP; omega), Option.bind_some, sgB_siz, sgB_siz]
      rfl
    · simp [d, d']
  · simp [d]
theorem docadd_ok {K : Nat} (hK : 40000 ≤ K) {a0 a1 a2 b0 b1 b2 : Int} {sub : Bool} (ia : I64 a0) (la : Word a1) (ib : I64 b0) (lb : Word b1) :
    F.ref01_DocAdd K a0 a1 a2 b0 b1 b2 sub = some (if Fm a0 a1 a2 ∧ Fm b0 b1 b2 then pack (up a0 a1 a2 (mx a2 b2) + (if sub = true then -(up b0 b1 b2 (mx a2 b2)) else up b0 b1 b2 (mx a2 b2))) (mx a2 b2) else (0, 0, 0, 3)) := by
  unfold F.ref01_DocAdd
  rw [form_ok, Option.bind_some, form_ok, Option.bind_some]
  by_cases d : Fm a0 a1 a2
  · by_cases d' : Fm b0 b1 b2
    · obtain ⟨x0, x1, x2, x3⟩ := fm_bd d ia la
      obtain ⟨y0, y1, y2, y3⟩ := fm_bd d' ib lb
      have fa := d
      have fb := d'
      unfold Fm at fa fb
      have hs : a2 ≤ mx a2 b2 ∧ b2 ≤ mx a2 b2 ∧ mx a2 b2 ≤ 18 := by unfold mx; split <;> omega
      rw [show (if b2 > a2 then b2 else a2) = mx a2 b2 from rfl]
      generalize mx a2 b2 = s at *
      have p1 := p10z_bd (k := s - a2) (by omega) (by omega)
      have p2 := p10z_bd (k := s - b2) (by omega) (by omega)
      have m1 := mul_bd x2 (Int.le_of_lt x3) (by omega : 0 ≤ p10z (s - a2)) p1.2
      have m2 := mul_bd y2 (Int.le_of_lt y3) (by omega : 0 ≤ p10z (s - b2)) p2.2
      have eA := at_ok hK ia la (s := s) (a2 := a2) (by omega) (by omega) (by omega) (by omega)
      have eB := at_ok hK ib lb (s := s) (a2 := b2) (by omega) (by omega) (by omega) (by omega)
      rw [if_neg (by simp [d]), if_neg (by simp [d']), if_pos ⟨d, d'⟩, eB, Option.bind_some]
      unfold F.ref01_Opposite
      have hS : ∀ e : Bool, F.ref01_Sum K (decide (a0 < 0)) (rl (siz a0 a1 * p10z (s - a2))) e (rl (siz b0 b1 * p10z (s - b2))) = _ := fun e => sum_ok (by omega) m1.1 (by unfold TOP; omega) m2.1 (by unfold TOP; omega)
      have hV := fun e : Bool => sumS_val (b := decide (a0 < 0)) (d := e) m1.1 m2.1
      have hD : ∀ e : Bool, F.ref01_Dec K (sumS (decide (a0 < 0)) e (siz a0 a1 * p10z (s - a2)) (siz b0 b1 * p10z (s - b2))).1 (rl (sumS (decide (a0 < 0)) e (siz a0 a1 * p10z (s - a2)) (siz b0 b1 * p10z (s - b2))).2) s = some (pack (up a0 a1 a2 s + sgB e (siz b0 b1 * p10z (s - b2))) s) := fun e => by
        obtain ⟨v0, v1, v2⟩ := hV e
        rw [rdec_ok hK v0 (by unfold TOP; omega), togD_pack v0, v2, sgB_siz]; rfl
      cases sub with
      | true =>
        simp only [if_true, Option.bind_some, eA, hS, hD]
        rw [show sgB (!decide (b0 < 0)) (siz b0 b1 * p10z (s - b2)) = -(sgB (decide (b0 < 0)) (siz b0 b1 * p10z (s - b2))) by unfold sgB; cases decide (b0 < 0) <;> simp, sgB_siz]
        rfl
      | false =>
        simp only [Bool.false_eq_true, if_false, Option.bind_some, eA, hS, hD]
        rw [sgB_siz]
        rfl
    · simp [d, d']
  · simp [d]
theorem docrescale_ok {K : Nat} (hK : 40000 ≤ K) {a0 a1 a2 s m : Int} (ia : I64 a0) (la : Word a1) :
    F.ref01_DocRescale K a0 a1 a2 s m = some (if Wy s m then (if Fm a0 a1 a2 then togD (decide (a0 < 0)) (scaledS (decide (a0 < 0)) (siz a0 a1) a2 s m) s else (0, 0, 0, 3)) else (0, 0, 0, 1)) := by
  unfold F.ref01_DocRescale
  rw [rway_ok, Option.bind_some, form_ok, Option.bind_some]
  by_cases c : Wy s m
  · by_cases d : Fm a0 a1 a2
    · obtain ⟨x0, x1, x2, x3⟩ := fm_bd d ia la
      have fa := d
      have fw := c
      unfold Fm at fa
      unfold Wy at fw
      have p1 := p10z_bd (k := s) (by omega) (by omega)
      have p2 := p10z_bd (k := a2) (by omega) (by omega)
      have m1 := mul_bd x2 (Int.le_of_lt x3) (by omega : 0 ≤ p10z s) p1.2
      rw [if_neg (by simp [c]), if_neg (by simp [d]), if_pos c, if_pos d, coef_ok (by omega) ia la, Option.bind_some, rten_ok (by omega) (by omega) (by omega), Option.bind_some]
      simp only
      rw [product_ok (by omega) x2 (by unfold TOP; omega) (by omega) (by unfold TOP; omega), Option.bind_some, rten_ok (by omega) (by omega) (by omega), Option.bind_some]
      simp only
      rw [rrounded_ok hK m1.1 (by unfold TOP; omega) (by omega) (by unfold TOP; omega) (by omega) (by omega), Option.bind_some]
      have rn := roundS_nonneg (m := !decide (a0 < 0) == false) (mode := m) m1.1 (show 0 < p10z a2 by omega)
      simp only
      rw [rdec_ok hK rn.1 (by unfold TOP; omega), Option.bind_some]
      have e0 : (!decide (a0 < 0) == false) = decide (a0 < 0) := by simp
      rw [e0]
      have e1 : roundS (decide (a0 < 0)) (siz a0 a1 * p10z s) (p10z a2) m = scaledS (decide (a0 < 0)) (siz a0 a1) a2 s m := by
        unfold scaledS
        by_cases g : a2 ≤ s
        · rw [if_pos g, ← roundS_scale (A := siz a0 a1 * p10z (s - a2)) (B := 1) (P := p10z a2) (by decide) (by omega), Int.mul_assoc, ← p10z_add (by omega) (by omega), Int.one_mul, Int.sub_add_cancel]
        · rw [if_neg g, ← roundS_scale (A := siz a0 a1) (B := p10z (a2 - s)) (P := p10z s) (by have := p10z_bd (k := a2 - s) (by omega) (by omega); omega) (by omega), ← p10z_add (by omega) (by omega), Int.sub_add_cancel]
      rw [e1]
    · simp [c, d]
  · simp [c]
theorem docmul_ok {K : Nat} (hK : 40000 ≤ K) {a0 a1 a2 b0 b1 b2 s m : Int} (ia : I64 a0) (la : Word a1) (ib : I64 b0) (lb : Word b1) :
    F.ref01_DocMul K a0 a1 a2 b0 b1 b2 s m = some (if Wy s m then (if Fm a0 a1 a2 ∧ Fm b0 b1 b2 then togD (!decide (a0 < 0) == decide (b0 < 0)) (scaledS (!decide (a0 < 0) == decide (b0 < 0)) (siz a0 a1 * siz b0 b1) (a2 + b2) s m) s else (0, 0, 0, 3)) else (0, 0, 0, 1)) := by
  unfold F.ref01_DocMul
  rw [rway_ok, Option.bind_some, form_ok, Option.bind_some, form_ok, Option.bind_some]
  by_cases c : Wy s m
  · by_cases d : Fm a0 a1 a2
    · by_cases d' : Fm b0 b1 b2
      · obtain ⟨x0, x1, x2, x3⟩ := fm_bd d ia la
        obtain ⟨y0, y1, y2, y3⟩ := fm_bd d' ib lb
        have fa := d
        have fb := d'
        have fw := c
        unfold Fm at fa fb
        unfold Wy at fw
        have p1 := p10z_bd (k := s) (by omega) (by omega)
        have p1' : p10z s ≤ 1000000000000000000 := by
          have := p10z_bd (k := s) (by omega) (by omega)
          unfold p10z
          have b : (10 : Int) ^ s.toNat ≤ 10 ^ 18 := by exact_mod_cast Nat.pow_le_pow_right (n := 10) (by decide) (show s.toNat ≤ 18 by omega)
          rw [show (10 : Int) ^ 18 = 1000000000000000000 from by decide] at b
          exact b
        have p2 := p10z_bd (k := a2 + b2) (by omega) (by omega)
        have m0 := mul_bd x2 (Int.le_of_lt x3) y2 (Int.le_of_lt y3)
        have m1 := mul_bd m0.1 m0.2 (by omega : 0 ≤ p10z s) p1'
        rw [if_neg (by simp [c]), if_neg (by simp [d]), if_neg (by simp [d']), if_pos c, if_pos ⟨d, d'⟩, coef_ok (by omega) ia la, Option.bind_some, coef_ok (by omega) ib lb, Option.bind_some]
        simp only
        rw [product_ok (by omega) x2 (by unfold TOP; omega) y2 (by unfold TOP; omega), Option.bind_some, rten_ok (by omega) (by omega) (by omega), Option.bind_some]
        simp only
        rw [product_ok (by omega) m0.1 (by unfold TOP; omega) (by omega) (by unfold TOP; omega), Option.bind_some, iw (x := a2 + b2) (by omega) (by omega), rten_ok (by omega) (by omega) (by omega), Option.bind_some]
        simp only
        rw [rrounded_ok hK m1.1 (by unfold TOP; omega) (by omega) (by unfold TOP; omega) (by omega) (by omega), Option.bind_some]
        have rn := roundS_nonneg (m := !(!decide (a0 < 0) == decide (b0 < 0)) == false) (mode := m) m1.1 (show 0 < p10z (a2 + b2) by omega)
        simp only
        rw [rdec_ok hK rn.1 (by unfold TOP; omega), Option.bind_some]
        have e0 : (!(!decide (a0 < 0) == decide (b0 < 0)) == false) = (!decide (a0 < 0) == decide (b0 < 0)) := by cases decide (a0 < 0) <;> cases decide (b0 < 0) <;> rfl
        rw [e0]
        generalize (!decide (a0 < 0) == decide (b0 < 0)) = w
        have e1 : roundS w (siz a0 a1 * siz b0 b1 * p10z s) (p10z (a2 + b2)) m = scaledS w (siz a0 a1 * siz b0 b1) (a2 + b2) s m := by
          unfold scaledS
          by_cases g : a2 + b2 ≤ s
          · rw [if_pos g, ← roundS_scale (A := siz a0 a1 * siz b0 b1 * p10z (s - (a2 + b2))) (B := 1) (P := p10z (a2 + b2)) (by decide) (by omega), Int.mul_assoc (siz a0 a1 * siz b0 b1), ← p10z_add (by omega) (by omega), Int.one_mul, Int.sub_add_cancel]
          · rw [if_neg g, ← roundS_scale (A := siz a0 a1 * siz b0 b1) (B := p10z (a2 + b2 - s)) (P := p10z s) (by have := p10z_bd (k := a2 + b2 - s) (by omega) (by omega); omega) (by omega), ← p10z_add (by omega) (by omega), Int.sub_add_cancel]
        rw [e1]
      · simp [c, d, d']
    · simp [c, d]
  · simp [c]
theorem docquo_ok {K : Nat} (hK : 40000 ≤ K) {a0 a1 a2 b0 b1 b2 s m : Int} (ia : I64 a0) (la : Word a1) (ib : I64 b0) (lb : Word b1) :
    F.ref01_DocQuo K a0 a1 a2 b0 b1 b2 s m = some (if Wy s m then (if Fm a0 a1 a2 ∧ Fm b0 b1 b2 then (if siz b0 b1 = 0 then (0, 0, 0, 5) else if b2 + s - a2 ≥ 0 then togD (!decide (a0 < 0) == decide (b0 < 0)) (roundS (!decide (a0 < 0) == decide (b0 < 0)) (siz a0 a1 * p10z (b2 + s - a2)) (siz b0 b1) m) s
      else togD (!decide (a0 < 0) == decide (b0 < 0)) (roundS (!decide (a0 < 0) == decide (b0 < 0)) (siz a0 a1) (siz b0 b1 * p10z (0 - (b2 + s - a2))) m) s) else (0, 0, 0, 3)) else (0, 0, 0, 1)) := by
  unfold F.ref01_DocQuo
  rw [rway_ok, Option.bind_some, form_ok, Option.bind_some, form_ok, Option.bind_some]
  by_cases c : Wy s m
  · by_cases d : Fm a0 a1 a2
    · by_cases d' : Fm b0 b1 b2
      · obtain ⟨x0, x1, x2, x3⟩ := fm_bd d ia la
        obtain ⟨y0, y1, y2, y3⟩ := fm_bd d' ib lb
        have fa := d
        have fb := d'
        have fw := c
        unfold Fm at fa fb
        unfold Wy at fw
        have e := sgB_siz b0 b1 1
        rw [Int.mul_one, Int.mul_one] at e
        rw [if_neg (by simp [c]), if_neg (by simp [d]), if_neg (by simp [d']), if_pos c, if_pos ⟨d, d'⟩, coef_ok (by omega) ia la, Option.bind_some, coef_ok (by omega) ib lb, Option.bind_some]
        simp only
        rw [rsign_ok K y2, Option.bind_some]
        by_cases z : siz b0 b1 = 0
        · rw [if_pos z, z]
          have : cmp3 (sgB (decide (b0 < 0)) 0) 0 = 0 := by unfold sgB; cases decide (b0 < 0) <;> rfl
          rw [this]; simp
        · have hc : ¬ cmp3 (sgB (decide (b0 < 0)) (siz b0 b1)) 0 = 0 := by
            unfold cmp3 sgB
            cases decide (b0 < 0)
            · simp; rw [if_neg (by omega), if_pos (by omega)]; omega
            · simp; omega
          rw [if_neg z, if_neg (by simpa using hc), iw (x := b2 + s) (by omega) (by omega)]
          have p1 := p10z_bd (k := b2 + s) (by omega) (by omega)
          have p2 := p10z_bd (k := a2) (by omega) (by omega)
          have m1 := mul_bd x2 (Int.le_of_lt x3) (by omega : 0 ≤ p10z (b2 + s)) p1.2
          have m2 := mul_bd y2 (Int.le_of_lt y3) (by omega : 0 ≤ p10z a2) p2.2
          have m3 : 0 < siz b0 b1 * p10z a2 := Int.mul_pos (by omega) (by omega)
          have lB := len_top (a := siz b0 b1) (by unfold TOP; omega)
          have lP := len_top (a := p10z a2) (by unfold TOP; omega)
          rw [rten_ok (by omega) (by omega) (by omega), Option.bind_some]
          rw [product_ok (by omega) x2 (by unfold TOP; omega) (by omega) (by unfold TOP; omega), Option.bind_some, rten_ok (by omega) (by omega) (by omega), Option.bind_some]
          simp only
          rw [times_ok (by omega) y2 (by omega) (by omega) (by omega), Option.bind_some]
          rw [rrounded_ok hK m1.1 (by unfold TOP; omega) m3 (by unfold TOP; omega) (by omega) (by omega), Option.bind_some]
          generalize (!decide (a0 < 0) == decide (b0 < 0)) = w
          have rn := roundS_nonneg (m := w) (mode := m) m1.1 m3
          simp only
          rw [rdec_ok hK rn.1 (by unfold TOP; omega), Option.bind_some]
          by_cases g : b2 + s - a2 ≥ 0
          · rw [if_pos g]
            have e1 : roundS w (siz a0 a1 * p10z (b2 + s)) (siz b0 b1 * p10z a2) m = roundS w (siz a0 a1 * p10z (b2 + s - a2)) (siz b0 b1) m := by
              rw [← roundS_scale (A := siz a0 a1 * p10z (b2 + s - a2)) (B := siz b0 b1) (P := p10z a2) (by omega) (by omega), Int.mul_assoc, ← p10z_add (by omega) (by omega), Int.sub_add_cancel]
            rw [e1]
          · rw [if_neg g]
            have e1 : roundS w (siz a0 a1 * p10z (b2 + s)) (siz b0 b1 * p10z a2) m = roundS w (siz a0 a1) (siz b0 b1 * p10z (0 - (b2 + s - a2))) m := by
              have hp := p10z_bd (k := 0 - (b2 + s - a2)) (by omega) (by omega)
              rw [← roundS_scale (A := siz a0 a1) (B := siz b0 b1 * p10z (0 - (b2 + s - a2))) (P := p10z (b2 + s)) (Int.mul_pos (by omega) (by omega)) (by omega), Int.mul_assoc (siz b0 b1), ← p10z_add (by omega) (by omega)]
              congr 3
              omega
            rw [e1]
      · simp [c, d, d']
    · simp [c, d]
  · simp [c]
end Go.Proofs.Ytelnigjdfgdapaa.Wide

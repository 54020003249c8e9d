/- The laws of accrue that need no calendar: payments and fees, parts, growth, nothing lost. Conditions: those named in each. -/
import Derived.Test.YtppdgohcgklinaaPAb
import Derived.Test.YtppdgohcgklinaaVmZ
set_option linter.unusedVariables false
set_option linter.unusedSimpArgs false
namespace Go.Proofs.Ytppdgohcgklinaa.Wide
open Go Go.RowKit Go.Proofs.Ytppdgohcgklinaa.Vm
def payR (a b : Int) : Int × Int × Int := if a < 0 ∨ 4000000000000000000 < a ∨ b < 0 ∨ 20000000000000 < b then (0, 0, 1) else (if b < a / 1000000 then b else a / 1000000, a % 1000000, 0)
theorem pay_ok (K : Nat) (a b : Int) : F.accrue_Pay K a b = some (payR a b) := by
  unfold F.accrue_Pay payR
  simp only [bi_eq, decide_eq_true_eq]
  by_cases c1 : a < 0
  · simp [c1]
  by_cases c2 : a > 4000000000000000000
  · simp [c1, c2, show (4000000000000000000 : Int) < a from c2]
  by_cases c3 : b < 0
  · simp [c1, c2, c3]
  by_cases c4 : b > 20000000000000
  · simp [c1, c2, c3, c4, show (20000000000000 : Int) < b from c4]
  rw [if_neg c1, if_neg c2, if_neg c3, if_neg c4, if_neg (show ¬ (a < 0 ∨ 4000000000000000000 < a ∨ b < 0 ∨ 20000000000000 < b) by omega), Int.tdiv_eq_ediv_of_nonneg (by omega), iw (by omega) (by omega), tm _ (by omega)]
theorem docpay_ok (K : Nat) (a b : Int) : F.ref14_DocPay K a b = some (payR a b) := by
  unfold F.ref14_DocPay payR
  simp only [bi_eq, decide_eq_true_eq]
  by_cases c1 : a < 0
  · simp [c1]
  by_cases c2 : a > 4000000000000000000
  · simp [c1, c2, show (4000000000000000000 : Int) < a from c2]
  by_cases c3 : b < 0
  · simp [c1, c2, c3]
  by_cases c4 : b > 20000000000000
  · simp [c1, c2, c3, c4, show (20000000000000 : Int) < b from c4]
  rw [if_neg c1, if_neg c2, if_neg c3, if_neg c4, if_neg (show ¬ (a < 0 ∨ 4000000000000000000 < a ∨ b < 0 ∨ 20000000000000 < b) by omega), Int.tdiv_eq_ediv_of_nonneg (by omega), iw (x := a / 1000000) (by omega) (by omega), iw (x := 1000000 * (a / 1000000)) (by omega) (by omega), iw (by omega) (by omega)]
  rw [show a - 1000000 * (a / 1000000) = a % 1000000 by omega]
  by_cases c : a / 1000000 > b
  · rw [if_pos c, if_pos (show b < a / 1000000 by omega)]
  · rw [if_neg c, if_neg (show ¬ b < a / 1000000 by omega)]
def feeR (a b c : Int) : Int × Int := if a < 0 ∨ 10000000000000 < a ∨ b < 0 ∨ 20000000000000 < b ∨ c < 0 ∨ 10000000000000 < c then (0, 1) else (if a - b < 0 then 0 else if a - b < c then a - b else c, 0)
theorem fee_ok (K : Nat) (a b c : Int) : F.accrue_Fee K a b c = some (feeR a b c) := by
  unfold F.accrue_Fee feeR
  simp only [bi_eq, amount_ok, Option.bind_some, decide_eq_true_eq]
  by_cases c1 : 0 ≤ a ∧ a ≤ 10000000000000
  · by_cases c3 : b < 0
    · simp [c1, c3]
    by_cases c4 : b > 20000000000000
    · simp [c1, c3, c4, show (20000000000000 : Int) < b from c4]
    by_cases c5 : 0 ≤ c ∧ c ≤ 10000000000000
    · rw [if_neg (by simp; omega), if_neg c3, if_neg c4, if_neg (by simp; omega), if_neg (show ¬ (a < 0 ∨ 10000000000000 < a ∨ b < 0 ∨ 20000000000000 < b ∨ c < 0 ∨ 10000000000000 < c) by omega), iw (by omega) (by omega)]
      congr 2
      by_cases h : a - b < c
      · simp only [if_pos h]
      · simp only [if_neg h]; rw [if_neg (show ¬ 0 > c by omega), if_neg (show ¬ a - b < 0 by omega)]
    · rw [if_neg (by simp; omega), if_neg c3, if_neg c4, if_pos (by simp; omega), if_pos (by omega)]
  · rw [if_pos (by simp; omega), if_pos (by omega)]
theorem docfee_ok (K : Nat) (a b c : Int) : F.ref14_DocFee K a b c = some (feeR a b c) := by
  have am : ∀ n : Int, F.ref14_amount K n = some (decide (0 ≤ n ∧ n ≤ 10000000000000)) := amount_ok K
  unfold F.ref14_DocFee feeR
  simp only [bi_eq, am, Option.bind_some, decide_eq_true_eq]
  by_cases c1 : 0 ≤ a ∧ a ≤ 10000000000000
  · by_cases c3 : b < 0
    · simp [c1, c3]
    by_cases c4 : b > 20000000000000
    · simp [c1, c3, c4, show (20000000000000 : Int) < b from c4]
    by_cases c5 : 0 ≤ c ∧ c ≤ 10000000000000
    · rw [if_neg (by simp; omega), if_neg c3, if_neg c4, if_neg (by simp; omega), if_neg (show ¬ (a < 0 ∨ 10000000000000 < a ∨ b < 0 ∨ 20000000000000 < b ∨ c < 0 ∨ 10000000000000 < c) by omega), iw (by omega) (by omega)]
      by_cases h : a - b > c
      · rw [if_pos h, if_neg (show ¬ c < 0 by omega), if_neg (show ¬ a - b < 0 by omega), if_neg (show ¬ a - b < c by omega)]
      · rw [if_neg h]; by_cases g : a - b < 0
        · rw [if_pos g, if_pos g]
        · rw [if_neg g, if_neg g]; by_cases e : a - b < c
          · rw [if_pos e]
          · rw [if_neg e, show a - b = c by omega]
    · rw [if_neg (by simp; omega), if_neg c3, if_neg c4, if_pos (by simp; omega), if_pos (by omega)]
  · rw [if_pos (by simp; omega), if_pos (by omega)]
theorem AccruePays {K : Nat} (hK : 400 ≤ K) {a b c d e : Int} : F.law14_AccruePays K a b c d e = some true := by
  unfold F.law14_AccruePays
  simp only [pay_ok, docpay_ok, fee_ok, docfee_ok, aawake_ok hK, Option.bind_some, bi_eq, beq_self_eq_true, if_true]
/-- Sums of the parts. -/
def psum (l : List Int) : Nat → Int
  | 0 => 0
  | i + 1 => psum l i + nth 0 l i
theorem psum_bd {l : List Int} {n : Nat} (h : ∀ j, j < n → 0 ≤ nth 0 l j ∧ nth 0 l j ≤ 10000000000000) : ∀ i, i ≤ n → 0 ≤ psum l i ∧ psum l i ≤ 10000000000000 * i
  | 0, _ => by simp [psum]
  | i + 1, hi => by
    have ih := psum_bd h i (by omega)
    have t := h i (by omega)
    simp only [psum]; omega
theorem psum_ptl {q : List (List Int)} (h : Tok q) {b : Int} (b0 : 0 ≤ b) : ∀ i, i ≤ q.length → psum (ptl q b) i = if i < q.length ∧ fr q i < b then fr q i else b
  | 0, _ => by
    have := h.1; have z := h.2.2.1
    simp only [psum]
    split <;> omega
  | i + 1, hi => by
    have ih := psum_ptl h b0 i (by omega)
    simp only [psum]
    rw [ih, ptl, nth_map_range _ _ _ (by omega)]
    unfold pt
    by_cases c : fr q i < b
    · rw [if_pos (show i < q.length ∧ fr q i < b from ⟨by omega, c⟩), if_neg (show ¬ b ≤ fr q i by omega)]
      by_cases c2 : i + 1 < q.length ∧ fr q (i + 1) < b
      · rw [if_pos c2, if_pos c2]; omega
      · rw [if_neg c2, if_neg c2]; omega
    · rw [if_neg (show ¬ (i < q.length ∧ fr q i < b) from fun x => c x.2), if_pos (show b ≤ fr q i by omega)]
      have n2 : ¬ (i + 1 < q.length ∧ fr q (i + 1) < b) := fun ⟨h1, h2⟩ => by
        have := tok_mono h 1 i h1; omega
      rw [if_neg n2]; omega
theorem parts_loop {K : Nat} {l : List Int} {b : Int} {q : List (List Int)} (l5 : List Int) (hl : l.length ≤ 1000) (h : ∀ j, j < l.length → 0 ≤ nth 0 l j ∧ nth 0 l j ≤ 10000000000000) : ∀ (k i : Nat), i ≤ l.length → l.length - i < k →
    F.law14_AccrueParts_l8 K k b q l5 (psum l i) l (l.length : Int) (i : Int) = some (.inl (b, q, l5, psum l l.length))
  | 0, i, _, hk => by omega
  | k + 1, i, hi, hk => by
    rw [F.law14_AccrueParts_l8, bi_eq]
    by_cases c : i < l.length
    · have t := h i c
      have s := psum_bd h i hi
      have ih := parts_loop (K := K) (b := b) (q := q) l5 hl h k (i + 1) (by omega) (by omega)
      rw [if_pos (by simp; omega)]
      simp only [bi_eq, Int.toNat_natCast]
      rw [if_pos (by simp; omega), if_neg (by simp; omega)]
      rw [show IntKind.i64.wrap ((i : Int) + 1) = ((i + 1 : Nat) : Int) by rw [iw (by omega) (by omega)]; omega]
      rw [show IntKind.i64.wrap (psum l i + nth 0 l i) = psum l (i + 1) by rw [iw (by omega) (by omega)]; rfl]
      exact ih
    · have e : i = l.length := by omega
      rw [if_neg (by simp; omega), e]
instance (q : List (List Int)) : Decidable (Tok q) := by unfold Tok; infer_instance
theorem Parts_ok {K : Nat} (hK : 400 ≤ K) {q : List (List Int)} {b : Int} : F.accrue_Parts K b q = some (if 0 ≤ b ∧ b ≤ 10000000000000 then (if Tok q then (ptl q b, 0) else ([], if 8 < q.length then 2 else 3)) else ([], 1)) := by
  unfold F.accrue_Parts
  rw [amount_ok, Option.bind_some, bi_eq]
  by_cases c : 0 ≤ b ∧ b ≤ 10000000000000
  · rw [if_neg (by simp; omega), if_pos c]
    by_cases t : Tok q
    · rw [tiers_ok K (by omega) q t, Option.bind_some, bi_eq, if_neg (by decide), aparts_ok (by omega) t c.1 c.2, Option.bind_some, if_pos t]
    · rw [tiers_bad K (by omega) q t, Option.bind_some, bi_eq, if_neg t]
      rw [if_pos (by split <;> decide)]
  · rw [if_pos (by simp; omega), if_neg c]
theorem AccrueParts {K : Nat} (hK : 400 ≤ K) {b : Int} {q : List (List Int)} (hq : q.length ≤ 8796093022208) : F.law14_AccrueParts K b q = some true := by
  unfold F.law14_AccrueParts
  simp only [bi_eq, aawake_ok hK, Option.bind_some, List.nil_append]
  rw [if_neg (by decide), if_pos (by simp; omega), Parts_ok hK, Option.bind_some]
  by_cases c : 0 ≤ b ∧ b ≤ 10000000000000
  · rw [if_pos c]
    by_cases t : Tok q
    · rw [if_pos t]
      have hll : (ptl q b).length = q.length := by simp [ptl]
      have lo := parts_loop (K := K) (l := ptl q b) (b := b) (q := q) (ptl q b) (by have := t.2.1; omega) (fun j hj => ptl_nth t c.1 c.2 j (by omega)) K 0 (by omega) (by have := t.2.1; omega)
      have lo' : F.law14_AccrueParts_l8 K K b q (ptl q b) 0 (ptl q b) ((ptl q b).length : Int) 0 = some (.inl (b, q, ptl q b, psum (ptl q b) (ptl q b).length)) := lo
      simp only
      rw [if_neg (by decide), lo']
      have ps := psum_ptl t c.1 q.length (Nat.le_refl _)
      rw [if_neg (show ¬ (q.length < q.length ∧ fr q q.length < b) by omega)] at ps
      simp [casO, hll, ps]
    · rw [if_neg t]
      simp only
      rw [if_pos (by split <;> decide)]; rfl
  · rw [if_neg c]; rfl
theorem bears_flat {q : List (List Int)} {r : Int} (h : Tok q) (hr : ∀ i, i < q.length → rt q i = r) {b : Int} (b0 : 0 ≤ b) : bears q b = b * r := by
  have ds : ∀ (l : List Int) i, i ≤ q.length → dsum q l i = psum l i * r := fun l i => by
    induction i with
    | zero => intro _; simp [dsum, psum]
    | succ i ih => intro hi; simp only [dsum, psum]; rw [ih (by omega), hr i (by omega), Int.add_mul]
  unfold bears
  rw [ds _ _ (Nat.le_refl _), psum_ptl h b0 _ (Nat.le_refl _), if_neg (show ¬ (q.length < q.length ∧ fr q q.length < b) by omega)]
theorem tok_pair {r c : Int} (r0 : 0 ≤ r) (r1 : r ≤ 1000000000) (c0 : 0 < c) (c1 : c ≤ 10000000000000) : Tok [[0, r], [c, r]] := by
  refine ⟨by simp, by simp, rfl, fun i hi => ?_⟩
  have : i = 0 ∨ i = 1 := by simp at hi; omega
  rcases this with rfl | rfl <;> (unfold TB fr rt; simp [nth]; omega)
theorem bears_pair {r c b : Int} (r0 : 0 ≤ r) (r1 : r ≤ 1000000000) (c0 : 0 < c) (c1 : c ≤ 10000000000000) (b0 : 0 ≤ b) : bears [[0, r], [c, r]] b = b * r :=
  bears_flat (tok_pair r0 r1 c0 c1) (fun i hi => by
    have : i = 0 ∨ i = 1 := by simp at hi; omega
    rcases this with rfl | rfl <;> rfl) b0
theorem round_le {A B m T : Int} (hA : A ≤ T * B) (hB : 0 < B) : roundS false A B m ≤ T := by
  have h1 : A / B ≤ T := by
    have := Int.ediv_le_ediv hB hA
    rwa [Int.mul_ediv_cancel _ (by omega)] at this
  rcases roundS_two false A B m with e | ⟨e, n⟩
  · omega
  · rcases Int.lt_or_eq_of_le h1 with g | g
    · omega
    · exfalso
      have e2 := Int.emod_add_mul_ediv A B
      have p := Int.emod_nonneg A (show B ≠ 0 by omega)
      rw [g, Int.mul_comm B T] at e2
      omega
theorem round_nn {A B m : Int} (hA : 0 ≤ A) (hB : 0 < B) : 0 ≤ roundS false A B m := (roundS_nonneg (m := false) (mode := m) hA hB).1
theorem AccrueGrows {K : Nat} (hK : 400 ≤ K) {x0 x1 x2 x3 x4 x5 : Int} (h4 : 0 ≤ x4 ∧ x4 ≤ 255) (h5 : 0 ≤ x5 ∧ x5 ≤ 65535) : F.law14_AccrueGrows K x0 x1 x2 x3 x4 x5 = some true := by
  have u : ∀ (x m : Int), 0 < m → m ≤ 10000000000000000 → IntKind.i64.wrap ((IntKind.u64.wrap x).tmod m) = x % 18446744073709551616 % m := fun x m m0 m1 => by
    have l := Int.emod_lt_of_pos (x % 18446744073709551616) m0
    have g := Int.emod_nonneg (x % 18446744073709551616) (show m ≠ 0 by omega)
    rw [wu, tm _ (by omega), iw (by omega) (by omega)]
  unfold F.law14_AccrueGrows
  simp only [bi_eq, aawake_ok hK, Option.bind_some]
  rw [if_neg (by decide)]
  rw [u x0 5000000000000 (by decide) (by decide), u x1 5000000000000 (by decide) (by decide), u x2 1000000001 (by decide) (by decide), u x3 5000000000000 (by decide) (by decide)]
  rw [show IntKind.i64.wrap (x4.tmod 7) = x4 % 7 by rw [tm _ h4.1, iw (by omega) (by omega)]]
  rw [show IntKind.i64.wrap (IntKind.i64.wrap (1 + IntKind.i64.wrap x5) + 1) = x5 + 2 by rw [iw (x := x5) (by omega) (by omega), iw (x := 1 + x5) (by omega) (by omega), iw (by omega) (by omega)]; omega]
  rw [show IntKind.i64.wrap (1 + IntKind.i64.wrap x5) = x5 + 1 by rw [iw (x := x5) (by omega) (by omega), iw (by omega) (by omega)]; omega]
  generalize ha : x0 % 18446744073709551616 % 5000000000000 = a
  generalize hd : x1 % 18446744073709551616 % 5000000000000 = d
  generalize hr : x2 % 18446744073709551616 % 1000000001 = r
  generalize hc : x3 % 18446744073709551616 % 5000000000000 = c
  generalize hm : x4 % 7 = m
  rw [iw (x := a + d) (by omega) (by omega), iw (x := 1 + c) (by omega) (by omega)]
  have p := part_act (K := K) (how := 1) (f := x5 + 1) (t := x5 + 2) (.inr rfl) (by omega) (by omega) (by omega)
  rw [if_neg (by decide), show x5 + 2 - (x5 + 1) = 1 by omega] at p
  rw [daily_ok hK (tok_one (r := r) (by omega) (by omega)) p (b := a) (m := m) (by omega) (by omega) (by decide) (by decide) (by decide) (by decide) (by omega) (by omega), Option.bind_some]
  rw [daily_ok hK (tok_one (r := r) (by omega) (by omega)) p (b := a + d) (m := m) (by omega) (by omega) (by decide) (by decide) (by decide) (by decide) (by omega) (by omega), Option.bind_some]
  rw [daily_ok hK (tok_pair (r := r) (c := 1 + c) (by omega) (by omega) (by omega) (by omega)) p (b := a + d) (m := m) (by omega) (by omega) (by decide) (by decide) (by decide) (by decide) (by omega) (by omega), Option.bind_some]
  unfold dailyR
  rw [bears_one (by omega), bears_one (by omega), bears_pair (by omega) (by omega) (by omega) (by omega) (by omega)]
  have m1 := mul_bd (a := a) (b := r) (A := 5000000000000) (B := 1000000000) (by omega) (by omega) (by omega) (by omega)
  have m2 := mul_bd (a := a + d) (b := r) (A := 10000000000000) (B := 1000000000) (by omega) (by omega) (by omega) (by omega)
  have mm : a * r ≤ (a + d) * r := Int.mul_le_mul_of_nonneg_right (by omega) (by omega)
  have g1 := round_le (A := a * r * 1) (B := 1000 * 365) (m := m) (T := 4000000000000000000) (by omega) (by decide)
  have g2 := round_le (A := (a + d) * r * 1) (B := 1000 * 365) (m := m) (T := 4000000000000000000) (by omega) (by decide)
  have n1 := round_nn (A := a * r * 1) (B := 1000 * 365) (m := m) (by omega) (by decide)
  have mo := roundS_mono (A := a * r * 1) (A' := (a + d) * r * 1) (B := 1000 * 365) (m := m) (by omega) (by omega) (by decide)
  rw [if_pos g1, if_pos g2]
  simp only [beq_self_eq_true, if_true]
  rw [if_pos (decide_eq_true (show _ ≥ (0 : Int) from n1)), if_pos (decide_eq_true mo)]
theorem round_down (A B : Int) : roundS false A B 0 = A / B := by
  unfold roundS moreB; simp
/-- Single days at basis 0, rounded down, one after the other. -/
theorem lost_loop {K : Nat} (hK : 400 ≤ K) {b r s f : Int} (b0 : 0 ≤ b) (b1 : b ≤ 1000000000) (r0 : 0 ≤ r) (r1 : r ≤ 1000000000) (f0 : 1 ≤ f) (f1 : f ≤ 70000) (F0 : 0 ≤ b * r / 360000) (F1 : b * r / 360000 ≤ 3000000000000) : ∀ (k i n : Nat), i ≤ n → n ≤ 100 → n - i < k →
    F.law14_AccrueNothingLost_l12 K k b [[0, r]] s f ((i : Int) * (b * r / 360000)) (n : Int) (i : Int) = some (.inl (b, [[0, r]], s, f, (n : Int) * (b * r / 360000)))
  | 0, i, n, _, _, hk => by omega
  | k + 1, i, n, hi, hn, hk => by
    rw [F.law14_AccrueNothingLost_l12, bi_eq]
    by_cases c : i < n
    · have ih := lost_loop (K := K) hK (s := s) b0 b1 r0 r1 f0 f1 F0 F1 k (i + 1) n (by omega) hn (by omega)
      have p := part_act (K := K) (how := 0) (f := f + i) (t := f + i + 1) (.inl rfl) (by omega) (by omega) (by omega)
      rw [if_pos rfl, show f + (i : Int) + 1 - (f + i) = 1 by omega] at p
      have m1 := mul_bd (a := b) (b := r) (A := 1000000000) (B := 1000000000) (by omega) (by omega) (by omega) (by omega)
      have g1 := round_le (A := b * r * 1) (B := 1000 * 360) (m := 0) (T := 4000000000000000000) (by omega) (by decide)
      have mi := mul_bd (a := (i : Int)) (b := b * r / 360000) (A := 100) (B := 3000000000000) (by omega) (by omega) (by omega) (by omega)
      rw [if_pos (by simp; omega), iw (x := f + (i : Int)) (by omega) (by omega), iw (x := f + (i : Int) + 1) (by omega) (by omega)]
      rw [daily_ok hK (tok_one (r := r) r0 r1) p (b := b) (m := 0) b0 (by omega) (by decide) (by decide) (by decide) (by decide) (by decide) (by decide), Option.bind_some]
      unfold dailyR
      rw [bears_one b0, if_pos g1, round_down, show b * r * 1 / (1000 * 360) = b * r / 360000 by rw [Int.mul_one]; rfl]
      simp only
      rw [bi_eq, if_neg (by decide), iw (x := (i : Int) * (b * r / 360000) + b * r / 360000) (by omega) (by omega), show IntKind.i64.wrap ((i : Int) + 1) = ((i + 1 : Nat) : Int) by rw [iw (by omega) (by omega)]; omega]
      rw [show (i : Int) * (b * r / 360000) + b * r / 360000 = ((i + 1 : Nat) : Int) * (b * r / 360000) by push_cast; rw [Int.add_mul, Int.one_mul]]
      exact ih
    · rw [if_neg (by simp; omega), show i = n by omega]
theorem AccrueNothingLost {K : Nat} (hK : 400 ≤ K) {x0 x1 x2 x3 x4 : Int} (h3 : 0 ≤ x3 ∧ x3 ≤ 255) (h4 : 0 ≤ x4 ∧ x4 ≤ 65535) : F.law14_AccrueNothingLost K x0 x1 x2 x3 x4 = some true := by
  have u : ∀ (x m : Int), 0 < m → m ≤ 10000000000000000 → IntKind.i64.wrap ((IntKind.u64.wrap x).tmod m) = x % 18446744073709551616 % m := fun x m m0 m1 => by
    have l := Int.emod_lt_of_pos (x % 18446744073709551616) m0
    have g := Int.emod_nonneg (x % 18446744073709551616) (show m ≠ 0 by omega)
    rw [wu, tm _ (by omega), iw (by omega) (by omega)]
  unfold F.law14_AccrueNothingLost
  simp only [bi_eq, aawake_ok hK, Option.bind_some, pay_ok]
  rw [if_neg (by decide)]
  rw [u x0 10000000000000000 (by decide) (by decide), u x1 1000000000 (by decide) (by decide), u x2 1000000001 (by decide) (by decide)]
  rw [show IntKind.i64.wrap (x3.tmod 40) = x3 % 40 by rw [tm _ h3.1, iw (by omega) (by omega)]]
  rw [show IntKind.i64.wrap (1 + IntKind.i64.wrap x4) = x4 + 1 by rw [iw (x := x4) (by omega) (by omega), iw (by omega) (by omega)]; omega]
  generalize ha : x0 % 18446744073709551616 % 10000000000000000 = a
  generalize hb : x1 % 18446744073709551616 % 1000000000 = b
  generalize hr : x2 % 18446744073709551616 % 1000000001 = r
  have hpay : payR a 20000000000000 = (a / 1000000, a % 1000000, 0) := by
    unfold payR
    rw [if_neg (show ¬ (a < 0 ∨ 4000000000000000000 < a ∨ (20000000000000 : Int) < 0 ∨ (20000000000000 : Int) < 20000000000000) by omega), if_neg (show ¬ (20000000000000 : Int) < a / 1000000 by omega)]
  rw [hpay]
  simp only
  rw [if_neg (by decide), iw (x := 1000000 * (a / 1000000)) (by omega) (by omega), iw (x := 1000000 * (a / 1000000) + a % 1000000) (by omega) (by omega), if_neg (by simp; omega), if_neg (by simp; omega), if_neg (by simp; omega)]
  obtain ⟨n, hn⟩ : ∃ n : Nat, x3 % 40 = (n : Int) := ⟨(x3 % 40).toNat, by omega⟩
  rw [hn]
  have m1 := mul_bd (a := b) (b := r) (A := 1000000000) (B := 1000000000) (by omega) (by omega) (by omega) (by omega)
  have lo := lost_loop (K := K) hK (s := (n : Int)) (f := x4 + 1) (b := b) (r := r) (by omega) (by omega) (by omega) (by omega) (by omega) (by omega) (by omega) (by omega) K 0 n (by omega) (by omega) (by omega)
  have lo' : F.law14_AccrueNothingLost_l12 K K b [[0, r]] (n : Int) (x4 + 1) 0 (n : Int) 0 = some (.inl (b, [[0, r]], (n : Int), x4 + 1, (n : Int) * (b * r / 360000))) := by rw [← lo]; simp
  rw [lo']
  have p := part_act (K := K) (how := 0) (f := x4 + 1) (t := x4 + 1 + n) (.inl rfl) (by omega) (by omega) (by omega)
  rw [if_pos rfl, show x4 + 1 + (n : Int) - (x4 + 1) = n by omega] at p
  simp only [casO, Option.bind_some]
  rw [iw (x := x4 + 1 + (n : Int)) (by omega) (by omega)]
  rw [daily_ok hK (tok_one (r := r) (by omega) (by omega)) p (b := b) (m := 0) (by omega) (by omega) (by omega) (by omega) (by decide) (by decide) (by decide) (by decide), Option.bind_some]
  have m2 := mul_bd (a := b * r) (b := (n : Int)) (A := 1000000000000000000) (B := 40) (by omega) (by omega) (by omega) (by omega)
  have g1 := round_le (A := b * r * n) (B := 1000 * 360) (m := 0) (T := 4000000000000000000) (by omega) (by decide)
  unfold dailyR
  rw [bears_one (by omega), if_pos g1, round_down]
  have fl : (n : Int) * (b * r / 360000) ≤ b * r * n / (1000 * 360) := by
    have e := Int.emod_add_mul_ediv (b * r) 360000
    have z : (n : Int) * (b * r / 360000) = (n : Int) * (b * r / 360000) * 360000 / 360000 := (Int.mul_ediv_cancel _ (by decide)).symm
    rw [z]
    refine Int.ediv_le_ediv (by decide) ?_
    rw [Int.mul_assoc, Int.mul_comm (b * r) n]
    exact Int.mul_le_mul_of_nonneg_left (by omega) (by omega)
  have fu : b * r * n / (1000 * 360) - (n : Int) * (b * r / 360000) ≤ n := by
    have e := Int.emod_add_mul_ediv (b * r) 360000
    have l := Int.emod_lt_of_pos (b * r) (show (0 : Int) < 360000 by decide)
    have h1 : b * r * n ≤ ((n : Int) * (b * r / 360000) + n) * 360000 := by
      have : b * r ≤ (b * r / 360000 + 1) * 360000 := by omega
      have := Int.mul_le_mul_of_nonneg_right this (show (0 : Int) ≤ n by omega)
      have e2 : (b * r / 360000 + 1) * 360000 * (n : Int) = ((n : Int) * (b * r / 360000) + n) * 360000 := by
        rw [Int.mul_right_comm, Int.add_mul, Int.one_mul, Int.mul_comm (b * r / 360000)]
      omega
    have h2 := Int.ediv_le_ediv (show (0 : Int) < 360000 by decide) h1
    rw [Int.mul_ediv_cancel _ (by decide)] at h2
    have : b * r * n / (1000 * 360) = b * r * n / 360000 := rfl
    omega
  have nn : 0 ≤ (n : Int) * (b * r / 360000) := Int.mul_nonneg (by omega) (by omega)
  have up : b * r * n / (1000 * 360) ≤ 4000000000000000000 := by rw [← round_down]; exact g1
  simp only [beq_self_eq_true, if_true]
  rw [if_pos (decide_eq_true fl), iw (by omega) (by omega), decide_eq_true fu]
namespace L
theorem wfU16 {x : Int} (h : (Lit.int .u16 x).wf = true) : 0 ≤ x ∧ x ≤ 65535 := by simp [Lit.wf, IntKind.min, IntKind.max, IntKind.signed, IntKind.bits] at h; omega
theorem AccruePays {a b c d e : Int} (w0 : (Lit.int .i64 a).wf = true) (w1 : (Lit.int .i64 b).wf = true) (w2 : (Lit.int .i64 c).wf = true) (w3 : (Lit.int .i64 d).wf = true) (w4 : (Lit.int .i64 e).wf = true) : F.law14_AccruePays 100000 a b c d e = some true := Wide.AccruePays (by decide)
theorem AccrueGrows {a b c d e f : Int} (w0 : (Lit.int .i64 a).wf = true) (w1 : (Lit.int .i64 b).wf = true) (w2 : (Lit.int .i64 c).wf = true) (w3 : (Lit.int .i64 d).wf = true) (w4 : (Lit.int .u8 e).wf = true) (w5 : (Lit.int .u16 f).wf = true) : F.law14_AccrueGrows 100000 a b c d e f = some true := Wide.AccrueGrows (by decide) (wfU8 w4) (wfU16 w5)
theorem AccrueNothingLost {a b c d e : Int} (w0 : (Lit.int .i64 a).wf = true) (w1 : (Lit.int .i64 b).wf = true) (w2 : (Lit.int .i64 c).wf = true) (w3 : (Lit.int .u8 d).wf = true) (w4 : (Lit.int .u16 e).wf = true) : F.law14_AccrueNothingLost 100000 a b c d e = some true := Wide.AccrueNothingLost (by decide) (wfU8 w3) (wfU16 w4)
theorem AccrueParts {a : Int} {q : List (List Int)} (w0 : (Lit.int .i64 a).wf = true) (w1 : q.length ≤ maxLen ∧ ∀ y ∈ q, KsOk [.i64, .i64] y) (h : q.length * 16 ≤ reachBytes) : F.law14_AccrueParts 100000 a q = some true := Wide.AccrueParts (by decide) (by unfold reachBytes at h; omega)
end L
end Go.Proofs.Ytppdgohcgklinaa.Wide

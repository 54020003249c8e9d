/- Several of my texts in one: plain facts about the printed functions. Conditions: none here. -/
import Derived.Test.YtimhhefngigfeaaPXa
import Derived.Test.YtimhhefngigfeaaFO
import Derived.KernelRfl
import Derived.Test.YtimhhefngigfeaaVmZ
set_option linter.unusedVariables false
set_option linter.unusedSimpArgs false
namespace Go.Proofs.Ytimhhefngigfeaa.Wide
open Go Go.RowKit Go.Proofs.Ytimhhefngigfeaa.Vm
def dk (n : Int) : List Int := [n / 18446744073709551616, n % 18446744073709551616, 12]
theorem dk_inj {a b : Int} (h : dk a = dk b) : a = b := by
  unfold dk at h
  simp only [List.cons.injEq, and_true] at h
  omega
def okA (c u : Int) : Prop := 1 ≤ c ∧ c ≤ 8 ∧ 0 ≤ u ∧ u ≤ 3
instance (c u : Int) : Decidable (okA c u) := by unfold okA; infer_instance
theorem digits13 (K : Nat) (u : Int) : ∃ d, F.money_Digits K u = some (d, if 0 ≤ u ∧ u ≤ 3 then 0 else 1) := by
  by_cases h0 : u = 0
  · subst h0; exact ⟨2, by kernel_rfl⟩
  by_cases h1 : u = 1
  · subst h1; exact ⟨2, by kernel_rfl⟩
  by_cases h2 : u = 2
  · subst h2; exact ⟨0, by kernel_rfl⟩
  by_cases h3 : u = 3
  · subst h3; exact ⟨3, by kernel_rfl⟩
  refine ⟨0, ?_⟩
  rw [if_neg (by omega)]
  unfold F.money_Digits F.money_name
  simp only [bi_eq, beq_iff_eq, h0, h1, h2, h3, if_false, oB]
  rw [if_pos (by kernel_rfl : sEq (ByteArray.mk #[]) (ByteArray.mk #[]) = true)]
theorem is13 (K : Nat) (c u : Int) : F.ct_is K c u = some (decide (okA c u)) := by
  unfold F.ct_is
  obtain ⟨d, hd⟩ := digits13 K u
  rw [hd, oB]
  simp only [bi_eq, decide_eq_true_eq]
  unfold okA
  by_cases h1 : c ≥ 1
  · rw [if_pos h1]
    by_cases h2 : c ≤ 8
    · rw [if_pos h2]
      by_cases h3 : 0 ≤ u ∧ u ≤ 3
      · rw [if_pos h3, decide_eq_true (show 1 ≤ c ∧ c ≤ 8 ∧ 0 ≤ u ∧ u ≤ 3 from ⟨h1, h2, h3⟩)]; rfl
      · rw [if_neg h3, decide_eq_false (show ¬(1 ≤ c ∧ c ≤ 8 ∧ 0 ≤ u ∧ u ≤ 3) from fun h => h3 h.2.2)]; rfl
    · rw [if_neg h2, decide_eq_false (show ¬(1 ≤ c ∧ c ≤ 8 ∧ 0 ≤ u ∧ u ≤ 3) from fun h => h2 h.2.1)]
  · rw [if_neg h1, decide_eq_false (show ¬(1 ≤ c ∧ c ≤ 8 ∧ 0 ≤ u ∧ u ≤ 3) from fun h => h1 h.1)]
theorem power_loop {K : Nat} (hK : 400 ≤ K) {n : Int} (hn : n < 1000) (a b c : Int) : ∀ (j k : Nat) (i x : Int), 0 ≤ i → i + j = n → j < k → 0 ≤ x → x * p10z j < 170141183460469231731687303715884105728 →
    F.ct_power_l3 K k n i a b c (x / 18446744073709551616) (x % 18446744073709551616) 0 = some (a, b, c, x * p10z j / 18446744073709551616, x * p10z j % 18446744073709551616, 0) := by
  intro j
  induction j with
  | zero =>
    intro k i x i0 hi hk x0 hx
    obtain ⟨k, rfl⟩ : ∃ m, k = m + 1 := ⟨k - 1, by omega⟩
    unfold F.ct_power_l3
    simp only [bi_eq]
    rw [if_neg (by simp; omega), show p10z ((0 : Nat) : Int) = 1 from rfl, Int.mul_one]
  | succ j ih =>
    intro k i x i0 hi hk x0 hx
    obtain ⟨k, rfl⟩ : ∃ m, k = m + 1 := ⟨k - 1, by omega⟩
    have hp : p10z ((j + 1 : Nat) : Int) = 10 * p10z j := by
      rw [show ((j + 1 : Nat) : Int) = (j : Int) + 1 by omega, p10z_succ (by omega), Int.mul_comm]
    rw [hp, ← Int.mul_assoc] at hx ⊢
    have h1 := p10z_pos (j : Int)
    have h2 : x * 10 ≤ x * 10 * p10z j := by
      have := Int.mul_le_mul_of_nonneg_left (show 1 ≤ p10z j by omega) (show 0 ≤ x * 10 by omega)
      rw [Int.mul_one] at this
      exact this
    have e : F.dec_Mul K (x / 18446744073709551616) (x % 18446744073709551616) 0 0 10 0 0 0 = some (pack (x * 10) 0) :=
      mul_exact (K := K) hK (x := x) (z := 10) (s := 0) (t := 0) (m := 0) (by omega) (by omega) (by omega) (by omega) (by omega) (by omega) (by omega) (by omega) (by omega)
    unfold F.ct_power_l3
    simp only [bi_eq]
    rw [if_pos (by simp; omega), e, oB, iw (by omega) (by omega)]
    unfold pack
    rw [if_pos (by omega)]
    exact ih k (i + 1) (x * 10) (by omega) (by omega) (by omega) (by omega) hx
theorem power20 (k : Nat) : F.ct_power (k + 400) 20 = some (5, 7766279631452241920, 0) := by
  unfold F.ct_power
  have := power_loop (K := k + 400) (by omega) (n := 20) (by omega) 0 0 0 20 (k + 400) 0 1 (by omega) (by omega) (by omega) (by omega) (by decide)
  rw [show (1 : Int) / 18446744073709551616 = 0 from rfl, show (1 : Int) % 18446744073709551616 = 1 from rfl] at this
  rw [this]; rfl
theorem power24 (k : Nat) : F.ct_power (k + 400) 24 = some (54210, 2003764205206896640, 0) := by
  unfold F.ct_power
  have := power_loop (K := k + 400) (by omega) (n := 24) (by omega) 0 0 0 24 (k + 400) 0 1 (by omega) (by omega) (by omega) (by omega) (by decide)
  rw [show (1 : Int) / 18446744073709551616 = 0 from rfl, show (1 : Int) % 18446744073709551616 = 1 from rfl] at this
  rw [this]; rfl
def am (x : List Int) : Int := cf (nth 0 x 2) (nth 0 x 3) * p10z (12 - nth 0 x 4)
def wl (x : List Int) : Prop := I64 (nth 0 x 2) ∧ Word (nth 0 x 3)
def okM (x : List Int) : Prop := Fm (nth 0 x 2) (nth 0 x 3) (nth 0 x 4) ∧ nth 0 x 4 ≤ 12 ∧ -100000000000000000000000000000000 ≤ am x ∧ am x ≤ 100000000000000000000000000000000
instance (x : List Int) : Decidable (okM x) := by unfold okM; infer_instance
theorem cmp3_le {x y : Int} : decide (cmp3 x y ≤ 0) = decide (x ≤ y) := by
  unfold cmp3; split
  · simp; omega
  · split
    · simp; omega
    · simp; omega
theorem within13 {K : Nat} (hK : 400 ≤ K) {hi lo sc n A B T : Int} (i : I64 hi) (l : Word lo) (f : Fm hi lo sc) (hs : sc ≤ 12) (hp : F.ct_power K n = some (A, B, 0)) (iA : I64 A) (lB : Word B) (hT : cf A B = T) (h0 : 0 < T) (h1 : T ≤ 1000000000000000000000000) :
    F.ct_within K hi lo sc n = some (decide (-(T * 1000000000000) ≤ cf hi lo * p10z (12 - sc) ∧ cf hi lo * p10z (12 - sc) ≤ T * 1000000000000)) := by
  unfold F.ct_within
  have fT : Fm A B 0 := ⟨by omega, by omega, fun h => by unfold cf at hT; omega⟩
  have hneg : F.dec_Neg K A B 0 = some ((-T) / 18446744073709551616, (-T) % 18446744073709551616, 0, 0) := by
    rw [neg_ok (by omega) iA lB, if_pos fT, hT]
    unfold pack
    rw [if_pos (by omega)]
  have fN : Fm ((-T) / 18446744073709551616) ((-T) % 18446744073709551616) 0 := ⟨by omega, by omega, fun h => by omega⟩
  have iN : I64 ((-T) / 18446744073709551616) := by unfold I64; omega
  have lN : Word ((-T) % 18446744073709551616) := by unfold Word; omega
  have hs0 := f.1
  have mx1 : mx sc 0 = sc := mx_left hs0
  have mx2 : mx 0 sc = sc := by rw [mx_comm]; exact mx1
  have cfN : cf ((-T) / 18446744073709551616) ((-T) % 18446744073709551616) = -T := by unfold cf; omega
  rw [hp, oB, hneg, oB, dcmp_ok hK i l iA lB, if_pos ⟨f, fT⟩, oB, dcmp_ok hK iN lN i l, if_pos ⟨fN, f⟩, oB]
  simp only [bi_eq, mx1, mx2, cmp3_le]
  unfold up
  rw [hT, cfN, Int.sub_zero, Int.sub_self, p10z_zero, Int.mul_one]
  have hq : p10z sc * p10z (12 - sc) = 1000000000000 := by
    rw [← p10z_add hs0 (by omega)]
    have : sc + (12 - sc) = 12 := by omega
    rw [this]; rfl
  have hp := p10z_pos (12 - sc)
  have e1 : (cf hi lo ≤ T * p10z sc) ↔ cf hi lo * p10z (12 - sc) ≤ T * 1000000000000 := by
    rw [← hq, ← Int.mul_assoc]
    exact ⟨fun h => Int.mul_le_mul_of_nonneg_right h (by omega), fun h => Int.le_of_mul_le_mul_right h hp⟩
  have e2 : (-T * p10z sc ≤ cf hi lo) ↔ -(T * 1000000000000) ≤ cf hi lo * p10z (12 - sc) := by
    rw [← hq, ← Int.mul_assoc, ← Int.neg_mul, ← Int.neg_mul]
    exact ⟨fun h => Int.mul_le_mul_of_nonneg_right h (by omega), fun h => Int.le_of_mul_le_mul_right h hp⟩
  by_cases c1 : cf hi lo ≤ T * p10z sc
  · rw [if_pos (decide_eq_true c1)]
    by_cases c2 : -T * p10z sc ≤ cf hi lo
    · rw [decide_eq_true c2, decide_eq_true (⟨e2.1 c2, e1.1 c1⟩ : -(T * 1000000000000) ≤ cf hi lo * p10z (12 - sc) ∧ cf hi lo * p10z (12 - sc) ≤ T * 1000000000000)]
    · rw [decide_eq_false c2, decide_eq_false (fun h => c2 (e2.2 h.1) : ¬(-(T * 1000000000000) ≤ cf hi lo * p10z (12 - sc) ∧ cf hi lo * p10z (12 - sc) ≤ T * 1000000000000))]
  · rw [if_neg (by simpa using c1), decide_eq_false (fun h => c1 (e1.2 h.2) : ¬(-(T * 1000000000000) ≤ cf hi lo * p10z (12 - sc) ∧ cf hi lo * p10z (12 - sc) ≤ T * 1000000000000))]
theorem within20 {K : Nat} (hK : 400 ≤ K) {hi lo sc : Int} (i : I64 hi) (l : Word lo) (f : Fm hi lo sc) (hs : sc ≤ 12) :
    F.ct_within K hi lo sc 20 = some (decide (-100000000000000000000000000000000 ≤ cf hi lo * p10z (12 - sc) ∧ cf hi lo * p10z (12 - sc) ≤ 100000000000000000000000000000000)) := by
  obtain ⟨k, rfl⟩ : ∃ k, K = k + 400 := ⟨K - 400, by omega⟩
  exact within13 hK i l f hs (power20 k) (by unfold I64; omega) (by unfold Word; omega) (T := 100000000000000000000) (by unfold cf; omega) (by omega) (by omega)
def P36 (n : Int) : Prop := -1000000000000000000000000000000000000 ≤ n ∧ n ≤ 1000000000000000000000000000000000000
instance (n : Int) : Decidable (P36 n) := by unfold P36; infer_instance
theorem cf_dk (n : Int) : cf (n / 18446744073709551616) (n % 18446744073709551616) = n := by unfold cf; omega
theorem dk_w {n : Int} (h0 : -170141183460469231731687303715884105728 < n) (h1 : n < 170141183460469231731687303715884105728) : I64 (n / 18446744073709551616) ∧ Word (n % 18446744073709551616) ∧ Fm (n / 18446744073709551616) (n % 18446744073709551616) 12 := by
  refine ⟨by unfold I64; omega, by unfold Word; omega, by omega, by omega, fun h => by omega⟩
theorem within24 {K : Nat} (hK : 400 ≤ K) {n : Int} (h0 : -170141183460469231731687303715884105728 < n) (h1 : n < 170141183460469231731687303715884105728) : F.ct_within K (n / 18446744073709551616) (n % 18446744073709551616) 12 24 = some (decide (P36 n)) := by
  obtain ⟨k, rfl⟩ : ∃ k, K = k + 400 := ⟨K - 400, by omega⟩
  obtain ⟨i, l, f⟩ := dk_w h0 h1
  rw [within13 hK i l f (by omega) (power24 k) (by unfold I64; omega) (by unfold Word; omega) (T := 1000000000000000000000000) (by unfold cf; omega) (by omega) (by omega), cf_dk, Int.sub_self, p10z_zero, Int.mul_one]
  rfl
theorem add_line {K : Nat} (hK : 400 ≤ K) {n : Int} {x : List Int} (hw : wl x) (hm : okM x) (h0 : -170141183460469231731687303715884105728 < n) (h1 : n < 170141183460469231731687303715884105728) (h2 : -170141183460469231731687303715884105728 < n + am x) (h3 : n + am x < 170141183460469231731687303715884105728) :
    F.dec_Add K (n / 18446744073709551616) (n % 18446744073709551616) 12 (nth 0 x 2) (nth 0 x 3) (nth 0 x 4) = some ((n + am x) / 18446744073709551616, (n + am x) % 18446744073709551616, 12, 0) := by
  obtain ⟨i, l, f⟩ := dk_w h0 h1
  rw [dadd_ok hK i l hw.1 hw.2, if_pos ⟨f, hm.1⟩, mx_left hm.2.1]
  have : up (n / 18446744073709551616) (n % 18446744073709551616) 12 12 + up (nth 0 x 2) (nth 0 x 3) (nth 0 x 4) 12 = n + am x := by
    unfold up am
    rw [cf_dk, Int.sub_self, p10z_zero, Int.mul_one]
  rw [this]
  unfold pack
  rw [if_pos ⟨h2, h3⟩]
theorem add_dk {K : Nat} (hK : 400 ≤ K) {n p : Int} (h0 : -170141183460469231731687303715884105728 < n) (h1 : n < 170141183460469231731687303715884105728) (g0 : -170141183460469231731687303715884105728 < p) (g1 : p < 170141183460469231731687303715884105728) (h2 : -170141183460469231731687303715884105728 < n + p) (h3 : n + p < 170141183460469231731687303715884105728) :
    F.dec_Add K (n / 18446744073709551616) (n % 18446744073709551616) 12 (p / 18446744073709551616) (p % 18446744073709551616) 12 = some ((n + p) / 18446744073709551616, (n + p) % 18446744073709551616, 12, 0) := by
  obtain ⟨i, l, f⟩ := dk_w h0 h1
  obtain ⟨i', l', f'⟩ := dk_w g0 g1
  rw [dadd_ok hK i l i' l', if_pos ⟨f, f'⟩, mx_self]
  have : up (n / 18446744073709551616) (n % 18446744073709551616) 12 12 + up (p / 18446744073709551616) (p % 18446744073709551616) 12 12 = n + p := by
    unfold up
    rw [cf_dk, cf_dk, Int.sub_self, p10z_zero, Int.mul_one, Int.mul_one]
  rw [this]
  unfold pack
  rw [if_pos ⟨h2, h3⟩]
end Go.Proofs.Ytimhhefngigfeaa.Wide

namespace Go.Proofs.Ytimhhefngigfeaa.Wide
open Go Go.RowKit Go.Proofs.Ytimhhefngigfeaa.Vm
def WL (q : List (List Int)) : Prop := ∀ x ∈ q, wl x
def allA (q : List (List Int)) : Bool := q.all fun x => decide (okA (nth 0 x 0) (nth 0 x 1))
def allM (q : List (List Int)) : Bool := q.all fun x => decide (okM x)
theorem allA_cons (x : List Int) (q : List (List Int)) : allA (x :: q) = (decide (okA (nth 0 x 0) (nth 0 x 1)) && allA q) := rfl
theorem allM_cons (x : List Int) (q : List (List Int)) : allM (x :: q) = (decide (okM x) && allM q) := rfl
def chk (q : List (List Int)) : Int := if allA q = false then 1 else if q.length > 16 then 2 else if allM q = true then 0 else 3
theorem nth_lt {α : Type} (d : α) {q : List α} {i : Nat} (h : i < q.length) : nth d q i = q[i] := by
  rw [nth_eq, List.getD_eq_getElem?_getD, List.getElem?_eq_getElem h]; rfl
theorem wsucc {i : Nat} (h : i < 4000000000000000000) : IntKind.i64.wrap ((i : Int) + 1) = ((i + 1 : Nat) : Int) := by
  rw [iw (by omega) (by omega)]; omega
theorem inb {i n : Nat} (h : i < n) : (Decidable.decide ((0 : Int) ≤ (i : Int)) && Decidable.decide ((i : Int) < (n : Int))) = true := by
  simp; omega
theorem check_loop {K : Nat} (hK : 400 ≤ K) {q : List (List Int)} (hw : WL q) (hq : q.length < 4000000000000000000) (q0 : List (List Int)) : ∀ (k i : Nat) (e : Int), q.length - i < k → i ≤ q.length →
    F.ct_check_l3 K k q0 e q (q.length : Int) (i : Int) = some (if allA (q.drop i) = true then .inl (q0, if allM (q.drop i) = true then e else 3) else .inr 1)
  | 0, _, _, h, _ => by omega
  | k + 1, i, e, h, hi => by
    unfold F.ct_check_l3
    by_cases c : i < q.length
    · have ih := fun e' => check_loop hK hw hq q0 k (i + 1) e' (by omega) (by omega)
      simp only [bi_eq, Int.toNat_natCast, nth_lt [] c]
      rw [if_pos (by simp; omega), if_pos (inb c), is13, oB, wsucc (by omega)]
      simp only [ih]
      rw [List.drop_eq_getElem_cons c, allA_cons, allM_cons]
      have hx : wl q[i] := hw _ (List.getElem_mem c)
      generalize q[i] = x at hx ⊢
      generalize allA (q.drop (i + 1)) = A
      generalize allM (q.drop (i + 1)) = M
      by_cases a : okA (nth 0 x 0) (nth 0 x 1)
      · rw [decide_eq_true a, Bool.not_true, if_neg (by decide), Bool.true_and, check_ok, oB]
        by_cases f : Fm (nth 0 x 2) (nth 0 x 3) (nth 0 x 4)
        · rw [if_pos f, if_neg (by decide)]
          by_cases s : nth 0 x 4 ≤ 12
          · rw [if_neg (by simp; omega), within20 hK hx.1 hx.2 f s, oB]
            by_cases t : -100000000000000000000000000000000 ≤ cf (nth 0 x 2) (nth 0 x 3) * p10z (12 - nth 0 x 4) ∧ cf (nth 0 x 2) (nth 0 x 3) * p10z (12 - nth 0 x 4) ≤ 100000000000000000000000000000000
            · have : okM x := ⟨f, s, t⟩
              rw [decide_eq_true t, decide_eq_true this, Bool.not_true, if_neg (by decide), Bool.true_and]
            · have : ¬ okM x := fun h => t h.2.2
              rw [decide_eq_false t, decide_eq_false this, Bool.not_false, if_pos rfl, Bool.false_and]
              cases M <;> rfl
          · have : ¬ okM x := fun h => s h.2.1
            rw [if_pos (by simp; omega), decide_eq_false this, Bool.false_and]
            cases M <;> rfl
        · have : ¬ okM x := fun h => f h.1
          rw [if_neg f, if_pos (by decide), decide_eq_false this, Bool.false_and]
          cases M <;> rfl
      · rw [decide_eq_false a, Bool.not_false, if_pos rfl, Bool.false_and]
        rfl
    · have : i = q.length := by omega
      subst this
      simp only [bi_eq]
      rw [if_neg (by simp), List.drop_length]
      simp [allA, allM]
theorem check13 {K : Nat} {q : List (List Int)} (hw : WL q) (hq : q.length < 4000000000000000000) (hK : q.length + 400 < K) : F.ct_check K q = some (chk q) := by
  unfold F.ct_check
  have := check_loop (K := K) (by omega) hw hq q K 0 0 (by omega) (by omega)
  rw [show ((0 : Nat) : Int) = 0 from rfl, List.drop_zero] at this
  rw [this]
  unfold chk
  cases a : allA q with
  | false => simp [casO]
  | true =>
    simp only [casO, if_true, oB, bi_eq, Bool.true_eq_false, if_false, decide_eq_true_eq]
    by_cases b : q.length > 16
    · rw [if_pos (by omega), if_pos b]
    · rw [if_neg (by omega), if_neg b]
theorem chk_zero {q : List (List Int)} (h : chk q = 0) : allA q = true ∧ q.length ≤ 16 ∧ allM q = true := by
  unfold chk at h
  split at h
  · cases h
  · rename_i h1
    split at h
    · cases h
    · rename_i h2
      split at h
      · rename_i h3; exact ⟨by simpa using h1, by omega, h3⟩
      · cases h
-- maps
theorem mfind_mset : ∀ (m : List (List Int × List Int)) (k v q : List Int), mfind (mset m k v) q = if k = q then some v else mfind m q
  | [], k, v, q => by
    simp only [mset, mfind]
  | (k', v') :: m, k, v, q => by
    have ih := mfind_mset m k v q
    simp only [mset]
    by_cases h : k' = k
    · subst h
      rw [if_pos rfl]
      simp only [mfind]
      by_cases h2 : k' = q
      · rw [if_pos h2, if_pos h2]
      · rw [if_neg h2, if_neg h2, if_neg h2]
    · rw [if_neg h]
      simp only [mfind]
      rw [ih]
      by_cases h2 : k' = q
      · subst h2
        rw [if_pos rfl, if_neg (fun e => h e.symm), if_pos rfl]
      · rw [if_neg h2, if_neg h2]
theorem keys_mset : ∀ (m : List (List Int × List Int)) (k v : List Int), (mset m k v).map (·.1) = if k ∈ m.map (·.1) then m.map (·.1) else m.map (·.1) ++ [k]
  | [], k, v => by simp [mset]
  | (k', v') :: m, k, v => by
    have ih := keys_mset m k v
    simp only [mset]
    by_cases h : k' = k
    · subst h; simp
    · rw [if_neg h]
      simp only [List.map_cons, ih, List.mem_cons]
      by_cases h2 : k ∈ m.map (·.1)
      · rw [if_pos h2, if_pos (.inr h2)]
      · rw [if_neg h2, if_neg (by rintro (e | e); exact h e.symm; exact h2 e)]; rfl
theorem mfind_mem : ∀ {m : List (List Int × List Int)}, (m.map (·.1)).Nodup → ∀ e ∈ m, mfind m e.1 = some e.2
  | [], _, e, h => by cases h
  | (k, v) :: m, hn, e, h => by
    simp only [List.map_cons, List.nodup_cons] at hn
    simp only [mfind]
    rcases List.mem_cons.1 h with rfl | h
    · rw [if_pos rfl]
    · rw [if_neg (fun e2 => hn.1 (by rw [e2]; exact List.mem_map_of_mem h))]
      exact mfind_mem hn.2 e h
theorem mem_mfind : ∀ {m : List (List Int × List Int)} {k v : List Int}, mfind m k = some v → (k, v) ∈ m
  | [], k, v, h => by cases h
  | (k', v') :: m, k, v, h => by
    simp only [mfind] at h
    split at h
    · rename_i e; subst e; cases h; exact List.mem_cons_self
    · exact List.mem_cons_of_mem _ (mem_mfind h)
structure LM (ok : Int → Int → Prop) (m : List (List Int × List Int)) (β : Int → Int → Int) : Prop where
  get : ∀ c u, (mfind m [c, u]).getD (dk 0) = dk (β c u)
  ent : ∀ e ∈ m, ∃ c u, ok c u ∧ e.1 = [c, u]
  nd : (m.map (·.1)).Nodup
theorem LM.empty (ok : Int → Int → Prop) : LM ok [] fun _ _ => 0 := ⟨fun _ _ => rfl, (fun _ h => by cases h), by simp⟩
theorem LM.set {ok : Int → Int → Prop} {m : List (List Int × List Int)} {β : Int → Int → Int} (h : LM ok m β) {c u v : Int} (hc : ok c u) : LM ok (mset m [c, u] (dk v)) (fun c' u' => if c = c' ∧ u = u' then v else β c' u') := by
  refine ⟨fun c' u' => ?_, fun e he => ?_, ?_⟩
  · rw [mfind_mset]
    by_cases g : c = c' ∧ u = u'
    · rw [if_pos (by rw [g.1, g.2]), if_pos g]; rfl
    · rw [if_neg (fun e => g (by simpa using e)), if_neg g]; exact h.get c' u'
  · have : e.1 ∈ (mset m [c, u] (dk v)).map (·.1) := List.mem_map_of_mem he
    rw [keys_mset] at this
    have this : e.1 ∈ m.map (·.1) ∨ e.1 = [c, u] := by
      split at this
      · exact .inl this
      · simpa using this
    rcases this with g | g
    · obtain ⟨e', h1, h2⟩ := List.mem_map.1 g
      obtain ⟨c', u', h3, h4⟩ := h.ent e' h1
      exact ⟨c', u', h3, by rw [← h2]; exact h4⟩
    · exact ⟨c, u, hc, g⟩
  · rw [keys_mset]
    split
    · exact h.nd
    · rename_i g
      rw [List.nodup_append]
      exact ⟨h.nd, by simp, fun a ha b hb => by
        rw [List.mem_singleton.1 hb]; rintro rfl; exact g ha⟩
theorem LM.val {ok : Int → Int → Prop} {m : List (List Int × List Int)} {β : Int → Int → Int} (h : LM ok m β) {e : List Int × List Int} (he : e ∈ m) : ∃ c u, ok c u ∧ e = ([c, u], dk (β c u)) := by
  obtain ⟨c, u, h1, h2⟩ := h.ent e he
  refine ⟨c, u, h1, ?_⟩
  have h3 := mfind_mem h.nd e he
  have h4 := h.get c u
  rw [← h2, h3] at h4
  have h4 : e.2 = dk (β c u) := h4
  rw [← h2, ← h4]
theorem LM.out {ok : Int → Int → Prop} {m : List (List Int × List Int)} {β : Int → Int → Int} (h : LM ok m β) {c u : Int} (hn : β c u ≠ 0) : ([c, u], dk (β c u)) ∈ m ∧ ok c u := by
  have h1 := h.get c u
  cases g : mfind m [c, u] with
  | none => rw [g] at h1; exact absurd (dk_inj h1).symm hn
  | some v =>
    rw [g] at h1
    have h1 : v = dk (β c u) := h1
    subst h1
    have h2 := mem_mfind g
    obtain ⟨c', u', h3, h4⟩ := h.ent _ h2
    simp only [List.cons.injEq, and_true] at h4
    exact ⟨h2, by rw [h4.1, h4.2]; exact h3⟩
theorem at13 (K : Nat) {ok : Int → Int → Prop} {m : List (List Int × List Int)} {β : Int → Int → Int} (h : LM ok m β) (c u : Int) : F.ct_at K m c u = some (β c u / 18446744073709551616, β c u % 18446744073709551616, 12, m) := by
  unfold F.ct_at F.ct_nought mhas mget
  have h1 := h.get c u
  cases g : mfind m [c, u] with
  | none =>
    rw [g] at h1
    have h1 : dk 0 = dk (β c u) := h1
    have := dk_inj h1
    rw [← this]
    simp [bi_eq]
  | some v =>
    rw [g] at h1
    have h1 : v = dk (β c u) := h1
    subst h1
    simp [bi_eq, dk, nth]
-- what lines come to
def sumL (c u : Int) : List (List Int) → Int
  | [] => 0
  | x :: q => (if nth 0 x 0 = c ∧ nth 0 x 1 = u then am x else 0) + sumL c u q
def sumC (u : Int) : List (List Int) → Int
  | [] => 0
  | x :: q => (if nth 0 x 1 = u then am x else 0) + sumC u q
def addQ (β : Int → Int → Int) (q : List (List Int)) : Int → Int → Int := fun c u => β c u + sumL c u q
theorem all_get {p : List Int → Bool} {q : List (List Int)} (h : q.all p = true) {i : Nat} (hi : i < q.length) : p q[i] = true := List.all_eq_true.1 h _ (List.getElem_mem hi)
theorem LM.ext {ok : Int → Int → Prop} {m : List (List Int × List Int)} {β β' : Int → Int → Int} (h : LM ok m β) (e : ∀ c u, β c u = β' c u) : LM ok m β' := by
  have : β = β' := funext fun c => funext fun u => e c u
  rw [← this]; exact h
theorem posted_loop {K : Nat} (hK : 400 ≤ K) {q : List (List Int)} (hw : WL q) (ha : allA q = true) (hm : allM q = true) (hq : q.length ≤ 16) (m0 : List (List Int × List Int)) : ∀ (k i : Nat) (m : List (List Int × List Int)) (β : Int → Int → Int), LM okA m β → (∀ c u, -(1000000000000000000000000000000000000 + i * 100000000000000000000000000000000) ≤ β c u ∧ β c u ≤ 1000000000000000000000000000000000000 + i * 100000000000000000000000000000000) → q.length - i < k → i ≤ q.length →
    ∃ m', F.ct_posted_l3 K k q (q.length : Int) (i : Int) m0 m = some (m0, m') ∧ LM okA m' (addQ β (q.drop i)) := by
  intro k
  induction k with
  | zero => intro i m β _ _ h _; omega
  | succ k ih =>
    intro i m β hL hb h hi
    unfold F.ct_posted_l3
    by_cases c : i < q.length
    · simp only [bi_eq, Int.toNat_natCast]
      rw [if_pos (by simp; omega), if_pos (inb c), nth_lt [] c, wsucc (by omega), at13 K hL, oB]
      have hx : wl q[i] := hw _ (List.getElem_mem c)
      have hxa : okA (nth 0 q[i] 0) (nth 0 q[i] 1) := by simpa using all_get ha c
      have hxm : okM q[i] := by simpa using all_get hm c
      rw [List.drop_eq_getElem_cons c]
      generalize q[i] = x at hx hxa hxm ⊢
      obtain ⟨b0, b1⟩ := hb (nth 0 x 0) (nth 0 x 1)
      have hm3 := hxm.2.2
      rw [add_line hK hx hxm (by omega) (by omega) (by omega) (by omega), oB]
      simp only
      have hL' := hL.set (v := β (nth 0 x 0) (nth 0 x 1) + am x) hxa
      obtain ⟨m', h1, h2⟩ := ih (i + 1) _ _ hL' (fun c u => by
        obtain ⟨d0, d1⟩ := hb c u
        split
        · omega
        · omega) (by omega) (by omega)
      refine ⟨m', h1, h2.ext fun c' u' => ?_⟩
      unfold addQ
      simp only [sumL]
      by_cases g : nth 0 x 0 = c' ∧ nth 0 x 1 = u'
      · rw [if_pos g, if_pos g, g.1, g.2]; omega
      · rw [if_neg g, if_neg g]; omega
    · have : i = q.length := by omega
      subst this
      simp only [bi_eq]
      rw [if_neg (by simp), List.drop_length]
      exact ⟨m, rfl, hL.ext fun c u => by unfold addQ sumL; omega⟩
theorem posted13 {K : Nat} (hK : 500 ≤ K) {q : List (List Int)} (hw : WL q) (h : chk q = 0) {m : List (List Int × List Int)} {β : Int → Int → Int} (hL : LM okA m β) (hb : ∀ c u, P36 (β c u)) :
    ∃ m', F.ct_posted K m q = some (m', m) ∧ LM okA m' (addQ β q) := by
  obtain ⟨ha, hq, hm⟩ := chk_zero h
  unfold F.ct_posted
  obtain ⟨m', h1, h2⟩ := posted_loop (K := K) (by omega) hw ha hm hq m K 0 m β hL (fun c u => by have := hb c u; unfold P36 at this; omega) (by omega) (by omega)
  refine ⟨m', ?_, h2⟩
  simp only [oB]
  rw [show ((0 : Nat) : Int) = 0 from rfl] at h1
  rw [h1]; rfl
-- a range over a map whose rounds either go on or end alike
theorem eraseIdx_all {α : Type} (p : α → Bool) : ∀ (l : List α) (i : Nat) (h : i < l.length), l.all p = (p l[i] && (l.eraseIdx i).all p)
  | a :: l, 0, _ => by simp
  | a :: l, i + 1, h => by
    have hi : i < l.length := by simpa using h
    have := eraseIdx_all p l i hi
    simp only [List.all_cons, List.eraseIdx_cons_succ, List.getElem_cons_succ, this]
    cases p a <;> cases p (l[i]'hi) <;> simp
theorem mapsO_two {γ : Type} {rnd : E2 → List U → Option (List U ⊕ γ)} {us : List U} {r : γ} (p : E2 → Bool) : ∀ (n : Nat) (l : List E2), l.length = n → (∀ e ∈ l, rnd e us = some (if p e = true then .inl us else .inr r)) → mapsO rnd n l us = some (if l.all p = true then .inl us else .inr r)
  | 0, l, hl, h => by
    obtain rfl := List.eq_nil_of_length_eq_zero hl
    simp [mapsO]
  | n + 1, l, hl, h => by
    unfold mapsO
    refine anyO_same (fun i hi => ?_) (by omega)
    have hi' : i < l.length := by omega
    have e : l.getD i ([], []) = l[i] := by rw [List.getD_eq_getElem?_getD, List.getElem?_eq_getElem hi']; rfl
    rw [e, h _ (List.getElem_mem hi'), oB, eraseIdx_all p l i hi']
    cases g : p l[i] with
    | false => simp
    | true =>
      simp only [if_true, Bool.true_and]
      exact mapsO_two p n _ (by rw [List.length_eraseIdx, if_pos hi']; omega) fun e he => h e (List.mem_of_mem_eraseIdx he)
theorem mapsB_two {β γ : Type} {rnd : E2 → List U → Option (List U ⊕ γ)} {dec : List U → Option β} {us : List U} {r : γ} {b : β} (p : E2 → Bool) {l : List E2} (h : ∀ e ∈ l, rnd e us = some (if p e = true then .inl us else .inr r)) (hd : dec us = some b) : mapsB rnd dec l us = some (if l.all p = true then .inl b else .inr r) := by
  unfold mapsB
  rw [mapsO_two p _ _ rfl h]
  cases l.all p <;> simp [hd]
end Go.Proofs.Ytimhhefngigfeaa.Wide

namespace Go.Proofs.Ytimhhefngigfeaa.Wide
open Go Go.RowKit Go.Proofs.Ytimhhefngigfeaa.Vm
theorem LM.all {ok : Int → Int → Prop} {m : List (List Int × List Int)} {β : Int → Int → Int} (h : LM ok m β) (p : E2 → Bool) (P : Int → Prop) (hp : ∀ c u, p ([c, u], dk (β c u)) = true ↔ P (β c u)) (h0 : P 0) : m.all p = true ↔ ∀ c u, P (β c u) := by
  rw [List.all_eq_true]
  refine ⟨fun g c u => ?_, fun g e he => ?_⟩
  · by_cases z : β c u = 0
    · rw [z]; exact h0
    · exact (hp c u).1 (g _ (h.out z).1)
  · obtain ⟨c, u, _, rfl⟩ := h.val he
    exact (hp c u).2 (g c u)
theorem rnd_two {γ : Type} (b : Bool) (us us' : List U) (r : γ) (h : us' = us) : bi (!b) (some (Sum.inr r)) (some (Sum.inl us')) = some (if b = true then .inl us else .inr r) := by
  subst h; cases b <;> rfl
def okC (c u : Int) : Prop := c = 0 ∧ 0 ≤ u ∧ u ≤ 3
theorem balanced_loop {K : Nat} (hK : 400 ≤ K) {q : List (List Int)} (hw : WL q) (ha : allA q = true) (hm : allM q = true) (hq : q.length ≤ 16) : ∀ (k i : Nat) (m : List (List Int × List Int)) (β : Int → Int → Int), LM okC m β → (∀ c u, -(i * 100000000000000000000000000000000) ≤ β c u ∧ β c u ≤ i * 100000000000000000000000000000000) → q.length - i < k → i ≤ q.length →
    ∃ m', F.ct_balanced_l3 K k q (q.length : Int) (i : Int) m = some m' ∧ LM okC m' (fun c u => β c u + if c = 0 then sumC u (q.drop i) else 0) ∧ ∀ c u, -170141183460469231731687303715884105728 < (β c u + if c = 0 then sumC u (q.drop i) else 0) ∧ (β c u + if c = 0 then sumC u (q.drop i) else 0) < 170141183460469231731687303715884105728 := by
  intro k
  induction k with
  | zero => intro i m β _ _ h _; omega
  | succ k ih =>
    intro i m β hL hb h hi
    unfold F.ct_balanced_l3
    by_cases c : i < q.length
    · simp only [bi_eq, Int.toNat_natCast, nth_lt [] c]
      rw [if_pos (by simp; omega), if_pos (inb c), wsucc (by omega), at13 K hL, oB]
      have hx : wl q[i] := hw _ (List.getElem_mem c)
      have hxa : okA (nth 0 q[i] 0) (nth 0 q[i] 1) := by simpa using all_get ha c
      have hxm : okM q[i] := by simpa using all_get hm c
      rw [List.drop_eq_getElem_cons c]
      generalize q[i] = x at hx hxa hxm ⊢
      obtain ⟨b0, b1⟩ := hb 0 (nth 0 x 1)
      have hm3 := hxm.2.2
      rw [add_line hK hx hxm (by omega) (by omega) (by omega) (by omega), oB]
      simp only
      have hL' := hL.set (v := β 0 (nth 0 x 1) + am x) (c := 0) (u := nth 0 x 1) ⟨rfl, hxa.2.2⟩
      obtain ⟨m', h1, h2, h3⟩ := ih (i + 1) _ _ hL' (fun c u => by
        obtain ⟨d0, d1⟩ := hb c u
        split
        · omega
        · omega) (by omega) (by omega)
      have e : ∀ c' u' : Int, ((if 0 = c' ∧ nth 0 x 1 = u' then β 0 (nth 0 x 1) + am x else β c' u') + if c' = 0 then sumC u' (q.drop (i + 1)) else 0) = β c' u' + if c' = 0 then sumC u' (x :: q.drop (i + 1)) else 0 := by
        intro c' u'
        simp only [sumC]
        by_cases g : c' = 0
        · subst g
          by_cases g2 : nth 0 x 1 = u'
          · rw [if_pos ⟨rfl, g2⟩, if_pos rfl, if_pos rfl, if_pos g2, g2]; omega
          · rw [if_neg (fun h => g2 h.2), if_pos rfl, if_pos rfl, if_neg g2]; omega
        · rw [if_neg (fun h => g h.1.symm), if_neg g, if_neg g]
      exact ⟨m', h1, h2.ext e, fun c' u' => by rw [← e]; exact h3 c' u'⟩
    · have : i = q.length := by omega
      subst this
      simp only [bi_eq]
      rw [if_neg (by simp), List.drop_length]
      have e : ∀ c u, (β c u + if c = 0 then sumC u [] else 0) = β c u := fun c u => by unfold sumC; split <;> omega
      exact ⟨m, rfl, hL.ext fun c u => (e c u).symm, fun c u => by rw [e]; have := hb c u; omega⟩
theorem balanced13 {K : Nat} (hK : 500 ≤ K) {q : List (List Int)} (hw : WL q) (h : chk q = 0) : ∃ b, F.ct_balanced K q = some b ∧ (b = true ↔ ∀ u, sumC u q = 0) := by
  obtain ⟨ha, hq, hm⟩ := chk_zero h
  unfold F.ct_balanced
  obtain ⟨m', h1, h2, h3⟩ := balanced_loop (K := K) (by omega) hw ha hm hq K 0 [] _ (LM.empty okC) (fun c u => by simp) (by omega) (by omega)
  rw [show ((0 : Nat) : Int) = 0 from rfl] at h1
  rw [h1, oB]
  unfold F.ct_balanced_l9
  let p : E2 → Bool := fun e => nth 0 e.2 0 == 0 && (nth 0 e.2 1 == 0 && (nth 0 e.2 2 == 12 && true))
  have hr : ∀ e ∈ m', F.ct_balanced_l9_w K e [] = some (if p e = true then .inl [] else .inr false) := by
    intro e _
    unfold F.ct_balanced_l9_w F.ct_balanced_l9_rd F.ct_nought
    exact rnd_two (nth 0 e.2 0 == 0 && (nth 0 e.2 1 == 0 && (nth 0 e.2 2 == 12 && true))) [] ([] ++ []) false rfl
  rw [mapsB_two (b := ()) p hr (by unfold F.ct_balanced_l9_dec0; rfl)]
  have hp : ∀ c u, p ([c, u], dk (0 + if c = 0 then sumC u (q.drop 0) else 0)) = true ↔ (0 + if c = 0 then sumC u (q.drop 0) else 0) = 0 := by
    intro c u
    generalize (0 + if c = 0 then sumC u (q.drop 0) else 0) = n
    have e : p ([c, u], dk n) = (n / 18446744073709551616 == 0 && (n % 18446744073709551616 == 0 && true)) := rfl
    rw [e]
    simp only [Bool.and_true, Bool.and_eq_true, beq_iff_eq]
    omega
  have hall := h2.all p (fun n => n = 0) hp rfl
  refine ⟨m'.all p, by cases m'.all p <;> rfl, hall.trans ⟨fun g u => ?_, fun g c u => ?_⟩⟩
  · have := g 0 u
    simpa using this
  · simp only [List.drop_zero, g u, ite_self]; rfl
open Classical in
noncomputable def codeP (β : Int → Int → Int) (q : List (List Int)) : Int :=
  if chk q ≠ 0 then chk q else if ¬ (∀ c u, P36 (addQ β q c u)) then 4 else if ¬ (∀ u, sumC u q = 0) then 15 else 0
open Classical in
noncomputable def nextP (β : Int → Int → Int) (q : List (List Int)) : Int → Int → Int := if codeP β q = 0 then addQ β q else β
theorem addQ_bd {β : Int → Int → Int} {q : List (List Int)} (hm : allM q = true) (hq : q.length ≤ 16) (hb : ∀ c u, P36 (β c u)) (c u : Int) : -170141183460469231731687303715884105728 < addQ β q c u ∧ addQ β q c u < 170141183460469231731687303715884105728 := by
  have h : ∀ (q : List (List Int)), allM q = true → -(q.length * 100000000000000000000000000000000) ≤ sumL c u q ∧ sumL c u q ≤ q.length * 100000000000000000000000000000000 := by
    intro q
    induction q with
    | nil => intro _; simp [sumL]
    | cons x q ih =>
      intro hm
      rw [allM_cons, Bool.and_eq_true] at hm
      obtain ⟨i1, i2⟩ := ih hm.2
      have hx : okM x := by simpa using hm.1
      have hx := hx.2.2
      simp only [sumL, List.length_cons]
      split <;> omega
  have h1 := h q hm
  have h2 := hb c u
  unfold P36 at h2
  unfold addQ
  omega
theorem post13 {K : Nat} {q : List (List Int)} (hw : WL q) (hq : q.length < 4000000000000000000) (hK : q.length + 500 < K) {m : List (List Int × List Int)} {β : Int → Int → Int} (hL : LM okA m β) (hb : ∀ c u, P36 (β c u)) {n : Int} (n0 : 0 ≤ n) (n1 : n < 4000000000000000000) :
    ∃ m', F.cL_Post K m n q = some (codeP β q, m', if codeP β q = 0 then n + 1 else n) ∧ LM okA m' (nextP β q) ∧ ∀ c u, P36 (nextP β q c u) := by
  unfold F.cL_Post
  rw [check13 hw hq (by omega), oB]
  simp only [bi_eq, bne_iff_ne]
  by_cases h : chk q = 0
  · rw [if_neg (by simpa using h)]
    obtain ⟨ha, hq16, hm⟩ := chk_zero h
    obtain ⟨m1, p1, p2⟩ := posted13 (K := K) (by omega) hw h hL hb
    rw [p1, oB]
    simp only
    unfold F.cL_Post_l8
    have bd := addQ_bd hm hq16 hb
    let p : E2 → Bool := fun e => decide (P36 (cf (nth 0 e.2 0) (nth 0 e.2 1)))
    have hr : ∀ e ∈ m1, F.cL_Post_l8_w K e [.rr q, .m m, .i n] = some (if p e = true then .inl [.rr q, .m m, .i n] else .inr (4, m, n)) := by
      intro e he
      obtain ⟨c, u, _, rfl⟩ := p2.val he
      unfold F.cL_Post_l8_w F.cL_Post_l8_rd
      have e1 : F.ct_within K (nth 0 (dk (addQ β q c u)) 0) (nth 0 (dk (addQ β q c u)) 1) (nth 0 (dk (addQ β q c u)) 2) 24 = some (decide (P36 (addQ β q c u))) := within24 (by omega) (bd c u).1 (bd c u).2
      have e2 : p ([c, u], dk (addQ β q c u)) = decide (P36 (addQ β q c u)) := by
        show decide (P36 (cf (addQ β q c u / 18446744073709551616) (addQ β q c u % 18446744073709551616))) = _
        rw [cf_dk]
      rw [e1, e2]
      exact rnd_two (decide (P36 (addQ β q c u))) _ _ _ rfl
    rw [mapsB_two (b := (q, m, n)) p hr (by unfold F.cL_Post_l8_dec0; rfl)]
    have hall := p2.all p P36 (fun c u => by
      show decide (P36 (cf (addQ β q c u / 18446744073709551616) (addQ β q c u % 18446744073709551616))) = true ↔ _
      rw [cf_dk, decide_eq_true_iff]) (by unfold P36; omega)
    by_cases g : ∀ c u, P36 (addQ β q c u)
    · rw [if_pos (hall.2 g)]
      simp only [casO, oB]
      obtain ⟨b, b1, b2⟩ := balanced13 (K := K) (by omega) hw h
      rw [b1, oB]
      by_cases g2 : ∀ u, sumC u q = 0
      · have hc : codeP β q = 0 := by unfold codeP; rw [if_neg (by simpa using h), if_neg (by simpa using g), if_neg (by simpa using g2)]
        have hn : nextP β q = addQ β q := by unfold nextP; rw [if_pos hc]
        rw [b2.2 g2, hn, if_pos hc, hc, iw (by omega) (by omega)]
        exact ⟨m1, rfl, p2, g⟩
      · have hc : codeP β q = 15 := by unfold codeP; rw [if_neg (by simpa using h), if_neg (by simpa using g), if_pos g2]
        have hn : nextP β q = β := by unfold nextP; rw [hc, if_neg (by decide)]
        have hb' : b = false := by cases b with | false => rfl | true => exact absurd (b2.1 rfl) g2
        rw [hb', hn, hc, Bool.not_false, if_pos rfl, if_neg (by decide : ¬ ((15 : Int) = 0))]
        exact ⟨m, rfl, hL, hb⟩
    · have hf : m1.all p = false := by
        cases hh : m1.all p with
        | false => rfl
        | true => exact absurd (hall.1 hh) g
      have hc : codeP β q = 4 := by unfold codeP; rw [if_neg (by simpa using h), if_pos g]
      have hn : nextP β q = β := by unfold nextP; rw [hc, if_neg (by decide)]
      rw [hf, hn, hc, if_neg (by decide : ¬ (false = true)), if_neg (by decide)]
      exact ⟨m, rfl, hL, hb⟩
  · rw [if_pos h]
    have hc : codeP β q = chk q := by unfold codeP; rw [if_pos h]
    have hn : nextP β q = β := by unfold nextP; rw [hc, if_neg h]
    rw [hn, hc, if_neg h]
    exact ⟨m, rfl, hL, hb⟩
theorem sumL_bad {c u : Int} : ∀ {q : List (List Int)}, allA q = true → ¬ okA c u → sumL c u q = 0
  | [], _, _ => rfl
  | x :: q, h, n => by
    rw [allA_cons, Bool.and_eq_true] at h
    have hx : okA (nth 0 x 0) (nth 0 x 1) := by simpa using h.1
    simp only [sumL]
    rw [if_neg (fun e => n (by rw [← e.1, ← e.2]; exact hx)), sumL_bad h.2 n]; rfl
theorem sumC_bad {u : Int} : ∀ {q : List (List Int)}, allA q = true → ¬ (0 ≤ u ∧ u ≤ 3) → sumC u q = 0
  | [], _, _ => rfl
  | x :: q, h, n => by
    rw [allA_cons, Bool.and_eq_true] at h
    have hx : okA (nth 0 x 0) (nth 0 x 1) := by simpa using h.1
    simp only [sumC]
    rw [if_neg (fun e => n (by rw [← e]; exact hx.2.2)), sumC_bad h.2 n]; rfl
def Zb (β : Int → Int → Int) : Prop := ∀ c u, ¬ okA c u → β c u = 0
theorem Zb.add {β : Int → Int → Int} (h : Zb β) {q : List (List Int)} (ha : allA q = true) : Zb (addQ β q) := fun c u n => by
  unfold addQ; rw [h c u n, sumL_bad ha n]; rfl
theorem codeP_zero {β : Int → Int → Int} {q : List (List Int)} (h : codeP β q = 0) : chk q = 0 ∧ (∀ c u, P36 (addQ β q c u)) ∧ ∀ u, sumC u q = 0 := by
  unfold codeP at h
  split at h
  · rename_i h1; exact absurd h h1
  · rename_i h1
    split at h
    · cases h
    · rename_i h2
      split at h
      · cases h
      · rename_i h3
        exact ⟨by simpa using h1, Classical.not_not.1 h2, Classical.not_not.1 h3⟩
theorem Zb.next {β : Int → Int → Int} (h : Zb β) (q : List (List Int)) : Zb (nextP β q) := by
  unfold nextP
  split
  · rename_i h1
    exact h.add (chk_zero (codeP_zero h1).1).1
  · exact h
abbrev β0 : Int → Int → Int := fun _ _ => 0
theorem β0_P : ∀ c u, P36 (β0 c u) := fun c u => by unfold P36; simp
end Go.Proofs.Ytimhhefngigfeaa.Wide

namespace Go.Proofs.Ytimhhefngigfeaa.Wide
open Go Go.RowKit Go.Proofs.Ytimhhefngigfeaa.Vm
abbrev asD (q : List Int) : List (List D) := List.map (fun x => [D.i x]) q
theorem toL_l (x : List (List D)) : (D.l x).toL = x := rfl
theorem asD_len (q : List Int) : (asD q).length = q.length := List.length_map _
theorem asD_get (q : List Int) (i : Nat) : (nth d0 (nth [] (asD q) i) 0).toI = nth 0 q i := by
  rw [nth_eq [], nth_eq 0 q, List.getD_eq_getElem?_getD, List.getD_eq_getElem?_getD, List.getElem?_map]
  cases q[i]? <;> rfl
theorem compare_ro_loop (K : Nat) (a b : List Int) : ∀ (k : Nat) (x : Int), F.r1_Compare_ro_l6 K k (asD a) (asD b) x = F.r1_Compare_l6 K k a b x
  | 0, x => rfl
  | k + 1, x => by
    simp only [F.r1_Compare_ro_l6, F.r1_Compare_l6, toL_l, asD_len, asD_get, compare_ro_loop K a b k, bi_eq]
theorem compare_ro (K : Nat) (a b : List Int) : F.r1_Compare_ro K (asD a) (asD b) = F.r1_Compare K a b := by
  simp only [F.r1_Compare_ro, F.r1_Compare, toL_l, asD_len, compare_ro_loop, bi_eq]
theorem plus_ro_loop (K : Nat) (a b : List Int) : ∀ (k : Nat) (l : List Int) (x y : Int), F.r1_Plus_ro_l4 K k (asD a) (asD b) l x y = F.r1_Plus_l4 K k a b l x y
  | 0, l, x, y => rfl
  | k + 1, l, x, y => by
    simp only [F.r1_Plus_ro_l4, F.r1_Plus_l4, toL_l, asD_len, asD_get, plus_ro_loop K a b k, bi_eq]
theorem plus_ro (K : Nat) (a b : List Int) : F.r1_Plus_ro K (asD a) (asD b) = F.r1_Plus K a b := by
  simp only [F.r1_Plus_ro, F.r1_Plus, toL_l, asD_len, plus_ro_loop, bi_eq]
theorem minus_ro_loop (K : Nat) (a b : List Int) : ∀ (k : Nat) (l : List Int) (x y z : Int), F.r1_Minus_ro_l4 K k (asD a) (asD b) l x y z = F.r1_Minus_l4 K k a b l x y z
  | 0, l, x, y, z => rfl
  | k + 1, l, x, y, z => by
    simp only [F.r1_Minus_ro_l4, F.r1_Minus_l4, toL_l, asD_len, asD_get, minus_ro_loop K a b k, bi_eq]
theorem minus_ro (K : Nat) (a b : List Int) : F.r1_Minus_ro K (asD a) (asD b) = F.r1_Minus K a b := by
  simp only [F.r1_Minus_ro, F.r1_Minus, toL_l, asD_len, minus_ro_loop, bi_eq]
theorem size_ro_loop (K : Nat) : ∀ (k : Nat) (x y : Int), F.r1_Size_ro_l5 K k x y = F.r1_Size_l5 K k x y
  | 0, x, y => rfl
  | k + 1, x, y => by
    simp only [F.r1_Size_ro_l5, F.r1_Size_l5, size_ro_loop K k, bi_eq]
theorem size_ro (K : Nat) (a : List Int) : F.r1_Size_ro K (asD a) = F.r1_Size K a := by
  simp only [F.r1_Size_ro, F.r1_Size, toL_l, asD_len, asD_get, size_ro_loop, bi_eq]
theorem sum_ro (K : Nat) (b d : Bool) (a c : List Int) : F.r1_Sum_ro K b (asD a) d (asD c) = F.r1_Sum K b a d c := by
  simp only [F.r1_Sum_ro, F.r1_Sum, toL_l, plus_ro, compare_ro, minus_ro, bi_eq]
theorem sign_ro (K : Nat) (b : Bool) (a : List Int) : F.r1_Sign_ro K b (asD a) = F.r1_Sign K b a := by
  simp only [F.r1_Sign_ro, F.r1_Sign, toL_l, asD_len, bi_eq]
theorem dec_ro_loop (K : Nat) (a : List Int) : ∀ (k : Nat) (x1 x7 x8 x27 x28 y0 y1 y2 : Int), F.r1_Dec_ro_l9 K k x1 x7 x8 (asD a) x27 x28 y0 y1 y2 = F.r1_Dec_l9 K k x1 x7 x8 a x27 x28 y0 y1 y2
  | 0, _, _, _, _, _, _, _, _ => rfl
  | k + 1, _, _, _, _, _, _, _, _ => by
    simp only [F.r1_Dec_ro_l9, F.r1_Dec_l9, toL_l, asD_len, asD_get, dec_ro_loop K a k, bi_eq]
theorem dec_ro (K : Nat) (b : Bool) (a : List Int) (s : Int) : F.r1_Dec_ro K b (asD a) s = F.r1_Dec K b a s := by
  simp only [F.r1_Dec_ro, F.r1_Dec, toL_l, size_ro, sign_ro, sum_ro, dec_ro_loop, bi_eq, asD_len]
end Go.Proofs.Ytimhhefngigfeaa.Wide

namespace Go.Proofs.Ytimhhefngigfeaa.Wide
open Go Go.RowKit Go.Proofs.Ytimhhefngigfeaa.Vm
theorem nth_setP : ∀ (e : List D) (j : Nat) (d : D) (i : Nat), nth d0 (setP e j d) i = if i = j then d else nth d0 e i
  | [], 0, d, 0 => rfl
  | [], 0, d, i + 1 => by simp [setP, nth]
  | [], j + 1, d, 0 => by simp [setP, nth]
  | [], j + 1, d, i + 1 => by
    have := nth_setP [] j d i
    simp only [setP, nth, this, Nat.add_right_cancel_iff]
  | a :: e, 0, d, 0 => rfl
  | a :: e, 0, d, i + 1 => by simp [setP, nth]
  | a :: e, j + 1, d, 0 => by simp [setP, nth]
  | a :: e, j + 1, d, i + 1 => by
    have := nth_setP e j d i
    simp only [setP, nth, this, Nat.add_right_cancel_iff]
def cellI (e : List D) (j : Nat) (x : Int) : Prop := ∃ s v, 0 ≤ v ∧ (nth d0 e j).toB = s ∧ (nth d0 e (j + 1)).toL = asD (rl v) ∧ sgB s v = x
theorem sgB_cases {s : Bool} {v x : Int} (h : 0 ≤ v) (e : sgB s v = x) : v = x ∨ v = -x := by
  unfold sgB at e; split at e <;> omega
theorem cellI_set (e : List D) (j : Nat) {s : Bool} {v x : Int} (h : 0 ≤ v) (hx : sgB s v = x) : cellI (setP (setP e j (.b s)) (j + 1) (.l (asD (rl v)))) j x := by
  refine ⟨s, v, h, ?_, ?_, hx⟩
  · rw [nth_setP, if_neg (by omega), nth_setP, if_pos rfl]; rfl
  · rw [nth_setP, if_pos rfl]; rfl
theorem cellI_ne {e : List D} {j j' : Nat} {x : Int} {a b : D} (h : cellI e j' x) (h1 : j' ≠ j) (h2 : j' ≠ j + 1) (h3 : j' + 1 ≠ j) : cellI (setP (setP e j a) (j + 1) b) j' x := by
  obtain ⟨s, v, g0, g1, g2, g3⟩ := h
  refine ⟨s, v, g0, ?_, ?_, g3⟩
  · rw [nth_setP, if_neg h2, nth_setP, if_neg h1]; exact g1
  · rw [nth_setP, if_neg (by omega), nth_setP, if_neg h3]; exact g2
theorem cell_sum {K : Nat} (hK : 2000 ≤ K) {e : List D} {j : Nat} {x a : Int} (h : cellI e j x) (hx0 : -TOP < x) (hx1 : x < TOP) {s2 : Bool} {v2 : Int} (h2 : 0 ≤ v2) (h3 : v2 < TOP) (ha : sgB s2 v2 = a) :
    ∃ s' v', F.r1_Sum_ro K (nth d0 e j).toB (nth d0 e (j + 1)).toL s2 (asD (rl v2)) = some (s', rl v') ∧ 0 ≤ v' ∧ sgB s' v' = x + a := by
  obtain ⟨s, v, g0, g1, g2, g3⟩ := h
  have gc := sgB_cases g0 g3
  rw [g1, g2, sum_ro, sum_ok hK g0 (by omega) h2 h3]
  obtain ⟨t0, t1, t2⟩ := sumS_val (b := s) (d := s2) g0 h2
  exact ⟨_, _, rfl, t0, by rw [t2, g3, ha]⟩
def C6 (e : List D) (S : Int → Int) : Prop := ∀ u, 0 ≤ u → u ≤ 3 → cellI e (u.toNat * 2) (S u)
def C7 (e : List D) (β : Int → Int → Int) : Prop := ∀ c u, 0 ≤ c → c ≤ 8 → 0 ≤ u → u ≤ 3 → cellI e (c.toNat * 8 + u.toNat * 2) (β c u)
def LQ (L : List (List D)) (q : List (List Int)) : Prop := L.length = q.length ∧ ∀ i, i < q.length → ∀ j, j < 5 → (nth d0 (nth [] L i) j).toI = nth 0 (nth [] q i) j
theorem ris13 (K : Nat) (c u : Int) : F.r13_Is K c u = some (decide (okA c u)) := by
  unfold F.r13_Is F.ref05_Cur
  simp only [bi_eq, decide_eq_true_eq]
  unfold okA
  by_cases h1 : c ≥ 1
  · rw [if_pos h1]
    by_cases h2 : c ≤ 8
    · rw [if_pos h2]
      by_cases h3 : u ≥ 0
      · rw [if_pos h3, oB]
        by_cases h4 : u < 4
        · rw [decide_eq_true h4, decide_eq_true (show 1 ≤ c ∧ c ≤ 8 ∧ 0 ≤ u ∧ u ≤ 3 from ⟨h1, h2, h3, by omega⟩)]
        · rw [decide_eq_false h4, decide_eq_false (show ¬(1 ≤ c ∧ c ≤ 8 ∧ 0 ≤ u ∧ u ≤ 3) from fun h => h4 (by omega))]
      · rw [if_neg h3, oB, decide_eq_false (show ¬(1 ≤ c ∧ c ≤ 8 ∧ 0 ≤ u ∧ u ≤ 3) from fun h => h3 h.2.2.1)]
    · rw [if_neg h2, decide_eq_false (show ¬(1 ≤ c ∧ c ≤ 8 ∧ 0 ≤ u ∧ u ≤ 3) from fun h => h2 h.2.1)]
  · rw [if_neg h1, decide_eq_false (show ¬(1 ≤ c ∧ c ≤ 8 ∧ 0 ≤ u ∧ u ≤ 3) from fun h => h1 h.1)]
theorem p10z32 : p10z 32 = 100000000000000000000000000000000 := by decide
theorem p10z36 : p10z 36 = 1000000000000000000000000000000000000 := by decide
theorem units13 {K : Nat} (hK : 40000 ≤ K) {x : List Int} (hx : wl x) : ∃ s v, F.r13_Units K (nth 0 x 2) (nth 0 x 3) (nth 0 x 4) = some (s, rl v, decide (okM x)) ∧ (okM x → 0 ≤ v ∧ v ≤ 100000000000000000000000000000000 ∧ sgB s v = am x) := by
  unfold F.r13_Units
  rw [form_ok, oB]
  simp only [bi_eq]
  by_cases f : Fm (nth 0 x 2) (nth 0 x 3) (nth 0 x 4)
  · rw [decide_eq_true f, Bool.not_true, if_neg (by decide)]
    by_cases s : nth 0 x 4 > 12
    · have n : ¬ okM x := fun h => by have := h.2.1; omega
      rw [if_pos (decide_eq_true s), decide_eq_false n]
      exact ⟨false, 0, by rw [rl_zero (by omega)], fun h => absurd h n⟩
    · rw [if_neg (by simpa using s), at_ok hK hx.1 hx.2 (by omega) (by have := f.1; omega) f.1 f.2.1, oB, rten_ok (by omega) (by omega) (by omega), oB]
      have hs := siz_bd hx.1 hx.2
      have hp := p10z_bd (k := 12 - nth 0 x 4) (by omega) (by have := f.1; omega)
      have hp12 : p10z (12 - nth 0 x 4) ≤ 1000000000000 := by
        have h1 : p10z (12 - nth 0 x 4) * p10z (nth 0 x 4) = 1000000000000 := by
          rw [← p10z_add (by omega) f.1]
          have : 12 - nth 0 x 4 + nth 0 x 4 = 12 := by omega
          rw [this]; rfl
        have h2 := p10z_pos (nth 0 x 4)
        rw [← h1]
        have h3 := Int.mul_le_mul_of_nonneg_left (show 1 ≤ p10z (nth 0 x 4) by omega) (show 0 ≤ p10z (12 - nth 0 x 4) by omega)
        rw [Int.mul_one] at h3
        exact h3
      have hv := mul_bd hs.1 hs.2 (show 0 ≤ p10z (12 - nth 0 x 4) by omega) hp12
      have hsg : sgB (decide (nth 0 x 2 < 0)) (siz (nth 0 x 2) (nth 0 x 3) * p10z (12 - nth 0 x 4)) = am x := by
        unfold sgB siz am
        by_cases c : nth 0 x 2 < 0
        · rw [if_pos (decide_eq_true c), if_pos c, ← Int.neg_mul, Int.neg_neg]
        · rw [if_neg (by simpa using c), if_neg c]
      have hlen : (rl (siz (nth 0 x 2) (nth 0 x 3) * p10z (12 - nth 0 x 4))).length ≤ 1000 := Nat.le_trans (len_top (by unfold TOP; omega)) (by decide)
      rw [compare_ok (by omega) hv.1 (by rw [p10z32]; omega) hlen, oB, cmp3_le, p10z32]
      have hc := sgB_cases hv.1 hsg
      have e : decide (siz (nth 0 x 2) (nth 0 x 3) * p10z (12 - nth 0 x 4) ≤ 100000000000000000000000000000000) = decide (okM x) := by
        rw [decide_eq_decide]
        exact ⟨fun h => ⟨f, by omega, by omega, by omega⟩, fun h => by have := h.2.2; omega⟩
      rw [e]
      exact ⟨_, _, rfl, fun h => ⟨hv.1, by have := h.2.2; omega, hsg⟩⟩
  · have n : ¬ okM x := fun h => f h.1
    rw [decide_eq_false f, Bool.not_false, if_pos rfl, decide_eq_false n]
    exact ⟨false, 0, by rw [rl_zero (by omega)], fun h => absurd h n⟩
def fM (q : List (List Int)) : List (List Int) := q.filter fun x => decide (okM x)
theorem fM_pos {x : List Int} {q : List (List Int)} (h : okM x) : fM (x :: q) = x :: fM q := by unfold fM; rw [List.filter_cons_of_pos (by simpa using h)]
theorem fM_neg {x : List Int} {q : List (List Int)} (h : ¬ okM x) : fM (x :: q) = fM q := by unfold fM; rw [List.filter_cons_of_neg (by simpa using h)]
theorem fM_all {q : List (List Int)} (h : allM q = true) : fM q = q := by unfold fM; rw [List.filter_eq_self]; exact fun x hx => List.all_eq_true.1 h x hx
theorem inr3 {c n : Int} (h0 : 0 ≤ c) (h1 : c < n) : (Decidable.decide (0 ≤ c) && Decidable.decide (c < n)) = true := by simp; omega
theorem isucc {x : Int} (h0 : 0 ≤ x) (h1 : x < 1000) : IntKind.i64.wrap (x + 1) = x + 1 := iw (by omega) (by omega)
theorem sign_cell (K : Nat) {s : Bool} {v x : Int} (h : 0 ≤ v) (e : sgB s v = x) : ∃ r, F.r1_Sign_ro K s (asD (rl v)) = some r ∧ (r = 0 ↔ x = 0) := by
  refine ⟨_, by rw [sign_ro, rsign_ok K h, e], ?_⟩
  unfold cmp3; split
  · omega
  · split <;> omega
end Go.Proofs.Ytimhhefngigfeaa.Wide

namespace Go.Proofs.Ytimhhefngigfeaa.Wide
open Go Go.RowKit Go.Proofs.Ytimhhefngigfeaa.Vm
def rowT (β : Int → Int → Int) (c : Int) : Nat → Int → List (List Int)
  | 0, _ => []
  | n + 1, u => (if β c u = 0 then [] else [[c, u, β c u / 18446744073709551616, β c u % 18446744073709551616, 12]]) ++ rowT β c n (u + 1)
def trT (β : Int → Int → Int) : Nat → Int → List (List Int)
  | 0, _ => []
  | n + 1, c => rowT β c 4 0 ++ trT β n (c + 1)
def trL (β : Int → Int → Int) : List (List Int) := trT β 8 1
theorem rowT_len (β : Int → Int → Int) (c : Int) : ∀ n u, (rowT β c n u).length ≤ n
  | 0, _ => by simp [rowT]
  | n + 1, u => by
    have := rowT_len β c n (u + 1)
    unfold rowT
    rw [List.length_append]
    split
    · simp; omega
    · simp; omega
theorem trial8 {K : Nat} {m : List (List Int × List Int)} {β : Int → Int → Int} (h : LM okA m β) (c x : Int) : ∀ (n k : Nat) (u : Int) (Q : List (List Int)), 0 ≤ u → u + n = 4 → n < k → Q.length + n ≤ 1000 →
    F.cL_Trial_l8 K k Q c u m x = some (Q ++ rowT β c n u, c, m, x) := by
  intro n
  induction n with
  | zero =>
    intro k u Q u0 un hk hQ
    obtain ⟨k, rfl⟩ : ∃ j, k = j + 1 := ⟨k - 1, by omega⟩
    unfold F.cL_Trial_l8
    simp only [bi_eq]
    rw [if_neg (by simp; omega)]
    simp [rowT]
  | succ n ih =>
    intro k u Q u0 un hk hQ
    obtain ⟨k, rfl⟩ : ∃ j, k = j + 1 := ⟨k - 1, by omega⟩
    unfold F.cL_Trial_l8 F.ct_nought
    simp only [bi_eq]
    rw [if_pos (by simp; omega), at13 K h, oB, oB, isucc u0 (by omega)]
    simp only
    unfold rowT
    by_cases z : β c u = 0
    · rw [if_pos z, z, if_neg (by decide), ih k (u + 1) Q (by omega) (by omega) (by omega) (by omega)]
      simp
    · rw [if_neg z, if_pos, if_pos (decide_eq_true (by omega)), ih k (u + 1) _ (by omega) (by omega) (by omega) (by simp; omega), List.append_assoc]
      have : ¬ (β c u / 18446744073709551616 = 0 ∧ β c u % 18446744073709551616 = 0) := by omega
      rw [Bool.not_eq_true']
      rw [← Bool.not_eq_true]
      simp only [Bool.and_eq_true, beq_iff_eq]
      exact fun hh => this ⟨hh.1, hh.2.1⟩
theorem trial5 {K : Nat} (hK : 100 ≤ K) {m : List (List Int × List Int)} {β : Int → Int → Int} (h : LM okA m β) (x : Int) : ∀ (n k : Nat) (c : Int) (Q : List (List Int)), 0 ≤ c → c + n = 9 → n < k → Q.length + 4 * n ≤ 1000 →
    F.cL_Trial_l5 K k Q c m x = some (Q ++ trT β n c, m, x) := by
  intro n
  induction n with
  | zero =>
    intro k c Q c0 cn hk hQ
    obtain ⟨k, rfl⟩ : ∃ j, k = j + 1 := ⟨k - 1, by omega⟩
    unfold F.cL_Trial_l5
    simp only [bi_eq]
    rw [if_neg (by simp; omega)]
    simp [trT]
  | succ n ih =>
    intro k c Q c0 cn hk hQ
    obtain ⟨k, rfl⟩ : ∃ j, k = j + 1 := ⟨k - 1, by omega⟩
    unfold F.cL_Trial_l5
    simp only [bi_eq]
    have hr := rowT_len β c 4 0
    rw [if_pos (by simp; omega), trial8 h c x 4 K 0 Q (by omega) (by omega) (by omega) (by omega), oB, isucc c0 (by omega)]
    rw [ih k (c + 1) _ (by omega) (by omega) (by omega) (by rw [List.length_append]; omega), List.append_assoc]
    rfl
theorem trial13 {K : Nat} (hK : 100 ≤ K) {m : List (List Int × List Int)} {β : Int → Int → Int} (h : LM okA m β) (x : Int) : F.cL_Trial K m x = some (trL β, m, x) := by
  unfold F.cL_Trial
  rw [trial5 hK h x 8 K 1 [] (by omega) (by omega) (by omega) (by simp), oB]
  rfl
-- the document's
theorem rbal13 {K : Nat} (hK : 40000 ≤ K) {e : List D} {β : Int → Int → Int} (h7 : C7 e β) (hb : ∀ c u, P36 (β c u)) {c u : Int} (c0 : 0 ≤ c) (c1 : c ≤ 8) (u0 : 0 ≤ u) (u1 : u ≤ 3) : F.r13_Balance K e c u = some (β c u / 18446744073709551616, β c u % 18446744073709551616, 12, e) := by
  unfold F.r13_Balance
  obtain ⟨s, v, g0, g1, g2, g3⟩ := h7 c u c0 c1 u0 u1
  have gc := sgB_cases g0 g3
  have hp := hb c u
  unfold P36 at hp
  simp only [bi_eq, toL_l, Nat.zero_add]
  rw [inr3 (n := 9) c0 (by omega), inr3 (n := 4) u0 (by omega), if_pos rfl, if_pos rfl, g1, g2, dec_ro, rdec_ok hK g0 (by unfold TOP; omega), togD_pack g0, g3]
  unfold pack
  rw [if_pos (by omega)]
  rfl
abbrev asQ (L : List (List D)) : List (List Int) := List.map (fun r => [(nth d0 r 0).toI, (nth d0 r 1).toI, (nth d0 r 2).toI, (nth d0 r 3).toI, (nth d0 r 4).toI]) L
theorem asQ_LQ (L : List (List D)) : LQ L (asQ L) := by
  refine ⟨(List.length_map _).symm, fun i hi j hj => ?_⟩
  have hi' : i < L.length := by rw [List.length_map] at hi; exact hi
  rw [nth_lt [] hi', nth_lt [] hi, List.getElem_map]
  have : j = 0 ∨ j = 1 ∨ j = 2 ∨ j = 3 ∨ j = 4 := by omega
  rcases this with rfl | rfl | rfl | rfl | rfl <;> rfl
end Go.Proofs.Ytimhhefngigfeaa.Wide

namespace Go.Proofs.Ytimhhefngigfeaa.Wide
open Go Go.RowKit Go.Proofs.Ytimhhefngigfeaa.Vm
def ex1 : List (List Int) := [[1, 0, 0, 5, 0], [2, 0, -1, 18446744073709551611, 0]]
def ex2 : List (List Int) := [[1, 0, 0, 5, 0], [2, 1, -1, 18446744073709551611, 0]]
theorem wl_ex {a b c d e : Int} (h : I64 c) (h' : Word d) : wl [a, b, c, d, e] := ⟨h, h'⟩
theorem wl1 : WL ex1 := by
  intro x hx
  simp only [ex1, List.mem_cons, List.not_mem_nil, or_false] at hx
  rcases hx with rfl | rfl
  · exact wl_ex (by unfold I64; omega) (by unfold Word; omega)
  · exact wl_ex (by unfold I64; omega) (by unfold Word; omega)
theorem wl2 : WL ex2 := by
  intro x hx
  simp only [ex2, List.mem_cons, List.not_mem_nil, or_false] at hx
  rcases hx with rfl | rfl
  · exact wl_ex (by unfold I64; omega) (by unfold Word; omega)
  · exact wl_ex (by unfold I64; omega) (by unfold Word; omega)
theorem chk1 : chk ex1 = 0 := by kernel_rfl
theorem chk2 : chk ex2 = 0 := by kernel_rfl
theorem am1 : am [1, 0, 0, 5, 0] = 5000000000000 := by kernel_rfl
theorem am2 : am [2, 0, -1, 18446744073709551611, 0] = -5000000000000 := by kernel_rfl
theorem am3 : am [2, 1, -1, 18446744073709551611, 0] = -5000000000000 := by kernel_rfl
theorem sumL1 (c u : Int) : sumL c u ex1 = (if 1 = c ∧ 0 = u then 5000000000000 else 0) + ((if 2 = c ∧ 0 = u then -5000000000000 else 0) + 0) := by
  simp only [ex1, sumL, am1, am2, nth]
theorem sumL2 (c u : Int) : sumL c u ex2 = (if 1 = c ∧ 0 = u then 5000000000000 else 0) + ((if 2 = c ∧ 1 = u then -5000000000000 else 0) + 0) := by
  simp only [ex2, sumL, am1, am3, nth]
theorem code1 : codeP (fun _ _ => 0) ex1 = 0 := by
  unfold codeP
  have g : ∀ c u, P36 (addQ (fun _ _ => 0) ex1 c u) := fun c u => by
    unfold addQ P36; simp only [sumL1]; split <;> split <;> omega
  have g2 : ∀ u, sumC u ex1 = 0 := fun u => by
    simp only [ex1, sumC, am1, am2, nth]; split <;> omega
  rw [if_neg (by simpa using chk1), if_neg (by simpa using g), if_neg (by simpa using g2)]
theorem code2 : codeP (addQ (fun _ _ => 0) ex1) ex2 = 15 := by
  unfold codeP
  have g : ∀ c u, P36 (addQ (addQ (fun _ _ => 0) ex1) ex2 c u) := fun c u => by
    unfold addQ P36; simp only [sumL1, sumL2]; split <;> split <;> split <;> omega
  have g2 : ¬ ∀ u, sumC u ex2 = 0 := fun h => by
    have := h 0
    simp [ex2, sumC, am1, am3, nth] at this
  rw [if_neg (by simpa using chk2), if_neg (by simpa using g), if_pos g2]
theorem trL1 : trL (addQ (fun _ _ => 0) ex1) = [[1, 0, 0, 5000000000000, 12], [2, 0, -1, 18446739073709551616, 12]] := by
  kernel_rfl
theorem awake13 {K : Nat} (hK : 50000 ≤ K) : F.law13_awake K = some true := by
  unfold F.law13_awake
  have l1 : F.law13_line K 1 0 5 = some (1, 0, 0, 5, 0) := by kernel_rfl
  have l2 : F.law13_line K 2 0 (-5) = some (2, 0, -1, 18446744073709551611, 0) := by kernel_rfl
  have l3 : F.law13_line K 2 1 (-5) = some (2, 1, -1, 18446744073709551611, 0) := by kernel_rfl
  have z36 : ∀ c u : Int, P36 ((fun _ _ => 0 : Int → Int → Int) c u) := fun c u => by unfold P36; simp
  have e1 : F.cL_Post K [] 0 ex1 = F.cL_Post K [] 0 [[1, 0, 0, 5, 0], [2, 0, -1, 18446744073709551611, 0]] := rfl
  have e2 : ∀ m, F.cL_Post K m 1 ex2 = F.cL_Post K m 1 [[1, 0, 0, 5, 0], [2, 1, -1, 18446744073709551611, 0]] := fun m => rfl
  obtain ⟨m1, p1, q1, r1⟩ := post13 (K := K) wl1 (by decide) (by simp [ex1]; omega) (LM.empty okA) z36 (n := 0) (by omega) (by omega)
  have n1 : nextP (fun _ _ => 0) ex1 = addQ (fun _ _ => 0) ex1 := by unfold nextP; rw [if_pos code1]
  rw [n1] at q1 r1
  rw [code1, if_pos rfl] at p1
  obtain ⟨m2, p2, q2, r2⟩ := post13 (K := K) wl2 (by decide) (by simp [ex2]; omega) q1 r1 (n := 0 + 1) (by omega) (by omega)
  have n2 : nextP (addQ (fun _ _ => 0) ex1) ex2 = addQ (fun _ _ => 0) ex1 := by unfold nextP; rw [code2, if_neg (by decide)]
  rw [n2] at q2 r2
  rw [code2, if_neg (by decide)] at p2
  rw [e1] at p1
  rw [show (0 : Int) + 1 = 1 from rfl] at p1 p2
  rw [e2] at p2
  have nw : F.ct_New K = some ([], 0) := rfl
  have b1 : F.cL_Balance K m2 1 1 0 = some (0, 5000000000000, 12, 0, m2, 1) := by
    unfold F.cL_Balance
    rw [is13, oB, decide_eq_true (by unfold okA; omega), at13 K q2]
    have : addQ (fun _ _ => 0) ex1 1 0 = 5000000000000 := by unfold addQ; rw [sumL1]; decide
    rw [this]; rfl
  have en : F.cL_Entries K m2 1 = some (1, m2, 1) := rfl
  have tr := trial13 (K := K) (by omega) q2 1
  rw [trL1] at tr
  simp only [nw, l1, l2, l3, p1, p2, b1, en, tr, oB, bi_eq]
  rfl
end Go.Proofs.Ytimhhefngigfeaa.Wide

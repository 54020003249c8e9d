/- What package accrue answers where its arguments are right: tiers, parts, interest. Conditions: amounts and rates within their ranges. -/
import Derived.Test.YtppdgohcgklinaaFD
import Derived.Test.YtppdgohcgklinaaPAa
set_option linter.unusedVariables false
set_option linter.unusedSimpArgs false
namespace Go.Proofs.Ytppdgohcgklinaa.Wide
open Go Go.RowKit Go.Proofs.Ytppdgohcgklinaa.Vm
theorem absI_pos {x : Int} (h : 0 ≤ x) : absI x = x := by unfold absI; rw [if_neg (by omega)]
theorem int_pos_ok {K : Nat} (hK : 400 ≤ K) {x : Int} (x0 : 0 ≤ x) (x1 : x < 170141183460469231731687303715884105728) : F.dec_Int K (x / 18446744073709551616) (x % 18446744073709551616) 0 = some (if x ≤ 9223372036854775807 then (x, 0) else (0, 4)) := by
  obtain ⟨p0, p1, p2, p3⟩ := packed (c := x) (sc := 0) (by omega) x1 (by decide) (by decide)
  obtain ⟨sx, dx⟩ := siz_parts (x := x) (by omega) x1
  rw [dint_ok hK p0 p1, if_pos p2, sx, dx, absI_pos x0, p10z_zero, Int.ediv_one, Int.emod_one]
  rw [show decide (x < 0) = false by simp; omega]
  unfold sgB I64
  by_cases c : x ≤ 9223372036854775807
  · rw [if_pos c]; simp [c]; omega
  · rw [if_neg c]; simp [c]
theorem quo_any_ok {K : Nat} (hK : 400 ≤ K) {x y m : Int} (x0 : 0 ≤ x) (x1 : x < 170141183460469231731687303715884105728) (y0 : 0 < y) (y1 : y < 170141183460469231731687303715884105728) (m0 : 0 ≤ m) (m1 : m ≤ 6) :
    F.dec_Quo K (x / 18446744073709551616) (x % 18446744073709551616) 0 (y / 18446744073709551616) (y % 18446744073709551616) 0 0 m = some (pack (roundS false x y m) 0) := by
  obtain ⟨p0, p1, p2, p3⟩ := packed (c := x) (sc := 0) (by omega) x1 (by decide) (by decide)
  obtain ⟨q0, q1, q2, q3⟩ := packed (c := y) (sc := 0) (by omega) y1 (by decide) (by decide)
  obtain ⟨sx, dx⟩ := siz_parts (x := x) (by omega) x1
  obtain ⟨sz, dz⟩ := siz_parts (x := y) (by omega) y1
  have n := roundS_nonneg (m := false) (mode := m) x0 y0
  rw [dquo_ok hK p0 p1 q0 q1, if_pos (show Wy 0 m by unfold Wy; omega), if_pos ⟨p2, q2⟩, sx, sz, dx, dz, absI_pos x0, absI_pos (Int.le_of_lt y0), if_neg (by omega), if_pos (by decide)]
  rw [show decide (x < 0) = false by simp; omega, show decide (y < 0) = false by simp; omega, show (0 : Int) + 0 - 0 = 0 from rfl, p10z_zero, Int.mul_one]
  rw [show (!false == false) = false from rfl, togD_pack n.1]
  rfl
theorem aof_ok (K : Nat) {n : Int} (h0 : 0 ≤ n) (h1 : n ≤ 9223372036854775807) : F.accrue_of K n = some (n / 18446744073709551616, n % 18446744073709551616, 0) := by
  unfold F.accrue_of
  rw [decof_ok K (show I64 n by unfold I64; omega), if_pos (by decide), pack_in (by omega) (by omega), Option.bind_some]
theorem atimes_ok {K : Nat} (hK : 400 ≤ K) {x z : Int} (x0 : 0 ≤ x) (x1 : x < 170141183460469231731687303715884105728) (z0 : 0 ≤ z) (z1 : z < 170141183460469231731687303715884105728) (h : x * z < 170141183460469231731687303715884105728) :
    F.accrue_times K (x / 18446744073709551616) (x % 18446744073709551616) 0 (z / 18446744073709551616) (z % 18446744073709551616) 0 = some (x * z / 18446744073709551616, x * z % 18446744073709551616, 0) := by
  have em := mul_exact hK (x := x) (z := z) (s := 0) (t := 0) (m := 0) (by omega) x1 (by omega) z1 (by decide) (by decide) (by decide) (by decide) (by decide)
  have n := Int.mul_nonneg x0 z0
  rw [show (0 : Int) + 0 = 0 from rfl, pack_in (by omega) h] at em
  unfold F.accrue_times
  rw [em, Option.bind_some]
theorem amount_ok (K : Nat) (n : Int) : F.accrue_amount K n = some (decide (0 ≤ n ∧ n ≤ 10000000000000)) := by
  unfold F.accrue_amount
  rw [bi_eq]
  by_cases c : n ≥ 0 <;> simp [c]
theorem pwithin_ok (K : Nat) (n m : Int) : F.prod_within K n m = some (decide (0 ≤ n ∧ n ≤ m)) := by
  unfold F.prod_within
  rw [bi_eq]
  by_cases c : n ≥ 0 <;> simp [c]
/-- A tier: from which amount on, at which rate. -/
abbrev fr (q : List (List Int)) (i : Nat) : Int := nth 0 (nth [] q i) 0
abbrev rt (q : List (List Int)) (i : Nat) : Int := nth 0 (nth [] q i) 1
/-- A tier that may not stand there. -/
def TB (q : List (List Int)) (i : Nat) : Prop := (0 < i ∧ fr q i ≤ fr q (i - 1)) ∨ 10000000000000 < fr q i ∨ rt q i < 0 ∨ 1000000000 < rt q i
instance (q : List (List Int)) (i : Nat) : Decidable (TB q i) := by unfold TB; infer_instance
theorem tiers_step {K k : Nat} {q : List (List Int)} (hq : q.length ≤ 1000) {i : Nat} (hi : i < q.length) : F.prod_Tiers_l6 K (k + 1) q q (q.length : Int) (i : Int) = if TB q i then some (.inr 3) else F.prod_Tiers_l6 K k q q (q.length : Int) ((i + 1 : Nat) : Int) := by
  rw [F.prod_Tiers_l6]
  have c1 : (i : Int) < (q.length : Int) := by omega
  have w1 : IntKind.i64.wrap ((i : Int) + 1) = ((i + 1 : Nat) : Int) := by rw [iw (by omega) (by omega)]; omega
  simp only [bi_eq, pwithin_ok, Option.bind_some, w1, Int.toNat_natCast]
  unfold TB
  by_cases c0 : 0 < i
  · have c0' : (i : Int) > 0 := by omega
    have w2 : IntKind.i64.wrap ((i : Int) - 1) = ((i - 1 : Nat) : Int) := by rw [iw (by omega) (by omega)]; omega
    have c2 : ((i - 1 : Nat) : Int) < (q.length : Int) := by omega
    simp only [w2, Int.toNat_natCast]
    by_cases d1 : nth 0 (nth [] q i) 0 ≤ nth 0 (nth [] q (i - 1)) 0
    · simp [c0, c0', c1, c2, d1]
    · by_cases d2 : nth 0 (nth [] q i) 0 > 10000000000000
      · have d2' : 10000000000000 < nth 0 (nth [] q i) 0 := d2
        simp [c0, c0', c1, c2, d1, d2']
      · have d2' : ¬ 10000000000000 < nth 0 (nth [] q i) 0 := d2
        by_cases d3 : 0 ≤ nth 0 (nth [] q i) 1 ∧ nth 0 (nth [] q i) 1 ≤ 1000000000
        · have d4 : ¬ (nth 0 (nth [] q i) 1 < 0) := by omega
          have d5 : ¬ (1000000000 < nth 0 (nth [] q i) 1) := by omega
          simp [c0, c0', c1, c2, d1, d2', d3, d4, d5]
        · have d4 : nth 0 (nth [] q i) 1 < 0 ∨ 1000000000 < nth 0 (nth [] q i) 1 := by omega
          simp [c0, c0', c1, c2, d1, d2', d3, d4]
  · have c0' : ¬ (i : Int) > 0 := by omega
    by_cases d2 : nth 0 (nth [] q i) 0 > 10000000000000
    · have d2' : 10000000000000 < nth 0 (nth [] q i) 0 := d2
      simp [c0, c0', c1, d2']
    · have d2' : ¬ 10000000000000 < nth 0 (nth [] q i) 0 := d2
      by_cases d3 : 0 ≤ nth 0 (nth [] q i) 1 ∧ nth 0 (nth [] q i) 1 ≤ 1000000000
      · have d4 : ¬ (nth 0 (nth [] q i) 1 < 0) := by omega
        have d5 : ¬ (1000000000 < nth 0 (nth [] q i) 1) := by omega
        simp [c0, c0', c1, d2', d3, d4, d5]
      · have d4 : nth 0 (nth [] q i) 1 < 0 ∨ 1000000000 < nth 0 (nth [] q i) 1 := by omega
        simp [c0, c0', c1, d2', d3, d4]
/-- Tiers in form. -/
def Tok (q : List (List Int)) : Prop := 0 < q.length ∧ q.length ≤ 8 ∧ fr q 0 = 0 ∧ ∀ i, i < q.length → ¬ TB q i
theorem tiers_loop {K : Nat} {q : List (List Int)} (hq : q.length ≤ 1000) : ∀ (k i : Nat), i ≤ q.length → q.length - i < k → ((∀ j, i ≤ j → j < q.length → ¬ TB q j) → F.prod_Tiers_l6 K k q q (q.length : Int) (i : Int) = some (.inl ())) ∧
    ((∃ j, i ≤ j ∧ j < q.length ∧ TB q j) → F.prod_Tiers_l6 K k q q (q.length : Int) (i : Int) = some (.inr 3))
  | 0, i, _, h => by omega
  | k + 1, i, hi, h => by
    by_cases c : i < q.length
    · have ih := tiers_loop (K := K) hq k (i + 1) (by omega) (by omega)
      rw [tiers_step hq c]
      constructor
      · intro hn
        rw [if_neg (hn i (Nat.le_refl _) c)]
        exact ih.1 fun j h1 h2 => hn j (by omega) h2
      · rintro ⟨j, h1, h2, h3⟩
        by_cases t : TB q i
        · rw [if_pos t]
        · rw [if_neg t]
          have : j ≠ i := fun e => t (e ▸ h3)
          exact ih.2 ⟨j, by omega, h2, h3⟩
    · constructor
      · intro _
        rw [F.prod_Tiers_l6, bi_eq, if_neg (by simp; omega)]
      · rintro ⟨j, h1, h2, _⟩; omega
theorem tiers_ok (K : Nat) (hK : 100 ≤ K) (q : List (List Int)) (h : Tok q) : F.prod_Tiers K q = some 0 := by
  obtain ⟨h1, h2, h3, h4⟩ := h
  have key := (tiers_loop (K := K) (q := q) (by omega) K 0 (by omega) (by omega)).1 fun j _ hj => h4 j hj
  have key' : F.prod_Tiers_l6 K K q q (q.length : Int) 0 = some (.inl ()) := key
  unfold F.prod_Tiers
  have h3' : nth 0 (nth [] q 0) 0 = 0 := h3
  have a1 : ¬ 8 < q.length := by omega
  have a2 : ¬ q = [] := by intro e; subst e; simp at h1
  simp only [bi_eq, key', h3']
  rw [if_neg (by simp; omega), if_neg (by simpa using a2), if_pos (by simpa using h1), if_neg (by decide)]
  rfl
/-- The code of tiers. -/
theorem tiers_bad (K : Nat) (hK : 100 ≤ K) (q : List (List Int)) (h : ¬ Tok q) : F.prod_Tiers K q = some (if 8 < q.length then 2 else 3) := by
  unfold F.prod_Tiers
  simp only [bi_eq]
  by_cases a1 : 8 < q.length
  · rw [if_pos (by simp; omega), if_pos a1]
  · rw [if_neg (by simp; omega), if_neg a1]
    by_cases a2 : q = []
    · subst a2; rfl
    · have a3 : 0 < q.length := by cases q with | nil => exact absurd rfl a2 | cons x l => simp
      rw [if_neg (by simpa using a2), if_pos (by simpa using a3)]
      by_cases a4 : nth 0 (nth [] q 0) 0 = 0
      · have hex : ∃ j, 0 ≤ j ∧ j < q.length ∧ TB q j := by
          by_cases g : ∃ j, 0 ≤ j ∧ j < q.length ∧ TB q j
          · exact g
          · exact absurd ⟨a3, by omega, a4, fun i hi ht => g ⟨i, by omega, hi, ht⟩⟩ h
        have key := (tiers_loop (K := K) (q := q) (by omega) K 0 (by omega) (by omega)).2 hex
        have key' : F.prod_Tiers_l6 K K q q (q.length : Int) 0 = some (.inr 3) := key
        rw [if_neg (by simpa using a4), key']; rfl
      · rw [if_pos (by simpa using a4)]
theorem tok_mono {q : List (List Int)} (h : Tok q) : ∀ (d i : Nat), i + d < q.length → fr q i + d ≤ fr q (i + d)
  | 0, i, hi => by simp
  | d + 1, i, hi => by
    have ih := tok_mono h d i (by omega)
    have := h.2.2.2 (i + (d + 1)) hi
    unfold TB at this
    rw [show i + (d + 1) - 1 = i + d by omega] at this
    omega
theorem tok_bd {q : List (List Int)} (h : Tok q) {i : Nat} (hi : i < q.length) : 0 ≤ fr q i ∧ fr q i ≤ 10000000000000 ∧ 0 ≤ rt q i ∧ rt q i ≤ 1000000000 := by
  have m := tok_mono h i 0 (by omega)
  have z := h.2.2.1
  have t := h.2.2.2 i hi
  unfold TB at t
  rw [Nat.zero_add] at m
  omega
/-- How much of a balance lies in a tier. -/
def pt (q : List (List Int)) (b : Int) (i : Nat) : Int := if b ≤ fr q i then 0 else if i + 1 < q.length ∧ fr q (i + 1) < b then fr q (i + 1) - fr q i else b - fr q i
theorem pt_bd {q : List (List Int)} (h : Tok q) {b : Int} (b0 : 0 ≤ b) (b1 : b ≤ 10000000000000) {i : Nat} (hi : i < q.length) : 0 ≤ pt q b i ∧ pt q b i ≤ 10000000000000 := by
  have t := tok_bd h hi
  unfold pt
  split
  · omega
  · split
    · rename_i hc
      have m := tok_mono h 1 i hc.1
      have t2 := tok_bd h hc.1
      omega
    · omega
theorem aparts_loop {K : Nat} {q : List (List Int)} (h : Tok q) {b : Int} (b0 : 0 ≤ b) (b1 : b ≤ 10000000000000) : ∀ (k m : Nat) (x : Int) (l : List Int), m ≤ q.length → m < k → l.length = q.length → x = (if m < q.length ∧ fr q m < b then fr q m else b) → (∀ j, j < m → nth 0 l j = 0) → (∀ j, m ≤ j → j < q.length → nth 0 l j = pt q b j) →
    ∃ r, F.accrue_parts_l3 K k x q l ((m : Int) - 1) = some r ∧ r.length = q.length ∧ ∀ j, j < q.length → nth 0 r j = pt q b j
  | 0, m, x, l, _, hk, _, _, _, _ => by omega
  | k + 1, m, x, l, hm, hk, hl, hx, hz, hp => by
    rw [F.accrue_parts_l3]
    cases m with
    | zero =>
      rw [bi_eq, if_neg (by simp)]
      exact ⟨l, rfl, hl, fun j hj => hp j (by omega) hj⟩
    | succ m =>
      have hq8 := h.2.1
      have e1 : ((m + 1 : Nat) : Int) - 1 = (m : Int) := by omega
      have w1 : IntKind.i64.wrap ((m : Int) - 1) = (m : Int) - 1 := iw (by omega) (by omega)
      have c1 : (m : Int) < (q.length : Int) := by omega
      have c2 : (m : Int) < (l.length : Int) := by omega
      have t := tok_bd h (i := m) (by omega)
      have t1 : nth 0 (nth [] q m) 0 = fr q m := rfl
      rw [e1]
      simp only [bi_eq, Int.toNat_natCast, w1, t1]
      have hxb : 0 ≤ x ∧ x ≤ 10000000000000 := by
        rw [hx]; split
        · rename_i hc; have := tok_bd h hc.1; omega
        · omega
      have hlt : m + 1 < q.length → fr q m + 1 ≤ fr q (m + 1) := fun h' => tok_mono h 1 m h'
      by_cases g : x > fr q m
      · have hb : fr q m < b := by
          rw [hx] at g; split at g
          · rename_i hc; omega
          · exact g
        have w2 : IntKind.i64.wrap (x - fr q m) = x - fr q m := iw (by omega) (by omega)
        have ep : x - fr q m = pt q b m := by
          unfold pt
          rw [if_neg (by omega), hx]
          by_cases hc : m + 1 < q.length ∧ fr q (m + 1) < b
          · rw [if_pos hc, if_pos hc]
          · rw [if_neg hc, if_neg hc]
        obtain ⟨r, e, r1, r2⟩ := aparts_loop (K := K) h b0 b1 k m (fr q m) (l.set m (x - fr q m)) (by omega) (by omega) (by simpa using hl) (by rw [if_pos ⟨by omega, hb⟩]) (fun j hj => by rw [nth_set_ne _ (by omega)]; exact hz j (by omega)) (fun j h1 h2 => by
          by_cases e : j = m
          · subst e; rw [nth_set _ (by omega), ep]
          · rw [nth_set_ne _ (by omega)]; exact hp j (by omega) h2)
        refine ⟨r, ?_, r1, r2⟩
        simp [c1, c2, g, w2, e]
      · have hb : ¬ fr q m < b := by
          rw [hx] at g; split at g
          · rename_i hc; have := hlt hc.1; omega
          · omega
        have ep : 0 = pt q b m := by unfold pt; rw [if_pos (by omega)]
        have hxx : x = b := by
          rw [hx]; split
          · rename_i hc; have := hlt hc.1; omega
          · rfl
        obtain ⟨r, e, r1, r2⟩ := aparts_loop (K := K) h b0 b1 k m x l (by omega) (by omega) hl (by rw [if_neg (fun hc => hb hc.2)]; exact hxx) (fun j hj => hz j (by omega)) (fun j h1 h2 => by
          by_cases e : j = m
          · subst e; rw [← ep]; exact hz j (by omega)
          · exact hp j (by omega) h2)
        refine ⟨r, ?_, r1, r2⟩
        simp [c1, c2, g, e]
theorem list_nth_ext : ∀ {l m : List Int}, l.length = m.length → (∀ j, j < l.length → nth 0 l j = nth 0 m j) → l = m
  | [], [], _, _ => rfl
  | x :: l, y :: m, hl, h => by
    have h0 := h 0 (by simp)
    simp only [nth] at h0
    rw [h0, list_nth_ext (l := l) (m := m) (by simpa using hl) fun j hj => by simpa [nth] using h (j + 1) (by simpa using hj)]
  | [], _ :: _, hl, _ => by simp at hl
  | _ :: _, [], hl, _ => by simp at hl
theorem nth_map_range (f : Nat → Int) (n j : Nat) (h : j < n) : nth 0 ((List.range n).map f) j = f j := by
  rw [nth_eq, List.getD_eq_getElem?_getD, List.getElem?_map, List.getElem?_range h]; rfl
def ptl (q : List (List Int)) (b : Int) : List Int := (List.range q.length).map (pt q b)
theorem nth_repl (n j : Nat) : nth 0 (List.replicate n (0 : Int)) j = 0 := by
  rw [nth_eq, List.getD_eq_getElem?_getD, List.getElem?_replicate]; split <;> rfl
theorem aparts_ok {K : Nat} (hK : 100 ≤ K) {q : List (List Int)} (h : Tok q) {b : Int} (b0 : 0 ≤ b) (b1 : b ≤ 10000000000000) : F.accrue_parts K b q = some (ptl q b) := by
  have hq8 := h.2.1
  obtain ⟨r, e, r1, r2⟩ := aparts_loop (K := K) h b0 b1 K q.length b (List.replicate (↑q.length : Int).toNat 0) (Nat.le_refl _) (by omega) (by simp) (by rw [if_neg (by omega)]) (fun j _ => nth_repl _ _) (fun j h1 h2 => by omega)
  unfold F.accrue_parts
  rw [bi_eq, if_pos (by simp; omega), show IntKind.i64.wrap ((q.length : Int) - 1) = (q.length : Int) - 1 from iw (by omega) (by omega), e, Option.bind_some]
  congr 1
  refine list_nth_ext (by simp [ptl, r1]) fun j hj => ?_
  rw [r2 j (by omega), ptl, nth_map_range _ _ _ (by omega)]
/-- The sum of products. -/
def dsum (q : List (List Int)) (l : List Int) : Nat → Int
  | 0 => 0
  | i + 1 => dsum q l i + nth 0 l i * rt q i
theorem dsum_bd {q : List (List Int)} (h : Tok q) {l : List Int} (hl : ∀ j, j < q.length → 0 ≤ nth 0 l j ∧ nth 0 l j ≤ 10000000000000) : ∀ i, i ≤ q.length → 0 ≤ dsum q l i ∧ dsum q l i ≤ 10000000000000000000000 * i
  | 0, _ => by simp [dsum]
  | i + 1, hi => by
    have ih := dsum_bd h hl i (by omega)
    have t := tok_bd h (i := i) (by omega)
    have b := mul_bd (hl i (by omega)).1 (hl i (by omega)).2 t.2.2.1 t.2.2.2
    simp only [dsum]
    omega
theorem daily_loop {K : Nat} (hK : 400 ≤ K) {q : List (List Int)} (h : Tok q) {l : List Int} (hll : l.length = q.length) (hl : ∀ j, j < q.length → 0 ≤ nth 0 l j ∧ nth 0 l j ≤ 10000000000000) (m n d : Int) : ∀ (k i : Nat), i ≤ q.length → q.length - i < k →
    F.accrue_Daily_l11 K k q m n d l (l.length : Int) (i : Int) (dsum q l i / 18446744073709551616) (dsum q l i % 18446744073709551616) 0 = some (m, n, d, dsum q l q.length / 18446744073709551616, dsum q l q.length % 18446744073709551616, 0)
  | 0, i, _, hk => by omega
  | k + 1, i, hi, hk => by
    have hq8 := h.2.1
    rw [F.accrue_Daily_l11, bi_eq]
    by_cases c : i < q.length
    · have t := tok_bd h c
      have b := mul_bd (hl i c).1 (hl i c).2 t.2.2.1 t.2.2.2
      have s := dsum_bd h hl i (by omega)
      have t1 : nth 0 (nth [] q i) 1 = rt q i := rfl
      have ha := add_same hK (x := dsum q l i) (y := nth 0 l i * rt q i) (s := 0) (by omega) (by omega) (by omega) (by omega) (by decide) (by decide)
      rw [pack_in (by omega) (by omega)] at ha
      have w1 : IntKind.i64.wrap ((i : Int) + 1) = ((i + 1 : Nat) : Int) := by rw [iw (by omega) (by omega)]; omega
      have ih := daily_loop hK h hll hl m n d k (i + 1) (by omega) (by omega)
      simp only [dsum] at ih
      rw [if_pos (by simp; omega), bi_eq, if_pos (by simp; omega)]
      simp only [Int.toNat_natCast, t1]
      rw [aof_ok K (hl i c).1 (by have := (hl i c).2; omega), Option.bind_some, bi_eq, if_pos (by simp; omega), aof_ok K t.2.2.1 (by omega), Option.bind_some]
      simp only
      have hi2 := (hl i c).2
      have hi1 := (hl i c).1
      rw [atimes_ok hK hi1 (by omega) t.2.2.1 (by omega) (by omega), Option.bind_some]
      simp only
      rw [ha, Option.bind_some, w1]
      exact ih
    · rw [if_neg (by simp; omega), show i = q.length by omega]
theorem ptl_nth {q : List (List Int)} (h : Tok q) {b : Int} (b0 : 0 ≤ b) (b1 : b ≤ 10000000000000) : ∀ j, j < q.length → 0 ≤ nth 0 (ptl q b) j ∧ nth 0 (ptl q b) j ≤ 10000000000000 := fun j hj => by
  rw [ptl, nth_map_range _ _ _ hj]; exact pt_bd h b0 b1 hj
/-- All tiers' interest of a year, in billionths. -/
def bears (q : List (List Int)) (b : Int) : Int := dsum q (ptl q b) q.length
theorem bears_bd {q : List (List Int)} (h : Tok q) {b : Int} (b0 : 0 ≤ b) (b1 : b ≤ 10000000000000) : 0 ≤ bears q b ∧ bears q b ≤ 80000000000000000000000 := by
  have := dsum_bd h (ptl_nth h b0 b1) q.length (Nat.le_refl _)
  have := h.2.1
  unfold bears; omega
def dailyR (q : List (List Int)) (b n d m : Int) : Int × Int := if roundS false (bears q b * n) (1000 * d) m ≤ 4000000000000000000 then (roundS false (bears q b * n) (1000 * d) m, 0) else (0, 4)
theorem daily_main {K : Nat} (hK : 400 ≤ K) {q : List (List Int)} (h : Tok q) {b n d m : Int} (b0 : 0 ≤ b) (b1 : b ≤ 10000000000000) (n0 : 0 ≤ n) (n1 : n ≤ 10000000000) (d0 : 1 ≤ d) (d1 : d ≤ 1000000) (m0 : 0 ≤ m) (m1 : m ≤ 6) :
    ((F.accrue_of K 0).bind fun r66 => ((F.accrue_parts K b q).bind fun r67 => ((F.accrue_Daily_l11 K K q m n d r67 (↑(List.length r67) : Int) 0 r66.fst r66.snd.fst r66.snd.snd).bind fun r68 => ((F.accrue_of K r68.snd.fst).bind fun r69 => ((F.accrue_times K r68.snd.snd.snd.fst r68.snd.snd.snd.snd.fst r68.snd.snd.snd.snd.snd r69.fst
  r69.snd.fst r69.snd.snd).bind fun r70 => ((F.accrue_of K (Go.IntKind.i64.wrap (1000 * r68.snd.snd.fst))).bind fun r71 => ((F.dec_Quo K r70.fst r70.snd.fst r70.snd.snd r71.fst r71.snd.fst r71.snd.snd 0 r68.fst).bind fun r72 => (bi (r72.snd.snd.snd != 0)
    (some ((0, 4)))
    ((F.accrue_of K 4000000000000000000).bind fun r73 => ((F.dec_Cmp K r72.fst r72.snd.fst r72.snd.snd.fst r73.fst r73.snd.fst r73.snd.snd).bind fun r74 => (bi (Decidable.decide (r74.fst > 0))
    (some ((0, 4)))
    ((F.dec_Int K r72.fst r72.snd.fst r72.snd.snd.fst).bind fun r75 => (some ((r75.fst, r75.snd))))))))))))))) = some (dailyR q b n d m) := by
  have hll : (ptl q b).length = q.length := by simp [ptl]
  have key := daily_loop hK h hll (ptl_nth h b0 b1) m n d K 0 (by omega) (by have := h.2.1; omega)
  have key' : F.accrue_Daily_l11 K K q m n d (ptl q b) ((ptl q b).length : Int) 0 0 0 0 = some (m, n, d, bears q b / 18446744073709551616, bears q b % 18446744073709551616, 0) := key
  have bb := bears_bd h b0 b1
  have bm := mul_bd bb.1 bb.2 n0 n1
  have rn := roundS_nonneg (m := false) (mode := m) bm.1 (show 0 < 1000 * d by omega)
  obtain ⟨p0, p1, p2, p3⟩ := packed (c := roundS false (bears q b * n) (1000 * d) m) (sc := 0) (by omega) (by omega) (by decide) (by decide)
  rw [aof_ok K (by decide) (by decide), Option.bind_some, aparts_ok (by omega) h b0 b1, Option.bind_some]
  simp only [show (0 : Int) / 18446744073709551616 = 0 from rfl, show (0 : Int) % 18446744073709551616 = 0 from rfl]
  rw [key', Option.bind_some]
  simp only
  rw [aof_ok K n0 (by omega), Option.bind_some]
  simp only
  rw [atimes_ok hK bb.1 (by omega) n0 (by omega) (by omega), Option.bind_some, iw (x := 1000 * d) (by omega) (by omega), aof_ok K (by omega) (by omega), Option.bind_some]
  simp only
  rw [quo_any_ok hK bm.1 (by omega) (by omega) (by omega) m0 m1, Option.bind_some, pack_in (by omega) (by omega)]
  simp only
  rw [bi_eq, if_neg (by decide), aof_ok K (by decide) (by decide), Option.bind_some]
  have ec := dcmp_ok hK p0 p1 (b0 := 0) (b1 := 4000000000000000000) (a2 := 0) (b2 := 0) (by decide) (by decide)
  rw [if_pos ⟨p2, by decide⟩, mx_self] at ec
  have e1 : up (roundS false (bears q b * n) (1000 * d) m / 18446744073709551616) (roundS false (bears q b * n) (1000 * d) m % 18446744073709551616) 0 0 = roundS false (bears q b * n) (1000 * d) m := by
    unfold up; rw [p3, Int.sub_self, p10z_zero, Int.mul_one]
  have e2 : up 0 4000000000000000000 0 0 = 4000000000000000000 := rfl
  rw [e1, e2] at ec
  simp only [show (4000000000000000000 : Int) / 18446744073709551616 = 0 from rfl, show (4000000000000000000 : Int) % 18446744073709551616 = 4000000000000000000 from rfl]
  rw [ec, Option.bind_some, bi_eq]
  unfold dailyR
  by_cases g : roundS false (bears q b * n) (1000 * d) m ≤ 4000000000000000000
  · rw [if_pos g, if_neg (by unfold cmp3; simp; split <;> (try split) <;> omega), int_pos_ok hK rn.1 (by omega), if_pos (by omega), Option.bind_some]
  · rw [if_neg g, if_pos (by unfold cmp3; rw [if_neg (by omega), if_pos (by omega)]; decide)]
theorem daily_ok {K : Nat} (hK : 400 ≤ K) {q : List (List Int)} (h : Tok q) {b how f t n d m : Int} (hp : F.basis_Part K how f t = some (n, d, 0)) (b0 : 0 ≤ b) (b1 : b ≤ 10000000000000) (n0 : 0 ≤ n) (n1 : n ≤ 10000000000) (d0 : 1 ≤ d) (d1 : d ≤ 1000000) (m0 : 0 ≤ m) (m1 : m ≤ 6) :
    F.accrue_Daily K b q how m f t = some (dailyR q b n d m) := by
  have main := daily_main hK h b0 b1 n0 n1 d0 d1 m0 m1
  unfold F.accrue_Daily
  rw [hp, Option.bind_some, amount_ok, Option.bind_some, tiers_ok K (by omega) q h]
  have x1 : (!decide (0 ≤ b ∧ b ≤ 10000000000000)) = false := by simp; omega
  have x2 : decide (m < 0) = false := by simp; omega
  have x3 : decide (m > 6) = false := by simp; omega
  simp only [x1, x2, x3, Option.bind_some, show ((0 : Int) != 0) = false from rfl]
  exact main
theorem part_act {K : Nat} {how f t : Int} (hh : how = 0 ∨ how = 1) (f0 : 1 ≤ f) (f1 : f ≤ t) (t1 : t ≤ 3652059) : F.basis_Part K how f t = some (t - f, if how = 0 then 360 else 365, 0) := by
  have hc : F.basis_check K how f t = some 0 := by
    unfold F.basis_check
    simp only [bi_eq]
    rw [if_neg (by simp; omega), if_neg (by simp; omega), if_neg (by simp; omega), if_neg (by simp; omega), if_neg (by simp; omega), if_neg (by simp; omega), if_neg (by simp; omega)]
  unfold F.basis_Part
  rw [hc, Option.bind_some]
  simp only [bi_eq]
  rw [if_neg (by decide), iw (x := t - f) (by omega) (by omega)]
  rcases hh with rfl | rfl <;> rfl
theorem tok_one {r : Int} (r0 : 0 ≤ r) (r1 : r ≤ 1000000000) : Tok [[0, r]] := by
  refine ⟨by simp, by simp, rfl, fun i hi => ?_⟩
  have : i = 0 := by simp at hi; omega
  subst this
  unfold TB fr rt
  simp [nth]; omega
theorem bears_one {r b : Int} (b0 : 0 ≤ b) : bears [[0, r]] b = b * r := by
  have e : pt [[0, r]] b 0 = b := by
    unfold pt fr
    simp only [nth, List.length_cons, List.length_nil]
    split
    · omega
    · rw [if_neg (by omega)]; omega
  unfold bears dsum ptl
  simp only [List.length_cons, List.length_nil]
  show dsum _ _ 0 + nth 0 (List.map (pt [[0, r]] b) (List.range 1)) 0 * rt [[0, r]] 0 = _
  rw [nth_map_range _ _ _ (by decide), e]
  simp [dsum, rt, nth]
theorem sameInts2 (K : Nat) (hK : 5 ≤ K) : F.ref01_SameInts K [1000, 500] [1000, 500] = some true := by
  obtain ⟨k, rfl⟩ : ∃ k, K = k + 3 := ⟨K - 3, by omega⟩
  rfl
theorem tok_two : Tok [[0, 5], [1000, 6]] := by
  refine ⟨by simp, by simp, rfl, fun i hi => ?_⟩
  have : i = 0 ∨ i = 1 := by simp at hi; omega
  rcases this with rfl | rfl <;> decide
theorem aawake_ok {K : Nat} (hK : 400 ≤ K) : F.law14_awake K = some true := by
  have e1 : F.accrue_Daily K 1000000 [[0, 36500000]] 1 0 1000 1001 = some (100000000, 0) := by
    rw [daily_ok hK (tok_one (by decide) (by decide)) (part_act (.inr rfl) (by decide) (by decide) (by decide)) (by decide) (by decide) (by decide) (by decide) (by decide) (by decide) (by decide) (by decide)]
    unfold dailyR
    rw [bears_one (by decide)]
    rfl
  have e2 : F.accrue_Parts K 1500 [[0, 5], [1000, 6]] = some ([1000, 500], 0) := by
    unfold F.accrue_Parts
    rw [amount_ok, Option.bind_some, bi_eq, if_neg (by decide), tiers_ok K (by omega) _ tok_two, Option.bind_some, bi_eq, if_neg (by decide), aparts_ok (by omega) tok_two (by decide) (by decide), Option.bind_some]
    rfl
  unfold F.law14_awake
  rw [e1, Option.bind_some, e2, Option.bind_some]
  simp only [bi_eq]
  rw [if_pos (by decide), if_pos (by decide), if_pos (by decide), sameInts2 K (by omega)]
  rfl
end Go.Proofs.Ytppdgohcgklinaa.Wide

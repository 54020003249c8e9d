/- What cal's and basis's functions answer: leap years, months, the date of a day, the part of a year. Conditions: days and years in range. -/
import Derived.Test.YtoibhkhgpahdjaaFC
import Derived.Test.YtoibhkhgpahdjaaPWa
namespace Go.Proofs.Ytoibhkhgpahdjaa.CalM

def lp (y : Int) : Int := if y % 400 = 0 then 1 else if y % 100 = 0 then 0 else if y % 4 = 0 then 1 else 0
def ah (y : Int) : Int := 365 * (y - 1) + (y - 1) / 4 - (y - 1) / 100 + (y - 1) / 400
def len (y m : Int) : Int := if m = 2 then 28 + lp y else if m = 4 ∨ m = 6 ∨ m = 9 ∨ m = 11 then 30 else 31
def cum (y m : Int) : Int := (367 * m - 362) / 12 - (if 3 ≤ m then 2 - lp y else 0)

theorem lp01 (y : Int) : 0 ≤ lp y ∧ lp y ≤ 1 := by unfold lp; split <;> (try split) <;> (try split) <;> omega
theorem ah_succ (y : Int) : ah (y + 1) = ah y + 365 + lp y := by
  unfold ah lp
  split <;> (try split) <;> (try split) <;> omega
theorem len_bd (y m : Int) : 28 ≤ len y m ∧ len y m ≤ 31 := by
  have := lp01 y
  unfold len; split <;> (try split) <;> omega
theorem cum_succ (y m : Int) (h1 : 1 ≤ m) (h2 : m ≤ 12) : cum y (m + 1) = cum y m + len y m := by
  obtain rfl | rfl | rfl | rfl | rfl | rfl | rfl | rfl | rfl | rfl | rfl | rfl : m = 1 ∨ m = 2 ∨ m = 3 ∨ m = 4 ∨ m = 5 ∨ m = 6 ∨ m = 7 ∨ m = 8 ∨ m = 9 ∨ m = 10 ∨ m = 11 ∨ m = 12 := by omega
  all_goals (simp [cum, len]; try omega)
theorem cum1 (y : Int) : cum y 1 = 0 := by simp [cum]
theorem cum13 (y : Int) : cum y 13 = 365 + lp y := by simp [cum]; omega
theorem ah_mono {a b : Int} (h : a ≤ b) : ah a + 365 * (b - a) ≤ ah b := by
  unfold ah; omega
theorem ah_lt {a b : Int} (h : a < b) : ah a + 365 + lp a ≤ ah b := by
  have := ah_succ a
  have := ah_mono (show a + 1 ≤ b by omega)
  omega
theorem cum_mono (y a b : Int) (h : a ≤ b) : cum y a ≤ cum y b := by
  have := lp01 y
  unfold cum; split <;> split <;> omega
theorem cum_nn (y m : Int) (h : 1 ≤ m) : 0 ≤ cum y m := by
  have := lp01 y
  unfold cum; split <;> omega
/-- The date y, m, d is day n. -/
structure Civ (n y m d : Int) : Prop where
  m1 : 1 ≤ m
  m12 : m ≤ 12
  d1 : 1 ≤ d
  dl : d ≤ len y m
  eq : n = ah y + cum y m + d
theorem Civ.year {n y m d : Int} (h : Civ n y m d) : ah y < n ∧ n ≤ ah (y + 1) := by
  have a := cum_succ y m h.m1 h.m12
  have b := cum_mono y (m + 1) 13 (by have := h.m12; omega)
  have c := cum13 y
  have d := ah_succ y
  have e := cum_nn y m h.m1
  have := h.d1; have := h.dl; have := h.eq
  omega
theorem Civ.uniq {n y m d y' m' d' : Int} (h : Civ n y m d) (h' : Civ n y' m' d') : y = y' ∧ m = m' ∧ d = d' := by
  have hy : y = y' := by
    have a := h.year
    have b := h'.year
    rcases Int.lt_trichotomy y y' with c | c | c
    · have := ah_mono (show y + 1 ≤ y' by omega); omega
    · exact c
    · have := ah_mono (show y' + 1 ≤ y by omega); omega
  subst hy
  have hm : m = m' := by
    have a := cum_succ y m h.m1 h.m12
    have b := cum_succ y m' h'.m1 h'.m12
    have := h.d1; have := h.dl; have := h.eq; have := h'.d1; have := h'.dl; have := h'.eq
    rcases Int.lt_trichotomy m m' with c | c | c
    · have := cum_mono y (m + 1) m' (by omega); omega
    · exact c
    · have := cum_mono y (m' + 1) m (by omega); omega
  subst hm
  have := h.eq; have := h'.eq
  exact ⟨rfl, rfl, by omega⟩
theorem Civ.bounds {n y m d : Int} (h : Civ n y m d) (h1 : 1 ≤ n) (h2 : n ≤ 3652059) : 1 ≤ y ∧ y ≤ 9999 := by
  have a := h.year
  constructor
  · by_cases c : 1 ≤ y
    · exact c
    · have := ah_mono (show y + 1 ≤ 1 by omega); have : ah 1 = 0 := by decide
      omega
  · by_cases c : y ≤ 9999
    · exact c
    · have := ah_mono (show 10000 ≤ y by omega); have : ah 10000 = 3652059 := by decide
      omega
theorem Civ.range {n y m d : Int} (h : Civ n y m d) (h1 : 1 ≤ y) (h2 : y ≤ 9999) : 1 ≤ n ∧ n ≤ 3652059 := by
  have a := h.year
  have := ah_mono (show 1 ≤ y by omega); have : ah 1 = 0 := by decide
  have := ah_mono (show y + 1 ≤ 10000 by omega); have : ah 10000 = 3652059 := by decide
  omega
theorem ah_bd {y : Int} (h1 : 1 ≤ y) (h2 : y ≤ 10000) : 0 ≤ ah y ∧ ah y ≤ 3652059 := by
  have := ah_mono (show 1 ≤ y by omega); have : ah 1 = 0 := by decide
  have := ah_mono (show y ≤ 10000 by omega); have : ah 10000 = 3652059 := by decide
  omega
theorem cum_bd (y m : Int) (h1 : 1 ≤ m) (h2 : m ≤ 13) : 0 ≤ cum y m ∧ cum y m ≤ 366 := by
  have := lp01 y
  unfold cum; split <;> omega
end Go.Proofs.Ytoibhkhgpahdjaa.CalM
set_option linter.unusedVariables false
set_option linter.unusedSimpArgs false
namespace Go.Proofs.Ytoibhkhgpahdjaa.Wide
open Go Go.RowKit Go.Proofs.Ytoibhkhgpahdjaa.Vm Go.Proofs.Ytoibhkhgpahdjaa.CalM
theorem cis_ok (K : Nat) (n : Int) : F.cal_is K n = some (decide (1 ≤ n ∧ n ≤ 3652059)) := by
  unfold F.cal_is
  rw [bi_eq]
  by_cases h : n ≥ 1 <;> simp [h]
theorem cleap_ok (K : Nat) {y : Int} (h : 0 ≤ y) : F.cal_leap K y = some (decide (CalM.lp y = 1)) := by
  unfold F.cal_leap CalM.lp
  rw [tm _ h, tm _ h, tm _ h]
  simp only [bi_eq]
  by_cases a : y % 4 = 0
  · by_cases b : y % 100 = 0
    · by_cases c : y % 400 = 0 <;> simp [a, b, c]
    · have c : ¬ y % 400 = 0 := by omega
      simp [a, b, c]
  · have b : ¬ y % 100 = 0 := by omega
    have c : ¬ y % 400 = 0 := by omega
    simp [a, b, c]
theorem clen_ok (K : Nat) {y m : Int} (hy : 0 ≤ y) (h1 : 1 ≤ m) (h2 : m ≤ 12) : F.cal_length K y m = some (CalM.len y m) := by
  unfold F.cal_length
  simp only [bi_eq]
  by_cases e : m = 2
  · subst e
    rw [if_pos (by decide), cleap_ok K hy, Option.bind_some]
    have := lp01 y
    by_cases c : CalM.lp y = 1
    · rw [if_pos (by simp [c])]; simp [CalM.len, c]
    · rw [if_neg (by simp [c]), if_pos (by decide)]; simp [CalM.len]; omega
  · rw [if_neg (by simpa using e), if_neg (by simpa using e)]
    unfold CalM.len
    obtain rfl | rfl | rfl | rfl | rfl | rfl | rfl | rfl | rfl | rfl | rfl : m = 1 ∨ m = 3 ∨ m = 4 ∨ m = 5 ∨ m = 6 ∨ m = 7 ∨ m = 8 ∨ m = 9 ∨ m = 10 ∨ m = 11 ∨ m = 12 := by omega
    all_goals (simp; decide +kernel)
theorem cahead_ok (K : Nat) {y : Int} (h1 : 1 ≤ y) (h2 : y ≤ 100000) : F.cal_ahead K y = some (ah y) := by
  unfold F.cal_ahead ah
  rw [iw (x := y - 1) (by omega) (by omega)]
  simp only [Int.tdiv_eq_ediv_of_nonneg (show 0 ≤ y - 1 by omega)]
  rw [iw (x := 365 * (y - 1)) (by omega) (by omega), iw (x := (y - 1) / 4) (by omega) (by omega), iw (x := (y - 1) / 100) (by omega) (by omega), iw (x := (y - 1) / 400) (by omega) (by omega), iw (x := 365 * (y - 1) + _) (by omega) (by omega), iw (x := _ - (y - 1) / 100) (by omega) (by omega), iw (by omega) (by omega)]
theorem cnum_loop {K : Nat} {y M : Int} (hy : 1 ≤ y) (hy2 : y ≤ 9999) (hM : M ≤ 12) : ∀ (k : Nat) (m x : Int), 1 ≤ m → m ≤ M → (M - m).toNat < k → -1000000 ≤ x → x ≤ 4000000 + 31 * m → F.cal_Number_l7 K k y M x m = some (x - cum y m + cum y M) := by
  intro k
  induction k with
  | zero => intro m x h1 h2 h3 h4 h5; omega
  | succ t ih =>
    intro m x h1 h2 h3 h4 h5
    rw [F.cal_Number_l7, bi_eq]
    by_cases e : m < M
    · have lb := len_bd y m
      rw [if_pos (by simpa using e), clen_ok K (by omega) h1 (by omega), Option.bind_some, iw (x := x + CalM.len y m) (by omega) (by omega), iw (x := m + 1) (by omega) (by omega), ih (m + 1) (x + CalM.len y m) (by omega) (by omega) (by omega) (by omega) (by omega), cum_succ y m h1 (by omega)]
      congr 1; omega
    · obtain rfl : m = M := by omega
      rw [if_neg (by simp)]; congr 1; omega
theorem cnum_ok {K : Nat} (hK : 100 ≤ K) {y : Int} (h1 : 1 ≤ y) (h2 : y ≤ 9999) : F.cal_Number K y 1 1 = some (ah y + 1, 0) := by
  have lb := len_bd y 1
  have ab := ah_bd h1 (show y ≤ 10000 by omega)
  unfold F.cal_Number
  simp only [bi_eq]
  rw [if_neg (by simp; omega), if_neg (by simp; omega), if_neg (by decide), if_neg (by decide), if_neg (by decide), clen_ok K (by omega) (by decide) (by decide), Option.bind_some, if_neg (by simp; omega), cahead_ok K h1 (by omega), Option.bind_some, iw (x := ah y + 1) (by omega) (by omega), cnum_loop h1 h2 (by decide) K 1 _ (by decide) (by decide) (by omega) (by omega) (by omega), Option.bind_some]
  congr 2; omega
theorem civ_months {K : Nat} {y : Int} (hy : 1 ≤ y) (hy2 : y ≤ 9999) : ∀ (k : Nat) (m x : Int), 1 ≤ m → m ≤ 12 → (12 - m).toNat < k → 1 ≤ x → x + cum y m ≤ cum y 13 → ∃ m' d, Civ (x + cum y m + ah y) y m' d ∧ F.cal_civil_l6 K k x y m = some (d, y, m') := by
  intro k
  induction k with
  | zero => intro m x h1 h2 h3 h4 h5; omega
  | succ t ih =>
    intro m x h1 h2 h3 h4 h5
    have lb := len_bd y m
    have c := cum_succ y m h1 h2
    have cb := cum_bd y 13 (by omega) (by omega)
    have cm := cum_bd y m (by omega) (by omega)
    rw [F.cal_civil_l6, clen_ok K (by omega) h1 h2, Option.bind_some, bi_eq]
    by_cases e : x > CalM.len y m
    · by_cases e2 : m = 12
      · exfalso
        subst e2
        have c13 : cum y (12 + 1) = cum y 13 := rfl
        omega
      · obtain ⟨m', d, hc, he⟩ := ih (m + 1) (x - CalM.len y m) (by omega) (by omega) (by omega) (by omega) (by omega)
        refine ⟨m', d, by rw [show x + cum y m + ah y = x - CalM.len y m + cum y (m + 1) + ah y by omega]; exact hc, ?_⟩
        rw [if_pos (by simpa using e), Option.bind_some, iw (x := x - CalM.len y m) (by omega) (by omega), iw (x := m + 1) (by omega) (by omega), he]
    · exact ⟨m, x, ⟨by omega, by omega, by omega, by omega, by omega⟩, by rw [if_neg (by simpa using e)]⟩
theorem civ_years {K : Nat} {n : Int} (h1 : 1 ≤ n) (h2 : n ≤ 3652059) : ∀ (k : Nat) (y : Int), 1 ≤ y → y ≤ 9999 → (9999 - y).toNat < k → ah y < n → ∃ y', 1 ≤ y' ∧ y' ≤ 9999 ∧ ah y' < n ∧ n ≤ ah (y' + 1) ∧ F.cal_civil_l2 K k n y = some (n, y') := by
  intro k
  induction k with
  | zero => intro y hy hy2 ht ha; omega
  | succ t ih =>
    intro y hy hy2 ht ha
    rw [F.cal_civil_l2, iw (x := y + 1) (by omega) (by omega), cahead_ok K (show 1 ≤ y + 1 by omega) (by omega), Option.bind_some, bi_eq]
    by_cases hs : ah (y + 1) < n
    · have : y ≠ 9999 := by
        rintro rfl
        have : ah (9999 + 1) = 3652059 := by decide
        omega
      obtain ⟨y', p1, p2, p3, p4, he⟩ := ih (y + 1) (by omega) (by omega) (by omega) hs
      exact ⟨y', p1, p2, p3, p4, by rw [if_pos (by simpa using hs), he]⟩
    · exact ⟨y, hy, hy2, ha, by omega, by rw [if_neg (by simpa using hs)]⟩
theorem civ_ok {K : Nat} (hK : 20000 ≤ K) {n : Int} (h1 : 1 ≤ n) (h2 : n ≤ 3652059) : ∃ y m d, Civ n y m d ∧ 1 ≤ y ∧ y ≤ 9999 ∧ F.cal_civil K n = some (y, m, d) := by
  obtain ⟨y, p1, p2, p3, p4, he⟩ := civ_years (K := K) h1 h2 K (n / 366 + 1) (by omega) (by omega) (by omega) (by unfold ah; omega)
  have s := ah_succ y
  have ab := ah_bd p1 (show y ≤ 10000 by omega)
  have c13 := cum13 y
  obtain ⟨m', d, hc, he'⟩ := civ_months (K := K) p1 p2 K 1 (n - ah y) (by omega) (by omega) (by omega) (by omega) (by rw [cum1]; omega)
  rw [cum1, show n - ah y + 0 + ah y = n by omega] at hc
  refine ⟨y, m', d, hc, p1, p2, ?_⟩
  unfold F.cal_civil
  rw [Int.tdiv_eq_ediv_of_nonneg (by omega), iw (x := n / 366) (by omega) (by omega), iw (x := n / 366 + 1) (by omega) (by omega), he, Option.bind_some]
  simp only
  rw [cahead_ok K p1 (by omega), Option.bind_some, iw (x := n - ah y) (by omega) (by omega), he', Option.bind_some]
theorem civ_at {K : Nat} (hK : 20000 ≤ K) {n y m d : Int} (hc : Civ n y m d) (h1 : 1 ≤ n) (h2 : n ≤ 3652059) : F.cal_Civil K n = some (y, m, d, 0) := by
  obtain ⟨y', m', d', hc', _, _, he⟩ := civ_ok hK h1 h2
  obtain ⟨rfl, rfl, rfl⟩ := hc.uniq hc'
  unfold F.cal_Civil
  rw [cis_ok, Option.bind_some, bi_eq, if_neg (by simp; omega), he, Option.bind_some]
/-- Days of leap years ahead of day n of year y. -/
def lc (y : Int) : Int := (y - 1) / 4 - (y - 1) / 100 + (y - 1) / 400
def Lv (n y : Int) : Int := 366 * lc y + (if CalM.lp y = 1 then n - ah y - 1 else 0)
theorem ah_lc (y : Int) : ah y = 365 * (y - 1) + lc y := by unfold ah lc; omega
theorem lc_succ (y : Int) : lc (y + 1) = lc y + CalM.lp y := by
  have := ah_succ y
  rw [ah_lc, ah_lc] at this; omega
theorem lc_mono {a b : Int} (h : a ≤ b) : lc a ≤ lc b ∧ lc b - lc a ≤ b - a := by
  unfold lc; omega
theorem lc_bd {y : Int} (h1 : 1 ≤ y) (h2 : y ≤ 9999) : 0 ≤ lc y ∧ lc y ≤ 3000 := by
  unfold lc; omega
/-- The days of thirty-day months. -/
def T30 (y m d : Int) : Int := 360 * y + 30 * m + min d 30
theorem civ_le {n y m d n' y' m' d' : Int} (hc : Civ n y m d) (hc' : Civ n' y' m' d') (h : n ≤ n') : y < y' ∨ (y = y' ∧ (m < m' ∨ (m = m' ∧ d ≤ d'))) := by
  have a := hc.year
  have b := hc'.year
  rcases Int.lt_trichotomy y y' with c | c | c
  · exact .inl c
  · subst c
    refine .inr ⟨rfl, ?_⟩
    have a := cum_succ y m hc.m1 hc.m12
    have b := cum_succ y m' hc'.m1 hc'.m12
    have := hc.d1; have := hc.dl; have := hc.eq; have := hc'.d1; have := hc'.dl; have := hc'.eq
    rcases Int.lt_trichotomy m m' with c | c | c
    · exact .inl c
    · subst c; exact .inr ⟨rfl, by omega⟩
    · have := cum_mono y (m' + 1) m (by omega); omega
  · have := ah_mono (show y' + 1 ≤ y by omega); omega
theorem T30_mono {n y m d n' y' m' d' : Int} (hc : Civ n y m d) (hc' : Civ n' y' m' d') (h : n ≤ n') : T30 y m d ≤ T30 y' m' d' := by
  have := civ_le hc hc' h
  have := hc.m1; have := hc.m12; have := hc'.m1; have := hc'.m12
  have := hc.d1; have := hc'.d1
  unfold T30; omega
theorem Lv_mono {n y m d n' y' m' d' : Int} (hc : Civ n y m d) (hc' : Civ n' y' m' d') (h : n ≤ n') : Lv n y ≤ Lv n' y' ∧ Lv n' y' - Lv n y ≤ n' - n := by
  have a := hc.year
  have b := hc'.year
  have l := lp01 y
  have l' := lp01 y'
  have s := ah_succ y
  have s' := ah_succ y'
  have e1 := ah_lc y
  have e2 := ah_lc y'
  rcases civ_le hc hc' h with c | ⟨c, _⟩
  · have q := lc_mono (show y + 1 ≤ y' by omega)
    have r := lc_succ y
    have t := ah_mono (show y + 1 ≤ y' by omega)
    unfold Lv
    split <;> split <;> omega
  · subst c
    unfold Lv
    split <;> omega
/-- The part of a year between two days. -/
def part (how a ya ma da b yb mb db : Int) : Int × Int := if how = 0 then (b - a, 360) else if how = 1 then (b - a, 365) else if how = 2 then (T30 yb mb db - T30 ya ma da, 360) else (366 * (b - a) - (Lv b yb - Lv a ya), 133590)
def chk (how a b : Int) : Int := if how < 0 ∨ how > 3 ∨ a < 1 ∨ a > 3652059 ∨ b < 1 ∨ b > 3652059 then 1 else if a > b then 9 else 0
theorem ris_ok (K : Nat) (n : Int) : F.ref03_Is K n = some (decide (1 ≤ n ∧ n ≤ 3652059)) := cis_ok K n
theorem chk_in {how n n' : Int} (h : chk how n n' = 0) : (0 ≤ how ∧ how ≤ 3) ∧ 1 ≤ n ∧ n ≤ 3652059 ∧ 1 ≤ n' ∧ n' ≤ 3652059 ∧ n ≤ n' := by
  unfold chk at h
  split at h
  · omega
  · split at h <;> omega
theorem rleap_ok (K : Nat) {y : Int} (h : 0 ≤ y) : F.ref03_Leap K y = some (decide (CalM.lp y = 1)) := by
  unfold F.ref03_Leap CalM.lp
  rw [tm _ h, tm _ h, tm _ h]
  simp only [bi_eq]
  by_cases a : y % 4 = 0
  · by_cases b : y % 100 = 0
    · by_cases c : y % 400 = 0 <;> simp [a, b, c]
    · have c : ¬ y % 400 = 0 := by omega
      simp [a, b, c]
  · have b : ¬ y % 100 = 0 := by omega
    have c : ¬ y % 400 = 0 := by omega
    simp [a, b, c]
theorem rleng_ok (K : Nat) {y m : Int} (hy : 0 ≤ y) (h1 : 1 ≤ m) (h2 : m ≤ 12) : F.ref03_Length K y m = some (CalM.len y m) := by
  unfold F.ref03_Length
  simp only [bi_eq]
  by_cases e : m = 2
  · subst e
    rw [if_neg (by decide), if_neg (by decide), if_neg (by decide), if_neg (by decide), if_pos (by decide), rleap_ok K hy, Option.bind_some]
    have := lp01 y
    by_cases c : CalM.lp y = 1
    · rw [if_pos (by simp [c])]; simp [CalM.len, c]
    · rw [if_neg (by simp [c])]; simp [CalM.len]; omega
  · unfold CalM.len
    obtain rfl | rfl | rfl | rfl | rfl | rfl | rfl | rfl | rfl | rfl | rfl : m = 1 ∨ m = 3 ∨ m = 4 ∨ m = 5 ∨ m = 6 ∨ m = 7 ∨ m = 8 ∨ m = 9 ∨ m = 10 ∨ m = 11 ∨ m = 12 := by omega
    all_goals rfl
theorem ryear_ok (K : Nat) {y : Int} (h : 0 ≤ y) : F.ref03_Year K y = some (365 + CalM.lp y) := by
  unfold F.ref03_Year
  rw [rleap_ok K h, Option.bind_some, bi_eq]
  have := lp01 y
  by_cases c : CalM.lp y = 1
  · simp [c]
  · simp [c]; omega
theorem rnum_months {K : Nat} {y M d : Int} (hy : 1 ≤ y) (hy2 : y ≤ 9999) (hM : M ≤ 12) : ∀ (k : Nat) (m x : Int), 1 ≤ m → m ≤ M → (M - m).toNat < k → 0 ≤ x → x ≤ 4000000 + 31 * m → F.ref03_Number_l7 K k y M d x m = some (d, x - cum y m + cum y M) := by
  intro k
  induction k with
  | zero => intro m x h1 h2 h3 h4 h5; omega
  | succ t ih =>
    intro m x h1 h2 h3 h4 h5
    rw [F.ref03_Number_l7, bi_eq]
    by_cases e : m < M
    · have lb := len_bd y m
      rw [if_pos (by simpa using e), rleng_ok K (by omega) h1 (by omega), Option.bind_some, iw (x := x + CalM.len y m) (by omega) (by omega), iw (x := m + 1) (by omega) (by omega), ih (m + 1) (x + CalM.len y m) (by omega) (by omega) (by omega) (by omega) (by omega), cum_succ y m h1 (by omega)]
      congr 2; omega
    · obtain rfl : m = M := by omega
      rw [if_neg (by simp)]; congr 2; omega
theorem rnum_years {K : Nat} {y M d : Int} (hy : 1 ≤ y) (hy2 : y ≤ 9999) : ∀ (k : Nat) (z : Int), 1 ≤ z → z ≤ y → (y - z).toNat < k → F.ref03_Number_l3 K k y M d (ah z) z = some (y, M, d, ah y) := by
  intro k
  induction k with
  | zero => intro z h1 h2 h3; omega
  | succ t ih =>
    intro z h1 h2 h3
    have ab := ah_bd h1 (show z ≤ 10000 by omega)
    rw [F.ref03_Number_l3, bi_eq]
    by_cases e : z < y
    · have l := lp01 z
      rw [if_pos (by simpa using e), ryear_ok K (by omega), Option.bind_some, iw (x := ah z + (365 + CalM.lp z)) (by omega) (by omega), iw (x := z + 1) (by omega) (by omega), show ah z + (365 + CalM.lp z) = ah (z + 1) by rw [ah_succ]; omega]
      exact ih (z + 1) (by omega) (by omega) (by omega)
    · obtain rfl : z = y := by omega
      rw [if_neg (by simp)]
theorem rnumber_ok {K : Nat} (hK : 1000 ≤ K) {y m d : Int} (hy : 1 ≤ y) (hy2 : y ≤ 9999) (hM1 : 1 ≤ m) (hM : m ≤ 12) (hd1 : 0 ≤ d) (hd2 : d ≤ 31) : F.ref03_Number K y m d = some (ah y + cum y m + d) := by
  have ab := ah_bd hy (show y ≤ 10000 by omega)
  have cb := cum_bd y m hM1 (by omega)
  have c1 := cum1 y
  unfold F.ref03_Number
  rw [iw (x := y - 1) (by omega) (by omega), Int.tdiv_eq_ediv_of_nonneg (by omega), iw (x := (y - 1) / 400) (by omega) (by omega), iw (x := 146097 * _) (by omega) (by omega), iw (x := 400 * _) (by omega) (by omega), iw (x := 1 + _) (by omega) (by omega)]
  rw [show 146097 * ((y - 1) / 400) = ah (1 + 400 * ((y - 1) / 400)) by unfold ah; omega, rnum_years hy hy2 K _ (by omega) (by omega) (by omega), Option.bind_some]
  simp only
  rw [rnum_months hy hy2 hM K 1 (ah y) (by omega) hM1 (by omega) (by omega) (by omega), Option.bind_some]
  simp only
  rw [iw (by omega) (by omega)]
  congr 1; omega
theorem rciv_months {K : Nat} {y : Int} (hy : 1 ≤ y) (hy2 : y ≤ 9999) : ∀ (k : Nat) (m x : Int), 1 ≤ m → m ≤ 12 → (12 - m).toNat < k → 0 ≤ x → x + cum y m < cum y 13 → ∃ m' d, Civ (x + 1 + cum y m + ah y) y m' d ∧ F.ref03_Civil_l7 K k x y m = some (d - 1, y, m') := by
  intro k
  induction k with
  | zero => intro m x h1 h2 h3 h4 h5; omega
  | succ t ih =>
    intro m x h1 h2 h3 h4 h5
    have lb := len_bd y m
    have c := cum_succ y m h1 h2
    have cb := cum_bd y 13 (by omega) (by omega)
    have cm := cum_bd y m (by omega) (by omega)
    rw [F.ref03_Civil_l7, rleng_ok K (by omega) h1 h2, Option.bind_some, bi_eq]
    by_cases e : x ≥ CalM.len y m
    · by_cases e2 : m = 12
      · exfalso
        subst e2
        have c13 : cum y (12 + 1) = cum y 13 := rfl
        omega
      · obtain ⟨m', d, hc, he⟩ := ih (m + 1) (x - CalM.len y m) (by omega) (by omega) (by omega) (by omega) (by omega)
        refine ⟨m', d, by rw [show x + 1 + cum y m + ah y = x - CalM.len y m + 1 + cum y (m + 1) + ah y by omega]; exact hc, ?_⟩
        rw [if_pos (by simpa using e), Option.bind_some, iw (x := x - CalM.len y m) (by omega) (by omega), iw (x := m + 1) (by omega) (by omega), he]
    · exact ⟨m, x + 1, ⟨by omega, by omega, by omega, by omega, by omega⟩, by rw [if_neg (by simpa using e)]; congr 2; omega⟩
theorem rciv_years {K : Nat} {n : Int} (h1 : 1 ≤ n) (h2 : n ≤ 3652059) : ∀ (k : Nat) (y : Int), 1 ≤ y → y ≤ 9999 → (9999 - y).toNat < k → 0 ≤ n - 1 - ah y → ∃ y', 1 ≤ y' ∧ y' ≤ 9999 ∧ 0 ≤ n - 1 - ah y' ∧ n - 1 - ah y' < 365 + CalM.lp y' ∧ F.ref03_Civil_l3 K k (n - 1 - ah y) y = some (n - 1 - ah y', y') := by
  intro k
  induction k with
  | zero => intro y hy hy2 ht ha; omega
  | succ t ih =>
    intro y hy hy2 ht ha
    have ab := ah_bd hy (show y ≤ 10000 by omega)
    have l := lp01 y
    rw [F.ref03_Civil_l3, ryear_ok K (by omega), Option.bind_some, bi_eq]
    by_cases hs : n - 1 - ah y ≥ 365 + CalM.lp y
    · have : y ≠ 9999 := by
        rintro rfl
        have : ah 9999 = 3651694 := by decide
        omega
      have s := ah_succ y
      obtain ⟨y', p1, p2, p3, p4, he⟩ := ih (y + 1) (by omega) (by omega) (by omega) (by omega)
      refine ⟨y', p1, p2, p3, p4, ?_⟩
      rw [if_pos (by simpa using hs), Option.bind_some, iw (x := n - 1 - ah y - (365 + CalM.lp y)) (by omega) (by omega), iw (x := y + 1) (by omega) (by omega), show n - 1 - ah y - (365 + CalM.lp y) = n - 1 - ah (y + 1) by omega, he]
    · exact ⟨y, hy, hy2, ha, by omega, by rw [if_neg (by simpa using hs)]⟩
theorem rciv_at {K : Nat} (hK : 20000 ≤ K) {n y m d : Int} (hc : Civ n y m d) (h1 : 1 ≤ n) (h2 : n ≤ 3652059) : F.ref03_Civil K n = some (y, m, d) := by
  have e : ah (1 + 400 * ((n - 1) / 146097)) = 146097 * ((n - 1) / 146097) := by unfold ah; omega
  obtain ⟨y', p1, p2, p3, p4, he⟩ := rciv_years (K := K) h1 h2 K (1 + 400 * ((n - 1) / 146097)) (by omega) (by omega) (by omega) (by rw [e]; omega)
  have c13 := cum13 y'
  obtain ⟨m', d', hc', he'⟩ := rciv_months (K := K) p1 p2 K 1 (n - 1 - ah y') (by omega) (by omega) (by omega) p3 (by rw [cum1]; omega)
  rw [cum1, show n - 1 - ah y' + 1 + 0 + ah y' = n by omega] at hc'
  obtain ⟨rfl, rfl, rfl⟩ := hc.uniq hc'
  have := hc.d1; have := hc.dl; have := len_bd y m
  unfold F.ref03_Civil
  rw [iw (x := n - 1) (by omega) (by omega), tm _ (by omega), Int.tdiv_eq_ediv_of_nonneg (by omega), iw (x := (n - 1) / 146097) (by omega) (by omega), iw (x := 400 * _) (by omega) (by omega), iw (x := 1 + _) (by omega) (by omega)]
  rw [show (n - 1) % 146097 = n - 1 - ah (1 + 400 * ((n - 1) / 146097)) by rw [e]; omega, he, Option.bind_some]
  simp only
  rw [he', Option.bind_some]
  simp only
  rw [iw (by omega) (by omega)]
  congr 3; omega
theorem Lv_same {n n' y : Int} : Lv n' y - Lv n y = (if CalM.lp y = 1 then n' - n else 0) := by
  unfold Lv; split <;> omega
theorem Lv_step {n y : Int} : Lv (ah (y + 1) + 1) (y + 1) - Lv n y = (if CalM.lp y = 1 then ah (y + 1) + 1 - n else 0) := by
  have := lc_succ y
  have := ah_succ y
  have := lp01 y
  have := lp01 (y + 1)
  unfold Lv
  split <;> split <;> omega
end Go.Proofs.Ytoibhkhgpahdjaa.Wide

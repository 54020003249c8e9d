/- Proved: a whole year, from a day to the same day a year later, is one by the real days of ActAct; by thirty days a month it is 360 of 360, from any day up to the 30th. Conditions: none but that the arguments are values of their Go types. -/
import Derived.Test.YtemijfjchoimpaaPBasisYearsx3
import Derived.Test.YtemijfjchoimpaaEvM
import Derived.Test.YtemijfjchoimpaaCalM
set_option linter.unusedSimpArgs false
set_option linter.unusedVariables false
namespace Go.Proofs.Ytemijfjchoimpaa.Pure
open Go.RowKit Go.Proofs.Ytemijfjchoimpaa.PBasisYears Go.Proofs.YtemijfjchoimpaaW.PrintWords Go.Proofs.YtemijfjchoimpaaW.PrintLast Go.Proofs.Ytemijfjchoimpaa.EvM Go.Proofs.Ytemijfjchoimpaa.CalM 
/-! ### cal: what its functions answer -/
theorem is_eq (n : Int) : cal_is.f n = some (decide (1 ≤ n ∧ n ≤ 3652059)) := by
  unfold cal_is.f
  by_cases h : n ≥ 1
  · simp [h]
  · simp [h]
theorem is_in {n : Int} (h1 : 1 ≤ n) (h2 : n ≤ 3652059) : cal_is.f n = some true := by rw [is_eq]; simp [h1, h2]
theorem is_out {n : Int} (h : ¬ (1 ≤ n ∧ n ≤ 3652059)) : cal_is.f n = some false := by rw [is_eq]; simp [h]
theorem leap_eq (y : Int) (h : 0 ≤ y) : cal_leap.f y = some (decide (lp y = 1)) := by
  unfold cal_leap.f lp
  rw [tm h, tm h, tm h]
  by_cases a : y % 4 = 0
  · by_cases b : y % 100 = 0
    · by_cases c : y % 400 = 0 <;> simp [a, b, c]
    · have c : ¬ y % 400 = 0 := by omega
      simp [a, b, c]
  · have b : ¬ y % 100 = 0 := by omega
    have c : ¬ y % 400 = 0 := by omega
    simp [a, b, c]
theorem length_ev (y m : Int) (hy : 0 ≤ y) (h1 : 1 ≤ m) (h2 : m ≤ 12) : Ev (fun k => cal_length.f k y m) (len y m) := by
  unfold cal_length.f
  by_cases e : m = 2
  · subst e
    simp only [if_true, leap_eq y hy, Option.bind_some]
    refine succ ?_
    have := lp01 y
    by_cases c : lp y = 1
    · simp only [cal_length.j0, c, decide_true, if_true]
      exact konst (by simp [len, c])
    · simp only [cal_length.j0, c, decide_false, if_false, if_true]
      exact konst (by simp [len]; omega)
  · simp only [if_neg e]
    refine succ ?_
    simp only [cal_length.j0, if_neg e, if_neg (show ¬ (false = true) by simp)]
    refine konst ?_
    unfold len
    obtain rfl | rfl | rfl | rfl | rfl | rfl | rfl | rfl | rfl | rfl | rfl : m = 1 ∨ m = 3 ∨ m = 4 ∨ m = 5 ∨ m = 6 ∨ m = 7 ∨ m = 8 ∨ m = 9 ∨ m = 10 ∨ m = 11 ∨ m = 12 := by omega
    all_goals (simp; decide +kernel)
theorem ahead_eq {y : Int} (h1 : 1 ≤ y) (h2 : y ≤ 100000) : cal_ahead.f y = some (ah y) := by
  unfold cal_ahead.f ah
  rw [w64 (x := y - 1) (by omega) (by omega)]
  simp only [td (show 0 ≤ y - 1 by omega)]
  rw [w64 (x := 365 * (y - 1)) (by omega) (by omega), w64 (x := (y - 1) / 4) (by omega) (by omega), w64 (x := (y - 1) / 100) (by omega) (by omega), w64 (x := (y - 1) / 400) (by omega) (by omega), w64 (x := 365 * (y - 1) + _) (by omega) (by omega), w64 (x := _ - (y - 1) / 100) (by omega) (by omega), w64 (by omega) (by omega)]
theorem number_l0 (y M : Int) (hy : 1 ≤ y) (hy2 : y ≤ 9999) (hM : M ≤ 12) : ∀ (t : Nat) (m x : Int), 1 ≤ m → m ≤ M → (M - m).toNat ≤ t → -1000000 ≤ x → x ≤ 4000000 + 31 * m → Ev (fun k => cal_Number.l0 k y M x m) (x - cum y m + cum y M, 0) := by
  intro t
  induction t with
  | zero =>
    intro m x h1 h2 h3 h4 h5
    obtain rfl : m = M := by omega
    refine succ ?_
    simp only [cal_Number.l0, if_neg (show ¬ m < m by omega)]
    exact konst (by simp)
  | succ t ih =>
    intro m x h1 h2 h3 h4 h5
    by_cases e : m < M
    · refine succ ?_
      simp only [cal_Number.l0, if_pos e]
      refine Ev.bind (length_ev y m (by omega) h1 (by omega)) ?_
      have lb := len_bd y m
      simp only [w64 (x := x + len y m) (by omega) (by omega), w64 (x := m + 1) (by omega) (by omega)]
      refine same (ih (m + 1) (x + len y m) (by omega) (by omega) (by omega) (by omega) (by omega)) ?_
      rw [cum_succ y m h1 (by omega)]
      simp only [Prod.mk.injEq, and_true]; omega
    · obtain rfl : m = M := by omega
      refine succ ?_
      simp only [cal_Number.l0, if_neg (show ¬ m < m by omega)]
      exact konst (by simp)
/-- What cal.Number answers. -/
def docNumber (y m d : Int) : Int × Int := if y < 1 ∨ y > 9999 then (0, 1) else if m < 1 ∨ m > 12 ∨ d < 1 ∨ d > len y m then (0, 9) else (ah y + cum y m + d, 0)
theorem number_ev (y m d : Int) : Ev (fun k => cal_Number.f k y m d) (docNumber y m d) := by
  unfold cal_Number.f docNumber
  by_cases a : y < 1
  · simp only [if_pos a, a, true_or, if_true]
    refine succ ?_
    simp only [cal_Number.j0, if_true]
    exact konst rfl
  · simp only [if_neg a]
    refine succ ?_
    by_cases b : y > 9999
    · simp only [cal_Number.j0, b, decide_true, or_true, if_true]
      exact konst rfl
    · simp only [cal_Number.j0, a, b, decide_false, or_false, if_false, if_neg (show ¬ (false = true) by simp)]
      by_cases c : m < 1
      · simp only [c, if_true, true_or]; exact konst rfl
      · by_cases c2 : m > 12
        · simp only [c, c2, if_true, if_false, true_or, false_or]; exact konst rfl
        · by_cases c3 : d < 1
          · simp only [c, c2, c3, if_true, if_false, true_or, false_or]; exact konst rfl
          · simp only [c, c2, c3, if_false, false_or]
            refine Ev.bind (length_ev y m (by omega) (by omega) (by omega)) ?_
            by_cases c4 : d > len y m
            · simp only [c4, if_true]; exact konst rfl
            · have lb := len_bd y m
              have := ah_bd (show 1 ≤ y by omega) (show y ≤ 10000 by omega)
              simp only [c4, if_false, ahead_eq (show 1 ≤ y by omega) (show y ≤ 100000 by omega), Option.bind_some, w64 (x := ah y + d) (by omega) (by omega)]
              refine same (number_l0 y m (by omega) (by omega) (by omega) 12 1 _ (by omega) (by omega) (by omega) (by omega) (by omega)) ?_
              rw [cum1]
              simp only [Prod.mk.injEq, and_true]; omega
theorem civil_l1 (y : Int) (hy : 1 ≤ y) (hy2 : y ≤ 9999) : ∀ (t : Nat) (m x : Int), 1 ≤ m → m ≤ 12 → (12 - m).toNat ≤ t → 1 ≤ x → x + cum y m ≤ cum y 13 → ∃ m' d, Civ (x + cum y m + ah y) y m' d ∧ Ev (fun k => cal_civil.l1 k x y m) (y, m', d) := by
  intro t
  induction t with
  | zero =>
    intro m x h1 h2 h3 h4 h5
    obtain rfl : m = 12 := by omega
    have c := cum_succ y 12 (by omega) (by omega)
    have c13 : cum y (12 + 1) = cum y 13 := rfl
    refine ⟨12, x, ⟨by omega, by omega, by omega, by omega, by omega⟩, succ ?_⟩
    simp only [cal_civil.l1]
    refine Ev.bind (length_ev y 12 (by omega) h1 (by omega)) ?_
    simp only [if_neg (show ¬ x > len y 12 by omega)]
    exact konst rfl
  | succ t ih =>
    intro m x h1 h2 h3 h4 h5
    have lb := len_bd y m
    have c := cum_succ y m h1 h2
    have cb := cum_bd y 13 (by omega) (by omega)
    have cm := cum_bd y m (by omega) (by omega)
    by_cases e : x > len y m
    · by_cases e2 : m = 12
      · exfalso
        subst e2
        have c13 : cum y (12 + 1) = cum y 13 := rfl
        omega
      · obtain ⟨m', d, hc, he⟩ := ih (m + 1) (x - len y m) (by omega) (by omega) (by omega) (by omega) (by omega)
        refine ⟨m', d, by rw [show x + cum y m + ah y = x - len y m + cum y (m + 1) + ah y by omega]; exact hc, succ ?_⟩
        simp only [cal_civil.l1]
        refine Ev.bind (length_ev y m (by omega) h1 (by omega)) ?_
        simp only [if_pos e]
        refine Ev.bind (length_ev y m (by omega) h1 (by omega)) ?_
        simp only [w64 (x := x - len y m) (by omega) (by omega), w64 (x := m + 1) (by omega) (by omega)]
        exact he
    · refine ⟨m, x, ⟨by omega, by omega, by omega, by omega, by omega⟩, succ ?_⟩
      simp only [cal_civil.l1]
      refine Ev.bind (length_ev y m (by omega) h1 (by omega)) ?_
      simp only [if_neg e]
      exact konst rfl
theorem civil_l0 (n : Int) (h1 : 1 ≤ n) (h2 : n ≤ 3652059) : ∀ (t : Nat) (y : Int), 1 ≤ y → y ≤ 9999 → (9999 - y).toNat ≤ t → ah y < n → ∃ y' m' d, Civ n y' m' d ∧ Ev (fun k => cal_civil.l0 k n y) (y', m', d) := by
  have stop : ∀ y : Int, 1 ≤ y → y ≤ 9999 → ah y < n → ¬ ah (y + 1) < n → ∃ y' m' d, Civ n y' m' d ∧ Ev (fun k => cal_civil.l0 k n y) (y', m', d) := by
    intro y hy hy2 ha hs
    have s := ah_succ y
    have ab := ah_bd hy (show y ≤ 10000 by omega)
    have c13 := cum13 y
    have l := lp01 y
    obtain ⟨m', d, hc, he⟩ := civil_l1 y hy hy2 12 1 (n - ah y) (by omega) (by omega) (by omega) (by omega) (by rw [cum1]; omega)
    rw [cum1] at hc
    refine ⟨y, m', d, by rw [show n = n - ah y + 0 + ah y by omega]; exact hc, succ ?_⟩
    simp only [cal_civil.l0, w64 (x := y + 1) (by omega) (by omega), ahead_eq (show 1 ≤ y + 1 by omega) (show y + 1 ≤ 100000 by omega), Option.bind_some, if_neg hs, ahead_eq hy (show y ≤ 100000 by omega), w64 (x := n - ah y) (by omega) (by omega)]
    exact he
  intro t
  induction t with
  | zero =>
    intro y hy hy2 ht ha
    obtain rfl : y = 9999 := by omega
    have : ah (9999 + 1) = 3652059 := by decide
    exact stop 9999 hy hy2 ha (by omega)
  | succ t ih =>
    intro y hy hy2 ht ha
    by_cases hs : ah (y + 1) < n
    · have : y ≠ 9999 := by
        rintro rfl
        have : ah (9999 + 1) = 3652059 := by decide
        omega
      obtain ⟨y', m', d, hc, he⟩ := ih (y + 1) (by omega) (by omega) (by omega) hs
      refine ⟨y', m', d, hc, succ ?_⟩
      simp only [cal_civil.l0, w64 (x := y + 1) (by omega) (by omega), ahead_eq (show 1 ≤ y + 1 by omega) (show y + 1 ≤ 100000 by omega), Option.bind_some, if_pos hs]
      exact he
    · exact stop y hy hy2 ha hs
theorem civil_ev (n : Int) (h1 : 1 ≤ n) (h2 : n ≤ 3652059) : ∃ y m d, Civ n y m d ∧ 1 ≤ y ∧ y ≤ 9999 ∧ Ev (fun k => cal_civil.f k n) (y, m, d) := by
  obtain ⟨y, m, d, hc, he⟩ := civil_l0 n h1 h2 9999 (n / 366 + 1) (by omega) (by omega) (by omega) (by unfold ah; omega)
  have b := hc.bounds h1 h2
  refine ⟨y, m, d, hc, b.1, b.2, ?_⟩
  unfold cal_civil.f
  rw [td (by omega), w64 (x := n / 366) (by omega) (by omega), w64 (x := n / 366 + 1) (by omega) (by omega)]
  exact he
theorem civil_at {n y m d : Int} (hc : Civ n y m d) (h1 : 1 ≤ n) (h2 : n ≤ 3652059) : Ev (fun k => cal_civil.f k n) (y, m, d) := by
  obtain ⟨y', m', d', hc', _, _, he⟩ := civil_ev n h1 h2
  obtain ⟨rfl, rfl, rfl⟩ := hc.uniq hc'
  exact he
theorem awake04 : Ev (fun k => passbooklaw04_awake.f k) true := Ev.of passbooklaw04_awake.mono (k := 60) (by decide +kernel)
theorem civ_ex (n : Int) (h1 : 1 ≤ n) (h2 : n ≤ 3652059) : ∃ y m d, Civ n y m d ∧ 1 ≤ y ∧ y ≤ 9999 := by
  obtain ⟨y, m, d, hc, a, b, _⟩ := civil_ev n h1 h2
  exact ⟨y, m, d, hc, a, b⟩
theorem Civil_at {n y m d : Int} (hc : Civ n y m d) (h1 : 1 ≤ n) (h2 : n ≤ 3652059) : Ev (fun k => cal_Civil.f k n) (y, m, d, 0) := by
  unfold cal_Civil.f
  simp only [is_in h1 h2, Option.bind_some, if_true]
  refine Ev.bind (civil_at hc h1 h2) ?_
  exact konst rfl
theorem Civil_out {n : Int} (h : ¬ (1 ≤ n ∧ n ≤ 3652059)) : Ev (fun k => cal_Civil.f k n) (0, 0, 0, 1) := by
  unfold cal_Civil.f
  simp only [is_out h, Option.bind_some, if_neg (show ¬ (false = true) by simp)]
  exact konst rfl
/-- The day so many months later: M counts the months from year 0 on. -/
def addM (M d : Int) : Int × Int := if M < 12 ∨ M ≥ 120000 then (0, 4) else (ah (M / 12) + cum (M / 12) (M % 12 + 1) + min d (len (M / 12) (M % 12 + 1)), 0)
theorem mn_eq (a b : Int) : mn a b = min a b := by unfold mn; omega
theorem addmonths_ev {n y m d k : Int} (hc : Civ n y m d) (h1 : 1 ≤ n) (h2 : n ≤ 3652059) (hk1 : -9223372036854775808 ≤ k) (hk2 : k ≤ 9223372036854775807) : Ev (fun K => cal_AddMonths.f K n k) (addM (12 * y + m - 1 + k) d) := by
  have b := hc.bounds h1 h2
  have m1 := hc.m1; have m12 := hc.m12; have d1 := hc.d1; have dl := hc.dl
  unfold cal_AddMonths.f
  simp only [is_in h1 h2, Option.bind_some, if_true]
  refine Ev.bind (civil_at hc h1 h2) ?_
  have out : k < -119988 ∨ k > 119988 → Ev (fun K => cal_AddMonths.j0 K k y m d true) (addM (12 * y + m - 1 + k) d) := by
    intro ho
    refine succ ?_
    simp only [cal_AddMonths.j0, if_true]
    refine konst ?_
    unfold addM
    rw [if_pos (by omega)]
  by_cases a : k < -119988
  · simp only [if_pos a]; exact out (.inl a)
  · simp only [if_neg a]
    by_cases c : k > 119988
    · simp only [c, decide_true]; exact out (.inr c)
    · simp only [c, decide_false]
      refine succ ?_
      simp only [cal_AddMonths.j0, if_neg (show ¬ (false = true) by simp), w64 (x := 12 * y) (by omega) (by omega), w64 (x := 12 * y + m) (by omega) (by omega), w64 (x := 12 * y + m - 1) (by omega) (by omega), w64 (x := 12 * y + m - 1 + k) (by omega) (by omega)]
      by_cases e : 12 * y + m - 1 + k < 12
      · simp only [if_pos e]
        refine succ ?_
        simp only [cal_AddMonths.j1, if_true]
        refine konst ?_
        unfold addM
        rw [if_pos (by omega)]
      · simp only [if_neg e, td (show 0 ≤ 12 * y + m - 1 + k by omega), tm (show 0 ≤ 12 * y + m - 1 + k by omega), w64 (x := (12 * y + m - 1 + k) / 12) (by omega) (by omega), w64 (x := (12 * y + m - 1 + k) % 12 + 1) (by omega) (by omega)]
        refine succ ?_
        by_cases f : (12 * y + m - 1 + k) / 12 > 9999
        · simp only [f, decide_true, cal_AddMonths.j1, if_true]
          refine konst ?_
          unfold addM
          rw [if_pos (by omega)]
        · simp only [f, decide_false, cal_AddMonths.j1, if_neg (show ¬ (false = true) by simp)]
          refine Ev.bind (length_ev _ _ (by omega) (by omega) (by omega)) (Ev.bind (number_ev _ _ _) (konst ?_))
          rw [mn_eq]
          have lb := len_bd ((12 * y + m - 1 + k) / 12) ((12 * y + m - 1 + k) % 12 + 1)
          unfold docNumber addM
          rw [if_neg (by omega), if_neg (by omega), if_neg (by omega)]
theorem addmonths_out {n k : Int} (h : ¬ (1 ≤ n ∧ n ≤ 3652059)) : Ev (fun K => cal_AddMonths.f K n k) (0, 1) := by
  unfold cal_AddMonths.f
  simp only [is_out h, Option.bind_some, if_neg (show ¬ (false = true) by simp)]
  exact konst rfl
/-- What cal.Length answers. -/
def docLength (y m : Int) : Int × Int := if y < 1 ∨ y > 9999 ∨ m < 1 ∨ m > 12 then (0, 1) else (len y m, 0)
theorem clength_ev (y m : Int) : Ev (fun k => cal_Length.f k y m) (docLength y m) := by
  unfold cal_Length.f docLength
  by_cases a : y < 1
  · simp only [a, true_or, if_true]; exact konst rfl
  · by_cases b : y > 9999
    · simp only [a, b, true_or, or_true, if_true, if_false]; exact konst rfl
    · by_cases c : m < 1
      · simp only [a, b, c, true_or, or_true, false_or, if_true, if_false]; exact konst rfl
      · by_cases c2 : m > 12
        · simp only [a, b, c, c2, or_true, false_or, if_true, if_false]; exact konst rfl
        · simp only [a, b, c, c2, false_or, if_false]
          exact Ev.bind (length_ev y m (by omega) (by omega) (by omega)) (konst rfl)
/-! ### basis: what its functions answer -/
def chk (how a b : Int) : Int := if how < 0 ∨ how > 3 ∨ a < 1 ∨ a > 3652059 ∨ b < 1 ∨ b > 3652059 then 1 else if a > b then 9 else 0
theorem chk_j0 (a b : Int) (c : Bool) : Ev (fun k => basis_check.j0 k a b c) (if c = true then 1 else if a > b then 9 else 0) := by
  refine succ ?_
  by_cases h : c = true
  · simp only [basis_check.j0, h, if_true]; exact konst rfl
  · by_cases g : a > b
    · simp only [basis_check.j0, h, g, if_true]; exact konst rfl
    · simp only [basis_check.j0, h, g, if_false]; exact konst rfl
theorem chk_ev (how a b : Int) : Ev (fun k => basis_check.f k how a b) (chk how a b) := by
  unfold basis_check.f
  by_cases h1 : how < 0
  · simp only [h1, if_true]; exact same (chk_j0 a b true) (by unfold chk; rw [if_pos rfl, if_pos (by omega)])
  · by_cases h2 : how > 3
    · simp only [h1, h2, if_true, if_false]; exact same (chk_j0 a b true) (by unfold chk; rw [if_pos rfl, if_pos (by omega)])
    · by_cases h3 : a < 1
      · simp only [h1, h2, h3, if_true, if_false]; exact same (chk_j0 a b true) (by unfold chk; rw [if_pos rfl, if_pos (by omega)])
      · by_cases h4 : a > 3652059
        · simp only [h1, h2, h3, h4, if_true, if_false]; exact same (chk_j0 a b true) (by unfold chk; rw [if_pos rfl, if_pos (by omega)])
        · by_cases h5 : b < 1
          · simp only [h1, h2, h3, h4, h5, if_true, if_false]; exact same (chk_j0 a b true) (by unfold chk; rw [if_pos rfl, if_pos (by omega)])
          · simp only [h1, h2, h3, h4, h5, if_false]
            refine same (chk_j0 a b _) ?_
            unfold chk
            by_cases h6 : b > 3652059
            · rw [if_pos (by simp [h6]), if_pos (by omega)]
            · rw [if_neg (show ¬ (decide (b > 3652059) = true) by simp [h6]), if_neg (show ¬ (how < 0 ∨ how > 3 ∨ a < 1 ∨ a > 3652059 ∨ b < 1 ∨ b > 3652059) by omega)]
/-- Days of leap years ahead of day n of year y. -/
def lc (y : Int) : Int := (y - 1) / 4 - (y - 1) / 100 + (y - 1) / 400
def Lv (n y : Int) : Int := 366 * lc y + (if lp y = 1 then n - ah y - 1 else 0)
theorem ah_lc (y : Int) : ah y = 365 * (y - 1) + lc y := by unfold ah lc; omega
theorem lc_succ (y : Int) : lc (y + 1) = lc y + lp y := by
  have := ah_succ y
  rw [ah_lc, ah_lc] at this; omega
theorem lc_mono {a b : Int} (h : a ≤ b) : lc a ≤ lc b ∧ lc b - lc a ≤ b - a := by
  unfold lc; omega
theorem lc_bd {y : Int} (h1 : 1 ≤ y) (h2 : y ≤ 9999) : 0 ≤ lc y ∧ lc y ≤ 3000 := by
  unfold lc; omega
theorem leaps_ev {n y m d : Int} (hc : Civ n y m d) (h1 : 1 ≤ n) (h2 : n ≤ 3652059) : Ev (fun k => basis_leaps.f k n) (Lv n y, y) := by
  have b := hc.bounds h1 h2
  have yr := hc.year
  have s := ah_succ y
  have l := lp01 y
  have lb := lc_bd b.1 b.2
  unfold basis_leaps.f
  refine Ev.bind (Civil_at hc h1 h2) ?_
  simp only
  refine Ev.bind (number_ev y 1 1) (Ev.bind (clength_ev y 2) ?_)
  have e1 : docNumber y 1 1 = (ah y + 1, 0) := by
    have := len_bd y 1
    unfold docNumber
    rw [if_neg (by omega), if_neg (by omega), cum1, Int.add_zero]
  have e2 : docLength y 2 = (28 + lp y, 0) := by
    unfold docLength
    rw [if_neg (by omega)]; simp [len]
  have ab := ah_bd b.1 (show y ≤ 10000 by omega)
  unfold lc at lb
  simp only [e1, e2, w64 (x := y - 1) (by omega) (by omega), td (show 0 ≤ y - 1 by omega), w64 (x := (y - 1) / 4) (by omega) (by omega), w64 (x := (y - 1) / 100) (by omega) (by omega), w64 (x := (y - 1) / 400) (by omega) (by omega), w64 (x := (y - 1) / 4 - (y - 1) / 100) (by omega) (by omega), w64 (x := (y - 1) / 4 - (y - 1) / 100 + (y - 1) / 400) (by omega) (by omega), w64 (x := 366 * ((y - 1) / 4 - (y - 1) / 100 + (y - 1) / 400)) (by omega) (by omega), w64 (x := 366 * ((y - 1) / 4 - (y - 1) / 100 + (y - 1) / 400) + n) (by omega) (by omega), w64 (x := 366 * ((y - 1) / 4 - (y - 1) / 100 + (y - 1) / 400) + n - (ah y + 1)) (by omega) (by omega)]
  unfold Lv lc
  by_cases c : lp y = 1
  · simp only [c, if_true]
    refine konst ?_
    simp; omega
  · simp only [if_neg (show ¬ 28 + lp y = 29 by omega), if_neg c]
    exact konst (by simp)
/-- The days of thirty-day months. -/
def T30 (y m d : Int) : Int := 360 * y + 30 * m + min d 30
theorem mn_min (a b : Int) : mn a b = min a b := by unfold mn; omega
theorem thirty_ev {n y m d n' y' m' d' : Int} (hc : Civ n y m d) (h1 : 1 ≤ n) (h2 : n ≤ 3652059) (hc' : Civ n' y' m' d') (h1' : 1 ≤ n') (h2' : n' ≤ 3652059) : Ev (fun k => basis_thirty.f k n n') (T30 y' m' d' - T30 y m d) := by
  have b := hc.bounds h1 h2
  have b' := hc'.bounds h1' h2'
  have := hc.m1; have := hc.m12; have := hc'.m1; have := hc'.m12
  have := hc.d1; have := hc'.d1; have := hc.dl; have := hc'.dl; have := len_bd y m; have := len_bd y' m'
  unfold basis_thirty.f
  refine Ev.bind (Civil_at hc h1 h2) (Ev.bind (Civil_at hc' h1' h2') ?_)
  simp only [mn_min, w64 (x := y' - y) (by omega) (by omega), w64 (x := m' - m) (by omega) (by omega), w64 (x := 360 * (y' - y)) (by omega) (by omega), w64 (x := 30 * (m' - m)) (by omega) (by omega), w64 (x := 360 * (y' - y) + 30 * (m' - m)) (by omega) (by omega), w64 (x := 360 * (y' - y) + 30 * (m' - m) + min d' 30) (by omega) (by omega), w64 (x := 360 * (y' - y) + 30 * (m' - m) + min d' 30 - min d 30) (by omega) (by omega)]
  refine konst ?_
  unfold T30
  rw [Option.some.injEq]; omega
theorem civ_le {n y m d n' y' m' d' : Int} (hc : Civ n y m d) (hc' : Civ n' y' m' d') (h : n ≤ n') : y < y' ∨ (y = y' ∧ (m < m' ∨ (m = m' ∧ d ≤ d'))) := by
  have a := hc.year
  have b := hc'.year
  rcases Int.lt_trichotomy y y' with c | c | c
  · exact .inl c
  · subst c
    refine .inr ⟨rfl, ?_⟩
    have a := cum_succ y m hc.m1 hc.m12
    have b := cum_succ y m' hc'.m1 hc'.m12
    have := hc.d1; have := hc.dl; have := hc.eq; have := hc'.d1; have := hc'.dl; have := hc'.eq
    rcases Int.lt_trichotomy m m' with c | c | c
    · exact .inl c
    · subst c; exact .inr ⟨rfl, by omega⟩
    · have := cum_mono y (m' + 1) m (by omega); omega
  · have := ah_mono (show y' + 1 ≤ y by omega); omega
theorem T30_mono {n y m d n' y' m' d' : Int} (hc : Civ n y m d) (hc' : Civ n' y' m' d') (h : n ≤ n') : T30 y m d ≤ T30 y' m' d' := by
  have := civ_le hc hc' h
  have := hc.m1; have := hc.m12; have := hc'.m1; have := hc'.m12
  have := hc.d1; have := hc'.d1
  unfold T30; omega
theorem Lv_mono {n y m d n' y' m' d' : Int} (hc : Civ n y m d) (hc' : Civ n' y' m' d') (h : n ≤ n') : Lv n y ≤ Lv n' y' ∧ Lv n' y' - Lv n y ≤ n' - n := by
  have a := hc.year
  have b := hc'.year
  have l := lp01 y
  have l' := lp01 y'
  have s := ah_succ y
  have s' := ah_succ y'
  have e1 := ah_lc y
  have e2 := ah_lc y'
  rcases civ_le hc hc' h with c | ⟨c, _⟩
  · have q := lc_mono (show y + 1 ≤ y' by omega)
    have r := lc_succ y
    have t := ah_mono (show y + 1 ≤ y' by omega)
    unfold Lv
    split <;> split <;> omega
  · subst c
    unfold Lv
    split <;> omega
/-- The part of a year between two days. -/
def part (how a ya ma da b yb mb db : Int) : Int × Int := if how = 0 then (b - a, 360) else if how = 1 then (b - a, 365) else if how = 2 then (T30 yb mb db - T30 ya ma da, 360) else (366 * (b - a) - (Lv b yb - Lv a ya), 133590)
theorem part_ev {how n y m d n' y' m' d' : Int} (hh : 0 ≤ how ∧ how ≤ 3) (hc : Civ n y m d) (h1 : 1 ≤ n) (h2 : n ≤ 3652059) (hc' : Civ n' y' m' d') (h1' : 1 ≤ n') (h2' : n' ≤ 3652059) (hle : n ≤ n') : Ev (fun k => basis_Part.f k how n n') ((part how n y m d n' y' m' d').1, (part how n y m d n' y' m' d').2, 0) := by
  unfold basis_Part.f part
  refine Ev.bind (chk_ev how n n') ?_
  have e : chk how n n' = 0 := by unfold chk; rw [if_neg (by omega), if_neg (by omega)]
  simp only [e, if_true, w64 (x := n' - n) (by omega) (by omega)]
  by_cases c0 : how = 0
  · simp only [c0, if_true]; exact konst rfl
  · by_cases c1 : how = 1
    · simp only [c0, c1, if_true, if_false]; exact konst (by simp)
    · by_cases c2 : how = 2
      · simp only [c0, c1, c2, if_true, if_false]
        exact Ev.bind (thirty_ev hc h1 h2 hc' h1' h2') (konst (by simp))
      · simp only [c0, c1, c2, if_false]
        refine Ev.bind (leaps_ev hc h1 h2) (Ev.bind (leaps_ev hc' h1' h2') ?_)
        have q := Lv_mono hc hc' hle
        simp only [w64 (x := Lv n' y' - Lv n y) (by omega) (by omega), w64 (x := 365 * (Lv n' y' - Lv n y)) (by omega) (by omega), w64 (x := n' - n - (Lv n' y' - Lv n y)) (by omega) (by omega), w64 (x := 366 * (n' - n - (Lv n' y' - Lv n y))) (by omega) (by omega), w64 (x := 365 * (Lv n' y' - Lv n y) + 366 * (n' - n - (Lv n' y' - Lv n y))) (by omega) (by omega)]
        refine konst ?_
        rw [Option.some.injEq, Prod.mk.injEq]
        exact ⟨by omega, rfl⟩
theorem part_out {how n n' : Int} (h : chk how n n' ≠ 0) : Ev (fun k => basis_Part.f k how n n') (0, 0, chk how n n') := by
  unfold basis_Part.f
  refine Ev.bind (chk_ev how n n') ?_
  simp only [if_neg h]
  exact konst rfl
theorem chk_in {how n n' : Int} (h : chk how n n' = 0) : (0 ≤ how ∧ how ≤ 3) ∧ 1 ≤ n ∧ n ≤ 3652059 ∧ 1 ≤ n' ∧ n' ≤ 3652059 ∧ n ≤ n' := by
  unfold chk at h
  split at h
  · omega
  · split at h <;> omega
theorem lp_next {y : Int} (h : lp y = 1) : lp (y + 1) = 0 := by
  unfold lp at *
  split at h
  · rw [if_neg (by omega), if_neg (by omega), if_neg (by omega)]
  · split at h
    · simp at h
    · split at h
      · rw [if_neg (by omega), if_neg (by omega), if_neg (by omega)]
      · simp at h
theorem years_j0 (x : Int) (hx : -9223372036854775808 ≤ x ∧ x ≤ 9223372036854775807) : Ev (fun k => passbooklaw04_BasisYears.j0 k x false) true := by
  refine succ ?_
  simp only [passbooklaw04_BasisYears.j0, if_neg (show ¬ (false = true) by simp), wu64, tm (show 0 ≤ x % 18446744073709551616 by omega)]
  rw [w64 (x := x % 18446744073709551616 % 3651693) (by omega) (by omega), w64 (x := 1 + x % 18446744073709551616 % 3651693) (by omega) (by omega)]
  obtain ⟨n, hn⟩ : ∃ n : Int, n = 1 + x % 18446744073709551616 % 3651693 := ⟨_, rfl⟩
  rw [← hn]
  have h1 : 1 ≤ n := by omega
  have h2 : n ≤ 3651693 := by omega
  obtain ⟨y, m, d, hc, ya, yb⟩ := civ_ex n h1 (by omega)
  have a9 : ah 9999 = 3651694 := by decide
  have y8 : y ≤ 9998 := by
    by_cases c : y = 9999
    · subst c; have := hc.year; omega
    · omega
  have dl := hc.dl; have d1 := hc.d1; have m1 := hc.m1; have m12 := hc.m12
  have lb := len_bd (y + 1) m
  have e : addM (12 * y + m - 1 + 12) d = (ah (y + 1) + cum (y + 1) m + min d (len (y + 1) m), 0) := by
    unfold addM
    rw [if_neg (by omega), show (12 * y + m - 1 + 12) / 12 = y + 1 by omega, show (12 * y + m - 1 + 12) % 12 + 1 = m by omega]
  have hc' : Civ (ah (y + 1) + cum (y + 1) m + min d (len (y + 1) m)) (y + 1) m (min d (len (y + 1) m)) := ⟨m1, m12, by omega, by omega, rfl⟩
  have r := hc'.range (by omega) (by omega)
  have hle : n ≤ ah (y + 1) + cum (y + 1) m + min d (len (y + 1) m) := by
    have := hc.year
    have := hc'.year
    omega
  refine Ev.bind (Civil_at hc h1 (by omega)) (Ev.bind (addmonths_ev (k := 12) hc h1 (by omega) (by omega) (by omega)) ?_)
  rw [e]
  refine Ev.bind (part_ev (how := 2) (by omega) hc h1 (by omega) hc' r.1 r.2 hle) ?_
  have hp : part 2 n y m d (ah (y + 1) + cum (y + 1) m + min d (len (y + 1) m)) (y + 1) m (min d (len (y + 1) m)) = (360 + min (min d (len (y + 1) m)) 30 - min d 30, 360) := by
    unfold part T30
    rw [if_neg (by omega), if_neg (by omega), if_pos rfl, Prod.mk.injEq]
    exact ⟨by omega, rfl⟩
  rw [hp]
  simp only [if_true]
  by_cases c : 360 + min (min d (len (y + 1) m)) 30 - min d 30 = 360
  · simp only [c, if_true]
    exact konst rfl
  · have : m = 2 ∧ d = 29 ∧ len (y + 1) m = 28 := by
      by_cases m2 : m = 2
      · subst m2
        have l := lp01 y
        have l' := lp01 (y + 1)
        have f : len y 2 = 28 + lp y := by simp [len]
        have g : len (y + 1) 2 = 28 + lp (y + 1) := by simp [len]
        have := @lp_next y
        omega
      · have : len (y + 1) m = len y m := by unfold len; rw [if_neg m2, if_neg m2]
        omega
    obtain ⟨q1, q2, q3⟩ := this
    simp only [if_neg c, if_pos q1, if_pos q2]
    refine konst ?_
    rw [q3, q2]; decide
theorem BasisYears : passbooklaw04_BasisYears.Pure := by
  intro x y wx wy
  have wx := wf64 wx
  have wy := wfu16 wy
  refine found ?_
  unfold passbooklaw04_BasisYears.f
  refine Ev.bind awake04 ?_
  simp only [if_true, w64 (x := y) (by omega) (by omega), tm wy.1, w64 (x := 1 + y % 9998) (by omega) (by omega), w64 (x := 1 + y % 9998 + 1) (by omega) (by omega)]
  obtain ⟨z, hz⟩ : ∃ z : Int, z = 1 + y % 9998 := ⟨_, rfl⟩
  rw [← hz]
  have z1 : 1 ≤ z := by omega
  have z2 : z ≤ 9998 := by omega
  have dn : ∀ t : Int, 1 ≤ t → t ≤ 9999 → docNumber t 1 1 = (ah t + 1, 0) := by
    intro t h1 h2
    have := len_bd t 1
    unfold docNumber
    rw [if_neg (by omega), if_neg (by omega), cum1, Int.add_zero]
  have cv : ∀ t : Int, 1 ≤ t → t ≤ 9999 → Civ (ah t + 1) t 1 1 := by
    intro t h1 h2
    have := len_bd t 1
    exact ⟨by omega, by omega, by omega, by omega, by rw [cum1]; omega⟩
  refine Ev.bind (number_ev z 1 1) (Ev.bind (number_ev (z + 1) 1 1) ?_)
  rw [dn z z1 (by omega), dn (z + 1) (by omega) (by omega)]
  have c1 := cv z z1 (by omega)
  have c2 := cv (z + 1) (by omega) (by omega)
  have r1 := c1.range z1 (by omega)
  have r2 := c2.range (by omega) (by omega)
  have s := ah_succ z
  have l := lp01 z
  refine Ev.bind (part_ev (how := 3) (by omega) c1 r1.1 r1.2 c2 r2.1 r2.2 (by omega)) ?_
  have hp : part 3 (ah z + 1) z 1 1 (ah (z + 1) + 1) (z + 1) 1 1 = (133590, 133590) := by
    unfold part
    rw [if_neg (by omega), if_neg (by omega), if_neg (by omega), Prod.mk.injEq]
    refine ⟨?_, rfl⟩
    unfold Lv
    have := lc_succ z
    split <;> split <;> omega
  simp only [hp, if_true, bne_self_eq_false]
  exact years_j0 x wx
end Go.Proofs.Ytemijfjchoimpaa.Pure

/- Proved: every date is a day, every day a date, every month has its length, and there are no others. Conditions: none but that the arguments are values of their Go types. -/
import Derived.Test.YtemijfjchoimpaaPCalNumbersx3
import Derived.Test.YtemijfjchoimpaaEvM
import Derived.Test.YtemijfjchoimpaaCalM
set_option linter.unusedSimpArgs false
set_option linter.unusedVariables false
namespace Go.Proofs.Ytemijfjchoimpaa.Pure
open Go.RowKit Go.Proofs.Ytemijfjchoimpaa.PCalNumbers Go.Proofs.YtemijfjchoimpaaW.PrintWords Go.Proofs.YtemijfjchoimpaaW.PrintLast Go.Proofs.Ytemijfjchoimpaa.EvM Go.Proofs.Ytemijfjchoimpaa.CalM 
/-! ### cal: what its functions answer -/
theorem is_eq (n : Int) : cal_is.f n = some (decide (1 ≤ n ∧ n ≤ 3652059)) := by
  unfold cal_is.f
  by_cases h : n ≥ 1
  · simp [h]
  · simp [h]
theorem is_in {n : Int} (h1 : 1 ≤ n) (h2 : n ≤ 3652059) : cal_is.f n = some true := by rw [is_eq]; simp [h1, h2]
theorem is_out {n : Int} (h : ¬ (1 ≤ n ∧ n ≤ 3652059)) : cal_is.f n = some false := by rw [is_eq]; simp [h]
theorem weekday_in {n : Int} (h1 : 1 ≤ n) (h2 : n ≤ 3652059) : cal_Weekday.f n = some ((n - 1) % 7, 0) := by
  unfold cal_Weekday.f
  rw [is_in h1 h2, Option.bind_some, if_pos rfl, w64 (by omega) (by omega), tm (by omega)]
theorem weekday_out {n : Int} (h : ¬ (1 ≤ n ∧ n ≤ 3652059)) : cal_Weekday.f n = some (0, 1) := by
  unfold cal_Weekday.f
  rw [is_out h, Option.bind_some, if_neg (by simp)]
theorem leap_eq (y : Int) (h : 0 ≤ y) : cal_leap.f y = some (decide (lp y = 1)) := by
  unfold cal_leap.f lp
  rw [tm h, tm h, tm h]
  by_cases a : y % 4 = 0
  · by_cases b : y % 100 = 0
    · by_cases c : y % 400 = 0 <;> simp [a, b, c]
    · have c : ¬ y % 400 = 0 := by omega
      simp [a, b, c]
  · have b : ¬ y % 100 = 0 := by omega
    have c : ¬ y % 400 = 0 := by omega
    simp [a, b, c]
theorem length_ev (y m : Int) (hy : 0 ≤ y) (h1 : 1 ≤ m) (h2 : m ≤ 12) : Ev (fun k => cal_length.f k y m) (len y m) := by
  unfold cal_length.f
  by_cases e : m = 2
  · subst e
    simp only [if_true, leap_eq y hy, Option.bind_some]
    refine succ ?_
    have := lp01 y
    by_cases c : lp y = 1
    · simp only [cal_length.j0, c, decide_true, if_true]
      exact konst (by simp [len, c])
    · simp only [cal_length.j0, c, decide_false, if_false, if_true]
      exact konst (by simp [len]; omega)
  · simp only [if_neg e]
    refine succ ?_
    simp only [cal_length.j0, if_neg e, if_neg (show ¬ (false = true) by simp)]
    refine konst ?_
    unfold len
    obtain rfl | rfl | rfl | rfl | rfl | rfl | rfl | rfl | rfl | rfl | rfl : m = 1 ∨ m = 3 ∨ m = 4 ∨ m = 5 ∨ m = 6 ∨ m = 7 ∨ m = 8 ∨ m = 9 ∨ m = 10 ∨ m = 11 ∨ m = 12 := by omega
    all_goals (simp; decide +kernel)
theorem ahead_eq {y : Int} (h1 : 1 ≤ y) (h2 : y ≤ 100000) : cal_ahead.f y = some (ah y) := by
  unfold cal_ahead.f ah
  rw [w64 (x := y - 1) (by omega) (by omega)]
  simp only [td (show 0 ≤ y - 1 by omega)]
  rw [w64 (x := 365 * (y - 1)) (by omega) (by omega), w64 (x := (y - 1) / 4) (by omega) (by omega), w64 (x := (y - 1) / 100) (by omega) (by omega), w64 (x := (y - 1) / 400) (by omega) (by omega), w64 (x := 365 * (y - 1) + _) (by omega) (by omega), w64 (x := _ - (y - 1) / 100) (by omega) (by omega), w64 (by omega) (by omega)]
theorem number_l0 (y M : Int) (hy : 1 ≤ y) (hy2 : y ≤ 9999) (hM : M ≤ 12) : ∀ (t : Nat) (m x : Int), 1 ≤ m → m ≤ M → (M - m).toNat ≤ t → -1000000 ≤ x → x ≤ 4000000 + 31 * m → Ev (fun k => cal_Number.l0 k y M x m) (x - cum y m + cum y M, 0) := by
  intro t
  induction t with
  | zero =>
    intro m x h1 h2 h3 h4 h5
    obtain rfl : m = M := by omega
    refine succ ?_
    simp only [cal_Number.l0, if_neg (show ¬ m < m by omega)]
    exact konst (by simp)
  | succ t ih =>
    intro m x h1 h2 h3 h4 h5
    by_cases e : m < M
    · refine succ ?_
      simp only [cal_Number.l0, if_pos e]
      refine Ev.bind (length_ev y m (by omega) h1 (by omega)) ?_
      have lb := len_bd y m
      simp only [w64 (x := x + len y m) (by omega) (by omega), w64 (x := m + 1) (by omega) (by omega)]
      refine same (ih (m + 1) (x + len y m) (by omega) (by omega) (by omega) (by omega) (by omega)) ?_
      rw [cum_succ y m h1 (by omega)]
      simp only [Prod.mk.injEq, and_true]; omega
    · obtain rfl : m = M := by omega
      refine succ ?_
      simp only [cal_Number.l0, if_neg (show ¬ m < m by omega)]
      exact konst (by simp)
/-- What cal.Number answers. -/
def docNumber (y m d : Int) : Int × Int := if y < 1 ∨ y > 9999 then (0, 1) else if m < 1 ∨ m > 12 ∨ d < 1 ∨ d > len y m then (0, 9) else (ah y + cum y m + d, 0)
theorem number_ev (y m d : Int) : Ev (fun k => cal_Number.f k y m d) (docNumber y m d) := by
  unfold cal_Number.f docNumber
  by_cases a : y < 1
  · simp only [if_pos a, a, true_or, if_true]
    refine succ ?_
    simp only [cal_Number.j0, if_true]
    exact konst rfl
  · simp only [if_neg a]
    refine succ ?_
    by_cases b : y > 9999
    · simp only [cal_Number.j0, b, decide_true, or_true, if_true]
      exact konst rfl
    · simp only [cal_Number.j0, a, b, decide_false, or_false, if_false, if_neg (show ¬ (false = true) by simp)]
      by_cases c : m < 1
      · simp only [c, if_true, true_or]; exact konst rfl
      · by_cases c2 : m > 12
        · simp only [c, c2, if_true, if_false, true_or, false_or]; exact konst rfl
        · by_cases c3 : d < 1
          · simp only [c, c2, c3, if_true, if_false, true_or, false_or]; exact konst rfl
          · simp only [c, c2, c3, if_false, false_or]
            refine Ev.bind (length_ev y m (by omega) (by omega) (by omega)) ?_
            by_cases c4 : d > len y m
            · simp only [c4, if_true]; exact konst rfl
            · have lb := len_bd y m
              have := ah_bd (show 1 ≤ y by omega) (show y ≤ 10000 by omega)
              simp only [c4, if_false, ahead_eq (show 1 ≤ y by omega) (show y ≤ 100000 by omega), Option.bind_some, w64 (x := ah y + d) (by omega) (by omega)]
              refine same (number_l0 y m (by omega) (by omega) (by omega) 12 1 _ (by omega) (by omega) (by omega) (by omega) (by omega)) ?_
              rw [cum1]
              simp only [Prod.mk.injEq, and_true]; omega
theorem civil_l1 (y : Int) (hy : 1 ≤ y) (hy2 : y ≤ 9999) : ∀ (t : Nat) (m x : Int), 1 ≤ m → m ≤ 12 → (12 - m).toNat ≤ t → 1 ≤ x → x + cum y m ≤ cum y 13 → ∃ m' d, Civ (x + cum y m + ah y) y m' d ∧ Ev (fun k => cal_civil.l1 k x y m) (y, m', d) := by
  intro t
  induction t with
  | zero =>
    intro m x h1 h2 h3 h4 h5
    obtain rfl : m = 12 := by omega
    have c := cum_succ y 12 (by omega) (by omega)
    have c13 : cum y (12 + 1) = cum y 13 := rfl
    refine ⟨12, x, ⟨by omega, by omega, by omega, by omega, by omega⟩, succ ?_⟩
    simp only [cal_civil.l1]
    refine Ev.bind (length_ev y 12 (by omega) h1 (by omega)) ?_
    simp only [if_neg (show ¬ x > len y 12 by omega)]
    exact konst rfl
  | succ t ih =>
    intro m x h1 h2 h3 h4 h5
    have lb := len_bd y m
    have c := cum_succ y m h1 h2
    have cb := cum_bd y 13 (by omega) (by omega)
    have cm := cum_bd y m (by omega) (by omega)
    by_cases e : x > len y m
    · by_cases e2 : m = 12
      · exfalso
        subst e2
        have c13 : cum y (12 + 1) = cum y 13 := rfl
        omega
      · obtain ⟨m', d, hc, he⟩ := ih (m + 1) (x - len y m) (by omega) (by omega) (by omega) (by omega) (by omega)
        refine ⟨m', d, by rw [show x + cum y m + ah y = x - len y m + cum y (m + 1) + ah y by omega]; exact hc, succ ?_⟩
        simp only [cal_civil.l1]
        refine Ev.bind (length_ev y m (by omega) h1 (by omega)) ?_
        simp only [if_pos e]
        refine Ev.bind (length_ev y m (by omega) h1 (by omega)) ?_
        simp only [w64 (x := x - len y m) (by omega) (by omega), w64 (x := m + 1) (by omega) (by omega)]
        exact he
    · refine ⟨m, x, ⟨by omega, by omega, by omega, by omega, by omega⟩, succ ?_⟩
      simp only [cal_civil.l1]
      refine Ev.bind (length_ev y m (by omega) h1 (by omega)) ?_
      simp only [if_neg e]
      exact konst rfl
theorem civil_l0 (n : Int) (h1 : 1 ≤ n) (h2 : n ≤ 3652059) : ∀ (t : Nat) (y : Int), 1 ≤ y → y ≤ 9999 → (9999 - y).toNat ≤ t → ah y < n → ∃ y' m' d, Civ n y' m' d ∧ Ev (fun k => cal_civil.l0 k n y) (y', m', d) := by
  have stop : ∀ y : Int, 1 ≤ y → y ≤ 9999 → ah y < n → ¬ ah (y + 1) < n → ∃ y' m' d, Civ n y' m' d ∧ Ev (fun k => cal_civil.l0 k n y) (y', m', d) := by
    intro y hy hy2 ha hs
    have s := ah_succ y
    have ab := ah_bd hy (show y ≤ 10000 by omega)
    have c13 := cum13 y
    have l := lp01 y
    obtain ⟨m', d, hc, he⟩ := civil_l1 y hy hy2 12 1 (n - ah y) (by omega) (by omega) (by omega) (by omega) (by rw [cum1]; omega)
    rw [cum1] at hc
    refine ⟨y, m', d, by rw [show n = n - ah y + 0 + ah y by omega]; exact hc, succ ?_⟩
    simp only [cal_civil.l0, w64 (x := y + 1) (by omega) (by omega), ahead_eq (show 1 ≤ y + 1 by omega) (show y + 1 ≤ 100000 by omega), Option.bind_some, if_neg hs, ahead_eq hy (show y ≤ 100000 by omega), w64 (x := n - ah y) (by omega) (by omega)]
    exact he
  intro t
  induction t with
  | zero =>
    intro y hy hy2 ht ha
    obtain rfl : y = 9999 := by omega
    have : ah (9999 + 1) = 3652059 := by decide
    exact stop 9999 hy hy2 ha (by omega)
  | succ t ih =>
    intro y hy hy2 ht ha
    by_cases hs : ah (y + 1) < n
    · have : y ≠ 9999 := by
        rintro rfl
        have : ah (9999 + 1) = 3652059 := by decide
        omega
      obtain ⟨y', m', d, hc, he⟩ := ih (y + 1) (by omega) (by omega) (by omega) hs
      refine ⟨y', m', d, hc, succ ?_⟩
      simp only [cal_civil.l0, w64 (x := y + 1) (by omega) (by omega), ahead_eq (show 1 ≤ y + 1 by omega) (show y + 1 ≤ 100000 by omega), Option.bind_some, if_pos hs]
      exact he
    · exact stop y hy hy2 ha hs
theorem civil_ev (n : Int) (h1 : 1 ≤ n) (h2 : n ≤ 3652059) : ∃ y m d, Civ n y m d ∧ 1 ≤ y ∧ y ≤ 9999 ∧ Ev (fun k => cal_civil.f k n) (y, m, d) := by
  obtain ⟨y, m, d, hc, he⟩ := civil_l0 n h1 h2 9999 (n / 366 + 1) (by omega) (by omega) (by omega) (by unfold ah; omega)
  have b := hc.bounds h1 h2
  refine ⟨y, m, d, hc, b.1, b.2, ?_⟩
  unfold cal_civil.f
  rw [td (by omega), w64 (x := n / 366) (by omega) (by omega), w64 (x := n / 366 + 1) (by omega) (by omega)]
  exact he
theorem civil_at {n y m d : Int} (hc : Civ n y m d) (h1 : 1 ≤ n) (h2 : n ≤ 3652059) : Ev (fun k => cal_civil.f k n) (y, m, d) := by
  obtain ⟨y', m', d', hc', _, _, he⟩ := civil_ev n h1 h2
  obtain ⟨rfl, rfl, rfl⟩ := hc.uniq hc'
  exact he
theorem awake03 : Ev (fun k => passbooklaw03_awake.f k) true := Ev.of passbooklaw03_awake.mono (k := 60) (by decide +kernel)
theorem civ_ex (n : Int) (h1 : 1 ≤ n) (h2 : n ≤ 3652059) : ∃ y m d, Civ n y m d ∧ 1 ≤ y ∧ y ≤ 9999 := by
  obtain ⟨y, m, d, hc, a, b, _⟩ := civil_ev n h1 h2
  exact ⟨y, m, d, hc, a, b⟩
theorem Civil_at {n y m d : Int} (hc : Civ n y m d) (h1 : 1 ≤ n) (h2 : n ≤ 3652059) : Ev (fun k => cal_Civil.f k n) (y, m, d, 0) := by
  unfold cal_Civil.f
  simp only [is_in h1 h2, Option.bind_some, if_true]
  refine Ev.bind (civil_at hc h1 h2) ?_
  exact konst rfl
theorem Civil_out {n : Int} (h : ¬ (1 ≤ n ∧ n ≤ 3652059)) : Ev (fun k => cal_Civil.f k n) (0, 0, 0, 1) := by
  unfold cal_Civil.f
  simp only [is_out h, Option.bind_some, if_neg (show ¬ (false = true) by simp)]
  exact konst rfl
theorem MonthEnd_at {n y m d : Int} (hc : Civ n y m d) (h1 : 1 ≤ n) (h2 : n ≤ 3652059) : Ev (fun k => cal_MonthEnd.f k n) ((d == len y m), 0) := by
  have b := hc.bounds h1 h2
  unfold cal_MonthEnd.f
  simp only [is_in h1 h2, Option.bind_some, if_true]
  refine Ev.bind (civil_at hc h1 h2) ?_
  refine Ev.bind (length_ev y m (by omega) hc.m1 hc.m12) ?_
  exact konst rfl
theorem MonthEnd_out {n : Int} (h : ¬ (1 ≤ n ∧ n ≤ 3652059)) : Ev (fun k => cal_MonthEnd.f k n) (false, 1) := by
  unfold cal_MonthEnd.f
  simp only [is_out h, Option.bind_some, if_neg (show ¬ (false = true) by simp)]
  exact konst rfl
/-! ### the reference's calendar -/
theorem ris_eq (n : Int) : passbookref03_Is.f n = some (decide (1 ≤ n ∧ n ≤ 3652059)) := by
  unfold passbookref03_Is.f
  by_cases h : n ≥ 1
  · simp [h]
  · simp [h]
theorem ris_in {n : Int} (h1 : 1 ≤ n) (h2 : n ≤ 3652059) : passbookref03_Is.f n = some true := by rw [ris_eq]; simp [h1, h2]
theorem ris_out {n : Int} (h : ¬ (1 ≤ n ∧ n ≤ 3652059)) : passbookref03_Is.f n = some false := by rw [ris_eq]; simp [h]
theorem rleap_eq (y : Int) (h : 0 ≤ y) : passbookref03_Leap.f y = some (decide (lp y = 1)) := by
  unfold passbookref03_Leap.f lp
  rw [tm h, tm h, tm h]
  by_cases a : y % 4 = 0
  · by_cases b : y % 100 = 0
    · by_cases c : y % 400 = 0 <;> simp [a, b, c]
    · have c : ¬ y % 400 = 0 := by omega
      simp [a, b, c]
  · have b : ¬ y % 100 = 0 := by omega
    have c : ¬ y % 400 = 0 := by omega
    simp [a, b, c]
theorem rlength_ev (y m : Int) (hy : 0 ≤ y) (h1 : 1 ≤ m) (h2 : m ≤ 12) : Ev (fun k => passbookref03_Length.f k y m) (len y m) := by
  unfold passbookref03_Length.f
  by_cases e : m = 2
  · subst e
    simp only [show ¬ (2 : Int) = 4 by omega, show ¬ (2 : Int) = 6 by omega, show ¬ (2 : Int) = 9 by omega, if_false]
    refine succ ?_
    simp only [passbookref03_Length.j0, show ((2 : Int) == 11) = false by decide, rleap_eq y hy, Option.bind_some, if_true, if_neg (show ¬ (false = true) by simp)]
    have := lp01 y
    by_cases c : lp y = 1
    · simp only [c, decide_true, if_true]
      exact konst (by simp [len, c])
    · simp only [c, decide_false]
      exact konst (by simp [len]; omega)
  · obtain rfl | rfl | rfl | rfl | rfl | rfl | rfl | rfl | rfl | rfl | rfl : m = 1 ∨ m = 3 ∨ m = 4 ∨ m = 5 ∨ m = 6 ∨ m = 7 ∨ m = 8 ∨ m = 9 ∨ m = 10 ∨ m = 11 ∨ m = 12 := by omega
    all_goals
      simp
      refine succ ?_
      simp [passbookref03_Length.j0, len]
      exact konst rfl
theorem ryear_eq (y : Int) (h : 0 ≤ y) : passbookref03_Year.f y = some (365 + lp y) := by
  unfold passbookref03_Year.f
  rw [rleap_eq y h, Option.bind_some]
  have := lp01 y
  by_cases c : lp y = 1
  · simp [c]
  · simp [c]; omega
theorem rnumber_l1 (y M d : Int) (hy : 1 ≤ y) (hy2 : y ≤ 9999) (hM : M ≤ 12) (hd1 : 0 ≤ d) (hd2 : d ≤ 31) : ∀ (t : Nat) (m x : Int), 1 ≤ m → m ≤ M → (M - m).toNat ≤ t → 0 ≤ x → x ≤ 4000000 + 31 * m → Ev (fun k => passbookref03_Number.l1 k y M d x m) (x - cum y m + cum y M + d) := by
  intro t
  induction t with
  | zero =>
    intro m x h1 h2 h3 h4 h5
    obtain rfl : m = M := by omega
    refine succ ?_
    simp only [passbookref03_Number.l1, if_neg (show ¬ m < m by omega), w64 (x := x + d) (by omega) (by omega)]
    exact konst (by simp)
  | succ t ih =>
    intro m x h1 h2 h3 h4 h5
    by_cases e : m < M
    · refine succ ?_
      simp only [passbookref03_Number.l1, if_pos e]
      refine Ev.bind (rlength_ev y m (by omega) h1 (by omega)) ?_
      have lb := len_bd y m
      simp only [w64 (x := x + len y m) (by omega) (by omega), w64 (x := m + 1) (by omega) (by omega)]
      refine same (ih (m + 1) (x + len y m) (by omega) (by omega) (by omega) (by omega) (by omega)) ?_
      rw [cum_succ y m h1 (by omega)]; omega
    · obtain rfl : m = M := by omega
      refine succ ?_
      simp only [passbookref03_Number.l1, if_neg (show ¬ m < m by omega), w64 (x := x + d) (by omega) (by omega)]
      exact konst (by simp)
theorem rnumber_l0 (y M d : Int) (hy : 1 ≤ y) (hy2 : y ≤ 9999) (hM1 : 1 ≤ M) (hM : M ≤ 12) (hd1 : 0 ≤ d) (hd2 : d ≤ 31) : ∀ (t : Nat) (z x : Int), 1 ≤ z → z ≤ y → (y - z).toNat ≤ t → x = ah z → Ev (fun k => passbookref03_Number.l0 k y M d x z) (ah y + cum y M + d) := by
  intro t
  induction t with
  | zero =>
    intro z x h1 h2 h3 h4
    obtain rfl : z = y := by omega
    subst h4
    have ab := ah_bd h1 (show z ≤ 10000 by omega)
    refine succ ?_
    simp only [passbookref03_Number.l0, if_neg (show ¬ z < z by omega)]
    refine same (rnumber_l1 z M d hy hy2 hM hd1 hd2 12 1 (ah z) (by omega) (by omega) (by omega) (by omega) (by omega)) ?_
    rw [cum1]; omega
  | succ t ih =>
    intro z x h1 h2 h3 h4
    subst h4
    have ab := ah_bd h1 (show z ≤ 10000 by omega)
    by_cases e : z < y
    · refine succ ?_
      have l := lp01 z
      simp only [passbookref03_Number.l0, if_pos e, ryear_eq z (by omega), Option.bind_some, w64 (x := ah z + (365 + lp z)) (by omega) (by omega), w64 (x := z + 1) (by omega) (by omega)]
      exact ih (z + 1) _ (by omega) (by omega) (by omega) (by rw [ah_succ]; omega)
    · obtain rfl : z = y := by omega
      refine succ ?_
      simp only [passbookref03_Number.l0, if_neg (show ¬ z < z by omega)]
      refine same (rnumber_l1 z M d hy hy2 hM hd1 hd2 12 1 (ah z) (by omega) (by omega) (by omega) (by omega) (by omega)) ?_
      rw [cum1]; omega
theorem rnumber_ev {y m d : Int} (hy : 1 ≤ y) (hy2 : y ≤ 9999) (hM1 : 1 ≤ m) (hM : m ≤ 12) (hd1 : 0 ≤ d) (hd2 : d ≤ 31) : Ev (fun k => passbookref03_Number.f k y m d) (ah y + cum y m + d) := by
  unfold passbookref03_Number.f
  rw [w64 (x := y - 1) (by omega) (by omega), td (by omega), w64 (x := (y - 1) / 400) (by omega) (by omega), w64 (x := 146097 * _) (by omega) (by omega), w64 (x := 400 * _) (by omega) (by omega), w64 (x := 1 + _) (by omega) (by omega)]
  refine rnumber_l0 y m d hy hy2 hM1 hM hd1 hd2 400 _ _ (by omega) (by omega) (by omega) ?_
  unfold ah; omega
theorem rcivil_l1 (y : Int) (hy : 1 ≤ y) (hy2 : y ≤ 9999) : ∀ (t : Nat) (m x : Int), 1 ≤ m → m ≤ 12 → (12 - m).toNat ≤ t → 0 ≤ x → x + cum y m < cum y 13 → ∃ m' d, Civ (x + 1 + cum y m + ah y) y m' d ∧ Ev (fun k => passbookref03_Civil.l1 k x y m) (y, m', d) := by
  intro t
  induction t with
  | zero =>
    intro m x h1 h2 h3 h4 h5
    obtain rfl : m = 12 := by omega
    have c := cum_succ y 12 (by omega) (by omega)
    have cb := cum_bd y 13 (by omega) (by omega)
    have cm := cum_bd y 12 h1 (by omega)
    have c13 : cum y (12 + 1) = cum y 13 := rfl
    refine ⟨12, x + 1, ⟨by omega, by omega, by omega, by omega, by omega⟩, succ ?_⟩
    simp only [passbookref03_Civil.l1]
    refine Ev.bind (rlength_ev y 12 (by omega) h1 (by omega)) ?_
    simp only [if_neg (show ¬ x ≥ len y 12 by omega), w64 (x := x + 1) (by omega) (by omega)]
    exact konst rfl
  | succ t ih =>
    intro m x h1 h2 h3 h4 h5
    have lb := len_bd y m
    have c := cum_succ y m h1 h2
    have cb := cum_bd y 13 (by omega) (by omega)
    have cm := cum_bd y m (by omega) (by omega)
    by_cases e : x ≥ len y m
    · by_cases e2 : m = 12
      · exfalso
        subst e2
        have c13 : cum y (12 + 1) = cum y 13 := rfl
        omega
      · obtain ⟨m', d, hc, he⟩ := ih (m + 1) (x - len y m) (by omega) (by omega) (by omega) (by omega) (by omega)
        refine ⟨m', d, by rw [show x + 1 + cum y m + ah y = x - len y m + 1 + cum y (m + 1) + ah y by omega]; exact hc, succ ?_⟩
        simp only [passbookref03_Civil.l1]
        refine Ev.bind (rlength_ev y m (by omega) h1 (by omega)) ?_
        simp only [if_pos e]
        refine Ev.bind (rlength_ev y m (by omega) h1 (by omega)) ?_
        simp only [w64 (x := x - len y m) (by omega) (by omega), w64 (x := m + 1) (by omega) (by omega)]
        exact he
    · refine ⟨m, x + 1, ⟨by omega, by omega, by omega, by omega, by omega⟩, succ ?_⟩
      simp only [passbookref03_Civil.l1]
      refine Ev.bind (rlength_ev y m (by omega) h1 (by omega)) ?_
      simp only [if_neg e, w64 (x := x + 1) (by omega) (by omega)]
      exact konst rfl
theorem rcivil_l0 (n : Int) (h1 : 1 ≤ n) (h2 : n ≤ 3652059) : ∀ (t : Nat) (y x : Int), 1 ≤ y → y ≤ 9999 → (9999 - y).toNat ≤ t → x = n - 1 - ah y → 0 ≤ x → ∃ y' m' d, Civ n y' m' d ∧ Ev (fun k => passbookref03_Civil.l0 k x y) (y', m', d) := by
  have stop : ∀ y : Int, 1 ≤ y → y ≤ 9999 → 0 ≤ n - 1 - ah y → ¬ n - 1 - ah y ≥ 365 + lp y → ∃ y' m' d, Civ n y' m' d ∧ Ev (fun k => passbookref03_Civil.l0 k (n - 1 - ah y) y) (y', m', d) := by
    intro y hy hy2 ha hs
    have c13 := cum13 y
    have l := lp01 y
    obtain ⟨m', d, hc, he⟩ := rcivil_l1 y hy hy2 12 1 (n - 1 - ah y) (by omega) (by omega) (by omega) (by omega) (by rw [cum1]; omega)
    rw [cum1] at hc
    refine ⟨y, m', d, by rw [show n = n - 1 - ah y + 1 + 0 + ah y by omega]; exact hc, succ ?_⟩
    simp only [passbookref03_Civil.l0, ryear_eq y (by omega), Option.bind_some, if_neg hs]
    exact he
  intro t
  induction t with
  | zero =>
    intro y x hy hy2 ht hx ha
    obtain rfl : y = 9999 := by omega
    subst hx
    have : ah 9999 = 3651694 := by decide
    have := lp01 9999
    exact stop 9999 hy hy2 ha (by omega)
  | succ t ih =>
    intro y x hy hy2 ht hx ha
    subst hx
    have ab := ah_bd hy (show y ≤ 10000 by omega)
    by_cases hs : n - 1 - ah y ≥ 365 + lp y
    · have l := lp01 y
      have : y ≠ 9999 := by
        rintro rfl
        have : ah 9999 = 3651694 := by decide
        omega
      have s := ah_succ y
      obtain ⟨y', m', d, hc, he⟩ := ih (y + 1) (n - 1 - ah (y + 1)) (by omega) (by omega) (by omega) rfl (by omega)
      refine ⟨y', m', d, hc, succ ?_⟩
      simp only [passbookref03_Civil.l0, ryear_eq y (by omega), Option.bind_some, if_pos hs, w64 (x := n - 1 - ah y - (365 + lp y)) (by omega) (by omega), w64 (x := y + 1) (by omega) (by omega)]
      rw [show n - 1 - ah y - (365 + lp y) = n - 1 - ah (y + 1) by omega]
      exact he
    · exact stop y hy hy2 ha hs
theorem rcivil_at {n y m d : Int} (hc : Civ n y m d) (h1 : 1 ≤ n) (h2 : n ≤ 3652059) : Ev (fun k => passbookref03_Civil.f k n) (y, m, d) := by
  have e : ah (1 + 400 * ((n - 1) / 146097)) = 146097 * ((n - 1) / 146097) := by unfold ah; omega
  obtain ⟨y', m', d', hc', he⟩ := rcivil_l0 n h1 h2 9999 (1 + 400 * ((n - 1) / 146097)) ((n - 1) % 146097) (by omega) (by omega) (by omega) (by rw [e]; omega) (by omega)
  obtain ⟨rfl, rfl, rfl⟩ := hc.uniq hc'
  unfold passbookref03_Civil.f
  rw [w64 (x := n - 1) (by omega) (by omega), tm (by omega), td (by omega), w64 (x := (n - 1) / 146097) (by omega) (by omega), w64 (x := 400 * _) (by omega) (by omega), w64 (x := 1 + _) (by omega) (by omega)]
  exact he
theorem dnumber_ev (y m d : Int) : Ev (fun k => passbookref03_DocNumber.f k y m d) (docNumber y m d) := by
  unfold passbookref03_DocNumber.f docNumber
  by_cases a : y < 1
  · simp only [if_pos a, a, true_or, if_true]
    refine succ ?_
    simp only [passbookref03_DocNumber.j0, if_true]
    exact konst rfl
  · simp only [if_neg a]
    refine succ ?_
    by_cases b : y > 9999
    · simp only [passbookref03_DocNumber.j0, b, decide_true, or_true, if_true]
      exact konst rfl
    · simp only [passbookref03_DocNumber.j0, a, b, decide_false, or_false, if_false, if_neg (show ¬ (false = true) by simp)]
      by_cases c : m < 1
      · simp only [c, if_true, true_or]; exact konst rfl
      · by_cases c2 : m > 12
        · simp only [c, c2, if_true, if_false, true_or, false_or]; exact konst rfl
        · by_cases c3 : d < 1
          · simp only [c, c2, c3, if_true, if_false, true_or, false_or]; exact konst rfl
          · simp only [c, c2, c3, if_false, false_or]
            refine Ev.bind (rlength_ev y m (by omega) (by omega) (by omega)) ?_
            by_cases c4 : d > len y m
            · simp only [c4, if_true]; exact konst rfl
            · have lb := len_bd y m
              simp only [c4, if_false]
              refine Ev.bind (rnumber_ev (by omega) (by omega) (by omega) (by omega) (by omega) (by omega)) (konst rfl)
/-- What cal.Length answers. -/
def docLength (y m : Int) : Int × Int := if y < 1 ∨ y > 9999 ∨ m < 1 ∨ m > 12 then (0, 1) else (len y m, 0)
theorem clength_ev (y m : Int) : Ev (fun k => cal_Length.f k y m) (docLength y m) := by
  unfold cal_Length.f docLength
  by_cases a : y < 1
  · simp only [a, true_or, if_true]; exact konst rfl
  · by_cases b : y > 9999
    · simp only [a, b, true_or, or_true, if_true, if_false]; exact konst rfl
    · by_cases c : m < 1
      · simp only [a, b, c, true_or, or_true, false_or, if_true, if_false]; exact konst rfl
      · by_cases c2 : m > 12
        · simp only [a, b, c, c2, or_true, false_or, if_true, if_false]; exact konst rfl
        · simp only [a, b, c, c2, false_or, if_false]
          exact Ev.bind (length_ev y m (by omega) (by omega) (by omega)) (konst rfl)
theorem dlength_ev (y m : Int) : Ev (fun k => passbookref03_DocLength.f k y m) (docLength y m) := by
  unfold passbookref03_DocLength.f docLength
  by_cases a : y < 1
  · simp only [a, true_or, if_true]; exact konst rfl
  · by_cases b : y > 9999
    · simp only [a, b, true_or, or_true, if_true, if_false]; exact konst rfl
    · by_cases c : m < 1
      · simp only [a, b, c, true_or, or_true, false_or, if_true, if_false]; exact konst rfl
      · by_cases c2 : m > 12
        · simp only [a, b, c, c2, or_true, false_or, if_true, if_false]; exact konst rfl
        · simp only [a, b, c, c2, false_or, if_false]
          exact Ev.bind (rlength_ev y m (by omega) (by omega) (by omega)) (konst rfl)
theorem write_out {n : Int} (h : ¬ (1 ≤ n ∧ n ≤ 3652059)) : Ev (fun k => cal_Write.f k n) ((⟨#[]⟩ : ByteArray), 1) := by
  unfold cal_Write.f
  simp only [is_out h, Option.bind_some, if_neg (show ¬ (false = true) by simp)]
  exact konst rfl
theorem CalNumbers : passbooklaw03_CalNumbers.Pure := by
  intro y m d n wy wm wd wn
  have w := wf64 wn
  refine found ?_
  unfold passbooklaw03_CalNumbers.f
  refine Ev.bind (number_ev y m d) (Ev.bind (dnumber_ev y m d) (Ev.bind (clength_ev y m) (Ev.bind (dlength_ev y m) (Ev.bind awake03 ?_))))
  simp only [if_true, bne_self_eq_false]
  refine succ ?_
  simp only [passbooklaw03_CalNumbers.j0, if_neg (show ¬ (false = true) by simp)]
  by_cases h : 1 ≤ n ∧ n ≤ 3652059
  · obtain ⟨y, m, d, hc, a, b⟩ := civ_ex n h.1 h.2
    refine Ev.bind (Civil_at hc h.1 h.2) ?_
    simp only [ris_in h.1 h.2, Option.bind_some, if_true]
    refine Ev.bind (rcivil_at hc h.1 h.2) ?_
    simp only [weekday_in h.1 h.2, Option.bind_some]
    refine Ev.bind (MonthEnd_at hc h.1 h.2) ?_
    simp only [if_true, w64 (x := n + 6) (by omega) (by omega), tm (show 0 ≤ n + 6 by omega), if_pos (show (n - 1) % 7 = (n + 6) % 7 by omega)]
    refine Ev.bind (rlength_ev y m (by omega) hc.m1 hc.m12) (konst ?_)
    simp
  · refine Ev.bind (Civil_out h) ?_
    simp only [ris_out h, Option.bind_some, if_neg (show ¬ (false = true) by simp), weekday_out h]
    refine Ev.bind (MonthEnd_out h) (Ev.bind (write_out h) ?_)
    simp only [if_true]
    exact konst rfl
end Go.Proofs.Ytemijfjchoimpaa.Pure
